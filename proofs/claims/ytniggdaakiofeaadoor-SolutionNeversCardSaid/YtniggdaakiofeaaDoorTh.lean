/- Filter. -/
import Derived.Test.YtniggdaakiofeaaDoorTc
import Derived.Test.YtniggdaakiofeaaDoorSo
namespace Go.Proofs.YtniggdaakiofeaaDoor
open Go Go.RowKit Go.Sort
set_option maxHeartbeats 4000000

theorem flatI' (L : List Int) : flatE elI L = L.map (Value.int .i64) := by
  induction L with
  | nil => rfl
  | cons x L ih => rw [flatE_cons, ih]; rfl
theorem stI_getD {L : List Int} {j : Nat} (hj : j < L.length) : L[j]? = some (L.getD j 0) := by simp [List.getD, hj]
theorem cloneI_any (v : Value) (L : List Int) (w : World) (h : RdI w v L) (hm : L.length ≤ 1000000) :
    Calls Tryd.prog 61 #[v] w fun e w' => ∃ v', e = .returned v' ∧ rowF elI w.heap.size L v' w' ∧ Ext w w' := by
  obtain ⟨A, c, rfl, hc, hA⟩ := h
  by_cases hne : L = []
  · subst hne
    cases A with
    | none =>
      refine (Tryd.slices_Clone_int_nil 0 c w).mono ?_
      rintro e w' ⟨rfl, rfl⟩
      exact ⟨_, rfl, rowF_nil _ _, ext_refl _⟩
    | some a =>
      refine (Tryd.slices_Clone_int_zero a c w).mono ?_
      rintro e w' ⟨v', rfl, h1, h2, h3⟩
      exact ⟨v', rfl, row_base (E := elI) h1 rfl rfl (Nat.le_refl _), h3⟩
  · obtain ⟨b, off, rfl, hb, hcell⟩ := hA hne
    refine (Tryd.slices_Clone_int b off L.length c L w (Nat.le_refl _) (by omega) (fun j hj => hcell j _ (stI_getD hj))).mono ?_
    rintro e w' ⟨v', rfl, h1, h2, h3⟩
    exact ⟨v', rfl, row_base (E := elI) h1 rfl (by rw [List.take_length, flatI']) (Nat.le_refl _), h3⟩
theorem off_cell {fp : Nat → Prop} {w w' : World} (hU : Upd fp w w') (hn : ∀ b, fp b → ∀ o, w.cell? ⟨b, o, none⟩ = none) {b o : Nat} {u : Value} (hb : b < w.heap.size) (h : w.cell? ⟨b, o, none⟩ = some u) : w'.cell? ⟨b, o, none⟩ = some u := (upd_cell hU hb (fun e => by rw [hn b e o] at h; cases h) o).trans h
theorem rdS_off {fp : Nat → Prop} {w w' : World} {v : Value} {L : List ByteArray} (h : RdS w v L) (hU : Upd fp w w') (hn : ∀ b, fp b → ∀ o, w.cell? ⟨b, o, none⟩ = none) : RdS w' v L := by
  obtain ⟨A, c, h1, h2, h3⟩ := h
  refine ⟨A, c, h1, h2, fun hne => ?_⟩
  obtain ⟨b, off, h4, h5, h6⟩ := h3 hne
  exact ⟨b, off, h4, Nat.lt_of_lt_of_le h5 hU.size, fun i x hx => off_cell hU hn h5 (h6 i x hx)⟩
theorem rdI_off {fp : Nat → Prop} {w w' : World} {v : Value} {L : List Int} (h : RdI w v L) (hU : Upd fp w w') (hn : ∀ b, fp b → ∀ o, w.cell? ⟨b, o, none⟩ = none) : RdI w' v L := by
  obtain ⟨A, c, h1, h2, h3⟩ := h
  refine ⟨A, c, h1, h2, fun hne => ?_⟩
  obtain ⟨b, off, h4, h5, h6⟩ := h3 hne
  exact ⟨b, off, h4, Nat.lt_of_lt_of_le h5 hU.size, fun i x hx => off_cell hU hn h5 (h6 i x hx)⟩
theorem rdW_off {fp : Nat → Prop} {w w' : World} {v : Value} {R : List (List Int)} (h : RdW w v R) (hU : Upd fp w w') (hn : ∀ b, fp b → ∀ o, w.cell? ⟨b, o, none⟩ = none) : RdW w' v R := by
  obtain ⟨A, c, h1, h2, h3⟩ := h
  refine ⟨A, c, h1, h2, fun hne => ?_⟩
  obtain ⟨b, off, h4, h5, h6⟩ := h3 hne
  refine ⟨b, off, h4, Nat.lt_of_lt_of_le h5 hU.size, fun i x hx => ?_⟩
  obtain ⟨u, h7, h8⟩ := h6 i x hx
  exact ⟨u, off_cell hU hn h5 h7, rdI_off h8 hU hn⟩
theorem tabV_off {fp : Nat → Prop} {w w' : World} {v : Value} {V : List ByteArray} {R : List (List Int)} (h : TabV w v V R) (hU : Upd fp w w') (hn : ∀ b, fp b → ∀ o, w.cell? ⟨b, o, none⟩ = none) : TabV w' v V R := by
  obtain ⟨vv, rv, h1, h2, h3⟩ := h
  exact ⟨vv, rv, h1, rdS_off h2 hU hn, rdW_off h3 hU hn⟩
def keepN (okf : Nat → Bool) (R : List (List Int)) : Nat → List (List Int)
  | 0 => []
  | j + 1 => if okf j then keepN okf R j ++ [R.getD j []] else keepN okf R j
theorem keepN_len (okf : Nat → Bool) (R : List (List Int)) : ∀ j, (keepN okf R j).length ≤ j
  | 0 => Nat.le_refl _
  | j + 1 => by
    have := keepN_len okf R j
    rw [keepN]
    split
    · simp; omega
    · omega
theorem keepN_yes {okf : Nat → Bool} {R : List (List Int)} {j : Nat} {x : List Int} (hx : R[j]? = some x) (h : okf j = true) : keepN okf R (j + 1) = keepN okf R j ++ [x] := by
  rw [keepN, if_pos h, List.getD_eq_getElem?_getD, hx]; rfl
theorem keepN_no {okf : Nat → Bool} {R : List (List Int)} {j : Nat} (h : okf j = false) : keepN okf R (j + 1) = keepN okf R j := by
  rw [keepN, if_neg (by rw [h]; simp)]
theorem keepN_filter {okf : Nat → Bool} {ok : List Int → Bool} {R : List (List Int)} (h : ∀ i x, R[i]? = some x → okf i = ok x) : ∀ j, j ≤ R.length → keepN okf R j = (R.take j).filter ok
  | 0, _ => by simp [keepN]
  | j + 1, hj => by
    have hx : R[j]? = some R[j] := List.getElem?_eq_getElem (by omega)
    rw [keepN, keepN_filter h j (by omega), h j _ hx, List.take_add_one, hx, Option.toList_some, List.filter_append, List.getD_eq_getElem?_getD, hx]
    simp only [List.filter_cons, List.filter_nil, Option.getD_some]
    split
    · rfl
    · simp
/-- what a condition, which may keep something, answers row by row -/
def CbF (g : Nat) (lb : Array Value) (fp : Nat → Prop) (I : Nat → World → Prop) (okf : Nat → Bool) (tv : Value) (V : List ByteArray) (R : List (List Int)) (w : World) : Prop :=
  ∀ (i : Nat) (x : List Int) (xv : Value) (w1 : World), R[i]? = some x → Upd fp w w1 → TabV w1 tv V R → RdI w1 xv x → I i w1 → Calls Tryd.prog g (#[tv, xv] ++ lb) w1 fun e w2 => e = .returned (.bool (okf i)) ∧ Upd fp w1 w2 ∧ I (i + 1) w2
structure FI (fp : Nat → Prop) (I : World → Prop) (H b0 b1 p : Nat) (ca : Array Value) (VV : List ByteArray) (T : List (List Int)) (w wr : World) : Prop where
  tab : TabB H wr p VV T
  a : wr.heap[b0]? = some (.cells ca 31 (0, 0))
  r : wr.heap[b1]? = some (.cells #[.slice none 0 0, .slice none 0 0] 31 (0, 0))
  size : H ≤ wr.heap.size
  upd : Upd fp w wr
  inv : I wr
theorem tabB_upd {H : Nat} {fp : Nat → Prop} {w w' : World} {p : Nat} {V : List ByteArray} {R : List (List Int)} (h : TabB H w p V R) (hU : Upd fp w w') (hfp : ∀ b, fp b → b < H) (hp : H ≤ p) : TabB H w' p V R := by
  obtain ⟨vv, rv, h1, h2⟩ := h
  exact ⟨vv, rv, (hU.block p (block_lt h1) (fun e => by have := hfp p e; omega)).trans h1, own_upd h2 hU hfp⟩

theorem tabB_more5 {H : Nat} {w w5 : World} {p : Nat} {V : List ByteArray} {R : List (List Int)} {vv rv v5 : Value} {sl : List Sl} {s : Sl} {x : List Int} (hb : w.heap[p]? = some (.cells #[vv, rv] 31 (0, 0))) (k1 : rowF elS H V vv w) (k2 : rowF elW H sl rv w) (k3 : sl.length = R.length) (k4 : ∀ (i : Nat) (s : Sl) (x : List Int), sl[i]? = some s → R[i]? = some x → rowF elI H x (slV s) w)
    (hx : rowF elI H x (slV s) w5) (hU : Upd (fun b => rv.ownBlock = some b) w w5) (h5 : rowF elW H (sl ++ [s]) v5 w5) (hp : H ≤ p) : TabB H (w5.setCell ⟨p, 1, none⟩ v5) p V (R ++ [x]) ∧ Upd (fun b => H ≤ b) w (w5.setCell ⟨p, 1, none⟩ v5) := by
  have hb5 := (hU.block p (block_lt hb) (fun e => rowE_off k2.1 hb (by decide) e)).trans hb
  have hty : ∀ q, rv.ownBlock = some q → ∀ cur t, w.heap[q]? = some (.cells cur t (0, 0)) → t = 41 := fun q hf cur t hbt => by
    obtain ⟨_, cur', hc'⟩ := rowE_block k2.1 hf
    rw [hbt] at hc'
    simp only [Option.some.injEq, Obj.cells.injEq] at hc'
    exact hc'.2.1
  have hU6 : Upd (fun b => b = p) w5 (w5.setCell ⟨p, 1, none⟩ v5) := upd_setCell (a := ⟨p, 1, none⟩) _
  have hoff : ∀ {α : Type} {E : El α} {L : List α} {u : Value}, E.ty ≠ 31 → rowE E w5 u L → rowE E (w5.setCell ⟨p, 1, none⟩ v5) u L := fun {α E L u} ht h => rowE_upd h hU6 (fun b hb' (e : b = p) => rowE_off h hb5 (fun e' => ht e'.symm) (hb'.trans (by rw [e])))
  have hI : ∀ {x : List Int} {u : Value}, rowF elI H x u w → rowF elI H x u w5 := fun {x u} h => ⟨rowE_off_upd h.1 hU (fun q hf cur t hbt => by rw [hty q hf cur t hbt]; decide), h.2⟩
  refine ⟨⟨vv, v5, heap_setCell_at hb5, ⟨hoff (by decide) (rowE_off_upd k1.1 hU (fun q hf cur t hbt => by rw [hty q hf cur t hbt]; decide)), k1.2⟩, sl ++ [s], ⟨hoff (by decide) h5.1, h5.2⟩, by simp [k3], fun i s' x' hs hx' => ?_⟩, upd_trans (upd_mono hU (fun b _ e => k2.2 b e)) hU6 (fun b _ e => by rw [show b = p from e]; exact hp)⟩
  rcases Nat.lt_or_ge i sl.length with hi | hi
  · rw [List.getElem?_append_left hi] at hs
    rw [List.getElem?_append_left (by omega)] at hx'
    have := hI (k4 i s' x' hs hx')
    exact ⟨hoff (by decide) this.1, this.2⟩
  · rw [List.getElem?_append_right hi] at hs
    rw [List.getElem?_append_right (by omega)] at hx'
    have hi0 : i - sl.length = 0 := by
      have := (List.getElem?_eq_some_iff.1 hs).1
      simp at this; omega
    rw [hi0] at hs
    rw [← k3, hi0] at hx'
    simp at hs hx'
    subst hs hx'
    exact ⟨hoff (by decide) hx.1, hx.2⟩
set_option maxRecDepth 100000 in
theorem filter_any (g : Nat) (lb : Array Value) (eg : ∀ args w, (callFunc g args).run Tryd.prog w = .ok (.enter g args) w) (fp : Nat → Prop) (I : Nat → World → Prop) (okf : Nat → Bool) (vv rv : Value) (V : List ByteArray) (R : List (List Int)) (w : World)
    (ht : TabV w (.agg #[vv, rv]) V R) (hnc : ∀ b, fp b → ∀ o, w.cell? ⟨b, o, none⟩ = none) (hfp : ∀ b, fp b → b < w.heap.size) (hI : ∀ i w1 w2, w.heap.size ≤ w1.heap.size → I i w1 → Upd (fun b => w.heap.size ≤ b) w1 w2 → I i w2) (h0 : I 0 w) (hv : V.length ≤ 100000) (hr : R.length ≤ 100000) (hrl : ∀ x ∈ R, x.length ≤ 100000)
    (hcb : CbF g lb fp I okf (.agg #[vv, rv]) V R w) :
    Calls Tryd.prog 27 #[.agg #[vv, rv], .func (.func g) #[] lb] w fun e w' => ∃ vv rv, e = .returned (.agg #[vv, rv]) ∧ Own w.heap.size w' vv rv V (keepN okf R R.length) ∧ Upd fp w w' ∧ I R.length w' := by
  have hkeep := fun w' (hU : Upd fp w w') => tabV_off ht hU hnc
  obtain ⟨a1, a2⟩ := tabV_parts ht
  obtain ⟨A1, c1, rfl⟩ := rdS_form a1
  obtain ⟨A2, c2, rfl⟩ := rdW_form a2
  have HK := Lib.hid hkeep
  have HFP := Lib.hid hfp
  have HI := Lib.hid hI
  have H0 := Lib.hid h0
  have HRL := Lib.hid hrl
  have HCB := Lib.hid hcb
  have HA1 := Lib.hid a1
  have HA2 := Lib.hid a2
  have HNC := Lib.hid hnc
  clear ht a1 a2 hnc hkeep hfp hI h0 hrl hcb
  obtain ⟨g0, g1⟩ := heap_two w (.cells #[.slice A1 V.length c1, .slice A2 R.length c2] 31) (.cells #[.slice none 0 0, .slice none 0 0] 31)
  have G0 := Lib.hid g0
  have G1 := Lib.hid g1
  have HE0 := Lib.hid (ext_alloc (ext_alloc (ext_refl w) (.cells #[.slice A1 V.length c1, .slice A2 R.length c2] 31)) (.cells #[.slice none 0 0, .slice none 0 0] 31))
  clear g0 g1
  go_enter Tryd.func27, Tryd.ntmps27
  go_wp2_with (go_at_call 60; refine (cloneS_any _ V _ (rdS_ext HA1.out HE0.out) (by omega)).mono ?_; rintro e w1 ⟨v1, rfl, hr1, hE1⟩; obtain ⟨A6, c6, rfl⟩ := rowE_form hr1.1; have HR1 := Lib.hid hr1; have HE1 := Lib.hid hE1; have q1 : w1.cell? ⟨w.heap.size, 1, none⟩ = some (.slice A2 R.length c2) := (ext_cell hE1 _ _ (block_lt G0.out)).trans (block_cell G0.out 1); have l0 := ext_lt hE1 (block_lt G0.out); clear hr1 hE1)
  obtain ⟨H, hH⟩ : ∃ H, H = w.heap.size + 2 := ⟨_, rfl⟩
  obtain ⟨b0, hb0⟩ : ∃ b0, b0 = w.heap.size := ⟨_, rfl⟩
  obtain ⟨b1, hb1⟩ : ∃ b1, b1 = w.heap.size + 1 := ⟨_, rfl⟩
  obtain ⟨p, hp⟩ : ∃ p, p = w1.heap.size := ⟨_, rfl⟩
  obtain ⟨W2, hW2⟩ : ∃ W2, W2 = w1.alloc (.cells #[.slice A6 V.length c6, .slice none 0 0] 31) := ⟨_, rfl⟩
  have hs1 := ext_size HE1.out
  simp only [World.size_alloc] at hs1
  have hE2W : Ext w1 W2 := by rw [hW2]; exact ext_alloc (ext_refl _) _
  have hE3 := ext_trans HE1.out hE2W
  have hE4 := ext_trans HE0.out hE3
  have hT : TabB H W2 p V [] := ⟨_, _, by rw [hW2, hp]; exact heap_alloc_new w1 _, rowF_ext _ _ _ hE2W (rowF_low HR1.out (by simp; omega)), [], rowF_nil _ _, rfl, fun i s x hs => by simp at hs⟩
  have HJ := Lib.hid (show FI fp (I 0) H b0 b1 p #[.slice A1 V.length c1, .slice A2 R.length c2] V [] w W2 from ⟨hT, by rw [hb0]; exact (ext_block hE3 (block_lt G0.out)).trans G0.out, by rw [hb1]; exact (ext_block hE3 (block_lt G1.out)).trans G1.out, by have := ext_size hE2W; omega, upd_of_ext hE4, HI.out 0 w W2 (Nat.le_refl _) H0.out (upd_of_ext hE4)⟩)
  have HBD := Lib.hid (show b0 < H ∧ b1 < H ∧ w.heap.size ≤ H ∧ w.heap.size ≤ b0 ∧ w.heap.size ≤ b1 by omega)
  have HPH := Lib.hid (show H ≤ p by omega)
  rw [← hW2, ← hp, ← hb1, ← hb0]
  clear q1 l0 hT hE3 hE4 hE2W hs1 hW2 hp hb0 hb1 hH HR1 HE0 HE1 G0 G1
  go_loopw [15] (fun x wr => ∃ j : Nat, j ≤ R.length ∧ x = .int .i64 j ∧ FI fp (I j) H b0 b1 p #[.slice A1 V.length c1, .slice A2 R.length c2] V (keepN okf R j) w wr) (fun x _ => R.length - (intOf x).toNat)
  case atStart => exact ⟨0, Nat.zero_le _, rfl, HJ.out⟩
  case round =>
    rename World => wo
    obtain ⟨j, hj, rfl, hJ⟩ := hrel
    have HJ2 := Lib.hid hJ
    clear hJ HJ
    by_cases hlt : j < R.length
    · have hji : (j : Int) < (R.length : Int) := by omega
      have hj0 : (0 : Int) ≤ (j : Int) := by omega
      obtain ⟨x, hx⟩ : ∃ x, R[j]? = some x := ⟨_, List.getElem?_eq_getElem hlt⟩
      have HX := Lib.hid hx
      have HXL := Lib.hid (HRL.out x (List.mem_of_getElem? hx))
      have htb := HK.out wo HJ2.out.upd
      obtain ⟨b, o, X, d, rfl, hb, hc, hri0⟩ := rdW_at HA2.out hx
      have hc := off_cell HJ2.out.upd HNC.out hb hc
      have hb := Nat.lt_of_lt_of_le hb HJ2.out.upd.size
      have hri := rdI_off hri0 HJ2.out.upd HNC.out
      have HRI := Lib.hid hri0
      have CB := Lib.hid (HCB.out j x (.slice X x.length d) wo hx HJ2.out.upd htb hri HJ2.out.inv)
      obtain ⟨T, hT⟩ : ∃ T, T = keepN okf R j := ⟨_, rfl⟩
      have hTl : T.length ≤ 100000 := by rw [hT]; have := keepN_len okf R j; omega
      rw [← hT] at HJ2
      have HT := Lib.hid hT
      obtain ⟨okv, hokv⟩ : ∃ okv, okv = okf j := ⟨_, rfl⟩
      rw [← hokv] at CB
      have HOV := Lib.hid hokv
      have q0 : wo.cell? ⟨b0, 0, none⟩ = some (.slice A1 V.length c1) := block_cell HJ2.out.a 0
      have q1 : wo.cell? ⟨b0, 1, none⟩ = some (.slice (some ⟨b, o, none⟩) R.length c2) := block_cell HJ2.out.a 1
      have l0 := block_lt HJ2.out.a
      clear hx hri htb hT hokv hri0
      cases okv
      · go_wp2_with (go_at_fn g; refine CB.out.mono ?_; rintro e w1 ⟨rfl, hU1, hI1⟩; have HU1 := Lib.hid hU1; have HI1 := Lib.hid hI1; clear hU1 hI1)
        have hlo : ∀ q, w.heap.size ≤ q → ¬ fp q := fun q hq e => by have := HFP.out q e; omega
        have hbd := HBD.out
        have HJ4 := Lib.hid (show FI fp (I (j + 1)) H b0 b1 p #[.slice A1 V.length c1, .slice (some ⟨b, o, none⟩) R.length c2] V T w w1 from ⟨tabB_upd HJ2.out.tab HU1.out (fun q hq => by have := HFP.out q hq; omega) HPH.out, (HU1.out.block b0 (block_lt HJ2.out.a) (hlo _ hbd.2.2.2.1)).trans HJ2.out.a, (HU1.out.block b1 (block_lt HJ2.out.r) (hlo _ hbd.2.2.2.2)).trans HJ2.out.r, Nat.le_trans HJ2.out.size HU1.out.size, upd_trans HJ2.out.upd HU1.out (fun _ _ h => h), HI1.out⟩)
        go_roundw
        case rel => exact ⟨j + 1, by omega, by go_num, by rw [keepN_no HOV.out.symm, ← HT.out]; exact HJ4.out⟩
        case measure => simp [intOf]; omega
      · go_wp2_with (go_at_fn g; refine CB.out.mono ?_; rintro e w1 ⟨rfl, hU1, hI1⟩; have HU1 := Lib.hid hU1; have HI1 := Lib.hid hI1; clear hU1 hI1)
        have hlo : ∀ q, w.heap.size ≤ q → ¬ fp q := fun q hq e => by have := HFP.out q e; omega
        have hbd := HBD.out
        have HJ4 := Lib.hid (show FI fp (I (j + 1)) H b0 b1 p #[.slice A1 V.length c1, .slice (some ⟨b, o, none⟩) R.length c2] V T w w1 from ⟨tabB_upd HJ2.out.tab HU1.out (fun q hq => by have := HFP.out q hq; omega) HPH.out, (HU1.out.block b0 (block_lt HJ2.out.a) (hlo _ hbd.2.2.2.1)).trans HJ2.out.a, (HU1.out.block b1 (block_lt HJ2.out.r) (hlo _ hbd.2.2.2.2)).trans HJ2.out.r, Nat.le_trans HJ2.out.size HU1.out.size, upd_trans HJ2.out.upd HU1.out (fun _ _ h => h), HI1.out⟩)
        clear hlo q0 q1 l0 hb hc
        obtain ⟨vv, rv, t1, t2⟩ := HJ4.out.tab
        obtain ⟨k1, sl, k2, k3, k4⟩ := t2
        obtain ⟨A8, c8, hrv⟩ := rowE_form k2.1
        subst hrv
        have hpp : ¬ (Value.slice A8 sl.length c8).ownBlock = some p := fun e => rowE_off k2.1 t1 (by decide) e
        have u0 : ∀ pw : UW (fun q => (Value.slice A8 sl.length c8).ownBlock = some q) w1, pw.val.cell? ⟨p, 1, none⟩ = some (.slice A8 sl.length c8) := uw_cell (block_cell t1 1) (block_lt t1) hpp
        have hll : sl.length ≤ 100000 := by rw [k3]; exact hTl
        have T1 := Lib.hid t1
        have K1 := Lib.hid k1
        have K2 := Lib.hid k2
        have K3 := Lib.hid k3
        have K4 := Lib.hid k4
        have HPP := Lib.hid hpp
        have HRW := Lib.hid (rdI_off HRI.out HJ4.out.upd HNC.out)
        clear t1 k1 k2 k3 k4 hpp
        refine wp_region_upd (fp := fun q => (Value.slice A8 sl.length c8).ownBlock = some q) [] [0, 1, 2] [(3, rowF elI H x), (4, fun v w' => ∃ s, oneF elW 0 s v w' ∧ rowF elI H x (slV s) w')] 5 (fun v w' => ∃ s, rowF elW H (sl ++ [s]) v w' ∧ rowF elI H x (slV s) w') [6, 7] [3, 4, 5] rfl (by kernel_rfl) (by kernel_rfl) (by kernel_rfl) (fun _ _ d _ _ h => by cases d <;> exact h) ?_
        refine wpPre_nil ?_
        repeat (refine wpU_step rfl (fun K hK => ?_); (try simp only [Oper.quietAt, Oper.quietUpon]); go_simp; (refine hK _ ?_; clear hK K))
        refine wpU_nil ?_
        refine wpGen_step rfl rfl rowF_ext (fun w6 hE6 hS6 => ?_) (fun v1 => ?_)
        · simp only [runsAt]
          go_simp
          refine (cloneI_any _ x w6 (rdI_ext HRW.out hE6) (by have := HXL.out; omega)).mono ?_
          rintro e w7 ⟨v', rfl, h3, h4⟩
          exact ⟨_, rfl, h4, rowF_low h3 (Nat.le_trans HJ4.out.size (ext_size hE6))⟩
        refine wpGen_step rfl rfl (fun v a b hE ⟨s, h1, h2⟩ => ⟨s, oneF_ext _ _ _ hE h1, rowF_ext _ _ _ hE h2⟩) (fun w6 hE6 hS6 => ?_) (fun v2 => ?_)
        · have hr6 : rowF elI H x v1 w6 := hS6 _ (List.mem_cons_self ..) (by kernel_rfl)
          obtain ⟨B9, d9, rfl⟩ := rowE_form hr6.1
          simp only [runsAt]
          go_simp
          exact ⟨ext_alloc (ext_refl _) _, B9, x.length, d9, ⟨_, rfl, Nat.zero_le _, heap_alloc_new w6 _⟩, rowF_ext _ _ _ (ext_alloc (ext_refl _) _) hr6⟩
        refine wpGen_nil ?_
        have hty : ∀ w6 : World, Ext w1 w6 → ∀ q, (Value.slice A8 sl.length c8).ownBlock = some q → ∀ cur t, w6.heap[q]? = some (.cells cur t (0, 0)) → t = 41 := fun w6 hE6 q hf cur t hbt => by
          obtain ⟨_, cur', hc'⟩ := rowE_block (rowE_ext K2.out.1 hE6) hf
          rw [hbt] at hc'
          simp only [Option.some.injEq, Obj.cells.injEq] at hc'
          exact hc'.2.1
        refine ⟨⟨_, rfl, rfl, fun v a b hE ⟨s, h1, h2⟩ => ⟨s, rowF_ext _ _ _ hE h1, rowF_ext _ _ _ hE h2⟩⟩, fun w6 hE6 hS6 o ho => ?_, fun o ho v w6 hU6 hR6 => ?_⟩
        · cases ho
          obtain ⟨s, h1, h2⟩ : ∃ s, oneF elW 0 s v2 w6 ∧ rowF elI H x (slV s) w6 := hS6 _ (List.mem_cons_self ..)
          refine runs_append (sv := .slice A8 sl.length c8) (xv := v2) (.tmp 24) (.tmp 27) rfl rfl rfl ?_
          obtain ⟨v', w', hrun, hr, hg⟩ := append_onto tpW 29 H _ v2 sl [s] w6 (rowF_ext _ _ _ hE6 K2.out) (srcOf_one h1) (by simp; omega) (Nat.le_trans HJ4.out.size (ext_size hE6))
          exact ⟨v', w', hrun, upd_grown hg, s, hr, rowE_off_upd h2.1 (upd_grown hg) (fun q hf cur t hbt => by rw [hty w6 hE6 q hf cur t hbt]; decide), h2.2⟩
        · cases ho
          obtain ⟨s, h1, h2⟩ := hR6
          have hb6 := (hU6.block p (block_lt T1.out) HPP.out).trans T1.out
          have qf := block_frozen hb6 1
          have qc : w6.cell? ⟨p, 1, none⟩ = some (.slice A8 sl.length c8) := block_cell hb6 1
          have lp := block_lt hb6
          obtain ⟨hT6, hU7⟩ := tabB_more5 T1.out K1.out K2.out K3.out K4.out h2 hU6 h1 HPH.out
          have hwH := HBD.out
          have hI6 := HI.out (j + 1) w1 _ (Nat.le_trans hwH.2.2.1 HJ4.out.size) HJ4.out.inv (upd_mono hU7 (fun q _ hq => Nat.le_trans hwH.2.2.1 hq))
          have HJ5 := Lib.hid (show FI fp (I (j + 1)) H b0 b1 p #[.slice A1 V.length c1, .slice (some ⟨b, o, none⟩) R.length c2] V (T ++ [x]) w (w6.setCell ⟨p, 1, none⟩ v) from ⟨hT6, (hU7.block b0 (block_lt HJ4.out.a) (by omega)).trans HJ4.out.a, (hU7.block b1 (block_lt HJ4.out.r) (by omega)).trans HJ4.out.r, Nat.le_trans HJ4.out.size hU7.size, upd_trans HJ4.out.upd hU7 (fun q hq hq2 => by omega), hI6⟩)
          obtain ⟨A5, c5, rfl⟩ := rowE_form h1.1
          obtain ⟨n5, hn5⟩ : ∃ n5, n5 = (sl ++ [s]).length := ⟨_, rfl⟩
          rw [← hn5] at HJ5 ⊢
          clear hT6 hU7 hI6 hwH h1 h2 hb6 hn5 u0 hty hU6
          refine wpSeq_of_list [6, 7] [_, _] _ _ rfl ?_
          go_wp2
          go_roundw
          case rel => exact ⟨j + 1, by omega, by go_num, by rw [keepN_yes HX.out HOV.out.symm, ← HT.out]; exact HJ5.out⟩
          case measure => simp [intOf]; omega
    · obtain rfl : j = R.length := by omega
      obtain ⟨N, hN⟩ : ∃ N, N = keepN okf R R.length := ⟨_, rfl⟩
      rw [← hN] at HJ2
      obtain ⟨vv, rv, hp, how⟩ := HJ2.out.tab
      obtain ⟨A7, c7, rfl⟩ := rdS_form (rdS_row how.1.1)
      obtain ⟨A8, c8, rfl⟩ := rdW_form (own_rdW how)
      have q0 : wo.cell? ⟨p, 0, none⟩ = some (.slice A7 V.length c7) := block_cell hp 0
      have q1 : wo.cell? ⟨p, 1, none⟩ = some (.slice A8 N.length c8) := block_cell hp 1
      have lp := block_lt hp
      have r0 : wo.cell? ⟨b1, 0, none⟩ = some (.slice none 0 0) := block_cell HJ2.out.r 0
      have r1 : wo.cell? ⟨b1, 1, none⟩ = some (.slice none 0 0) := block_cell HJ2.out.r 1
      have s0 : wo.frozen? ⟨b1, 0, none⟩ = false := block_frozen HJ2.out.r 0
      have s1 : wo.frozen? ⟨b1, 1, none⟩ = false := block_frozen HJ2.out.r 1
      have l1 := block_lt HJ2.out.r
      have HOW := Lib.hid how
      have HN := Lib.hid hN
      clear hp how hN
      go_wp2
      obtain ⟨wf, hwf⟩ : ∃ wf, wf = (wo.setCell ⟨b1, 0, none⟩ (.slice A7 V.length c7)).setCell ⟨b1, 1, none⟩ (.slice A8 N.length c8) := ⟨_, rfl⟩
      have hbf : wf.heap[b1]? = some (.cells #[.slice A7 V.length c7, .slice A8 N.length c8] 31 (0, 0)) := by
        have := heap_setCell_at (j := 1) (u := .slice A8 N.length c8) (heap_setCell_at (j := 0) (u := .slice A7 V.length c7) HJ2.out.r)
        rw [hwf]
        exact this
      have hUf : Upd (fun q => q = b1) wo wf := by
        rw [hwf]
        exact upd_trans (fp := fun q => q = b1) (upd_setCell (a := ⟨b1, 0, none⟩) _) (upd_setCell (a := ⟨b1, 1, none⟩) _) (fun _ _ h => h)
      have hbd := HBD.out
      have hI := HI.out R.length wo wf (Nat.le_trans hbd.2.2.1 HJ2.out.size) HJ2.out.inv (upd_mono hUf (fun q _ e => by rw [show q = b1 from e]; omega))
      have t0 : wf.cell? ⟨b1, 0, none⟩ = some (.slice A7 V.length c7) := block_cell hbf 0
      have t1 : wf.cell? ⟨b1, 1, none⟩ = some (.slice A8 N.length c8) := block_cell hbf 1
      rw [← hwf]
      refine bodyPost_ret (v := .agg #[.slice A7 V.length c7, .slice A8 N.length c8]) (by simp [results, Tryd.results27, go_sem, t0, t1]) rfl ?_
      rw [← HN.out]
      exact ⟨_, _, rfl, own_low (own_upd HOW.out hUf (fun q e => by rw [show q = b1 from e]; omega)) hbd.2.2.1, upd_trans HJ2.out.upd hUf (fun q hq e => by have : q = b1 := e; omega), hI⟩
/-- what a condition answers that keeps nothing -/
def CbP (g : Nat) (lb : Array Value) (tv : Value) (V : List ByteArray) (R : List (List Int)) (ok : List Int → Bool) (w : World) : Prop :=
  ∀ (x : List Int) (xv : Value) (w1 : World), x ∈ R → Ext w w1 → TabV w1 tv V R → RdI w1 xv x → Calls Tryd.prog g (#[tv, xv] ++ lb) w1 fun e w2 => e = .returned (.bool (ok x)) ∧ Ext w1 w2
theorem filter_pure (g : Nat) (lb : Array Value) (eg : ∀ args w, (callFunc g args).run Tryd.prog w = .ok (.enter g args) w) (ok : List Int → Bool) (vv rv : Value) (V : List ByteArray) (R : List (List Int)) (w : World) (ht : TabV w (.agg #[vv, rv]) V R) (hv : V.length ≤ 100000) (hr : R.length ≤ 100000) (hrl : ∀ x ∈ R, x.length ≤ 100000) (hcb : CbP g lb (.agg #[vv, rv]) V R ok w) :
    Calls Tryd.prog 27 #[.agg #[vv, rv], .func (.func g) #[] lb] w fun e w' => ∃ vv rv, e = .returned (.agg #[vv, rv]) ∧ Own w.heap.size w' vv rv V (R.filter ok) ∧ Ext w w' := by
  refine (filter_any g lb eg (fun _ => False) (fun _ _ => True) (fun i => ok (R.getD i [])) vv rv V R w ht (fun _ h => h.elim) (fun _ h => h.elim) (fun _ _ _ _ _ _ => trivial) trivial hv hr hrl (fun i x xv w1 hx hU htv hri _ => ?_)).mono ?_
  · have e : R.getD i [] = x := by rw [List.getD_eq_getElem?_getD, hx]; rfl
    exact (hcb x xv w1 (List.mem_of_getElem? hx) (ext_of_upd hU) htv hri).mono fun e' w2 h => ⟨by rw [h.1]; simp only [e], upd_of_ext h.2, trivial⟩
  · rintro e w' ⟨vv', rv', he, how, hU, _⟩
    refine ⟨vv', rv', he, ?_, ext_of_upd hU⟩
    rw [keepN_filter (ok := ok) (fun i x hx => by rw [List.getD_eq_getElem?_getD, hx]; rfl) R.length (Nat.le_refl _), List.take_length] at how
    exact how
theorem eg63 (args : Array Value) (w : World) : (callFunc 63 args).run Tryd.prog w = .ok (.enter 63 args) w := enter_fn Tryd.func63 (by kernel_rfl) rfl args w
theorem all_any (tv xv : Value) (V : List ByteArray) (R : List (List Int)) (w : World) (ht : TabV w tv V R) : Calls Tryd.prog 63 #[tv, xv] w fun e w' => e = .returned (.bool true) ∧ Ext w w' := by
  obtain ⟨vv, rv, rfl, -, -⟩ := ht
  go_enter Tryd.func63, Tryd.ntmps63
  go_wp2
  refine bodyPost_ret (results_tmp rfl _ _ _) rfl ?_
  exact ⟨rfl, ext_alloc (ext_refl _) _⟩
theorem filter_all (vv rv : Value) (V : List ByteArray) (R : List (List Int)) (w : World) (ht : TabV w (.agg #[vv, rv]) V R) (hv : V.length ≤ 100000) (hr : R.length ≤ 100000) (hrl : ∀ x ∈ R, x.length ≤ 100000) :
    Calls Tryd.prog 27 #[.agg #[vv, rv], .func (.func 63) #[] #[]] w fun e w' => ∃ vv rv, e = .returned (.agg #[vv, rv]) ∧ Own w.heap.size w' vv rv V R ∧ Ext w w' := by
  refine (filter_pure 63 #[] eg63 (fun _ => true) vv rv V R w ht hv hr hrl (fun x xv w1 _ _ h _ => all_any _ xv V R w1 h)).mono ?_
  rintro e w' ⟨vv', rv', he, how, hE⟩
  exact ⟨vv', rv', he, by rw [List.filter_eq_self.2 (fun _ _ => rfl)] at how; exact how, hE⟩
end Go.Proofs.YtniggdaakiofeaaDoor
