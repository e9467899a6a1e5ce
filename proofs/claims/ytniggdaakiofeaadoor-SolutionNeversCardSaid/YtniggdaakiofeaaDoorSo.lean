/- Build. -/
import Derived.Laws.BytesArg
import Derived.Test.YtniggdaakiofeaaDoorSn
import Derived.Test.YtniggdaakiofeaaDoorTc
namespace Go.Proofs.YtniggdaakiofeaaDoor
open Go Go.RowKit Go.Sort
set_option maxHeartbeats 4000000

def nameB (x : Nat) : ByteArray := ⟨#[UInt8.ofNat (97 + x % 5)]⟩
def namesOf (xs : List Nat) : List ByteArray := (xs.take 5).map nameB
def realOf (r : List Nat) : List Int := r.map fun (n : Nat) => (n : Int) % 4 - 1
def docRow (L : List ByteArray) (r : List Nat) : List VarN := buildR L (realOf r) r.length
def strB (m : Nat) : ByteArray := ⟨#[UInt8.ofNat m]⟩
theorem conv_byte (w : World) (m : Int) (k : Nat) (hm : m = (k : Int)) : Sem.run Tryd.prog (convert 22 9 (.slice (some ⟨w.heap.size, 0, none⟩) 1 1)) (w.alloc (.cells #[.int .u8 m] 5)) = .ok (.string (strB k)) (w.alloc (.cells #[.int .u8 m] 5)) := by
  have := run_convert_bytes_arg (P := Tryd.prog) (w.alloc (.cells #[.int .u8 m] 5)) 22 5 Tryd.underlying22 Tryd.underlying5 w.heap.size 0 1 1 [m] rfl (fun i hi => by
    obtain rfl : i = 0 := by omega
    exact block_cell (heap_alloc_new w _) 0) 9 Tryd.underlying9
  have e : strOfNums [m] = strB k := by
    subst hm
    simp [strOfNums, strB]
  rw [this, e]
theorem names_in {xs : List Nat} {j x : Nat} (hx : xs[j]? = some x) (hj : j < 5) : ((xs.take (j + 1)).take 5).map nameB = ((xs.take j).take 5).map nameB ++ [nameB x] := by
  rw [List.take_take, List.take_take, Nat.min_eq_right (by omega), Nat.min_eq_right (by omega), List.take_add_one, hx]
  simp
theorem names_out {xs : List Nat} {j : Nat} (hj : ¬ j < 5) : ((xs.take (j + 1)).take 5).map nameB = ((xs.take j).take 5).map nameB := by
  rw [List.take_take, List.take_take, Nat.min_eq_left (by omega), Nat.min_eq_left (by omega)]
theorem own_off {H : Nat} {fp : Nat → Prop} {w w' : World} {vv rv : Value} {V : List ByteArray} {R : List (List Int)} (h : Own H w vv rv V R) (hU : Upd fp w w') (hf : ∀ b, fp b → ∀ cur t, w.heap[b]? = some (.cells cur t (0, 0)) → t ≠ 9 ∧ t ≠ 41 ∧ t ≠ 3) : Own H w' vv rv V R := by
  obtain ⟨h1, sl, h2, h3, h4⟩ := h
  exact ⟨⟨rowE_off_upd h1.1 hU (fun b hb cur t ht => (hf b hb cur t ht).1), h1.2⟩, sl, ⟨rowE_off_upd h2.1 hU (fun b hb cur t ht => (hf b hb cur t ht).2.1), h2.2⟩, h3, fun i s x hs hx => ⟨rowE_off_upd (h4 i s x hs hx).1 hU (fun b hb cur t ht => (hf b hb cur t ht).2.2), (h4 i s x hs hx).2⟩⟩
theorem tDB_off {ok : Nat → Prop} {fp : Nat → Prop} {w w' : World} {p : Nat} {V : List ByteArray} {R : List (List VarN)} (h : TDB ok w p V R) (hU : Upd fp w w') (hf : ∀ b, fp b → ∀ cur t, w.heap[b]? = some (.cells cur t (0, 0)) → t ≠ 9 ∧ t ≠ 52 ∧ t ≠ 81 ∧ t ≠ 34) : TDB ok w' p V R := by
  obtain ⟨vv, rv, sl, h1, h2, h3, h4⟩ := h
  exact ⟨vv, rv, sl, (hU.block p (block_lt h1) (fun hp => (hf p hp _ _ h1).2.2.2 rfl)).trans h1, rowE_off_upd h2 hU (fun b hb cur t ht => (hf b hb cur t ht).1), ⟨rowE_off_upd h3.1 hU (fun b hb cur t ht => (hf b hb cur t ht).2.1), h3.2⟩, h4.1, fun i s r hs hr => rowE_off_upd (h4.2 i s r hs hr) hU (fun b hb cur t ht => (hf b hb cur t ht).2.2.1)⟩
structure BI (H b0 b1 b2 p : Nat) (c0 : Array Value) (y4 : Value) (L V : List ByteArray) (T : List (List VarN)) (RR : List (List Int)) (y8 : Value) (w wr : World) : Prop where
  tab : TDB (fun g => H ≤ g) wr p V T
  own : Own H wr (.slice none 0 0) y8 [] RR
  nm : rowE elS wr y4 L
  a : wr.heap[b0]? = some (.cells c0 25 (0, 0))
  r1 : wr.heap[b1]? = some (.cells #[.slice none 0 0, .slice none 0 0] 31 (0, 0))
  r2 : wr.heap[b2]? = some (.cells #[.slice none 0 0, .slice none 0 0] 34 (0, 0))
  size : H ≤ wr.heap.size
  ext : Ext w wr
theorem BI.on {H b0 b1 b2 p : Nat} {c0 : Array Value} {y4 y8 : Value} {L V : List ByteArray} {T : List (List VarN)} {RR : List (List Int)} {w wr w' : World} (h : BI H b0 b1 b2 p c0 y4 L V T RR y8 w wr) (hE : Ext wr w') : BI H b0 b1 b2 p c0 y4 L V T RR y8 w w' :=
  ⟨tDB_ext h.tab hE, own_ext h.own hE, rowE_ext h.nm hE, (ext_block hE (block_lt h.a)).trans h.a, (ext_block hE (block_lt h.r1)).trans h.r1, (ext_block hE (block_lt h.r2)).trans h.r2, Nat.le_trans h.size (ext_size hE), ext_trans h.ext hE⟩
theorem BI.addrow {H b0 b1 b2 p : Nat} {c0 : Array Value} {y4 y8 v5 : Value} {L V : List ByteArray} {T : List (List VarN)} {RR : List (List Int)} {w wa w5 : World} {sl : List Sl} {s : Sl} {x : List Int} (h : BI H b0 b1 b2 p c0 y4 L V T RR y8 w wa) (hsl : rowF elW H sl y8 wa) (hl : sl.length = RR.length) (hrows : ∀ (i : Nat) (s : Sl) (x : List Int), sl[i]? = some s → RR[i]? = some x → rowF elI H x (slV s) wa)
    (hx : rowF elI H x (slV s) wa) (hR5 : rowF elW H (sl ++ [s]) v5 w5) (hG : wa.grownBy w5 y8.ownBlock) (hb : b0 < H ∧ b1 < H ∧ b2 < H ∧ w.heap.size ≤ H) : BI H b0 b1 b2 p c0 y4 L V T (RR ++ [x]) v5 w w5 := by
  have hU := upd_grown hG
  have hty : ∀ b, y8.ownBlock = some b → ∀ cur t, wa.heap[b]? = some (.cells cur t (0, 0)) → t = 41 := fun b hf cur t hbt => by
    obtain ⟨_, cur', hc'⟩ := rowE_block hsl.1 hf
    rw [hbt] at hc'
    simp only [Option.some.injEq, Obj.cells.injEq] at hc'
    exact hc'.2.1
  have hlo : ∀ b, b < H → ¬ y8.ownBlock = some b := fun b hb e => by have := hsl.2 b e; omega
  exact ⟨tDB_off h.tab hU (fun b hf cur t ht => by rw [hty b hf cur t ht]; decide), own_more (rowF_nil _ _) hR5 hl hrows hx hU (fun b hf cur t ht => by rw [hty b hf cur t ht]; decide), rowE_off_upd h.nm hU (fun b hf cur t ht => by rw [hty b hf cur t ht]; decide),
    (hU.block b0 (block_lt h.a) (hlo _ hb.1)).trans h.a, (hU.block b1 (block_lt h.r1) (hlo _ hb.2.1)).trans h.r1, (hU.block b2 (block_lt h.r2) (hlo _ hb.2.2.1)).trans h.r2, Nat.le_trans h.size hU.size, ext_upd h.ext hU (fun b e => Nat.le_trans hb.2.2.2 (hsl.2 b e))⟩
theorem BI.adddoc {H b0 b1 b2 p : Nat} {c0 : Array Value} {y4 y8 : Value} {L V : List ByteArray} {T T' : List (List VarN)} {RR : List (List Int)} {w wr w6 : World} {fp : Nat → Prop} (h : BI H b0 b1 b2 p c0 y4 L V T RR y8 w wr) (hT : TDB (fun g => H ≤ g) w6 p V T') (hU : Upd fp wr w6)
    (hf : ∀ b, fp b → H ≤ b ∧ ∀ cur t, wr.heap[b]? = some (.cells cur t (0, 0)) → t = 52 ∨ t = 34) (hb : b0 < H ∧ b1 < H ∧ b2 < H ∧ w.heap.size ≤ H) : BI H b0 b1 b2 p c0 y4 L V T' RR y8 w w6 := by
  have hlo : ∀ b, b < H → ¬ fp b := fun b hb e => by have := (hf b e).1; omega
  exact ⟨hT, own_off h.own hU (fun b hb' cur t ht => by rcases (hf b hb').2 cur t ht with rfl | rfl <;> decide), rowE_off_upd h.nm hU (fun b hb' cur t ht => by rcases (hf b hb').2 cur t ht with rfl | rfl <;> decide),
    (hU.block b0 (block_lt h.a) (hlo _ hb.1)).trans h.a, (hU.block b1 (block_lt h.r1) (hlo _ hb.2.1)).trans h.r1, (hU.block b2 (block_lt h.r2) (hlo _ hb.2.2.1)).trans h.r2, Nat.le_trans h.size hU.size, ext_upd h.ext hU (fun b e => Nat.le_trans hb.2.2.2 (hf b e).1)⟩
theorem tD_off {fp : Nat → Prop} {w w' : World} {v : Value} {V : List ByteArray} {R : List (List VarN)} (h : TD w v V R) (hU : Upd fp w w') (hf : ∀ b, fp b → ∀ cur t, w.heap[b]? = some (.cells cur t (0, 0)) → t ≠ 9 ∧ t ≠ 52 ∧ t ≠ 81) : TD w' v V R := by
  obtain ⟨vv, rv, h0, h2, sl, h3, h4⟩ := h
  exact ⟨vv, rv, h0, rowE_off_upd h2 hU (fun b hb cur t ht => (hf b hb cur t ht).1), sl, rowE_off_upd h3 hU (fun b hb cur t ht => (hf b hb cur t ht).2.1), h4.1, fun i s r hs hr => rowE_off_upd (h4.2 i s r hs hr) hU (fun b hb cur t ht => (hf b hb cur t ht).2.2)⟩
theorem rdS_take {w : World} {A : Option Addr} {n c : Nat} {L : List ByteArray} (h : rowE elS w (.slice A n c) L) {k : Nat} (hk : k ≤ L.length) : RdS w (.slice A k c) (L.take k) := by
  have hl : (L.take k).length = k := by rw [List.length_take]; omega
  have hc := rowE_cap h
  refine ⟨A, c, by rw [hl], by omega, fun hne => ?_⟩
  obtain ⟨g, rfl, hg⟩ := rowE_some h (fun e => hne (by rw [e]; simp))
  refine ⟨g, 0, rfl, hg, fun i x hx => ?_⟩
  rw [List.getElem?_take] at hx
  split at hx
  · rw [Nat.zero_add]; exact rowS_cell h hx
  · cases hx
theorem realOf_take {r : List Nat} {k n : Nat} (h : r[k]? = some n) : realOf (r.take (k + 1)) = realOf (r.take k) ++ [(n : Int) % 4 - 1] := by
  unfold realOf
  rw [List.take_add_one, h]
  simp
theorem realOf_at {r : List Nat} {k n : Nat} (h : r[k]? = some n) : (realOf r).getD k (-1) = (n : Int) % 4 - 1 := by
  rw [List.getD_eq_getElem?_getD, realOf, List.getElem?_map, h]; rfl
theorem build_yes {L : List ByteArray} {real : List Int} {k : Nat} {u : ByteArray} (hu : L[k]? = some u) (h : idxS L u = k) : buildR L real (k + 1) = putR (buildR L real k) u (real.getD k (-1)) := by
  have e : L.getD k ⟨#[]⟩ = u := by rw [List.getD_eq_getElem?_getD, hu]; rfl
  rw [buildR, e, if_pos ⟨h, (List.getElem?_eq_some_iff.1 hu).1⟩]
theorem build_no {L : List ByteArray} {real : List Int} {k : Nat} (h : ∀ u, L[k]? = some u → idxS L u ≠ k) : buildR L real (k + 1) = buildR L real k := by
  rw [buildR, if_neg]
  intro hh
  have hk : L[k]? = some (L.getD k ⟨#[]⟩) := by simp [List.getD, hh.2]
  exact h _ hk hh.1
theorem build_len (L : List ByteArray) (real : List Int) : ∀ k, (buildR L real k).length ≤ k
  | 0 => Nat.le_refl _
  | k + 1 => by
    have h1 := build_len L real k
    rw [buildR]
    split
    · have := putR_length (buildR L real k) (L.getD k ⟨#[]⟩) (real.getD k (-1))
      omega
    · omega
theorem has_take {L : List ByteArray} {k : Nat} {u : ByteArray} (hu : L[k]? = some u) : decide (idxS (L.take k) u < (L.take k).length) = !decide (idxS L u = k) := by
  have h1 : idxS L u ≤ k := by
    have h3 : ∀ (M : List ByteArray) (j : Nat), M[j]? = some u → idxS M u ≤ j := by
      intro M
      induction M with
      | nil => intro j h; simp at h
      | cons v r ih =>
        intro j h
        rw [idxS]
        split
        · omega
        · rename_i hv
          cases j with
          | zero => simp at h; exact absurd h hv
          | succ j => have := ih j (by simpa using h); omega
    exact h3 L k hu
  by_cases e : idxS L u = k
  · rw [decide_eq_true e, decide_eq_false]
    · rfl
    · intro h
      obtain ⟨i, hi, he⟩ := List.getElem_of_mem (idxS_lt.1 h)
      have hlt : i < k := by rw [List.length_take] at hi; omega
      have h2 : L[i]? = some u := by
        rw [← he, List.getElem_take]
        exact List.getElem?_eq_getElem _
      have h3 : ∀ (M : List ByteArray) (j : Nat), M[j]? = some u → idxS M u ≤ j := by
        intro M
        induction M with
        | nil => intro j h; simp at h
        | cons v r ih =>
          intro j h
          rw [idxS]
          split
          · omega
          · rename_i hv
            cases j with
            | zero => simp at h; exact absurd h hv
            | succ j => have := ih j (by simpa using h); omega
      have := h3 L i h2
      omega
  · rw [decide_eq_false e, decide_eq_true]
    · rfl
    · refine idxS_lt.2 ?_
      have hm : u ∈ L := List.mem_of_getElem? hu
      have hg := idxS_get hm
      have : (L.take k)[idxS L u]? = some u := by rw [List.getElem?_take, if_pos (by omega)]; exact hg
      exact List.mem_of_getElem? this

set_option maxRecDepth 100000 in
theorem build_any (v : Value) (xs : List Nat) (rs : List (List Nat)) (w : World) (h : RawV w v xs rs) (h1 : xs.length ≤ 100) (h2 : rs.length ≤ 100) (h3 : ∀ r ∈ rs, r.length ≤ 20) :
    Calls Tryd.prog 11 #[v] w fun e w' => ∃ vv rv dv, e = .returned (.tuple #[.agg #[vv, rv], dv]) ∧ Own w.heap.size w' vv rv (setS (namesOf xs)) (rowsD (setS (namesOf xs)) ((rs.take 8).map (docRow (namesOf xs)))) ∧ TD w' dv (setS (namesOf xs)) ((rs.take 8).map (docRow (namesOf xs))) ∧ Ext w w' := by
  obtain ⟨vv, rv, rfl, a1, a2⟩ := h
  obtain ⟨A1, c1, rfl⟩ := rdU_form a1
  obtain ⟨A2, c2, rfl⟩ := rdUU_form a2
  have HU := Lib.hid a1
  have HW := Lib.hid a2
  have H3 := Lib.hid h3
  obtain ⟨g0, g1, g2⟩ := heap_three w (.cells #[.slice A1 xs.length c1, .slice A2 rs.length c2] 25) (.cells #[.slice none 0 0, .slice none 0 0] 31) (.cells #[.slice none 0 0, .slice none 0 0] 34)
  have HG0 := Lib.hid g0
  have HG1 := Lib.hid g1
  have HG2 := Lib.hid g2
  have HE0 := Lib.hid (ext_alloc (ext_alloc (ext_alloc (ext_refl w) (.cells #[.slice A1 xs.length c1, .slice A2 rs.length c2] 25)) (.cells #[.slice none 0 0, .slice none 0 0] 31)) (.cells #[.slice none 0 0, .slice none 0 0] 34))
  clear a1 a2 h3 g0 g1 g2
  obtain ⟨L, hL⟩ : ∃ L, L = namesOf xs := ⟨_, rfl⟩
  rw [← hL]
  have hLl : L.length ≤ 5 := by rw [hL]; simp [namesOf]; omega
  have HLE := Lib.hid hL
  obtain ⟨VV, hVV⟩ : ∃ VV, VV = setS L := ⟨_, rfl⟩
  rw [← hVV]
  have HVE := Lib.hid hVV
  clear hL hVV
  go_enter Tryd.func11, Tryd.ntmps11
  go_wp2
  obtain ⟨w0, hw0⟩ : ∃ w0, w0 = ((w.alloc (.cells #[.slice A1 xs.length c1, .slice A2 rs.length c2] 25)).alloc (.cells #[.slice none 0 0, .slice none 0 0] 31)).alloc (.cells #[.slice none 0 0, .slice none 0 0] 34) := ⟨_, rfl⟩
  obtain ⟨b0, hb0⟩ : ∃ b0, b0 = w.heap.size := ⟨_, rfl⟩
  obtain ⟨b1, hb1⟩ : ∃ b1, b1 = w.heap.size + 1 := ⟨_, rfl⟩
  obtain ⟨b2, hb2⟩ : ∃ b2, b2 = w.heap.size + 1 + 1 := ⟨_, rfl⟩
  obtain ⟨H, hH⟩ : ∃ H, H = w0.heap.size := ⟨_, rfl⟩
  have hsz : H = w.heap.size + 1 + 1 + 1 := by rw [hH, hw0]; simp
  rw [← hw0, ← hb0] at HG0
  rw [← hw0, ← hb1] at HG1
  rw [← hw0] at HG2
  rw [← hw0] at HE0
  have HG2 := Lib.hid (show w0.heap[b2]? = some (.cells #[.slice none 0 0, .slice none 0 0] 34 (0, 0)) by rw [hb2]; exact HG2.out)
  rw [← hw0, ← hb2, ← hb1, ← hb0]
  have HHE := Lib.hid hH
  have HBD := Lib.hid (show b0 < H ∧ b1 < H ∧ b2 < H ∧ w.heap.size ≤ H by omega)
  have HBE := Lib.hid (show w.heap.size ≤ b1 ∧ w.heap.size ≤ b2 ∧ b1 ≠ b2 by omega)
  clear hw0 hb0 hb1 hb2 hsz hH
  go_loopw [18, 4] (fun z y wr => ∃ j : Nat, j ≤ xs.length ∧ z = .int .i64 j ∧ rowF elS H (((xs.take j).take 5).map nameB) y wr ∧ Ext w0 wr) (fun z _ _ => xs.length - (intOf z).toNat)
  case atStart => exact ⟨0, Nat.zero_le _, rfl, rowF_nil _ _, ext_refl _⟩
  case round =>
    rename World => wo
    obtain ⟨j, hj, rfl, hrow, hE⟩ := hrel
    have HE := Lib.hid hE
    have HR := Lib.hid hrow
    clear hE hrow
    have hbx := (ext_block HE.out (block_lt HG0.out)).trans HG0.out
    have q0 : wo.cell? ⟨b0, 0, none⟩ = some (.slice A1 xs.length c1) := block_cell hbx 0
    have l0 := block_lt hbx
    by_cases hlt : j < xs.length
    · have hji : (j : Int) < (xs.length : Int) := by omega
      have hj0 : (0 : Int) ≤ (j : Int) := by omega
      obtain ⟨x, hx⟩ : ∃ x, xs[j]? = some x := ⟨_, List.getElem?_eq_getElem hlt⟩
      obtain ⟨b, off, rfl, hb, hc, hx256⟩ := rdU_at (rdU_ext HU.out (ext_trans HE0.out HE.out)) hx
      have HX := Lib.hid hx
      clear hx hbx
      by_cases h5 : j < 5
      · have h5' : (j : Int) < 5 := by omega
        have hconv := conv_byte wo (97 + (x : Int) % 5) (97 + x % 5) (by omega)
        have HSB := Lib.hid (show strB (97 + x % 5) = nameB x from rfl)
        obtain ⟨nb, hnb⟩ : ∃ nb, nb = strB (97 + x % 5) := ⟨_, rfl⟩
        rw [← hnb] at hconv HSB
        have hrl : ((List.map nameB (List.take 5 (List.take j xs)))).length ≤ 5 := by simp; omega
        clear hnb
        obtain ⟨NL, hNL⟩ : ∃ NL, NL = List.map nameB (List.take 5 (List.take j xs)) := ⟨_, rfl⟩
        rw [← hNL] at HR hrl
        have HNL := Lib.hid hNL
        clear hNL
        go_wp2_with (at_builtin; refine halt_here ?_)
        refine go_on ?_
        have HEa := Lib.hid (ext_alloc (ext_alloc HE.out (.cells #[.int .u8 (97 + (x : Int) % 5)] 5)) (.cells #[.string nb] 9))
        have HRa := Lib.hid (rowF_ext _ _ _ (ext_alloc (ext_alloc (ext_refl wo) (.cells #[.int .u8 (97 + (x : Int) % 5)] 5)) (.cells #[.string nb] 9)) HR.out)
        have hH0 : H ≤ ((wo.alloc (.cells #[.int .u8 (97 + (x : Int) % 5)] 5)).alloc (.cells #[.string nb] 9)).heap.size := by
          have := ext_size HEa.out
          rw [HHE.out]; exact this
        refine wpList_append rfl (.tmp 25) (.tmp 31) rfl _ _ rfl rfl (fun v' w' => rowF elS H (NL ++ [nb]) v' w' ∧ ((wo.alloc (.cells #[.int .u8 (97 + (x : Int) % 5)] 5)).alloc (.cells #[.string nb] 9)).grownBy w' _) (append_onto tpS _ H _ _ NL [nb] _ HRa.out (srcOf_one (H := 0) ⟨_, rfl, Nat.zero_le _, (heap_two wo _ _).2⟩) (by simp; omega) hH0) ?_
        rintro v5 w5 ⟨hR5, hG5⟩
        have HE5 := Lib.hid (ext_grown HEa.out hG5 HRa.out.2 (by rw [HHE.out]; exact Nat.le_refl _))
        have HR5 := Lib.hid hR5
        clear hR5 hG5 q0 hconv hH0
        go_wp2
        go_roundw
        case rel => exact ⟨j + 1, by omega, by go_num, by rw [names_in HX.out h5, ← HNL.out, ← HSB.out]; exact HR5.out, HE5.out⟩
        case measure => simp [intOf]; omega
      · have h5' : ¬ (j : Int) < 5 := by omega
        go_wp2
        go_roundw
        case rel => exact ⟨j + 1, by omega, by go_num, by rw [names_out h5]; exact HR.out, HE.out⟩
        case measure => simp [intOf]; omega
    · obtain rfl : j = xs.length := by omega
      have hrow := HR.out
      rw [List.take_length] at hrow
      have HRW := Lib.hid (show rowF elS H L _ wo by rw [HLE.out]; exact hrow)
      obtain ⟨A4, c4, hy4⟩ := rowE_form HRW.out.1
      subst hy4
      clear hrow HR hbx
      have CB := Lib.hid (both_any (.slice A4 L.length c4) (.slice none 0 0) L [] wo (rdS_row HRW.out.1) (rdS_row (rowE_nil wo)) (by omega) (by simp))
      rw [List.append_nil, ← HVE.out] at CB
      go_wp2_with (go_at_call 26; refine CB.out.mono ?_; rintro e w1 ⟨v1, rfl, hr1, hE1⟩; obtain ⟨A5, c5, rfl⟩ := rowE_form hr1; have HR1 := Lib.hid hr1; have HE1 := Lib.hid hE1; have q5 : w1.cell? ⟨b0, 1, none⟩ = some (.slice A2 rs.length c2) := (ext_cell (ext_trans HE.out hE1) _ _ (block_lt HG0.out)).trans (block_cell HG0.out 1); have l5 := ext_lt (ext_trans HE.out hE1) (block_lt HG0.out); clear hr1 hE1)
      obtain ⟨p, hp⟩ : ∃ p, p = w1.heap.size := ⟨_, rfl⟩
      obtain ⟨W2, hW2⟩ : ∃ W2, W2 = w1.alloc (.cells #[.slice A5 VV.length c5, .slice none 0 0] 34) := ⟨_, rfl⟩
      have hE2W : Ext w1 W2 := by rw [hW2]; exact ext_alloc (ext_refl _) _
      have hE3 := ext_trans HE.out (ext_trans HE1.out hE2W)
      have hHp : H ≤ p := by rw [hp, HHE.out]; exact ext_size (ext_trans HE.out HE1.out)
      have hT : TDB (fun g => H ≤ g) W2 p VV [] := ⟨_, _, [], by rw [hW2, hp]; exact heap_alloc_new w1 _, rowE_ext HR1.out hE2W, ⟨rowE_nil _, fun g hg => by cases hg⟩, rowsQ_nil _⟩
      have HJ := Lib.hid (show BI H b0 b1 b2 p #[.slice A1 xs.length c1, .slice A2 rs.length c2] (.slice A4 L.length c4) L VV [] [] (.slice none 0 0) w W2 from ⟨hT, ⟨rowF_nil _ _, [], rowF_nil _ _, rfl, fun i s x hs => by simp at hs⟩, rowE_ext HRW.out.1 (ext_trans HE1.out hE2W), (ext_block hE3 (block_lt HG0.out)).trans HG0.out, (ext_block hE3 (block_lt HG1.out)).trans HG1.out, (ext_block hE3 (block_lt HG2.out)).trans HG2.out, by rw [HHE.out]; exact ext_size hE3, ext_trans HE0.out hE3⟩)
      have HPH := Lib.hid hHp
      rw [← hW2, ← hp]
      clear hT hE3 hE2W hW2 hp hHp q0 q5 l0 l5 HR1 HE1 HE HE0 HG0 HG1 HG2 HRW CB
      go_loopw [40, 8] (fun z y wr => ∃ i : Nat, i ≤ rs.length ∧ i ≤ 8 ∧ z = .int .i64 i ∧ BI H b0 b1 b2 p #[.slice A1 xs.length c1, .slice A2 rs.length c2] (.slice A4 L.length c4) L VV ((rs.take i).map (docRow L)) ((rs.take i).map realOf) y w wr) (fun z _ _ => rs.length - (intOf z).toNat)
      case atStart => exact ⟨0, Nat.zero_le _, by omega, rfl, HJ.out⟩
      case round =>
        rename World => wo
        obtain ⟨i, hi, hi8, rfl, hJ⟩ := hrel
        have HJ2 := Lib.hid hJ
        clear hJ HJ
        by_cases hlt8 : i < rs.length ∧ i < 8
        · obtain ⟨hlt, h8⟩ := hlt8
          have hii : (i : Int) < (rs.length : Int) := by omega
          have hi0 : (0 : Int) ≤ (i : Int) := by omega
          have h8b : ((i : Int) == 8) = false := by rw [beq_eq_false_iff_ne]; omega
          have h8n : ¬ i = 8 := by omega
          obtain ⟨r, hr⟩ : ∃ r, rs[i]? = some r := ⟨_, List.getElem?_eq_getElem hlt⟩
          have hrl := H3.out r (List.mem_of_getElem? hr)
          obtain ⟨b, off, R, k0, rfl, hb, hc, hri⟩ := rdUU_at (rdUU_ext HW.out HJ2.out.ext) hr
          have HRI := Lib.hid hri
          have HR := Lib.hid hr
          clear hr hri
          go_wp2
          clear hb hc
          go_loopw [49, 11, 12] (fun z y11 y12 wr => ∃ k : Nat, k ≤ r.length ∧ z = .int .i64 k ∧ rowF elI wo.heap.size (realOf (r.take k)) y11 wr ∧ rowE elP wr y12 (buildR L (realOf r) k) ∧ Ext wo wr) (fun z _ _ _ => r.length - (intOf z).toNat)
          case atStart => exact ⟨0, Nat.zero_le _, rfl, rowF_nil _ _, rowE_nil _, ext_refl _⟩
          case round =>
            rename World => wi
            obtain ⟨k, hk, rfl, h11, h12, hE⟩ := hrel
            have HEI := Lib.hid hE
            have H11 := Lib.hid h11
            have H12 := Lib.hid h12
            clear hE h11 h12
            by_cases hkl : k < r.length
            · have hki : (k : Int) < (r.length : Int) := by omega
              have hk0 : (0 : Int) ≤ (k : Int) := by omega
              obtain ⟨n, hn⟩ : ∃ n, r[k]? = some n := ⟨_, List.getElem?_eq_getElem hkl⟩
              obtain ⟨b', off', rfl, hb', hc', hn256⟩ := rdU_at (rdU_ext HRI.out HEI.out) hn
              have HN := Lib.hid hn
              have hnw : IntKind.i64.wrap ((n : Int) % 4 - 1) = (n : Int) % 4 - 1 := IntWalk.i64_in _ (by omega)
              have hrl2 : (realOf (r.take k)).length ≤ 20 := by simp [realOf]; omega
              obtain ⟨RL, hRL⟩ : ∃ RL, RL = realOf (r.take k) := ⟨_, rfl⟩
              rw [← hRL] at H11 hrl2
              have HRL := Lib.hid hRL
              obtain ⟨m, hm⟩ : ∃ m, m = (n : Int) % 4 - 1 := ⟨_, rfl⟩
              have HM := Lib.hid hm
              clear hn hRL
              go_wp2_with (at_builtin; refine halt_here ?_)
              refine go_on ?_
              rw [← hm]
              have HEa := Lib.hid (ext_alloc HEI.out (.cells #[.int .i64 m] 3))
              have HRa := Lib.hid (rowF_ext _ _ _ (ext_alloc (ext_refl wi) (.cells #[.int .i64 m] 3)) H11.out)
              refine wpList_append rfl (.tmp 54) (.tmp 59) rfl _ _ rfl rfl (fun v' w' => rowF elI wo.heap.size (RL ++ [m]) v' w' ∧ (wi.alloc (.cells #[.int .i64 m] 3)).grownBy w' _) (append_onto tpI _ wo.heap.size _ _ RL [m] _ HRa.out (srcOf_one (H := 0) ⟨_, rfl, Nat.zero_le _, heap_alloc_new wi _⟩) (by simp; omega) (ext_size HEa.out)) ?_
              rintro v5 w5 ⟨hR5, hG5⟩
              have HE5 := Lib.hid (ext_grown HEa.out hG5 HRa.out.2 (Nat.le_refl _))
              have H12b := Lib.hid (show rowE elP w5 _ (buildR L (realOf r) k) from rowE_off_upd (rowE_ext H12.out (ext_alloc (ext_refl wi) (.cells #[.int .i64 m] 3))) (upd_grown hG5) (fun b hf cur t hbt => by
                obtain ⟨_, cur', hc'⟩ := rowE_block HRa.out.1 hf
                rw [hbt] at hc'
                simp only [Option.some.injEq, Obj.cells.injEq] at hc'
                rw [hc'.2.1]
                decide))
              have HR5 := Lib.hid hR5
              clear hR5 hG5 hb' hc' HRa HEa
              have HST := Lib.hid (show rowF elI wo.heap.size (realOf (r.take (k + 1))) v5 w5 by rw [realOf_take HN.out, ← HRL.out, ← HM.out]; exact HR5.out)
              have HNM := Lib.hid (rowE_ext HJ2.out.nm HE5.out)
              have hcap := (rowE_cap HNM.out).2
              have hbl := build_len L (realOf r) k
              have HRAT := Lib.hid ((realOf_at HN.out).trans HM.out.symm)
              rw [← hm] at hnw
              by_cases hkL : k < L.length
              · obtain ⟨u, hu⟩ : ∃ u, L[k]? = some u := ⟨_, List.getElem?_eq_getElem hkL⟩
                obtain ⟨g, rfl, hg⟩ := rowE_some HNM.out (fun e => by rw [e] at hu; simp at hu)
                have hkLi : (k : Int) < (L.length : Int) := by omega
                have hkc : (k : Int) ≤ (c4 : Int) := by omega
                have hkcn : k ≤ c4 := by omega
                have hkLl : (k : Int) ≤ (L.length : Int) := by omega
                have q6 := rowS_cell HNM.out hu
                have HHAS := Lib.hid (has_take hu)
                have CH := Lib.hid (show ∀ w', Ext w5 w' → Calls Tryd.prog 40 #[.slice (some ⟨g, 0, none⟩) k c4, .string u] w' (fun e w'' => e = .returned (.bool (!decide (idxS L u = k))) ∧ Ext w' w'') from fun w' hE => (has_any _ (L.take k) u w' (rdS_ext (rdS_take HNM.out (by omega)) hE) (by rw [List.length_take]; omega)).mono fun e w'' h => ⟨by rw [← HHAS.out]; exact h.1, h.2 ▸ ext_refl _⟩)
                have HUU := Lib.hid hu
                clear hu
                have hgc := cell_grown
                by_cases hidx : idxS L u = k
                · have HIX := Lib.hid hidx
                  rw [decide_eq_true hidx, Bool.not_true] at CH
                  clear hidx
                  go_wp2
                  refine wp_region_free 15 [0, 1, 2, 3, 4, 5, 6, 7, 8, 9, 10, 11, 12, 13, 14] [] (by kernel_rfl) (by kernel_rfl) ?_
                  repeat (refine wpLoose_step rfl (fun K hK => ?_); (try simp only [Oper.quietAt, Oper.quietUpon]); go_simp; first | (refine hK _ ?_; clear hK K) | (apply Exists.intro; refine ⟨fun p => ?_, hK _ ?_⟩; (go_at_call 40; exact CH.out _ (ext_grow (ext_refl _) _ _)); clear hK K))
                  refine wpLoose_nil (wpFresh_nil (fun w6 hE6 _ => ?_))
                  have HE56 := Lib.hid hE6
                  have q7 := (ext_cell HE56.out _ _ hg).trans q6
                  have lg := ext_lt HE56.out hg
                  clear hE6 q6 hg
                  simp only [List.drop_succ_cons, List.drop_zero]
                  refine wpList_nil ?_
                  go_wp2_with (go_at_call 41; refine (put_any _ (buildR L (realOf r) k) u ((n : Int) % 4 - 1) w6 (rowE_ext H12b.out HE56.out) (by omega)).mono ?_; rintro e w7 ⟨v1, rfl, h3, h4⟩; have HR7 := Lib.hid h3; have HE7 := Lib.hid (ext_trans HE56.out h4); clear h3 h4)
                  go_roundw
                  case rel => exact ⟨k + 1, by omega, by go_num, rowF_ext _ _ _ HE7.out HST.out, by rw [build_yes HUU.out HIX.out, realOf_at HN.out]; exact HR7.out, ext_trans HE5.out HE7.out⟩
                  case measure => simp [intOf]; omega
                · have HIX := Lib.hid hidx
                  rw [decide_eq_false hidx, Bool.not_false] at CH
                  clear hidx
                  go_wp2
                  refine wp_region_free 15 [0, 1, 2, 3, 4, 5, 6, 7, 8, 9, 10, 11, 12, 13, 14] [] (by kernel_rfl) (by kernel_rfl) ?_
                  repeat (refine wpLoose_step rfl (fun K hK => ?_); (try simp only [Oper.quietAt, Oper.quietUpon]); go_simp; first | (refine hK _ ?_; clear hK K) | (apply Exists.intro; refine ⟨fun p => ?_, hK _ ?_⟩; (go_at_call 40; exact CH.out _ (ext_grow (ext_refl _) _ _)); clear hK K))
                  refine wpLoose_nil (wpFresh_nil (fun w6 hE6 _ => ?_))
                  have HE56 := Lib.hid hE6
                  clear hE6 q6 hgc hg
                  simp only [List.drop_succ_cons, List.drop_zero]
                  refine wpList_nil ?_
                  go_wp2
                  go_roundw
                  case rel => exact ⟨k + 1, by omega, by go_num, rowF_ext _ _ _ HE56.out HST.out, by rw [build_no (fun u' hu' => by rw [HUU.out] at hu'; cases hu'; exact HIX.out)]; exact rowE_ext H12b.out HE56.out, ext_trans HE5.out HE56.out⟩
                  case measure => simp [intOf]; omega
              · have hkLi : ¬ (k : Int) < (L.length : Int) := by omega
                have hgc := cell_grown
                go_wp2
                refine wp_region_free 15 [0, 1, 2, 3, 4, 5, 6, 7, 8, 9, 10, 11, 12, 13, 14] [] (by kernel_rfl) (by kernel_rfl) ?_
                repeat (refine wpLoose_step rfl (fun K hK => ?_); (try simp only [Oper.quietAt, Oper.quietUpon]); go_simp; (refine hK _ ?_; clear hK K))
                refine wpLoose_nil (wpFresh_nil (fun w6 hE6 _ => ?_))
                have HE56 := Lib.hid hE6
                clear hE6 hgc
                simp only [List.drop_succ_cons, List.drop_zero]
                refine wpList_nil ?_
                go_wp2
                go_roundw
                case rel => exact ⟨k + 1, by omega, by go_num, rowF_ext _ _ _ HE56.out HST.out, by rw [build_no (fun u' hu' => absurd (List.getElem?_eq_some_iff.1 hu').1 hkL)]; exact rowE_ext H12b.out HE56.out, ext_trans HE5.out HE56.out⟩
                case measure => simp [intOf]; omega
            · obtain rfl : k = r.length := by omega
              have hr11 := H11.out
              rw [List.take_length] at hr11
              have hr12 := H12.out
              obtain ⟨B1, d1, hv11⟩ := rowE_form hr11.1
              obtain ⟨B2, d2, hv12⟩ := rowE_form hr12
              subst hv11 hv12
              obtain ⟨n1, hn1⟩ : ∃ n1, n1 = (realOf r).length := ⟨_, rfl⟩
              obtain ⟨n2, hn2⟩ : ∃ n2, n2 = (buildR L (realOf r) r.length).length := ⟨_, rfl⟩
              rw [← hn1] at hr11 ⊢
              rw [← hn2] at hr12 ⊢
              have HEa := Lib.hid (ext_alloc HEI.out (.cells #[.slice B1 n1 d1] 41))
              have HJa := Lib.hid (HJ2.out.on HEa.out)
              obtain ⟨_, sl, hsl, hl, hrows⟩ := HJa.out.own
              have hsll : sl.length ≤ 100 := by rw [hl]; simp; omega
              have HSL := Lib.hid hsl
              have HL := Lib.hid hl
              have HROWS := Lib.hid hrows
              have HX := Lib.hid (show rowF elI H (realOf r) (slV ((B1, n1, d1) : Sl)) (wi.alloc (.cells #[.slice B1 n1 d1] 41)) from rowF_low (rowF_ext _ _ _ (ext_alloc (ext_refl _) _) hr11) HJ2.out.size)
              have HY := Lib.hid (rowE_ext hr12 (ext_alloc (ext_refl wi) (.cells #[.slice B1 n1 d1] 41)))
              clear hsl hl hrows hr11 hr12 hn1 hn2 H11 H12
              go_wp2_with (at_builtin; refine halt_here ?_)
              refine go_on ?_
              refine wpList_append rfl (.tmp 87) (.tmp 89) rfl _ _ rfl rfl (fun v' w' => rowF elW H (sl ++ [((B1, n1, d1) : Sl)]) v' w' ∧ (wi.alloc (.cells #[.slice B1 n1 d1] 41)).grownBy w' _) (append_onto tpW _ H _ _ sl [((B1, n1, d1) : Sl)] _ HSL.out (srcOf_one (H := 0) ⟨_, rfl, Nat.zero_le _, heap_alloc_new wi _⟩) (by simp; omega) HJa.out.size) ?_
              rintro v5 w5 ⟨hR5, hG5⟩
              have HJ5 := Lib.hid (HJa.out.addrow HSL.out HL.out HROWS.out HX.out hR5 hG5 HBD.out)
              have HY5 := Lib.hid (show rowE elP w5 _ (buildR L (realOf r) r.length) from rowE_off_upd HY.out (upd_grown hG5) (fun b hf cur t hbt => by
                obtain ⟨_, cur', hc'⟩ := rowE_block HSL.out.1 hf
                rw [hbt] at hc'
                simp only [Option.some.injEq, Obj.cells.injEq] at hc'
                rw [hc'.2.1]
                decide))
              obtain ⟨tv, rv5, sl5, t1, t2, t3, t4⟩ := HJ5.out.tab
              obtain ⟨A9, c9, hrv⟩ := rowE_form t3.1
              subst hrv
              have q8 : w5.cell? ⟨p, 1, none⟩ = some (.slice A9 sl5.length c9) := block_cell t1 1
              have l8 := block_lt t1
              have hsl5 : sl5.length ≤ 100 := by rw [t4.1]; simp; omega
              have T1 := Lib.hid t1
              have T2 := Lib.hid t2
              have T3 := Lib.hid t3
              have T4 := Lib.hid t4
              clear t1 t2 t3 t4 hR5 hG5
              go_wp2_with (at_builtin; refine halt_here ?_)
              refine go_on ?_
              have HEb := Lib.hid (ext_alloc (ext_refl w5) (.cells #[.slice B2 n2 d2] 52))
              refine wpList_append rfl (.tmp 92) (.tmp 94) rfl _ _ rfl rfl (fun v' w' => rowG elQ (fun g => H ≤ g) (sl5 ++ [((B2, n2, d2) : Sl)]) v' w' ∧ (w5.alloc (.cells #[.slice B2 n2 d2] 52)).grownBy w' (Value.slice A9 sl5.length c9).ownBlock) (append_ok tpQ _ (fun g => H ≤ g) (.slice A9 sl5.length c9) _ sl5 [((B2, n2, d2) : Sl)] _ (rowG_ext _ _ _ HEb.out T3.out) (srcOf_one (H := 0) ⟨_, rfl, Nat.zero_le _, heap_alloc_new w5 _⟩) (by simp; omega) (fun b hb => Nat.le_trans HJ5.out.size (Nat.le_trans (ext_size HEb.out) hb))) ?_
              rintro v6 w6 ⟨hR6, hG6⟩
              obtain ⟨hT6, hU6⟩ := tDB_more T1.out T2.out T3.out T4.out HEb.out (s := ((B2, n2, d2) : Sl)) (rowE_ext HY5.out HEb.out) (upd_grown hG6) hR6
              have HJ6 := Lib.hid (HJ5.out.adddoc hT6 hU6 (fun b hf => ⟨hf.elim (fun e => T3.out.2 b e) (fun e => e ▸ HPH.out), fun cur t hbt => by
                rcases hf with hf | hf
                · obtain ⟨_, cur', hc'⟩ := rowE_block T3.out.1 hf
                  rw [hbt] at hc'
                  simp only [Option.some.injEq, Obj.cells.injEq] at hc'
                  exact .inl hc'.2.1
                · subst hf
                  rw [T1.out] at hbt
                  simp only [Option.some.injEq, Obj.cells.injEq] at hbt
                  exact .inr hbt.2.1.symm⟩) HBD.out)
              have hbb := (ext_block HEb.out (block_lt T1.out)).trans T1.out
              have hb6 := ((upd_grown hG6).block p (block_lt hbb) (fun e => rowE_off T3.out.1 T1.out (by decide) e)).trans hbb
              have qf := block_frozen hb6 1
              have qc : w6.cell? ⟨p, 1, none⟩ = some (.slice A9 sl5.length c9) := block_cell hb6 1
              have lp := block_lt hb6
              obtain ⟨A6, c6, hv6⟩ := rowE_form hR6.1
              subst hv6
              obtain ⟨n6, hn6⟩ : ∃ n6, n6 = (sl5 ++ [((B2, n2, d2) : Sl)]).length := ⟨_, rfl⟩
              rw [← hn6] at HJ6 ⊢
              clear hT6 hU6 hR6 hG6 hbb hb6 hn6 q8 l8
              go_wp2
              go_roundw
              case rel => exact ⟨i + 1, by omega, by omega, by go_num, by rw [List.take_add_one, HR.out, List.map_append, List.map_append]; exact HJ6.out⟩
              case measure => simp [intOf]; omega
        · have hend : rs.take i = rs.take 8 := by
            rcases Nat.lt_or_ge i rs.length with hh | hh
            · have : i = 8 := by omega
              rw [this]
            · rw [List.take_of_length_le hh, List.take_of_length_le (by omega)]
          rw [hend] at HJ2
          obtain ⟨B8, d8, hy8⟩ := rdW_form (own_rdW HJ2.out.own)
          have hrw := own_rdW HJ2.out.own
          subst hy8
          obtain ⟨n8, hn8⟩ : ∃ n8, n8 = ((rs.take 8).map realOf).length := ⟨_, rfl⟩
          rw [← hn8] at hrw HJ2 ⊢
          have HRW8 := Lib.hid hrw
          obtain ⟨tv, rv5, sl5, t1, t2, t3, t4⟩ := HJ2.out.tab
          obtain ⟨A9, c9, hrv⟩ := rowE_form t3.1
          subst hrv
          obtain ⟨A10, c10, htv⟩ := rowE_form t2
          subst htv
          have HTD := Lib.hid (tDB_td HJ2.out.tab t1)
          have hpb1 : ¬ p = b1 := by have := HPH.out; have := HBD.out; omega
          have u0 : ∀ pw : UW (fun q => q = b1) wo, pw.val.cell? ⟨p, 0, none⟩ = some (.slice A10 VV.length c10) := uw_cell (block_cell t1 0) (block_lt t1) hpb1
          have u1 : ∀ pw : UW (fun q => q = b1) wo, pw.val.cell? ⟨p, 1, none⟩ = some (.slice A9 sl5.length c9) := uw_cell (block_cell t1 1) (block_lt t1) hpb1
          have HNM := Lib.hid HJ2.out.nm
          obtain ⟨NR, hNR⟩ : ∃ NR, NR = ((rs.take 8).map realOf).map (ofRow L) := ⟨_, rfl⟩
          have HNE := Lib.hid (show NR = rowsD VV ((rs.take 8).map (docRow L)) by
            rw [hNR, rowsD, List.map_map, List.map_map, HVE.out]
            refine List.map_congr_left (fun r _ => ?_)
            simp only [Function.comp, docRow]
            rw [build_same]
            simp [realOf])
          have CO := Lib.hid (show ∀ w', Ext wo w' → Calls Tryd.prog 21 #[.slice A4 L.length c4, .slice B8 n8 d8] w' (fun e w'' => ∃ vv rv', e = .returned (.agg #[vv, rv']) ∧ Own w'.heap.size w'' vv rv' VV NR ∧ Ext w' w'') from fun w' hE => (of_any _ _ L ((rs.take 8).map realOf) w' (rdS_row (rowE_ext HNM.out hE)) (rdW_ext HRW8.out hE) (by omega) (by simp; omega) (fun x hx => by
            obtain ⟨r, hr, rfl⟩ := List.mem_map.1 hx
            have := H3.out r (List.mem_of_mem_take hr)
            simp [realOf]; omega)).mono fun e w'' h => by rw [HVE.out, hNR]; exact h)
          have T1 := Lib.hid t1
          clear t1 t2 t3 t4 hrw hn8 hNR hend
          have hcase : (i < rs.length ∧ i = 8) ∨ ¬ i < rs.length := by omega
          have hi0 : (0 : Int) ≤ (i : Int) := by omega
          rcases hcase with ⟨hlt, h8⟩ | hlt
          · have hii : (i : Int) < (rs.length : Int) := by omega
            obtain ⟨r, hr⟩ : ∃ r, rs[i]? = some r := ⟨_, List.getElem?_eq_getElem hlt⟩
            obtain ⟨b, off, R, k0, rfl, hb, hc, hri⟩ := rdUU_at (rdUU_ext HW.out HJ2.out.ext) hr
            have h8b : ((i : Int) == 8) = true := by rw [beq_iff_eq]; omega
            clear hr hri h8
            go_wp2
            clear hb hc
            have r0 : wo.cell? ⟨b1, 0, none⟩ = some (.slice none 0 0) := block_cell HJ2.out.r1 0
            refine wp_region_upd (fp := fun q => q = b1) [] [0, 1, 3] [(2, fun v w' => ∃ vv rv, v = .agg #[vv, rv] ∧ Own wo.heap.size w' vv rv VV NR)] 4 (fun _ w' => ∃ vv rv, Own wo.heap.size w' vv rv VV NR ∧ w'.heap[b1]? = some (.cells #[vv, rv] 31 (0, 0))) [5] [2, 4] rfl (by kernel_rfl) (by kernel_rfl) (by kernel_rfl) (fun _ _ d _ _ h => by cases d <;> exact h) ?_
            refine wpPre_nil ?_
            repeat (refine wpU_step rfl (fun K hK => ?_); (try simp only [Oper.quietAt, Oper.quietUpon]); go_simp; (refine hK _ ?_; clear hK K))
            refine wpU_nil ?_
            refine wpGen_step rfl rfl (fun v a b hE ⟨vv, rv, h1, h2⟩ => ⟨vv, rv, h1, own_ext h2 hE⟩) (fun w6 hE6 hS6 => ?_) (fun v1 => ?_)
            · simp only [runsAt]
              go_simp
              refine (CO.out w6 hE6).mono ?_
              rintro e w7 ⟨vv, rv, rfl, h3, h4⟩
              exact ⟨_, rfl, h4, vv, rv, rfl, own_low h3 (ext_size hE6)⟩
            refine wpGen_nil ?_
            refine ⟨⟨_, rfl, rfl, fun v a b hE ⟨vv, rv, h1, h2⟩ => ⟨vv, rv, own_ext h1 hE, (ext_block hE (block_lt h2)).trans h2⟩⟩, fun w6 hE6 hS6 o ho => ?_, fun o ho v w6 hU6 hR6 => ?_⟩
            · cases ho
              obtain ⟨vv, rv, hv1, how⟩ : ∃ vv rv, v1 = .agg #[vv, rv] ∧ Own wo.heap.size w6 vv rv VV NR := hS6 _ (List.mem_cons_self ..)
              subst hv1
              obtain ⟨A7, c7, rfl⟩ := rdS_form (rdS_row how.1.1)
              obtain ⟨A8, c8, rfl⟩ := rdW_form (own_rdW how)
              have hb6 := (ext_block hE6 (block_lt HJ2.out.r1)).trans HJ2.out.r1
              have q0 : w6.cell? ⟨b1, 0, none⟩ = some (.slice none 0 0) := block_cell hb6 0
              have q1 : w6.cell? ⟨b1, 1, none⟩ = some (.slice none 0 0) := block_cell hb6 1
              have s0 := block_frozen hb6 0
              have s1 := block_frozen hb6 1
              have lb := block_lt hb6
              have HOW := Lib.hid how
              have HB6 := Lib.hid hb6
              clear how hb6 hS6
              simp only [runsAt]
              go_simp
              have hbf : ((w6.setCell ⟨b1, 0, none⟩ (.slice A7 VV.length c7)).setCell ⟨b1, 1, none⟩ (.slice A8 NR.length c8)).heap[b1]? = some (.cells #[.slice A7 VV.length c7, .slice A8 NR.length c8] 31 (0, 0)) := by
                have := heap_setCell_at (j := 1) (u := .slice A8 NR.length c8) (heap_setCell_at (j := 0) (u := .slice A7 VV.length c7) HB6.out)
                exact this
              have hUf : Upd (fun x => x = b1) w6 ((w6.setCell ⟨b1, 0, none⟩ (.slice A7 VV.length c7)).setCell ⟨b1, 1, none⟩ (.slice A8 NR.length c8)) := upd_trans (fp := fun x => x = b1) (upd_setCell (a := ⟨b1, 0, none⟩) _) (upd_setCell (a := ⟨b1, 1, none⟩) _) (fun _ _ h => h)
              exact ⟨hUf, _, _, own_upd HOW.out hUf (fun x hx => by have h1 := HBD.out; have h2 := HJ2.out.size; have : x = b1 := hx; omega), (Array.getElem?_eq_some_iff.1 hbf).2⟩
            · cases ho
              obtain ⟨vv, rv, how, hb1'⟩ := hR6
              have hb26 := (hU6.block b2 (block_lt HJ2.out.r2) (fun e => HBE.out.2.2 e.symm)).trans HJ2.out.r2
              have q0 : w6.cell? ⟨b2, 0, none⟩ = some (.slice none 0 0) := block_cell hb26 0
              have q1 : w6.cell? ⟨b2, 1, none⟩ = some (.slice none 0 0) := block_cell hb26 1
              have s0 := block_frozen hb26 0
              have s1 := block_frozen hb26 1
              have lb := block_lt hb26
              have HOW := Lib.hid how
              have HB1' := Lib.hid hb1'
              have HB26 := Lib.hid hb26
              have HU6 := Lib.hid hU6
              clear how hb1' hb26 hU6 u0 u1 r0
              refine wpSeq_of_list [5] [_] _ _ rfl ?_
              go_wp2
              obtain ⟨wf, hwf⟩ : ∃ wf, wf = (w6.setCell ⟨b2, 0, none⟩ (.slice A10 VV.length c10)).setCell ⟨b2, 1, none⟩ (.slice A9 sl5.length c9) := ⟨_, rfl⟩
              have hbf : wf.heap[b2]? = some (.cells #[.slice A10 VV.length c10, .slice A9 sl5.length c9] 34 (0, 0)) := by
                have := heap_setCell_at (j := 1) (u := .slice A9 sl5.length c9) (heap_setCell_at (j := 0) (u := .slice A10 VV.length c10) HB26.out)
                rw [hwf]
                exact this
              have hUf : Upd (fun x => x = b2) w6 wf := by
                rw [hwf]
                exact upd_trans (fp := fun x => x = b2) (upd_setCell (a := ⟨b2, 0, none⟩) _) (upd_setCell (a := ⟨b2, 1, none⟩) _) (fun _ _ h => h)
              have hb1f := (hUf.block b1 (block_lt HB1'.out) HBE.out.2.2).trans HB1'.out
              have hU2 : Upd (fun x => x = b1 ∨ x = b2) wo wf := upd_trans (upd_mono HU6.out (fun _ _ h => .inl h)) hUf (fun _ _ h => .inr h)
              have t0 : wf.cell? ⟨b1, 0, none⟩ = some vv := block_cell hb1f 0
              have t1 : wf.cell? ⟨b1, 1, none⟩ = some rv := block_cell hb1f 1
              have t2 : wf.cell? ⟨b2, 0, none⟩ = some (.slice A10 VV.length c10) := block_cell hbf 0
              have t3 : wf.cell? ⟨b2, 1, none⟩ = some (.slice A9 sl5.length c9) := block_cell hbf 1
              rw [← hwf]
              have hfin : Own w.heap.size wf vv rv VV NR ∧ TD wf (.agg #[.slice A10 VV.length c10, .slice A9 sl5.length c9]) VV ((rs.take 8).map (docRow L)) ∧ Ext w wf := by
                refine ⟨own_low (own_upd HOW.out hUf (fun x hx => by have h1 := HBD.out; have h2 := HJ2.out.size; have : x = b2 := hx; omega)) (ext_size HJ2.out.ext), tD_off HTD.out hU2 (fun x hx cur t ht => ?_), ext_upd HJ2.out.ext hU2 (fun x hx => by have := HBE.out; rcases hx with rfl | rfl <;> omega)⟩
                rcases hx with rfl | rfl
                · rw [HJ2.out.r1] at ht
                  simp only [Option.some.injEq, Obj.cells.injEq] at ht
                  rw [← ht.2.1]
                  decide
                · rw [HJ2.out.r2] at ht
                  simp only [Option.some.injEq, Obj.cells.injEq] at ht
                  rw [← ht.2.1]
                  decide
              have HFIN := Lib.hid hfin
              clear hfin hU2 hb1f hUf hbf
              obtain ⟨A7, c7, rfl⟩ := rdS_form (rdS_row HOW.out.1.1)
              obtain ⟨A8, c8, rfl⟩ := rdW_form (own_rdW HOW.out)
              refine bodyPost_ret (v := .tuple #[.agg #[.slice A7 VV.length c7, .slice A8 NR.length c8], .agg #[.slice A10 VV.length c10, .slice A9 sl5.length c9]]) (by simp [results, Tryd.results11, go_sem, t0, t1, t2, t3]) rfl ?_
              exact ⟨_, _, _, rfl, by rw [← HNE.out]; exact HFIN.out.1, HFIN.out.2.1, HFIN.out.2.2⟩
          · have hii : ¬ (i : Int) < (rs.length : Int) := by omega
            go_wp2
            have r0 : wo.cell? ⟨b1, 0, none⟩ = some (.slice none 0 0) := block_cell HJ2.out.r1 0
            refine wp_region_upd (fp := fun q => q = b1) [] [0, 1, 3] [(2, fun v w' => ∃ vv rv, v = .agg #[vv, rv] ∧ Own wo.heap.size w' vv rv VV NR)] 4 (fun _ w' => ∃ vv rv, Own wo.heap.size w' vv rv VV NR ∧ w'.heap[b1]? = some (.cells #[vv, rv] 31 (0, 0))) [5] [2, 4] rfl (by kernel_rfl) (by kernel_rfl) (by kernel_rfl) (fun _ _ d _ _ h => by cases d <;> exact h) ?_
            refine wpPre_nil ?_
            repeat (refine wpU_step rfl (fun K hK => ?_); (try simp only [Oper.quietAt, Oper.quietUpon]); go_simp; (refine hK _ ?_; clear hK K))
            refine wpU_nil ?_
            refine wpGen_step rfl rfl (fun v a b hE ⟨vv, rv, h1, h2⟩ => ⟨vv, rv, h1, own_ext h2 hE⟩) (fun w6 hE6 hS6 => ?_) (fun v1 => ?_)
            · simp only [runsAt]
              go_simp
              refine (CO.out w6 hE6).mono ?_
              rintro e w7 ⟨vv, rv, rfl, h3, h4⟩
              exact ⟨_, rfl, h4, vv, rv, rfl, own_low h3 (ext_size hE6)⟩
            refine wpGen_nil ?_
            refine ⟨⟨_, rfl, rfl, fun v a b hE ⟨vv, rv, h1, h2⟩ => ⟨vv, rv, own_ext h1 hE, (ext_block hE (block_lt h2)).trans h2⟩⟩, fun w6 hE6 hS6 o ho => ?_, fun o ho v w6 hU6 hR6 => ?_⟩
            · cases ho
              obtain ⟨vv, rv, hv1, how⟩ : ∃ vv rv, v1 = .agg #[vv, rv] ∧ Own wo.heap.size w6 vv rv VV NR := hS6 _ (List.mem_cons_self ..)
              subst hv1
              obtain ⟨A7, c7, rfl⟩ := rdS_form (rdS_row how.1.1)
              obtain ⟨A8, c8, rfl⟩ := rdW_form (own_rdW how)
              have hb6 := (ext_block hE6 (block_lt HJ2.out.r1)).trans HJ2.out.r1
              have q0 : w6.cell? ⟨b1, 0, none⟩ = some (.slice none 0 0) := block_cell hb6 0
              have q1 : w6.cell? ⟨b1, 1, none⟩ = some (.slice none 0 0) := block_cell hb6 1
              have s0 := block_frozen hb6 0
              have s1 := block_frozen hb6 1
              have lb := block_lt hb6
              have HOW := Lib.hid how
              have HB6 := Lib.hid hb6
              clear how hb6 hS6
              simp only [runsAt]
              go_simp
              have hbf : ((w6.setCell ⟨b1, 0, none⟩ (.slice A7 VV.length c7)).setCell ⟨b1, 1, none⟩ (.slice A8 NR.length c8)).heap[b1]? = some (.cells #[.slice A7 VV.length c7, .slice A8 NR.length c8] 31 (0, 0)) := by
                have := heap_setCell_at (j := 1) (u := .slice A8 NR.length c8) (heap_setCell_at (j := 0) (u := .slice A7 VV.length c7) HB6.out)
                exact this
              have hUf : Upd (fun x => x = b1) w6 ((w6.setCell ⟨b1, 0, none⟩ (.slice A7 VV.length c7)).setCell ⟨b1, 1, none⟩ (.slice A8 NR.length c8)) := upd_trans (fp := fun x => x = b1) (upd_setCell (a := ⟨b1, 0, none⟩) _) (upd_setCell (a := ⟨b1, 1, none⟩) _) (fun _ _ h => h)
              exact ⟨hUf, _, _, own_upd HOW.out hUf (fun x hx => by have h1 := HBD.out; have h2 := HJ2.out.size; have : x = b1 := hx; omega), (Array.getElem?_eq_some_iff.1 hbf).2⟩
            · cases ho
              obtain ⟨vv, rv, how, hb1'⟩ := hR6
              have hb26 := (hU6.block b2 (block_lt HJ2.out.r2) (fun e => HBE.out.2.2 e.symm)).trans HJ2.out.r2
              have q0 : w6.cell? ⟨b2, 0, none⟩ = some (.slice none 0 0) := block_cell hb26 0
              have q1 : w6.cell? ⟨b2, 1, none⟩ = some (.slice none 0 0) := block_cell hb26 1
              have s0 := block_frozen hb26 0
              have s1 := block_frozen hb26 1
              have lb := block_lt hb26
              have HOW := Lib.hid how
              have HB1' := Lib.hid hb1'
              have HB26 := Lib.hid hb26
              have HU6 := Lib.hid hU6
              clear how hb1' hb26 hU6 u0 u1 r0
              refine wpSeq_of_list [5] [_] _ _ rfl ?_
              go_wp2
              obtain ⟨wf, hwf⟩ : ∃ wf, wf = (w6.setCell ⟨b2, 0, none⟩ (.slice A10 VV.length c10)).setCell ⟨b2, 1, none⟩ (.slice A9 sl5.length c9) := ⟨_, rfl⟩
              have hbf : wf.heap[b2]? = some (.cells #[.slice A10 VV.length c10, .slice A9 sl5.length c9] 34 (0, 0)) := by
                have := heap_setCell_at (j := 1) (u := .slice A9 sl5.length c9) (heap_setCell_at (j := 0) (u := .slice A10 VV.length c10) HB26.out)
                rw [hwf]
                exact this
              have hUf : Upd (fun x => x = b2) w6 wf := by
                rw [hwf]
                exact upd_trans (fp := fun x => x = b2) (upd_setCell (a := ⟨b2, 0, none⟩) _) (upd_setCell (a := ⟨b2, 1, none⟩) _) (fun _ _ h => h)
              have hb1f := (hUf.block b1 (block_lt HB1'.out) HBE.out.2.2).trans HB1'.out
              have hU2 : Upd (fun x => x = b1 ∨ x = b2) wo wf := upd_trans (upd_mono HU6.out (fun _ _ h => .inl h)) hUf (fun _ _ h => .inr h)
              have t0 : wf.cell? ⟨b1, 0, none⟩ = some vv := block_cell hb1f 0
              have t1 : wf.cell? ⟨b1, 1, none⟩ = some rv := block_cell hb1f 1
              have t2 : wf.cell? ⟨b2, 0, none⟩ = some (.slice A10 VV.length c10) := block_cell hbf 0
              have t3 : wf.cell? ⟨b2, 1, none⟩ = some (.slice A9 sl5.length c9) := block_cell hbf 1
              rw [← hwf]
              have hfin : Own w.heap.size wf vv rv VV NR ∧ TD wf (.agg #[.slice A10 VV.length c10, .slice A9 sl5.length c9]) VV ((rs.take 8).map (docRow L)) ∧ Ext w wf := by
                refine ⟨own_low (own_upd HOW.out hUf (fun x hx => by have h1 := HBD.out; have h2 := HJ2.out.size; have : x = b2 := hx; omega)) (ext_size HJ2.out.ext), tD_off HTD.out hU2 (fun x hx cur t ht => ?_), ext_upd HJ2.out.ext hU2 (fun x hx => by have := HBE.out; rcases hx with rfl | rfl <;> omega)⟩
                rcases hx with rfl | rfl
                · rw [HJ2.out.r1] at ht
                  simp only [Option.some.injEq, Obj.cells.injEq] at ht
                  rw [← ht.2.1]
                  decide
                · rw [HJ2.out.r2] at ht
                  simp only [Option.some.injEq, Obj.cells.injEq] at ht
                  rw [← ht.2.1]
                  decide
              have HFIN := Lib.hid hfin
              clear hfin hU2 hb1f hUf hbf
              obtain ⟨A7, c7, rfl⟩ := rdS_form (rdS_row HOW.out.1.1)
              obtain ⟨A8, c8, rfl⟩ := rdW_form (own_rdW HOW.out)
              refine bodyPost_ret (v := .tuple #[.agg #[.slice A7 VV.length c7, .slice A8 NR.length c8], .agg #[.slice A10 VV.length c10, .slice A9 sl5.length c9]]) (by simp [results, Tryd.results11, go_sem, t0, t1, t2, t3]) rfl ?_
              exact ⟨_, _, _, rfl, by rw [← HNE.out]; exact HFIN.out.1, HFIN.out.2.1, HFIN.out.2.2⟩
end Go.Proofs.YtniggdaakiofeaaDoor
