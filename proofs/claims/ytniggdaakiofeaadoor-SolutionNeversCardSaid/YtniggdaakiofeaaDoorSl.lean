/- Join. -/
import Derived.Test.YtniggdaakiofeaaDoorSk
namespace Go.Proofs.YtniggdaakiofeaaDoor
open Go Go.RowKit Go.Sort
set_option maxHeartbeats 4000000

/-- a table that is being built, beside boxes of two tables and the result's cell -/
structure JI (H b0 b1 b2 p : Nat) (ca cb : Array Value) (VV : List ByteArray) (T : List (List Int)) (w wr : World) : Prop where
  tab : TabB H wr p VV T
  a : wr.heap[b0]? = some (.cells ca 31 (0, 0))
  b : wr.heap[b1]? = some (.cells cb 31 (0, 0))
  r : wr.heap[b2]? = some (.cells #[.slice none 0 0, .slice none 0 0] 31 (0, 0))
  size : H ≤ wr.heap.size
  ext : Ext w wr
theorem JI.on {H b0 b1 b2 p : Nat} {ca cb : Array Value} {VV : List ByteArray} {T : List (List Int)} {w wr w' : World} (h : JI H b0 b1 b2 p ca cb VV T w wr) (hE : Ext wr w') : JI H b0 b1 b2 p ca cb VV T w w' :=
  ⟨tabB_ext h.tab hE, (ext_block hE (block_lt h.a)).trans h.a, (ext_block hE (block_lt h.b)).trans h.b, (ext_block hE (block_lt h.r)).trans h.r, Nat.le_trans h.size (ext_size hE), ext_trans h.ext hE⟩
theorem JI.more {H b0 b1 b2 p : Nat} {ca cb : Array Value} {VV : List ByteArray} {T T' : List (List Int)} {w wr w' : World} (h : JI H b0 b1 b2 p ca cb VV T w wr) (hT : TabB H w' p VV T') (hU : Upd (fun b => H ≤ b) wr w') (hb : b0 < H ∧ b1 < H ∧ b2 < H ∧ w.heap.size ≤ H) : JI H b0 b1 b2 p ca cb VV T' w w' :=
  ⟨hT, (hU.block b0 (block_lt h.a) (by omega)).trans h.a, (hU.block b1 (block_lt h.b) (by omega)).trans h.b, (hU.block b2 (block_lt h.r) (by omega)).trans h.r, Nat.le_trans h.size hU.size, ext_upd h.ext hU (fun b hb' => by omega)⟩
theorem fin_tab {H b : Nat} {w wo wf : World} {v0 v1 u0 u1 : Value} {VV : List ByteArray} {T : List (List Int)} (hwf : wf = (wo.setCell ⟨b, 0, none⟩ v0).setCell ⟨b, 1, none⟩ v1) (how : Own H wo v0 v1 VV T) (hb : wo.heap[b]? = some (.cells #[u0, u1] 31 (0, 0))) (hbH : b < H) (hw : w.heap.size ≤ b) (hE : Ext w wo) :
    wf.cell? ⟨b, 0, none⟩ = some v0 ∧ wf.cell? ⟨b, 1, none⟩ = some v1 ∧ Own w.heap.size wf v0 v1 VV T ∧ Ext w wf := by
  have hbf : wf.heap[b]? = some (.cells #[v0, v1] 31 (0, 0)) := by
    have := heap_setCell_at (j := 1) (u := v1) (heap_setCell_at (j := 0) (u := v0) hb)
    rw [hwf]
    exact this
  have hUf : Upd (fun x => x = b) wo wf := by
    rw [hwf]
    exact upd_trans (fp := fun x => x = b) (upd_setCell (a := ⟨b, 0, none⟩) _) (upd_setCell (a := ⟨b, 1, none⟩) _) (fun _ _ h => h)
  exact ⟨block_cell hbf 0, block_cell hbf 1, own_low (own_upd how hUf (fun x hx => by have : x = b := hx; omega)) (by omega), ext_upd hE hUf (fun x hx => by have : x = b := hx; omega)⟩

theorem joinN_take {U V : List ByteArray} {R S : List (List Int)} {j : Nat} {x : List Int} (hx : R[j]? = some x) : joinN U V (R.take (j + 1)) S = joinN U V (R.take j) S ++ (S.filter (compB U V x)).map (joinR U V x) := by
  unfold joinN
  rw [List.take_add_one, hx, Option.toList_some, List.flatMap_append]
  simp
theorem joinN_yes {U V : List ByteArray} {S : List (List Int)} {k : Nat} {x y : List Int} (hy : S[k]? = some y) (h : compB U V x y = true) : ((S.take (k + 1)).filter (compB U V x)).map (joinR U V x) = ((S.take k).filter (compB U V x)).map (joinR U V x) ++ [joinR U V x y] := by
  rw [List.take_add_one, hy, Option.toList_some, List.filter_append]
  simp [h]
theorem joinN_no {U V : List ByteArray} {S : List (List Int)} {k : Nat} {x y : List Int} (hy : S[k]? = some y) (h : compB U V x y = false) : ((S.take (k + 1)).filter (compB U V x)).map (joinR U V x) = ((S.take k).filter (compB U V x)).map (joinR U V x) := by
  rw [List.take_add_one, hy, Option.toList_some, List.filter_append]
  simp [h]
theorem joinN_len (U V : List ByteArray) (R S : List (List Int)) : (joinN U V R S).length ≤ R.length * S.length := by
  induction R with
  | nil => simp [joinN]
  | cons x R ih =>
    unfold joinN at ih ⊢
    rw [List.flatMap_cons, List.length_append, List.length_map, List.length_cons, Nat.add_mul, Nat.one_mul]
    have := List.length_filter_le (compB U V x) S
    omega
theorem joinN_mid (U V : List ByteArray) (R S : List (List Int)) (x : List Int) {j k : Nat} (hj : j < R.length) (hk : k < S.length) : (joinN U V (R.take j) S ++ ((S.take k).filter (compB U V x)).map (joinR U V x)).length < R.length * S.length := by
  have h1 := joinN_len U V (R.take j) S
  have h2 := List.length_filter_le (compB U V x) (S.take k)
  rw [List.length_take, Nat.min_eq_left (by omega)] at h1 h2
  rw [List.length_append, List.length_map]
  have h3 : (j + 1) * S.length ≤ R.length * S.length := Nat.mul_le_mul_right _ hj
  rw [Nat.add_mul, Nat.one_mul] at h3
  omega

set_option maxRecDepth 100000 in
theorem join_any (avv arv bvv brv : Value) (U V : List ByteArray) (R S : List (List Int)) (w : World) (ha : TabV w (.agg #[avv, arv]) U R) (hb : TabV w (.agg #[bvv, brv]) V S) (hU : RiseS U) (hV : RiseS V) (hu : U.length ≤ 100000) (hm : V.length ≤ 100000)
    (hR : ∀ x ∈ R, x.length = U.length) (hS : ∀ y ∈ S, y.length = V.length) (hr : R.length ≤ 100000) (hs : S.length ≤ 100000) (hrs : R.length * S.length ≤ 1000000) :
    Calls Tryd.prog 12 #[.agg #[avv, arv], .agg #[bvv, brv]] w fun e w' => ∃ vv rv, e = .returned (.agg #[vv, rv]) ∧ Own w.heap.size w' vv rv (setS (U ++ V)) (joinN U V R S) ∧ Ext w w' := by
  obtain ⟨a1, a2⟩ := tabV_parts ha
  obtain ⟨a3, a4⟩ := tabV_parts hb
  obtain ⟨A1, c1, rfl⟩ := rdS_form a1
  obtain ⟨A2, c2, rfl⟩ := rdW_form a2
  obtain ⟨A3, c3, rfl⟩ := rdS_form a3
  obtain ⟨A4, c4, rfl⟩ := rdW_form a4
  have HA := Lib.hid ha
  have HB := Lib.hid hb
  have HA1 := Lib.hid a1
  have HA2 := Lib.hid a2
  have HA3 := Lib.hid a3
  have HA4 := Lib.hid a4
  have HR := Lib.hid hR
  have HS := Lib.hid hS
  have HUU := Lib.hid hU
  have HVV := Lib.hid hV
  have HRS := Lib.hid hrs
  clear ha hb a1 a2 a3 a4 hR hS hU hV hrs
  obtain ⟨h0, h1, h2, h3⟩ := heap_four w (.cells #[.slice A1 U.length c1, .slice A2 R.length c2] 31) (.cells #[.slice A3 V.length c3, .slice A4 S.length c4] 31) (.cells #[.slice none 0 0, .slice none 0 0] 31) (.cells #[.slice A1 U.length c1, .slice A3 V.length c3] 28)
  have HE0 := Lib.hid (ext_alloc (ext_alloc (ext_alloc (ext_alloc (ext_refl w) (.cells #[.slice A1 U.length c1, .slice A2 R.length c2] 31)) (.cells #[.slice A3 V.length c3, .slice A4 S.length c4] 31)) (.cells #[.slice none 0 0, .slice none 0 0] 31)) (.cells #[.slice A1 U.length c1, .slice A3 V.length c3] 28))
  have HH0 := Lib.hid h0
  have HH1 := Lib.hid h1
  have HH2 := Lib.hid h2
  have HH3 := Lib.hid h3
  clear h0 h1 h2 h3
  obtain ⟨J, hJ⟩ : ∃ J, J = U ++ V := ⟨_, rfl⟩
  have hjl : J.length ≤ 200000 := by rw [hJ, List.length_append]; omega
  have HJE := Lib.hid hJ
  clear hJ
  go_enter Tryd.func12, Tryd.ntmps12
  go_wp2_with (first
    | (go_at_call 43; refine (concat_any (w.heap.size + 3) _ _ U V J _ HJE.out HH3.out (rdS_ext HA1.out HE0.out) (rdS_ext HA3.out HE0.out) hu hm).mono ?_; rintro e w1 ⟨A5, c5, rfl, hr1, hE1⟩; have HR1 := Lib.hid hr1; have HE1 := Lib.hid hE1; clear hr1 hE1)
    | (go_at_call 42; refine (vars_any _ J w1 (rdS_row HR1.out.1) (by omega)).mono ?_; rintro e w2 ⟨v2, rfl, hr2, hE2⟩; obtain ⟨A6, c6, rfl⟩ := rowE_form hr2.1; have HR2 := Lib.hid hr2; have HE2 := Lib.hid hE2; have q1 : w2.cell? ⟨w.heap.size, 1, none⟩ = some (.slice A2 R.length c2) := (ext_cell (ext_trans HE1.out hE2) _ _ (block_lt HH0.out)).trans (block_cell HH0.out 1); have l0 := ext_lt (ext_trans HE1.out hE2) (block_lt HH0.out); clear hr2 hE2))
  obtain ⟨H, hH⟩ : ∃ H, H = w.heap.size + 4 := ⟨_, rfl⟩
  obtain ⟨b0, hb0⟩ : ∃ b0, b0 = w.heap.size := ⟨_, rfl⟩
  obtain ⟨b1, hb1⟩ : ∃ b1, b1 = w.heap.size + 1 := ⟨_, rfl⟩
  obtain ⟨b2, hb2⟩ : ∃ b2, b2 = w.heap.size + 1 + 1 := ⟨_, rfl⟩
  obtain ⟨p, hp⟩ : ∃ p, p = w2.heap.size := ⟨_, rfl⟩
  obtain ⟨W2, hW2⟩ : ∃ W2, W2 = w2.alloc (.cells #[.slice A6 (setS J).length c6, .slice none 0 0] 31) := ⟨_, rfl⟩
  have hs1 := ext_size HE1.out
  have hs2 := ext_size HE2.out
  simp only [World.size_alloc] at hs1
  have hE12 := ext_trans HE1.out HE2.out
  have hE2W : Ext w2 W2 := by rw [hW2]; exact ext_alloc (ext_refl _) _
  have hE3 := ext_trans hE12 hE2W
  have hT : TabB H W2 p (setS J) [] := ⟨_, _, by rw [hW2, hp]; exact heap_alloc_new w2 _, rowF_ext _ _ _ hE2W (rowF_low HR2.out (by omega)), [], rowF_nil _ _, rfl, fun i s x hs => by simp at hs⟩
  have HJ := Lib.hid (show JI H b0 b1 b2 p #[.slice A1 U.length c1, .slice A2 R.length c2] #[.slice A3 V.length c3, .slice A4 S.length c4] (setS J) [] w W2 from ⟨hT, by rw [hb0]; exact (ext_block hE3 (block_lt HH0.out)).trans HH0.out, by rw [hb1]; exact (ext_block hE3 (block_lt HH1.out)).trans HH1.out, by rw [hb2]; exact (ext_block hE3 (block_lt HH2.out)).trans HH2.out, by have := ext_size hE2W; omega, ext_trans HE0.out hE3⟩)
  have HBD := Lib.hid (show b0 < H ∧ b1 < H ∧ b2 < H ∧ w.heap.size ≤ H by omega)
  have HB2 := Lib.hid (show w.heap.size ≤ b2 by omega)
  have HPH := Lib.hid (show H ≤ p by omega)
  rw [← hW2, ← hp, ← hb2, ← hb1, ← hb0]
  clear q1 l0 hT hE3 hE2W hE12 hs1 hs2 hW2 hp hb0 hb1 hb2 hH HR1 HR2 HE0 HE1 HE2 HH0 HH1 HH2 HH3
  have hsl := setS_length J
  go_loopw [21] (fun x wr => ∃ j : Nat, j ≤ R.length ∧ x = .int .i64 j ∧ JI H b0 b1 b2 p #[.slice A1 U.length c1, .slice A2 R.length c2] #[.slice A3 V.length c3, .slice A4 S.length c4] (setS J) (joinN U V (R.take j) S) w wr) (fun x _ => R.length - (intOf x).toNat)
  case atStart => exact ⟨0, Nat.zero_le _, rfl, HJ.out⟩
  case round =>
    rename World => wo
    obtain ⟨j, hj, rfl, hJ⟩ := hrel
    have HJ2 := Lib.hid hJ
    clear hJ HJ
    by_cases hlt : j < R.length
    · have hji : (j : Int) < (R.length : Int) := by omega
      have hj0 : (0 : Int) ≤ (j : Int) := by omega
      obtain ⟨x, hx⟩ : ∃ x, R[j]? = some x := ⟨_, List.getElem?_eq_getElem hlt⟩
      have HX := Lib.hid hx
      have HXL := Lib.hid (HR.out x (List.mem_of_getElem? hx))
      obtain ⟨b, o, X, d, rfl, hb, hc, hri⟩ := rdW_at HA2.out hx
      have HRI := Lib.hid hri
      have hc := (ext_cell HJ2.out.ext _ _ hb).trans hc
      have hb := ext_lt HJ2.out.ext hb
      have r1 : wo.cell? ⟨b1, 1, none⟩ = some (.slice A4 S.length c4) := block_cell HJ2.out.b 1
      have l1 := block_lt HJ2.out.b
      clear hx hri
      go_wp2
      clear hc hb r1 l1
      have HLT := Lib.hid hlt
      go_loopw [28] (fun y wr => ∃ k : Nat, k ≤ S.length ∧ y = .int .i64 k ∧ JI H b0 b1 b2 p #[.slice A1 U.length c1, .slice (some ⟨b, o, none⟩) R.length c2] #[.slice A3 V.length c3, .slice A4 S.length c4] (setS J) (joinN U V (R.take j) S ++ ((S.take k).filter (compB U V x)).map (joinR U V x)) w wr) (fun y _ => S.length - (intOf y).toNat)
      case atStart => exact ⟨0, Nat.zero_le _, rfl, by simpa using HJ2.out⟩
      case round =>
        rename World => wi
        obtain ⟨k, hk, rfl, hJ⟩ := hrel
        have HJ3 := Lib.hid hJ
        clear hJ HJ2
        have q0 : wi.cell? ⟨b0, 0, none⟩ = some (.slice A1 U.length c1) := block_cell HJ3.out.a 0
        have q1 : wi.cell? ⟨b0, 1, none⟩ = some (.slice (some ⟨b, o, none⟩) R.length c2) := block_cell HJ3.out.a 1
        have q2 : wi.cell? ⟨b1, 0, none⟩ = some (.slice A3 V.length c3) := block_cell HJ3.out.b 0
        have q3 : wi.cell? ⟨b1, 1, none⟩ = some (.slice A4 S.length c4) := block_cell HJ3.out.b 1
        have l0 := block_lt HJ3.out.a
        have l1 := block_lt HJ3.out.b
        by_cases hkt : k < S.length
        · have hki : (k : Int) < (S.length : Int) := by omega
          have hk0 : (0 : Int) ≤ (k : Int) := by omega
          obtain ⟨y, hy⟩ : ∃ y, S[k]? = some y := ⟨_, List.getElem?_eq_getElem hkt⟩
          have HY := Lib.hid hy
          have HYL := Lib.hid (HS.out y (List.mem_of_getElem? hy))
          obtain ⟨b', o', Y, d', rfl, hb', hc', hri⟩ := rdW_at HA4.out hy
          have HRY := Lib.hid (rdI_ext hri HJ3.out.ext)
          have hc' := (ext_cell HJ3.out.ext _ _ hb').trans hc'
          have hb' := ext_lt HJ3.out.ext hb'
          have HRX := Lib.hid (rdI_ext HRI.out HJ3.out.ext)
          have hmid := joinN_mid U V R S x HLT.out hkt
          have HMID := Lib.hid (show (joinN U V (R.take j) S ++ ((S.take k).filter (compB U V x)).map (joinR U V x)).length < 1000000 by have := HRS.out; omega)
          clear hy hri hmid
          have CC := Lib.hid (comp_any (.agg #[.slice A1 U.length c1, .slice (some ⟨b, o, none⟩) R.length c2]) (.agg #[.slice A3 V.length c3, .slice (some ⟨b', o', none⟩) S.length c4]) (.slice X x.length d) (.slice Y y.length d') U V R S x y wi (tabV_ext HA.out HJ3.out.ext) (tabV_ext HB.out HJ3.out.ext) HRX.out HRY.out HVV.out (by omega) (by omega) HXL.out HYL.out)
          obtain ⟨cb, hcb⟩ : ∃ cb, cb = compB U V x y := ⟨_, rfl⟩
          rw [← hcb] at CC
          have HCB := Lib.hid hcb
          clear hcb
          cases cb
          · go_wp2_with (go_at_call 44; refine CC.out.mono ?_; rintro e w1 ⟨rfl, hE1⟩; have HJ4 := Lib.hid (HJ3.out.on hE1); clear hE1)
            go_roundw
            case rel => exact ⟨k + 1, by omega, by go_num, by rw [joinN_no HY.out HCB.out.symm]; exact HJ4.out⟩
            case measure => simp [intOf]; omega
          · go_wp2_with (first
              | (go_at_call 44; refine CC.out.mono ?_; rintro e w1 ⟨rfl, hE1⟩; have HE1 := Lib.hid hE1; have HJ4 := Lib.hid (HJ3.out.on hE1); have q4 : w1.cell? ⟨b0, 0, none⟩ = some (.slice A1 U.length c1) := block_cell HJ4.out.a 0; have q5 : w1.cell? ⟨b0, 1, none⟩ = some (.slice (some ⟨b, o, none⟩) R.length c2) := block_cell HJ4.out.a 1; have q6 : w1.cell? ⟨b1, 0, none⟩ = some (.slice A3 V.length c3) := block_cell HJ4.out.b 0; have q7 : w1.cell? ⟨b1, 1, none⟩ = some (.slice (some ⟨b', o', none⟩) S.length c4) := block_cell HJ4.out.b 1; have l4 := block_lt HJ4.out.a; have l5 := block_lt HJ4.out.b; clear hE1 q0 q1 q2 q3 l0 l1)
              | (go_at_call 45; refine (joined_any H p _ _ _ _ _ _ (setS J) U V _ R S x y w1 HJ4.out.tab (tabV_ext HA.out HJ4.out.ext) (tabV_ext HB.out HJ4.out.ext) (rdI_ext HRX.out HE1.out) (rdI_ext HRY.out HE1.out) HUU.out HVV.out (by omega) (by omega) HXL.out HYL.out HPH.out HJ4.out.size (by omega) HMID.out).mono ?_; rintro e w2 ⟨rfl, hT2, hU2⟩; have HJ5 := Lib.hid (HJ4.out.more hT2 hU2 HBD.out); clear hT2 hU2))
            go_roundw
            case rel => exact ⟨k + 1, by omega, by go_num, by rw [joinN_yes HY.out HCB.out.symm, ← List.append_assoc]; have := HJ5.out; rw [HJE.out] at this ⊢; exact this⟩
            case measure => simp [intOf]; omega
        · obtain rfl : k = S.length := by omega
          go_wp2
          go_roundw
          case rel => exact ⟨j + 1, by have := HLT.out; omega, by go_num, by rw [joinN_take HX.out]; have := HJ3.out; rw [List.take_length] at this; exact this⟩
          case measure => have := HLT.out; simp [intOf]; omega
    · obtain rfl : j = R.length := by omega
      have hT := HJ2.out.tab
      rw [List.take_length] at hT
      obtain ⟨vv, rv, hp, how⟩ := hT
      obtain ⟨A7, c7, rfl⟩ := rdS_form (rdS_row how.1.1)
      obtain ⟨A8, c8, rfl⟩ := rdW_form (own_rdW how)
      obtain ⟨N, hN⟩ : ∃ N, N = joinN U V R S := ⟨_, rfl⟩
      rw [← hN] at how hp
      have q0 : wo.cell? ⟨p, 0, none⟩ = some (.slice A7 (setS J).length c7) := block_cell hp 0
      have q1 : wo.cell? ⟨p, 1, none⟩ = some (.slice A8 N.length c8) := block_cell hp 1
      have lp := block_lt hp
      have r0 : wo.cell? ⟨b2, 0, none⟩ = some (.slice none 0 0) := block_cell HJ2.out.r 0
      have r1 : wo.cell? ⟨b2, 1, none⟩ = some (.slice none 0 0) := block_cell HJ2.out.r 1
      have s0 : wo.frozen? ⟨b2, 0, none⟩ = false := block_frozen HJ2.out.r 0
      have s1 : wo.frozen? ⟨b2, 1, none⟩ = false := block_frozen HJ2.out.r 1
      have l1 := block_lt HJ2.out.r
      have HOW := Lib.hid how
      have HN := Lib.hid hN
      clear hp how hN
      go_wp2
      obtain ⟨wf, hwf⟩ : ∃ wf, wf = (wo.setCell ⟨b2, 0, none⟩ (.slice A7 (setS J).length c7)).setCell ⟨b2, 1, none⟩ (.slice A8 N.length c8) := ⟨_, rfl⟩
      obtain ⟨t0, t1, ho, he⟩ := fin_tab (w := w) hwf HOW.out HJ2.out.r HBD.out.2.2.1 HB2.out HJ2.out.ext
      rw [← hwf]
      refine bodyPost_ret (v := .agg #[.slice A7 (setS J).length c7, .slice A8 N.length c8]) (by simp [results, Tryd.results12, go_sem, t0, t1]) rfl ?_
      rw [HJE.out, HN.out] at ho
      rw [HJE.out, HN.out]
      exact ⟨_, _, rfl, ho, he⟩
end Go.Proofs.YtniggdaakiofeaaDoor
