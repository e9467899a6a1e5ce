/- The document's Join. -/
import Derived.Test.YtniggdaakiofeaaDoorTb
import Derived.Test.YtniggdaakiofeaaDoorSl
namespace Go.Proofs.YtniggdaakiofeaaDoor
open Go Go.RowKit Go.Sort
set_option maxHeartbeats 4000000

theorem uw_cell {fp : Nat → Prop} {W : World} {b o : Nat} {u : Value} (h : W.cell? ⟨b, o, none⟩ = some u) (hb : b < W.heap.size) (hn : ¬ fp b) : ∀ pw : UW fp W, pw.val.cell? ⟨b, o, none⟩ = some u := fun pw => (upd_cell pw.ok hb hn o).trans h
/-- a table of the document that is being built, beside boxes of two tables and the result's cell -/
structure RI (H b0 b1 b2 p : Nat) (ca cb : Array Value) (VV : List ByteArray) (T : List (List VarN)) (w wr : World) : Prop where
  tab : TDB (fun g => H ≤ g) wr p VV T
  a : wr.heap[b0]? = some (.cells ca 34 (0, 0))
  b : wr.heap[b1]? = some (.cells cb 34 (0, 0))
  r : wr.heap[b2]? = some (.cells #[.slice none 0 0, .slice none 0 0] 34 (0, 0))
  size : H ≤ wr.heap.size
  ext : Ext w wr
theorem RI.on {H b0 b1 b2 p : Nat} {ca cb : Array Value} {VV : List ByteArray} {T : List (List VarN)} {w wr w' : World} (h : RI H b0 b1 b2 p ca cb VV T w wr) (hE : Ext wr w') : RI H b0 b1 b2 p ca cb VV T w w' :=
  ⟨tDB_ext h.tab hE, (ext_block hE (block_lt h.a)).trans h.a, (ext_block hE (block_lt h.b)).trans h.b, (ext_block hE (block_lt h.r)).trans h.r, Nat.le_trans h.size (ext_size hE), ext_trans h.ext hE⟩
theorem RI.more {H b0 b1 b2 p : Nat} {ca cb : Array Value} {VV : List ByteArray} {T T' : List (List VarN)} {w wr w' : World} (h : RI H b0 b1 b2 p ca cb VV T w wr) (hT : TDB (fun g => H ≤ g) w' p VV T') (hU : Upd (fun b => H ≤ b) wr w') (hb : b0 < H ∧ b1 < H ∧ b2 < H ∧ w.heap.size ≤ H) : RI H b0 b1 b2 p ca cb VV T' w w' :=
  ⟨hT, (hU.block b0 (block_lt h.a) (by omega)).trans h.a, (hU.block b1 (block_lt h.b) (by omega)).trans h.b, (hU.block b2 (block_lt h.r) (by omega)).trans h.r, Nat.le_trans h.size hU.size, ext_upd h.ext hU (fun b hb' => by omega)⟩
theorem fin_td {H b : Nat} {w wo wf : World} {v0 v1 u0 u1 : Value} {VV : List ByteArray} {T : List (List VarN)} (hwf : wf = (wo.setCell ⟨b, 0, none⟩ v0).setCell ⟨b, 1, none⟩ v1) (how : TD wo (.agg #[v0, v1]) VV T) (hb : wo.heap[b]? = some (.cells #[u0, u1] 34 (0, 0))) (hw : w.heap.size ≤ b) (hE : Ext w wo) :
    wf.cell? ⟨b, 0, none⟩ = some v0 ∧ wf.cell? ⟨b, 1, none⟩ = some v1 ∧ TD wf (.agg #[v0, v1]) VV T ∧ Ext w wf := by
  have hbf : wf.heap[b]? = some (.cells #[v0, v1] 34 (0, 0)) := by
    have := heap_setCell_at (j := 1) (u := v1) (heap_setCell_at (j := 0) (u := v0) hb)
    rw [hwf]
    exact this
  have hUf : Upd (fun x => x = b) wo wf := by
    rw [hwf]
    exact upd_trans (fp := fun x => x = b) (upd_setCell (a := ⟨b, 0, none⟩) _) (upd_setCell (a := ⟨b, 1, none⟩) _) (fun _ _ h => h)
  obtain ⟨h1, sl, h2, h3⟩ := tD_parts how
  have hoff : ∀ t', t' ≠ 34 → ∀ x, x = b → ∀ cur t, wo.heap[x]? = some (.cells cur t (0, 0)) → t ≠ t' := fun t' n x hx cur t ht => by
    subst hx
    rw [hb] at ht
    simp only [Option.some.injEq, Obj.cells.injEq] at ht
    rw [← ht.2.1]
    exact fun e => n e.symm
  exact ⟨block_cell hbf 0, block_cell hbf 1, ⟨v0, v1, rfl, rowE_off_upd h1 hUf (hoff _ (by decide)), sl, rowE_off_upd h2 hUf (hoff _ (by decide)), h3.1, fun i s r hs hr => rowE_off_upd (h3.2 i s r hs hr) hUf (hoff _ (by decide))⟩, ext_upd hE hUf (fun x hx => by have : x = b := hx; omega)⟩
def joinQ (R S : List (List VarN)) : List (List VarN) := R.flatMap fun r => (S.filter (compD r)).map (joinD r)
theorem joinQ_take {R S : List (List VarN)} {j : Nat} {x : List VarN} (hx : R[j]? = some x) : joinQ (R.take (j + 1)) S = joinQ (R.take j) S ++ (S.filter (compD x)).map (joinD x) := by
  unfold joinQ
  rw [List.take_add_one, hx, Option.toList_some, List.flatMap_append]
  simp
theorem joinQ_yes {S : List (List VarN)} {k : Nat} {x y : List VarN} (hy : S[k]? = some y) (h : compD x y = true) : ((S.take (k + 1)).filter (compD x)).map (joinD x) = ((S.take k).filter (compD x)).map (joinD x) ++ [joinD x y] := by
  rw [List.take_add_one, hy, Option.toList_some, List.filter_append]
  simp [h]
theorem joinQ_no {S : List (List VarN)} {k : Nat} {x y : List VarN} (hy : S[k]? = some y) (h : compD x y = false) : ((S.take (k + 1)).filter (compD x)).map (joinD x) = ((S.take k).filter (compD x)).map (joinD x) := by
  rw [List.take_add_one, hy, Option.toList_some, List.filter_append]
  simp [h]
theorem joinQ_len (R S : List (List VarN)) : (joinQ R S).length ≤ R.length * S.length := by
  induction R with
  | nil => simp [joinQ]
  | cons x R ih =>
    unfold joinQ at ih ⊢
    rw [List.flatMap_cons, List.length_append, List.length_map, List.length_cons, Nat.add_mul, Nat.one_mul]
    have := List.length_filter_le (compD x) S
    omega
theorem joinQ_mid (R S : List (List VarN)) (x : List VarN) {j k : Nat} (hj : j < R.length) (hk : k < S.length) : (joinQ (R.take j) S ++ ((S.take k).filter (compD x)).map (joinD x)).length < R.length * S.length := by
  have h1 := joinQ_len (R.take j) S
  have h2 := List.length_filter_le (compD x) (S.take k)
  rw [List.length_take, Nat.min_eq_left (by omega)] at h1 h2
  rw [List.length_append, List.length_map]
  have h3 : (j + 1) * S.length ≤ R.length * S.length := Nat.mul_le_mul_right _ hj
  rw [Nat.add_mul, Nat.one_mul] at h3
  omega

set_option maxRecDepth 100000 in
theorem rjoin_any (avv arv bvv brv : Value) (U V : List ByteArray) (R S : List (List VarN)) (w : World) (ha : TD w (.agg #[avv, arv]) U R) (hb : TD w (.agg #[bvv, brv]) V S) (hu : U.length ≤ 40000) (hm : V.length ≤ 40000)
    (hR : ∀ x ∈ R, x.length ≤ 40000) (hS : ∀ y ∈ S, y.length ≤ 40000) (hr : R.length ≤ 100000) (hs : S.length ≤ 100000) (hrs : R.length * S.length ≤ 1000000) :
    Calls Tryd.prog 15 #[.agg #[avv, arv], .agg #[bvv, brv]] w fun e w' => ∃ vv rv, e = .returned (.agg #[vv, rv]) ∧ TD w' (.agg #[vv, rv]) (setS (U ++ V)) (joinQ R S) ∧ (∀ g, rv.ownBlock = some g → w.heap.size ≤ g) ∧ Ext w w' := by
  obtain ⟨a1, a2⟩ := tD_parts ha
  obtain ⟨a3, a4⟩ := tD_parts hb
  obtain ⟨A1, c1, rfl⟩ := rowE_form a1
  obtain ⟨A2, c2, rfl⟩ := rdQ_form a2
  obtain ⟨A3, c3, rfl⟩ := rowE_form a3
  obtain ⟨A4, c4, rfl⟩ := rdQ_form a4
  have HA1 := Lib.hid a1
  have HA2 := Lib.hid a2
  have HA3 := Lib.hid a3
  have HA4 := Lib.hid a4
  have HR := Lib.hid hR
  have HS := Lib.hid hS
  have HRS := Lib.hid hrs
  clear ha hb a1 a2 a3 a4 hR hS hrs
  obtain ⟨h0, h1, h2⟩ := heap_three w (.cells #[.slice A1 U.length c1, .slice A2 R.length c2] 34) (.cells #[.slice A3 V.length c3, .slice A4 S.length c4] 34) (.cells #[.slice none 0 0, .slice none 0 0] 34)
  have HE0 := Lib.hid (ext_alloc (ext_alloc (ext_alloc (ext_refl w) (.cells #[.slice A1 U.length c1, .slice A2 R.length c2] 34)) (.cells #[.slice A3 V.length c3, .slice A4 S.length c4] 34)) (.cells #[.slice none 0 0, .slice none 0 0] 34))
  have HH0 := Lib.hid h0
  have HH1 := Lib.hid h1
  have HH2 := Lib.hid h2
  clear h0 h1 h2
  go_enter Tryd.func15, Tryd.ntmps15
  go_wp2_with (go_at_call 26; refine (both_any _ _ U V _ (rdS_row (rowE_ext HA1.out HE0.out)) (rdS_row (rowE_ext HA3.out HE0.out)) hu hm).mono ?_; rintro e w2 ⟨v2, rfl, hr2, hE2⟩; obtain ⟨A6, c6, rfl⟩ := rowE_form hr2; have HR2 := Lib.hid hr2; have HE2 := Lib.hid hE2; have q1 : w2.cell? ⟨w.heap.size, 1, none⟩ = some (.slice A2 R.length c2) := (ext_cell hE2 _ _ (block_lt HH0.out)).trans (block_cell HH0.out 1); have l0 := ext_lt hE2 (block_lt HH0.out); clear hr2 hE2)
  obtain ⟨H, hH⟩ : ∃ H, H = w.heap.size + 3 := ⟨_, rfl⟩
  obtain ⟨b0, hb0⟩ : ∃ b0, b0 = w.heap.size := ⟨_, rfl⟩
  obtain ⟨b1, hb1⟩ : ∃ b1, b1 = w.heap.size + 1 := ⟨_, rfl⟩
  obtain ⟨b2, hb2⟩ : ∃ b2, b2 = w.heap.size + 1 + 1 := ⟨_, rfl⟩
  obtain ⟨p, hp⟩ : ∃ p, p = w2.heap.size := ⟨_, rfl⟩
  obtain ⟨VV, hVV⟩ : ∃ VV, VV = setS (U ++ V) := ⟨_, rfl⟩
  rw [← hVV] at HR2 ⊢
  obtain ⟨W2, hW2⟩ : ∃ W2, W2 = w2.alloc (.cells #[.slice A6 VV.length c6, .slice none 0 0] 34) := ⟨_, rfl⟩
  have hs1 := ext_size HE2.out
  simp only [World.size_alloc] at hs1
  have hE2W : Ext w2 W2 := by rw [hW2]; exact ext_alloc (ext_refl _) _
  have hE3 := ext_trans HE2.out hE2W
  have hT : TDB (fun g => H ≤ g) W2 p VV [] := ⟨_, _, [], by rw [hW2, hp]; exact heap_alloc_new w2 _, rowE_ext HR2.out hE2W, ⟨rowE_nil _, fun g hg => by cases hg⟩, rowsQ_nil _⟩
  have HJ := Lib.hid (show RI H b0 b1 b2 p #[.slice A1 U.length c1, .slice A2 R.length c2] #[.slice A3 V.length c3, .slice A4 S.length c4] VV [] w W2 from ⟨hT, by rw [hb0]; exact (ext_block hE3 (block_lt HH0.out)).trans HH0.out, by rw [hb1]; exact (ext_block hE3 (block_lt HH1.out)).trans HH1.out, by rw [hb2]; exact (ext_block hE3 (block_lt HH2.out)).trans HH2.out, by have := ext_size hE2W; omega, ext_trans HE0.out hE3⟩)
  have HBD := Lib.hid (show b0 < H ∧ b1 < H ∧ b2 < H ∧ w.heap.size ≤ H by omega)
  have HB2 := Lib.hid (show w.heap.size ≤ b2 by omega)
  have HPH := Lib.hid (show H ≤ p by omega)
  rw [← hW2, ← hp, ← hb2, ← hb1, ← hb0]
  have HVE := Lib.hid hVV
  clear q1 l0 hT hE3 hE2W hs1 hW2 hp hb0 hb1 hb2 hH HR2 HE0 HE2 HH0 HH1 HH2 hVV
  go_loopw [17] (fun x wr => ∃ j : Nat, j ≤ R.length ∧ x = .int .i64 j ∧ RI H b0 b1 b2 p #[.slice A1 U.length c1, .slice A2 R.length c2] #[.slice A3 V.length c3, .slice A4 S.length c4] VV (joinQ (R.take j) S) w wr) (fun x _ => R.length - (intOf x).toNat)
  case atStart => exact ⟨0, Nat.zero_le _, rfl, HJ.out⟩
  case round =>
    rename World => wo
    obtain ⟨j, hj, rfl, hJ⟩ := hrel
    have HJ2 := Lib.hid hJ
    clear hJ HJ
    by_cases hlt : j < R.length
    · have hji : (j : Int) < (R.length : Int) := by omega
      have hj0 : (0 : Int) ≤ (j : Int) := by omega
      obtain ⟨x, hx⟩ : ∃ x, R[j]? = some x := ⟨_, List.getElem?_eq_getElem hlt⟩
      have HX := Lib.hid hx
      have HXL := Lib.hid (HR.out x (List.mem_of_getElem? hx))
      obtain ⟨b, X, d, rfl, hb, hc, hri⟩ := rdQ_at HA2.out hx
      have HRI := Lib.hid hri
      have HC := Lib.hid hc
      have HB := Lib.hid hb
      have r1 : wo.cell? ⟨b1, 1, none⟩ = some (.slice A4 S.length c4) := block_cell HJ2.out.b 1
      have l1 := block_lt HJ2.out.b
      clear hx hri hc hb
      go_wp2
      clear r1 l1
      go_loopw [23] (fun y wr => ∃ k : Nat, k ≤ S.length ∧ y = .int .i64 k ∧ RI H b0 b1 b2 p #[.slice A1 U.length c1, .slice (some ⟨b, 0, none⟩) R.length c2] #[.slice A3 V.length c3, .slice A4 S.length c4] VV (joinQ (R.take j) S ++ ((S.take k).filter (compD x)).map (joinD x)) w wr) (fun y _ => S.length - (intOf y).toNat)
      case atStart => exact ⟨0, Nat.zero_le _, rfl, by simpa using HJ2.out⟩
      case round =>
        rename World => wi
        obtain ⟨k, hk, rfl, hJ⟩ := hrel
        have HJ3 := Lib.hid hJ
        clear hJ HJ2
        by_cases hkt : k < S.length
        · have hki : (k : Int) < (S.length : Int) := by omega
          have hk0 : (0 : Int) ≤ (k : Int) := by omega
          obtain ⟨y, hy⟩ : ∃ y, S[k]? = some y := ⟨_, List.getElem?_eq_getElem hkt⟩
          have HY := Lib.hid hy
          have HYL := Lib.hid (HS.out y (List.mem_of_getElem? hy))
          obtain ⟨b', Y, d', rfl, hb', hc', hri⟩ := rdQ_at HA4.out hy
          have HRY := Lib.hid hri
          have q1 : wi.cell? ⟨b0, 1, none⟩ = some (.slice (some ⟨b, 0, none⟩) R.length c2) := block_cell HJ3.out.a 1
          have q3 : wi.cell? ⟨b1, 1, none⟩ = some (.slice (some ⟨b', 0, none⟩) S.length c4) := block_cell HJ3.out.b 1
          have l0 := block_lt HJ3.out.a
          have l1 := block_lt HJ3.out.b
          have q4 := (ext_cell HJ3.out.ext _ _ HB.out).trans HC.out
          have l4 := ext_lt HJ3.out.ext HB.out
          have q5 := (ext_cell HJ3.out.ext _ _ hb').trans hc'
          have l5 := ext_lt HJ3.out.ext hb'
          have HB' := Lib.hid hb'
          have HC' := Lib.hid hc'
          have hmid := joinQ_mid R S x hlt hkt
          have hmid' : (joinQ (R.take j) S ++ ((S.take k).filter (compD x)).map (joinD x)).length < 1000000 := by have := HRS.out; omega
          obtain ⟨TT, hTT⟩ : ∃ TT, TT = joinQ (R.take j) S ++ ((S.take k).filter (compD x)).map (joinD x) := ⟨_, rfl⟩
          rw [← hTT] at HJ3 hmid'
          have HTT := Lib.hid hTT
          clear hy hri hmid hTT hb' hc'
          have CC := Lib.hid (show ∀ w', Ext wi w' → Calls Tryd.prog 49 #[.slice X x.length d, .slice Y y.length d'] w' (fun e w'' => e = .returned (.bool (compD x y)) ∧ Ext w' w'') from fun w' hE => (rcomp_any (.slice X x.length d) (.slice Y y.length d') x y w' (rowE_ext HRI.out (ext_trans HJ3.out.ext hE)) (rowE_ext HRY.out (ext_trans HJ3.out.ext hE)) (by have := HXL.out; omega) (by have := HYL.out; omega)).mono fun e w'' h => ⟨h.1, h.2 ▸ ext_refl _⟩)
          obtain ⟨cb, hcb⟩ : ∃ cb, cb = compD x y := ⟨_, rfl⟩
          rw [← hcb] at CC
          have HCB := Lib.hid hcb
          clear hcb
          have hgc := cell_grown
          go_wp2
          refine wp_region_free 11 [0, 1, 2, 3, 4, 5, 6, 7, 8, 9, 10] [] (by kernel_rfl) (by kernel_rfl) ?_
          repeat (refine wpLoose_step rfl (fun K hK => ?_); (try simp only [Oper.quietAt, Oper.quietUpon]); go_simp; first | (refine hK _ ?_; clear hK K) | (apply Exists.intro; refine ⟨fun p => ?_, hK _ ?_⟩; (go_at_call 49; exact CC.out _ (ext_grow (ext_refl _) _ _)); clear hK K))
          refine wpLoose_nil (wpFresh_nil (fun w3 hE3 _ => ?_))
          have HJ4 := Lib.hid (HJ3.out.on hE3)
          clear hE3 q1 q3 q4 q5 l0 l1 l4 l5 hgc
          simp only [List.drop_succ_cons, List.drop_zero]
          refine wpList_nil ?_
          cases cb
          · go_wp2
            go_roundw
            case rel => exact ⟨k + 1, by omega, by go_num, by rw [joinQ_no HY.out HCB.out.symm, ← HTT.out]; exact HJ4.out⟩
            case measure => simp [intOf]; omega
          · go_wp2
            obtain ⟨vv, rv, sl, t1, t2, t3, t4⟩ := HJ4.out.tab
            obtain ⟨A8, c8, hrv⟩ := rowE_form t3.1
            subst hrv
            have hfp : ∀ q, q < H → ¬ (Value.slice A8 sl.length c8).ownBlock = some q := fun q hq e => by have := t3.2 q e; omega
            have hpp : ¬ (Value.slice A8 sl.length c8).ownBlock = some p := fun e => rowE_off t3.1 t1 (by decide) e
            have hwH := HBD.out.2.2.2
            have u0 : ∀ pw : UW (fun q => (Value.slice A8 sl.length c8).ownBlock = some q) w3, pw.val.cell? ⟨p, 1, none⟩ = some (.slice A8 sl.length c8) := uw_cell (block_cell t1 1) (block_lt t1) hpp
            have u1 : ∀ pw : UW (fun q => (Value.slice A8 sl.length c8).ownBlock = some q) w3, pw.val.cell? ⟨b0, 1, none⟩ = some (.slice (some ⟨b, 0, none⟩) R.length c2) := uw_cell (block_cell HJ4.out.a 1) (block_lt HJ4.out.a) (hfp _ HBD.out.1)
            have u2 : ∀ pw : UW (fun q => (Value.slice A8 sl.length c8).ownBlock = some q) w3, pw.val.cell? ⟨b1, 1, none⟩ = some (.slice (some ⟨b', 0, none⟩) S.length c4) := uw_cell (block_cell HJ4.out.b 1) (block_lt HJ4.out.b) (hfp _ HBD.out.2.1)
            have u3 : ∀ pw : UW (fun q => (Value.slice A8 sl.length c8).ownBlock = some q) w3, pw.val.cell? ⟨b, j, none⟩ = some (.slice X x.length d) := uw_cell ((ext_cell HJ4.out.ext _ _ HB.out).trans HC.out) (ext_lt HJ4.out.ext HB.out) (hfp _ (Nat.lt_of_lt_of_le HB.out hwH))
            have u4 : ∀ pw : UW (fun q => (Value.slice A8 sl.length c8).ownBlock = some q) w3, pw.val.cell? ⟨b', k, none⟩ = some (.slice Y y.length d') := uw_cell ((ext_cell HJ4.out.ext _ _ HB'.out).trans HC'.out) (ext_lt HJ4.out.ext HB'.out) (hfp _ (Nat.lt_of_lt_of_le HB'.out hwH))
            have T1 := Lib.hid t1
            have T2 := Lib.hid t2
            have T3 := Lib.hid t3
            have T4 := Lib.hid t4
            have HFP := Lib.hid hfp
            have HPP := Lib.hid hpp
            have hll : sl.length ≤ 1000000 := by rw [t4.1]; omega
            clear t1 t2 t3 t4 hfp hpp hwH
            refine wp_region_upd (fp := fun q => (Value.slice A8 sl.length c8).ownBlock = some q) [] [0, 1, 2, 3, 4, 5, 6, 7, 8, 9, 10, 11] [(12, rowF elP 0 (joinD x y)), (13, fun v w' => ∃ s, oneF elQ 0 s v w' ∧ rowE elP w' (slV s) (joinD x y))] 14 (fun v w' => ∃ s, rowG elQ (fun g => H ≤ g) (sl ++ [s]) v w' ∧ rowE elP w' (slV s) (joinD x y)) [15, 16] [12, 13, 14] rfl (by kernel_rfl) (by kernel_rfl) (by kernel_rfl) (fun _ _ d _ _ h => by cases d <;> exact h) ?_
            refine wpPre_nil ?_
            repeat (refine wpU_step rfl (fun K hK => ?_); (try simp only [Oper.quietAt, Oper.quietUpon]); go_simp; (refine hK _ ?_; clear hK K))
            refine wpU_nil ?_
            refine wpGen_step rfl rfl rowF_ext (fun w6 hE6 hS6 => ?_) (fun v1 => ?_)
            · simp only [runsAt]
              go_simp
              refine (rjoined_any _ _ x y w6 (rowE_ext HRI.out (ext_trans HJ4.out.ext hE6)) (rowE_ext HRY.out (ext_trans HJ4.out.ext hE6)) HXL.out HYL.out).mono ?_
              rintro e w7 ⟨v', rfl, h3, h4⟩
              exact ⟨_, rfl, h4, rowF0 h3⟩
            refine wpGen_step rfl rfl (fun v a b hE ⟨s, h1, h2⟩ => ⟨s, oneF_ext _ _ _ hE h1, rowE_ext h2 hE⟩) (fun w6 hE6 hS6 => ?_) (fun v2 => ?_)
            · have hr6 : rowF elP 0 (joinD x y) v1 w6 := hS6 _ (List.mem_cons_self ..) (by kernel_rfl)
              obtain ⟨B9, d9, rfl⟩ := rowE_form hr6.1
              simp only [runsAt]
              go_simp
              exact ⟨ext_alloc (ext_refl _) _, B9, (joinD x y).length, d9, ⟨_, rfl, Nat.zero_le _, heap_alloc_new w6 _⟩, rowE_ext hr6.1 (ext_alloc (ext_refl _) _)⟩
            refine wpGen_nil ?_
            refine ⟨⟨_, rfl, rfl, fun v a b hE ⟨s, h1, h2⟩ => ⟨s, rowG_ext _ _ _ hE h1, rowE_ext h2 hE⟩⟩, fun w6 hE6 hS6 o ho => ?_, fun o ho v w6 hU6 hR6 => ?_⟩
            · cases ho
              obtain ⟨s, h1, h2⟩ : ∃ s, oneF elQ 0 s v2 w6 ∧ rowE elP w6 (slV s) (joinD x y) := hS6 _ (List.mem_cons_self ..)
              refine runs_append (sv := .slice A8 sl.length c8) (xv := v2) (.tmp 38) (.tmp 50) rfl rfl rfl ?_
              obtain ⟨v', w', hrun, hr, hg⟩ := append_ok tpQ 32 (fun g => H ≤ g) _ v2 sl [s] w6 (rowG_ext _ _ _ hE6 T3.out) (srcOf_one h1) (by simp; omega) (fun b hb => Nat.le_trans HJ4.out.size (Nat.le_trans (ext_size hE6) hb))
              refine ⟨v', w', hrun, upd_grown hg, s, hr, rowE_off_upd h2 (upd_grown hg) (fun b hf cur t hbt => ?_)⟩
              obtain ⟨_, cur', hc'⟩ := rowE_block (rowE_ext T3.out.1 hE6) hf
              rw [hbt] at hc'
              simp only [Option.some.injEq, Obj.cells.injEq] at hc'
              rw [hc'.2.1]
              decide
            · cases ho
              obtain ⟨s, h1, h2⟩ := hR6
              obtain ⟨hT6, hU7⟩ := tDB_more5 T1.out T2.out T3.out T4.out h2 hU6 h1
              have HJ5 := Lib.hid (HJ4.out.more hT6 (upd_mono hU7 (fun q _ hq => hq.elim (fun e => T3.out.2 q e) (fun e => e ▸ HPH.out))) HBD.out)
              have hb6 := (hU6.block p (block_lt T1.out) HPP.out).trans T1.out
              have qf := block_frozen hb6 1
              have qc : w6.cell? ⟨p, 1, none⟩ = some (.slice A8 sl.length c8) := block_cell hb6 1
              have lp := block_lt hb6
              obtain ⟨A5, c5, rfl⟩ := rowE_form h1.1
              obtain ⟨n5, hn5⟩ : ∃ n5, n5 = (sl ++ [s]).length := ⟨_, rfl⟩
              rw [← hn5] at HJ5 ⊢
              clear hT6 hU7 h1 h2 hb6 hn5 u0 u1 u2 u3 u4
              refine wpSeq_of_list [15, 16] [_, _] _ _ rfl ?_
              go_wp2
              go_roundw
              case rel => exact ⟨k + 1, by omega, by go_num, by rw [joinQ_yes HY.out HCB.out.symm, ← List.append_assoc, ← HTT.out]; exact HJ5.out⟩
              case measure => simp [intOf]; omega
        · obtain rfl : k = S.length := by omega
          go_wp2
          go_roundw
          case rel => exact ⟨j + 1, by omega, by go_num, by rw [joinQ_take HX.out]; have := HJ3.out; rw [List.take_length] at this; exact this⟩
          case measure => simp [intOf]; omega
    · obtain rfl : j = R.length := by omega
      have hT := HJ2.out.tab
      rw [List.take_length] at hT
      obtain ⟨N, hN⟩ : ∃ N, N = joinQ R S := ⟨_, rfl⟩
      rw [← hN] at hT
      obtain ⟨vv, rv, sl, t1, t2, t3, t4⟩ := hT
      obtain ⟨A7, c7, rfl⟩ := rowE_form t2
      obtain ⟨A8, c8, rfl⟩ := rowE_form t3.1
      have q0 : wo.cell? ⟨p, 0, none⟩ = some (.slice A7 VV.length c7) := block_cell t1 0
      have q1 : wo.cell? ⟨p, 1, none⟩ = some (.slice A8 sl.length c8) := block_cell t1 1
      have lp := block_lt t1
      have r0 : wo.cell? ⟨b2, 0, none⟩ = some (.slice none 0 0) := block_cell HJ2.out.r 0
      have r1 : wo.cell? ⟨b2, 1, none⟩ = some (.slice none 0 0) := block_cell HJ2.out.r 1
      have s0 : wo.frozen? ⟨b2, 0, none⟩ = false := block_frozen HJ2.out.r 0
      have s1 : wo.frozen? ⟨b2, 1, none⟩ = false := block_frozen HJ2.out.r 1
      have l1 := block_lt HJ2.out.r
      have HOW := Lib.hid (show TD wo (.agg #[.slice A7 VV.length c7, .slice A8 sl.length c8]) VV N from ⟨_, _, rfl, t2, sl, t3.1, t4⟩)
      have HFR := Lib.hid (show ∀ g, (Value.slice A8 sl.length c8).ownBlock = some g → w.heap.size ≤ g from fun g hg => Nat.le_trans HBD.out.2.2.2 (t3.2 g hg))
      have HN := Lib.hid hN
      clear t1 t2 t3 t4 hN
      go_wp2
      obtain ⟨wf, hwf⟩ : ∃ wf, wf = (wo.setCell ⟨b2, 0, none⟩ (.slice A7 VV.length c7)).setCell ⟨b2, 1, none⟩ (.slice A8 sl.length c8) := ⟨_, rfl⟩
      obtain ⟨t0, t1, ho, he⟩ := fin_td (H := H) (w := w) hwf HOW.out HJ2.out.r HB2.out HJ2.out.ext
      rw [← hwf]
      refine bodyPost_ret (v := .agg #[.slice A7 VV.length c7, .slice A8 sl.length c8]) (by simp [results, Tryd.results15, go_sem, t0, t1]) rfl ?_
      rw [HN.out] at ho
      rw [← HVE.out]
      exact ⟨_, _, rfl, ho, HFR.out, he⟩
end Go.Proofs.YtniggdaakiofeaaDoor
