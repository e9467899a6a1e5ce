/- The document's Sort. -/
import Derived.Test.YtniggdaakiofeaaDoorEd
import Derived.Test.YtniggdaakiofeaaDoorEj
import Derived.Test.YtniggdaakiofeaaDoorEe
namespace Go.Proofs.YtniggdaakiofeaaDoor
open Go Go.RowKit Go.Sort
set_option maxHeartbeats 8000000
/- of this seat alone: 80 -/

/-- a document's table that is being built out of another one -/
structure DI (b0 b2 p : Nat) (ca : Array Value) (VV : List ByteArray) (T : List (List VarN)) (w wr : World) : Prop where
  tab : TDB (fun g => p ≤ g) wr p VV T
  a : wr.heap[b0]? = some (.cells ca 34 (0, 0))
  r : wr.heap[b2]? = some (.cells #[.slice none 0 0, .slice none 0 0] 34 (0, 0))
  size : p < wr.heap.size
  ext : Ext w wr
theorem DI.on {b0 b2 p : Nat} {ca : Array Value} {VV : List ByteArray} {T : List (List VarN)} {w wr w' : World} (h : DI b0 b2 p ca VV T w wr) (hE : Ext wr w') : DI b0 b2 p ca VV T w w' :=
  ⟨tDB_ext h.tab hE, (ext_block hE (block_lt h.a)).trans h.a, (ext_block hE (block_lt h.r)).trans h.r, Nat.lt_of_lt_of_le h.size (ext_size hE), ext_trans h.ext hE⟩
theorem DI.more {b0 b2 p : Nat} {ca : Array Value} {VV : List ByteArray} {T T' : List (List VarN)} {w wr w' : World} {fp : Nat → Prop} (h : DI b0 b2 p ca VV T w wr) (hT : TDB (fun g => p ≤ g) w' p VV T') (hU : Upd fp wr w') (hfp : ∀ b, fp b → p ≤ b) (hb : b0 < p ∧ b2 < p ∧ w.heap.size ≤ p) : DI b0 b2 p ca VV T' w w' :=
  ⟨hT, (hU.block b0 (block_lt h.a) (fun e => by have := hfp _ e; omega)).trans h.a, (hU.block b2 (block_lt h.r) (fun e => by have := hfp _ e; omega)).trans h.r, Nat.lt_of_lt_of_le h.size hU.size, ext_upd h.ext hU (fun b hb' => by have := hfp _ hb'; omega)⟩
set_option maxRecDepth 100000 in
theorem rdistinct_any (avv arv : Value) (VV : List ByteArray) (M : List (List VarN)) (w : World) (ha : TD w (.agg #[avv, arv]) VV M) (hu : VV.length ≤ 40000) (hr : M.length ≤ 100000) (hrl : ∀ r ∈ M, r.length ≤ 1000000) :
    Calls Tryd.prog 35 #[.agg #[avv, arv]] w fun e w' => ∃ vv rv, e = .returned (.agg #[vv, rv]) ∧ TD w' (.agg #[vv, rv]) VV (distQ M) ∧ Ext w w' := by
  obtain ⟨a1, a2⟩ := tD_parts ha
  obtain ⟨A1, c1, rfl⟩ := rowE_form a1
  obtain ⟨A2, c2, rfl⟩ := rdQ_form a2
  have HA1 := Lib.hid a1
  have HA2 := Lib.hid a2
  have HR := Lib.hid hrl
  clear ha a1 a2 hrl
  obtain ⟨h0, h2⟩ := heap_two w (.cells #[.slice A1 VV.length c1, .slice A2 M.length c2] 34) (.cells #[.slice none 0 0, .slice none 0 0] 34)
  have HE0 := Lib.hid (ext_alloc (ext_alloc (ext_refl w) (.cells #[.slice A1 VV.length c1, .slice A2 M.length c2] 34)) (.cells #[.slice none 0 0, .slice none 0 0] 34))
  go_enter Tryd.func35, Tryd.ntmps35
  go_wp2
  obtain ⟨b0, hb0⟩ : ∃ b, b = w.heap.size := ⟨_, rfl⟩
  obtain ⟨b2, hb2⟩ : ∃ b, b = w.heap.size + 1 := ⟨_, rfl⟩
  obtain ⟨p, hp⟩ : ∃ b, b = w.heap.size + 1 + 1 := ⟨_, rfl⟩
  obtain ⟨W2, hW2⟩ : ∃ W, W = ((w.alloc (.cells #[.slice A1 VV.length c1, .slice A2 M.length c2] 34)).alloc (.cells #[.slice none 0 0, .slice none 0 0] 34)).alloc (.cells #[.slice A1 VV.length c1, .slice none 0 0] 34) := ⟨_, rfl⟩
  have hE2W : Ext ((w.alloc (.cells #[.slice A1 VV.length c1, .slice A2 M.length c2] 34)).alloc (.cells #[.slice none 0 0, .slice none 0 0] 34)) W2 := by rw [hW2]; exact ext_alloc (ext_refl _) _
  have hbp : W2.heap[p]? = some (.cells #[.slice A1 VV.length c1, .slice none 0 0] 34 (0, 0)) := by
    have := heap_alloc_new ((w.alloc (.cells #[.slice A1 VV.length c1, .slice A2 M.length c2] 34)).alloc (.cells #[.slice none 0 0, .slice none 0 0] 34)) (.cells #[.slice A1 VV.length c1, .slice none 0 0] 34)
    rw [hW2, hp]
    simpa using this
  have hT : TDB (fun g => p ≤ g) W2 p VV [] := ⟨_, _, [], hbp, rowE_ext HA1.out (ext_trans HE0.out hE2W), ⟨rowE_nil _, fun g hg => by cases hg⟩, rowsQ_nil _⟩
  have HJ := Lib.hid (show DI b0 b2 p #[.slice A1 VV.length c1, .slice A2 M.length c2] VV (keepG (okD M) M 0) w W2 from ⟨hT, by rw [hb0]; exact (ext_block hE2W (block_lt h0)).trans h0, by rw [hb2]; exact (ext_block hE2W (block_lt h2)).trans h2, block_lt hbp, ext_trans HE0.out hE2W⟩)
  have HBD := Lib.hid (show b0 < p ∧ b2 < p ∧ w.heap.size ≤ p by omega)
  have HB2 := Lib.hid (show w.heap.size ≤ b2 by omega)
  try rw [← hW2]
  try rw [← hp]
  try rw [← hb2]
  try rw [← hb0]
  clear hT hE2W hW2 hp hb0 hb2 HE0 h0 h2 hbp
  go_loopw [13] (fun x wr => ∃ j : Nat, j ≤ M.length ∧ x = .int .i64 j ∧ DI b0 b2 p #[.slice A1 VV.length c1, .slice A2 M.length c2] VV (keepG (okD M) M j) w wr) (fun x _ => M.length - (intOf x).toNat)
  case atStart => exact ⟨0, Nat.zero_le _, rfl, HJ.out⟩
  case round =>
    rename World => wo
    obtain ⟨j, hj, rfl, hJ⟩ := hrel
    have HJ2 := Lib.hid hJ
    clear hJ HJ
    by_cases hlt : j < M.length
    · have hji : (j : Int) < (M.length : Int) := by omega
      have hj0 : (0 : Int) ≤ (j : Int) := by omega
      obtain ⟨r, hr'⟩ : ∃ r, M[j]? = some r := ⟨_, List.getElem?_eq_getElem hlt⟩
      have HX := Lib.hid hr'
      have HXL := Lib.hid (HR.out r (List.mem_of_getElem? hr'))
      obtain ⟨b, B', d', hG, hb, hc, hri⟩ := rdQ_at HA2.out hr'
      subst hG
      have HRI := Lib.hid hri
      have HBB := Lib.hid hb
      have HBC := Lib.hid hc
      obtain ⟨T, hT⟩ : ∃ T, T = keepG (okD M) M j := ⟨_, rfl⟩
      have hTl : T.length ≤ 100000 := by rw [hT]; have := keepG_len (okD M) M j; omega
      have HTR := Lib.hid (show ∀ t ∈ T, t.length ≤ 1000000 by rw [hT]; exact fun t ht => HR.out t (keepG_mem ht))
      have HTE := Lib.hid hT
      rw [← hT] at HJ2
      clear hr' hri hb hc hT
      obtain ⟨vv0, rv0, sl0, p1, p2, p3, p4⟩ := HJ2.out.tab
      obtain ⟨A9, c9, rfl⟩ := rowE_form p3.1
      have hsl0 : sl0.length = T.length := p4.1
      rw [hsl0] at p1 p3
      have HQ := Lib.hid (show RdQ wo (.slice A9 T.length c9) T from ⟨sl0, p3.1, p4⟩)
      have HP1 := Lib.hid p1
      have q1 : wo.cell? ⟨p, 1, none⟩ = some (.slice A9 T.length c9) := block_cell p1 1
      have l1 := block_lt p1
      clear p1 p2 p3 p4 hsl0
      go_wp2
      clear q1 l1
      go_loopw [19, 5] (fun y f wr => ∃ k : Nat, k ≤ T.length ∧ y = .int .i64 k ∧ (∃ fr : Bool, f = .bool fr ∧ (fr = true ↔ r ∉ T.take k)) ∧ Ext wo wr) (fun y _ _ => T.length - (intOf y).toNat)
      case atStart => exact ⟨0, Nat.zero_le _, rfl, ⟨true, rfl, by simp⟩, ext_refl _⟩
      case round =>
        rename World => wi
        obtain ⟨k, hk, rfl, ⟨fr, rfl, hfr⟩, hEi⟩ := hrel
        have HFR := Lib.hid hfr
        have HJ3 := Lib.hid (HJ2.out.on hEi)
        have HEI := Lib.hid hEi
        clear hfr hEi
        by_cases hkt : k < T.length
        · have hki : (k : Int) < (T.length : Int) := by omega
          have hk0 : (0 : Int) ≤ (k : Int) := by omega
          obtain ⟨t, ht⟩ : ∃ t, T[k]? = some t := ⟨_, List.getElem?_eq_getElem hkt⟩
          have HT := Lib.hid ht
          have HTL := Lib.hid (HTR.out t (List.mem_of_getElem? ht))
          obtain ⟨g, B9, d9, hg1, hg2, hg3, hg4⟩ := rdQ_at HQ.out ht
          subst hg1
          have HG4 := Lib.hid hg4
          have CC := Lib.hid (show ∀ w', Ext wi w' → Calls Tryd.prog 52 #[.slice B9 t.length d9, .slice B' r.length d'] w' (fun e w'' => e = .returned (.bool (decide (t = r))) ∧ Ext w' w'') from fun w' hE => rsame_any _ _ t r w' (rowE_ext HG4.out (ext_trans HEI.out hE)) (rowE_ext HRI.out (ext_trans HJ3.out.ext hE)) HTL.out HXL.out)
          obtain ⟨cb, hcb⟩ : ∃ cb, cb = decide (t = r) := ⟨_, rfl⟩
          rw [← hcb] at CC
          have HCB := Lib.hid hcb
          have hp1 := (ext_block HEI.out (block_lt HP1.out)).trans HP1.out
          have q1 : wi.cell? ⟨p, 1, none⟩ = some (.slice (some ⟨g, 0, none⟩) T.length c9) := block_cell hp1 1
          have l1 := block_lt hp1
          have q2 : wi.cell? ⟨b0, 1, none⟩ = some (.slice (some ⟨b, 0, none⟩) M.length c2) := block_cell HJ3.out.a 1
          have l2 := block_lt HJ3.out.a
          have q3 := (ext_cell HEI.out _ _ hg2).trans hg3
          have l3 := ext_lt HEI.out hg2
          have q4 := (ext_cell HJ3.out.ext _ _ HBB.out).trans HBC.out
          have l4 := ext_lt HJ3.out.ext HBB.out
          clear ht hg2 hg3 hg4 hcb hp1
          have hgc := cell_grown
          go_wp2
          cases fr
          · refine wp_region_free 15 [0, 1, 2, 3, 4, 5, 6, 7, 8, 9, 10, 11, 12, 13, 14] [] (by kernel_rfl) (by kernel_rfl) ?_
            repeat (refine wpLoose_step rfl (fun K hK => ?_); (try simp only [Oper.quietAt, Oper.quietUpon]); go_simp; (refine hK _ ?_; clear hK K))
            refine wpLoose_nil (wpFresh_nil (fun w3 hE3 _ => ?_))
            have HE3 := Lib.hid (ext_trans HEI.out hE3)
            clear hE3 q1 q2 q3 q4 l1 l2 l3 l4 hgc
            simp only [List.drop_succ_cons, List.drop_zero]
            go_wp2
            go_roundw
            case rel => exact ⟨k + 1, by omega, by go_num, ⟨false, rfl, by
              rw [List.take_add_one, HT.out, List.mem_append]
              have h := HFR.out
              simp only [Bool.false_eq_true, false_iff, Classical.not_not] at h ⊢
              exact .inl h⟩, HE3.out⟩
            case measure => simp [intOf]; omega
          · refine wp_region_free 15 [0, 1, 2, 3, 4, 5, 6, 7, 8, 9, 10, 11, 12, 13, 14] [] (by kernel_rfl) (by kernel_rfl) ?_
            repeat (refine wpLoose_step rfl (fun K hK => ?_); (try simp only [Oper.quietAt, Oper.quietUpon]); go_simp; first | (refine hK _ ?_; clear hK K) | (apply Exists.intro; refine ⟨fun p => ?_, hK _ ?_⟩; (go_at_call 52; exact CC.out _ (ext_grow (ext_refl _) _ _)); clear hK K))
            refine wpLoose_nil (wpFresh_nil (fun w3 hE3 _ => ?_))
            have HE3 := Lib.hid (ext_trans HEI.out hE3)
            clear hE3 q1 q2 q3 q4 l1 l2 l3 l4 hgc
            simp only [List.drop_succ_cons, List.drop_zero]
            go_wp2
            go_roundw
            case rel => exact ⟨k + 1, by omega, by go_num, ⟨!cb, rfl, by
              rw [List.take_add_one, HT.out, List.mem_append, HCB.out]
              have h := HFR.out
              simp only [true_iff] at h
              simp only [Option.toList_some, List.mem_singleton, Bool.not_eq_true', decide_eq_false_iff_not]
              exact ⟨fun h1 h2 => h2.elim h (fun e => h1 e.symm), fun h1 e => h1 (.inr e.symm)⟩⟩, HE3.out⟩
            case measure => simp [intOf]; omega
        · obtain rfl : k = T.length := by omega
          have hfr := HFR.out
          rw [List.take_length] at hfr
          cases fr
          · have HNO := Lib.hid (show okD M j = false from okD_no HX.out (by rw [← HTE.out]; simpa using hfr))
            clear hfr
            go_wp2
            go_roundw
            case rel => exact ⟨j + 1, by omega, by go_num, by rw [keepG_no HNO.out, ← HTE.out]; exact HJ3.out⟩
            case measure => simp [intOf]; omega
          · have HYE := Lib.hid (show okD M j = true from okD_yes HX.out (by rw [← HTE.out]; simpa using hfr))
            clear hfr
            go_wp2
            obtain ⟨vv, rv, sl, t1, t2, t3, t4⟩ := HJ3.out.tab
            obtain ⟨A8, c8, hrv⟩ := rowE_form t3.1
            subst hrv
            have hfp : ∀ q, q < p → ¬ (Value.slice A8 sl.length c8).ownBlock = some q := fun q hq e => by have := t3.2 q e; omega
            have hpp : ¬ (Value.slice A8 sl.length c8).ownBlock = some p := fun e => rowE_off t3.1 t1 (by decide) e
            have u0 : ∀ pw : UW (fun q => (Value.slice A8 sl.length c8).ownBlock = some q) wi, pw.val.cell? ⟨p, 1, none⟩ = some (.slice A8 sl.length c8) := uw_cell (block_cell t1 1) (block_lt t1) hpp
            have u1 : ∀ pw : UW (fun q => (Value.slice A8 sl.length c8).ownBlock = some q) wi, pw.val.cell? ⟨b0, 1, none⟩ = some (.slice (some ⟨b, 0, none⟩) M.length c2) := uw_cell (block_cell HJ3.out.a 1) (block_lt HJ3.out.a) (hfp _ HBD.out.1)
            have u2 : ∀ pw : UW (fun q => (Value.slice A8 sl.length c8).ownBlock = some q) wi, pw.val.cell? ⟨b, j, none⟩ = some (.slice B' r.length d') := uw_cell ((ext_cell HJ3.out.ext _ _ HBB.out).trans HBC.out) (ext_lt HJ3.out.ext HBB.out) (hfp _ (Nat.lt_of_lt_of_le HBB.out HBD.out.2.2))
            have T1 := Lib.hid t1
            have T2 := Lib.hid t2
            have T3 := Lib.hid t3
            have T4 := Lib.hid t4
            have HPP := Lib.hid hpp
            have HRW := Lib.hid (rowE_ext HRI.out HJ3.out.ext)
            have hll : sl.length ≤ 1000000 := by rw [t4.1]; omega
            clear t1 t2 t3 t4 hfp hpp
            refine wp_region_upd (fp := fun q => (Value.slice A8 sl.length c8).ownBlock = some q) [] [0, 1, 2, 3, 4, 5, 6] [(7, fun v w' => oneF elQ 0 (B', r.length, d') v w')] 8 (fun v w' => rowG elQ (fun g => p ≤ g) (sl ++ [(B', r.length, d')]) v w' ∧ rowE elP w' (.slice B' r.length d') r) [9, 10] [7, 8] rfl (by kernel_rfl) (by kernel_rfl) (by kernel_rfl) (fun _ _ d _ _ h => by cases d <;> exact h) ?_
            refine wpPre_nil ?_
            repeat (refine wpU_step rfl (fun K hK => ?_); (try simp only [Oper.quietAt, Oper.quietUpon]); go_simp; (refine hK _ ?_; clear hK K))
            refine wpU_nil ?_
            refine wpGen_step rfl rfl oneF_ext (fun w6 hE6 hS6 => ?_) (fun v2 => ?_)
            · simp only [runsAt]
              go_simp
              exact ⟨ext_alloc (ext_refl _) _, w6.heap.size, rfl, Nat.zero_le _, heap_alloc_new w6 _⟩
            refine wpGen_nil ?_
            refine ⟨⟨_, rfl, rfl, fun v a b hE ⟨h1, h2⟩ => ⟨rowG_ext _ _ _ hE h1, rowE_ext h2 hE⟩⟩, fun w6 hE6 hS6 o ho => ?_, fun o ho v w6 hU6 hR6 => ?_⟩
            · cases ho
              have h1 : oneF elQ 0 (B', r.length, d') v2 w6 := hS6 _ (List.mem_cons_self ..)
              refine runs_append (sv := .slice A8 sl.length c8) (xv := v2) (.tmp 40) (.tmp 46) rfl rfl rfl ?_
              obtain ⟨v', w', hrun, hr, hg⟩ := append_ok tpQ 32 (fun g => p ≤ g) _ v2 sl [((B', r.length, d') : Sl)] w6 (rowG_ext _ _ _ hE6 T3.out) (srcOf_one h1) (by simp; omega) (fun q hq => by have := HJ3.out.size; have := ext_size hE6; omega)
              refine ⟨v', w', hrun, upd_grown hg, hr, rowE_off_upd (rowE_ext HRW.out hE6) (upd_grown hg) (fun q hf cur t hbt => ?_)⟩
              obtain ⟨_, cur', hc'⟩ := rowE_block (rowE_ext T3.out.1 hE6) hf
              rw [hbt] at hc'
              simp only [Option.some.injEq, Obj.cells.injEq] at hc'
              rw [hc'.2.1]
              decide
            · cases ho
              obtain ⟨h1, h2⟩ := hR6
              obtain ⟨hT6, hU7⟩ := tDB_more5 T1.out T2.out T3.out T4.out (s := ((B', r.length, d') : Sl)) h2 hU6 h1
              have HJ5 := Lib.hid (HJ3.out.more hT6 hU7 (fun q hq => hq.elim (fun e => T3.out.2 q e) (fun e => by omega)) HBD.out)
              have hb6 := (hU6.block p (block_lt T1.out) HPP.out).trans T1.out
              have qf := block_frozen hb6 1
              have qc : w6.cell? ⟨p, 1, none⟩ = some (.slice A8 sl.length c8) := block_cell hb6 1
              have lp := block_lt hb6
              obtain ⟨A5, c5, rfl⟩ := rowE_form h1.1
              obtain ⟨n5, hn5⟩ : ∃ n5, n5 = (sl ++ [((B', r.length, d') : Sl)]).length := ⟨_, rfl⟩
              rw [← hn5] at HJ5 ⊢
              clear hT6 hU7 h1 h2 hb6 hn5 u0 u1 u2
              refine wpSeq_of_list [9, 10] [_, _] _ _ rfl ?_
              go_wp2
              go_roundw
              case rel => exact ⟨j + 1, by omega, by go_num, by rw [keepG_yes HX.out HYE.out, ← HTE.out]; exact HJ5.out⟩
              case measure => simp [intOf]; omega
    · obtain rfl : j = M.length := by omega
      have hT := HJ2.out.tab
      obtain ⟨N, hN⟩ : ∃ N, N = keepG (okD M) M M.length := ⟨_, rfl⟩
      rw [← hN] at hT
      obtain ⟨vv, rv, sl, t1, t2, t3, t4⟩ := hT
      obtain ⟨A7, c7, rfl⟩ := rowE_form t2
      obtain ⟨A8, c8, rfl⟩ := rowE_form t3.1
      have q0 : wo.cell? ⟨p, 0, none⟩ = some (.slice A7 VV.length c7) := block_cell t1 0
      have q1 : wo.cell? ⟨p, 1, none⟩ = some (.slice A8 sl.length c8) := block_cell t1 1
      have lp := block_lt t1
      have r0 : wo.cell? ⟨b2, 0, none⟩ = some (.slice none 0 0) := block_cell HJ2.out.r 0
      have r1 : wo.cell? ⟨b2, 1, none⟩ = some (.slice none 0 0) := block_cell HJ2.out.r 1
      have s0 : wo.frozen? ⟨b2, 0, none⟩ = false := block_frozen HJ2.out.r 0
      have s1 : wo.frozen? ⟨b2, 1, none⟩ = false := block_frozen HJ2.out.r 1
      have l1 := block_lt HJ2.out.r
      have HOW := Lib.hid (show TD wo (.agg #[.slice A7 VV.length c7, .slice A8 sl.length c8]) VV N from ⟨_, _, rfl, t2, sl, t3.1, t4⟩)
      have HN := Lib.hid hN
      clear t1 t2 t3 t4 hN
      go_wp2
      obtain ⟨wf, hwf⟩ : ∃ wf, wf = (wo.setCell ⟨b2, 0, none⟩ (.slice A7 VV.length c7)).setCell ⟨b2, 1, none⟩ (.slice A8 sl.length c8) := ⟨_, rfl⟩
      obtain ⟨t0, t1, ho, he⟩ := fin_td (H := p) (w := w) hwf HOW.out HJ2.out.r HB2.out HJ2.out.ext
      rw [← hwf]
      refine bodyPost_ret (v := .agg #[.slice A7 VV.length c7, .slice A8 sl.length c8]) (by simp [results, Tryd.results35, go_sem, t0, t1]) rfl ?_
      rw [HN.out] at ho
      exact ⟨_, _, rfl, ho, he⟩
theorem rowsQ_ins {w : World} {sl : List Sl} {T : List (List VarN)} {s : Sl} {r : List VarN} (i : Nat) (h : RowsQ w sl T) (hr : rowE elP w (slV s) r) : RowsQ w (sl.take i ++ [s] ++ sl.drop i) (T.take i ++ r :: T.drop i) := by
  have h1 : RowsQ w (sl.take i) (T.take i) := ⟨by rw [List.length_take, List.length_take, h.1], fun k s r hs hr => by
    rw [List.getElem?_take] at hs hr
    split at hs <;> rename_i hc
    · rw [if_pos hc] at hr; exact h.2 k s r hs hr
    · cases hs⟩
  have h2 : RowsQ w (sl.drop i) (T.drop i) := ⟨by rw [List.length_drop, List.length_drop, h.1], fun k s r hs hr => by
    rw [List.getElem?_drop] at hs hr
    exact h.2 _ s r hs hr⟩
  have h3 := rowsQ_app (rowsQ_snoc h1 hr) h2
  rw [show T.take i ++ r :: T.drop i = T.take i ++ [r] ++ T.drop i by simp]
  exact h3
/-- other rows put into a table that is being built -/
theorem tDB_put {ok : Nat → Prop} {w : World} {p : Nat} {V : List ByteArray} {T' : List (List VarN)} {vv rv v5 : Value} {sl : List Sl} (hb : w.heap[p]? = some (.cells #[vv, rv] 34 (0, 0))) (h2 : rowE elS w vv V) (h5 : rowE elQ w v5 sl) (hok : ∀ q, v5.ownBlock = some q → ok q) (h4 : RowsQ w sl T') :
    TDB ok (w.setCell ⟨p, 1, none⟩ v5) p V T' ∧ Upd (fun b => b = p) w (w.setCell ⟨p, 1, none⟩ v5) ∧ True := by
  have hU : Upd (fun b => b = p) w (w.setCell ⟨p, 1, none⟩ v5) := upd_setCell (a := ⟨p, 1, none⟩) _
  have hoff : ∀ (t' : TypeId), t' ≠ 34 → ∀ b, b = p → ∀ cur t, w.heap[b]? = some (.cells cur t (0, 0)) → t ≠ t' := by
    intro t' n2 b hf cur t hbt
    subst hf
    rw [hb] at hbt
    simp only [Option.some.injEq, Obj.cells.injEq] at hbt
    rw [← hbt.2.1]
    exact fun e => n2 e.symm
  exact ⟨⟨vv, v5, sl, heap_setCell_at hb, rowE_off_upd h2 hU (hoff _ (by decide)), ⟨rowE_off_upd h5 hU (hoff _ (by decide)), hok⟩, ⟨h4.1, fun i s r hs hr => rowE_off_upd (h4.2 i s r hs hr) hU (hoff _ (by decide))⟩⟩, hU, trivial⟩
set_option maxRecDepth 100000 in
theorem rsort_any (avv arv : Value) (VV : List ByteArray) (M : List (List VarN)) (w : World) (ha : TD w (.agg #[avv, arv]) VV M) (hu : VV.length ≤ 40000) (hr : M.length ≤ 100000) (hrl : ∀ r ∈ M, r.length ≤ 1000000) :
    Calls Tryd.prog 37 #[.agg #[avv, arv]] w fun e w' => ∃ vv rv, e = .returned (.agg #[vv, rv]) ∧ TD w' (.agg #[vv, rv]) VV (sortQ VV M) ∧ Ext w w' := by
  obtain ⟨a1, a2⟩ := tD_parts ha
  obtain ⟨A1, c1, rfl⟩ := rowE_form a1
  obtain ⟨A2, c2, rfl⟩ := rdQ_form a2
  have HA1 := Lib.hid a1
  have HA2 := Lib.hid a2
  have HR := Lib.hid hrl
  clear ha a1 a2 hrl
  obtain ⟨h0, h2⟩ := heap_two w (.cells #[.slice A1 VV.length c1, .slice A2 M.length c2] 34) (.cells #[.slice none 0 0, .slice none 0 0] 34)
  have HE0 := Lib.hid (ext_alloc (ext_alloc (ext_refl w) (.cells #[.slice A1 VV.length c1, .slice A2 M.length c2] 34)) (.cells #[.slice none 0 0, .slice none 0 0] 34))
  go_enter Tryd.func37, Tryd.ntmps37
  go_wp2
  obtain ⟨b0, hb0⟩ : ∃ b, b = w.heap.size := ⟨_, rfl⟩
  obtain ⟨b2, hb2⟩ : ∃ b, b = w.heap.size + 1 := ⟨_, rfl⟩
  obtain ⟨p, hp⟩ : ∃ b, b = w.heap.size + 1 + 1 := ⟨_, rfl⟩
  obtain ⟨W2, hW2⟩ : ∃ W, W = ((w.alloc (.cells #[.slice A1 VV.length c1, .slice A2 M.length c2] 34)).alloc (.cells #[.slice none 0 0, .slice none 0 0] 34)).alloc (.cells #[.slice A1 VV.length c1, .slice none 0 0] 34) := ⟨_, rfl⟩
  have hE2W : Ext ((w.alloc (.cells #[.slice A1 VV.length c1, .slice A2 M.length c2] 34)).alloc (.cells #[.slice none 0 0, .slice none 0 0] 34)) W2 := by rw [hW2]; exact ext_alloc (ext_refl _) _
  have hbp : W2.heap[p]? = some (.cells #[.slice A1 VV.length c1, .slice none 0 0] 34 (0, 0)) := by
    have := heap_alloc_new ((w.alloc (.cells #[.slice A1 VV.length c1, .slice A2 M.length c2] 34)).alloc (.cells #[.slice none 0 0, .slice none 0 0] 34)) (.cells #[.slice A1 VV.length c1, .slice none 0 0] 34)
    rw [hW2, hp]
    simpa using this
  have hT : TDB (fun g => p ≤ g) W2 p VV [] := ⟨_, _, [], hbp, rowE_ext HA1.out (ext_trans HE0.out hE2W), ⟨rowE_nil _, fun g hg => by cases hg⟩, rowsQ_nil _⟩
  have HJ := Lib.hid (show DI b0 b2 p #[.slice A1 VV.length c1, .slice A2 M.length c2] VV (sortQ VV (M.take 0)) w W2 from ⟨hT, by rw [hb0]; exact (ext_block hE2W (block_lt h0)).trans h0, by rw [hb2]; exact (ext_block hE2W (block_lt h2)).trans h2, block_lt hbp, ext_trans HE0.out hE2W⟩)
  have HBD := Lib.hid (show b0 < p ∧ b2 < p ∧ w.heap.size ≤ p by omega)
  have HB2 := Lib.hid (show w.heap.size ≤ b2 by omega)
  try rw [← hW2]
  try rw [← hp]
  try rw [← hb2]
  try rw [← hb0]
  clear hT hE2W hW2 hp hb0 hb2 HE0 h0 h2 hbp
  go_loopw [13] (fun x wr => ∃ j : Nat, j ≤ M.length ∧ x = .int .i64 j ∧ DI b0 b2 p #[.slice A1 VV.length c1, .slice A2 M.length c2] VV (sortQ VV (M.take j)) w wr) (fun x _ => M.length - (intOf x).toNat)
  case atStart => exact ⟨0, Nat.zero_le _, rfl, HJ.out⟩
  case round =>
    rename World => wo
    obtain ⟨j, hj, rfl, hJ⟩ := hrel
    have HJ2 := Lib.hid hJ
    clear hJ HJ
    by_cases hlt : j < M.length
    · have hji : (j : Int) < (M.length : Int) := by omega
      have hj0 : (0 : Int) ≤ (j : Int) := by omega
      obtain ⟨r, hr'⟩ : ∃ r, M[j]? = some r := ⟨_, List.getElem?_eq_getElem hlt⟩
      have HX := Lib.hid hr'
      have HXL := Lib.hid (HR.out r (List.mem_of_getElem? hr'))
      obtain ⟨b, B', d', hG, hb, hc, hri⟩ := rdQ_at HA2.out hr'
      subst hG
      have HRI := Lib.hid hri
      have HBB := Lib.hid hb
      have HBC := Lib.hid hc
      obtain ⟨T, hT⟩ : ∃ T, T = sortQ VV (M.take j) := ⟨_, rfl⟩
      have hTl : T.length ≤ 100000 := by rw [hT, sortQ, sortL_len, List.length_take]; omega
      have HTR := Lib.hid (show ∀ t ∈ T, t.length ≤ 1000000 by rw [hT]; exact fun t ht => HR.out t (List.mem_of_mem_take (sortL_mem.1 ht)))
      have HTE := Lib.hid hT
      rw [← hT] at HJ2
      clear hr' hri hb hc hT
      obtain ⟨vv0, rv0, sl0, p1, p2, p3, p4⟩ := HJ2.out.tab
      obtain ⟨A9, c9, rfl⟩ := rowE_form p3.1
      have HSL0 := Lib.hid (show sl0.length = T.length from p4.1)
      have hsl0 : sl0.length ≤ 100000 := by rw [HSL0.out]; exact hTl
      have P2 := Lib.hid p2
      have P3 := Lib.hid p3
      have P4 := Lib.hid p4
      have HP1 := Lib.hid p1
      have HSC := Lib.hid (rowE_cap p3.1).2
      have HQ := Lib.hid (show RdQ wo (.slice A9 sl0.length c9) T from ⟨sl0, p3.1, p4⟩)
      have q1 : wo.cell? ⟨p, 1, none⟩ = some (.slice A9 sl0.length c9) := block_cell p1 1
      have l1 := block_lt p1
      clear p1 p2 p3 p4
      go_wp2
      clear q1 l1
      go_loopw [5] (fun y wr => ∃ i : Nat, i ≤ sl0.length ∧ y = .int .i64 i ∧ (∀ k t, i ≤ k → T[k]? = some t → ltQ VV r t = true) ∧ Ext wo wr) (fun y _ => (intOf y).toNat)
      case atStart => exact ⟨sl0.length, Nat.le_refl _, rfl, fun k t h1 h2 => absurd (List.getElem?_eq_some_iff.1 h2).1 (by have := HSL0.out; omega), ext_refl _⟩
      case round =>
        rename World => wi
        obtain ⟨i, hi, rfl, hat, hEi⟩ := hrel
        have HAF := Lib.hid hat
        have HJ3 := Lib.hid (HJ2.out.on hEi)
        have HEI := Lib.hid hEi
        clear hat hEi
        by_cases hi0 : i = 0
        · subst hi0
          have hgz : decide ((0 : Int) > 0) = false := by decide
          have hgc := cell_grown
          have HAT := Lib.hid (show insL (ltQ VV) T r = T.take 0 ++ r :: T.drop 0 from insL_at (Nat.zero_le _) (fun k t h1 h2 => HAF.out k t h1 h2) (fun t h1 h2 => absurd rfl h2))
          go_wp2
          refine wp_region_free 18 [0, 1, 2, 3, 4, 5, 6, 7, 8, 9, 10, 11, 12, 13, 14, 15, 16, 17] [] (by kernel_rfl) (by kernel_rfl) ?_
          repeat (refine wpLoose_step rfl (fun K hK => ?_); (try simp only [Oper.quietAt, Oper.quietUpon]); go_simp; (refine hK _ ?_; clear hK K))
          refine wpLoose_nil (wpFresh_nil (fun w3 hE3 _ => ?_))
          have hEI3 := ext_trans HEI.out hE3
          have hJ33 := HJ3.out.on hE3
          clear hE3 hgc HEI HJ3
          simp only [List.drop_succ_cons, List.drop_zero]
          refine wpList_nil ?_
          have HEI := Lib.hid hEI3
          have HJ3 := Lib.hid hJ33
          clear hEI3 hJ33
          clear wi
          obtain ⟨wi, hwi⟩ : ∃ wi, wi = w3 := ⟨_, rfl⟩
          subst hwi
          rcases rowE_cases P3.out.1 with ⟨hn1, hn2⟩ | ⟨g9, cap9, cur9, hn1, -, -, -, -, -⟩
          · simp only [Value.slice.injEq] at hn1
            obtain ⟨rfl, hn3, rfl⟩ := hn1
            subst hn2
            have hp1 := (ext_block HEI.out (block_lt HP1.out)).trans HP1.out
            have q0 : wi.cell? ⟨p, 1, none⟩ = some (.slice none 0 0) := block_cell hp1 1
            have l0 := block_lt hp1
            clear hp1 hn3
            go_wp2_with (at_builtin; refine halt_here ?_)
            refine go_on ?_
            refine wpList_append rfl (.tmp 39) (.tmp 43) rfl _ _ rfl rfl (fun v' w' => Ext (wi.alloc (.cells #[] 52)) w' ∧ rowF elQ wi.heap.size (([] : List Sl).drop 0) v' w') (append_copy tpQ _ wi.heap.size _ _ (([] : List Sl).drop 0) _ ⟨wi.heap.size, rfl, Nat.le_refl _, heap_alloc_new wi _⟩ (srcOf_ext (ext_alloc (ext_refl _) _) (srcOf_nil _ _ _)) (by rw [List.length_drop]; omega)) ?_
            rintro v6 w6 ⟨hE6, hR6⟩
            have HE6 := Lib.hid (ext_trans (ext_alloc (ext_refl wi) (.cells #[] 52)) hE6)
            have HR6 := Lib.hid hR6
            have HJ6 := Lib.hid (HJ3.out.on HE6.out)
            have hp1 := (ext_block (ext_trans HEI.out HE6.out) (block_lt HP1.out)).trans HP1.out
            have q1 : w6.cell? ⟨p, 1, none⟩ = some (.slice none ([] : List Sl).length 0) := block_cell hp1 1
            have l1 := block_lt hp1
            have q2 : w6.cell? ⟨b0, 1, none⟩ = some (.slice (some ⟨b, 0, none⟩) M.length c2) := block_cell HJ6.out.a 1
            have l2 := block_lt HJ6.out.a
            have q4 := (ext_cell HJ6.out.ext _ _ HBB.out).trans HBC.out
            have l4 := ext_lt HJ6.out.ext HBB.out
            have HP6 := Lib.hid hp1
            clear hE6 hR6 hp1
            obtain ⟨H, hH⟩ : ∃ H, H = w6.heap.size := ⟨_, rfl⟩
            have HH := Lib.hid hH
            clear hH
            have hgc := cell_grown
            go_wp2
            refine wp_region_gen [] [0, 1, 2, 3, 4, 5, 6, 7, 8, 9, 12] [(10, fun v w' => oneF elQ 0 (B', r.length, d') v w'), (11, rowF elQ H (([] : List Sl).take 0 ++ [((B', r.length, d') : Sl)]))] [13, 14, 15] [10, 11] rfl (by kernel_rfl) (by kernel_rfl) (fun _ _ d _ _ h => by cases d <;> exact h) ?_
            refine wpPre_nil ?_
            repeat (refine wpLoose_step rfl (fun K hK => ?_); (try simp only [Oper.quietAt, Oper.quietUpon]); go_simp; (refine hK _ ?_; clear hK K))
            refine wpLoose_nil ?_
            clear q1 q2 q4 l1 l2 l4 hgc
            refine wpGen_step rfl rfl oneF_ext (fun w7 hE7 hS7 => ?_) (fun v2 => ?_)
            · simp only [runsAt]
              go_simp
              exact ⟨ext_alloc (ext_refl _) _, w7.heap.size, rfl, Nat.zero_le _, heap_alloc_new w7 _⟩
            refine wpGen_step rfl rfl rowF_ext (fun w7 hE7 hS7 => ?_) (fun v8 => ?_)
            · have h1 : oneF elQ 0 (B', r.length, d') v2 w7 := hS7 _ (List.mem_cons_self ..) (by kernel_rfl)
              refine runs_append (sv := .slice none 0 0) (xv := v2) (.tmp 49) (.tmp 55) rfl rfl rfl ?_
              obtain ⟨v', w', hrun, hE8, hr8⟩ := append_full tpQ 32 none (([] : List Sl).take 0) [((B', r.length, d') : Sl)] w7 H (.slice none 0 0) v2 (by rw [List.length_take]; rfl) (srcOf_nil _ _ _) (srcOf_one h1) (by simp) (by rw [List.length_take]; first | (simp; done) | (simp; omega)) (by rw [HH.out]; exact ext_size hE7)
              exact ⟨v', w', hrun, hE8, hr8⟩
            refine wpGen_nil (fun w7 hE7 hS7 => ?_)
            have H8 := Lib.hid (show rowF elQ H (([] : List Sl).take 0 ++ [((B', r.length, d') : Sl)]) v8 w7 from hS7 _ (List.mem_cons_self ..))
            have HE7 := Lib.hid hE7
            clear hS7 hE7
            refine wpSeq_of_list [13, 14, 15] [_, _, _] _ _ rfl ?_
            refine wpList_append rfl (.tmp 56) (.tmp 57) rfl v8 v6 rfl rfl (fun v' w' => rowF elQ H (([] : List Sl).take 0 ++ [((B', r.length, d') : Sl)] ++ ([] : List Sl).drop 0) v' w' ∧ w7.grownBy w' v8.ownBlock) (append_onto tpQ _ H v8 v6 (([] : List Sl).take 0 ++ [((B', r.length, d') : Sl)]) (([] : List Sl).drop 0) w7 H8.out (srcOf_row (rowE_ext HR6.out.1 HE7.out)) (by rw [List.length_append, List.length_take, List.length_drop]; first | (simp; done) | (simp; omega)) (by rw [HH.out]; exact ext_size HE7.out)) ?_
            rintro v9 w9 ⟨h9, hG9⟩
            have hU9 : Upd (fun q => v8.ownBlock = some q) w7 w9 := upd_grown hG9
            have hE9 : Ext w6 w9 := ext_upd HE7.out hU9 (fun q hq => by have h1 := H8.out.2 q hq; have := HH.out; omega)
            obtain ⟨x1, x2, x3⟩ := tDB_put (T' := insL (ltQ VV) T r) ((ext_block hE9 (block_lt HP6.out)).trans HP6.out) (rowE_ext P2.out (ext_trans HEI.out (ext_trans HE6.out hE9))) (ok := fun q => p ≤ q) h9.1 (fun q hq => by have := h9.2 q hq; have := HH.out; have := block_lt HP6.out; omega)
              (by rw [HAT.out]; exact rowsQ_ins 0 (rowsQ_ext P4.out (ext_trans HEI.out (ext_trans HE6.out hE9))) (rowE_ext HRI.out (ext_trans HJ6.out.ext hE9)))
            have HJ9 := Lib.hid ((HJ6.out.on hE9).more x1 x2 (fun q hq => Nat.le_of_eq hq.symm) HBD.out)
            have hb9 := (ext_block hE9 (block_lt HP6.out)).trans HP6.out
            have qf := block_frozen hb9 1
            have qc : w9.cell? ⟨p, 1, none⟩ = some (.slice none ([] : List Sl).length 0) := block_cell hb9 1
            have lp := block_lt hb9
            obtain ⟨A5, c5, rfl⟩ := rowE_form h9.1
            obtain ⟨n5, hn5⟩ : ∃ n5, n5 = (([] : List Sl).take 0 ++ [((B', r.length, d') : Sl)] ++ ([] : List Sl).drop 0).length := ⟨_, rfl⟩
            rw [← hn5] at HJ9 ⊢
            clear h9 hG9 hU9 hE9 x1 x2 x3 hb9 hn5
            go_wp2
            go_roundw
            case rel => exact ⟨j + 1, by omega, by go_num, by rw [sortQ, sortL_take HX.out, ← sortQ, ← HTE.out]; exact HJ9.out⟩
            case measure => simp [intOf]; omega
          · simp only [Value.slice.injEq] at hn1
            obtain ⟨rfl, -, rfl⟩ := hn1
            have hp1 := (ext_block HEI.out (block_lt HP1.out)).trans HP1.out
            have q0 : wi.cell? ⟨p, 1, none⟩ = some (.slice (some ⟨g9, 0, none⟩) sl0.length c9) := block_cell hp1 1
            have l0 := block_lt hp1
            clear hp1
            go_wp2_with (at_builtin; refine halt_here ?_)
            refine go_on ?_
            refine wpList_append rfl (.tmp 39) (.tmp 43) rfl _ _ rfl rfl (fun v' w' => Ext (wi.alloc (.cells #[] 52)) w' ∧ rowF elQ wi.heap.size (sl0.drop 0) v' w') (append_copy tpQ _ wi.heap.size _ _ (sl0.drop 0) _ ⟨wi.heap.size, rfl, Nat.le_refl _, heap_alloc_new wi _⟩ (srcOf_ext (ext_alloc (ext_refl _) _) (srcOf_drop 0 (rowE_ext P3.out.1 HEI.out) _ _ _ rfl (fun h => by have := HSC.out; first | rfl | (exfalso; omega) | (simp [elQ]; done) | (simp [elQ]; omega)))) (by rw [List.length_drop]; omega)) ?_
            rintro v6 w6 ⟨hE6, hR6⟩
            have HE6 := Lib.hid (ext_trans (ext_alloc (ext_refl wi) (.cells #[] 52)) hE6)
            have HR6 := Lib.hid hR6
            have HJ6 := Lib.hid (HJ3.out.on HE6.out)
            have hp1 := (ext_block (ext_trans HEI.out HE6.out) (block_lt HP1.out)).trans HP1.out
            have q1 : w6.cell? ⟨p, 1, none⟩ = some (.slice (some ⟨g9, 0, none⟩) sl0.length c9) := block_cell hp1 1
            have l1 := block_lt hp1
            have q2 : w6.cell? ⟨b0, 1, none⟩ = some (.slice (some ⟨b, 0, none⟩) M.length c2) := block_cell HJ6.out.a 1
            have l2 := block_lt HJ6.out.a
            have q4 := (ext_cell HJ6.out.ext _ _ HBB.out).trans HBC.out
            have l4 := ext_lt HJ6.out.ext HBB.out
            have HP6 := Lib.hid hp1
            clear hE6 hR6 hp1
            obtain ⟨H, hH⟩ : ∃ H, H = w6.heap.size := ⟨_, rfl⟩
            have HH := Lib.hid hH
            clear hH
            have hgc := cell_grown
            go_wp2
            refine wp_region_gen [] [0, 1, 2, 3, 4, 5, 6, 7, 8, 9, 12] [(10, fun v w' => oneF elQ 0 (B', r.length, d') v w'), (11, rowF elQ H (sl0.take 0 ++ [((B', r.length, d') : Sl)]))] [13, 14, 15] [10, 11] rfl (by kernel_rfl) (by kernel_rfl) (fun _ _ d _ _ h => by cases d <;> exact h) ?_
            refine wpPre_nil ?_
            repeat (refine wpLoose_step rfl (fun K hK => ?_); (try simp only [Oper.quietAt, Oper.quietUpon]); go_simp; (refine hK _ ?_; clear hK K))
            refine wpLoose_nil ?_
            clear q1 q2 q4 l1 l2 l4 hgc
            refine wpGen_step rfl rfl oneF_ext (fun w7 hE7 hS7 => ?_) (fun v2 => ?_)
            · simp only [runsAt]
              go_simp
              exact ⟨ext_alloc (ext_refl _) _, w7.heap.size, rfl, Nat.zero_le _, heap_alloc_new w7 _⟩
            refine wpGen_step rfl rfl rowF_ext (fun w7 hE7 hS7 => ?_) (fun v8 => ?_)
            · have h1 : oneF elQ 0 (B', r.length, d') v2 w7 := hS7 _ (List.mem_cons_self ..) (by kernel_rfl)
              refine runs_append (sv := .slice (some ⟨g9, 0, none⟩) 0 0) (xv := v2) (.tmp 49) (.tmp 55) rfl rfl rfl ?_
              obtain ⟨v', w', hrun, hE8, hr8⟩ := append_full tpQ 32 (some ⟨g9, 0, none⟩) (sl0.take 0) [((B', r.length, d') : Sl)] w7 H (.slice (some ⟨g9, 0, none⟩) 0 0) v2 (by rw [List.length_take]; rw [Nat.min_eq_left (by omega)]) (srcOf_take 0 (by omega) (rowE_ext P3.out.1 (ext_trans HEI.out (ext_trans HE6.out hE7))) _) (srcOf_one h1) (by simp) (by rw [List.length_take]; first | (simp; done) | (simp; omega)) (by rw [HH.out]; exact ext_size hE7)
              exact ⟨v', w', hrun, hE8, hr8⟩
            refine wpGen_nil (fun w7 hE7 hS7 => ?_)
            have H8 := Lib.hid (show rowF elQ H (sl0.take 0 ++ [((B', r.length, d') : Sl)]) v8 w7 from hS7 _ (List.mem_cons_self ..))
            have HE7 := Lib.hid hE7
            clear hS7 hE7
            refine wpSeq_of_list [13, 14, 15] [_, _, _] _ _ rfl ?_
            refine wpList_append rfl (.tmp 56) (.tmp 57) rfl v8 v6 rfl rfl (fun v' w' => rowF elQ H (sl0.take 0 ++ [((B', r.length, d') : Sl)] ++ sl0.drop 0) v' w' ∧ w7.grownBy w' v8.ownBlock) (append_onto tpQ _ H v8 v6 (sl0.take 0 ++ [((B', r.length, d') : Sl)]) (sl0.drop 0) w7 H8.out (srcOf_row (rowE_ext HR6.out.1 HE7.out)) (by rw [List.length_append, List.length_take, List.length_drop]; first | (simp; done) | (simp; omega)) (by rw [HH.out]; exact ext_size HE7.out)) ?_
            rintro v9 w9 ⟨h9, hG9⟩
            have hU9 : Upd (fun q => v8.ownBlock = some q) w7 w9 := upd_grown hG9
            have hE9 : Ext w6 w9 := ext_upd HE7.out hU9 (fun q hq => by have h1 := H8.out.2 q hq; have := HH.out; omega)
            obtain ⟨x1, x2, x3⟩ := tDB_put (T' := insL (ltQ VV) T r) ((ext_block hE9 (block_lt HP6.out)).trans HP6.out) (rowE_ext P2.out (ext_trans HEI.out (ext_trans HE6.out hE9))) (ok := fun q => p ≤ q) h9.1 (fun q hq => by have := h9.2 q hq; have := HH.out; have := block_lt HP6.out; omega)
              (by rw [HAT.out]; exact rowsQ_ins 0 (rowsQ_ext P4.out (ext_trans HEI.out (ext_trans HE6.out hE9))) (rowE_ext HRI.out (ext_trans HJ6.out.ext hE9)))
            have HJ9 := Lib.hid ((HJ6.out.on hE9).more x1 x2 (fun q hq => Nat.le_of_eq hq.symm) HBD.out)
            have hb9 := (ext_block hE9 (block_lt HP6.out)).trans HP6.out
            have qf := block_frozen hb9 1
            have qc : w9.cell? ⟨p, 1, none⟩ = some (.slice (some ⟨g9, 0, none⟩) sl0.length c9) := block_cell hb9 1
            have lp := block_lt hb9
            obtain ⟨A5, c5, rfl⟩ := rowE_form h9.1
            obtain ⟨n5, hn5⟩ : ∃ n5, n5 = (sl0.take 0 ++ [((B', r.length, d') : Sl)] ++ sl0.drop 0).length := ⟨_, rfl⟩
            rw [← hn5] at HJ9 ⊢
            clear h9 hG9 hU9 hE9 x1 x2 x3 hb9 hn5
            go_wp2
            go_roundw
            case rel => exact ⟨j + 1, by omega, by go_num, by rw [sortQ, sortL_take HX.out, ← sortQ, ← HTE.out]; exact HJ9.out⟩
            case measure => simp [intOf]; omega
        · obtain ⟨i', hi'⟩ : ∃ i', i = i' + 1 := ⟨i - 1, by omega⟩
          have hgz : 0 < i := by omega
          have hwi : IntKind.i64.wrap ((i : Int) - 1) = (i' : Int) := by rw [hi']; exact (IntWalk.i64_in _ (by omega)).trans (by omega)
          have hi1 : (i' : Int) < (sl0.length : Int) := by omega
          have hi2 : (0 : Int) ≤ (i' : Int) := by omega
          have HI := Lib.hid hi'
          obtain ⟨t, ht⟩ : ∃ t, T[i']? = some t := ⟨_, List.getElem?_eq_getElem (by have := HSL0.out; omega)⟩
          clear hi' hi0
          obtain ⟨g9, B9, d9, hg1, hg2, hg3, hg4⟩ := rdQ_at HQ.out ht
          subst hg1
          have HT := Lib.hid ht
          have HTL := Lib.hid (HTR.out t (List.mem_of_getElem? ht))
          have HG4 := Lib.hid hg4
          have hv0 := rowE_form P2.out
          obtain ⟨A7, c7, rfl⟩ := hv0
          have CC := Lib.hid (show ∀ w', Ext wi w' → Calls Tryd.prog 69 #[.slice A1 VV.length c1, .slice B' r.length d', .slice B9 t.length d9] w' (fun e w'' => e = .returned (.bool (ltQ VV r t)) ∧ Ext w' w'') from fun w' hE => rless_any _ _ _ VV r t w' (rowE_ext HA1.out (ext_trans HJ3.out.ext hE)) (rowE_ext HRI.out (ext_trans HJ3.out.ext hE)) (rowE_ext HG4.out (ext_trans HEI.out hE)) (by omega) HXL.out HTL.out)
          obtain ⟨cb, hcb⟩ : ∃ cb, cb = ltQ VV r t := ⟨_, rfl⟩
          rw [← hcb] at CC
          have HCB := Lib.hid hcb
          have hp1 := (ext_block HEI.out (block_lt HP1.out)).trans HP1.out
          have q1 : wi.cell? ⟨p, 1, none⟩ = some (.slice (some ⟨g9, 0, none⟩) sl0.length c9) := block_cell hp1 1
          have l1 := block_lt hp1
          have q0 : wi.cell? ⟨b0, 0, none⟩ = some (.slice A1 VV.length c1) := block_cell HJ3.out.a 0
          have q2 : wi.cell? ⟨b0, 1, none⟩ = some (.slice (some ⟨b, 0, none⟩) M.length c2) := block_cell HJ3.out.a 1
          have l2 := block_lt HJ3.out.a
          have q3 := (ext_cell HEI.out _ _ hg2).trans hg3
          have l3 := ext_lt HEI.out hg2
          have q4 := (ext_cell HJ3.out.ext _ _ HBB.out).trans HBC.out
          have l4 := ext_lt HJ3.out.ext HBB.out
          clear ht hg2 hg3 hg4 hcb hp1
          have hgc := cell_grown
          go_wp2
          refine wp_region_free 18 [0, 1, 2, 3, 4, 5, 6, 7, 8, 9, 10, 11, 12, 13, 14, 15, 16, 17] [] (by kernel_rfl) (by kernel_rfl) ?_
          repeat (refine wpLoose_step rfl (fun K hK => ?_); (try simp only [Oper.quietAt, Oper.quietUpon]); go_simp; first | (refine hK _ ?_; clear hK K) | (apply Exists.intro; refine ⟨fun p => ?_, hK _ ?_⟩; (go_at_call 69; exact CC.out _ (ext_grow (ext_refl _) _ _)); clear hK K))
          refine wpLoose_nil (wpFresh_nil (fun w3 hE3 _ => ?_))
          have hEI3 := ext_trans HEI.out hE3
          have hJ33 := HJ3.out.on hE3
          clear hE3 hgc HEI HJ3 q0 q1 q2 q3 q4 l1 l2 l3 l4 CC
          simp only [List.drop_succ_cons, List.drop_zero]
          refine wpList_nil ?_
          have HEI := Lib.hid hEI3
          have HJ3 := Lib.hid hJ33
          clear hEI3 hJ33
          clear wi
          obtain ⟨wi, hwi2⟩ : ∃ wi, wi = w3 := ⟨_, rfl⟩
          subst hwi2
          cases cb
          · have HAT := Lib.hid (show insL (ltQ VV) T r = T.take i ++ r :: T.drop i from insL_at (by have := HSL0.out; omega) (fun k t h1 h2 => HAF.out k t h1 h2) (fun t' h1 h2 => by
              have h3 : i - 1 = i' := by have := HI.out; omega
              rw [h3, HT.out] at h1
              rw [← Option.some.inj h1]
              exact HCB.out.symm))
            have hp1 := (ext_block HEI.out (block_lt HP1.out)).trans HP1.out
            have q0 : wi.cell? ⟨p, 1, none⟩ = some (.slice (some ⟨g9, 0, none⟩) sl0.length c9) := block_cell hp1 1
            have l0 := block_lt hp1
            have hic : (i : Int) ≤ (c9 : Int) := by have := HSC.out; omega
            have hil : (i : Int) ≤ (sl0.length : Int) := by omega
            have hin : (0 : Int) ≤ (i : Int) := by omega
            clear hp1 hgz hwi hi1 hi2
            go_wp2_with (at_builtin; refine halt_here ?_)
            all_goals
              refine go_on ?_
              refine wpList_append rfl (.tmp 39) (.tmp 43) rfl _ _ rfl rfl (fun v' w' => Ext (wi.alloc (.cells #[] 52)) w' ∧ rowF elQ wi.heap.size (sl0.drop i) v' w') (append_copy tpQ _ wi.heap.size _ _ (sl0.drop i) _ ⟨wi.heap.size, rfl, Nat.le_refl _, heap_alloc_new wi _⟩ (srcOf_ext (ext_alloc (ext_refl _) _) (srcOf_drop i (rowE_ext P3.out.1 HEI.out) _ _ _ rfl (fun h => by have := HSC.out; first | rfl | (exfalso; omega) | (simp [elQ]; done) | (simp [elQ]; omega)))) (by rw [List.length_drop]; omega)) ?_
              rintro v6 w6 ⟨hE6, hR6⟩
              have HE6 := Lib.hid (ext_trans (ext_alloc (ext_refl wi) (.cells #[] 52)) hE6)
              have HR6 := Lib.hid hR6
              have HJ6 := Lib.hid (HJ3.out.on HE6.out)
              have hp1 := (ext_block (ext_trans HEI.out HE6.out) (block_lt HP1.out)).trans HP1.out
              have q1 : w6.cell? ⟨p, 1, none⟩ = some (.slice (some ⟨g9, 0, none⟩) sl0.length c9) := block_cell hp1 1
              have l1 := block_lt hp1
              have q2 : w6.cell? ⟨b0, 1, none⟩ = some (.slice (some ⟨b, 0, none⟩) M.length c2) := block_cell HJ6.out.a 1
              have l2 := block_lt HJ6.out.a
              have q4 := (ext_cell HJ6.out.ext _ _ HBB.out).trans HBC.out
              have l4 := ext_lt HJ6.out.ext HBB.out
              have HP6 := Lib.hid hp1
              clear hE6 hR6 hp1
              obtain ⟨H, hH⟩ : ∃ H, H = w6.heap.size := ⟨_, rfl⟩
              have HH := Lib.hid hH
              clear hH
              have hgc := cell_grown
              go_wp2
              refine wp_region_gen [] [0, 1, 2, 3, 4, 5, 6, 7, 8, 9, 12] [(10, fun v w' => oneF elQ 0 (B', r.length, d') v w'), (11, rowF elQ H (sl0.take i ++ [((B', r.length, d') : Sl)]))] [13, 14, 15] [10, 11] rfl (by kernel_rfl) (by kernel_rfl) (fun _ _ d _ _ h => by cases d <;> exact h) ?_
              refine wpPre_nil ?_
              repeat (refine wpLoose_step rfl (fun K hK => ?_); (try simp only [Oper.quietAt, Oper.quietUpon]); go_simp; (refine hK _ ?_; clear hK K))
              refine wpLoose_nil ?_
              clear q1 q2 q4 l1 l2 l4 hgc
              refine wpGen_step rfl rfl oneF_ext (fun w7 hE7 hS7 => ?_) (fun v2 => ?_)
              · simp only [runsAt]
                go_simp
                exact ⟨ext_alloc (ext_refl _) _, w7.heap.size, rfl, Nat.zero_le _, heap_alloc_new w7 _⟩
              refine wpGen_step rfl rfl rowF_ext (fun w7 hE7 hS7 => ?_) (fun v8 => ?_)
              · have h1 : oneF elQ 0 (B', r.length, d') v2 w7 := hS7 _ (List.mem_cons_self ..) (by kernel_rfl)
                refine runs_append (sv := .slice (some ⟨g9, 0, none⟩) i i) (xv := v2) (.tmp 49) (.tmp 55) rfl rfl rfl ?_
                obtain ⟨v', w', hrun, hE8, hr8⟩ := append_full tpQ 32 (some ⟨g9, 0, none⟩) (sl0.take i) [((B', r.length, d') : Sl)] w7 H (.slice (some ⟨g9, 0, none⟩) i i) v2 (by rw [List.length_take]; rw [Nat.min_eq_left (by omega)]) (srcOf_take i (by omega) (rowE_ext P3.out.1 (ext_trans HEI.out (ext_trans HE6.out hE7))) _) (srcOf_one h1) (by simp) (by rw [List.length_take]; first | (simp; done) | (simp; omega)) (by rw [HH.out]; exact ext_size hE7)
                exact ⟨v', w', hrun, hE8, hr8⟩
              refine wpGen_nil (fun w7 hE7 hS7 => ?_)
              have H8 := Lib.hid (show rowF elQ H (sl0.take i ++ [((B', r.length, d') : Sl)]) v8 w7 from hS7 _ (List.mem_cons_self ..))
              have HE7 := Lib.hid hE7
              clear hS7 hE7
              refine wpSeq_of_list [13, 14, 15] [_, _, _] _ _ rfl ?_
              refine wpList_append rfl (.tmp 56) (.tmp 57) rfl v8 v6 rfl rfl (fun v' w' => rowF elQ H (sl0.take i ++ [((B', r.length, d') : Sl)] ++ sl0.drop i) v' w' ∧ w7.grownBy w' v8.ownBlock) (append_onto tpQ _ H v8 v6 (sl0.take i ++ [((B', r.length, d') : Sl)]) (sl0.drop i) w7 H8.out (srcOf_row (rowE_ext HR6.out.1 HE7.out)) (by rw [List.length_append, List.length_take, List.length_drop]; first | (simp; done) | (simp; omega)) (by rw [HH.out]; exact ext_size HE7.out)) ?_
              rintro v9 w9 ⟨h9, hG9⟩
              have hU9 : Upd (fun q => v8.ownBlock = some q) w7 w9 := upd_grown hG9
              have hE9 : Ext w6 w9 := ext_upd HE7.out hU9 (fun q hq => by have h1 := H8.out.2 q hq; have := HH.out; omega)
              obtain ⟨x1, x2, x3⟩ := tDB_put (T' := insL (ltQ VV) T r) ((ext_block hE9 (block_lt HP6.out)).trans HP6.out) (rowE_ext P2.out (ext_trans HEI.out (ext_trans HE6.out hE9))) (ok := fun q => p ≤ q) h9.1 (fun q hq => by have := h9.2 q hq; have := HH.out; have := block_lt HP6.out; omega)
                (by rw [HAT.out]; exact rowsQ_ins i (rowsQ_ext P4.out (ext_trans HEI.out (ext_trans HE6.out hE9))) (rowE_ext HRI.out (ext_trans HJ6.out.ext hE9)))
              have HJ9 := Lib.hid ((HJ6.out.on hE9).more x1 x2 (fun q hq => Nat.le_of_eq hq.symm) HBD.out)
              have hb9 := (ext_block hE9 (block_lt HP6.out)).trans HP6.out
              have qf := block_frozen hb9 1
              have qc : w9.cell? ⟨p, 1, none⟩ = some (.slice (some ⟨g9, 0, none⟩) sl0.length c9) := block_cell hb9 1
              have lp := block_lt hb9
              obtain ⟨A5, c5, rfl⟩ := rowE_form h9.1
              obtain ⟨n5, hn5⟩ : ∃ n5, n5 = (sl0.take i ++ [((B', r.length, d') : Sl)] ++ sl0.drop i).length := ⟨_, rfl⟩
              rw [← hn5] at HJ9 ⊢
              clear h9 hG9 hU9 hE9 x1 x2 x3 hb9 hn5
              go_wp2
              go_roundw
              case rel => exact ⟨j + 1, by omega, by go_num, by rw [sortQ, sortL_take HX.out, ← sortQ, ← HTE.out]; exact HJ9.out⟩
              case measure => simp [intOf]; omega
          · go_wp2
            go_roundw
            case rel => exact ⟨i', by have := HI.out; omega, by go_num, fun k t' h1 h2 => by
              by_cases hk : k = i'
              · rw [hk, HT.out] at h2
                rw [← Option.some.inj h2]
                exact HCB.out.symm
              · exact HAF.out k t' (by have := HI.out; omega) h2, HEI.out⟩
            case measure => have := HI.out; simp [intOf]; omega
    · obtain rfl : j = M.length := by omega
      have hT := HJ2.out.tab
      obtain ⟨N, hN⟩ : ∃ N, N = sortQ VV M := ⟨_, rfl⟩
      rw [List.take_length] at hT
      rw [← hN] at hT
      obtain ⟨vv, rv, sl, t1, t2, t3, t4⟩ := hT
      obtain ⟨A7, c7, rfl⟩ := rowE_form t2
      obtain ⟨A8, c8, rfl⟩ := rowE_form t3.1
      have q0 : wo.cell? ⟨p, 0, none⟩ = some (.slice A7 VV.length c7) := block_cell t1 0
      have q1 : wo.cell? ⟨p, 1, none⟩ = some (.slice A8 sl.length c8) := block_cell t1 1
      have lp := block_lt t1
      have r0 : wo.cell? ⟨b2, 0, none⟩ = some (.slice none 0 0) := block_cell HJ2.out.r 0
      have r1 : wo.cell? ⟨b2, 1, none⟩ = some (.slice none 0 0) := block_cell HJ2.out.r 1
      have s0 : wo.frozen? ⟨b2, 0, none⟩ = false := block_frozen HJ2.out.r 0
      have s1 : wo.frozen? ⟨b2, 1, none⟩ = false := block_frozen HJ2.out.r 1
      have l1 := block_lt HJ2.out.r
      have HOW := Lib.hid (show TD wo (.agg #[.slice A7 VV.length c7, .slice A8 sl.length c8]) VV N from ⟨_, _, rfl, t2, sl, t3.1, t4⟩)
      have HN := Lib.hid hN
      clear t1 t2 t3 t4 hN
      go_wp2
      obtain ⟨wf, hwf⟩ : ∃ wf, wf = (wo.setCell ⟨b2, 0, none⟩ (.slice A7 VV.length c7)).setCell ⟨b2, 1, none⟩ (.slice A8 sl.length c8) := ⟨_, rfl⟩
      obtain ⟨t0, t1, ho, he⟩ := fin_td (H := p) (w := w) hwf HOW.out HJ2.out.r HB2.out HJ2.out.ext
      rw [← hwf]
      refine bodyPost_ret (v := .agg #[.slice A7 VV.length c7, .slice A8 sl.length c8]) (by simp [results, Tryd.results37, go_sem, t0, t1]) rfl ?_
      rw [HN.out] at ho
      exact ⟨_, _, rfl, ho, he⟩
end Go.Proofs.YtniggdaakiofeaaDoor
