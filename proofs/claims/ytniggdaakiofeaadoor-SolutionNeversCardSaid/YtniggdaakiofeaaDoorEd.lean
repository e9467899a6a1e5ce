/- The document's Same, Union. -/
import Derived.ChangeKeysEq
import Derived.Test.YtniggdaakiofeaaDoorTc
namespace Go.Proofs.YtniggdaakiofeaaDoor
open Go Go.RowKit Go.Sort
set_option maxHeartbeats 4000000
/- of this seat alone: 80 -/

theorem ba_beq (a : ByteArray) : (a == a) = true := by
  have : (a == a) = (a.data == a.data) := rfl
  rw [this]; simp
theorem ba_bne {a b : ByteArray} (h : a ≠ b) : (a == b) = false := by
  have : (a == b) = (a.data == b.data) := rfl
  rw [this]
  refine Bool.eq_false_iff.2 (fun e => h (ByteArray.ext (by simpa using e)))
theorem eqPd (d : Nat) (a1 b1 : ByteArray) (a2 b2 : Int) (w : World) : (Op.equalIn (d + 2) 81 (.agg #[.string a1, .int .i64 a2]) (.agg #[.string b1, .int .i64 b2])).run Tryd.prog w = .ok (decide ((a1, a2) = (b1, b2))) w := by
  have h3 : ∀ (x y : Int) (w : World), (Op.equalIn (d + 1) 3 (.int .i64 x) (.int .i64 y)).run Tryd.prog w = .ok (x == y) w := fun x y w => run_equalIn_int (P := Tryd.prog) w d 3 .i64 .i64 x y Tryd.underlying3
  have h4 : ∀ (x y : ByteArray) (w : World), (Op.equalIn (d + 1) 9 (.string x) (.string y)).run Tryd.prog w = .ok (x == y) w := fun x y w => by
    rw [Op.equalIn]
    simp [run_underlying Tryd.underlying9]
  have p0 : ∀ (w : World) (x y : Value), (part 9 #[x, y] 0).run Tryd.prog w = .ok x w := fun w x y => by kernel_rfl
  have p1 : ∀ (w : World) (x y : Value), (part 3 #[x, y] 1).run Tryd.prog w = .ok y w := fun w x y => by kernel_rfl
  have hst : Tryd.prog.stoodInHeld 81 = false := by kernel_rfl
  rw [Op.equalIn]
  simp only [Sem.run_bind, run_underlying Tryd.underlying81, Result.andThen_ok]
  simp [hst]
  simp only [p0, p1, Result.andThen_ok, h3, h4]
  by_cases e1 : a1 = b1
  · have hb : (a1 == b1) = true := by rw [e1]; exact ba_beq b1
    by_cases e2 : a2 = b2 <;> simp [hb, e1, e2, ba_beq]
  · have hb : (a1 == b1) = false := ba_bne e1
    simp [hb, e1]
theorem eqP (p q : VarN) (w : World) : (Op.equalIn 10000 81 (.agg #[.string p.1, .int .i64 p.2]) (.agg #[.string q.1, .int .i64 q.2])).run Tryd.prog w = .ok (decide (p = q)) w := eqPd 9998 p.1 q.1 p.2 q.2 w
theorem rsame_any (av bv : Value) (a b : List VarN) (w : World) (ha : rowE elP w av a) (hb : rowE elP w bv b) (h1 : a.length ≤ 1000000) (h2 : b.length ≤ 1000000) :
    Calls Tryd.prog 52 #[av, bv] w fun e w' => e = .returned (.bool (decide (a = b))) ∧ Ext w w' := by
  obtain ⟨A, c, rfl⟩ := rowE_form ha
  obtain ⟨B, d, rfl⟩ := rowE_form hb
  have HA := Lib.hid ha
  have HB := Lib.hid hb
  clear ha hb
  go_enter Tryd.func52, Tryd.ntmps52
  by_cases hl : a.length = b.length
  · have hz : ((a.length : Int) != (b.length : Int)) = false := by rw [hl]; simp
    have HL := Lib.hid hl
    clear hl
    go_wp2
    go_loopw [13] (fun z wr => ∃ j : Nat, j ≤ a.length ∧ z = .int .i64 j ∧ a.take j = b.take j ∧ Ext w wr) (fun z _ => a.length - (intOf z).toNat)
    case atStart => exact ⟨0, Nat.zero_le _, rfl, rfl, ext_refl _⟩
    case round =>
      rename World => wo
      obtain ⟨j, hj, rfl, hpre, hE⟩ := hrel
      have HP := Lib.hid hpre
      have HE := Lib.hid hE
      clear hpre hE
      by_cases hlt : j < a.length
      · have hji : (j : Int) < (a.length : Int) := by omega
        have hji2 : (j : Int) < (b.length : Int) := by have := HL.out; omega
        have hj0 : (0 : Int) ≤ (j : Int) := by omega
        obtain ⟨p, hp⟩ : ∃ q, a[j]? = some q := ⟨_, List.getElem?_eq_getElem hlt⟩
        obtain ⟨q, hq⟩ : ∃ q, b[j]? = some q := ⟨_, List.getElem?_eq_getElem (by have := HL.out; omega)⟩
        obtain ⟨g, rfl, hg⟩ := rowE_some HA.out (fun e => by rw [e] at hp; simp at hp)
        obtain ⟨g', rfl, hg'⟩ := rowE_some HB.out (fun e => by rw [e] at hq; simp at hq)
        obtain ⟨q0, q1⟩ := rowP_cell (rowE_ext HA.out HE.out) hp
        obtain ⟨q2, q3⟩ := rowP_cell (rowE_ext HB.out HE.out) hq
        have HPJ := Lib.hid hp
        have HQJ := Lib.hid hq
        have heq := eqP p q
        obtain ⟨be, hbe⟩ : ∃ be, be = decide (p = q) := ⟨_, rfl⟩
        rw [← hbe] at heq
        have HBE := Lib.hid hbe
        clear hp hq hbe
        obtain ⟨k1, n1⟩ := p
        obtain ⟨k2, n2⟩ := q
        simp only at q0 q1 q2 q3 heq
        have lg := ext_lt HE.out hg
        have lg' := ext_lt HE.out hg'
        have hgc := cell_grown
        go_wp2
        refine wp_region_free 9 [0, 1, 2, 3, 4, 5, 6, 7, 8] [] (by kernel_rfl) (by kernel_rfl) ?_
        repeat (refine wpLoose_step rfl (fun K hK => ?_); (try simp only [Oper.quietAt, Oper.quietUpon]); go_simp; (refine hK _ ?_; clear hK K))
        refine wpLoose_nil (wpFresh_nil (fun w3 hE3 _ => ?_))
        have HE3 := Lib.hid (ext_trans HE.out hE3)
        clear hE3 q0 q1 q2 q3 hgc heq lg lg'
        simp only [List.drop_succ_cons, List.drop_zero]
        refine wpList_nil ?_
        cases be
        · go_wp2
          refine bodyPost_ret (results_tmp rfl _ _ _) rfl ?_
          exact ⟨by rw [decide_eq_false (fun e => by have h := HPJ.out; rw [e, HQJ.out] at h; exact (of_decide_eq_false HBE.out.symm) (Option.some.inj h).symm)]; rfl, HE3.out⟩
        · go_wp2
          go_roundw
          case rel => exact ⟨j + 1, by omega, by go_num, by rw [List.take_add_one, List.take_add_one, HPJ.out, HQJ.out, HP.out, of_decide_eq_true HBE.out.symm], HE3.out⟩
          case measure => simp [intOf]; omega
      · obtain rfl : j = a.length := by omega
        have HD := Lib.hid (show a = b by have h := HP.out; rw [List.take_length, HL.out, List.take_length] at h; exact h)
        go_wp2
        refine bodyPost_ret (results_tmp rfl _ _ _) rfl ?_
        exact ⟨by rw [decide_eq_true HD.out]; rfl, HE.out⟩
  · have hz : ((a.length : Int) != (b.length : Int)) = true := by simp; omega
    have HL := Lib.hid hl
    clear hl
    go_wp2
    refine bodyPost_ret (results_tmp rfl _ _ _) rfl ?_
    exact ⟨by rw [decide_eq_false (fun e => HL.out (by rw [e]))]; rfl, ext_refl _⟩
theorem rowsQ_app {w : World} {sl sl' : List Sl} {M N : List (List VarN)} (h : RowsQ w sl M) (k : RowsQ w sl' N) : RowsQ w (sl ++ sl') (M ++ N) := by
  refine ⟨by rw [List.length_append, List.length_append, h.1, k.1], fun i s r hs hr => ?_⟩
  by_cases hi : i < sl.length
  · rw [List.getElem?_append_left hi] at hs
    rw [List.getElem?_append_left (by rw [← h.1]; exact hi)] at hr
    exact h.2 i s r hs hr
  · rw [List.getElem?_append_right (by omega)] at hs
    rw [List.getElem?_append_right (by rw [← h.1]; omega), ← h.1] at hr
    exact k.2 _ s r hs hr
theorem rowsQ_off {fp : Nat → Prop} {w w' : World} {sl : List Sl} {M : List (List VarN)} (h : RowsQ w sl M) (hU : Upd fp w w') (hf : ∀ b, fp b → ∀ cur t, w.heap[b]? = some (.cells cur t (0, 0)) → t ≠ 81) : RowsQ w' sl M := ⟨h.1, fun i s r hs hr => rowE_off_upd (h.2 i s r hs hr) hU hf⟩
set_option maxRecDepth 100000 in
theorem runion_any (avv arv bvv brv : Value) (U V : List ByteArray) (M N : List (List VarN)) (w : World) (ha : TD w (.agg #[avv, arv]) U M) (hb : TD w (.agg #[bvv, brv]) V N) (hu : U.length ≤ 40000) (hm : V.length ≤ 40000) (hr : M.length ≤ 100000) (hs : N.length ≤ 100000) :
    Calls Tryd.prog 16 #[.agg #[avv, arv], .agg #[bvv, brv]] w fun e w' => ∃ vv rv, e = .returned (.agg #[vv, rv]) ∧ TD w' (.agg #[vv, rv]) (setS (U ++ V)) (M ++ N) ∧ Ext w w' := by
  obtain ⟨a1, a2⟩ := tD_parts ha
  obtain ⟨a3, a4⟩ := tD_parts hb
  obtain ⟨sl, a5, a6⟩ := a2
  obtain ⟨sl', a7, a8⟩ := a4
  obtain ⟨A1, c1, rfl⟩ := rowE_form a1
  obtain ⟨A2, c2, rfl⟩ := rowE_form a5
  obtain ⟨A3, c3, rfl⟩ := rowE_form a3
  obtain ⟨A4, c4, rfl⟩ := rowE_form a7
  have HA1 := Lib.hid a1
  have HA3 := Lib.hid a3
  have HA5 := Lib.hid a5
  have HA6 := Lib.hid a6
  have HA7 := Lib.hid a7
  have HA8 := Lib.hid a8
  have hl1 : sl.length ≤ 100000 := by rw [a6.1]; exact hr
  have hl2 : sl'.length ≤ 100000 := by rw [a8.1]; exact hs
  clear ha hb a1 a3 a5 a6 a7 a8
  obtain ⟨h0, h1, h2⟩ := heap_three w (.cells #[.slice A1 U.length c1, .slice A2 sl.length c2] 34) (.cells #[.slice A3 V.length c3, .slice A4 sl'.length c4] 34) (.cells #[.slice none 0 0, .slice none 0 0] 34)
  obtain ⟨W, hW⟩ : ∃ W, W = ((w.alloc (.cells #[.slice A1 U.length c1, .slice A2 sl.length c2] 34)).alloc (.cells #[.slice A3 V.length c3, .slice A4 sl'.length c4] 34)).alloc (.cells #[.slice none 0 0, .slice none 0 0] 34) := ⟨_, rfl⟩
  obtain ⟨b0, hb0⟩ : ∃ b, b = w.heap.size := ⟨_, rfl⟩
  obtain ⟨b1, hb1⟩ : ∃ b, b = w.heap.size + 1 := ⟨_, rfl⟩
  obtain ⟨b2, hb2⟩ : ∃ b, b = w.heap.size + 1 + 1 := ⟨_, rfl⟩
  have HE0 := Lib.hid (show Ext w W by rw [hW]; exact ext_alloc (ext_alloc (ext_alloc (ext_refl _) _) _) _)
  rw [← hW, ← hb0] at h0
  rw [← hW, ← hb1] at h1
  rw [← hW, show w.heap.size + 2 = b2 by rw [hb2]] at h2
  have H0 := Lib.hid h0
  have H1 := Lib.hid h1
  have H2 := Lib.hid h2
  have HB2 := Lib.hid (show w.heap.size ≤ b2 by omega)
  have HWS := Lib.hid (show W.heap.size = w.heap.size + 3 by rw [hW]; simp)
  have q0 : W.cell? ⟨b0, 0, none⟩ = some (.slice A1 U.length c1) := block_cell h0 0
  have q1 : W.cell? ⟨b0, 1, none⟩ = some (.slice A2 sl.length c2) := block_cell h0 1
  have q2 : W.cell? ⟨b1, 0, none⟩ = some (.slice A3 V.length c3) := block_cell h1 0
  have q3 : W.cell? ⟨b1, 1, none⟩ = some (.slice A4 sl'.length c4) := block_cell h1 1
  have l0 := block_lt h0
  have l1 := block_lt h1
  clear h0 h1 h2
  go_enter Tryd.func16, Tryd.ntmps16
  go_wp2_with fail
  rw [← hW, ← hb2, ← hb1, ← hb0]
  clear hW hb0 hb1 hb2
  have hgc := cell_grown
  obtain ⟨H, hH⟩ : ∃ H, H = W.heap.size := ⟨_, rfl⟩
  have HH := Lib.hid hH
  clear hH
  refine wp_region_gen [] [0, 1, 2, 3, 6, 7, 9, 10] [(4, fun v w' => rowE elS w' v (setS (U ++ V))), (5, fun v w' => noneF elQ H v w'), (8, rowF elQ H sl)] [11, 12, 13] [4, 5, 8] rfl (by kernel_rfl) (by kernel_rfl) (fun _ _ d _ _ h => by cases d <;> exact h) ?_
  refine wpPre_nil ?_
  repeat (refine wpLoose_step rfl (fun K hK => ?_); (try simp only [Oper.quietAt, Oper.quietUpon]); go_simp; (refine hK _ ?_; clear hK K))
  refine wpLoose_nil ?_
  clear q0 q1 q2 q3 hgc
  refine wpGen_step rfl rfl (fun v a b hE h => rowE_ext h hE) (fun w6 hE6 hS6 => ?_) (fun v4 => ?_)
  · simp only [runsAt]
    go_simp
    refine (both_any _ _ U V w6 (rdS_ext (rdS_row HA1.out) (ext_trans HE0.out hE6)) (rdS_ext (rdS_row HA3.out) (ext_trans HE0.out hE6)) hu hm).mono ?_
    rintro e w7 ⟨v', rfl, h3, h4⟩
    exact ⟨_, rfl, h4, h3⟩
  refine wpGen_step rfl rfl (fun v a b hE h => noneF_ext _ _ _ hE h) (fun w6 hE6 hS6 => ?_) (fun v5 => ?_)
  · simp only [runsAt]
    go_simp
    exact ⟨ext_alloc (ext_refl _) _, w6.heap.size, rfl, by rw [HH.out]; exact ext_size hE6, heap_alloc_new w6 _⟩
  refine wpGen_step rfl rfl rowF_ext (fun w6 hE6 hS6 => ?_) (fun v8 => ?_)
  · have h5 : noneF elQ H v5 w6 := hS6 _ (List.mem_cons_self ..) (by kernel_rfl)
    refine runs_append (sv := v5) (xv := .slice A2 sl.length c2) (.tmp 10) (.tmp 12) rfl rfl rfl ?_
    obtain ⟨v', w', hrun, hE7, hr7⟩ := append_copy tpQ 32 H v5 _ sl w6 h5 (srcOf_ext (ext_trans HE0.out hE6) (srcOf_row HA5.out)) (by omega)
    exact ⟨v', w', hrun, hE7, hr7⟩
  refine wpGen_nil (fun w6 hE6 hS6 => ?_)
  have h8 : rowF elQ H sl v8 w6 := hS6 _ (List.mem_cons_self ..)
  have h4 : rowE elS w6 v4 (setS (U ++ V)) := hS6 _ (List.mem_cons_of_mem _ (List.mem_cons_of_mem _ (List.mem_cons_self ..)))
  obtain ⟨A7, c7, rfl⟩ := rowE_form h4
  have H8 := Lib.hid h8
  have H4 := Lib.hid h4
  have HE6 := Lib.hid hE6
  clear hS6 h8 h4 hE6
  refine wpSeq_of_list [11, 12, 13] [_, _, _] _ _ rfl ?_
  refine wpList_append rfl (.tmp 13) (.tmp 15) rfl v8 _ rfl rfl (fun v' w' => rowF elQ H (sl ++ sl') v' w' ∧ w6.grownBy w' v8.ownBlock) (append_onto tpQ _ H v8 _ sl sl' w6 H8.out (srcOf_ext (ext_trans HE0.out HE6.out) (srcOf_row HA7.out)) (by omega) (by rw [HH.out]; exact ext_size HE6.out)) ?_
  rintro v9 w9 ⟨h9, hG⟩
  have hU9 : Upd (fun b => v8.ownBlock = some b) w6 w9 := upd_grown hG
  have hoff : ∀ b, v8.ownBlock = some b → ∀ cur t, w6.heap[b]? = some (.cells cur t (0, 0)) → t = 52 := fun b hb cur t hbt => by
    obtain ⟨_, cur', hc'⟩ := rowE_block H8.out.1 hb
    rw [hbt] at hc'
    simp only [Option.some.injEq, Obj.cells.injEq] at hc'
    rw [hc'.2.1]
    rfl
  obtain ⟨A9, c9, rfl⟩ := rowE_form h9.1
  have HEW := Lib.hid (ext_upd (ext_trans HE0.out HE6.out) hU9 (fun b hb => by have h1 := H8.out.2 b hb; have := HH.out; have := HWS.out; omega))
  have HTD := Lib.hid (show TD w9 (.agg #[.slice A7 (setS (U ++ V)).length c7, .slice A9 (sl ++ sl').length c9]) (setS (U ++ V)) (M ++ N) from
    ⟨_, _, rfl, rowE_off_upd H4.out hU9 (fun b hb cur t hbt => by rw [hoff b hb cur t hbt]; decide), sl ++ sl', h9.1, rowsQ_off (rowsQ_ext (rowsQ_app HA6.out HA8.out) (ext_trans HE0.out HE6.out)) hU9 (fun b hb cur t hbt => by rw [hoff b hb cur t hbt]; decide)⟩)
  have hb2 : w9.heap[b2]? = some (.cells #[.slice none 0 0, .slice none 0 0] 34 (0, 0)) := (hU9.block b2 (ext_lt HE6.out (block_lt H2.out)) (fun e => by have h1 := H8.out.2 b2 e; have h2 := block_lt H2.out; have := HH.out; omega)).trans ((ext_block HE6.out (block_lt H2.out)).trans H2.out)
  have HB9 := Lib.hid hb2
  have r0 : w9.cell? ⟨b2, 0, none⟩ = some (.slice none 0 0) := block_cell hb2 0
  have r1 : w9.cell? ⟨b2, 1, none⟩ = some (.slice none 0 0) := block_cell hb2 1
  have s0 : w9.frozen? ⟨b2, 0, none⟩ = false := block_frozen hb2 0
  have s1 : w9.frozen? ⟨b2, 1, none⟩ = false := block_frozen hb2 1
  have l2 := block_lt hb2
  obtain ⟨VV, hVV⟩ : ∃ VV, VV = setS (U ++ V) := ⟨_, rfl⟩
  obtain ⟨sn, hsn⟩ : ∃ n, n = (sl ++ sl').length := ⟨_, rfl⟩
  rw [← hVV] at HTD ⊢
  rw [← hsn] at HTD ⊢
  have HVV := Lib.hid hVV
  clear h9 hG hU9 hoff hb2 hVV hsn H4 l0 l1
  go_wp2
  obtain ⟨wf, hwf⟩ : ∃ wf, wf = (w9.setCell ⟨b2, 0, none⟩ (.slice A7 VV.length c7)).setCell ⟨b2, 1, none⟩ (.slice A9 sn c9) := ⟨_, rfl⟩
  obtain ⟨t0, t1, ho, he⟩ := fin_td (H := H) (w := w) hwf HTD.out HB9.out HB2.out HEW.out
  rw [← hwf]
  refine bodyPost_ret (v := .agg #[.slice A7 VV.length c7, .slice A9 sn c9]) (by simp [results, Tryd.results16, go_sem, t0, t1]) rfl ?_
  rw [← HVV.out]
  exact ⟨_, _, rfl, ho, he⟩
end Go.Proofs.YtniggdaakiofeaaDoor
