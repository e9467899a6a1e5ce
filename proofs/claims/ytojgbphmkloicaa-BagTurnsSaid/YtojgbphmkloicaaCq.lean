/- BagTurns. -/
import Derived.Test.YtojgbphmkloicaaCm
namespace Go.Proofs.Ytojgbphmkloicaa
open Go Go.RowKit Go.Sort
set_option maxHeartbeats 4000000

theorem ext_w : LeW Ext := ⟨fun h => h, fun h k => ext_trans h k, fun h => ext_size h⟩
def evT (r : Nat) (L : List AC) (j : Nat) : List Ev := (turnE (evs L) r j).filter okE
theorem evT_len (r : Nat) (L : List AC) (j : Nat) : (evT r L j).length ≤ j := by
  unfold evT turnE
  exact Nat.le_trans (List.length_filter_le ..) (by simp)
theorem evT_succ {r : Nat} {L : List AC} {j : Nat} {y : AC} (h : L[(j + r) % L.length]? = some y) : addE (evT r L j) (y.time, y.key) = evT r L (j + 1) := by
  have h5 := turn_ok (A := evs L) (r := r) (j := j)
  have h6 : (evs L).getD ((j + r) % (evs L).length) ev0 = (y.time, y.key) := by
    unfold evs
    rw [List.length_map, List.getD_eq_getElem?_getD, List.getElem?_map, h]
    rfl
  rw [h6] at h5
  exact h5
theorem evT_perm (r : Nat) (L : List AC) (n : Nat) (hn : n = L.length) : (evT r L n).Perm (evL L n) := by
  have h5 := turnE_ok (evs L) r
  have h6 : (evs L).length = L.length := by unfold evs; rw [List.length_map]
  unfold evT evL
  rw [hn, ← h6, List.take_length]
  exact h5
theorem cont_none {o c : Int} {M : List (Key × Nat)} (h : Cont [] o c M) : M = [] := by
  cases M with
  | nil => rfl
  | cons p M =>
    have h5 := (h.mem p.1 p.2).1 (List.mem_cons_self ..)
    have h6 : cnt [] o c p.1 = 0 := rfl
    omega
set_option maxRecDepth 100000 in
theorem turns_law (v : Value) (L : List AC) (r : Nat) (o c : Int) (w : World) (h : RdA w v L) (hr : r ≤ 255) :
    Calls Try.prog 5 #[v, .int .u8 (r : Int), .agg #[.int .i64 o, .int .i64 c]] w fun e w' => e = .returned (.bool true) ∧ Ext w w' := by
  obtain ⟨A, cp, rfl, hok, hrd⟩ := h
  obtain ⟨n, hn⟩ : ∃ n, n = L.length := ⟨_, rfl⟩
  rw [← hn]
  obtain ⟨W, hW⟩ : ∃ W, W = w.alloc (.cells #[.int .i64 o, .int .i64 c] 35) := ⟨_, rfl⟩
  have HE0 := Lib.hid (show Ext w W by rw [hW]; exact ext_alloc (ext_refl _) _)
  have HB0 := Lib.hid (show W.heap[w.heap.size]? = some (.cells #[.int .i64 o, .int .i64 c] 35 (0, 0)) by rw [hW]; exact heap_alloc_new _ _)
  have HRD := Lib.hid (show RdA w (.slice A n cp) L by rw [hn]; exact ⟨A, cp, rfl, hok, hrd⟩)
  have HOK := Lib.hid hok
  have HN := Lib.hid hn
  clear hok hrd hn
  go_enter Try.func5, Try.ntmps5
  go_wp2_with fail
  rw [← hW]
  clear hW
  refine (awake_any W).mono ?_
  rintro e w1 ⟨rfl, hE1⟩
  have HE1 := Lib.hid (ext_trans HE0.out hE1)
  have HB1 := Lib.hid ((ext_block hE1 (block_lt HB0.out)).trans HB0.out)
  clear hE1
  by_cases hbig : (40 : Int) < (n : Int)
  · go_wp2_with fail
    refine (awake_any w1).mono ?_
    rintro e w2 ⟨rfl, hE2⟩
    have HE2 := Lib.hid (ext_trans HE1.out hE2)
    clear hE2
    go_wp2
    refine bodyPost_ret (results_tmp rfl _ _ _) rfl ?_
    exact ⟨rfl, HE2.out⟩
  by_cases hnone : n = 0
  · subst hnone
    go_wp2_with fail
    refine (awake_any w1).mono ?_
    rintro e w2 ⟨rfl, hE2⟩
    have HE2 := Lib.hid (ext_trans HE1.out hE2)
    clear hE2
    go_wp2
    refine bodyPost_ret (results_tmp rfl _ _ _) rfl ?_
    exact ⟨rfl, HE2.out⟩
  have hnz : ¬ (n : Int) = 0 := by omega
  have hd1 : decide ((40 : Int) < (n : Int)) = false := decide_eq_false hbig
  have hd2 : ((n : Int) == 0) = false := by simpa using hnz
  go_wp2_with fail
  refine (new_two w1).mono ?_
  rintro e w2 ⟨pa, rfl, hpa, hB2, hE2, hs2⟩
  have HE2 := Lib.hid hE2
  have HB2 := Lib.hid hB2
  have HPA := Lib.hid (And.intro hpa hs2)
  clear hE2 hB2 hpa hs2
  go_wp2_with fail
  refine (new_two w2).mono ?_
  rintro e w3 ⟨pb, rfl, hpb, hB3, hE3, hs3⟩
  have HBG := Lib.hid (show Bags w3 pa pb (evL L 0) (evT r L 0) w1.heap.size w3.heap.size from by
    obtain ⟨Fa, h1, h2⟩ := HB2.out
    obtain ⟨Fb, h3, h4⟩ := hB3
    obtain ⟨h5, h6⟩ := HPA.out
    exact ⟨Fa, Fb, bagM_ext h1 hE3, h3, fun b ha hb => by have := h2 b ha; have := h4 b hb; omega, fun b hb => by have := h2 b hb; omega, fun b hb => by have := h4 b hb; omega⟩)
  have HE3 := Lib.hid (ext_trans HE2.out hE3)
  clear hpb hB3 hE3 hs3 HB2 HE2 HPA
  have hn40 : n ≤ 40 := by omega
  clear hbig hd1 hd2
  go_wp2
  go_loopw [39] (fun x wr => ∃ j : Nat, j ≤ n ∧ x = .int .i64 (j : Int) ∧ Bags wr pa pb (evL L j) (evT r L j) w1.heap.size wr.heap.size ∧ Ext w1 wr) (fun x _ => n - (intOf x).toNat)
  case atStart => exact ⟨0, by omega, rfl, HBG.out, HE3.out⟩
  case round =>
    rename World => wi
    obtain ⟨j, hj, rfl, hB, hE⟩ := hrel
    have HB := Lib.hid hB
    have HE := Lib.hid hE
    clear hB hE
    by_cases hlt : j < n
    · have hji : (j : Int) < (n : Int) := by omega
      have hj0 : (0 : Int) ≤ (j : Int) := by omega
      obtain ⟨x, hx⟩ : ∃ x, L[j]? = some x := ⟨_, List.getElem?_eq_getElem (by rw [← HN.out]; exact hlt)⟩
      have hjl : (j + r) % n < n := Nat.mod_lt _ (by omega)
      obtain ⟨y, hy⟩ : ∃ y, L[(j + r) % n]? = some y := ⟨_, List.getElem?_eq_getElem (by rw [← HN.out]; exact hjl)⟩
      obtain ⟨A', c', hv', _, hrd⟩ := rdA_ext HRD.out (ext_trans HE1.out HE.out)
      simp only [Value.slice.injEq] at hv'
      obtain ⟨rfl, -, rfl⟩ := hv'
      obtain ⟨g, off, rfl, lg, hc⟩ := hrd (fun e => by rw [e] at hx; simp at hx)
      obtain ⟨c0, c1, c2, c3, c4, c5⟩ := hc j x hx
      obtain ⟨d0, d1, d2, d3, d4, d5⟩ := hc ((j + r) % n) y hy
      have HX := Lib.hid hx
      have HY := Lib.hid (show L[(j + r) % L.length]? = some y by rw [← HN.out]; exact hy)
      have HOX := Lib.hid (HOK.out x (List.mem_of_getElem? hx))
      have HOY := Lib.hid (HOK.out y (List.mem_of_getElem? hy))
      have HJL := Lib.hid hjl
      have hm0 : (0 : Int) ≤ ((j : Int) + (r : Int)) % (n : Int) := Int.emod_nonneg _ (by omega)
      have hm1 : ((j : Int) + (r : Int)) % (n : Int) < (n : Int) := Int.emod_lt_of_pos _ (by omega)
      obtain ⟨W4, hW4⟩ : ∃ W4, W4 = (wi.alloc (.cells #[.int .u8 x.kind, .int .i64 x.time, .int .i64 x.n, .int .i64 x.key.a, .int .i64 x.key.b, .int .i64 x.key.c] 30)).alloc (.cells #[.int .u8 y.kind, .int .i64 y.time, .int .i64 y.n, .int .i64 y.key.a, .int .i64 y.key.b, .int .i64 y.key.c] 30) := ⟨_, rfl⟩
      have HEW := Lib.hid (show Ext wi W4 by rw [hW4]; exact ext_alloc (ext_alloc (ext_refl _) _) _)
      have HY4 := Lib.hid (show W4.heap[wi.heap.size + 1]? = some (.cells #[.int .u8 y.kind, .int .i64 y.time, .int .i64 y.n, .int .i64 y.key.a, .int .i64 y.key.b, .int .i64 y.key.c] 30 (0, 0)) by
        rw [hW4]
        have h5 := heap_alloc_new (wi.alloc (.cells #[.int .u8 x.kind, .int .i64 x.time, .int .i64 x.n, .int .i64 x.key.a, .int .i64 x.key.b, .int .i64 x.key.c] 30)) (.cells #[.int .u8 y.kind, .int .i64 y.time, .int .i64 y.n, .int .i64 y.key.a, .int .i64 y.key.b, .int .i64 y.key.c] 30)
        simpa using h5)
      clear hc hrd hx hy
      have hlen := evL_len L j
      have hlenB := evT_len r L j
      go_wp2_with fail
      rw [← hW4]
      clear hW4 c0 c1 c2 c3 c4 c5 d0 d1 d2 d3 d4 d5 lg hjl hm0 hm1
      refine (add_two pa pb (evL L j) (evT r L j) w1.heap.size wi.heap.size x.time x.key W4 (bags_ext HB.out HEW.out) (ext_size HEW.out) (by omega) HOX.out.2.2 HOX.out.1).mono ?_
      rintro e w5 ⟨cc, rfl, hB5, hU5⟩
      obtain ⟨bx, hbx⟩ : ∃ b, b = wi.heap.size := ⟨_, rfl⟩
      obtain ⟨bY, hbY⟩ : ∃ b, b = wi.heap.size + 1 := ⟨_, rfl⟩
      have hx5 := (hU5.block (wi.heap.size + 1) (block_lt HY4.out) (fun e => by have h : w1.heap.size ≤ wi.heap.size + 1 ∧ wi.heap.size + 1 < wi.heap.size := e; omega)).trans HY4.out
      rw [← hbY] at hx5 ⊢
      try rw [← hbx]
      have HB5 := Lib.hid hB5
      have HE5 := Lib.hid (show Ext w1 w5 from ext_of_upd (upd_trans (upd_of_ext (ext_trans HE.out HEW.out)) hU5 (fun i hi e => absurd e.1 (by omega))))
      have b1 := block_cell hx5 1
      have b3 := block_cell hx5 3
      have b4 := block_cell hx5 4
      have b5 := block_cell hx5 5
      have lb := block_lt hx5
      clear hbx hbY hx5 hB5 hU5
      go_wp2_with fail
      refine (add_two pb pa (evT r L j) (addE (evL L j) (x.time, x.key)) w1.heap.size w5.heap.size y.time y.key w5 (bags_swap HB5.out) (Nat.le_refl _) (by omega) HOY.out.2.2 HOY.out.1).mono ?_
      rintro e w6 ⟨cd, rfl, hB6, hU6⟩
      have HB6 := Lib.hid (bags_swap hB6)
      have HE6 := Lib.hid (show Ext w1 w6 from ext_of_upd (upd_trans (upd_of_ext HE5.out) hU6 (fun i hi e => absurd e.1 (by omega))))
      clear hB6 hU6 b1 b3 b4 b5 lb
      go_wp2
      go_roundw
      case rel => exact ⟨j + 1, by omega, by go_num, (by
        rw [← evL_succ HX.out, ← evT_succ HY.out]
        exact HB6.out), HE6.out⟩
      case measure => simp [intOf]; omega
    · have hjn : j = n := by omega
      subst hjn
      obtain ⟨EA, hEA⟩ : ∃ EV, EV = evL L j := ⟨_, rfl⟩
      obtain ⟨EB, hEB⟩ : ∃ EV, EV = evT r L j := ⟨_, rfl⟩
      have hea : EA.length ≤ 40 := by rw [hEA]; exact Nat.le_trans (evL_len L j) hn40
      have HPM := Lib.hid (show EB.Perm EA by rw [hEA, hEB]; exact evT_perm r L j HN.out)
      have HEV := Lib.hid (show EA = (evs L).filter okE by rw [hEA]; unfold evL; rw [List.take_of_length_le (Nat.le_of_eq (by unfold evs; rw [List.length_map, ← HN.out]))])
      rw [← hEA, ← hEB] at HB
      have hbox := (ext_block HE.out (block_lt HB1.out)).trans HB1.out
      have HBOX := Lib.hid hbox
      have HEW := Lib.hid (ext_trans HE1.out HE.out)
      have HEK := Lib.hid HE1.out
      obtain ⟨bx, hbx⟩ : ∃ b, b = w.heap.size := ⟨_, rfl⟩
      have HBZ := Lib.hid (show w1.heap[bx]? = some (.cells #[.int .i64 o, .int .i64 c] 35 (0, 0)) by rw [hbx]; exact HB1.out)
      have HBW := Lib.hid (show bx < w1.heap.size ∧ w.heap.size ≤ bx by have := block_lt HB1.out; omega)
      clear hEA hEB HBG HE3 hbox HE1 HB1 HE0 HB0
      rw [← hbx] at HBOX ⊢
      clear hbx
      obtain ⟨Fa, Fb, hMA, hMB, hAP⟩ := HB.out
      have HMA := Lib.hid hMA
      have HMB := Lib.hid hMB
      have HAP := Lib.hid hAP
      clear hMA hMB hAP
      obtain ⟨la, hla⟩ : ∃ x, x = EA.length := ⟨_, rfl⟩
      have HLA := Lib.hid hla
      have HLB := Lib.hid (show la = EB.length by rw [hla, HPM.out.length_eq])
      have hlb : EB.length ≤ 40 := by rw [HPM.out.length_eq]; exact hea
      clear hla
      have ux0 : ∀ x, Ext wi x → x.cell? ⟨bx, 0, none⟩ = some (.int .i64 o) := fun x h => block_cell ((ext_block h (block_lt HBOX.out)).trans HBOX.out) 0
      have ux1 : ∀ x, Ext wi x → x.cell? ⟨bx, 1, none⟩ = some (.int .i64 c) := fun x h => block_cell ((ext_block h (block_lt HBOX.out)).trans HBOX.out) 1
      have uxl : ∀ x, Ext wi x → bx < x.heap.size := fun x h => ext_lt h (block_lt HBOX.out)
      have UA := Lib.hid (show ∀ x, Ext wi x → BagM x pa 100 EA Fa from fun x h => bagM_ext HMA.out h)
      have UB := Lib.hid (show ∀ x, Ext wi x → BagM x pb 100 EB Fb from fun x h => bagM_ext HMB.out h)
      go_wp2
      refine wp_region_line ext_w [] [(0, false, (fun v => v = ptr pa), fun _ _ => True), (1, false, (fun v => v = (.agg #[.int .i64 o, .int .i64 c])), fun _ _ => True), (2, false, (fun _ => True), fun v w0 => ∃ M, Cont EA o c M ∧ rowE elN w0 v M), (3, false, (fun v => v = ptr pb), fun _ _ => True), (4, false, (fun v => v = (.agg #[.int .i64 o, .int .i64 c])), fun _ _ => True), (5, false, (fun _ => True), fun v w0 => ∃ M, Cont EB o c M ∧ rowE elN w0 v M), (6, false, (fun v => v = .bool true), fun _ _ => True), (7, false, (fun v => v = .bool false), fun _ _ => True), (8, false, (fun v => v = .bool false), fun _ _ => True), (9, false, (fun v => v = ptr pa), fun _ _ => True), (10, false, (fun v => v = (.int .i64 (la : Int))), fun _ _ => True), (11, false, (fun v => v = ptr pb), fun _ _ => True), (12, false, (fun v => v = (.int .i64 (la : Int))), fun _ _ => True), (13, false, (fun v => v = .bool false), fun _ _ => True)] [14] [0, 1, 2, 3, 4, 5, 6, 7, 8, 9, 10, 11, 12, 13] rfl (by kernel_rfl) (by kernel_rfl) (fun _ _ d _ _ h => by cases d <;> exact h) ?_
      refine wpPre_nil ?_
      refine wpGl_pure1 (fun _ _ _ h h1 w' hw hs => h1 w' hw (h _ hs)) rfl (fun w6 hE6 hS6 => ?_) (fun K hK => ?_)
      · simp only [opAtL, runsAt]
        go_simp
        all_goals (first | exact ⟨ext_refl _, rfl⟩ | exact ext_refl _ | rfl | trivial)
      go_simp
      refine hK _ ?_
      clear hK K
      refine wpGl_pure1 (fun _ _ _ h h1 w' hw hs => h1 w' hw (h _ hs)) rfl (fun w6 hE6 hS6 => ?_) (fun K hK => ?_)
      · have k0 := ux0 w6 hE6
        have k1 := ux1 w6 hE6
        have kl := uxl w6 hE6
        simp only [opAtL, runsAt]
        go_simp
        all_goals (first | exact ⟨ext_refl _, rfl⟩ | exact ext_refl _ | rfl | trivial)
      go_simp
      refine hK _ ?_
      clear hK K
      refine wpGl_step1 rfl (fun v a b hE h => by obtain ⟨M, h5, h6⟩ := h; exact ⟨M, h5, rowE_ext h6 hE⟩) ⟨undef, trivial⟩ (fun w6 hE6 hS6 => ?_) (fun v2 _ K hK => ?_)
      · simp only [opAtL, runsAt]
        go_simp
        refine (content_any pa 100 EA _ o c w6 (UA.out w6 hE6) (by omega)).mono ?_
        rintro e w7 ⟨v', M, rfl, hC, hr, h4⟩
        exact ⟨_, rfl, h4, M, hC, hr.1⟩
      go_simp
      refine hK _ ?_
      clear hK K
      refine wpGl_pure1 (fun _ _ _ h h1 w' hw hs => h1 w' hw (h _ hs)) rfl (fun w6 hE6 hS6 => ?_) (fun K hK => ?_)
      · simp only [opAtL, runsAt]
        go_simp
        all_goals (first | exact ⟨ext_refl _, rfl⟩ | exact ext_refl _ | rfl | trivial)
      go_simp
      refine hK _ ?_
      clear hK K
      refine wpGl_pure1 (fun _ _ _ h h1 w' hw hs => h1 w' hw (h _ hs)) rfl (fun w6 hE6 hS6 => ?_) (fun K hK => ?_)
      · have k0 := ux0 w6 hE6
        have k1 := ux1 w6 hE6
        have kl := uxl w6 hE6
        simp only [opAtL, runsAt]
        go_simp
        all_goals (first | exact ⟨ext_refl _, rfl⟩ | exact ext_refl _ | rfl | trivial)
      go_simp
      refine hK _ ?_
      clear hK K
      refine wpGl_step1 rfl (fun v a b hE h => by obtain ⟨M, h5, h6⟩ := h; exact ⟨M, h5, rowE_ext h6 hE⟩) ⟨undef, trivial⟩ (fun w6 hE6 hS6 => ?_) (fun v5 _ K hK => ?_)
      · simp only [opAtL, runsAt]
        go_simp
        refine (content_any pb 100 EB _ o c w6 (UB.out w6 hE6) (by omega)).mono ?_
        rintro e w7 ⟨v', M, rfl, hC, hr, h4⟩
        exact ⟨_, rfl, h4, M, hC, hr.1⟩
      go_simp
      refine hK _ ?_
      clear hK K
      refine wpGl_pure1 (fun _ _ _ h h1 w' hw hs => h1 w' hw (h _ hs)) rfl (fun w6 hE6 hS6 => ?_) (fun K hK => ?_)
      · obtain ⟨M1, hM1, hr1⟩ := hS6 _ (List.mem_cons_of_mem _ (List.mem_cons_self ..)) (by kernel_rfl)
        obtain ⟨M2, hM2, hr2⟩ := hS6 _ (List.mem_cons_self ..) (by kernel_rfl)
        obtain rfl := cont_unique hM1 hM2 (fun k => cnt_perm HPM.out.symm o c k)
        have hml := cont_len hM1
        simp only [opAtL, runsAt]
        go_simp
        refine (same_any _ _ M1 w6 hr1 hr2 (by omega)).mono ?_
        rintro e w7 ⟨rfl, hE7⟩
        first | exact ⟨rfl, hE7⟩ | exact ⟨_, rfl, hE7, rfl⟩
      go_simp
      refine hK _ ?_
      clear hK K
      refine wpGl_pure1 (fun _ _ _ h h1 w' hw hs => h1 w' hw (h _ hs)) rfl (fun w6 hE6 hS6 => ?_) (fun K hK => ?_)
      · simp only [opAtL, runsAt]
        go_simp
        all_goals (first | exact ⟨ext_refl _, rfl⟩ | exact ext_refl _ | rfl | trivial)
      go_simp
      refine hK _ ?_
      clear hK K
      refine wpGl_pure1 (fun _ _ _ h h1 w' hw hs => h1 w' hw (h _ hs)) rfl (fun w6 hE6 hS6 => ?_) (fun K hK => ?_)
      · simp only [opAtL, runsAt]
        go_simp
        all_goals (first | exact ⟨ext_refl _, rfl⟩ | exact ext_refl _ | rfl | trivial)
      go_simp
      refine hK _ ?_
      clear hK K
      refine wpGl_pure1 (fun _ _ _ h h1 w' hw hs => h1 w' hw (h _ hs)) rfl (fun w6 hE6 hS6 => ?_) (fun K hK => ?_)
      · simp only [opAtL, runsAt]
        go_simp
        all_goals (first | exact ⟨ext_refl _, rfl⟩ | exact ext_refl _ | rfl | trivial)
      go_simp
      refine hK _ ?_
      clear hK K
      refine wpGl_pure1 (fun _ _ _ h h1 w' hw hs => h1 w' hw (h _ hs)) rfl (fun w6 hE6 hS6 => ?_) (fun K hK => ?_)
      · have hlx := len_any pa 100 EA _ w6 (UA.out w6 hE6)
        rw [← HLA.out] at hlx
        simp only [opAtL, runsAt]
        go_simp
        refine hlx.mono ?_
        rintro e w7 ⟨rfl, rfl⟩
        first | exact ⟨rfl, ext_refl _⟩ | exact ⟨_, rfl, ext_refl _, rfl⟩
      go_simp
      refine hK _ ?_
      clear hK K
      refine wpGl_pure1 (fun _ _ _ h h1 w' hw hs => h1 w' hw (h _ hs)) rfl (fun w6 hE6 hS6 => ?_) (fun K hK => ?_)
      · simp only [opAtL, runsAt]
        go_simp
        all_goals (first | exact ⟨ext_refl _, rfl⟩ | exact ext_refl _ | rfl | trivial)
      go_simp
      refine hK _ ?_
      clear hK K
      refine wpGl_pure1 (fun _ _ _ h h1 w' hw hs => h1 w' hw (h _ hs)) rfl (fun w6 hE6 hS6 => ?_) (fun K hK => ?_)
      · have hlx := len_any pb 100 EB _ w6 (UB.out w6 hE6)
        rw [← HLB.out] at hlx
        simp only [opAtL, runsAt]
        go_simp
        refine hlx.mono ?_
        rintro e w7 ⟨rfl, rfl⟩
        first | exact ⟨rfl, ext_refl _⟩ | exact ⟨_, rfl, ext_refl _, rfl⟩
      go_simp
      refine hK _ ?_
      clear hK K
      refine wpGl_pure1 (fun _ _ _ h h1 w' hw hs => h1 w' hw (h _ hs)) rfl (fun w6 hE6 hS6 => ?_) (fun K hK => ?_)
      · simp only [opAtL, runsAt]
        go_simp
        all_goals (first | exact ⟨ext_refl _, rfl⟩ | exact ext_refl _ | rfl | trivial)
      go_simp
      refine hK _ ?_
      clear hK K
      refine wpGl_nil (fun w6 hE6 hS6 => ?_)
      clear hS6 ux0 ux1 uxl
      have HE6 := Lib.hid hE6
      have HBG := Lib.hid (bags_ext HB.out hE6)
      have HB6 := Lib.hid ((ext_block hE6 (block_lt HBOX.out)).trans HBOX.out)
      have HEW6 := Lib.hid (ext_trans HEW.out hE6)
      have HW16 := Lib.hid (ext_trans HE.out hE6)
      have HSW := Lib.hid (ext_size hE6)
      clear hE6
      refine wpSeq_of_list [14] [_] _ _ rfl ?_
      go_wp2
      go_loopw [84] (fun x wr => ∃ i : Nat, i ≤ j ∧ x = .int .i64 (i : Int) ∧ (∃ E, E.Perm (((evs L).drop i).filter okE) ∧ Bags wr pa pb E EB w1.heap.size wi.heap.size) ∧ Ext w1 wr) (fun x _ => j - (intOf x).toNat)
      case atStart => exact ⟨0, by omega, rfl, ⟨EA, by rw [HEV.out]; exact List.Perm.refl _, HBG.out⟩, HW16.out⟩
      case round =>
        rename World => wo
        obtain ⟨i, hi, rfl, hP, hE⟩ := hrel
        have HP := Lib.hid hP
        have HEO := Lib.hid hE
        clear hP hE
        by_cases hlt2 : i < j
        · have hji : (i : Int) < (j : Int) := by omega
          have hj0 : (0 : Int) ≤ (i : Int) := by omega
          obtain ⟨x, hx⟩ : ∃ x, L[i]? = some x := ⟨_, List.getElem?_eq_getElem (by rw [← HN.out]; exact hlt2)⟩
          obtain ⟨A', c', hv', _, hrd⟩ := rdA_ext HRD.out (ext_trans HEK.out HEO.out)
          simp only [Value.slice.injEq] at hv'
          obtain ⟨rfl, -, rfl⟩ := hv'
          obtain ⟨g, off, rfl, lg, hc⟩ := hrd (fun e => by rw [e] at hx; simp at hx)
          obtain ⟨c0, c1, c2, c3, c4, c5⟩ := hc i x hx
          have HX := Lib.hid hx
          have HOX := Lib.hid (HOK.out x (List.mem_of_getElem? hx))
          obtain ⟨W4, hW4⟩ : ∃ W4, W4 = wo.alloc (.cells #[.int .u8 x.kind, .int .i64 x.time, .int .i64 x.n, .int .i64 x.key.a, .int .i64 x.key.b, .int .i64 x.key.c] 30) := ⟨_, rfl⟩
          have HE4 := Lib.hid (show Ext wo W4 by rw [hW4]; exact ext_alloc (ext_refl _) _)
          obtain ⟨E, hpe, hbe⟩ := HP.out
          have HPE := Lib.hid hpe
          have HBE := Lib.hid hbe
          have hel : E.length ≤ 100000 := by
            rw [hpe.length_eq]
            have h5 : ((evs L).drop i).length ≤ j := by rw [List.length_drop]; unfold evs; rw [List.length_map, ← HN.out]; omega
            exact Nat.le_trans (List.length_filter_le ..) (by omega)
          clear hc hrd hx hpe hbe
          go_wp2_with fail
          rw [← hW4]
          clear hW4 c0 c1 c2 c3 c4 c5 lg
          refine (rem_two pa pb E EB w1.heap.size wi.heap.size x.time x.key W4 (bags_ext HBE.out HE4.out) hel HOX.out.2.2).mono ?_
          rintro e w5 ⟨cc, rfl, hB5, hU5⟩
          have HB5 := Lib.hid hB5
          have HE5 := Lib.hid (show Ext w1 w5 from ext_of_upd (upd_trans (upd_of_ext (ext_trans HEO.out HE4.out)) hU5 (fun i hi e => absurd e.1 (by omega))))
          clear hB5 hU5
          go_wp2
          go_roundw
          case rel => exact ⟨i + 1, by omega, by go_num, ⟨_, by
            have hxe : (evs L)[i]? = some (x.time, x.key) := by unfold evs; rw [List.getElem?_map, HX.out]; rfl
            cases hk : okE (x.time, x.key) with
            | true => exact (rem_yes hxe hk HPE.out).2
            | false =>
              obtain ⟨h5, h6⟩ := rem_no hxe hk HPE.out
              rw [List.erase_of_not_mem h5]
              exact h6, HB5.out⟩, HE5.out⟩
          case measure => simp [intOf]; omega
        · have h5 : i = j := by omega
          subst h5
          obtain ⟨E, hpe, hbe⟩ := HP.out
          have hnil : E = [] := by
            rw [List.drop_eq_nil_of_le (Nat.le_of_eq (by unfold evs; rw [List.length_map, ← HN.out])), List.filter_nil] at hpe
            exact List.perm_nil.1 hpe
          subst hnil
          obtain ⟨Fc, hbc⟩ := bags_fst hbe
          have HBC := Lib.hid hbc
          have hb2 := (ext_block HEO.out HBW.out.1).trans HBZ.out
          have HB2 := Lib.hid hb2
          have HF0 := Lib.hid (ext_trans HEK.out HEO.out)
          clear hpe hbe hbc hb2 HP
          go_wp2_with fail
          refine (len_any pa 100 [] Fc wo HBC.out).mono ?_
          rintro e w7 ⟨rfl, hw7⟩
          have hw7' := hw7.symm
          subst hw7'
          clear hw7
          have k0 := block_cell HB2.out 0
          have k1 := block_cell HB2.out 1
          have kl := block_lt HB2.out
          go_wp2_with fail
          refine (content_any pa 100 [] Fc o c wo HBC.out (by simp)).mono ?_
          rintro e w8 ⟨v8, M8, rfl, hC8, hr8, hE8⟩
          obtain rfl := cont_none hC8
          obtain ⟨A8, c8, rfl⟩ := rowE_form hr8.1
          have HB8 := Lib.hid (bagM_ext HBC.out hE8)
          have hb8 := (ext_block hE8 (block_lt HB2.out)).trans HB2.out
          have HE8 := Lib.hid hE8
          clear k0 k1 kl hC8 hr8 hE8
          have k0 := block_cell hb8 0
          have k1 := block_cell hb8 1
          have kl := block_lt hb8
          clear hb8
          go_wp2_with fail
          refine (content_any pa 100 [] Fc o c w8 HB8.out (by simp)).mono ?_
          rintro e w9 ⟨v9, M9, rfl, hC9, hr9, hE9⟩
          obtain rfl := cont_none hC9
          have HR9 := Lib.hid hr9.1
          have HE9 := Lib.hid hE9
          clear k0 k1 kl hC9 hr9 hE9
          go_wp2_with fail
          refine (same_any v9 (.slice none 0 0) [] w9 HR9.out (rowE_nil _) (by simp)).mono ?_
          rintro e w10 ⟨rfl, hE10⟩
          have HF := Lib.hid (ext_trans HF0.out (ext_trans HE8.out (ext_trans HE9.out hE10)))
          clear hE10
          go_wp2
          refine bodyPost_ret (results_tmp rfl _ _ _) rfl ?_
          exact ⟨rfl, HF.out⟩
end Go.Proofs.Ytojgbphmkloicaa
