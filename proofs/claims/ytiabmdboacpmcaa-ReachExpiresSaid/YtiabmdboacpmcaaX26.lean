/- Texts joined: Qh Qj Qk Ql Qm Qp. -/
import Derived.Test.YtiabmdboacpmcaaX24
import Derived.Test.YtiabmdboacpmcaaX25
import Derived.Test.YtiabmdboacpmcaaX21
/- Empty. -/
namespace Go.Proofs.Ytiabmdboacpmcaa
open Go Go.RowKit Go.Sort
set_option maxHeartbeats 800000

theorem eg34 (args : Array Value) (w : World) : (callFunc 34 args).run Try.prog w = .ok (.enter 34 args) w := enter_fn Try.func34 (by kernel_rfl) rfl args w
theorem eg67 (args : Array Value) (w : World) : (callFunc 67 args).run Try.prog w = .ok (.enter 67 args) w := enter_fn Try.func67 (by kernel_rfl) rfl args w
theorem emptyA_any : ∀ ps : List Tr, (ps.any fun q => emptyT q) = emptyA ps
  | [] => by rw [emptyA]; rfl
  | p :: r => by rw [List.any_cons, emptyA_any r, emptyA]
theorem emptyS_any : ∀ ps : List Tr, (ps.any fun q => !emptyT q) = !emptyS ps
  | [] => by rw [emptyS]; rfl
  | p :: r => by rw [List.any_cons, emptyS_any r, emptyS, Bool.not_and]
def EmptyAt (N : Nat) : Prop := ∀ (t : Tr) (v : Value) (w : World), sizeT t ≤ N → PV w t v → Calls Try.prog 34 #[v] w fun e w' => e = .returned (.bool (emptyT t)) ∧ Ext w w'
theorem empty1_any {N : Nat} (hd : EmptyAt N) (t : Tr) (v : Value) (w : World) (hN : sizeT t ≤ N) (hv : PV w t v) :
    Calls Try.prog 67 #[v] w fun e w' => e = .returned (.bool (!emptyT t)) ∧ Ext w w' := by
  have HV := Lib.hid hv
  have c0 := Lib.hid hd
  cases t with
  | node k n ps =>
    obtain ⟨s, rfl, hs⟩ := hv
    clear hs hd
    go_enter Try.func67, Try.ntmps67
    go_wp2_with (go_at_call 34; refine (c0.out (.node k n ps) _ _ hN (PV_ext HV.out (ext_alloc (ext_refl _) _))).mono ?_; rintro e w1 ⟨rfl, hE1⟩; have HE1 := Lib.hid (ext_trans (ext_alloc (ext_refl _) _) hE1); clear hE1)
    refine bodyPost_ret (results_tmp rfl _ _ _) rfl ?_
    exact ⟨rfl, HE1.out⟩
theorem empty_partsA {N : Nat} (hd : EmptyAt N) (hN1 : N ≤ 100000) (ps : List Tr) (s : Value) (w w0 : World) (hN : sizeL ps ≤ N) (hs : PS w ps s) (hE : Ext w w0) : Calls Try.prog 66 #[s, .func (.func 34) #[] #[]] w0 fun e w' => e = .returned (.bool (emptyA ps)) ∧ Ext w w' := by
  have hlen := sizeL_len ps
  refine (containsFunc_any 34 _ eg34 ps (fun q => emptyT q) _ _ (PS_ext hs hE) (fun q hq v1 w1 hE1 hv1 => by simpa using hd q v1 w1 (Nat.le_trans (sizeL_mem hq) hN) hv1) (by omega)).mono ?_
  rintro e w1 ⟨rfl, hE1⟩
  exact ⟨by rw [emptyA_any], ext_trans hE hE1⟩
theorem empty_partsS {N : Nat} (hd : EmptyAt N) (hN1 : N ≤ 100000) (ps : List Tr) (s : Value) (w w0 : World) (hN : sizeL ps ≤ N) (hs : PS w ps s) (hE : Ext w w0) : Calls Try.prog 66 #[s, .func (.func 67) #[] #[]] w0 fun e w' => e = .returned (.bool (!emptyS ps)) ∧ Ext w w' := by
  have hlen := sizeL_len ps
  refine (containsFunc_any 67 _ eg67 ps (fun q => !emptyT q) _ _ (PS_ext hs hE) (fun q hq v1 w1 hE1 hv1 => by simpa using empty1_any hd q v1 w1 (Nat.le_trans (sizeL_mem hq) hN) hv1) (by omega)).mono ?_
  rintro e w1 ⟨rfl, hE1⟩
  exact ⟨by rw [emptyS_any], ext_trans hE hE1⟩
theorem empty_step {N : Nat} (hd : EmptyAt N) (hN1 : N ≤ 100000) : EmptyAt (N + 1) := by
  intro t v w hN hv
  cases t with
  | node k n ps =>
    rw [sizeT] at hN
    obtain ⟨s, rfl, hs⟩ := hv
    have hlen := sizeL_len ps
    have c0 := Lib.hid (fun w0 (hE : Ext w w0) => empty_partsA hd hN1 ps s w w0 (by omega) hs hE)
    have c1 := Lib.hid (fun w0 (hE : Ext w w0) => empty_partsS hd hN1 ps s w w0 (by omega) hs hE)
    obtain ⟨A, c, rfl⟩ := PS_form hs
    clear hd hs
    by_cases h46 : k = 4 ∨ k = 6
    · have hf : emptyT (.node k n ps) = true := by rw [emptyT, if_pos h46]
      rw [hf]
      clear hf
      rcases h46 with rfl | rfl
      all_goals
        go_enter Try.func34, Try.ntmps34
        go_wp2
        refine bodyPost_ret (results_tmp rfl _ _ _) rfl ?_
        exact ⟨rfl, ext_alloc (ext_refl _) _⟩
    by_cases h35 : k = 3 ∨ k = 5
    · have hf : emptyT (.node k n ps) = emptyA ps := by rw [emptyT, if_neg h46, if_pos h35]
      rw [hf]
      clear hf h46
      rcases h35 with rfl | rfl
      all_goals
        go_enter Try.func34, Try.ntmps34
        go_wp2_with (go_at_call 66; refine (c0.out _ (ext_alloc (ext_refl _) _)).mono ?_; rintro e w1 ⟨rfl, hE1⟩; have HE1 := Lib.hid hE1; clear hE1)
        refine bodyPost_ret (results_tmp rfl _ _ _) rfl ?_
        exact ⟨rfl, HE1.out⟩
    by_cases h2 : k = 2
    · have hf : emptyT (.node k n ps) = emptyS ps := by rw [emptyT, if_neg h46, if_neg h35, if_pos h2]
      rw [hf]
      clear hf h46 h35
      subst h2
      go_enter Try.func34, Try.ntmps34
      go_wp2_with (go_at_call 66; refine (c1.out _ (ext_alloc (ext_refl _) _)).mono ?_; rintro e w1 ⟨rfl, hE1⟩; have HE1 := Lib.hid hE1; clear hE1)
      refine bodyPost_ret (results_tmp rfl _ _ _) rfl ?_
      exact ⟨by simp, HE1.out⟩
    · have hf : emptyT (.node k n ps) = false := by rw [emptyT, if_neg h46, if_neg h35, if_neg h2]
      rw [hf]
      clear hf
      have n2 : (k == 2) = false := by rw [beq_eq_false_iff_ne]; exact h2
      have n3 : (k == 3) = false := by rw [beq_eq_false_iff_ne]; omega
      have n4 : (k == 4) = false := by rw [beq_eq_false_iff_ne]; omega
      have n5 : (k == 5) = false := by rw [beq_eq_false_iff_ne]; omega
      have n6 : (k == 6) = false := by rw [beq_eq_false_iff_ne]; omega
      clear h46 h35 h2
      go_enter Try.func34, Try.ntmps34
      go_wp2
      refine bodyPost_ret (results_tmp rfl _ _ _) rfl ?_
      exact ⟨rfl, ext_alloc (ext_refl _) _⟩
theorem empty_all : ∀ N : Nat, N ≤ 100000 → EmptyAt N
  | 0, _ => fun t v w hN => by have := sizeT_pos t; omega
  | N + 1, h => empty_step (empty_all N (by omega)) (by omega)
theorem empty_any (t : Tr) (v : Value) (w : World) (hN : sizeT t ≤ 100000) (hv : PV w t v) : Calls Try.prog 34 #[v] w fun e w' => e = .returned (.bool (emptyT t)) ∧ Ext w w' :=
  empty_all 100000 (Nat.le_refl _) t v w hN hv
end Go.Proofs.Ytiabmdboacpmcaa
/- The document's Takes: each kind of path. -/
namespace Go.Proofs.Ytiabmdboacpmcaa
open Go Go.RowKit Go.Sort
set_option maxHeartbeats 1000000

theorem rpk_all {N M : Nat} (hT : RTk N M) (hM0 : M ≤ 1000) (hN1 : N ≤ 100000) : RPk N M := by
  intro ps
  induction ps with
  | nil => intro rb n l v u w h; exact absurd rfl h
  | cons p r ih =>
    intro rb n l v u w _ hN hM hF hn hl hu
    rw [sizeL] at hN
    rw [formL, Bool.and_eq_true] at hF
    cases r with
    | nil => exact rpk_one hT p rb n l v u w (by omega) hM hF.1 hn hl hu
    | cons q r =>
      have hlen := sizeL_len (q :: r)
      rw [List.length_cons] at hlen
      exact rpk_more hT p q r (fun rb n l v u w h1 h2 h3 h4 => ih rb n l v u w (by simp) (by omega) h1 hF.2 h2 h3 h4) rb n l v u w (by omega) (by omega) hM hM0 hF.1 hn hl hu

theorem rtk_sym (k m : Int) (hk : k = 0 ∨ k = 1) (rb n x : Nat) (v : Value) (u : List Sy) (w : World) (hM : u.length ≤ 1000) (_hn : n ≤ 100) (hl : Lst w rb n (.node k m []) x) (hu : RdY w v u) : Calls Try.prog 33 #[.slice (some ⟨rb, 0, none⟩) n n, .int .i64 (x : Int), v] w fun e w' => e = .returned (.bool (tk (.node k m []) u)) ∧ Ext w w' := by
  obtain ⟨hx, lrb, q1, q2, A, c, q3, hc, -⟩ := lst_node hl
  have hxi : (x : Int) < (n : Int) := by omega
  have hx0 : (0 : Int) ≤ (x : Int) := by omega
  obtain ⟨A2, c2, rfl, hc2, hA2⟩ := hu
  have hgc := cell_grown
  have hB := heap_alloc_new w (.cells #[.int .i64 k, .int .i64 m, .slice A 0 c] 102)
  have hE := ext_alloc (ext_refl w) (.cells #[.int .i64 k, .int .i64 m, .slice A 0 c] 102)
  obtain ⟨w0, hw0⟩ : ∃ w0, w0 = w.alloc (.cells #[.int .i64 k, .int .i64 m, .slice A 0 c] 102) := ⟨_, rfl⟩
  have HW0 := Lib.hid hw0
  rw [← hw0] at hB hE
  have HE := Lib.hid hE
  have p0 : w0.cell? ⟨w.heap.size, 0, none⟩ = some (.int .i64 k) := block_cell hB 0
  have p1 : w0.cell? ⟨w.heap.size, 1, none⟩ = some (.int .i64 m) := block_cell hB 1
  have lp := block_lt hB
  simp only [List.length_nil] at q3 hc
  by_cases hu1 : u.length = 1
  · obtain ⟨a, rfl⟩ : ∃ a, u = [a] := by
      match u, hu1 with
      | [a], _ => exact ⟨a, rfl⟩
    obtain ⟨a1, a2⟩ := a
    obtain ⟨b, off, rfl, lb, hcs⟩ := hA2 (by simp)
    obtain ⟨z0, z1⟩ := hcs 0 (a1, a2) rfl
    simp only [Nat.zero_mul, Nat.add_zero] at z0 z1
    replace z0 := (ext_cell hE _ _ lb).trans z0
    replace z1 := (ext_cell hE _ _ lb).trans z1
    have lb' := ext_lt hE lb
    simp only [List.length_singleton] at hc2 ⊢
    clear hw0 hl hB hE hA2 hcs
    rcases hk with rfl | rfl
    · by_cases he : (a1, a2) = (m, false)
      · have heq : ∀ w : World, Sem.run Try.prog (Op.equalIn 10000 110 (.agg #[.int .i64 a1, .bool a2]) (.agg #[.int .i64 m, .bool false])) w = .ok true w := fun w => by rw [eq110, decide_eq_true he]
        have ht : tk (.node 0 m []) [(a1, a2)] = true := (tk_iff _ _).2 ((words_step _ _).2 (by rw [he]))
        rw [ht]
        clear ht he
        go_enter Try.func33, Try.ntmps33
        go_wp2
        rw [← HW0.out]
        refine wp_region_free 16 [0, 1, 2, 3, 4, 5, 6, 7, 8, 9, 10, 11, 12, 13, 14, 15] [] (by kernel_rfl) (by kernel_rfl) ?_
        repeat (refine wpLoose_step rfl (fun K hK => ?_); (try simp only [Oper.quietAt, Oper.quietUpon]); go_simp; (refine hK _ ?_; clear hK K))
        refine wpLoose_nil (wpFresh_nil (fun w3 hE3 _ => ?_))
        have HE3 := Lib.hid hE3
        clear hE3
        simp only [List.drop_succ_cons, List.drop_zero]
        refine wpList_nil ?_
        go_wp2
        refine bodyPost_ret (results_tmp rfl _ _ _) rfl ?_
        exact ⟨rfl, ext_trans HE.out HE3.out⟩
      · have heq : ∀ w : World, Sem.run Try.prog (Op.equalIn 10000 110 (.agg #[.int .i64 a1, .bool a2]) (.agg #[.int .i64 m, .bool false])) w = .ok false w := fun w => by rw [eq110, decide_eq_false he]
        have ht : tk (.node 0 m []) [(a1, a2)] = false := tk_false (fun h => he (by have := (words_step _ _).1 h; simpa using this))
        rw [ht]
        clear ht he
        go_enter Try.func33, Try.ntmps33
        go_wp2
        rw [← HW0.out]
        refine wp_region_free 16 [0, 1, 2, 3, 4, 5, 6, 7, 8, 9, 10, 11, 12, 13, 14, 15] [] (by kernel_rfl) (by kernel_rfl) ?_
        repeat (refine wpLoose_step rfl (fun K hK => ?_); (try simp only [Oper.quietAt, Oper.quietUpon]); go_simp; (refine hK _ ?_; clear hK K))
        refine wpLoose_nil (wpFresh_nil (fun w3 hE3 _ => ?_))
        have HE3 := Lib.hid hE3
        clear hE3
        simp only [List.drop_succ_cons, List.drop_zero]
        refine wpList_nil ?_
        go_wp2
        refine bodyPost_ret (results_tmp rfl _ _ _) rfl ?_
        exact ⟨rfl, ext_trans HE.out HE3.out⟩
    · by_cases he : (a1, a2) = (m, true)
      · have heq : ∀ w : World, Sem.run Try.prog (Op.equalIn 10000 110 (.agg #[.int .i64 a1, .bool a2]) (.agg #[.int .i64 m, .bool true])) w = .ok true w := fun w => by rw [eq110, decide_eq_true he]
        have ht : tk (.node 1 m []) [(a1, a2)] = true := (tk_iff _ _).2 ((words_back _ _).2 (by rw [he]))
        rw [ht]
        clear ht he
        go_enter Try.func33, Try.ntmps33
        go_wp2
        rw [← HW0.out]
        refine wp_region_free 16 [0, 1, 2, 3, 4, 5, 6, 7, 8, 9, 10, 11, 12, 13, 14, 15] [] (by kernel_rfl) (by kernel_rfl) ?_
        repeat (refine wpLoose_step rfl (fun K hK => ?_); (try simp only [Oper.quietAt, Oper.quietUpon]); go_simp; (refine hK _ ?_; clear hK K))
        refine wpLoose_nil (wpFresh_nil (fun w3 hE3 _ => ?_))
        have HE3 := Lib.hid hE3
        clear hE3
        simp only [List.drop_succ_cons, List.drop_zero]
        refine wpList_nil ?_
        go_wp2
        refine bodyPost_ret (results_tmp rfl _ _ _) rfl ?_
        exact ⟨rfl, ext_trans HE.out HE3.out⟩
      · have heq : ∀ w : World, Sem.run Try.prog (Op.equalIn 10000 110 (.agg #[.int .i64 a1, .bool a2]) (.agg #[.int .i64 m, .bool true])) w = .ok false w := fun w => by rw [eq110, decide_eq_false he]
        have ht : tk (.node 1 m []) [(a1, a2)] = false := tk_false (fun h => he (by have := (words_back _ _).1 h; simpa using this))
        rw [ht]
        clear ht he
        go_enter Try.func33, Try.ntmps33
        go_wp2
        rw [← HW0.out]
        refine wp_region_free 16 [0, 1, 2, 3, 4, 5, 6, 7, 8, 9, 10, 11, 12, 13, 14, 15] [] (by kernel_rfl) (by kernel_rfl) ?_
        repeat (refine wpLoose_step rfl (fun K hK => ?_); (try simp only [Oper.quietAt, Oper.quietUpon]); go_simp; (refine hK _ ?_; clear hK K))
        refine wpLoose_nil (wpFresh_nil (fun w3 hE3 _ => ?_))
        have HE3 := Lib.hid hE3
        clear hE3
        simp only [List.drop_succ_cons, List.drop_zero]
        refine wpList_nil ?_
        go_wp2
        refine bodyPost_ret (results_tmp rfl _ _ _) rfl ?_
        exact ⟨rfl, ext_trans HE.out HE3.out⟩
  · have hul : ((u.length : Int) == 1) = false := by rw [beq_eq_false_iff_ne]; omega
    have ht : tk (.node k m []) u = false := by
      rcases hk with rfl | rfl
      · exact tk_false (fun h => by rw [(words_step _ _).1 h] at hu1; simp at hu1)
      · exact tk_false (fun h => by rw [(words_back _ _).1 h] at hu1; simp at hu1)
    rw [ht]
    clear ht hu1 hw0 hl hB hE hA2
    rcases hk with rfl | rfl
    · go_enter Try.func33, Try.ntmps33
      go_wp2
      rw [← HW0.out]
      refine wp_region_free 16 [0, 1, 2, 3, 4, 5, 6, 7, 8, 9, 10, 11, 12, 13, 14, 15] [] (by kernel_rfl) (by kernel_rfl) ?_
      repeat (refine wpLoose_step rfl (fun K hK => ?_); (try simp only [Oper.quietAt, Oper.quietUpon]); go_simp; (refine hK _ ?_; clear hK K))
      refine wpLoose_nil (wpFresh_nil (fun w3 hE3 _ => ?_))
      have HE3 := Lib.hid hE3
      clear hE3
      simp only [List.drop_succ_cons, List.drop_zero]
      refine wpList_nil ?_
      go_wp2
      refine bodyPost_ret (results_tmp rfl _ _ _) rfl ?_
      exact ⟨rfl, ext_trans HE.out HE3.out⟩
    · go_enter Try.func33, Try.ntmps33
      go_wp2
      rw [← HW0.out]
      refine wp_region_free 16 [0, 1, 2, 3, 4, 5, 6, 7, 8, 9, 10, 11, 12, 13, 14, 15] [] (by kernel_rfl) (by kernel_rfl) ?_
      repeat (refine wpLoose_step rfl (fun K hK => ?_); (try simp only [Oper.quietAt, Oper.quietUpon]); go_simp; (refine hK _ ?_; clear hK K))
      refine wpLoose_nil (wpFresh_nil (fun w3 hE3 _ => ?_))
      have HE3 := Lib.hid hE3
      clear hE3
      simp only [List.drop_succ_cons, List.drop_zero]
      refine wpList_nil ?_
      go_wp2
      refine bodyPost_ret (results_tmp rfl _ _ _) rfl ?_
      exact ⟨rfl, ext_trans HE.out HE3.out⟩
end Go.Proofs.Ytiabmdboacpmcaa
/- The document's Takes: paths of parts. -/
namespace Go.Proofs.Ytiabmdboacpmcaa
open Go Go.RowKit Go.Sort
set_option maxHeartbeats 1000000

theorem formL_mem : ∀ {ps : List Tr} {q : Tr}, formL ps = true → q ∈ ps → formB q = true
  | p :: r, q, h, hq => by
    rw [formL, Bool.and_eq_true] at h
    rcases List.mem_cons.1 hq with rfl | hq
    · exact h.1
    · exact formL_mem h.2 hq
theorem rtk_seq {N M : Nat} (hP : RPk N M) (m : Int) (ps : List Tr) (rb n x : Nat) (v : Value) (u : List Sy) (w : World) (hne : ps ≠ []) (hN : sizeL ps ≤ N) (hF : formL ps = true) (hM : u.length ≤ M) (hn : n ≤ 100) (hl : Lst w rb n (.node 2 m ps) x) (hu : RdY w v u) : Calls Try.prog 33 #[.slice (some ⟨rb, 0, none⟩) n n, .int .i64 (x : Int), v] w fun e w' => e = .returned (.bool (tk (.node 2 m ps) u)) ∧ Ext w w' := by
  obtain ⟨hx, lrb, q1, q2, A, c, q3, hc, hch⟩ := lst_node hl
  have HLS := Lib.hid (lsL_node hch hc)
  have HLST := Lib.hid hl
  have hxi : (x : Int) < (n : Int) := by omega
  have hx0 : (0 : Int) ≤ (x : Int) := by omega
  obtain ⟨A2, c2, rfl, hc2, hA2⟩ := hu
  have HU := Lib.hid (show RdY w (.slice A2 u.length c2) u from ⟨A2, c2, rfl, hc2, hA2⟩)
  have HCH := Lib.hid hch
  clear hl hch hA2
  have HP := Lib.hid hP
  have ht : tk (.node 2 m ps) u = tkS ps u := by rw [Bool.eq_iff_iff, tk_iff, tkS_iff, words_seq]
  rw [ht]
  clear ht hP
  have HNE := Lib.hid hne
  clear hne
  go_enter Try.func33, Try.ntmps33
  go_wp2_with fail
  refine (HP.out ps rb n _ _ u _ HNE.out hN hM hF hn (lsL_ext HLS.out (ext_alloc (ext_refl _) _)) (rdY_ext HU.out (ext_alloc (ext_refl _) _))).mono ?_
  rintro e w1 ⟨rfl, hE1⟩
  have HE1 := Lib.hid (ext_trans (ext_alloc (ext_refl _) _) hE1)
  clear hE1
  go_wp2
  refine bodyPost_ret (results_tmp rfl _ _ _) rfl ?_
  exact ⟨rfl, HE1.out⟩

theorem rtk_alt {N M : Nat} (hT : RTk N M) (m : Int) (ps : List Tr) (rb n x : Nat) (v : Value) (u : List Sy) (w : World) (hN : sizeL ps ≤ N) (hN1 : N ≤ 100000) (hF : formL ps = true) (hM : u.length ≤ M) (hn : n ≤ 100) (hl : Lst w rb n (.node 3 m ps) x) (hu : RdY w v u) : Calls Try.prog 33 #[.slice (some ⟨rb, 0, none⟩) n n, .int .i64 (x : Int), v] w fun e w' => e = .returned (.bool (tk (.node 3 m ps) u)) ∧ Ext w w' := by
  obtain ⟨hx, lrb, q1, q2, A, c, q3, hc, hch⟩ := lst_node hl
  have HLS := Lib.hid (lsL_node hch hc)
  have HLST := Lib.hid hl
  have hxi : (x : Int) < (n : Int) := by omega
  have hx0 : (0 : Int) ≤ (x : Int) := by omega
  obtain ⟨A2, c2, rfl, hc2, hA2⟩ := hu
  have HU := Lib.hid (show RdY w (.slice A2 u.length c2) u from ⟨A2, c2, rfl, hc2, hA2⟩)
  have HCH := Lib.hid hch
  clear hl hch hA2
  have HT := Lib.hid hT
  have HF := Lib.hid hF
  have hlen := sizeL_len ps
  clear hT hF
  go_enter Try.func33, Try.ntmps33
  go_wp2
  go_loopw [46] (fun x wr => ∃ j : Nat, j ≤ ps.length ∧ x = .int .i64 j ∧ (∀ q ∈ ps.take j, tk q u = false) ∧ Ext w wr ∧ wr.heap[w.heap.size]? = some (.cells #[.int .i64 3, .int .i64 m, .slice A ps.length c] 102 (0, 0))) (fun x _ => ps.length - (intOf x).toNat)
  case atStart => exact ⟨0, Nat.zero_le _, rfl, by simp, ext_alloc (ext_refl _) _, heap_alloc_new _ _⟩
  case round =>
    rename World => wo
    obtain ⟨j, hj, rfl, hno, hE, hb⟩ := hrel
    have HE := Lib.hid hE
    have HB := Lib.hid hb
    have HNO := Lib.hid hno
    have p2 : wo.cell? ⟨w.heap.size, 2, none⟩ = some (.slice A ps.length c) := block_cell hb 2
    have lb := block_lt hb
    clear hE hb hno q1 q2 q3 lrb
    by_cases hlt : j < ps.length
    · have hji : (j : Int) < (ps.length : Int) := by omega
      have hj0 : (0 : Int) ≤ (j : Int) := by omega
      obtain ⟨q, hq⟩ : ∃ q, ps[j]? = some q := ⟨_, List.getElem?_eq_getElem hlt⟩
      have HQ := Lib.hid hq
      have hqs := sizeL_mem (List.mem_of_getElem? hq)
      obtain ⟨g, y, hA, lg, hgy, hyn, hly⟩ := HCH.out j q hq
      subst hA
      have HLY := Lib.hid (lst_ext hly HE.out)
      have hgy' := (ext_cell HE.out _ _ lg).trans hgy
      have lg' := ext_lt HE.out lg
      have HFQ := Lib.hid (formL_mem HF.out (List.mem_of_getElem? hq))
      clear hq hly hgy lg
      go_wp2_with fail
      refine (HT.out q rb n y _ u _ (by omega) hM HFQ.out hn HLY.out (rdY_ext HU.out HE.out)).mono ?_
      rintro e w1 ⟨rfl, hE1⟩
      have HE1 := Lib.hid (ext_trans HE.out hE1)
      have HB1 := Lib.hid ((ext_block hE1 lb).trans HB.out)
      clear hE1 hgy' lg' p2 lb
      cases hfq : tk q u with
      | false =>
        have HFQ := Lib.hid hfq
        clear hfq
        go_wp2
        go_roundw
        case rel => exact ⟨j + 1, by omega, by go_num, fun q' hq' => by
          rw [List.take_add_one, List.mem_append] at hq'
          rcases hq' with h | h
          · exact HNO.out q' h
          · rw [HQ.out] at h
            simp at h
            rw [h]; exact HFQ.out, HE1.out, HB1.out⟩
        case measure => simp [intOf]; omega
      | true =>
        have HFQ := Lib.hid hfq
        clear hfq
        go_wp2
        refine bodyPost_ret (results_tmp rfl _ _ _) rfl ?_
        exact ⟨by rw [(tk_iff _ _).2 ((words_alt m ps u).2 ((wordsAlt_iff ps u).2 ⟨q, List.mem_of_getElem? HQ.out, (tk_iff _ _).1 HFQ.out⟩))]; rfl, HE1.out⟩
    · obtain rfl : j = ps.length := by omega
      rw [List.take_length] at HNO
      go_wp2
      refine bodyPost_ret (results_tmp rfl _ _ _) rfl ?_
      exact ⟨by
        rw [tk_false]
        · rfl
        · intro h
          obtain ⟨q, h1, h2⟩ := (wordsAlt_iff ps u).1 ((words_alt m ps u).1 h)
          exact not_tk (HNO.out q h1) h2, HE.out⟩

theorem rtk_opt {N M : Nat} (hT : RTk N M) (m : Int) (p : Tr) (rb n x : Nat) (v : Value) (u : List Sy) (w : World) (hN : sizeT p ≤ N) (hF : formB p = true) (hM : u.length ≤ M) (hn : n ≤ 100) (hl : Lst w rb n (.node 6 m [p]) x) (hu : RdY w v u) : Calls Try.prog 33 #[.slice (some ⟨rb, 0, none⟩) n n, .int .i64 (x : Int), v] w fun e w' => e = .returned (.bool (tk (.node 6 m [p]) u)) ∧ Ext w w' := by
  obtain ⟨hx, lrb, q1, q2, A, c, q3, hc, hch⟩ := lst_node hl
  have HLS := Lib.hid (lsL_node hch hc)
  have HLST := Lib.hid hl
  have hxi : (x : Int) < (n : Int) := by omega
  have hx0 : (0 : Int) ≤ (x : Int) := by omega
  obtain ⟨A2, c2, rfl, hc2, hA2⟩ := hu
  have HU := Lib.hid (show RdY w (.slice A2 u.length c2) u from ⟨A2, c2, rfl, hc2, hA2⟩)
  have HCH := Lib.hid hch
  clear hl hch hA2
  have HT := Lib.hid hT
  obtain ⟨g, y, hA, lg, hgy, hyn, hly⟩ := HCH.out 0 p rfl
  subst hA
  have HLY := Lib.hid hly
  have l0 : w.heap.size ≠ g := by omega
  simp only [List.length_singleton] at q3 hc
  clear hT hly HCH HLS
  by_cases hu0 : u.length = 0
  · have d0 : ((u.length : Int) == 0) = true := by rw [beq_iff_eq]; omega
    have ht : tk (.node 6 m [p]) u = true := (tk_iff _ _).2 ((words_opt _ _ _).2 (.inl (List.length_eq_zero_iff.1 hu0)))
    rw [ht]
    clear ht hu0
    go_enter Try.func33, Try.ntmps33
    go_wp2
    refine bodyPost_ret (results_tmp rfl _ _ _) rfl ?_
    exact ⟨rfl, ext_alloc (ext_refl _) _⟩
  · have d0 : ((u.length : Int) == 0) = false := by rw [beq_eq_false_iff_ne]; omega
    have ht : tk (.node 6 m [p]) u = tk p u := by
      rw [Bool.eq_iff_iff, tk_iff, tk_iff, words_opt]
      exact ⟨fun h => h.elim (fun e => absurd (by rw [e]; rfl) hu0) id, .inr⟩
    rw [ht]
    clear ht hu0
    go_enter Try.func33, Try.ntmps33
    go_wp2_with fail
    refine (HT.out p rb n y _ u _ hN hM hF hn (lst_ext HLY.out (ext_alloc (ext_refl _) _)) (rdY_ext HU.out (ext_alloc (ext_refl _) _))).mono ?_
    rintro e w1 ⟨rfl, hE1⟩
    have HE1 := Lib.hid (ext_trans (ext_alloc (ext_refl _) _) hE1)
    clear hE1
    go_wp2
    refine bodyPost_ret (results_tmp rfl _ _ _) rfl ?_
    exact ⟨rfl, HE1.out⟩
end Go.Proofs.Ytiabmdboacpmcaa
/- The document's Takes: paths that go again; all together. -/
namespace Go.Proofs.Ytiabmdboacpmcaa
open Go Go.RowKit Go.Sort
set_option maxHeartbeats 2000000

set_option maxRecDepth 100000 in
theorem rtk_again {N M : Nat} (kd : Int) (hkd : kd = 4 ∨ kd = 5) (hT : RTk N M) (hMM : ∀ M', M' ≤ M → RTk N M') (m : Int) (p : Tr) (hB : ∀ M', M' < M → RTk (N + 1) M') (rb n x : Nat) (v : Value) (u : List Sy) (w : World) (hN : sizeT p ≤ N) (hF : formB p = true) (hM : u.length ≤ M) (hM0 : M ≤ 1000) (hn : n ≤ 100) (hl : Lst w rb n (.node kd m [p]) x) (hu : RdY w v u) : Calls Try.prog 33 #[.slice (some ⟨rb, 0, none⟩) n n, .int .i64 (x : Int), v] w fun e w' => e = .returned (.bool (tk (.node kd m [p]) u)) ∧ Ext w w' := by
  have hcut : ∀ u : List Sy, u ≠ [] → (Words (.node kd m [p]) u ↔ ∃ k, 1 ≤ k ∧ k ≤ u.length ∧ Words p (u.take k) ∧ (k = u.length ∨ Words (.node kd m [p]) (u.drop k))) := by
    intro u hne
    rcases hkd with rfl | rfl
    · exact words_star m p hne
    · exact words_plus m p hne
  have hFt : formB (.node kd m [p]) = true := by
    rcases hkd with rfl | rfl <;> simp [formB, formL, hF]
  have hSt : sizeT (.node kd m [p]) ≤ N + 1 := by simp only [sizeT, sizeL]; omega
  obtain ⟨hx, lrb, q1, q2, A, c, q3, hc, hch⟩ := lst_node hl
  have HLST := Lib.hid hl
  have hxi : (x : Int) < (n : Int) := by omega
  have hx0 : (0 : Int) ≤ (x : Int) := by omega
  obtain ⟨A2, c2, rfl, hc2, hA2⟩ := hu
  have HU := Lib.hid (show RdY w (.slice A2 u.length c2) u from ⟨A2, c2, rfl, hc2, hA2⟩)
  obtain ⟨g, y, hA, lg, hgy, hyn, hly⟩ := hch 0 p rfl
  subst hA
  have HLY := Lib.hid hly
  simp only [List.length_singleton] at q3 hc
  clear hl hch hA2 hly
  have HT := Lib.hid hT
  have HMM := Lib.hid hMM
  have HBB := Lib.hid hB
  have HCUT := Lib.hid hcut
  clear hT hMM hB hcut
  by_cases hu0 : u.length = 0
  · have d0 : ((u.length : Int) == 0) = true := by rw [beq_iff_eq]; omega
    have hue : u = [] := List.length_eq_zero_iff.1 hu0
    rcases hkd with rfl | rfl
    · have ht : tk (.node 4 m [p]) u = true := (tk_iff _ _).2 (by rw [hue]; exact words_star_nil m p)
      rw [ht]
      clear ht hu0 hue
      go_enter Try.func33, Try.ntmps33
      go_wp2
      refine bodyPost_ret (results_tmp rfl _ _ _) rfl ?_
      exact ⟨rfl, ext_alloc (ext_refl _) _⟩
    · have ht : tk (.node 5 m [p]) u = tk p u := by
        rw [Bool.eq_iff_iff, tk_iff, tk_iff, hue]
        exact words_plus_nil m p
      rw [ht]
      clear ht hu0 hue
      go_enter Try.func33, Try.ntmps33
      go_wp2_with fail
      refine (HT.out p rb n y _ u _ hN hM hF hn (lst_ext HLY.out (ext_alloc (ext_refl _) _)) (rdY_ext HU.out (ext_alloc (ext_refl _) _))).mono ?_
      rintro e w1 ⟨rfl, hE1⟩
      have HE1 := Lib.hid (ext_trans (ext_alloc (ext_refl _) _) hE1)
      clear hE1
      go_wp2
      refine bodyPost_ret (results_tmp rfl _ _ _) rfl ?_
      exact ⟨rfl, HE1.out⟩
  · have d0 : ((u.length : Int) == 0) = false := by rw [beq_eq_false_iff_ne]; omega
    have HUNE : Hid (u ≠ []) := Lib.hid (fun e => hu0 (by rw [e]; rfl))
    clear hu0
    rcases hkd with rfl | rfl
    · go_enter Try.func33, Try.ntmps33
      go_wp2
      go_loopw [9] (fun x wr => ∃ k : Nat, 1 ≤ k ∧ k ≤ u.length + 1 ∧ x = .int .i64 (k : Int) ∧ (∀ k', 1 ≤ k' → k' < k → ¬ (tk p (u.take k') = true ∧ (k' = u.length ∨ tk (.node 4 m [p]) (u.drop k') = true))) ∧ Ext w wr ∧ wr.heap[w.heap.size]? = some (.cells #[.int .i64 4, .int .i64 m, .slice (some ⟨g, 0, none⟩) 1 c] 102 (0, 0))) (fun x _ => u.length + 1 - (intOf x).toNat)
      case atStart => exact ⟨1, Nat.le_refl _, by omega, rfl, fun k' h h2 => by omega, ext_alloc (ext_refl _) _, heap_alloc_new _ _⟩
      case round =>
        rename World => wr
        obtain ⟨k, hk1, hk, rfl, hno, hE, hb⟩ := hrel
        have HNO := Lib.hid hno
        have HE := Lib.hid hE
        have HB := Lib.hid hb
        have p2 : wr.cell? ⟨w.heap.size, 2, none⟩ = some (.slice (some ⟨g, 0, none⟩) 1 c) := block_cell hb 2
        have lb := block_lt hb
        have hgy' := (ext_cell HE.out _ _ lg).trans hgy
        have lg' := ext_lt HE.out lg
        have hcut := HCUT.out
        clear hno hE hb q1 q2 q3 lrb
        by_cases hlt : k ≤ u.length
        · have hki : (k : Int) ≤ (u.length : Int) := by omega
          have hk0 : (0 : Int) ≤ (k : Int) := by omega
          have hkc : k ≤ c2 := by omega
          have hgc := cell_grown
          have hcall : ∀ W', Ext wr W' → Calls Try.prog 33 #[.slice (some ⟨rb, 0, none⟩) n n, .int .i64 (y : Int), .slice A2 k c2] W' fun e w'' => e = .returned (.bool (tk p (u.take k))) ∧ Ext W' w'' := fun W' hE' =>
            HT.out p rb n y _ (u.take k) W' hN (by rw [List.length_take]; omega) hF hn (lst_ext HLY.out (ext_trans HE.out hE')) (rdY_take (rdY_ext HU.out (ext_trans HE.out hE')) hlt _ hkc)
          have hcall2 : ∀ W', Ext wr W' → Calls Try.prog 33 #[.slice (some ⟨rb, 0, none⟩) n n, .int .i64 (x : Int), .slice (if c2 = k then A2 else Option.map (fun x => x.add (k * 2)) A2) (u.length - k) (c2 - k)] W' fun e w'' => e = .returned (.bool (tk (.node 4 m [p]) (u.drop k))) ∧ Ext W' w'' := fun W' hE' =>
            HBB.out (u.length - k) (by omega) _ rb n x _ (u.drop k) W' hSt (by rw [List.length_drop]; exact Nat.le_refl _) hFt hn (lst_ext HLST.out (ext_trans HE.out hE')) (rdY_from (rdY_ext HU.out (ext_trans HE.out hE')) hlt)
          have HCUT2 := Lib.hid hcut
          clear hcut
          cases hbk : tk p (u.take k) with
          | false =>
            rw [hbk] at hcall
            have HBK := Lib.hid hbk
            have HC := Lib.hid hcall
            clear hbk hcall hcall2
            go_wp2
            refine wp_region_free 23 [0, 1, 2, 3, 4, 5, 6, 7, 8, 9, 10, 11, 12, 13, 14, 15, 16, 17, 18, 19, 20, 21, 22] [] (by kernel_rfl) (by kernel_rfl) ?_
            repeat (refine wpLoose_step rfl (fun K hK => ?_); (try simp only [Oper.quietAt, Oper.quietUpon]); go_simp; first | (refine hK _ ?_; clear hK K) | (apply Exists.intro; refine ⟨fun p => ?_, hK _ ?_⟩; ((go_at_call 33; exact HC.out _ (ext_grow (ext_refl _) _ _))); clear hK K))
            refine wpLoose_nil (wpFresh_nil (fun w3 hE3 _ => ?_))
            have HE3 := Lib.hid (ext_trans HE.out hE3)
            have HB3 := Lib.hid ((ext_block hE3 lb).trans HB.out)
            clear hE3
            simp only [List.drop_succ_cons, List.drop_zero]
            refine wpList_nil ?_
            go_wp2
            go_roundw
            case rel => exact ⟨k + 1, by omega, by omega, by go_num, fun k' h1 hk' => by
              by_cases h : k' < k
              · exact HNO.out k' h1 h
              · obtain rfl : k' = k := by omega
                rw [HBK.out]; simp, HE3.out, HB3.out⟩
            case measure => simp [intOf]; omega
          | true =>
            rw [hbk] at hcall
            have HBK := Lib.hid hbk
            have HC := Lib.hid hcall
            clear hbk hcall
            by_cases hkl : k = u.length
            · have HKL := Lib.hid hkl
              have dk : ((k : Int) == (u.length : Int)) = true := by rw [beq_iff_eq]; omega
              clear hkl hcall2
              go_wp2
              refine wp_region_free 23 [0, 1, 2, 3, 4, 5, 6, 7, 8, 9, 10, 11, 12, 13, 14, 15, 16, 17, 18, 19, 20, 21, 22] [] (by kernel_rfl) (by kernel_rfl) ?_
              repeat (refine wpLoose_step rfl (fun K hK => ?_); (try simp only [Oper.quietAt, Oper.quietUpon]); go_simp; first | (refine hK _ ?_; clear hK K) | (apply Exists.intro; refine ⟨fun p => ?_, hK _ ?_⟩; ((go_at_call 33; exact HC.out _ (ext_grow (ext_refl _) _ _))); clear hK K))
              refine wpLoose_nil (wpFresh_nil (fun w3 hE3 _ => ?_))
              have HE3 := Lib.hid (ext_trans HE.out hE3)
              have HB3 := Lib.hid ((ext_block hE3 lb).trans HB.out)
              clear hE3
              simp only [List.drop_succ_cons, List.drop_zero]
              refine wpList_nil ?_
              go_wp2
              refine bodyPost_ret (results_tmp rfl _ _ _) rfl ?_
              exact ⟨by rw [(tk_iff _ _).2 ((HCUT2.out u HUNE.out).2 ⟨k, hk1, hlt, (tk_iff _ _).1 HBK.out, .inl HKL.out⟩)]; rfl, HE3.out⟩
            · have dk : ((k : Int) == (u.length : Int)) = false := by rw [beq_eq_false_iff_ne]; omega
              cases hb2 : tk (.node 4 m [p]) (u.drop k) with
              | false =>
                rw [hb2] at hcall2
                have HB2 := Lib.hid hb2
                have HC2 := Lib.hid hcall2
                clear hb2 hcall2
                go_wp2
                refine wp_region_free 23 [0, 1, 2, 3, 4, 5, 6, 7, 8, 9, 10, 11, 12, 13, 14, 15, 16, 17, 18, 19, 20, 21, 22] [] (by kernel_rfl) (by kernel_rfl) ?_
                iterate 9 (refine wpLoose_step rfl (fun K hK => ?_); (try simp only [Oper.quietAt, Oper.quietUpon]); go_simp; first | (refine hK _ ?_; clear hK K) | (apply Exists.intro; refine ⟨fun p => ?_, hK _ ?_⟩; (go_at_call 33; exact HC.out _ (ext_grow (ext_refl _) _ _)); clear hK K))
                repeat (refine wpLoose_step rfl (fun K hK => ?_); (try simp only [Oper.quietAt, Oper.quietUpon]); go_simp; first | (refine hK _ ?_; clear hK K) | (apply Exists.intro; refine ⟨fun p => ?_, hK _ ?_⟩; (go_at_call 33; exact HC2.out _ (ext_grow (ext_refl _) _ _)); clear hK K))
                refine wpLoose_nil (wpFresh_nil (fun w3 hE3 _ => ?_))
                have HE3 := Lib.hid (ext_trans HE.out hE3)
                have HB3 := Lib.hid ((ext_block hE3 lb).trans HB.out)
                clear hE3
                simp only [List.drop_succ_cons, List.drop_zero]
                refine wpList_nil ?_
                go_wp2
                go_roundw
                case rel => exact ⟨k + 1, by omega, by omega, by go_num, fun k' h1 hk' => by
                  by_cases h : k' < k
                  · exact HNO.out k' h1 h
                  · obtain rfl : k' = k := by omega
                    rw [HB2.out]; simp; exact fun _ => hkl, HE3.out, HB3.out⟩
                case measure => simp [intOf]; omega
              | true =>
                rw [hb2] at hcall2
                have HB2 := Lib.hid hb2
                have HC2 := Lib.hid hcall2
                clear hb2 hcall2
                go_wp2
                refine wp_region_free 23 [0, 1, 2, 3, 4, 5, 6, 7, 8, 9, 10, 11, 12, 13, 14, 15, 16, 17, 18, 19, 20, 21, 22] [] (by kernel_rfl) (by kernel_rfl) ?_
                iterate 9 (refine wpLoose_step rfl (fun K hK => ?_); (try simp only [Oper.quietAt, Oper.quietUpon]); go_simp; first | (refine hK _ ?_; clear hK K) | (apply Exists.intro; refine ⟨fun p => ?_, hK _ ?_⟩; (go_at_call 33; exact HC.out _ (ext_grow (ext_refl _) _ _)); clear hK K))
                repeat (refine wpLoose_step rfl (fun K hK => ?_); (try simp only [Oper.quietAt, Oper.quietUpon]); go_simp; first | (refine hK _ ?_; clear hK K) | (apply Exists.intro; refine ⟨fun p => ?_, hK _ ?_⟩; (go_at_call 33; exact HC2.out _ (ext_grow (ext_refl _) _ _)); clear hK K))
                refine wpLoose_nil (wpFresh_nil (fun w3 hE3 _ => ?_))
                have HE3 := Lib.hid (ext_trans HE.out hE3)
                have HB3 := Lib.hid ((ext_block hE3 lb).trans HB.out)
                clear hE3
                simp only [List.drop_succ_cons, List.drop_zero]
                refine wpList_nil ?_
                go_wp2
                all_goals refine bodyPost_ret (results_tmp rfl _ _ _) rfl ?_
                all_goals exact ⟨by rw [(tk_iff _ _).2 ((HCUT2.out u HUNE.out).2 ⟨k, hk1, hlt, (tk_iff _ _).1 HBK.out, .inr ((tk_iff _ _).1 HB2.out)⟩)]; rfl, HE3.out⟩
        · have hki : ¬ (k : Int) ≤ (u.length : Int) := by omega
          have HCUT2 := Lib.hid hcut
          clear hcut
          go_wp2
          refine bodyPost_ret (results_tmp rfl _ _ _) rfl ?_
          exact ⟨by
            rw [tk_false]
            · rfl
            · intro h
              obtain ⟨k', h1, h2, h3, h4⟩ := (HCUT2.out u HUNE.out).1 h
              exact HNO.out k' h1 (by omega) ⟨(tk_iff _ _).2 h3, h4.imp id (tk_iff _ _).2⟩, HE.out⟩
    · go_enter Try.func33, Try.ntmps33
      go_wp2
      go_loopw [9] (fun x wr => ∃ k : Nat, 1 ≤ k ∧ k ≤ u.length + 1 ∧ x = .int .i64 (k : Int) ∧ (∀ k', 1 ≤ k' → k' < k → ¬ (tk p (u.take k') = true ∧ (k' = u.length ∨ tk (.node 5 m [p]) (u.drop k') = true))) ∧ Ext w wr ∧ wr.heap[w.heap.size]? = some (.cells #[.int .i64 5, .int .i64 m, .slice (some ⟨g, 0, none⟩) 1 c] 102 (0, 0))) (fun x _ => u.length + 1 - (intOf x).toNat)
      case atStart => exact ⟨1, Nat.le_refl _, by omega, rfl, fun k' h h2 => by omega, ext_alloc (ext_refl _) _, heap_alloc_new _ _⟩
      case round =>
        rename World => wr
        obtain ⟨k, hk1, hk, rfl, hno, hE, hb⟩ := hrel
        have HNO := Lib.hid hno
        have HE := Lib.hid hE
        have HB := Lib.hid hb
        have p2 : wr.cell? ⟨w.heap.size, 2, none⟩ = some (.slice (some ⟨g, 0, none⟩) 1 c) := block_cell hb 2
        have lb := block_lt hb
        have hgy' := (ext_cell HE.out _ _ lg).trans hgy
        have lg' := ext_lt HE.out lg
        have hcut := HCUT.out
        clear hno hE hb q1 q2 q3 lrb
        by_cases hlt : k ≤ u.length
        · have hki : (k : Int) ≤ (u.length : Int) := by omega
          have hk0 : (0 : Int) ≤ (k : Int) := by omega
          have hkc : k ≤ c2 := by omega
          have hgc := cell_grown
          have hcall : ∀ W', Ext wr W' → Calls Try.prog 33 #[.slice (some ⟨rb, 0, none⟩) n n, .int .i64 (y : Int), .slice A2 k c2] W' fun e w'' => e = .returned (.bool (tk p (u.take k))) ∧ Ext W' w'' := fun W' hE' =>
            HT.out p rb n y _ (u.take k) W' hN (by rw [List.length_take]; omega) hF hn (lst_ext HLY.out (ext_trans HE.out hE')) (rdY_take (rdY_ext HU.out (ext_trans HE.out hE')) hlt _ hkc)
          have hcall2 : ∀ W', Ext wr W' → Calls Try.prog 33 #[.slice (some ⟨rb, 0, none⟩) n n, .int .i64 (x : Int), .slice (if c2 = k then A2 else Option.map (fun x => x.add (k * 2)) A2) (u.length - k) (c2 - k)] W' fun e w'' => e = .returned (.bool (tk (.node 5 m [p]) (u.drop k))) ∧ Ext W' w'' := fun W' hE' =>
            HBB.out (u.length - k) (by omega) _ rb n x _ (u.drop k) W' hSt (by rw [List.length_drop]; exact Nat.le_refl _) hFt hn (lst_ext HLST.out (ext_trans HE.out hE')) (rdY_from (rdY_ext HU.out (ext_trans HE.out hE')) hlt)
          have HCUT2 := Lib.hid hcut
          clear hcut
          cases hbk : tk p (u.take k) with
          | false =>
            rw [hbk] at hcall
            have HBK := Lib.hid hbk
            have HC := Lib.hid hcall
            clear hbk hcall hcall2
            go_wp2
            refine wp_region_free 23 [0, 1, 2, 3, 4, 5, 6, 7, 8, 9, 10, 11, 12, 13, 14, 15, 16, 17, 18, 19, 20, 21, 22] [] (by kernel_rfl) (by kernel_rfl) ?_
            repeat (refine wpLoose_step rfl (fun K hK => ?_); (try simp only [Oper.quietAt, Oper.quietUpon]); go_simp; first | (refine hK _ ?_; clear hK K) | (apply Exists.intro; refine ⟨fun p => ?_, hK _ ?_⟩; ((go_at_call 33; exact HC.out _ (ext_grow (ext_refl _) _ _))); clear hK K))
            refine wpLoose_nil (wpFresh_nil (fun w3 hE3 _ => ?_))
            have HE3 := Lib.hid (ext_trans HE.out hE3)
            have HB3 := Lib.hid ((ext_block hE3 lb).trans HB.out)
            clear hE3
            simp only [List.drop_succ_cons, List.drop_zero]
            refine wpList_nil ?_
            go_wp2
            go_roundw
            case rel => exact ⟨k + 1, by omega, by omega, by go_num, fun k' h1 hk' => by
              by_cases h : k' < k
              · exact HNO.out k' h1 h
              · obtain rfl : k' = k := by omega
                rw [HBK.out]; simp, HE3.out, HB3.out⟩
            case measure => simp [intOf]; omega
          | true =>
            rw [hbk] at hcall
            have HBK := Lib.hid hbk
            have HC := Lib.hid hcall
            clear hbk hcall
            by_cases hkl : k = u.length
            · have HKL := Lib.hid hkl
              have dk : ((k : Int) == (u.length : Int)) = true := by rw [beq_iff_eq]; omega
              clear hkl hcall2
              go_wp2
              refine wp_region_free 23 [0, 1, 2, 3, 4, 5, 6, 7, 8, 9, 10, 11, 12, 13, 14, 15, 16, 17, 18, 19, 20, 21, 22] [] (by kernel_rfl) (by kernel_rfl) ?_
              repeat (refine wpLoose_step rfl (fun K hK => ?_); (try simp only [Oper.quietAt, Oper.quietUpon]); go_simp; first | (refine hK _ ?_; clear hK K) | (apply Exists.intro; refine ⟨fun p => ?_, hK _ ?_⟩; ((go_at_call 33; exact HC.out _ (ext_grow (ext_refl _) _ _))); clear hK K))
              refine wpLoose_nil (wpFresh_nil (fun w3 hE3 _ => ?_))
              have HE3 := Lib.hid (ext_trans HE.out hE3)
              have HB3 := Lib.hid ((ext_block hE3 lb).trans HB.out)
              clear hE3
              simp only [List.drop_succ_cons, List.drop_zero]
              refine wpList_nil ?_
              go_wp2
              refine bodyPost_ret (results_tmp rfl _ _ _) rfl ?_
              exact ⟨by rw [(tk_iff _ _).2 ((HCUT2.out u HUNE.out).2 ⟨k, hk1, hlt, (tk_iff _ _).1 HBK.out, .inl HKL.out⟩)]; rfl, HE3.out⟩
            · have dk : ((k : Int) == (u.length : Int)) = false := by rw [beq_eq_false_iff_ne]; omega
              cases hb2 : tk (.node 5 m [p]) (u.drop k) with
              | false =>
                rw [hb2] at hcall2
                have HB2 := Lib.hid hb2
                have HC2 := Lib.hid hcall2
                clear hb2 hcall2
                go_wp2
                refine wp_region_free 23 [0, 1, 2, 3, 4, 5, 6, 7, 8, 9, 10, 11, 12, 13, 14, 15, 16, 17, 18, 19, 20, 21, 22] [] (by kernel_rfl) (by kernel_rfl) ?_
                iterate 9 (refine wpLoose_step rfl (fun K hK => ?_); (try simp only [Oper.quietAt, Oper.quietUpon]); go_simp; first | (refine hK _ ?_; clear hK K) | (apply Exists.intro; refine ⟨fun p => ?_, hK _ ?_⟩; (go_at_call 33; exact HC.out _ (ext_grow (ext_refl _) _ _)); clear hK K))
                repeat (refine wpLoose_step rfl (fun K hK => ?_); (try simp only [Oper.quietAt, Oper.quietUpon]); go_simp; first | (refine hK _ ?_; clear hK K) | (apply Exists.intro; refine ⟨fun p => ?_, hK _ ?_⟩; (go_at_call 33; exact HC2.out _ (ext_grow (ext_refl _) _ _)); clear hK K))
                refine wpLoose_nil (wpFresh_nil (fun w3 hE3 _ => ?_))
                have HE3 := Lib.hid (ext_trans HE.out hE3)
                have HB3 := Lib.hid ((ext_block hE3 lb).trans HB.out)
                clear hE3
                simp only [List.drop_succ_cons, List.drop_zero]
                refine wpList_nil ?_
                go_wp2
                go_roundw
                case rel => exact ⟨k + 1, by omega, by omega, by go_num, fun k' h1 hk' => by
                  by_cases h : k' < k
                  · exact HNO.out k' h1 h
                  · obtain rfl : k' = k := by omega
                    rw [HB2.out]; simp; exact fun _ => hkl, HE3.out, HB3.out⟩
                case measure => simp [intOf]; omega
              | true =>
                rw [hb2] at hcall2
                have HB2 := Lib.hid hb2
                have HC2 := Lib.hid hcall2
                clear hb2 hcall2
                go_wp2
                refine wp_region_free 23 [0, 1, 2, 3, 4, 5, 6, 7, 8, 9, 10, 11, 12, 13, 14, 15, 16, 17, 18, 19, 20, 21, 22] [] (by kernel_rfl) (by kernel_rfl) ?_
                iterate 9 (refine wpLoose_step rfl (fun K hK => ?_); (try simp only [Oper.quietAt, Oper.quietUpon]); go_simp; first | (refine hK _ ?_; clear hK K) | (apply Exists.intro; refine ⟨fun p => ?_, hK _ ?_⟩; (go_at_call 33; exact HC.out _ (ext_grow (ext_refl _) _ _)); clear hK K))
                repeat (refine wpLoose_step rfl (fun K hK => ?_); (try simp only [Oper.quietAt, Oper.quietUpon]); go_simp; first | (refine hK _ ?_; clear hK K) | (apply Exists.intro; refine ⟨fun p => ?_, hK _ ?_⟩; (go_at_call 33; exact HC2.out _ (ext_grow (ext_refl _) _ _)); clear hK K))
                refine wpLoose_nil (wpFresh_nil (fun w3 hE3 _ => ?_))
                have HE3 := Lib.hid (ext_trans HE.out hE3)
                have HB3 := Lib.hid ((ext_block hE3 lb).trans HB.out)
                clear hE3
                simp only [List.drop_succ_cons, List.drop_zero]
                refine wpList_nil ?_
                go_wp2
                all_goals refine bodyPost_ret (results_tmp rfl _ _ _) rfl ?_
                all_goals exact ⟨by rw [(tk_iff _ _).2 ((HCUT2.out u HUNE.out).2 ⟨k, hk1, hlt, (tk_iff _ _).1 HBK.out, .inr ((tk_iff _ _).1 HB2.out)⟩)]; rfl, HE3.out⟩
        · have hki : ¬ (k : Int) ≤ (u.length : Int) := by omega
          have HCUT2 := Lib.hid hcut
          clear hcut
          go_wp2
          refine bodyPost_ret (results_tmp rfl _ _ _) rfl ?_
          exact ⟨by
            rw [tk_false]
            · rfl
            · intro h
              obtain ⟨k', h1, h2, h3, h4⟩ := (HCUT2.out u HUNE.out).1 h
              exact HNO.out k' h1 (by omega) ⟨(tk_iff _ _).2 h3, h4.imp id (tk_iff _ _).2⟩, HE.out⟩
end Go.Proofs.Ytiabmdboacpmcaa
/- The document's Takes: all together. -/
namespace Go.Proofs.Ytiabmdboacpmcaa
open Go Go.RowKit Go.Sort
set_option maxHeartbeats 1000000

theorem rtk_all : ∀ N : Nat, N ≤ 100000 → ∀ M : Nat, M ≤ 1000 → RTk N M
  | 0, _, _, _ => fun t rb n x v u w hN => by have := sizeT_pos t; omega
  | N + 1, hN1, M, hM => by
    have hT := fun M' hM' => rtk_all N (by omega) M' hM'
    induction M using Nat.strongRecOn with
    | _ M ih =>
      intro t rb n x v u w hN hMu hF hn hl hu
      cases t with
      | node k m ps =>
        rw [sizeT] at hN
        have hF0 := hF
        rw [formB] at hF
        by_cases h01 : k = 0 ∨ k = 1
        · rw [if_pos h01, Bool.and_eq_true, decide_eq_true_eq] at hF
          obtain ⟨rfl, _⟩ := hF
          exact rtk_sym k m h01 rb n x v u w (by omega) hn hl hu
        rw [if_neg h01] at hF
        by_cases h23 : k = 2 ∨ k = 3
        · rw [if_pos h23, Bool.and_eq_true, Bool.not_eq_true', decide_eq_false_iff_not] at hF
          rcases h23 with rfl | rfl
          · exact rtk_seq (rpk_all (hT M hM) hM (by omega)) m ps rb n x v u w hF.1 (by omega) hF.2 hMu hn hl hu
          · exact rtk_alt (hT M hM) m ps rb n x v u w (by omega) (by omega) hF.2 hMu hn hl hu
        rw [if_neg h23] at hF
        by_cases h456 : k = 4 ∨ k = 5 ∨ k = 6
        · rw [if_pos h456, Bool.and_eq_true, decide_eq_true_eq] at hF
          obtain ⟨p, rfl⟩ : ∃ p, ps = [p] := by
            match ps, hF.1 with
            | [p], _ => exact ⟨p, rfl⟩
          rw [sizeL, sizeL] at hN
          have hFp : formB p = true := by
            have := hF.2
            rw [formL, formL, Bool.and_true] at this
            exact this
          by_cases h6 : k = 6
          · subst h6
            exact rtk_opt (hT M hM) m p rb n x v u w (by omega) hFp hMu hn hl hu
          · exact rtk_again k (by omega) (hT M hM) (fun M' h => hT M' (by omega)) m p (fun M' h => ih M' h (by omega)) rb n x v u w (by omega) hFp hMu hM hn hl hu
        · rw [if_neg h456] at hF
          cases hF
theorem rtakes_any (t : Tr) (rb n x : Nat) (v : Value) (u : List Sy) (w : World) (hN : sizeT t ≤ 100000) (hM : u.length ≤ 1000) (hF : formB t = true) (hn : n ≤ 100) (hl : Lst w rb n t x) (hu : RdY w v u) : Calls Try.prog 33 #[.slice (some ⟨rb, 0, none⟩) n n, .int .i64 (x : Int), v] w fun e w' => e = .returned (.bool (tk t u)) ∧ Ext w w' :=
  rtk_all 100000 (Nat.le_refl _) 1000 (Nat.le_refl _) t rb n x v u w hN hM hF hn hl hu
end Go.Proofs.Ytiabmdboacpmcaa
/- What the laws of paths lean on. -/
namespace Go.Proofs.Ytiabmdboacpmcaa
open Go Go.RowKit Go.Sort
set_option maxHeartbeats 1000000

def TFPost (m : Nat) (w : World) (e : Ending) (w' : World) : Prop := ∃ (rb n : Nat) (t : Tr) (k z : Int) (A : Option Addr) (q c : Nat), e = .returned (.tuple #[.slice (some ⟨rb, 0, none⟩) n n, .agg #[.int .i64 k, .int .i64 z, .slice A q c]]) ∧ n ≤ 100 ∧ Fit m t ∧ Lst w' rb n t 0 ∧ PV w' t (.agg #[.int .i64 k, .int .i64 z, .slice A q c]) ∧ Ext w w'
theorem tree_fix (m : Nat) (hm : 1 ≤ m) (hm8 : m ≤ 8) (v : Value) (L : List Nd) (w : World) (hv : RdNd w v L) (hF : Fixed L) (hl : L.length ≤ m) : Calls Try.prog 20 #[v] w (TFPost m w) := by
  refine (tree_any v L w hv (by omega)).mono ?_
  rintro e w2 ⟨rb, n, lo, H, t, a, b, s, rfl, hn, ht, hT, hX, hrl, hlH, hHz, hE2⟩
  have hnl := nodesOf_length L
  have hft := fixed_trs (nodesOf L) (by omega) (fixed_nodes hF) t (List.mem_of_getElem? ht)
  have hV := TX_PV hX
  obtain ⟨k, z, A, q, c, rfl, rfl, rfl⟩ := TX_form hX
  exact ⟨rb, n, t, k, z, A, q, c, rfl, by omega, fit_mono hft (by omega), ⟨lo, H, hHz, hT⟩, hV, hE2⟩
theorem mtakes_any (W w : World) (p : Nat) (t : Tr) (v : Value) (u : List Sy) (h : MachT W w p t) (hv : RdY w v u) (hl : u.length ≤ 1000000) : Calls Try.prog 24 #[.pointer (some ⟨p, 0, none⟩), v] w fun e w' => e = .returned (.bool (tk t u)) ∧ Ext w w' := by
  refine (takes_any W w p _ _ _ _ v u (machT_mach h) hv hl).mono ?_
  rintro e w' ⟨b, rfl, hb, hE⟩
  have : b = tk t u := by
    rw [Bool.eq_iff_iff, hb, tk_iff]
    exact machT_words h u
  rw [this]
  exact ⟨rfl, hE⟩
theorem rdY_rowZ {w : World} {v : Value} {L : List Sy} (h : rowE elZ w v L) : RdY w v L := by
  obtain ⟨A, c, rfl⟩ := rowE_form h
  refine ⟨A, c, rfl, (rowE_cap h).2, fun hne => ?_⟩
  obtain ⟨g, rfl, hg⟩ := rowE_some h hne
  refine ⟨g, 0, rfl, hg, fun i x hx => ⟨?_, ?_⟩⟩
  · have := rowE_cell h hx (j := 0) (u := .int .i64 x.1) rfl
    simpa [elZ] using this
  · have := rowE_cell h hx (j := 1) (u := .bool x.2) rfl
    simpa [elZ] using this
theorem empty_tk (t : Tr) (hF : Form t) : emptyT t = tk t [] := by rw [Bool.eq_iff_iff, tk_iff, empty_words t hF]
theorem bne_self (b : Bool) : (b != b) = false := by cases b <;> rfl
theorem beq_self (b : Bool) : (b == b) = true := by cases b <;> rfl
end Go.Proofs.Ytiabmdboacpmcaa
