/- The document's Takes: each kind of path. -/
import Derived.Test.YtiabmdboacpmcaaQg
namespace Go.Proofs.Ytiabmdboacpmcaa
open Go Go.RowKit Go.Sort
set_option maxHeartbeats 1000000

theorem rpk_all {N M : Nat} (hT : RTk N M) (hM0 : M ≤ 1000) (hN1 : N ≤ 100000) : RPk N M := by
  intro ps
  induction ps with
  | nil => intro rb n l v u w h; exact absurd rfl h
  | cons p r ih =>
    intro rb n l v u w _ hN hM hF hn hl hu
    rw [sizeL] at hN
    rw [formL, Bool.and_eq_true] at hF
    cases r with
    | nil => exact rpk_one hT p rb n l v u w (by omega) hM hF.1 hn hl hu
    | cons q r =>
      have hlen := sizeL_len (q :: r)
      rw [List.length_cons] at hlen
      exact rpk_more hT p q r (fun rb n l v u w h1 h2 h3 h4 => ih rb n l v u w (by simp) (by omega) h1 hF.2 h2 h3 h4) rb n l v u w (by omega) (by omega) hM hM0 hF.1 hn hl hu

theorem rtk_sym (k m : Int) (hk : k = 0 ∨ k = 1) (rb n x : Nat) (v : Value) (u : List Sy) (w : World) (hM : u.length ≤ 1000) (hn : n ≤ 100) (hl : Lst w rb n (.node k m []) x) (hu : RdY w v u) : Calls Try.prog 33 #[.slice (some ⟨rb, 0, none⟩) n n, .int .i64 (x : Int), v] w fun e w' => e = .returned (.bool (tk (.node k m []) u)) ∧ Ext w w' := by
  obtain ⟨hx, lrb, q1, q2, A, c, q3, hc, -⟩ := lst_node hl
  have hxi : (x : Int) < (n : Int) := by omega
  have hx0 : (0 : Int) ≤ (x : Int) := by omega
  obtain ⟨A2, c2, rfl, hc2, hA2⟩ := hu
  have hgc := cell_grown
  have hB := heap_alloc_new w (.cells #[.int .i64 k, .int .i64 m, .slice A 0 c] 102)
  have hE := ext_alloc (ext_refl w) (.cells #[.int .i64 k, .int .i64 m, .slice A 0 c] 102)
  obtain ⟨w0, hw0⟩ : ∃ w0, w0 = w.alloc (.cells #[.int .i64 k, .int .i64 m, .slice A 0 c] 102) := ⟨_, rfl⟩
  have HW0 := Lib.hid hw0
  rw [← hw0] at hB hE
  have HE := Lib.hid hE
  have p0 : w0.cell? ⟨w.heap.size, 0, none⟩ = some (.int .i64 k) := block_cell hB 0
  have p1 : w0.cell? ⟨w.heap.size, 1, none⟩ = some (.int .i64 m) := block_cell hB 1
  have lp := block_lt hB
  simp only [List.length_nil] at q3 hc
  by_cases hu1 : u.length = 1
  · obtain ⟨a, rfl⟩ : ∃ a, u = [a] := by
      match u, hu1 with
      | [a], _ => exact ⟨a, rfl⟩
    obtain ⟨a1, a2⟩ := a
    obtain ⟨b, off, rfl, lb, hcs⟩ := hA2 (by simp)
    obtain ⟨z0, z1⟩ := hcs 0 (a1, a2) rfl
    simp only [Nat.zero_mul, Nat.add_zero] at z0 z1
    replace z0 := (ext_cell hE _ _ lb).trans z0
    replace z1 := (ext_cell hE _ _ lb).trans z1
    have lb' := ext_lt hE lb
    simp only [List.length_singleton] at hc2 ⊢
    clear hw0 hl hB hE hA2 hcs
    rcases hk with rfl | rfl
    · by_cases he : (a1, a2) = (m, false)
      · have heq : ∀ w : World, Sem.run Try.prog (Op.equalIn 10000 110 (.agg #[.int .i64 a1, .bool a2]) (.agg #[.int .i64 m, .bool false])) w = .ok true w := fun w => by rw [eq110, decide_eq_true he]
        have ht : tk (.node 0 m []) [(a1, a2)] = true := (tk_iff _ _).2 ((words_step _ _).2 (by rw [he]))
        rw [ht]
        clear ht he
        go_enter Try.func33, Try.ntmps33
        go_wp2
        rw [← HW0.out]
        refine wp_region_free 16 [0, 1, 2, 3, 4, 5, 6, 7, 8, 9, 10, 11, 12, 13, 14, 15] [] (by kernel_rfl) (by kernel_rfl) ?_
        repeat (refine wpLoose_step rfl (fun K hK => ?_); (try simp only [Oper.quietAt, Oper.quietUpon]); go_simp; (refine hK _ ?_; clear hK K))
        refine wpLoose_nil (wpFresh_nil (fun w3 hE3 _ => ?_))
        have HE3 := Lib.hid hE3
        clear hE3
        simp only [List.drop_succ_cons, List.drop_zero]
        refine wpList_nil ?_
        go_wp2
        refine bodyPost_ret (results_tmp rfl _ _ _) rfl ?_
        exact ⟨rfl, ext_trans HE.out HE3.out⟩
      · have heq : ∀ w : World, Sem.run Try.prog (Op.equalIn 10000 110 (.agg #[.int .i64 a1, .bool a2]) (.agg #[.int .i64 m, .bool false])) w = .ok false w := fun w => by rw [eq110, decide_eq_false he]
        have ht : tk (.node 0 m []) [(a1, a2)] = false := tk_false (fun h => he (by have := (words_step _ _).1 h; simpa using this))
        rw [ht]
        clear ht he
        go_enter Try.func33, Try.ntmps33
        go_wp2
        rw [← HW0.out]
        refine wp_region_free 16 [0, 1, 2, 3, 4, 5, 6, 7, 8, 9, 10, 11, 12, 13, 14, 15] [] (by kernel_rfl) (by kernel_rfl) ?_
        repeat (refine wpLoose_step rfl (fun K hK => ?_); (try simp only [Oper.quietAt, Oper.quietUpon]); go_simp; (refine hK _ ?_; clear hK K))
        refine wpLoose_nil (wpFresh_nil (fun w3 hE3 _ => ?_))
        have HE3 := Lib.hid hE3
        clear hE3
        simp only [List.drop_succ_cons, List.drop_zero]
        refine wpList_nil ?_
        go_wp2
        refine bodyPost_ret (results_tmp rfl _ _ _) rfl ?_
        exact ⟨rfl, ext_trans HE.out HE3.out⟩
    · by_cases he : (a1, a2) = (m, true)
      · have heq : ∀ w : World, Sem.run Try.prog (Op.equalIn 10000 110 (.agg #[.int .i64 a1, .bool a2]) (.agg #[.int .i64 m, .bool true])) w = .ok true w := fun w => by rw [eq110, decide_eq_true he]
        have ht : tk (.node 1 m []) [(a1, a2)] = true := (tk_iff _ _).2 ((words_back _ _).2 (by rw [he]))
        rw [ht]
        clear ht he
        go_enter Try.func33, Try.ntmps33
        go_wp2
        rw [← HW0.out]
        refine wp_region_free 16 [0, 1, 2, 3, 4, 5, 6, 7, 8, 9, 10, 11, 12, 13, 14, 15] [] (by kernel_rfl) (by kernel_rfl) ?_
        repeat (refine wpLoose_step rfl (fun K hK => ?_); (try simp only [Oper.quietAt, Oper.quietUpon]); go_simp; (refine hK _ ?_; clear hK K))
        refine wpLoose_nil (wpFresh_nil (fun w3 hE3 _ => ?_))
        have HE3 := Lib.hid hE3
        clear hE3
        simp only [List.drop_succ_cons, List.drop_zero]
        refine wpList_nil ?_
        go_wp2
        refine bodyPost_ret (results_tmp rfl _ _ _) rfl ?_
        exact ⟨rfl, ext_trans HE.out HE3.out⟩
      · have heq : ∀ w : World, Sem.run Try.prog (Op.equalIn 10000 110 (.agg #[.int .i64 a1, .bool a2]) (.agg #[.int .i64 m, .bool true])) w = .ok false w := fun w => by rw [eq110, decide_eq_false he]
        have ht : tk (.node 1 m []) [(a1, a2)] = false := tk_false (fun h => he (by have := (words_back _ _).1 h; simpa using this))
        rw [ht]
        clear ht he
        go_enter Try.func33, Try.ntmps33
        go_wp2
        rw [← HW0.out]
        refine wp_region_free 16 [0, 1, 2, 3, 4, 5, 6, 7, 8, 9, 10, 11, 12, 13, 14, 15] [] (by kernel_rfl) (by kernel_rfl) ?_
        repeat (refine wpLoose_step rfl (fun K hK => ?_); (try simp only [Oper.quietAt, Oper.quietUpon]); go_simp; (refine hK _ ?_; clear hK K))
        refine wpLoose_nil (wpFresh_nil (fun w3 hE3 _ => ?_))
        have HE3 := Lib.hid hE3
        clear hE3
        simp only [List.drop_succ_cons, List.drop_zero]
        refine wpList_nil ?_
        go_wp2
        refine bodyPost_ret (results_tmp rfl _ _ _) rfl ?_
        exact ⟨rfl, ext_trans HE.out HE3.out⟩
  · have hul : ((u.length : Int) == 1) = false := by rw [beq_eq_false_iff_ne]; omega
    have ht : tk (.node k m []) u = false := by
      rcases hk with rfl | rfl
      · exact tk_false (fun h => by rw [(words_step _ _).1 h] at hu1; simp at hu1)
      · exact tk_false (fun h => by rw [(words_back _ _).1 h] at hu1; simp at hu1)
    rw [ht]
    clear ht hu1 hw0 hl hB hE hA2
    rcases hk with rfl | rfl
    · go_enter Try.func33, Try.ntmps33
      go_wp2
      rw [← HW0.out]
      refine wp_region_free 16 [0, 1, 2, 3, 4, 5, 6, 7, 8, 9, 10, 11, 12, 13, 14, 15] [] (by kernel_rfl) (by kernel_rfl) ?_
      repeat (refine wpLoose_step rfl (fun K hK => ?_); (try simp only [Oper.quietAt, Oper.quietUpon]); go_simp; (refine hK _ ?_; clear hK K))
      refine wpLoose_nil (wpFresh_nil (fun w3 hE3 _ => ?_))
      have HE3 := Lib.hid hE3
      clear hE3
      simp only [List.drop_succ_cons, List.drop_zero]
      refine wpList_nil ?_
      go_wp2
      refine bodyPost_ret (results_tmp rfl _ _ _) rfl ?_
      exact ⟨rfl, ext_trans HE.out HE3.out⟩
    · go_enter Try.func33, Try.ntmps33
      go_wp2
      rw [← HW0.out]
      refine wp_region_free 16 [0, 1, 2, 3, 4, 5, 6, 7, 8, 9, 10, 11, 12, 13, 14, 15] [] (by kernel_rfl) (by kernel_rfl) ?_
      repeat (refine wpLoose_step rfl (fun K hK => ?_); (try simp only [Oper.quietAt, Oper.quietUpon]); go_simp; (refine hK _ ?_; clear hK K))
      refine wpLoose_nil (wpFresh_nil (fun w3 hE3 _ => ?_))
      have HE3 := Lib.hid hE3
      clear hE3
      simp only [List.drop_succ_cons, List.drop_zero]
      refine wpList_nil ?_
      go_wp2
      refine bodyPost_ret (results_tmp rfl _ _ _) rfl ?_
      exact ⟨rfl, ext_trans HE.out HE3.out⟩
end Go.Proofs.Ytiabmdboacpmcaa
