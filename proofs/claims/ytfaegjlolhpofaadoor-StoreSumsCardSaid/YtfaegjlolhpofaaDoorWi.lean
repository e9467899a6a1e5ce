/- Orders of patterns, Less, Fits, by the program and by the document. -/
import Derived.Test.YtfaegjlolhpofaaDoorWc
namespace Go.Proofs.YtfaegjlolhpofaaDoor
open Go.RowKit Go.Sort
set_option maxHeartbeats 800000

theorem idx0 (a b c : Value) (w : World) : (Instr.index 26 (.agg #[a, b, c]) (.int .i64 0)).run Tryd.prog w = .ok a w := by kernel_rfl
theorem idx1 (a b c : Value) (w : World) : (Instr.index 26 (.agg #[a, b, c]) (.int .i64 1)).run Tryd.prog w = .ok b w := by kernel_rfl
theorem idx2 (a b c : Value) (w : World) : (Instr.index 26 (.agg #[a, b, c]) (.int .i64 2)).run Tryd.prog w = .ok c w := by kernel_rfl
def ordP (p : Key) : Int := if p.a < 0 ∧ 0 ≤ p.b then 1 else if p.b < 0 ∧ 0 ≤ p.c then 2 else 0

theorem order_0 (a b c : Int) (h0 : a < 0) (h1 : b < 0) (h2 : c < 0) (w : World) (hL : Laid w) : Calls Tryd.prog 10 #[K3 a b c] w fun e w' => e = .returned (.int .i64 0) ∧ Ext w w' := by
  obtain ⟨sz, c0, c1, c2, c3, c4, c5, c6, c7, p0, p1, p2, p3, p4, p5, p6, p7, p8⟩ := hL
  have s0 : 0 < w.heap.size := by omega
  clear p0 p1 p2 p3 p4 p5 p6 p7 p8
  have n0 : ¬ 0 ≤ a := by omega
  have n1 : ¬ 0 ≤ b := by omega
  have n2 : ¬ 0 ≤ c := by omega
  have x0 := idx0
  have x1 := idx1
  have x2 := idx2
  go_enter Tryd.func10, Tryd.ntmps10
  go_wp2
  go_loop [3, 7] (fun n i => (i = .int .i64 0 ∧ n = .int .i64 0) ∨ (i = .int .i64 1 ∧ n = .int .i64 0) ∨ (i = .int .i64 2 ∧ n = .int .i64 0) ∨ (i = .int .i64 3 ∧ n = .int .i64 0)) (fun _ i => 3 - (intOf i).toNat)
  case atStart => exact .inl ⟨rfl, rfl⟩
  case round =>
    rcases hrel with ⟨rfl, rfl⟩ | ⟨rfl, rfl⟩ | ⟨rfl, rfl⟩ | ⟨rfl, rfl⟩
    · go_wp2
      go_round
      case rel => exact .inr (.inl ⟨rfl, rfl⟩)
      case measure => simp [intOf]
    · go_wp2
      go_round
      case rel => exact .inr (.inr (.inl ⟨rfl, rfl⟩))
      case measure => simp [intOf]
    · go_wp2
      go_round
      case rel => exact .inr (.inr (.inr ⟨rfl, rfl⟩))
      case measure => simp [intOf]
    · go_wp2
      go_ret
      exact ⟨rfl, ext_alloc (ext_refl _) _⟩

theorem reforder_0 (a b c : Int) (h0 : a < 0) (h1 : b < 0) (h2 : c < 0) (w : World) : Calls Tryd.prog 11 #[K3 a b c] w fun e w' => e = .returned (.int .i64 0) ∧ Ext w w' := by
  have d0 : decide (0 ≤ a) = false := by simp; omega
  have d1 : decide (0 ≤ b) = false := by simp; omega
  have d2 : decide (0 ≤ c) = false := by simp; omega
  have hgc := cell_grown
  go_enter Tryd.func11, Tryd.ntmps11
  go_wp2
  refine wp_region_free 12 [0, 1, 2, 3, 4, 5, 6, 7, 8, 9, 10, 11] [] (by kernel_rfl) (by kernel_rfl) ?_
  repeat (refine wpLoose_step rfl (fun K hK => ?_); (try simp only [Oper.quietAt, Oper.quietUpon]); go_simp; (refine hK _ ?_; clear hK K))
  refine wpLoose_nil (wpFresh_nil (fun w3 hE3 _ => ?_))
  have HE3 := Lib.hid hE3
  clear hE3
  simp only [List.drop_succ_cons, List.drop_zero]
  refine wpList_nil ?_
  go_wp2
  go_ret
  exact ⟨rfl, ext_trans (ext_alloc (ext_refl _) _) HE3.out⟩

theorem order_1 (a b c : Int) (h0 : 0 ≤ a) (h1 : b < 0) (h2 : c < 0) (w : World) (hL : Laid w) : Calls Tryd.prog 10 #[K3 a b c] w fun e w' => e = .returned (.int .i64 0) ∧ Ext w w' := by
  obtain ⟨sz, c0, c1, c2, c3, c4, c5, c6, c7, p0, p1, p2, p3, p4, p5, p6, p7, p8⟩ := hL
  have s0 : 0 < w.heap.size := by omega
  clear p0 p1 p2 p3 p4 p5 p6 p7 p8
  have n1 : ¬ 0 ≤ b := by omega
  have n2 : ¬ 0 ≤ c := by omega
  have x0 := idx0
  have x1 := idx1
  have x2 := idx2
  go_enter Tryd.func10, Tryd.ntmps10
  go_wp2
  go_loop [3, 7] (fun n i => (i = .int .i64 0 ∧ n = .int .i64 0) ∨ (i = .int .i64 1 ∧ n = .int .i64 1) ∨ (i = .int .i64 2 ∧ n = .int .i64 1) ∨ (i = .int .i64 3 ∧ n = .int .i64 1)) (fun _ i => 3 - (intOf i).toNat)
  case atStart => exact .inl ⟨rfl, rfl⟩
  case round =>
    rcases hrel with ⟨rfl, rfl⟩ | ⟨rfl, rfl⟩ | ⟨rfl, rfl⟩ | ⟨rfl, rfl⟩
    · go_wp2
      go_round
      case rel => exact .inr (.inl ⟨rfl, rfl⟩)
      case measure => simp [intOf]
    · go_wp2
      go_round
      case rel => exact .inr (.inr (.inl ⟨rfl, rfl⟩))
      case measure => simp [intOf]
    · go_wp2
      go_round
      case rel => exact .inr (.inr (.inr ⟨rfl, rfl⟩))
      case measure => simp [intOf]
    · go_wp2
      go_ret
      exact ⟨rfl, ext_alloc (ext_refl _) _⟩

theorem reforder_1 (a b c : Int) (h0 : 0 ≤ a) (h1 : b < 0) (h2 : c < 0) (w : World) : Calls Tryd.prog 11 #[K3 a b c] w fun e w' => e = .returned (.int .i64 0) ∧ Ext w w' := by
  have d1 : decide (0 ≤ b) = false := by simp; omega
  have d2 : decide (0 ≤ c) = false := by simp; omega
  have hgc := cell_grown
  go_enter Tryd.func11, Tryd.ntmps11
  go_wp2
  refine wp_region_free 12 [0, 1, 2, 3, 4, 5, 6, 7, 8, 9, 10, 11] [] (by kernel_rfl) (by kernel_rfl) ?_
  repeat (refine wpLoose_step rfl (fun K hK => ?_); (try simp only [Oper.quietAt, Oper.quietUpon]); go_simp; (refine hK _ ?_; clear hK K))
  refine wpLoose_nil (wpFresh_nil (fun w3 hE3 _ => ?_))
  have HE3 := Lib.hid hE3
  clear hE3
  simp only [List.drop_succ_cons, List.drop_zero]
  refine wpList_nil ?_
  go_wp2
  go_ret
  exact ⟨rfl, ext_trans (ext_alloc (ext_refl _) _) HE3.out⟩

theorem order_2 (a b c : Int) (h0 : a < 0) (h1 : 0 ≤ b) (h2 : c < 0) (w : World) (hL : Laid w) : Calls Tryd.prog 10 #[K3 a b c] w fun e w' => e = .returned (.int .i64 1) ∧ Ext w w' := by
  obtain ⟨sz, c0, c1, c2, c3, c4, c5, c6, c7, p0, p1, p2, p3, p4, p5, p6, p7, p8⟩ := hL
  have s0 : 0 < w.heap.size := by omega
  clear p0 p1 p2 p3 p4 p5 p6 p7 p8
  have n0 : ¬ 0 ≤ a := by omega
  have n2 : ¬ 0 ≤ c := by omega
  have x0 := idx0
  have x1 := idx1
  have x2 := idx2
  go_enter Tryd.func10, Tryd.ntmps10
  go_wp2
  go_loop [3, 7] (fun n i => (i = .int .i64 0 ∧ n = .int .i64 0) ∨ (i = .int .i64 1 ∧ n = .int .i64 0) ∨ (i = .int .i64 2 ∧ n = .int .i64 2) ∨ (i = .int .i64 3 ∧ n = .int .i64 2)) (fun _ i => 3 - (intOf i).toNat)
  case atStart => exact .inl ⟨rfl, rfl⟩
  case round =>
    rcases hrel with ⟨rfl, rfl⟩ | ⟨rfl, rfl⟩ | ⟨rfl, rfl⟩ | ⟨rfl, rfl⟩
    · go_wp2
      go_round
      case rel => exact .inr (.inl ⟨rfl, rfl⟩)
      case measure => simp [intOf]
    · go_wp2
      go_round
      case rel => exact .inr (.inr (.inl ⟨rfl, rfl⟩))
      case measure => simp [intOf]
    · go_wp2
      go_round
      case rel => exact .inr (.inr (.inr ⟨rfl, rfl⟩))
      case measure => simp [intOf]
    · go_wp2
      go_ret
      exact ⟨rfl, ext_alloc (ext_refl _) _⟩

theorem reforder_2 (a b c : Int) (h0 : a < 0) (h1 : 0 ≤ b) (h2 : c < 0) (w : World) : Calls Tryd.prog 11 #[K3 a b c] w fun e w' => e = .returned (.int .i64 1) ∧ Ext w w' := by
  have d0 : decide (0 ≤ a) = false := by simp; omega
  have d2 : decide (0 ≤ c) = false := by simp; omega
  have hgc := cell_grown
  go_enter Tryd.func11, Tryd.ntmps11
  go_wp2
  refine wp_region_free 12 [0, 1, 2, 3, 4, 5, 6, 7, 8, 9, 10, 11] [] (by kernel_rfl) (by kernel_rfl) ?_
  repeat (refine wpLoose_step rfl (fun K hK => ?_); (try simp only [Oper.quietAt, Oper.quietUpon]); go_simp; (refine hK _ ?_; clear hK K))
  refine wpLoose_nil (wpFresh_nil (fun w3 hE3 _ => ?_))
  have HE3 := Lib.hid hE3
  clear hE3
  simp only [List.drop_succ_cons, List.drop_zero]
  refine wpList_nil ?_
  go_wp2
  go_ret
  exact ⟨rfl, ext_trans (ext_alloc (ext_refl _) _) HE3.out⟩

theorem order_3 (a b c : Int) (h0 : 0 ≤ a) (h1 : 0 ≤ b) (h2 : c < 0) (w : World) (hL : Laid w) : Calls Tryd.prog 10 #[K3 a b c] w fun e w' => e = .returned (.int .i64 0) ∧ Ext w w' := by
  obtain ⟨sz, c0, c1, c2, c3, c4, c5, c6, c7, p0, p1, p2, p3, p4, p5, p6, p7, p8⟩ := hL
  have s0 : 0 < w.heap.size := by omega
  clear p0 p1 p2 p3 p4 p5 p6 p7 p8
  have n2 : ¬ 0 ≤ c := by omega
  have x0 := idx0
  have x1 := idx1
  have x2 := idx2
  go_enter Tryd.func10, Tryd.ntmps10
  go_wp2
  go_loop [3, 7] (fun n i => (i = .int .i64 0 ∧ n = .int .i64 0) ∨ (i = .int .i64 1 ∧ n = .int .i64 1) ∨ (i = .int .i64 2 ∧ n = .int .i64 3) ∨ (i = .int .i64 3 ∧ n = .int .i64 3)) (fun _ i => 3 - (intOf i).toNat)
  case atStart => exact .inl ⟨rfl, rfl⟩
  case round =>
    rcases hrel with ⟨rfl, rfl⟩ | ⟨rfl, rfl⟩ | ⟨rfl, rfl⟩ | ⟨rfl, rfl⟩
    · go_wp2
      go_round
      case rel => exact .inr (.inl ⟨rfl, rfl⟩)
      case measure => simp [intOf]
    · go_wp2
      go_round
      case rel => exact .inr (.inr (.inl ⟨rfl, rfl⟩))
      case measure => simp [intOf]
    · go_wp2
      go_round
      case rel => exact .inr (.inr (.inr ⟨rfl, rfl⟩))
      case measure => simp [intOf]
    · go_wp2
      go_ret
      exact ⟨rfl, ext_alloc (ext_refl _) _⟩

theorem reforder_3 (a b c : Int) (h0 : 0 ≤ a) (h1 : 0 ≤ b) (h2 : c < 0) (w : World) : Calls Tryd.prog 11 #[K3 a b c] w fun e w' => e = .returned (.int .i64 0) ∧ Ext w w' := by
  have d2 : decide (0 ≤ c) = false := by simp; omega
  have hgc := cell_grown
  go_enter Tryd.func11, Tryd.ntmps11
  go_wp2
  refine wp_region_free 12 [0, 1, 2, 3, 4, 5, 6, 7, 8, 9, 10, 11] [] (by kernel_rfl) (by kernel_rfl) ?_
  repeat (refine wpLoose_step rfl (fun K hK => ?_); (try simp only [Oper.quietAt, Oper.quietUpon]); go_simp; (refine hK _ ?_; clear hK K))
  refine wpLoose_nil (wpFresh_nil (fun w3 hE3 _ => ?_))
  have HE3 := Lib.hid hE3
  clear hE3
  simp only [List.drop_succ_cons, List.drop_zero]
  refine wpList_nil ?_
  go_wp2
  go_ret
  exact ⟨rfl, ext_trans (ext_alloc (ext_refl _) _) HE3.out⟩

theorem order_4 (a b c : Int) (h0 : a < 0) (h1 : b < 0) (h2 : 0 ≤ c) (w : World) (hL : Laid w) : Calls Tryd.prog 10 #[K3 a b c] w fun e w' => e = .returned (.int .i64 2) ∧ Ext w w' := by
  obtain ⟨sz, c0, c1, c2, c3, c4, c5, c6, c7, p0, p1, p2, p3, p4, p5, p6, p7, p8⟩ := hL
  have s0 : 0 < w.heap.size := by omega
  clear p0 p1 p2 p3 p4 p5 p6 p7 p8
  have n0 : ¬ 0 ≤ a := by omega
  have n1 : ¬ 0 ≤ b := by omega
  have x0 := idx0
  have x1 := idx1
  have x2 := idx2
  go_enter Tryd.func10, Tryd.ntmps10
  go_wp2
  go_loop [3, 7] (fun n i => (i = .int .i64 0 ∧ n = .int .i64 0) ∨ (i = .int .i64 1 ∧ n = .int .i64 0) ∨ (i = .int .i64 2 ∧ n = .int .i64 0) ∨ (i = .int .i64 3 ∧ n = .int .i64 4)) (fun _ i => 3 - (intOf i).toNat)
  case atStart => exact .inl ⟨rfl, rfl⟩
  case round =>
    rcases hrel with ⟨rfl, rfl⟩ | ⟨rfl, rfl⟩ | ⟨rfl, rfl⟩ | ⟨rfl, rfl⟩
    · go_wp2
      go_round
      case rel => exact .inr (.inl ⟨rfl, rfl⟩)
      case measure => simp [intOf]
    · go_wp2
      go_round
      case rel => exact .inr (.inr (.inl ⟨rfl, rfl⟩))
      case measure => simp [intOf]
    · go_wp2
      go_round
      case rel => exact .inr (.inr (.inr ⟨rfl, rfl⟩))
      case measure => simp [intOf]
    · go_wp2
      go_ret
      exact ⟨rfl, ext_alloc (ext_refl _) _⟩

theorem reforder_4 (a b c : Int) (h0 : a < 0) (h1 : b < 0) (h2 : 0 ≤ c) (w : World) : Calls Tryd.prog 11 #[K3 a b c] w fun e w' => e = .returned (.int .i64 2) ∧ Ext w w' := by
  have d0 : decide (0 ≤ a) = false := by simp; omega
  have d1 : decide (0 ≤ b) = false := by simp; omega
  have hgc := cell_grown
  go_enter Tryd.func11, Tryd.ntmps11
  go_wp2
  refine wp_region_free 12 [0, 1, 2, 3, 4, 5, 6, 7, 8, 9, 10, 11] [] (by kernel_rfl) (by kernel_rfl) ?_
  repeat (refine wpLoose_step rfl (fun K hK => ?_); (try simp only [Oper.quietAt, Oper.quietUpon]); go_simp; (refine hK _ ?_; clear hK K))
  refine wpLoose_nil (wpFresh_nil (fun w3 hE3 _ => ?_))
  have HE3 := Lib.hid hE3
  clear hE3
  simp only [List.drop_succ_cons, List.drop_zero]
  refine wpList_nil ?_
  go_wp2
  go_ret
  exact ⟨rfl, ext_trans (ext_alloc (ext_refl _) _) HE3.out⟩

theorem order_5 (a b c : Int) (h0 : 0 ≤ a) (h1 : b < 0) (h2 : 0 ≤ c) (w : World) (hL : Laid w) : Calls Tryd.prog 10 #[K3 a b c] w fun e w' => e = .returned (.int .i64 2) ∧ Ext w w' := by
  obtain ⟨sz, c0, c1, c2, c3, c4, c5, c6, c7, p0, p1, p2, p3, p4, p5, p6, p7, p8⟩ := hL
  have s0 : 0 < w.heap.size := by omega
  clear p0 p1 p2 p3 p4 p5 p6 p7 p8
  have n1 : ¬ 0 ≤ b := by omega
  have x0 := idx0
  have x1 := idx1
  have x2 := idx2
  go_enter Tryd.func10, Tryd.ntmps10
  go_wp2
  go_loop [3, 7] (fun n i => (i = .int .i64 0 ∧ n = .int .i64 0) ∨ (i = .int .i64 1 ∧ n = .int .i64 1) ∨ (i = .int .i64 2 ∧ n = .int .i64 1) ∨ (i = .int .i64 3 ∧ n = .int .i64 5)) (fun _ i => 3 - (intOf i).toNat)
  case atStart => exact .inl ⟨rfl, rfl⟩
  case round =>
    rcases hrel with ⟨rfl, rfl⟩ | ⟨rfl, rfl⟩ | ⟨rfl, rfl⟩ | ⟨rfl, rfl⟩
    · go_wp2
      go_round
      case rel => exact .inr (.inl ⟨rfl, rfl⟩)
      case measure => simp [intOf]
    · go_wp2
      go_round
      case rel => exact .inr (.inr (.inl ⟨rfl, rfl⟩))
      case measure => simp [intOf]
    · go_wp2
      go_round
      case rel => exact .inr (.inr (.inr ⟨rfl, rfl⟩))
      case measure => simp [intOf]
    · go_wp2
      go_ret
      exact ⟨rfl, ext_alloc (ext_refl _) _⟩

theorem reforder_5 (a b c : Int) (h0 : 0 ≤ a) (h1 : b < 0) (h2 : 0 ≤ c) (w : World) : Calls Tryd.prog 11 #[K3 a b c] w fun e w' => e = .returned (.int .i64 2) ∧ Ext w w' := by
  have d1 : decide (0 ≤ b) = false := by simp; omega
  have hgc := cell_grown
  go_enter Tryd.func11, Tryd.ntmps11
  go_wp2
  refine wp_region_free 12 [0, 1, 2, 3, 4, 5, 6, 7, 8, 9, 10, 11] [] (by kernel_rfl) (by kernel_rfl) ?_
  repeat (refine wpLoose_step rfl (fun K hK => ?_); (try simp only [Oper.quietAt, Oper.quietUpon]); go_simp; (refine hK _ ?_; clear hK K))
  refine wpLoose_nil (wpFresh_nil (fun w3 hE3 _ => ?_))
  have HE3 := Lib.hid hE3
  clear hE3
  simp only [List.drop_succ_cons, List.drop_zero]
  refine wpList_nil ?_
  go_wp2
  go_ret
  exact ⟨rfl, ext_trans (ext_alloc (ext_refl _) _) HE3.out⟩

theorem order_6 (a b c : Int) (h0 : a < 0) (h1 : 0 ≤ b) (h2 : 0 ≤ c) (w : World) (hL : Laid w) : Calls Tryd.prog 10 #[K3 a b c] w fun e w' => e = .returned (.int .i64 1) ∧ Ext w w' := by
  obtain ⟨sz, c0, c1, c2, c3, c4, c5, c6, c7, p0, p1, p2, p3, p4, p5, p6, p7, p8⟩ := hL
  have s0 : 0 < w.heap.size := by omega
  clear p0 p1 p2 p3 p4 p5 p6 p7 p8
  have n0 : ¬ 0 ≤ a := by omega
  have x0 := idx0
  have x1 := idx1
  have x2 := idx2
  go_enter Tryd.func10, Tryd.ntmps10
  go_wp2
  go_loop [3, 7] (fun n i => (i = .int .i64 0 ∧ n = .int .i64 0) ∨ (i = .int .i64 1 ∧ n = .int .i64 0) ∨ (i = .int .i64 2 ∧ n = .int .i64 2) ∨ (i = .int .i64 3 ∧ n = .int .i64 6)) (fun _ i => 3 - (intOf i).toNat)
  case atStart => exact .inl ⟨rfl, rfl⟩
  case round =>
    rcases hrel with ⟨rfl, rfl⟩ | ⟨rfl, rfl⟩ | ⟨rfl, rfl⟩ | ⟨rfl, rfl⟩
    · go_wp2
      go_round
      case rel => exact .inr (.inl ⟨rfl, rfl⟩)
      case measure => simp [intOf]
    · go_wp2
      go_round
      case rel => exact .inr (.inr (.inl ⟨rfl, rfl⟩))
      case measure => simp [intOf]
    · go_wp2
      go_round
      case rel => exact .inr (.inr (.inr ⟨rfl, rfl⟩))
      case measure => simp [intOf]
    · go_wp2
      go_ret
      exact ⟨rfl, ext_alloc (ext_refl _) _⟩

theorem reforder_6 (a b c : Int) (h0 : a < 0) (h1 : 0 ≤ b) (h2 : 0 ≤ c) (w : World) : Calls Tryd.prog 11 #[K3 a b c] w fun e w' => e = .returned (.int .i64 1) ∧ Ext w w' := by
  have d0 : decide (0 ≤ a) = false := by simp; omega
  have hgc := cell_grown
  go_enter Tryd.func11, Tryd.ntmps11
  go_wp2
  refine wp_region_free 12 [0, 1, 2, 3, 4, 5, 6, 7, 8, 9, 10, 11] [] (by kernel_rfl) (by kernel_rfl) ?_
  repeat (refine wpLoose_step rfl (fun K hK => ?_); (try simp only [Oper.quietAt, Oper.quietUpon]); go_simp; (refine hK _ ?_; clear hK K))
  refine wpLoose_nil (wpFresh_nil (fun w3 hE3 _ => ?_))
  have HE3 := Lib.hid hE3
  clear hE3
  simp only [List.drop_succ_cons, List.drop_zero]
  refine wpList_nil ?_
  go_wp2
  go_ret
  exact ⟨rfl, ext_trans (ext_alloc (ext_refl _) _) HE3.out⟩

theorem order_7 (a b c : Int) (h0 : 0 ≤ a) (h1 : 0 ≤ b) (h2 : 0 ≤ c) (w : World) (hL : Laid w) : Calls Tryd.prog 10 #[K3 a b c] w fun e w' => e = .returned (.int .i64 0) ∧ Ext w w' := by
  obtain ⟨sz, c0, c1, c2, c3, c4, c5, c6, c7, p0, p1, p2, p3, p4, p5, p6, p7, p8⟩ := hL
  have s0 : 0 < w.heap.size := by omega
  clear p0 p1 p2 p3 p4 p5 p6 p7 p8

  have x0 := idx0
  have x1 := idx1
  have x2 := idx2
  go_enter Tryd.func10, Tryd.ntmps10
  go_wp2
  go_loop [3, 7] (fun n i => (i = .int .i64 0 ∧ n = .int .i64 0) ∨ (i = .int .i64 1 ∧ n = .int .i64 1) ∨ (i = .int .i64 2 ∧ n = .int .i64 3) ∨ (i = .int .i64 3 ∧ n = .int .i64 7)) (fun _ i => 3 - (intOf i).toNat)
  case atStart => exact .inl ⟨rfl, rfl⟩
  case round =>
    rcases hrel with ⟨rfl, rfl⟩ | ⟨rfl, rfl⟩ | ⟨rfl, rfl⟩ | ⟨rfl, rfl⟩
    · go_wp2
      go_round
      case rel => exact .inr (.inl ⟨rfl, rfl⟩)
      case measure => simp [intOf]
    · go_wp2
      go_round
      case rel => exact .inr (.inr (.inl ⟨rfl, rfl⟩))
      case measure => simp [intOf]
    · go_wp2
      go_round
      case rel => exact .inr (.inr (.inr ⟨rfl, rfl⟩))
      case measure => simp [intOf]
    · go_wp2
      go_ret
      exact ⟨rfl, ext_alloc (ext_refl _) _⟩

theorem reforder_7 (a b c : Int) (h0 : 0 ≤ a) (h1 : 0 ≤ b) (h2 : 0 ≤ c) (w : World) : Calls Tryd.prog 11 #[K3 a b c] w fun e w' => e = .returned (.int .i64 0) ∧ Ext w w' := by

  have hgc := cell_grown
  go_enter Tryd.func11, Tryd.ntmps11
  go_wp2
  refine wp_region_free 12 [0, 1, 2, 3, 4, 5, 6, 7, 8, 9, 10, 11] [] (by kernel_rfl) (by kernel_rfl) ?_
  repeat (refine wpLoose_step rfl (fun K hK => ?_); (try simp only [Oper.quietAt, Oper.quietUpon]); go_simp; (refine hK _ ?_; clear hK K))
  refine wpLoose_nil (wpFresh_nil (fun w3 hE3 _ => ?_))
  have HE3 := Lib.hid hE3
  clear hE3
  simp only [List.drop_succ_cons, List.drop_zero]
  refine wpList_nil ?_
  go_wp2
  go_ret
  exact ⟨rfl, ext_trans (ext_alloc (ext_refl _) _) HE3.out⟩

theorem order_any (p : Key) (w : World) (hL : Laid w) : Calls Tryd.prog 10 #[K3 p.a p.b p.c] w fun e w' => e = .returned (.int .i64 (ordP p)) ∧ Ext w w' := by
  obtain ⟨a, b, c⟩ := p
  by_cases ha : 0 ≤ a <;> by_cases hb : 0 ≤ b <;> by_cases hc : 0 ≤ c
  · rw [show ordP ⟨a, b, c⟩ = 0 by simp [ordP]; omega]; exact order_7 a b c (by omega) (by omega) (by omega) w hL
  · rw [show ordP ⟨a, b, c⟩ = 0 by simp [ordP]; omega]; exact order_3 a b c (by omega) (by omega) (by omega) w hL
  · rw [show ordP ⟨a, b, c⟩ = 2 by simp [ordP]; omega]; exact order_5 a b c (by omega) (by omega) (by omega) w hL
  · rw [show ordP ⟨a, b, c⟩ = 0 by simp [ordP]; omega]; exact order_1 a b c (by omega) (by omega) (by omega) w hL
  · rw [show ordP ⟨a, b, c⟩ = 1 by simp [ordP]; omega]; exact order_6 a b c (by omega) (by omega) (by omega) w hL
  · rw [show ordP ⟨a, b, c⟩ = 1 by simp [ordP]; omega]; exact order_2 a b c (by omega) (by omega) (by omega) w hL
  · rw [show ordP ⟨a, b, c⟩ = 2 by simp [ordP]; omega]; exact order_4 a b c (by omega) (by omega) (by omega) w hL
  · rw [show ordP ⟨a, b, c⟩ = 0 by simp [ordP]; omega]; exact order_0 a b c (by omega) (by omega) (by omega) w hL

theorem reforder_any (p : Key) (w : World) : Calls Tryd.prog 11 #[K3 p.a p.b p.c] w fun e w' => e = .returned (.int .i64 (ordP p)) ∧ Ext w w' := by
  obtain ⟨a, b, c⟩ := p
  by_cases ha : 0 ≤ a <;> by_cases hb : 0 ≤ b <;> by_cases hc : 0 ≤ c
  · rw [show ordP ⟨a, b, c⟩ = 0 by simp [ordP]; omega]; exact reforder_7 a b c (by omega) (by omega) (by omega) w 
  · rw [show ordP ⟨a, b, c⟩ = 0 by simp [ordP]; omega]; exact reforder_3 a b c (by omega) (by omega) (by omega) w 
  · rw [show ordP ⟨a, b, c⟩ = 2 by simp [ordP]; omega]; exact reforder_5 a b c (by omega) (by omega) (by omega) w 
  · rw [show ordP ⟨a, b, c⟩ = 0 by simp [ordP]; omega]; exact reforder_1 a b c (by omega) (by omega) (by omega) w 
  · rw [show ordP ⟨a, b, c⟩ = 1 by simp [ordP]; omega]; exact reforder_6 a b c (by omega) (by omega) (by omega) w 
  · rw [show ordP ⟨a, b, c⟩ = 1 by simp [ordP]; omega]; exact reforder_2 a b c (by omega) (by omega) (by omega) w 
  · rw [show ordP ⟨a, b, c⟩ = 2 by simp [ordP]; omega]; exact reforder_4 a b c (by omega) (by omega) (by omega) w 
  · rw [show ordP ⟨a, b, c⟩ = 0 by simp [ordP]; omega]; exact reforder_0 a b c (by omega) (by omega) (by omega) w 

def lessB (o : Int) (x y : Key) : Bool := decide (Key.cmp o x y < 0)
theorem less_any (o : Int) (x y : Key) (w : World) (hL : Laid w) : Calls Tryd.prog 12 #[.int .i64 o, K3 x.a x.b x.c, K3 y.a y.b y.c] w fun e w' => e = .returned (.bool (lessB o x y)) ∧ Ext w w' := by
  have HL := Lib.hid hL
  clear hL
  go_enter Tryd.func12, Tryd.ntmps12
  go_wp2_with (go_at_call 29; refine (compare_any _ _ _ _ ?_).mono ?_; (exact laid_ext HL.out (ext_alloc (ext_alloc (ext_refl _) _) _)); rintro e w1 ⟨rfl, hE⟩)
  have HE := Lib.hid hE
  clear hE
  go_ret
  exact ⟨rfl, ext_trans (ext_alloc (ext_alloc (ext_refl _) _) _) HE.out⟩
end Go.Proofs.YtfaegjlolhpofaaDoor
