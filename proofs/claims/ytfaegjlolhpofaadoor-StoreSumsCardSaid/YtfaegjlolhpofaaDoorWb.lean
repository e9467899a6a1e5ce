import Derived.Test.YtfaegjlolhpofaaDoorProg
import Derived.WalkKit
import Derived.WalkSpells
import Derived.WalkLawsBesides
import Derived.Test.YtfaegjlolhpofaaDoorRw
import Derived.StillTailTactics
import Derived.BigQuiet
import Derived.Deep.QuietTactic
namespace Go.Proofs.YtfaegjlolhpofaaDoor
open Go.RowKit
set_option maxHeartbeats 400000


structure Laid (w : World) : Prop where
  sz : 1 < w.heap.size
  c0 : w.cell? ⟨0, 0, none⟩ = some (.int .i64 0)
  c1 : w.cell? ⟨0, 1, none⟩ = some (.int .i64 0)
  c2 : w.cell? ⟨0, 2, none⟩ = some (.int .i64 1)
  c3 : w.cell? ⟨0, 3, none⟩ = some (.int .i64 0)
  c4 : w.cell? ⟨0, 4, none⟩ = some (.int .i64 2)
  c5 : w.cell? ⟨0, 5, none⟩ = some (.int .i64 2)
  c6 : w.cell? ⟨0, 6, none⟩ = some (.int .i64 1)
  c7 : w.cell? ⟨0, 7, none⟩ = some (.int .i64 0)
  p0 : w.cell? ⟨1, 0, none⟩ = some (.int .i64 0)
  p1 : w.cell? ⟨1, 1, none⟩ = some (.int .i64 1)
  p2 : w.cell? ⟨1, 2, none⟩ = some (.int .i64 2)
  p3 : w.cell? ⟨1, 3, none⟩ = some (.int .i64 1)
  p4 : w.cell? ⟨1, 4, none⟩ = some (.int .i64 2)
  p5 : w.cell? ⟨1, 5, none⟩ = some (.int .i64 0)
  p6 : w.cell? ⟨1, 6, none⟩ = some (.int .i64 2)
  p7 : w.cell? ⟨1, 7, none⟩ = some (.int .i64 0)
  p8 : w.cell? ⟨1, 8, none⟩ = some (.int .i64 1)

theorem still_tail {P : Program} {id : Nat} {Q : Exit → Act → World → Prop} {a : Act} {w : World} {l : List Oper} (n : Nat) (hm : P.follows .mixedOrders = true) (hB : Region.lexTailB .any l.toArray n = true)
    (h : wpStill P l.toArray w.drew (fun a' => wpList P l.toArray Q (l.drop n) a' w.drew) (l.take n) a) : (Code.region id l.toArray true).wp P Q a w := wp_region_still_tail n hm hB h

theorem turned_0 (k0 k1 k2 : Int) (w : World) (hL : Laid w) :
    Calls Tryd.prog 36 #[.int .i64 0, K3 k0 k1 k2] w fun e w' => e = .returned (K3 k0 k1 k2) ∧ w' = (((w.alloc (.cells #[.int .i64 k0, .int .i64 k1, .int .i64 k2] 22)).alloc (.cells #[.int .i64 k0, .int .i64 k1, .int .i64 k2] 22)).alloc (.cells #[.int .i64 0, .int .i64 1, .int .i64 2] 22)).drew := by
  obtain ⟨sz, c0, c1, c2, c3, c4, c5, c6, c7, p0, p1, p2, p3, p4, p5, p6, p7, p8⟩ := hL
  have s0 : 0 < w.heap.size := by omega
  clear c0 c1 c2 c3 c4 c5 c6 c7
  go_enter Tryd.func36, Tryd.ntmps36
  go_wp2
  refine still_tail 13 (by kernel_rfl) (by kernel_rfl) ?_
  simp only [List.take_succ_cons, List.take_zero, List.drop_succ_cons, List.drop_zero]
  repeat still_step
  refine wpStill_nil ?_
  go_wp2
  refine bodyPost_ret (v := K3 k0 k1 k2) (by simp [results, Tryd.results36, go_sem]) rfl ⟨rfl, rfl⟩

theorem turned_1 (k0 k1 k2 : Int) (w : World) (hL : Laid w) :
    Calls Tryd.prog 36 #[.int .i64 1, K3 k0 k1 k2] w fun e w' => e = .returned (K3 k1 k2 k0) ∧ w' = (((w.alloc (.cells #[.int .i64 k0, .int .i64 k1, .int .i64 k2] 22)).alloc (.cells #[.int .i64 k1, .int .i64 k2, .int .i64 k0] 22)).alloc (.cells #[.int .i64 1, .int .i64 2, .int .i64 0] 22)).drew := by
  obtain ⟨sz, c0, c1, c2, c3, c4, c5, c6, c7, p0, p1, p2, p3, p4, p5, p6, p7, p8⟩ := hL
  have s0 : 0 < w.heap.size := by omega
  clear c0 c1 c2 c3 c4 c5 c6 c7
  go_enter Tryd.func36, Tryd.ntmps36
  go_wp2
  refine still_tail 13 (by kernel_rfl) (by kernel_rfl) ?_
  simp only [List.take_succ_cons, List.take_zero, List.drop_succ_cons, List.drop_zero]
  repeat still_step
  refine wpStill_nil ?_
  go_wp2
  refine bodyPost_ret (v := K3 k1 k2 k0) (by simp [results, Tryd.results36, go_sem]) rfl ⟨rfl, rfl⟩

theorem turned_2 (k0 k1 k2 : Int) (w : World) (hL : Laid w) :
    Calls Tryd.prog 36 #[.int .i64 2, K3 k0 k1 k2] w fun e w' => e = .returned (K3 k2 k0 k1) ∧ w' = (((w.alloc (.cells #[.int .i64 k0, .int .i64 k1, .int .i64 k2] 22)).alloc (.cells #[.int .i64 k2, .int .i64 k0, .int .i64 k1] 22)).alloc (.cells #[.int .i64 2, .int .i64 0, .int .i64 1] 22)).drew := by
  obtain ⟨sz, c0, c1, c2, c3, c4, c5, c6, c7, p0, p1, p2, p3, p4, p5, p6, p7, p8⟩ := hL
  have s0 : 0 < w.heap.size := by omega
  clear c0 c1 c2 c3 c4 c5 c6 c7
  go_enter Tryd.func36, Tryd.ntmps36
  go_wp2
  refine still_tail 13 (by kernel_rfl) (by kernel_rfl) ?_
  simp only [List.take_succ_cons, List.take_zero, List.drop_succ_cons, List.drop_zero]
  repeat still_step
  refine wpStill_nil ?_
  go_wp2
  refine bodyPost_ret (v := K3 k2 k0 k1) (by simp [results, Tryd.results36, go_sem]) rfl ⟨rfl, rfl⟩

theorem turned_neg (k0 k1 k2 : Int) (o : Int) (ho : o < 0) (w : World) (hL : Laid w) :
    Calls Tryd.prog 36 #[.int .i64 o, K3 k0 k1 k2] w fun e w' => e = .returned (K3 k0 k1 k2) ∧ w' = (((w.alloc (.cells #[.int .i64 k0, .int .i64 k1, .int .i64 k2] 22)).alloc (.cells #[.int .i64 k0, .int .i64 k1, .int .i64 k2] 22)).alloc (.cells #[.int .i64 0, .int .i64 1, .int .i64 2] 22)).drew := by
  obtain ⟨sz, c0, c1, c2, c3, c4, c5, c6, c7, p0, p1, p2, p3, p4, p5, p6, p7, p8⟩ := hL
  have s0 : 0 < w.heap.size := by omega
  clear c0 c1 c2 c3 c4 c5 c6 c7
  go_enter Tryd.func36, Tryd.ntmps36
  go_wp2
  refine still_tail 13 (by kernel_rfl) (by kernel_rfl) ?_
  simp only [List.take_succ_cons, List.take_zero, List.drop_succ_cons, List.drop_zero]
  repeat still_step
  refine wpStill_nil ?_
  go_wp2
  refine bodyPost_ret (v := K3 k0 k1 k2) (by simp [results, Tryd.results36, go_sem]) rfl ⟨rfl, rfl⟩

theorem turned_big (k0 k1 k2 : Int) (o : Int) (ho : 3 ≤ o) (w : World) (hL : Laid w) :
    Calls Tryd.prog 36 #[.int .i64 o, K3 k0 k1 k2] w fun e w' => e = .returned (K3 k0 k1 k2) ∧ w' = (((w.alloc (.cells #[.int .i64 k0, .int .i64 k1, .int .i64 k2] 22)).alloc (.cells #[.int .i64 k0, .int .i64 k1, .int .i64 k2] 22)).alloc (.cells #[.int .i64 0, .int .i64 1, .int .i64 2] 22)).drew := by
  obtain ⟨sz, c0, c1, c2, c3, c4, c5, c6, c7, p0, p1, p2, p3, p4, p5, p6, p7, p8⟩ := hL
  have s0 : 0 < w.heap.size := by omega
  clear c0 c1 c2 c3 c4 c5 c6 c7
  have ho' : ¬ o < 0 := by omega
  go_enter Tryd.func36, Tryd.ntmps36
  go_wp2
  refine still_tail 13 (by kernel_rfl) (by kernel_rfl) ?_
  simp only [List.take_succ_cons, List.take_zero, List.drop_succ_cons, List.drop_zero]
  repeat still_step
  refine wpStill_nil ?_
  go_wp2
  refine bodyPost_ret (v := K3 k0 k1 k2) (by simp [results, Tryd.results36, go_sem]) rfl ⟨rfl, rfl⟩

def Key.turn (o : Int) (k : Key) : Key := if o = 1 then ⟨k.b, k.c, k.a⟩ else if o = 2 then ⟨k.c, k.a, k.b⟩ else k

def Key.row (o : Int) : Key := if o = 1 then ⟨1, 2, 0⟩ else if o = 2 then ⟨2, 0, 1⟩ else ⟨0, 1, 2⟩

theorem turned_any (o : Int) (k : Key) (w : World) (hL : Laid w) :
    Calls Tryd.prog 36 #[.int .i64 o, K3 k.a k.b k.c] w fun e w' => e = .returned (K3 (k.turn o).a (k.turn o).b (k.turn o).c) ∧
      w' = (((w.alloc (.cells #[.int .i64 k.a, .int .i64 k.b, .int .i64 k.c] 22)).alloc (.cells #[.int .i64 (k.turn o).a, .int .i64 (k.turn o).b, .int .i64 (k.turn o).c] 22)).alloc (.cells #[.int .i64 (Key.row o).a, .int .i64 (Key.row o).b, .int .i64 (Key.row o).c] 22)).drew := by
  by_cases h0 : o < 0
  · rw [show k.turn o = k by unfold Key.turn; rw [if_neg (by omega), if_neg (by omega)], show Key.row o = ⟨0, 1, 2⟩ by unfold Key.row; rw [if_neg (by omega), if_neg (by omega)]]
    exact turned_neg _ _ _ o h0 w hL
  · by_cases h3 : 3 ≤ o
    · rw [show k.turn o = k by unfold Key.turn; rw [if_neg (by omega), if_neg (by omega)], show Key.row o = ⟨0, 1, 2⟩ by unfold Key.row; rw [if_neg (by omega), if_neg (by omega)]]
      exact turned_big _ _ _ o h3 w hL
    · obtain rfl | rfl | rfl : o = 0 ∨ o = 1 ∨ o = 2 := by omega
      · exact turned_0 _ _ _ w hL
      · exact turned_1 _ _ _ w hL
      · exact turned_2 _ _ _ w hL
end Go.Proofs.YtfaegjlolhpofaaDoor
