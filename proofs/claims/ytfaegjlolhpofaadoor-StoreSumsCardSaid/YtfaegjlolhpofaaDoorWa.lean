import Derived.Test.YtfaegjlolhpofaaDoorProg
import Derived.WalkKit
import Derived.WalkSpells
import Derived.WalkLawsBesides
import Derived.Lib.Hide
namespace Go.Proofs.YtfaegjlolhpofaaDoor
open Go.RowKit
set_option maxHeartbeats 400000

theorem isNaN_any (a : Int) (w : World) :
    Calls Tryd.prog 44 #[.int .i64 a] w fun e w' => e = .returned (.bool false) ∧ w = w' := by
  go_enter Tryd.func44, Tryd.ntmps44
  go_wp2
  go_ret
  exact ⟨rfl, rfl⟩

theorem ret_int {k : IntKind} {a b : Int} (h : a = b) : Ending.returned (.int k a) = .returned (.int k b) := by rw [h]

def cmpI (a b : Int) : Int := if a < b then -1 else if b < a then 1 else 0

theorem cmp_any (a b : Int) (w : World) :
    Calls Tryd.prog 42 #[.int .i64 a, .int .i64 b] w fun e w' => e = .returned (.int .i64 (cmpI a b)) ∧ w = w' := by
  go_enter Tryd.func42, Tryd.ntmps42
  go_wp2_with (go_at_call 44; refine (isNaN_any _ _).mono ?_; rintro e w' ⟨rfl, rfl⟩)
  all_goals (go_ret; refine ⟨ret_int ?_, rfl⟩; unfold cmpI; (repeat' split) <;> omega)

/-- lexicographic, from place k on -/
def lexF (x y : Nat → Int) : Nat → Nat → Int
  | 0, _ => 0
  | f + 1, k => if x k < y k then -1 else if y k < x k then 1 else lexF x y f (k + 1)
def lex3 (x y : Nat → Int) : Int := lexF x y 3 0

theorem compare3_any (b1 b2 : Nat) (x y : Nat → Int) (w : World) (hx : ∀ k, k < 3 → w.cell? ⟨b1, k, none⟩ = some (.int .i64 (x k))) (hy : ∀ k, k < 3 → w.cell? ⟨b2, k, none⟩ = some (.int .i64 (y k))) :
    Calls Tryd.prog 37 #[.slice (some ⟨b1, 0, none⟩) 3 3, .slice (some ⟨b2, 0, none⟩) 3 3] w fun e w' => e = .returned (.int .i64 (lex3 x y)) ∧ w = w' := by
  go_enter Tryd.func37, Tryd.ntmps37
  go_wp2
  go_loop [11] (fun i => ∃ k : Nat, k ≤ 3 ∧ i = .int .i64 k ∧ lex3 x y = lexF x y (3 - k) k) (fun i => 3 - (intOf i).toNat)
  case atStart => exact ⟨0, by omega, rfl, rfl⟩
  case round =>
    obtain ⟨k, hk, rfl, he⟩ := hrel
    have HE := Lib.hid he
    clear he
    by_cases hlt : k < 3
    · have hxk := hx k hlt
      have hyk := hy k hlt
      have hstep : lexF x y (3 - k) k = if x k < y k then -1 else if y k < x k then 1 else lexF x y (3 - (k + 1)) (k + 1) := by
        rw [show 3 - k = (3 - (k + 1)) + 1 by omega]; rfl
      have HS := Lib.hid hstep
      clear hstep hx hy
      by_cases h1 : x k < y k
      · have HC : cmpI (x k) (y k) = -1 := by unfold cmpI; rw [if_pos (by omega)]
        go_wp2_with (go_at_call 42; refine (cmp_any _ _ _).mono ?_; rintro e w' ⟨rfl, rfl⟩)
        go_ret
        refine ⟨ret_int ?_, rfl⟩
        rw [HE.out, HS.out, if_pos (by omega)]
      · by_cases h2 : y k < x k
        · have HC : cmpI (x k) (y k) = 1 := by unfold cmpI; rw [if_neg (by omega), if_pos (by omega)]
          go_wp2_with (go_at_call 42; refine (cmp_any _ _ _).mono ?_; rintro e w' ⟨rfl, rfl⟩)
          go_ret
          refine ⟨ret_int ?_, rfl⟩
          rw [HE.out, HS.out, if_neg (by omega), if_pos (by omega)]
        · have HC : cmpI (x k) (y k) = 0 := by unfold cmpI; rw [if_neg (by omega), if_neg (by omega)]
          go_wp2_with (go_at_call 42; refine (cmp_any _ _ _).mono ?_; rintro e w' ⟨rfl, rfl⟩)
          go_round
          case rel => exact ⟨k + 1, by omega, by go_num, by rw [HE.out, HS.out, if_neg (by omega), if_neg (by omega)]⟩
          case measure => simp [intOf]; omega
    · clear hx hy
      go_wp2
      go_ret
      refine ⟨ret_int ?_, rfl⟩
      rw [HE.out, show 3 - k = 0 by omega]; rfl
end Go.Proofs.YtfaegjlolhpofaaDoor
