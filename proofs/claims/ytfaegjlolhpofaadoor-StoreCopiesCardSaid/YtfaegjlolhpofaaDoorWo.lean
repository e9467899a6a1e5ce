/- The fixed fact ahead of each statement. -/
import Derived.Test.YtfaegjlolhpofaaDoorWn
namespace Go.Proofs.YtfaegjlolhpofaaDoor
open Go.RowKit Go.Sort
set_option maxHeartbeats 800000

theorem lexF_self (u : Nat → Int) : ∀ f k, lexF u u f k = 0
  | 0, _ => rfl
  | f + 1, k => by simp [lexF, lexF_self u f (k + 1)]
theorem cmp_self (o : Int) (k : Key) : Key.cmp o k k = 0 := lexF_self _ 3 0
theorem rising_nil (o : Int) : Rising o [] := fun t i j _ h => by simp at h
theorem rising_one (o : Int) (k : Key) : Rising o [k] := fun t i j h1 h2 h3 => by
  simp at h2
  obtain rfl : i = j := by omega
  exact h3

/-- a store that was made since: to those who were there nothing has turned -/
theorem ext_of_kept {w W w1 : World} {s : Nat} {v v' : Nat → Value} (hE : Ext w W) (hk : Kept s v v' W w1) (hs : w.heap.size ≤ s) (hv : ∀ i, i < 3 → ∀ g, (v i).ownBlock = some g → w.heap.size ≤ g) : Ext w w1 :=
  ext_of_upd (upd_trans (upd_of_ext hE) hk.upd (fun i hi h => by
    rcases h with rfl | ⟨j, hj, h⟩
    · omega
    · have := hv j hj i h; omega))

theorem awake_any (w : World) (hL : Laid w) : Calls Tryd.prog 9 #[] w fun e w' => e = .returned (.bool true) ∧ Ext w w' := by
  have HL := Lib.hid hL
  clear hL
  have hk : ordP ⟨-1, 3, -1⟩ = 1 := rfl
  have hf1 : foundB 0 (noKeys 0) ⟨1, 2, 3⟩ (lb 0 (noKeys 0) ⟨1, 2, 3⟩) = false := rfl
  have hf2 : foundB 0 ((insTo noKeys ⟨1, 2, 3⟩ 3) 0) ⟨1, 2, 3⟩ (lb 0 ((insTo noKeys ⟨1, 2, 3⟩ 3) 0) ⟨1, 2, 3⟩) = true := by decide
  have HF1 := Lib.hid hf1
  clear hf1
  go_enter Tryd.func9, Tryd.ntmps9
  go_wp2_with (first
    | (go_at_call 15; refine (new_ok 2 (by omega) (by omega) _).mono ?_; rintro e w1 ⟨rfl, hW1⟩; (have HW1 := Lib.hid hW1); clear hW1)
    | (go_at_call 10; refine (order_2 (-1) 3 (-1) (by omega) (by omega) (by omega) _ (by rw [HW1.out]; exact laid_ext HL.out (ext_alloc (ext_refl _) _))).mono ?_; rintro e w2 ⟨rfl, hE2⟩; (have HE2 := Lib.hid hE2); clear hE2)
    | (go_at_call 16; refine (add_ok w.heap.size nilV noKeys 2 ⟨1, 2, 3⟩ _ (laid_ext (by rw [HW1.out]; exact laid_ext HL.out (ext_alloc (ext_refl _) _)) HE2.out) (store_ext (by rw [HW1.out]; exact store_new w 2 HL.out.sz) HE2.out) (fun i _ => by simp [noKeys]) (fun i _ => rising_nil _) (by decide) (by decide) (by decide) HF1.out (by simp [noKeys])).mono ?_; rintro e w3 ⟨rfl, v3, hS3, hK3⟩; (have HS3 := Lib.hid hS3); (have HK3 := Lib.hid hK3); clear hS3 hK3)
    | (go_at_call 19; refine (has_any w.heap.size v3 (insTo noKeys ⟨1, 2, 3⟩ 3) 2 ⟨1, 2, 3⟩ _ (laid_kept (laid_ext (by rw [HW1.out]; exact laid_ext HL.out (ext_alloc (ext_refl _) _)) HE2.out) (store_ext (by rw [HW1.out]; exact store_new w 2 HL.out.sz) HE2.out) HK3.out) HS3.out (by decide) (rising_one _ _)).mono ?_; rintro e w4 ⟨rfl, hE4⟩; (have HE4 := Lib.hid hE4); clear hE4))
  go_ret
  refine ⟨rfl, ext_trans (ext_of_kept (ext_trans ?_ HE2.out) HK3.out (Nat.le_refl _) (fun _ _ g h => by cases h)) HE4.out⟩
  rw [HW1.out]; exact ext_alloc (ext_refl _) _
end Go.Proofs.YtfaegjlolhpofaaDoor
