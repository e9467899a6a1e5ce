/- told. -/
import Derived.Test.YteccpinilpkmiaaEj
namespace Go.Proofs.Yteccpinilpkmiaa
open Go Go.RowKit Go.Sort Go.Shelf
set_option maxHeartbeats 800000

def kR : ByteArray := { data := #[82, 83, 84, 82, 69, 65, 77] }
def kI : ByteArray := { data := #[73, 83, 84, 82, 69, 65, 77] }
def kD : ByteArray := { data := #[68, 83, 84, 82, 69, 65, 77] }
def toldL (k : ByteArray) (last now : List ByteArray) : List ByteArray := if k = kR then now else if k = kI then sortS (outE last now) else if k = kD then sortS (outE now last) else []
def knows (k : ByteArray) : Bool := decide (k = kR ∨ k = kI ∨ k = kD)

theorem list_kR : kR.toList = [82, 83, 84, 82, 69, 65, 77] := toList_toL kR
theorem is_kR {k : ByteArray} : (k.toList == [82, 83, 84, 82, 69, 65, 77]) = decide (k = kR) := by
  rw [Bool.eq_iff_iff, beq_iff_eq, decide_eq_true_eq]
  exact ⟨fun h => ba_ext (h.trans list_kR.symm), fun h => by rw [h]; exact list_kR⟩
theorem list_kI : kI.toList = [73, 83, 84, 82, 69, 65, 77] := toList_toL kI
theorem is_kI {k : ByteArray} : (k.toList == [73, 83, 84, 82, 69, 65, 77]) = decide (k = kI) := by
  rw [Bool.eq_iff_iff, beq_iff_eq, decide_eq_true_eq]
  exact ⟨fun h => ba_ext (h.trans list_kI.symm), fun h => by rw [h]; exact list_kI⟩
theorem list_kD : kD.toList = [68, 83, 84, 82, 69, 65, 77] := toList_toL kD
theorem is_kD {k : ByteArray} : (k.toList == [68, 83, 84, 82, 69, 65, 77]) = decide (k = kD) := by
  rw [Bool.eq_iff_iff, beq_iff_eq, decide_eq_true_eq]
  exact ⟨fun h => ba_ext (h.trans list_kD.symm), fun h => by rw [h]; exact list_kD⟩
theorem kI_ne : kI ≠ kR := by decide
theorem kD_ne : kD ≠ kR := by decide
theorem kD_ne' : kD ≠ kI := by decide
theorem told_any (k : ByteArray) (v1 v2 : Value) (L M : List ByteArray) (w : World) (h1 : RdS w v1 L) (h2 : RdS w v2 M) (hl : L.length ≤ 100000) (hm : M.length ≤ 100000) (hs1 : ∀ x ∈ L, x.size ≤ maxLen) (hs2 : ∀ x ∈ M, x.size ≤ maxLen) :
    Calls Try.prog 19 #[.string k, v1, v2] w fun e w' => ∃ lv', e = .returned (.tuple #[lv', .bool (knows k)]) ∧ rowF elS w.heap.size (toldL k L M) lv' w' ∧ Ext w w' := by
  have c1 := Lib.hid (clone_any v2 M w h2 (by omega))
  have c2 := Lib.hid (less_any v2 v1 M L w h2 h1 hm hl hs2 hs1)
  have c3 := Lib.hid (less_any v1 v2 L M w h1 h2 hl hm hs1 hs2)
  by_cases e1 : k = kR
  · have g1 : (k.toList == [82, 83, 84, 82, 69, 65, 77]) = true := by rw [is_kR]; simpa using e1
    have E := Lib.hid e1
    clear e1
    go_enter Try.func19, Try.ntmps19
    go_wp2_with (go_at_call 23; refine c1.out.mono ?_; rintro e w1 ⟨v1, rfl, hr1, hE1⟩)
    refine bodyPost_ret (results_tmp2 rfl _ _ _) rfl ?_
    have e1 := E.out
    exact ⟨_, by rw [knows, decide_eq_true (.inl e1)]; rfl, by rw [toldL, if_pos e1]; exact hr1, hE1⟩
  have g1 : (k.toList == [82, 83, 84, 82, 69, 65, 77]) = false := by rw [is_kR]; simpa using e1
  by_cases e2 : k = kI
  · have g2 : (k.toList == [73, 83, 84, 82, 69, 65, 77]) = true := by rw [is_kI]; simpa using e2
    have E := Lib.hid e2
    clear e2
    go_enter Try.func19, Try.ntmps19
    go_wp2_with (go_at_call 14; refine c2.out.mono ?_; rintro e w1 ⟨v1, rfl, hr1, hE1⟩)
    refine bodyPost_ret (results_tmp2 rfl _ _ _) rfl ?_
    have e2 := E.out
    exact ⟨_, by rw [knows, decide_eq_true (.inr (.inl e2))]; rfl, by rw [toldL, if_neg e1, if_pos e2]; exact hr1, hE1⟩
  have g2 : (k.toList == [73, 83, 84, 82, 69, 65, 77]) = false := by rw [is_kI]; simpa using e2
  by_cases e3 : k = kD
  · have g3 : (k.toList == [68, 83, 84, 82, 69, 65, 77]) = true := by rw [is_kD]; simpa using e3
    have E := Lib.hid e3
    clear e3
    go_enter Try.func19, Try.ntmps19
    go_wp2_with (go_at_call 14; refine c3.out.mono ?_; rintro e w1 ⟨v1, rfl, hr1, hE1⟩)
    refine bodyPost_ret (results_tmp2 rfl _ _ _) rfl ?_
    have e3 := E.out
    exact ⟨_, by rw [knows, decide_eq_true (.inr (.inr e3))]; rfl, by rw [toldL, if_neg e1, if_neg e2, if_pos e3]; exact hr1, hE1⟩
  have g3 : (k.toList == [68, 83, 84, 82, 69, 65, 77]) = false := by rw [is_kD]; simpa using e3
  go_enter Try.func19, Try.ntmps19
  go_wp2
  refine bodyPost_ret (results_tmp2 rfl _ _ _) rfl ?_
  exact ⟨_, by rw [knows, decide_eq_false (by simp [e1, e2, e3])]; rfl, by rw [toldL, if_neg e1, if_neg e2, if_neg e3]; exact rowF_nil _ _, ext_refl _⟩
end Go.Proofs.Yteccpinilpkmiaa
