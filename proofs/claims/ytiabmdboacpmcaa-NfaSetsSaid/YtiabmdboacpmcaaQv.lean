/- has, States. -/
import Derived.Test.YtiabmdboacpmcaaQp
namespace Go.Proofs.Ytiabmdboacpmcaa
open Go Go.RowKit Go.Sort
set_option maxHeartbeats 1000000

theorem has_any (v : Value) (L : List Nat) (x : Nat) (w : World) (hv : RdN w v L) (hl : L.length ≤ 1000000000) : Calls Try.prog 31 #[v, .int .i64 (x : Int)] w fun e w' => e = .returned (.bool (decide (x ∈ L))) ∧ w' = w := by
  obtain ⟨A, c, rfl, -, hA⟩ := hv
  have HA := Lib.hid hA
  clear hA
  go_enter Try.func31, Try.ntmps31
  go_wp2
  go_loopw [9] (fun y wr => ∃ j : Nat, j ≤ L.length ∧ y = .int .i64 (j : Int) ∧ x ∉ L.take j ∧ wr = w) (fun y _ => L.length - (intOf y).toNat)
  case atStart => exact ⟨0, Nat.zero_le _, rfl, by simp, rfl⟩
  case round =>
    obtain ⟨j, hj, rfl, hno, rfl⟩ := hrel
    have HNO := Lib.hid hno
    clear hno
    by_cases hlt : j < L.length
    · have hji : (j : Int) < (L.length : Int) := by omega
      have hj0 : (0 : Int) ≤ (j : Int) := by omega
      obtain ⟨y, hy⟩ : ∃ y, L[j]? = some y := ⟨_, List.getElem?_eq_getElem hlt⟩
      obtain ⟨b, off, rfl, lb, hc⟩ := HA.out (fun e => by rw [e] at hy; simp at hy)
      have q0 := hc j y hy
      have HY := Lib.hid hy
      clear hc hy
      by_cases he : y = x
      · have hd : ((y : Int) == (x : Int)) = true := by rw [beq_iff_eq]; omega
        have HE := Lib.hid he
        clear he
        go_wp2
        refine bodyPost_ret (results_tmp rfl _ _ _) rfl ?_
        exact ⟨by rw [decide_eq_true (by rw [← HE.out]; exact List.mem_of_getElem? HY.out)]; rfl, rfl⟩
      · have hd : ((y : Int) == (x : Int)) = false := by rw [beq_eq_false_iff_ne]; omega
        go_wp2
        go_roundw
        case rel => exact ⟨j + 1, by omega, by go_num, by
          rw [List.take_add_one, HY.out, List.mem_append]
          rintro (h | h)
          · exact HNO.out h
          · simp at h; exact he h.symm, trivial⟩
        case measure => simp [intOf]; omega
    · obtain rfl : j = L.length := by omega
      rw [List.take_length] at HNO
      go_wp2
      refine bodyPost_ret (results_tmp rfl _ _ _) rfl ?_
      exact ⟨by rw [decide_eq_false HNO.out]; rfl, rfl⟩
theorem states_any (W w : World) (p m b : Nat) (en : Int) (mv : List Mv) (h : Mach W p m b en mv w) : Calls Try.prog 29 #[.pointer (some ⟨p, 0, none⟩)] w fun e w' => e = .returned (.int .i64 (m : Int)) ∧ w' = w := by
  obtain ⟨A0, c0, hpb⟩ := cur_zero h.cur
  have q0 := block_cell hpb 0
  have lp := block_lt hpb
  simp at q0
  clear hpb h
  go_enter Try.func29, Try.ntmps29
  go_wp2
  refine bodyPost_ret (results_tmp rfl _ _ _) rfl ?_
  exact ⟨rfl, rfl⟩
/-- lists without twins, of the same numbers, are of one length -/
theorem same_length {L M : List Nat} (hL : L.Nodup) (hM : M.Nodup) (h : ∀ s, s ∈ L ↔ s ∈ M) : L.length = M.length := ((List.perm_ext_iff_of_nodup hL hM).2 h).length_eq
theorem nodup_of_lt {L : List Nat} (h : L.Pairwise (· < ·)) : L.Nodup := h.imp (fun h => by omega)
end Go.Proofs.Ytiabmdboacpmcaa
