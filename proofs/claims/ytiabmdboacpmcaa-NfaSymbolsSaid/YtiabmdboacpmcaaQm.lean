/- The document's Takes: all together. -/
import Derived.Test.YtiabmdboacpmcaaQl
namespace Go.Proofs.Ytiabmdboacpmcaa
open Go Go.RowKit Go.Sort
set_option maxHeartbeats 1000000

theorem rtk_all : ∀ N : Nat, N ≤ 100000 → ∀ M : Nat, M ≤ 1000 → RTk N M
  | 0, _, _, _ => fun t rb n x v u w hN => by have := sizeT_pos t; omega
  | N + 1, hN1, M, hM => by
    have hT := fun M' hM' => rtk_all N (by omega) M' hM'
    induction M using Nat.strongRecOn with
    | _ M ih =>
      intro t rb n x v u w hN hMu hF hn hl hu
      cases t with
      | node k m ps =>
        rw [sizeT] at hN
        have hF0 := hF
        rw [formB] at hF
        by_cases h01 : k = 0 ∨ k = 1
        · rw [if_pos h01, Bool.and_eq_true, decide_eq_true_eq] at hF
          obtain ⟨rfl, _⟩ := hF
          exact rtk_sym k m h01 rb n x v u w (by omega) hn hl hu
        rw [if_neg h01] at hF
        by_cases h23 : k = 2 ∨ k = 3
        · rw [if_pos h23, Bool.and_eq_true, Bool.not_eq_true', decide_eq_false_iff_not] at hF
          rcases h23 with rfl | rfl
          · exact rtk_seq (rpk_all (hT M hM) hM (by omega)) m ps rb n x v u w hF.1 (by omega) hF.2 hMu hn hl hu
          · exact rtk_alt (hT M hM) m ps rb n x v u w (by omega) (by omega) hF.2 hMu hn hl hu
        rw [if_neg h23] at hF
        by_cases h456 : k = 4 ∨ k = 5 ∨ k = 6
        · rw [if_pos h456, Bool.and_eq_true, decide_eq_true_eq] at hF
          obtain ⟨p, rfl⟩ : ∃ p, ps = [p] := by
            match ps, hF.1 with
            | [p], _ => exact ⟨p, rfl⟩
          rw [sizeL, sizeL] at hN
          have hFp : formB p = true := by
            have := hF.2
            rw [formL, formL, Bool.and_true] at this
            exact this
          by_cases h6 : k = 6
          · subst h6
            exact rtk_opt (hT M hM) m p rb n x v u w (by omega) hFp hMu hn hl hu
          · exact rtk_again k (by omega) (hT M hM) (fun M' h => hT M' (by omega)) m p (fun M' h => ih M' h (by omega)) rb n x v u w (by omega) hFp hMu hM hn hl hu
        · rw [if_neg h456] at hF
          cases hF
theorem rtakes_any (t : Tr) (rb n x : Nat) (v : Value) (u : List Sy) (w : World) (hN : sizeT t ≤ 100000) (hM : u.length ≤ 1000) (hF : formB t = true) (hn : n ≤ 100) (hl : Lst w rb n t x) (hu : RdY w v u) : Calls Try.prog 33 #[.slice (some ⟨rb, 0, none⟩) n n, .int .i64 (x : Int), v] w fun e w' => e = .returned (.bool (tk t u)) ∧ Ext w w' :=
  rtk_all 100000 (Nat.le_refl _) 1000 (Nat.le_refl _) t rb n x v u w hN hM hF hn hl hu
end Go.Proofs.Ytiabmdboacpmcaa
