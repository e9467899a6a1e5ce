/- awake. -/
import Derived.Test.YtojgbphmkloicaaBw
import Derived.Test.YtojgbphmkloicaaCe
namespace Go.Proofs.Ytojgbphmkloicaa
open Go Go.RowKit Go.Sort
set_option maxHeartbeats 2000000

def k123 : Key := ⟨1, 2, 3⟩
theorem ok123 : ok3 k123 := ⟨okI_iff.2 (by decide), okI_iff.2 (by decide), okI_iff.2 (by decide)⟩
theorem cont_awake : Cont [(1, k123), (2, k123)] 0 9 [(k123, 2)] := by
  refine ⟨List.pairwise_singleton _ _, fun k n => ?_⟩
  have hc : cnt [(1, k123), (2, k123)] 0 9 k = if k123 = k then 2 else 0 := by
    unfold cnt
    simp only [List.countP_cons, List.countP_nil]
    by_cases e : k123 = k <;> simp [e]
  rw [hc, List.mem_singleton, Prod.mk.injEq]
  by_cases e : k123 = k
  · rw [if_pos e]
    constructor
    · rintro ⟨rfl, rfl⟩; exact ⟨rfl, by decide⟩
    · rintro ⟨rfl, _⟩; exact ⟨e.symm, rfl⟩
  · rw [if_neg e]
    constructor
    · rintro ⟨h, _⟩; exact absurd h.symm e
    · rintro ⟨rfl, h⟩; omega
theorem awake_any (w : World) : Calls Try.prog 6 #[] w fun e w' => e = .returned (.bool true) ∧ Ext w w' := by
  go_enter Try.func6, Try.ntmps6
  go_wp2_with fail
  refine (new_any 5 (by omega) (by omega) w).mono ?_
  rintro e w1 ⟨pb, rfl, hpb, hB1, hE1, hs1⟩
  have HB1 := Lib.hid hB1
  have HE1 := Lib.hid hE1
  have HPB := Lib.hid (show pb = w.heap.size from hpb)
  clear hB1 hE1 hs1 hpb
  go_wp2_with fail
  refine (add_any pb 5 [] _ 1 k123 w1 HB1.out (by simp) (by omega) ok123 (okI_iff.2 (by decide))).mono ?_
  rintro e w2 ⟨c2, rfl, hB2, hU2⟩
  have HB2 := Lib.hid (show BagM w2 pb 5 [(1, k123)] _ from hB2)
  have HU2 := Lib.hid hU2
  clear hB2 hU2 HB1
  go_wp2_with fail
  refine (add_any pb 5 [(1, k123)] _ 2 k123 w2 HB2.out (by simp) (by omega) ok123 (okI_iff.2 (by decide))).mono ?_
  rintro e w3 ⟨c3, rfl, hB3, hU3⟩
  have HB3 := Lib.hid (show BagM w3 pb 5 [(1, k123), (2, k123)] _ from hB3)
  have HU3 := Lib.hid hU3
  clear hB3 hU3 HB2
  go_wp2_with fail
  refine (content_any pb 5 _ _ 0 9 w3 HB3.out (by simp)).mono ?_
  rintro e w4 ⟨v, L, rfl, hC, hr, hE4⟩
  obtain rfl : L = [(k123, 2)] := cont_unique hC cont_awake (fun _ => rfl)
  have HB4 := Lib.hid (bagM_ext HB3.out hE4)
  have HE4 := Lib.hid hE4
  obtain ⟨g, cap, rfl⟩ : ∃ g cap, v = .slice (some ⟨g, 0, none⟩) 1 cap := by
    rcases rowE_cases hr.1 with ⟨_, h0⟩ | ⟨g, cap, cur, h1, _⟩
    · cases h0
    · exact ⟨g, cap, h1⟩
  have q3 : w4.cell? ⟨g, 3, none⟩ = some (.int .i64 2) := rowE_cell hr.1 (i := 0) (x := (k123, 2)) rfl (j := 3) (u := .int .i64 2) rfl
  have lg := (rowE_block hr.1 (g := g) rfl).1
  have HF := Lib.hid (show Ext w w4 from ext_of_upd (upd_trans (upd_trans (upd_trans (upd_of_ext HE1.out) HU2.out (fun i hi e => absurd hi (by
    have h5 := HPB.out
    have h6 : i = pb := e
    omega))) HU3.out (fun i hi e => absurd hi (by
    have h5 := HPB.out
    have h7 := ext_size HE1.out
    rcases e with h6 | h6
    · have h8 : i = pb := h6
      omega
    · omega))) (upd_of_ext (fp := fun _ => False) HE4.out) (fun _ _ h => h.elim)))
  clear hC hr hE4
  go_wp2_with fail
  refine (len_any pb 5 _ _ w4 HB4.out).mono ?_
  rintro e w5 ⟨rfl, rfl⟩
  go_wp2
  refine bodyPost_ret (results_tmp rfl _ _ _) rfl ?_
  exact ⟨rfl, HF.out⟩
end Go.Proofs.Ytojgbphmkloicaa
