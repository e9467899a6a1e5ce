/- Plain: what the laws of bags say. -/
import Derived.Test.YtojgbphmkloicaaBp
namespace Go.Proofs.Ytojgbphmkloicaa
open Go

/-- may an element be -/
def okE (e : Ev) : Bool := decide (0 ≤ e.2.a ∧ 0 ≤ e.2.b ∧ 0 ≤ e.2.c)
def ev0 : Ev := (0, ⟨0, 0, 0⟩)
def turnE (A : List Ev) (r j : Nat) : List Ev := (List.range j).map fun i => A.getD ((i + r) % A.length) ev0
theorem turnE_succ (A : List Ev) (r j : Nat) : turnE A r (j + 1) = turnE A r j ++ [A.getD ((j + r) % A.length) ev0] := by
  unfold turnE
  rw [List.range_succ, List.map_append]
  rfl
theorem turnE_perm (A : List Ev) (r : Nat) : (turnE A r A.length).Perm A := by
  rcases Nat.eq_zero_or_pos A.length with h0 | h0
  · have : A = [] := List.eq_nil_of_length_eq_zero h0
    subst this
    exact List.Perm.refl _
  obtain ⟨s, hs⟩ : ∃ s, s = r % A.length := ⟨_, rfl⟩
  have hsl : s < A.length := by rw [hs]; exact Nat.mod_lt _ h0
  have e : turnE A r A.length = A.drop s ++ A.take s := by
    refine List.ext_getElem? (fun i => ?_)
    unfold turnE
    rw [List.getElem?_map]
    rcases Nat.lt_or_ge i A.length with hi | hi
    · rw [List.getElem?_range hi, Option.map_some]
      have hm : (i + r) % A.length = (i + s) % A.length := by rw [hs, Nat.add_mod_mod]
      rw [hm]
      rcases Nat.lt_or_ge (i + s) A.length with hlt | hge
      · rw [Nat.mod_eq_of_lt hlt, List.getElem?_append_left (by rw [List.length_drop]; omega), List.getElem?_drop, List.getD_eq_getElem?_getD, Nat.add_comm s i, List.getElem?_eq_getElem hlt]
        rfl
      · have h2 : (i + s) % A.length = i + s - A.length := by rw [Nat.mod_eq_sub_mod hge, Nat.mod_eq_of_lt (by omega)]
        rw [h2, List.getElem?_append_right (by rw [List.length_drop]; omega), List.length_drop, List.getElem?_take, if_pos (by omega), List.getD_eq_getElem?_getD, show i - (A.length - s) = i + s - A.length by omega, List.getElem?_eq_getElem (by omega)]
        rfl
    · rw [List.getElem?_eq_none (by simpa using hi), List.getElem?_eq_none (by rw [List.length_append, List.length_drop, List.length_take]; omega)]
      rfl
  rw [e]
  exact List.perm_append_comm.trans (by rw [List.take_append_drop])
theorem turnE_ok (A : List Ev) (r : Nat) : ((turnE A r A.length).filter okE).Perm (A.filter okE) := (turnE_perm A r).filter _
/-- one added -/
def addE (E : List Ev) (e : Ev) : List Ev := if okE e then E ++ [e] else E
theorem add_filter (E : List Ev) (e : Ev) : addE (E.filter okE) e = (E ++ [e]).filter okE := by
  unfold addE
  rw [List.filter_append]
  cases h : okE e <;> simp [h]
theorem take_ok {A : List Ev} {j : Nat} {e : Ev} (h : A[j]? = some e) : addE ((A.take j).filter okE) e = (A.take (j + 1)).filter okE := by
  rw [add_filter, List.take_add_one, h]
  rfl
theorem turn_ok {A : List Ev} {r j : Nat} : addE ((turnE A r j).filter okE) (A.getD ((j + r) % A.length) ev0) = (turnE A r (j + 1)).filter okE := by
  rw [add_filter, turnE_succ]
/-- one taken away -/
theorem rem_yes {A E : List Ev} {j : Nat} {e : Ev} (h : A[j]? = some e) (hok : okE e = true) (hp : E.Perm ((A.drop j).filter okE)) : e ∈ E ∧ (E.erase e).Perm ((A.drop (j + 1)).filter okE) := by
  have hj := (List.getElem?_eq_some_iff.1 h).1
  have hd : A.drop j = e :: A.drop (j + 1) := by
    have h1 := List.getElem?_eq_getElem hj
    rw [h] at h1
    rw [Option.some.inj h1]
    exact List.drop_eq_getElem_cons hj
  rw [hd, List.filter_cons_of_pos hok] at hp
  refine ⟨hp.mem_iff.2 (List.mem_cons_self ..), ?_⟩
  have := hp.erase e
  rwa [List.erase_cons_head] at this
theorem rem_no {A E : List Ev} {j : Nat} {e : Ev} (h : A[j]? = some e) (hok : okE e = false) (hp : E.Perm ((A.drop j).filter okE)) : e ∉ E ∧ E.Perm ((A.drop (j + 1)).filter okE) := by
  have hj := (List.getElem?_eq_some_iff.1 h).1
  have hd : A.drop j = e :: A.drop (j + 1) := by
    have h1 := List.getElem?_eq_getElem hj
    rw [h] at h1
    rw [Option.some.inj h1]
    exact List.drop_eq_getElem_cons hj
  rw [hd, List.filter_cons_of_neg (by rw [hok]; simp)] at hp
  refine ⟨fun hm => ?_, hp⟩
  have := (List.mem_filter.1 (hp.mem_iff.1 hm)).2
  rw [hok] at this
  cases this
/-- what expires -/
def lateE (t : Int) (E : List Ev) : List Ev := E.filter fun e => decide (t ≤ e.1)
theorem late_ok (t : Int) (A : List Ev) : lateE t (A.filter okE) = (lateE t A).filter okE := by
  unfold lateE
  rw [List.filter_filter, List.filter_filter]
  refine List.filter_congr (fun e _ => Bool.and_comm _ _)
theorem late_yes {t : Int} {A : List Ev} {j : Nat} {e : Ev} (h : A[j]? = some e) (ht : t ≤ e.1) : lateE t (A.take (j + 1)) = lateE t (A.take j) ++ [e] := by
  unfold lateE
  rw [List.take_add_one, h, Option.toList_some, List.filter_append, List.filter_cons_of_pos (by simpa using ht), List.filter_nil]
theorem late_no {t : Int} {A : List Ev} {j : Nat} {e : Ev} (h : A[j]? = some e) (ht : ¬ t ≤ e.1) : lateE t (A.take (j + 1)) = lateE t (A.take j) := by
  unfold lateE
  rw [List.take_add_one, h, Option.toList_some, List.filter_append, List.filter_cons_of_neg (by simpa using ht), List.filter_nil, List.append_nil]
theorem late_perm {t : Int} {E E' : List Ev} (h : E.Perm E') : (lateE t E).Perm (lateE t E') := h.filter _
theorem late_late (t : Int) (E : List Ev) : lateE t (lateE t E) = lateE t E := by
  unfold lateE
  rw [List.filter_filter]
  refine List.filter_congr (fun e _ => Bool.and_self _)
theorem late_len (t : Int) (E : List Ev) : (lateE t E).length ≤ E.length := List.length_filter_le ..
end Go.Proofs.Ytojgbphmkloicaa
