/- Plain: what is laid grows part by part; how much it is. -/
import Derived.Test.YtiabmdboacpmcaaPf
import Derived.Test.YtiabmdboacpmcaaPd
namespace Go.Proofs.Ytiabmdboacpmcaa
open Go Go.RowKit Go.Sort

theorem genSeq_snoc : ∀ (ps : List Tr) (q : Tr) (m s : Nat), genSeq (ps ++ [q]) m s = ⟨(genSeq ps m s).moves ++ (gen q (genSeq ps m s).many (genSeq ps m s).last).moves, (gen q (genSeq ps m s).many (genSeq ps m s).last).many, (gen q (genSeq ps m s).many (genSeq ps m s).last).last⟩
  | [], q, m, s => by
    rw [List.nil_append, genSeq, genSeq, genSeq]
    simp
  | p :: r, q, m, s => by
    rw [List.cons_append, genSeq, genSeq_snoc r q, genSeq]
    simp [List.append_assoc]
theorem genAlt_snoc : ∀ (ps : List Tr) (q : Tr) (m s tt : Nat), genAlt (ps ++ [q]) m s tt = ((genAlt ps m s tt).1 ++ ((s, none, (genAlt ps m s tt).2) :: ((gen q ((genAlt ps m s tt).2 + 1) (genAlt ps m s tt).2).moves ++ [((gen q ((genAlt ps m s tt).2 + 1) (genAlt ps m s tt).2).last, none, tt)])), (gen q ((genAlt ps m s tt).2 + 1) (genAlt ps m s tt).2).many)
  | [], q, m, s, tt => by
    rw [List.nil_append, genAlt, genAlt, genAlt]
    simp
  | p :: r, q, m, s, tt => by
    rw [List.cons_append, genAlt, genAlt_snoc r q, genAlt]
    simp [List.append_assoc]

mutual
theorem gen_size : ∀ (t : Tr) (m s : Nat), Form t → m ≤ (gen t m s).many ∧ (gen t m s).many + 1 ≤ m + 3 * sizeT t ∧ (gen t m s).moves.length + 2 ≤ 5 * sizeT t
  | .node k n ps, m, s, hf => by
    rw [Form] at hf
    rw [sizeT]
    rcases hf with ⟨hk, rfl, _⟩ | ⟨hk, _, hfl⟩ | ⟨hk, ⟨p, rfl⟩, hfl⟩
    · rw [gen, if_pos hk]
      refine ⟨?_, ?_, ?_⟩ <;> simp [sizeL]
    · rcases hk with rfl | rfl
      · have h := genSeq_size ps m s hfl
        rw [gen, if_neg (by decide), if_pos rfl]
        refine ⟨h.1, ?_, ?_⟩ <;> omega
      · have h := genAlt_size ps (m + 1) s m hfl
        rw [gen, if_neg (by decide), if_neg (by decide), if_pos rfl]
        refine ⟨?_, ?_, ?_⟩
        · show m ≤ (genAlt ps (m + 1) s m).2; omega
        · show (genAlt ps (m + 1) s m).2 + 1 ≤ _; omega
        · show (genAlt ps (m + 1) s m).1.length + 2 ≤ _; omega
    · rw [FormL] at hfl
      have h := gen_size p (m + 2) m hfl.1
      rw [gen, if_neg (by omega), if_neg (by omega), if_neg (by omega), genOne]
      have hs : sizeL [p] = sizeT p := by rw [sizeL, sizeL, Nat.add_zero]
      rw [hs]
      refine ⟨?_, ?_, ?_⟩
      · show m ≤ (gen p (m + 2) m).many; omega
      · show (gen p (m + 2) m).many + 1 ≤ _; omega
      · simp only [List.length_cons, List.length_append]
        have e1 : (if k = 5 then ([] : List Mv) else [(m, none, m + 1)]).length ≤ 1 := by split <;> simp
        have e2 : (if k = 6 then ([] : List Mv) else [(m + 1, none, m)]).length ≤ 1 := by split <;> simp
        omega
theorem genSeq_size : ∀ (ps : List Tr) (m s : Nat), FormL ps → m ≤ (genSeq ps m s).many ∧ (genSeq ps m s).many ≤ m + 3 * sizeL ps ∧ (genSeq ps m s).moves.length ≤ 5 * sizeL ps
  | [], m, s, _ => by rw [genSeq, sizeL]; simp
  | p :: r, m, s, hf => by
    rw [FormL] at hf
    have h1 := gen_size p m s hf.1
    have h2 := genSeq_size r (gen p m s).many (gen p m s).last hf.2
    rw [genSeq, sizeL]
    refine ⟨?_, ?_, ?_⟩
    · show m ≤ (genSeq r _ _).many; omega
    · show (genSeq r _ _).many ≤ _; omega
    · simp only [List.length_append]; omega
theorem genAlt_size : ∀ (ps : List Tr) (m s tt : Nat), FormL ps → m ≤ (genAlt ps m s tt).2 ∧ (genAlt ps m s tt).2 ≤ m + 3 * sizeL ps ∧ (genAlt ps m s tt).1.length ≤ 5 * sizeL ps
  | [], m, s, tt, _ => by rw [genAlt, sizeL]; simp
  | p :: r, m, s, tt, hf => by
    rw [FormL] at hf
    have h1 := gen_size p (m + 1) m hf.1
    have h2 := genAlt_size r (gen p (m + 1) m).many s tt hf.2
    rw [genAlt, sizeL]
    refine ⟨?_, ?_, ?_⟩
    · show m ≤ (genAlt r _ _ _).2; omega
    · show (genAlt r _ _ _).2 ≤ _; omega
    · simp only [List.length_cons, List.length_append]; omega
end
theorem genSeq_sizeT (ps : List Tr) (m s : Nat) (j : Nat) (hf : FormL ps) : FormL (ps.take j) := by
  induction ps generalizing j with
  | nil => simpa using hf
  | cons p r ih =>
    rw [FormL] at hf
    cases j with
    | zero => rw [List.take_zero, FormL]; trivial
    | succ j => rw [List.take_succ_cons, FormL]; exact ⟨hf.1, ih j hf.2⟩
theorem form_mem : ∀ {ps : List Tr} {q : Tr}, FormL ps → q ∈ ps → Form q
  | p :: r, q, hf, hq => by
    rw [FormL] at hf
    rcases List.mem_cons.1 hq with rfl | hq
    · exact hf.1
    · exact form_mem hf.2 hq

/-- what moves a machine has -/
def HasM (Ms : List (List Mo)) (s : Nat) (o : Option Sy) (d : Nat) : Prop := ∃ l, Ms[s]? = some l ∧ (o, d) ∈ l
theorem hasM_state {Ms : List (List Mo)} {s : Nat} {o : Option Sy} {d : Nat} : HasM (Ms ++ [[]]) s o d ↔ HasM Ms s o d := by
  constructor
  · rintro ⟨l, hl, hm⟩
    rcases Nat.lt_or_ge s Ms.length with h | h
    · rw [List.getElem?_append_left h] at hl
      exact ⟨l, hl, hm⟩
    · rw [List.getElem?_append_right h] at hl
      have : l = [] := by
        cases hi : s - Ms.length with
        | zero => rw [hi] at hl; simpa using hl.symm
        | succ n => rw [hi] at hl; simp at hl
      rw [this] at hm
      cases hm
  · rintro ⟨l, hl, hm⟩
    exact ⟨l, by rw [List.getElem?_append_left (List.getElem?_eq_some_iff.1 hl).1]; exact hl, hm⟩
theorem hasM_add {Ms : List (List Mo)} {s : Nat} {mv : Mo} (hs : s < Ms.length) {s' : Nat} {o : Option Sy} {d : Nat} : HasM (addM Ms s mv) s' o d ↔ HasM Ms s' o d ∨ (s' = s ∧ (o, d) = mv) := by
  constructor
  · rintro ⟨l, hl, hm⟩
    obtain ⟨l0, h0, rfl⟩ := addM_at hl
    by_cases e : s' = s
    · rw [if_pos e] at hm
      rcases List.mem_append.1 hm with h | h
      · exact .inl ⟨l0, h0, h⟩
      · exact .inr ⟨e, by simpa using h⟩
    · rw [if_neg e] at hm
      exact .inl ⟨l0, h0, hm⟩
  · rintro (⟨l, hl, hm⟩ | ⟨rfl, rfl⟩)
    · refine ⟨if s' = s then l ++ [mv] else l, ?_, ?_⟩
      · rw [addM, List.getElem?_modify, hl]
        by_cases e : s' = s
        · subst e; simp
        · have e' : ¬ s = s' := fun h => e h.symm
          rw [if_neg e]; simp [e']
      · split
        · exact List.mem_append_left _ hm
        · exact hm
    · obtain ⟨l, hl⟩ : ∃ l, Ms[s']? = some l := ⟨_, List.getElem?_eq_getElem hs⟩
      refine ⟨l ++ [(o, d)], ?_, by simp⟩
      rw [addM, List.getElem?_modify, hl]
      simp
theorem addM_small {Ms : List (List Mo)} {s : Nat} {mv : Mo} {B : Nat} (h : ∀ l ∈ Ms, l.length ≤ B) : ∀ l ∈ addM Ms s mv, l.length ≤ B + 1 := fun l hl => by
  obtain ⟨i, hi, he⟩ := List.mem_iff_getElem.1 hl
  obtain ⟨l0, h0, h1⟩ := addM_at (l := l) (i := i) (by rw [List.getElem?_eq_getElem hi, he])
  have := h l0 (List.mem_of_getElem? h0)
  rw [h1]
  split
  · rw [List.length_append]; simp; exact this
  · omega
theorem state_small {Ms : List (List Mo)} {B : Nat} (h : ∀ l ∈ Ms, l.length ≤ B) : ∀ l ∈ Ms ++ [[]], l.length ≤ B := fun l hl => by
  rcases List.mem_append.1 hl with h1 | h1
  · exact h l h1
  · rw [List.mem_singleton.1 h1]; exact Nat.zero_le _

theorem formB_iff : ∀ t : Tr, formB t = true → Form t := by
  intro t
  exact (formB_both (sizeT t)).1 t (Nat.le_refl _)
where
  formB_both : ∀ N : Nat, (∀ t, sizeT t ≤ N → formB t = true → Form t) ∧ (∀ ps, sizeL ps ≤ N → formL ps = true → FormL ps)
  | 0 => ⟨fun t h => by have := sizeT_pos t; omega, fun ps h _ => by
      have := sizeL_len ps
      have : ps = [] := List.eq_nil_of_length_eq_zero (by omega)
      rw [this, FormL]; trivial⟩
  | N + 1 => by
    obtain ⟨ih1, ih2⟩ := formB_both N
    have hT : ∀ t, sizeT t ≤ N + 1 → formB t = true → Form t := fun t ht hb => by
      cases t with
      | node k n ps =>
        rw [sizeT] at ht
        have hps := ih2 ps (by omega)
        rw [formB] at hb
        rw [Form]
        split at hb
        · rename_i hk
          simp only [Bool.and_eq_true, decide_eq_true_eq] at hb
          exact .inl ⟨hk, hb.1, hb.2⟩
        split at hb
        · rename_i hk
          simp only [Bool.and_eq_true, Bool.not_eq_true', decide_eq_false_iff_not] at hb
          exact .inr (.inl ⟨hk, hb.1, hps hb.2⟩)
        split at hb
        · rename_i hk
          simp only [Bool.and_eq_true, decide_eq_true_eq] at hb
          exact .inr (.inr ⟨hk, List.length_eq_one_iff.1 hb.1, hps hb.2⟩)
        · cases hb
    refine ⟨hT, fun ps => ?_⟩
    induction ps with
    | nil => intro _ _; rw [FormL]; trivial
    | cons p r ih =>
      intro h hb
      rw [sizeL] at h
      rw [formL, Bool.and_eq_true] at hb
      rw [FormL]
      exact ⟨hT p (by omega) hb.1, ih (by omega) hb.2⟩
end Go.Proofs.Ytiabmdboacpmcaa
