/- The plain law of the store: rows that rise; what is found, added, taken away. -/
import Derived.Test.YtfaegjlolhpofaaDoorWp
namespace Go.Proofs.YtfaegjlolhpofaaDoor
open Go.RowKit Go.Sort

/-- lexicographic order of three ints -/
def ltK (x y : Nat → Int) : Prop := x 0 < y 0 ∨ (x 0 = y 0 ∧ (x 1 < y 1 ∨ (x 1 = y 1 ∧ x 2 < y 2)))
theorem lexF_neg (u v : Nat → Int) : lexF u v 3 0 < 0 ↔ ltK u v := by
  unfold ltK
  simp only [lexF, Nat.zero_add, Nat.reduceAdd]
  (repeat' split) <;> simp <;> omega
theorem lexF_pos (u v : Nat → Int) : 0 < lexF u v 3 0 ↔ ltK v u := by
  unfold ltK
  simp only [lexF, Nat.zero_add, Nat.reduceAdd]
  (repeat' split) <;> simp <;> omega
theorem lexF_zero (u v : Nat → Int) : lexF u v 3 0 = 0 ↔ u 0 = v 0 ∧ u 1 = v 1 ∧ u 2 = v 2 := by
  simp only [lexF, Nat.zero_add, Nat.reduceAdd]
  (repeat' split) <;> simp <;> omega
theorem turn_inj {o : Int} {x y : Key} (h0 : (x.turn o).f 0 = (y.turn o).f 0) (h1 : (x.turn o).f 1 = (y.turn o).f 1) (h2 : (x.turn o).f 2 = (y.turn o).f 2) : x = y := by
  obtain ⟨a, b, c⟩ := x
  obtain ⟨a', b', c'⟩ := y
  unfold Key.turn at h0 h1 h2
  simp only [Key.mk.injEq]
  split at h0
  · rename_i h; simp [h, Key.f] at h0 h1 h2; omega
  · rename_i h
    split at h0
    · rename_i h'; simp [h', Key.f] at h0 h1 h2; omega
    · rename_i h'; simp [h, h', Key.f] at h0 h1 h2; omega
def ltO (o : Int) (x y : Key) : Prop := Key.cmp o x y < 0
instance (o : Int) (x y : Key) : Decidable (ltO o x y) := inferInstanceAs (Decidable (Key.cmp o x y < 0))
theorem ltO_iff {o : Int} {x y : Key} : ltO o x y ↔ ltK (x.turn o).f (y.turn o).f := lexF_neg _ _
theorem cmp_zero {o : Int} {x y : Key} : Key.cmp o x y = 0 ↔ x = y := by
  constructor
  · intro h
    have := (lexF_zero _ _).1 h
    exact turn_inj this.1 this.2.1 this.2.2
  · rintro rfl; exact cmp_self _ _
theorem cmp_pos {o : Int} {x y : Key} : 0 < Key.cmp o x y ↔ ltO o y x := (lexF_pos _ _).trans ltO_iff.symm
theorem ltK_trans {u v w : Nat → Int} (h : ltK u v) (k : ltK v w) : ltK u w := by unfold ltK at *; omega
theorem ltO_trans {o : Int} {x y z : Key} (h : ltO o x y) (k : ltO o y z) : ltO o x z := ltO_iff.2 (ltK_trans (ltO_iff.1 h) (ltO_iff.1 k))
theorem ltO_irrefl {o : Int} {x : Key} : ¬ ltO o x x := by unfold ltO; rw [cmp_self]; omega
theorem ltO_asymm {o : Int} {x y : Key} (h : ltO o x y) : ¬ ltO o y x := fun k => ltO_irrefl (ltO_trans h k)
theorem ltO_tri (o : Int) (x y : Key) : ltO o x y ∨ x = y ∨ ltO o y x := by
  rcases Int.lt_trichotomy (Key.cmp o x y) 0 with h | h | h
  · exact .inl h
  · exact .inr (.inl (cmp_zero.1 h))
  · exact .inr (.inr (cmp_pos.1 h))

def Sorted (o : Int) (ks : List Key) : Prop := List.Pairwise (ltO o) ks
theorem sorted_nodup {o : Int} {ks : List Key} (h : Sorted o ks) : ks.Nodup := List.Pairwise.imp (fun {a b} (h : ltO o a b) (e : a = b) => ltO_irrefl (o := o) (x := b) (by rw [e] at h; exact h)) h
theorem getD_eq {ks : List Key} {i : Nat} (h : i < ks.length) (d : Key) : ks.getD i d = ks[i] := by simp [List.getD, h]

theorem kat_mem {ks : List Key} {i : Nat} (h : i < ks.length) : kat ks i ∈ ks := by
  unfold kat; rw [getD_eq h]; exact List.getElem_mem h
theorem sorted_kat {o : Int} {ks : List Key} (h : Sorted o ks) {i j : Nat} (hij : i < j) (hj : j < ks.length) : ltO o (kat ks i) (kat ks j) := by
  unfold kat
  rw [getD_eq (by omega : i < ks.length), getD_eq hj]
  exact List.pairwise_iff_getElem.1 h i j (by omega) hj hij
theorem sorted_rising {o : Int} {ks : List Key} (h : Sorted o ks) : Rising o ks := fun t i j hij hj hlt => by
  rcases Nat.lt_or_ge i j with h1 | h1
  · exact ltO_trans (sorted_kat h h1 hj) hlt
  · obtain rfl : i = j := by omega
    exact hlt

/-- in a row that rises, those ahead of t come first -/
theorem split_at_lb (o : Int) (t : Key) : ∀ (ks : List Key), Sorted o ks → ks.take (lb o ks t) = ks.filter (fun k => decide (ltO o k t)) ∧ ks.drop (lb o ks t) = ks.filter (fun k => !decide (ltO o k t))
  | [], _ => ⟨rfl, rfl⟩
  | x :: ks, h => by
    have hs : Sorted o ks := (List.pairwise_cons.1 h).2
    obtain ⟨h1, h2⟩ := split_at_lb o t ks hs
    by_cases hx : ltO o x t
    · have e : lb o (x :: ks) t = lb o ks t + 1 := by
        unfold lb; rw [List.takeWhile_cons, if_pos (by rw [decide_eq_true_eq]; exact hx)]; rfl
      rw [e, List.take_succ_cons, List.drop_succ_cons, h1, h2, List.filter_cons, List.filter_cons, if_pos (by simpa using hx), if_neg (by simpa using hx)]
      exact ⟨rfl, rfl⟩
    · have e : lb o (x :: ks) t = 0 := by
        unfold lb; rw [List.takeWhile_cons, if_neg (by rw [decide_eq_true_eq]; exact hx)]; rfl
      have hall : ∀ k ∈ ks, ¬ ltO o k t := fun k hk hkt => hx (ltO_trans ((List.pairwise_cons.1 h).1 k hk) hkt)
      rw [e, List.take_zero, List.drop_zero]
      refine ⟨(List.filter_eq_nil_iff.2 fun k hk => ?_).symm, (List.filter_eq_self.2 fun k hk => ?_).symm⟩
      · rcases List.mem_cons.1 hk with rfl | hk
        · simpa using hx
        · simpa using hall k hk
      · rcases List.mem_cons.1 hk with rfl | hk
        · simpa using hx
        · simpa using hall k hk

theorem drop_lb_cons {o : Int} {ks : List Key} {t : Key} (h : Sorted o ks) (ht : t ∈ ks) : ∃ l, ks.drop (lb o ks t) = t :: l ∧ ∀ k ∈ l, ltO o t k := by
  have hd := (split_at_lb o t ks h).2
  have hs : Sorted o (ks.drop (lb o ks t)) := List.Pairwise.sublist (List.drop_sublist _ _) h
  have hm : t ∈ ks.drop (lb o ks t) := by rw [hd]; exact List.mem_filter.2 ⟨ht, by simpa using ltO_irrefl⟩
  cases hl : ks.drop (lb o ks t) with
  | nil => rw [hl] at hm; cases hm
  | cons x l =>
    rw [hl] at hs hm
    have hx : x ∈ ks.drop (lb o ks t) := by rw [hl]; exact List.mem_cons_self ..
    rw [hd] at hx
    have hnx : ¬ ltO o x t := by simpa using (List.mem_filter.1 hx).2
    rcases List.mem_cons.1 hm with rfl | hm
    · exact ⟨l, rfl, (List.pairwise_cons.1 hs).1⟩
    · exact absurd ((List.pairwise_cons.1 hs).1 t hm) hnx

theorem lb_lt {o : Int} {ks : List Key} {t : Key} (h : Sorted o ks) (ht : t ∈ ks) : lb o ks t < ks.length := by
  obtain ⟨l, hl, _⟩ := drop_lb_cons h ht
  have := congrArg List.length hl
  simp at this; omega
theorem found_iff {o : Int} {ks : List Key} {t : Key} (h : Sorted o ks) : foundB o ks t (lb o ks t) = decide (t ∈ ks) := by
  by_cases ht : t ∈ ks
  · obtain ⟨l, hl, _⟩ := drop_lb_cons h ht
    have hlt := lb_lt h ht
    have hk : kat ks (lb o ks t) = t := by
      unfold kat
      rw [getD_eq hlt]
      have := congrArg (·[0]?) hl
      simp only [List.getElem?_drop, List.getElem?_cons_zero, Nat.add_zero] at this
      rw [List.getElem?_eq_getElem hlt] at this
      exact Option.some.inj this
    unfold foundB
    rw [hk, cmp_self]
    simp [hlt, ht]
  · unfold foundB
    simp only [ht, decide_false, Bool.and_eq_false_iff, decide_eq_false_iff_not, beq_eq_false_iff_ne, ne_eq]
    by_cases hlt : lb o ks t < ks.length
    · right
      intro h0
      exact ht (cmp_zero.1 h0 ▸ kat_mem hlt)
    · exact .inl hlt

theorem ins_sorted {o : Int} {ks : List Key} {t : Key} (h : Sorted o ks) (ht : t ∉ ks) : Sorted o (insAt ks (lb o ks t) t) := by
  obtain ⟨h1, h2⟩ := split_at_lb o t ks h
  unfold insAt Sorted
  refine List.pairwise_append.2 ⟨List.Pairwise.sublist (List.take_sublist _ _) h, List.pairwise_cons.2 ⟨fun k hk => ?_, List.Pairwise.sublist (List.drop_sublist _ _) h⟩, fun a ha b hb => ?_⟩
  · rw [h2] at hk
    have := List.mem_filter.1 hk
    have hn : ¬ ltO o k t := by simpa using this.2
    rcases ltO_tri o t k with h3 | h3 | h3
    · exact h3
    · exact absurd (h3 ▸ this.1) ht
    · exact absurd h3 hn
  · rw [h1] at ha
    have hat : ltO o a t := by simpa using (List.mem_filter.1 ha).2
    rcases List.mem_cons.1 hb with rfl | hb
    · exact hat
    · rw [h2] at hb
      have := List.mem_filter.1 hb
      have hn : ¬ ltO o b t := by simpa using this.2
      rcases ltO_tri o t b with h3 | h3 | h3
      · exact ltO_trans hat h3
      · exact h3 ▸ hat
      · exact absurd h3 hn
theorem ins_perm (ks : List Key) (n : Nat) (t : Key) : (insAt ks n t).Perm (t :: ks) := by
  unfold insAt
  refine (List.perm_middle).trans ?_
  rw [List.take_append_drop]
theorem del_sorted {o : Int} {ks : List Key} {n : Nat} (h : Sorted o ks) : Sorted o (delAt ks n) := by
  unfold delAt Sorted
  have hp := List.pairwise_append.1 (show List.Pairwise (ltO o) (ks.take n ++ ks.drop n) by rw [List.take_append_drop]; exact h)
  refine List.pairwise_append.2 ⟨hp.1, List.Pairwise.sublist (List.drop_sublist_drop_left _ (Nat.le_succ n)) hp.2.1, fun a ha b hb => hp.2.2 a ha b ((List.drop_sublist_drop_left _ (Nat.le_succ n)).subset hb)⟩
theorem del_perm {o : Int} {ks : List Key} {t : Key} (h : Sorted o ks) (ht : t ∈ ks) : ks.Perm (t :: delAt ks (lb o ks t)) := by
  obtain ⟨l, hl, _⟩ := drop_lb_cons h ht
  have hd : ks.drop (lb o ks t + 1) = l := by
    have := congrArg List.tail hl
    rw [List.tail_drop] at this
    exact this
  unfold delAt
  rw [hd]
  conv => lhs; rw [← List.take_append_drop (lb o ks t) ks, hl]
  exact List.perm_middle
end Go.Proofs.YtfaegjlolhpofaaDoor
