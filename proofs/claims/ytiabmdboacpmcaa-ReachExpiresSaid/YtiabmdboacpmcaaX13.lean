/- Texts joined: Dc. -/
import Derived.Test.YtiabmdboacpmcaaX12
import Derived.Test.YtiabmdboacpmcaaX01
/- Plain: who is come to is whom a word of the path leads to. -/
namespace Go.Proofs.Ytiabmdboacpmcaa
open Go

theorem way_snoc {E : List Mv} {a : Sy} {b s : Nat} {w : List Sy} : Way E b (w ++ [a]) s ↔ ∃ d e, Way E b w d ∧ (d, some a, e) ∈ E ∧ Way E e [] s := by
  constructor
  · intro h
    obtain ⟨u, hu⟩ : ∃ u, u = w ++ [a] := ⟨_, rfl⟩
    rw [← hu] at h
    induction h generalizing w with
    | nil s => simp at hu
    | free hm _ ih =>
      obtain ⟨d, e, h1, h2, h3⟩ := ih hu
      exact ⟨d, e, .free hm h1, h2, h3⟩
    | sym hm h4 ih =>
      rename_i s0 d0 e0 a0 w0
      cases w with
      | nil =>
        simp only [List.nil_append, List.cons.injEq] at hu
        obtain ⟨rfl, rfl⟩ := hu
        exact ⟨s0, d0, .nil _, hm, h4⟩
      | cons x r =>
        simp only [List.cons_append, List.cons.injEq] at hu
        obtain ⟨rfl, rfl⟩ := hu
        obtain ⟨d, e, h1, h2, h3⟩ := ih rfl
        exact ⟨d, e, .sym hm h1, h2, h3⟩
  · rintro ⟨d, e, h1, h2, h3⟩
    have := h1.trans (.sym h2 h3)
    simpa using this
/-- a machine as it leads -/
def autoM (mv : List Mv) (b : Nat) : Auto where
  step s n back s' := ∃ i j : Nat, s = (i : Int) ∧ s' = (j : Int) ∧ ∃ d, (i, some (n, back), d) ∈ mv ∧ Way mv d [] j
  begin' s := ∃ i : Nat, s = (i : Int) ∧ Way mv b [] i
/-- ways along edges that last until a time at least -/
inductive Run (E : Gr3) (t : Int) : Int → List Sy → Int → Prop
  | nil (x : Int) : Run E t x [] x
  | fwd {k : Key} {u : Int} {w : List Sy} {y : Int} : E k = some u → t ≤ u → Run E t k.c w y → Run E t k.a ((k.b, false) :: w) y
  | bwd {k : Key} {u : Int} {w : List Sy} {y : Int} : E k = some u → t ≤ u → Run E t k.a w y → Run E t k.c ((k.b, true) :: w) y
theorem run_trans {E : Gr3} {t x y z : Int} {v w : List Sy} (h : Run E t x v y) (k : Run E t y w z) : Run E t x (v ++ w) z := by
  induction h with
  | nil => exact k
  | fwd h1 h2 _ ih => exact .fwd h1 h2 (ih k)
  | bwd h1 h2 _ ih => exact .bwd h1 h2 (ih k)
theorem run_split {E : Gr3} {t x z : Int} {v w : List Sy} (h : Run E t x (v ++ w) z) : ∃ y, Run E t x v y ∧ Run E t y w z := by
  induction v generalizing x with
  | nil => exact ⟨x, .nil x, h⟩
  | cons a v ih =>
    rw [List.cons_append] at h
    cases h with
    | fwd h1 h2 h3 =>
      obtain ⟨y, h4, h5⟩ := ih h3
      exact ⟨y, .fwd h1 h2 h4, h5⟩
    | bwd h1 h2 h3 =>
      obtain ⟨y, h4, h5⟩ := ih h3
      exact ⟨y, .bwd h1 h2 h4, h5⟩
theorem run_nil {E : Gr3} {t x y : Int} (h : Run E t x [] y) : x = y := by cases h; rfl
theorem run_one {E : Gr3} {t x y n : Int} {back : Bool} : Run E t x [(n, back)] y ↔ ∃ u, (if back then E ⟨y, n, x⟩ = some u else E ⟨x, n, y⟩ = some u) ∧ t ≤ u := by
  constructor
  · intro h
    cases h with
    | fwd h1 h2 h3 =>
      have := run_nil h3
      subst this
      exact ⟨_, h1, h2⟩
    | bwd h1 h2 h3 =>
      have := run_nil h3
      subst this
      exact ⟨_, h1, h2⟩
  · rintro ⟨u, h1, h2⟩
    cases back
    · exact .fwd (k := ⟨x, n, y⟩) h1 h2 (.nil _)
    · exact .bwd (k := ⟨y, n, x⟩) h1 h2 (.nil _)
theorem run_le {E : Gr3} {t t' x y : Int} {w : List Sy} (h : Run E t x w y) (ht : t' ≤ t) : Run E t' x w y := by
  induction h with
  | nil => exact .nil _
  | fwd h1 h2 _ ih => exact .fwd h1 (Int.le_trans ht h2) ih
  | bwd h1 h2 _ ih => exact .bwd h1 (Int.le_trans ht h2) ih
theorem run_mono {E E' : Gr3} (hE : leG E E') {t x y : Int} {w : List Sy} (h : Run E t x w y) : Run E' t x w y := by
  induction h with
  | nil => exact .nil _
  | fwd h1 h2 _ ih =>
    obtain ⟨u', h3, h4⟩ := hE _ _ h1
    exact .fwd h3 (Int.le_trans h2 h4) ih
  | bwd h1 h2 _ ih =>
    obtain ⟨u', h3, h4⟩ := hE _ _ h1
    exact .bwd h3 (Int.le_trans h2 h4) ih
theorem run_node {E : Gr3} {t x y : Int} {w : List Sy} (h : Run E t x w y) (hx : isNode E x) : isNode E y := by
  induction h with
  | nil => exact hx
  | fwd h1 _ _ ih => exact ih ⟨_, _, h1, .inr rfl⟩
  | bwd h1 _ _ ih => exact ih ⟨_, _, h1, .inl rfl⟩
theorem run_cut {E : Gr3} {h t x y : Int} {w : List Sy} (hr : Run E t x w y) (ht : h ≤ t) : Run (cutG E h) t x w y := by
  induction hr with
  | nil => exact .nil _
  | fwd h1 h2 _ ih => exact .fwd (cutG_some.2 ⟨h1, by omega⟩) h2 ih
  | bwd h1 h2 _ ih => exact .bwd (cutG_some.2 ⟨h1, by omega⟩) h2 ih
/-- a way turned -/
def backW (w : List Sy) : List Sy := (w.map fun a => (a.1, !a.2)).reverse
theorem run_back {E : Gr3} {t x y : Int} {w : List Sy} (h : Run E t x w y) : Run E t y (backW w) x := by
  induction h with
  | nil => exact .nil _
  | fwd h1 h2 _ ih =>
    have := run_trans ih (.bwd h1 h2 (.nil _))
    simpa [backW] using this
  | bwd h1 h2 _ ih =>
    have := run_trans ih (.fwd h1 h2 (.nil _))
    simpa [backW] using this
/-- a place is come to just if a word leads to its node and to its state -/
theorem der_run {mv : List Mv} {b : Nat} {E : Gr3} {x : Key} {t : Int} : Der (autoM mv b) E x t ↔ isNode E x.a ∧ t ≤ forever ∧ ∃ w, Run E t x.a w x.b ∧ ∃ i : Nat, x.c = (i : Int) ∧ Way mv b w i := by
  constructor
  · intro h
    induction h with
    | base hn hs hf =>
      obtain ⟨i, h1, h2⟩ := hs
      exact ⟨hn, hf, [], .nil _, i, h1, h2⟩
    | step hd hk hu hs ih =>
      rename_i x k y t u
      obtain ⟨h1, h2, w, h3, i, h4, h5⟩ := ih
      refine ⟨by rw [hs.1]; exact h1, h2, ?_⟩
      rcases hs.2 with ⟨h6, h7, i', j, h8, h9, d, h10, h11⟩ | ⟨h6, h7, i', j, h8, h9, d, h10, h11⟩
      · refine ⟨w ++ [(k.b, false)], ?_, j, h9, way_snoc.2 ⟨i, d, h5, ?_, h11⟩⟩
        · rw [hs.1, h7]
          refine run_trans h3 ?_
          rw [← h6]
          exact .fwd hk hu (.nil _)
        · have : i = i' := by omega
          rw [this]; exact h10
      · refine ⟨w ++ [(k.b, true)], ?_, j, h9, way_snoc.2 ⟨i, d, h5, ?_, h11⟩⟩
        · rw [hs.1, h7]
          refine run_trans h3 ?_
          rw [← h6]
          exact .bwd hk hu (.nil _)
        · have : i = i' := by omega
          rw [this]; exact h10
  · rintro ⟨h1, h2, w, h3, i, h4, h5⟩
    obtain ⟨xa, xb, xc⟩ := x
    simp only at *
    subst h4
    have key : ∀ (n : Nat) (w : List Sy) (y : Int) (i : Nat), w.length = n → Run E t xa w y → Way mv b w i → Der (autoM mv b) E ⟨xa, y, (i : Int)⟩ t := by
      intro n
      induction n with
      | zero =>
        intro w y i hw hr hwy
        have : w = [] := List.eq_nil_of_length_eq_zero hw
        subst this
        have := run_nil hr
        subst this
        exact .base h1 ⟨i, rfl, hwy⟩ h2
      | succ n ih =>
        intro w y i hw hr hwy
        obtain ⟨v, a, rfl⟩ : ∃ v a, w = v ++ [a] := by
          rcases List.eq_nil_or_concat w with h | ⟨v, a, h⟩
          · rw [h] at hw; simp at hw
          · exact ⟨v, a, by rw [h, List.concat_eq_append]⟩
        obtain ⟨z, h6, h7⟩ := run_split hr
        obtain ⟨d, e, h8, h9, h10⟩ := way_snoc.1 hwy
        have h11 := ih v z d (by simp at hw; exact hw) h6 h8
        obtain ⟨n', back⟩ := a
        obtain ⟨u, h12, h13⟩ := run_one.1 h7
        cases back
        · exact .step h11 h12 h13 ⟨rfl, .inl ⟨rfl, rfl, d, i, rfl, rfl, e, h9, h10⟩⟩
        · exact .step h11 h12 h13 ⟨rfl, .inr ⟨rfl, rfl, d, i, rfl, rfl, e, h9, h10⟩⟩
    exact key w.length w xb i rfl h3 h5
/-- a node is paired with another one, until a time at least -/
def Lead (L : List Sy → Prop) (E : Gr3) (x y t : Int) : Prop := isNode E x ∧ t ≤ forever ∧ ∃ w, L w ∧ Run E t x w y
theorem lead_le {L : List Sy → Prop} {E : Gr3} {x y t t' : Int} (h : Lead L E x y t) (ht : t' ≤ t) : Lead L E x y t' := by
  obtain ⟨h1, h2, w, h3, h4⟩ := h
  exact ⟨h1, Int.le_trans ht h2, w, h3, run_le h4 ht⟩
theorem lead_nodes {L : List Sy → Prop} {E : Gr3} {x y t : Int} (h : Lead L E x y t) : isNode E x ∧ isNode E y := by
  obtain ⟨h1, h2, w, h3, h4⟩ := h
  exact ⟨h1, run_node h4 h1⟩
theorem lead_mono {L : List Sy → Prop} {E E' : Gr3} (hE : leG E E') {x y t : Int} (h : Lead L E x y t) : Lead L E' x y t := by
  obtain ⟨h1, h2, w, h3, h4⟩ := h
  exact ⟨node_mono hE h1, h2, w, h3, run_mono hE h4⟩
/-- pairs, and how long each lasts -/
abbrev Prs := Two → Option Int
def IsPrs (L : List Sy → Prop) (E : Gr3) (p : Prs) : Prop := ∀ x y v, p ⟨x, y⟩ = some v ↔ Lead L E x y v ∧ ∀ t, Lead L E x y t → t ≤ v
theorem prs_of_fix {mv : List Mv} {b e : Nat} {E : Gr3} {f : Bst} {L : List Sy → Prop} (h : FixB (autoM mv b) E f) (hL : ∀ w, Way mv b w e ↔ L w) : IsPrs L E (fun p => f ⟨p.a, p.b, (e : Int)⟩) := fun x y v => by
  have hd : ∀ t, Der (autoM mv b) E ⟨x, y, (e : Int)⟩ t ↔ Lead L E x y t := fun t => by
    rw [der_run]
    unfold Lead
    constructor
    · rintro ⟨h1, h2, w, h3, i, h4, h5⟩
      have : i = e := by simp only at h4; omega
      subst this
      exact ⟨h1, h2, w, (hL w).1 h5, h3⟩
    · rintro ⟨h1, h2, w, h3, h4⟩
      exact ⟨h1, h2, w, h4, e, rfl, (hL w).2 h3⟩
  rw [fix_value h, hd]
  constructor
  · rintro ⟨h1, h2⟩; exact ⟨h1, fun t ht => h2 t ((hd t).2 ht)⟩
  · rintro ⟨h1, h2⟩; exact ⟨h1, fun t ht => h2 t ((hd t).1 ht)⟩
/-- if anything leads there at all, there is a pair: for as long as the best -/
theorem prs_some {mv : List Mv} {b e : Nat} {E : Gr3} {f : Bst} {L : List Sy → Prop} (h : FixB (autoM mv b) E f) (hL : ∀ w, Way mv b w e ↔ L w) {x y t : Int} (hd : Lead L E x y t) : ∃ v, f ⟨x, y, (e : Int)⟩ = some v ∧ t ≤ v := by
  have : Der (autoM mv b) E ⟨x, y, (e : Int)⟩ t := by
    rw [der_run]
    obtain ⟨h1, h2, w, h3, h4⟩ := hd
    exact ⟨h1, h2, w, h4, e, rfl, (hL w).2 h3⟩
  exact fix_complete h this
/-- pairs, with what there is of them -/
structure PrsOf (L : List Sy → Prop) (E : Gr3) (p : Prs) : Prop where
  is : IsPrs L E p
  some_ : ∀ x y t, Lead L E x y t → ∃ v, p ⟨x, y⟩ = some v ∧ t ≤ v
theorem prsOf_fix {mv : List Mv} {b e : Nat} {E : Gr3} {f : Bst} {L : List Sy → Prop} (h : FixB (autoM mv b) E f) (hL : ∀ w, Way mv b w e ↔ L w) : PrsOf L E (fun p => f ⟨p.a, p.b, (e : Int)⟩) := ⟨prs_of_fix h hL, fun _ _ _ hd => prs_some h hL hd⟩
theorem prsOf_le {L : List Sy → Prop} {E E' : Gr3} {p p' : Prs} (h : PrsOf L E p) (h' : PrsOf L E' p') (hE : leG E E') {x y v : Int} (hv : p ⟨x, y⟩ = some v) : ∃ v', p' ⟨x, y⟩ = some v' ∧ v ≤ v' := h'.some_ x y v (lead_mono hE ((h.is x y v).1 hv).1)
theorem prsOf_back {L L' : List Sy → Prop} {E : Gr3} {p p' : Prs} (h : PrsOf L E p) (h' : PrsOf L' E p') (hL : ∀ w, L w → L' (backW w)) (hL' : ∀ w, L' w → L (backW w)) (x y : Int) : p' ⟨y, x⟩ = p ⟨x, y⟩ := by
  have hl : ∀ t, Lead L E x y t ↔ Lead L' E y x t := fun t => by
    constructor
    · intro hd
      obtain ⟨h1, h2, w, h3, h4⟩ := hd
      exact ⟨run_node h4 h1, h2, backW w, hL w h3, run_back h4⟩
    · intro hd
      obtain ⟨h1, h2, w, h3, h4⟩ := hd
      exact ⟨run_node h4 h1, h2, backW w, hL' w h3, run_back h4⟩
  have hv : ∀ v, p' ⟨y, x⟩ = some v ↔ p ⟨x, y⟩ = some v := fun v => by
    rw [h'.is, h.is, hl]
    constructor
    · rintro ⟨h1, h2⟩; exact ⟨h1, fun t ht => h2 t ((hl t).1 ht)⟩
    · rintro ⟨h1, h2⟩; exact ⟨h1, fun t ht => h2 t ((hl t).2 ht)⟩
  exact Option.ext hv
end Go.Proofs.Ytiabmdboacpmcaa
