/- Texts joined: Dc De. -/
import Derived.Test.YtiabmdboacpmcaaY10
import Derived.Test.YtiabmdboacpmcaaY01
/- Plain: who is come to is whom a word of the path leads to. -/
namespace Go.Proofs.Ytiabmdboacpmcaa
open Go

theorem way_snoc {E : List Mv} {a : Sy} {b s : Nat} {w : List Sy} : Way E b (w ++ [a]) s ↔ ∃ d e, Way E b w d ∧ (d, some a, e) ∈ E ∧ Way E e [] s := by
  constructor
  · intro h
    obtain ⟨u, hu⟩ : ∃ u, u = w ++ [a] := ⟨_, rfl⟩
    rw [← hu] at h
    induction h generalizing w with
    | nil s => simp at hu
    | free hm _ ih =>
      obtain ⟨d, e, h1, h2, h3⟩ := ih hu
      exact ⟨d, e, .free hm h1, h2, h3⟩
    | sym hm h4 ih =>
      rename_i s0 d0 e0 a0 w0
      cases w with
      | nil =>
        simp only [List.nil_append, List.cons.injEq] at hu
        obtain ⟨rfl, rfl⟩ := hu
        exact ⟨s0, d0, .nil _, hm, h4⟩
      | cons x r =>
        simp only [List.cons_append, List.cons.injEq] at hu
        obtain ⟨rfl, rfl⟩ := hu
        obtain ⟨d, e, h1, h2, h3⟩ := ih rfl
        exact ⟨d, e, .sym hm h1, h2, h3⟩
  · rintro ⟨d, e, h1, h2, h3⟩
    have := h1.trans (.sym h2 h3)
    simpa using this
/-- a machine as it leads -/
def autoM (mv : List Mv) (b : Nat) : Auto where
  step s n back s' := ∃ i j : Nat, s = (i : Int) ∧ s' = (j : Int) ∧ ∃ d, (i, some (n, back), d) ∈ mv ∧ Way mv d [] j
  begin' s := ∃ i : Nat, s = (i : Int) ∧ Way mv b [] i
/-- ways along edges that last until a time at least -/
inductive Run (E : Gr3) (t : Int) : Int → List Sy → Int → Prop
  | nil (x : Int) : Run E t x [] x
  | fwd {k : Key} {u : Int} {w : List Sy} {y : Int} : E k = some u → t ≤ u → Run E t k.c w y → Run E t k.a ((k.b, false) :: w) y
  | bwd {k : Key} {u : Int} {w : List Sy} {y : Int} : E k = some u → t ≤ u → Run E t k.a w y → Run E t k.c ((k.b, true) :: w) y
theorem run_trans {E : Gr3} {t x y z : Int} {v w : List Sy} (h : Run E t x v y) (k : Run E t y w z) : Run E t x (v ++ w) z := by
  induction h with
  | nil => exact k
  | fwd h1 h2 _ ih => exact .fwd h1 h2 (ih k)
  | bwd h1 h2 _ ih => exact .bwd h1 h2 (ih k)
theorem run_split {E : Gr3} {t x z : Int} {v w : List Sy} (h : Run E t x (v ++ w) z) : ∃ y, Run E t x v y ∧ Run E t y w z := by
  induction v generalizing x with
  | nil => exact ⟨x, .nil x, h⟩
  | cons a v ih =>
    rw [List.cons_append] at h
    cases h with
    | fwd h1 h2 h3 =>
      obtain ⟨y, h4, h5⟩ := ih h3
      exact ⟨y, .fwd h1 h2 h4, h5⟩
    | bwd h1 h2 h3 =>
      obtain ⟨y, h4, h5⟩ := ih h3
      exact ⟨y, .bwd h1 h2 h4, h5⟩
theorem run_nil {E : Gr3} {t x y : Int} (h : Run E t x [] y) : x = y := by cases h; rfl
theorem run_one {E : Gr3} {t x y n : Int} {back : Bool} : Run E t x [(n, back)] y ↔ ∃ u, (if back then E ⟨y, n, x⟩ = some u else E ⟨x, n, y⟩ = some u) ∧ t ≤ u := by
  constructor
  · intro h
    cases h with
    | fwd h1 h2 h3 =>
      have := run_nil h3
      subst this
      exact ⟨_, h1, h2⟩
    | bwd h1 h2 h3 =>
      have := run_nil h3
      subst this
      exact ⟨_, h1, h2⟩
  · rintro ⟨u, h1, h2⟩
    cases back
    · exact .fwd (k := ⟨x, n, y⟩) h1 h2 (.nil _)
    · exact .bwd (k := ⟨y, n, x⟩) h1 h2 (.nil _)
theorem run_le {E : Gr3} {t t' x y : Int} {w : List Sy} (h : Run E t x w y) (ht : t' ≤ t) : Run E t' x w y := by
  induction h with
  | nil => exact .nil _
  | fwd h1 h2 _ ih => exact .fwd h1 (Int.le_trans ht h2) ih
  | bwd h1 h2 _ ih => exact .bwd h1 (Int.le_trans ht h2) ih
theorem run_mono {E E' : Gr3} (hE : leG E E') {t x y : Int} {w : List Sy} (h : Run E t x w y) : Run E' t x w y := by
  induction h with
  | nil => exact .nil _
  | fwd h1 h2 _ ih =>
    obtain ⟨u', h3, h4⟩ := hE _ _ h1
    exact .fwd h3 (Int.le_trans h2 h4) ih
  | bwd h1 h2 _ ih =>
    obtain ⟨u', h3, h4⟩ := hE _ _ h1
    exact .bwd h3 (Int.le_trans h2 h4) ih
theorem run_node {E : Gr3} {t x y : Int} {w : List Sy} (h : Run E t x w y) (hx : isNode E x) : isNode E y := by
  induction h with
  | nil => exact hx
  | fwd h1 _ _ ih => exact ih ⟨_, _, h1, .inr rfl⟩
  | bwd h1 _ _ ih => exact ih ⟨_, _, h1, .inl rfl⟩
theorem run_cut {E : Gr3} {h t x y : Int} {w : List Sy} (hr : Run E t x w y) (ht : h ≤ t) : Run (cutG E h) t x w y := by
  induction hr with
  | nil => exact .nil _
  | fwd h1 h2 _ ih => exact .fwd (cutG_some.2 ⟨h1, by omega⟩) h2 ih
  | bwd h1 h2 _ ih => exact .bwd (cutG_some.2 ⟨h1, by omega⟩) h2 ih
/-- a way turned -/
def backW (w : List Sy) : List Sy := (w.map fun a => (a.1, !a.2)).reverse
theorem run_back {E : Gr3} {t x y : Int} {w : List Sy} (h : Run E t x w y) : Run E t y (backW w) x := by
  induction h with
  | nil => exact .nil _
  | fwd h1 h2 _ ih =>
    have := run_trans ih (.bwd h1 h2 (.nil _))
    simpa [backW] using this
  | bwd h1 h2 _ ih =>
    have := run_trans ih (.fwd h1 h2 (.nil _))
    simpa [backW] using this
/-- a place is come to just if a word leads to its node and to its state -/
theorem der_run {mv : List Mv} {b : Nat} {E : Gr3} {x : Key} {t : Int} : Der (autoM mv b) E x t ↔ isNode E x.a ∧ t ≤ forever ∧ ∃ w, Run E t x.a w x.b ∧ ∃ i : Nat, x.c = (i : Int) ∧ Way mv b w i := by
  constructor
  · intro h
    induction h with
    | base hn hs hf =>
      obtain ⟨i, h1, h2⟩ := hs
      exact ⟨hn, hf, [], .nil _, i, h1, h2⟩
    | step hd hk hu hs ih =>
      rename_i x k y t u
      obtain ⟨h1, h2, w, h3, i, h4, h5⟩ := ih
      refine ⟨by rw [hs.1]; exact h1, h2, ?_⟩
      rcases hs.2 with ⟨h6, h7, i', j, h8, h9, d, h10, h11⟩ | ⟨h6, h7, i', j, h8, h9, d, h10, h11⟩
      · refine ⟨w ++ [(k.b, false)], ?_, j, h9, way_snoc.2 ⟨i, d, h5, ?_, h11⟩⟩
        · rw [hs.1, h7]
          refine run_trans h3 ?_
          rw [← h6]
          exact .fwd hk hu (.nil _)
        · have : i = i' := by omega
          rw [this]; exact h10
      · refine ⟨w ++ [(k.b, true)], ?_, j, h9, way_snoc.2 ⟨i, d, h5, ?_, h11⟩⟩
        · rw [hs.1, h7]
          refine run_trans h3 ?_
          rw [← h6]
          exact .bwd hk hu (.nil _)
        · have : i = i' := by omega
          rw [this]; exact h10
  · rintro ⟨h1, h2, w, h3, i, h4, h5⟩
    obtain ⟨xa, xb, xc⟩ := x
    simp only at *
    subst h4
    have key : ∀ (n : Nat) (w : List Sy) (y : Int) (i : Nat), w.length = n → Run E t xa w y → Way mv b w i → Der (autoM mv b) E ⟨xa, y, (i : Int)⟩ t := by
      intro n
      induction n with
      | zero =>
        intro w y i hw hr hwy
        have : w = [] := List.eq_nil_of_length_eq_zero hw
        subst this
        have := run_nil hr
        subst this
        exact .base h1 ⟨i, rfl, hwy⟩ h2
      | succ n ih =>
        intro w y i hw hr hwy
        obtain ⟨v, a, rfl⟩ : ∃ v a, w = v ++ [a] := by
          rcases List.eq_nil_or_concat w with h | ⟨v, a, h⟩
          · rw [h] at hw; simp at hw
          · exact ⟨v, a, by rw [h, List.concat_eq_append]⟩
        obtain ⟨z, h6, h7⟩ := run_split hr
        obtain ⟨d, e, h8, h9, h10⟩ := way_snoc.1 hwy
        have h11 := ih v z d (by simp at hw; exact hw) h6 h8
        obtain ⟨n', back⟩ := a
        obtain ⟨u, h12, h13⟩ := run_one.1 h7
        cases back
        · exact .step h11 h12 h13 ⟨rfl, .inl ⟨rfl, rfl, d, i, rfl, rfl, e, h9, h10⟩⟩
        · exact .step h11 h12 h13 ⟨rfl, .inr ⟨rfl, rfl, d, i, rfl, rfl, e, h9, h10⟩⟩
    exact key w.length w xb i rfl h3 h5
/-- a node is paired with another one, until a time at least -/
def Lead (L : List Sy → Prop) (E : Gr3) (x y t : Int) : Prop := isNode E x ∧ t ≤ forever ∧ ∃ w, L w ∧ Run E t x w y
theorem lead_le {L : List Sy → Prop} {E : Gr3} {x y t t' : Int} (h : Lead L E x y t) (ht : t' ≤ t) : Lead L E x y t' := by
  obtain ⟨h1, h2, w, h3, h4⟩ := h
  exact ⟨h1, Int.le_trans ht h2, w, h3, run_le h4 ht⟩
theorem lead_nodes {L : List Sy → Prop} {E : Gr3} {x y t : Int} (h : Lead L E x y t) : isNode E x ∧ isNode E y := by
  obtain ⟨h1, h2, w, h3, h4⟩ := h
  exact ⟨h1, run_node h4 h1⟩
theorem lead_mono {L : List Sy → Prop} {E E' : Gr3} (hE : leG E E') {x y t : Int} (h : Lead L E x y t) : Lead L E' x y t := by
  obtain ⟨h1, h2, w, h3, h4⟩ := h
  exact ⟨node_mono hE h1, h2, w, h3, run_mono hE h4⟩
/-- pairs, and how long each lasts -/
abbrev Prs := Two → Option Int
def IsPrs (L : List Sy → Prop) (E : Gr3) (p : Prs) : Prop := ∀ x y v, p ⟨x, y⟩ = some v ↔ Lead L E x y v ∧ ∀ t, Lead L E x y t → t ≤ v
theorem prs_of_fix {mv : List Mv} {b e : Nat} {E : Gr3} {f : Bst} {L : List Sy → Prop} (h : FixB (autoM mv b) E f) (hL : ∀ w, Way mv b w e ↔ L w) : IsPrs L E (fun p => f ⟨p.a, p.b, (e : Int)⟩) := fun x y v => by
  have hd : ∀ t, Der (autoM mv b) E ⟨x, y, (e : Int)⟩ t ↔ Lead L E x y t := fun t => by
    rw [der_run]
    unfold Lead
    constructor
    · rintro ⟨h1, h2, w, h3, i, h4, h5⟩
      have : i = e := by simp only at h4; omega
      subst this
      exact ⟨h1, h2, w, (hL w).1 h5, h3⟩
    · rintro ⟨h1, h2, w, h3, h4⟩
      exact ⟨h1, h2, w, h4, e, rfl, (hL w).2 h3⟩
  rw [fix_value h, hd]
  constructor
  · rintro ⟨h1, h2⟩; exact ⟨h1, fun t ht => h2 t ((hd t).2 ht)⟩
  · rintro ⟨h1, h2⟩; exact ⟨h1, fun t ht => h2 t ((hd t).1 ht)⟩
/-- if anything leads there at all, there is a pair: for as long as the best -/
theorem prs_some {mv : List Mv} {b e : Nat} {E : Gr3} {f : Bst} {L : List Sy → Prop} (h : FixB (autoM mv b) E f) (hL : ∀ w, Way mv b w e ↔ L w) {x y t : Int} (hd : Lead L E x y t) : ∃ v, f ⟨x, y, (e : Int)⟩ = some v ∧ t ≤ v := by
  have : Der (autoM mv b) E ⟨x, y, (e : Int)⟩ t := by
    rw [der_run]
    obtain ⟨h1, h2, w, h3, h4⟩ := hd
    exact ⟨h1, h2, w, h4, e, rfl, (hL w).2 h3⟩
  exact fix_complete h this
/-- pairs, with what there is of them -/
structure PrsOf (L : List Sy → Prop) (E : Gr3) (p : Prs) : Prop where
  is : IsPrs L E p
  some_ : ∀ x y t, Lead L E x y t → ∃ v, p ⟨x, y⟩ = some v ∧ t ≤ v
theorem prsOf_fix {mv : List Mv} {b e : Nat} {E : Gr3} {f : Bst} {L : List Sy → Prop} (h : FixB (autoM mv b) E f) (hL : ∀ w, Way mv b w e ↔ L w) : PrsOf L E (fun p => f ⟨p.a, p.b, (e : Int)⟩) := ⟨prs_of_fix h hL, fun _ _ _ hd => prs_some h hL hd⟩
theorem prsOf_le {L : List Sy → Prop} {E E' : Gr3} {p p' : Prs} (h : PrsOf L E p) (h' : PrsOf L E' p') (hE : leG E E') {x y v : Int} (hv : p ⟨x, y⟩ = some v) : ∃ v', p' ⟨x, y⟩ = some v' ∧ v ≤ v' := h'.some_ x y v (lead_mono hE ((h.is x y v).1 hv).1)
theorem prsOf_back {L L' : List Sy → Prop} {E : Gr3} {p p' : Prs} (h : PrsOf L E p) (h' : PrsOf L' E p') (hL : ∀ w, L w → L' (backW w)) (hL' : ∀ w, L' w → L (backW w)) (x y : Int) : p' ⟨y, x⟩ = p ⟨x, y⟩ := by
  have hl : ∀ t, Lead L E x y t ↔ Lead L' E y x t := fun t => by
    constructor
    · intro hd
      obtain ⟨h1, h2, w, h3, h4⟩ := hd
      exact ⟨run_node h4 h1, h2, backW w, hL w h3, run_back h4⟩
    · intro hd
      obtain ⟨h1, h2, w, h3, h4⟩ := hd
      exact ⟨run_node h4 h1, h2, backW w, hL' w h3, run_back h4⟩
  have hv : ∀ v, p' ⟨y, x⟩ = some v ↔ p ⟨x, y⟩ = some v := fun v => by
    rw [h'.is, h.is, hl]
    constructor
    · rintro ⟨h1, h2⟩; exact ⟨h1, fun t ht => h2 t ((hl t).1 ht)⟩
    · rintro ⟨h1, h2⟩; exact ⟨h1, fun t ht => h2 t ((hl t).2 ht)⟩
  exact Option.ext hv
end Go.Proofs.Ytiabmdboacpmcaa
/- Plain: the document's way: for each part of a path how long each node leads to each other one. -/
namespace Go.Proofs.Ytiabmdboacpmcaa
open Go

abbrev Mx := Nat → Nat → Option Int
/-- the one that lasts longer -/
def betO (a b : Option Int) : Option Int := match a, b with
  | none, b => b
  | some x, none => some x
  | some x, some y => if x < y then some y else some x
/-- both, one behind the other -/
def minO (a b : Option Int) : Option Int := match a, b with
  | some x, some y => some (if y < x then y else x)
  | _, _ => none
theorem betO_sound {a b : Option Int} {v : Int} (h : betO a b = some v) : a = some v ∨ b = some v := by
  cases a <;> cases b <;> simp only [betO] at h
  · cases h
  · exact .inr h
  · exact .inl h
  · split at h
    · exact .inr h
    · exact .inl h
theorem betO_left {a b : Option Int} {t : Int} (h : geO a t) : geO (betO a b) t := by
  obtain ⟨v, rfl, h2⟩ := h
  cases b with
  | none => exact ⟨v, rfl, h2⟩
  | some y =>
    by_cases hv : v < y
    · exact ⟨y, by simp [betO, hv], by omega⟩
    · exact ⟨v, by simp [betO, hv], h2⟩
theorem betO_right {a b : Option Int} {t : Int} (h : geO b t) : geO (betO a b) t := by
  obtain ⟨v, rfl, h2⟩ := h
  cases a with
  | none => exact ⟨v, rfl, h2⟩
  | some y =>
    by_cases hv : y < v
    · exact ⟨v, by simp [betO, hv], h2⟩
    · exact ⟨y, by simp [betO, hv], by omega⟩
theorem minO_some {a b : Option Int} {v : Int} (h : minO a b = some v) : ∃ x y, a = some x ∧ b = some y ∧ v ≤ x ∧ v ≤ y ∧ (v = x ∨ v = y) := by
  cases a <;> cases b <;> simp only [minO] at h
  · cases h
  · cases h
  · cases h
  · rename_i x y
    refine ⟨x, y, rfl, rfl, ?_⟩
    simp only [Option.some.injEq] at h
    split at h <;> omega
theorem minO_ge {a b : Option Int} {t : Int} (h : geO a t) (k : geO b t) : geO (minO a b) t := by
  obtain ⟨x, rfl, h2⟩ := h
  obtain ⟨y, rfl, h4⟩ := k
  refine ⟨_, rfl, ?_⟩
  split <;> omega
def foldO {α : Type} (f : α → Option Int) : List α → Option Int → Option Int
  | [], c => c
  | x :: l, c => foldO f l (betO c (f x))
theorem foldO_snoc {α : Type} (f : α → Option Int) : ∀ (l : List α) (x : α) (c : Option Int), foldO f (l ++ [x]) c = betO (foldO f l c) (f x)
  | [], _, _ => rfl
  | y :: l, x, c => foldO_snoc f l x _
theorem foldO_sound {α : Type} {f : α → Option Int} : ∀ {l : List α} {c : Option Int} {v : Int}, foldO f l c = some v → c = some v ∨ ∃ x ∈ l, f x = some v
  | [], _, _, h => .inl h
  | x :: l, c, v, h => by
    rcases foldO_sound (l := l) h with h1 | ⟨y, hy, h1⟩
    · rcases betO_sound h1 with h2 | h2
      · exact .inl h2
      · exact .inr ⟨x, List.mem_cons_self .., h2⟩
    · exact .inr ⟨y, List.mem_cons_of_mem _ hy, h1⟩
theorem foldO_acc {α : Type} {f : α → Option Int} {t : Int} : ∀ {l : List α} {c : Option Int}, geO c t → geO (foldO f l c) t
  | [], _, h => h
  | x :: l, c, h => foldO_acc (l := l) (betO_left h)
theorem foldO_ge {α : Type} {f : α → Option Int} {t : Int} : ∀ {l : List α} {c : Option Int} {x : α}, x ∈ l → geO (f x) t → geO (foldO f l c) t
  | y :: l, c, x, hx, h => by
    rcases List.mem_cons.1 hx with rfl | hx
    · exact foldO_acc (l := l) (betO_right h)
    · exact foldO_ge (l := l) hx h
/-- a matrix tells who is paired with whom -/
def MatOf (L : List Sy → Prop) (E : Gr3) (Ns : List Int) (m : Mx) : Prop := ∀ i j x y, Ns[i]? = some x → Ns[j]? = some y → (∀ v, m i j = some v → Lead L E x y v) ∧ ∀ t, Lead L E x y t → geO (m i j) t
/-- the nodes of edges, each once -/
structure NodesOf (E : Gr3) (Ns : List Int) : Prop where
  nodup : Ns.Nodup
  mem : ∀ x, x ∈ Ns ↔ isNode E x
def bothM (n : Nat) (a b : Mx) : Mx := fun i j => foldO (fun k => minO (a i k) (b k j)) (List.range n) none
def eithM (a b : Mx) : Mx := fun i j => betO (a i j) (b i j)
def selfM : Mx := fun i j => if i = j then some forever else none
def noneM : Mx := fun _ _ => none
def behind (L M : List Sy → Prop) : List Sy → Prop := fun w => ∃ u v, w = u ++ v ∧ L u ∧ M v
theorem mat_congr {L M : List Sy → Prop} {E : Gr3} {Ns : List Int} {m : Mx} (h : MatOf L E Ns m) (hL : ∀ w, L w ↔ M w) : MatOf M E Ns m := by
  have : L = M := funext fun w => propext (hL w)
  rwa [← this]
theorem mat_both {L M : List Sy → Prop} {E : Gr3} {Ns : List Int} {a b : Mx} (hN : NodesOf E Ns) (h : MatOf L E Ns a) (k : MatOf M E Ns b) : MatOf (behind L M) E Ns (bothM Ns.length a b) := fun i j x y hi hj => by
  refine ⟨fun v hv => ?_, fun t ht => ?_⟩
  · rcases foldO_sound hv with h1 | ⟨c, hc, h1⟩
    · cases h1
    · obtain ⟨p, q, h2, h3, h4, h5, _⟩ := minO_some h1
      obtain ⟨z, hz⟩ : ∃ z, Ns[c]? = some z := ⟨_, List.getElem?_eq_getElem (List.mem_range.1 hc)⟩
      obtain ⟨l1, l2, u, l3, l4⟩ := (h i c x z hi hz).1 p h2
      obtain ⟨_, _, v', k3, k4⟩ := (k c j z y hz hj).1 q h3
      exact ⟨l1, by omega, u ++ v', ⟨u, v', rfl, l3, k3⟩, run_trans (run_le l4 h4) (run_le k4 h5)⟩
  · obtain ⟨l1, l2, w, ⟨u, v', rfl, l3, l4⟩, l5⟩ := ht
    obtain ⟨z, r1, r2⟩ := run_split l5
    have hz := run_node r1 l1
    obtain ⟨c, hc⟩ := List.getElem?_of_mem ((hN.mem z).2 hz)
    exact foldO_ge (x := c) (List.mem_range.2 (List.getElem?_eq_some_iff.1 hc).1) (minO_ge ((h i c x z hi hc).2 t ⟨l1, l2, u, l3, r1⟩) ((k c j z y hc hj).2 t ⟨hz, l2, v', l4, r2⟩))
theorem mat_eith {L M : List Sy → Prop} {E : Gr3} {Ns : List Int} {a b : Mx} (h : MatOf L E Ns a) (k : MatOf M E Ns b) : MatOf (fun w => L w ∨ M w) E Ns (eithM a b) := fun i j x y hi hj => by
  refine ⟨fun v hv => ?_, fun t ht => ?_⟩
  · rcases betO_sound hv with h1 | h1
    · obtain ⟨l1, l2, u, l3, l4⟩ := (h i j x y hi hj).1 v h1
      exact ⟨l1, l2, u, .inl l3, l4⟩
    · obtain ⟨l1, l2, u, l3, l4⟩ := (k i j x y hi hj).1 v h1
      exact ⟨l1, l2, u, .inr l3, l4⟩
  · obtain ⟨l1, l2, u, l3 | l3, l4⟩ := ht
    · exact betO_left ((h i j x y hi hj).2 t ⟨l1, l2, u, l3, l4⟩)
    · exact betO_right ((k i j x y hi hj).2 t ⟨l1, l2, u, l3, l4⟩)
theorem nodup_at {l : List Int} (h : l.Nodup) {i j : Nat} {x : Int} (hi : l[i]? = some x) (hj : l[j]? = some x) : i = j := by
  have hi' := List.getElem?_eq_some_iff.1 hi
  have hj' := List.getElem?_eq_some_iff.1 hj
  refine Classical.byContradiction fun hne => ?_
  rcases Nat.lt_or_gt_of_ne hne with hlt | hlt
  · exact List.pairwise_iff_getElem.1 h i j hi'.1 hj'.1 hlt (hi'.2.trans hj'.2.symm)
  · exact List.pairwise_iff_getElem.1 h j i hj'.1 hi'.1 hlt (hj'.2.trans hi'.2.symm)
theorem mat_self {E : Gr3} {Ns : List Int} (hN : NodesOf E Ns) : MatOf (fun w => w = []) E Ns selfM := fun i j x y hi hj => by
  refine ⟨fun v hv => ?_, fun t ht => ?_⟩
  · unfold selfM at hv
    split at hv
    · rename_i e
      subst e
      rw [hi] at hj
      cases hj
      cases hv
      exact ⟨(hN.mem x).1 (List.mem_of_getElem? hi), Int.le_refl _, [], rfl, .nil _⟩
    · cases hv
  · obtain ⟨l1, l2, u, rfl, l4⟩ := ht
    have := run_nil l4
    subst this
    have hij : i = j := by
      exact nodup_at hN.nodup hi hj
    subst hij
    exact ⟨forever, by simp [selfM], l2⟩
theorem mat_none {E : Gr3} {Ns : List Int} : MatOf (fun _ => False) E Ns noneM := fun i j x y _ _ => ⟨(fun v hv => by cases hv), (fun t ht => by obtain ⟨_, _, _, h, _⟩ := ht; exact h.elim)⟩
/-- once or more -/
def moreL (L : List Sy → Prop) : List Sy → Prop := behind L (StarL L)
/-- where nothing more comes, all is there -/
theorem mat_more {L : List Sy → Prop} {E : Gr3} {Ns : List Int} {one out : Mx} (hN : NodesOf E Ns) (h1 : MatOf L E Ns one) (hs : ∀ i j x y, Ns[i]? = some x → Ns[j]? = some y → ∀ v, out i j = some v → Lead (moreL L) E x y v)
    (hone : ∀ i j, leO (one i j) (out i j)) (hsame : ∀ i j, i < Ns.length → j < Ns.length → eithM out (bothM Ns.length out one) i j = out i j) : MatOf (moreL L) E Ns out := fun i j x y hi hj => by
  refine ⟨hs i j x y hi hj, fun t ht => ?_⟩
  obtain ⟨l1, l2, w, ⟨u, v, rfl, l3, l4⟩, l5⟩ := ht
  obtain ⟨z, r1, r2⟩ := run_split l5
  have hz := run_node r1 l1
  obtain ⟨c, hc⟩ := List.getElem?_of_mem ((hN.mem z).2 hz)
  have hg := geO_le ((h1 i c x z hi hc).2 t ⟨l1, l2, u, l3, r1⟩) (hone i c)
  clear l5 l3 r1
  induction l4 generalizing z c with
  | nil =>
    have := run_nil r2
    subst this
    have hcj : c = j := by
      exact nodup_at hN.nodup hc hj
    rw [← hcj]
    exact hg
  | cons hu _ ih =>
    obtain ⟨z', r3, r4⟩ := run_split r2
    have hz' := run_node r3 hz
    obtain ⟨c', hc'⟩ := List.getElem?_of_mem ((hN.mem z').2 hz')
    refine ih z' r4 hz' c' hc' ?_
    rw [← hsame i c' (List.getElem?_eq_some_iff.1 hi).1 (List.getElem?_eq_some_iff.1 hc').1]
    exact betO_right (foldO_ge (x := c) (List.mem_range.2 (List.getElem?_eq_some_iff.1 hc).1) (minO_ge hg ((h1 c c' z z' hc hc').2 t ⟨hz, l2, _, hu, r3⟩)))
theorem star_append {L : List Sy → Prop} {u v : List Sy} (h : StarL L u) (k : StarL L v) : StarL L (u ++ v) := by
  induction h with
  | nil => exact k
  | cons h1 _ ih => rw [List.append_assoc]; exact .cons h1 ih
/-- one round more stays right -/
theorem more_round {L : List Sy → Prop} {E : Gr3} {Ns : List Int} {one out : Mx} (h1 : MatOf L E Ns one) (hs : ∀ i j x y, Ns[i]? = some x → Ns[j]? = some y → ∀ v, out i j = some v → Lead (moreL L) E x y v) :
    ∀ i j x y, Ns[i]? = some x → Ns[j]? = some y → ∀ v, eithM out (bothM Ns.length out one) i j = some v → Lead (moreL L) E x y v := fun i j x y hi hj v hv => by
  rcases betO_sound hv with h2 | h2
  · exact hs i j x y hi hj v h2
  · rcases foldO_sound h2 with h3 | ⟨c, hc, h3⟩
    · cases h3
    · obtain ⟨p, q, h4, h5, h6, h7, _⟩ := minO_some h3
      obtain ⟨z, hz⟩ : ∃ z, Ns[c]? = some z := ⟨_, List.getElem?_eq_getElem (List.mem_range.1 hc)⟩
      obtain ⟨l1, l2, w, ⟨u, u', rfl, l3, l3'⟩, l4⟩ := hs i c x z hi hz p h4
      obtain ⟨_, _, v', k3, k4⟩ := (h1 c j z y hz hj).1 q h5
      refine ⟨l1, by omega, u ++ u' ++ v', ⟨u, u' ++ v', by rw [List.append_assoc], l3, star_append l3' ?_⟩, run_trans (run_le l4 h6) (run_le k4 h7)⟩
      have := StarL.cons k3 (StarL.nil (A := L))
      rwa [List.append_nil] at this
theorem more_grows (n : Nat) (one out : Mx) (i j : Nat) : leO (out i j) (eithM out (bothM n out one) i j) := fun v hv => betO_left ⟨v, hv, Int.le_refl _⟩
end Go.Proofs.Ytiabmdboacpmcaa
