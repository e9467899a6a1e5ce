/- Minus, Same: plain. -/
import Derived.Test.YtniggdaakiofeaaDoorDt
import Derived.Test.YtniggdaakiofeaaDoorGm
import Derived.Test.YtniggdaakiofeaaDoorTh
namespace Go.Proofs.YtniggdaakiofeaaDoor
open Go Go.RowKit Go.Sort
/- of this seat alone: 80 -/

/-- does a row stay that goes as often as it stands in some others -/
def okM (S R : List (List Int)) (i : Nat) : Bool := decide (S.count (R.getD i []) ≤ (R.take i).count (R.getD i []))
def minusN (U V : List ByteArray) (R S : List (List Int)) : List (List Int) := keepN (okM (if U = V then S else []) R) R R.length
theorem keepN_nil {okf : Nat → Bool} {R : List (List Int)} : ∀ {j : Nat}, keepN okf R j = [] ↔ ∀ i, i < j → okf i = false
  | 0 => by simp [keepN]
  | j + 1 => by
    rw [keepN]
    have ih := keepN_nil (okf := okf) (R := R) (j := j)
    by_cases h : okf j = true
    · rw [if_pos h]
      constructor
      · intro e
        simp at e
      · intro e
        have := e j (Nat.lt_succ_self _)
        rw [h] at this; cases this
    · rw [if_neg h, ih]
      constructor
      · intro e i hi
        rcases Nat.lt_or_ge i j with h1 | h1
        · exact e i h1
        · obtain rfl : i = j := by omega
          simpa using h
      · exact fun e i hi => e i (by omega)
theorem count_take_le (R : List (List Int)) (i : Nat) (x : List Int) : (R.take i).count x ≤ R.count x := by
  have := List.count_append (a := x) (l₁ := R.take i) (l₂ := R.drop i)
  rw [List.take_append_drop] at this
  omega
theorem count_take_next {R : List (List Int)} {i : Nat} {x y : List Int} (h : R[i]? = some y) : (R.take (i + 1)).count x = (R.take i).count x + if y = x then 1 else 0 := by
  rw [List.take_add_one, h, Option.toList_some, List.count_append, List.count_singleton]
  congr 1
  simp
/-- all go just if each stands at least as often among the others -/
theorem minus_nil {R S : List (List Int)} : keepN (okM S R) R R.length = [] ↔ ∀ x, R.count x ≤ S.count x := by
  rw [keepN_nil]
  constructor
  · intro h x
    -- the last place of x
    have key : ∀ n, n ≤ R.length → (R.take n).count x ≤ S.count x := by
      intro n
      induction n with
      | zero => simp
      | succ n ih =>
        intro hn
        obtain ⟨y, hy⟩ : ∃ y, R[n]? = some y := ⟨_, List.getElem?_eq_getElem (by omega)⟩
        rw [count_take_next hy]
        split
        · rename_i e
          subst e
          have := h n (by omega)
          simp only [okM, decide_eq_false_iff_not, List.getD_eq_getElem?_getD, hy, Option.getD_some] at this
          omega
        · have := ih (by omega)
          omega
    have := key R.length (Nat.le_refl _)
    rwa [List.take_length] at this
  · intro h i hi
    obtain ⟨y, hy⟩ : ∃ y, R[i]? = some y := ⟨_, List.getElem?_eq_getElem hi⟩
    simp only [okM, decide_eq_false_iff_not, List.getD_eq_getElem?_getD, hy, Option.getD_some]
    have h1 := h y
    have h2 := count_take_next (x := y) hy
    rw [if_pos rfl] at h2
    have h3 := count_take_le R (i + 1) y
    omega
theorem perm_of_le : ∀ {R S : List (List Int)}, R.length = S.length → (∀ x, R.count x ≤ S.count x) → R.Perm S
  | [], S, hl, _ => by
    have : S = [] := List.eq_nil_of_length_eq_zero hl.symm
    rw [this]
  | x :: R, S, hl, h => by
    have hx : x ∈ S := List.count_pos_iff.1 (by have := h x; rw [List.count_cons_self] at this; omega)
    have hp := List.perm_cons_erase hx
    have hl2 := hp.length_eq
    refine (List.Perm.cons x (perm_of_le (R := R) (S := S.erase x) (by simp at hl hl2; omega) (fun z => ?_))).trans hp.symm
    have h1 := h z
    have h2 := hp.count_eq z
    rw [List.count_cons] at h1 h2
    omega
def sameB (U V : List ByteArray) (R S : List (List Int)) : Bool := decide (U = V) && (decide (R.length = S.length) && decide ((minusN U V R S).length = 0))
theorem same_iff {U V : List ByteArray} {R S : List (List Int)} : sameB U V R S = true ↔ U = V ∧ R.Perm S := by
  simp only [sameB, Bool.and_eq_true, decide_eq_true_eq]
  constructor
  · rintro ⟨h1, h2, h3⟩
    refine ⟨h1, perm_of_le h2 ?_⟩
    unfold minusN at h3
    rw [if_pos h1] at h3
    exact minus_nil.1 (List.eq_nil_of_length_eq_zero h3)
  · rintro ⟨h1, h2⟩
    refine ⟨h1, h2.length_eq, ?_⟩
    unfold minusN
    rw [if_pos h1, minus_nil.2 (fun x => Nat.le_of_eq (h2.count_eq x))]
    rfl
/-- what the map tells of a name, on the way -/
def cntN (R : List (List Int)) (s : ByteArray) : Nat := R.countP fun x => decide (nameS x = s)
def leftF (S R : List (List Int)) (i : Nat) (s : ByteArray) : Int := (cntN S s : Int) - (cntN (R.take i) s : Int)
theorem count_names {R : List (List Int)} {x : List Int} (hR : ∀ y ∈ R, TinyR y) (hx : TinyR x) : cntN R (nameS x) = R.count x := by
  unfold cntN List.count
  refine List.countP_congr (fun y hy => ?_)
  by_cases e : y = x
  · rw [e]; simp
  · have : nameS y ≠ nameS x := fun h => e (nameS_inj (hR y hy) hx h)
    simp [e, this]
theorem cntN_next {R : List (List Int)} {i : Nat} {y : List Int} (h : R[i]? = some y) (s : ByteArray) : cntN (R.take (i + 1)) s = cntN (R.take i) s + if nameS y = s then 1 else 0 := by
  unfold cntN
  rw [List.take_add_one, h, Option.toList_some, List.countP_append, List.countP_singleton]
  simp
theorem cntN_le (R : List (List Int)) (s : ByteArray) : cntN R s ≤ R.length := List.countP_le_length
end Go.Proofs.YtniggdaakiofeaaDoor
