/- Arguments of Goods: rows of strings, rows of rows of numbers. -/
import Derived.Test.YtniggdaakiofeaaSu
namespace Go.Proofs.Ytniggdaakiofeaa
open Go.ChangeShapes Go.WideShapes Go.ChangeAt Go.WideMaps Go.WideElems Go.RowKit Go.Deep
section
variable {H : Type} {enc : TypeId × Value → H} {W : World}
theorem cellsOfINT : Try.prog.cellsOf 3 = 1 := by kernel_rfl
theorem cellsOfSINT : Try.prog.cellsOf 25 = 1 := by kernel_rfl
theorem cellsOfSTR : Try.prog.cellsOf 9 = 1 := by kernel_rfl
theorem trod_rowI {base : Nat} {sp : Nat → Bool} {held : Bool} {fuel : Nat} {v : Value} {x : DataW H × List MemPlace} (h : DataW.trod enc Try.prog W base sp held fuel 25 [v] = some x) :
    ∃ L : List Int, RdI W v L ∧ L.length ≤ maxLen := by
  rcases open_ints Try.underlying25 Try.underlying3 cellsOfINT h with ⟨h0, rfl⟩ | ⟨a, len, cap, zs, hcs, hb, hl, hm, hlen, rfl, hcell, hwf⟩
  · simp only [List.cons.injEq, and_true] at h0
    subst h0
    exact ⟨[], ⟨none, 0, rfl, Nat.le_refl _, fun h => absurd rfl h⟩, Nat.zero_le _⟩
  · simp only [List.cons.injEq, and_true] at hcs
    subst hcs
    have hlm : len ≤ zs.length := by rw [hlen]; split <;> omega
    have htl : (zs.take len).length = len := by rw [List.length_take]; omega
    refine ⟨zs.take len, ⟨some a, cap, by rw [htl], by rw [htl]; exact hl, fun hne => ?_⟩, by rw [htl]; omega⟩
    have hl0 : 0 < len := by
      rcases Nat.eq_zero_or_pos len with h | h
      · subst h; simp at hne
      · exact h
    have h0 := hcell 0 (by omega)
    obtain ⟨b, off, spot⟩ := a
    have hspot : spot = none := by simpa [Addr.add] using World.cell?_spot h0
    subst hspot
    rw [add_none] at h0
    refine ⟨b, off, rfl, World.block_lt_of_cell? _ _ h0, fun i z hz1 => ?_⟩
    have hil : i < len := by
      have := (List.getElem?_eq_some_iff.1 hz1).1
      simp at this; omega
    rw [List.getElem?_take, if_pos hil] at hz1
    have := hcell i (by omega)
    rw [add_none] at this
    rw [this]
    simp [List.getD, hz1]
theorem trod_rowS {base : Nat} {sp : Nat → Bool} {held : Bool} {fuel : Nat} {v : Value} {x : DataW H × List MemPlace} (h : DataW.trod enc Try.prog W base sp held fuel 22 [v] = some x) :
    ∃ L : List ByteArray, RdS W v L ∧ L.length ≤ maxLen := by
  rcases open_strings Try.underlying22 Try.underlying9 cellsOfSTR h with ⟨h0, rfl⟩ | ⟨a, len, cap, ss, hcs, hb, hl, hm, hlen, rfl, hcell, hsz⟩
  · simp only [List.cons.injEq, and_true] at h0
    subst h0
    exact ⟨[], ⟨none, 0, rfl, Nat.le_refl _, fun h => absurd rfl h⟩, Nat.zero_le _⟩
  · simp only [List.cons.injEq, and_true] at hcs
    subst hcs
    have hlm : len ≤ ss.length := by rw [hlen]; split <;> omega
    have htl : (ss.take len).length = len := by rw [List.length_take]; omega
    refine ⟨ss.take len, ⟨some a, cap, by rw [htl], by rw [htl]; exact hl, fun hne => ?_⟩, by rw [htl]; omega⟩
    have hl0 : 0 < len := by
      rcases Nat.eq_zero_or_pos len with h | h
      · subst h; simp at hne
      · exact h
    have h0 := hcell 0 (by omega)
    obtain ⟨b, off, spot⟩ := a
    have hspot : spot = none := by simpa [Addr.add] using World.cell?_spot h0
    subst hspot
    rw [add_none] at h0
    refine ⟨b, off, rfl, World.block_lt_of_cell? _ _ h0, fun i s hi => ?_⟩
    have hil : i < len := by
      have := (List.getElem?_eq_some_iff.1 hi).1
      omega
    have := hcell i (by omega)
    rw [add_none] at this
    rw [this]
    rw [List.getElem?_take, if_pos hil] at hi
    simp [List.getD, hi]
set_option maxRecDepth 100000 in
theorem open_strs {base : Nat} {r : Reach} {b0 : Nat} {sp : Nat → Bool} {held : Bool} {v : Value} {d : DataW H} {p : List MemPlace} (hv : Value.okWide Try.prog W r b0 22 v) (h : DataW.Trod enc Try.prog W base sp held 22 v d p) :
    ∃ L : List ByteArray, RdS W v L ∧ L.length ≤ maxLen := by
  obtain ⟨a, len, cap, rfl⟩ := okWide_slice Try.underlying22 hv
  obtain ⟨fuel, hf⟩ := h
  exact trod_rowS hf
theorem trod_rowsI {base : Nat} {sp : Nat → Bool} {held : Bool} {fuel : Nat} {v : Value} {x : DataW H × List MemPlace} (h : DataW.trod enc Try.prog W base sp held fuel 23 [v] = some x) :
    ∃ LL : List (List Int), RdW W v LL ∧ LL.length ≤ maxLen ∧ ∀ L ∈ LL, L.length ≤ maxLen := by
  rcases open_slice1 Try.underlying23 cellsOfSINT h with ⟨h0, _⟩ | ⟨a, len0, cap0, m, n, V, D, Pl, hcs, hb, hl, hm, hmm, hx, hi⟩
  · simp only [List.cons.injEq, and_true] at h0
    subst h0
    exact ⟨[], ⟨none, 0, rfl, Nat.le_refl _, fun h => absurd rfl h⟩, Nat.zero_le _, fun L h => by cases h⟩
  · simp only [List.cons.injEq, and_true] at hcs
    subst hcs
    have hlm : len0 ≤ m := by rw [hmm]; split <;> omega
    have hall : ∀ i, i < len0 → ∃ L : List Int, RdI W (V i) L ∧ L.length ≤ maxLen := by
      intro i hil
      obtain ⟨_, ht⟩ := hi i (by omega)
      exact trod_rowI ht
    obtain ⟨f, hf'⟩ : ∃ f : Nat → List Int, ∀ i, i < len0 → RdI W (V i) (f i) ∧ (f i).length ≤ maxLen := by
      refine ⟨fun i => if h : i < len0 then (hall i h).choose else [], fun i hil => ?_⟩
      simp only [hil, dif_pos]
      exact (hall i hil).choose_spec
    refine ⟨(List.range len0).map f, ⟨some a, cap0, by simp, by simp; exact hl, fun hne => ?_⟩, by simp; omega, fun L hL => ?_⟩
    · have hl0 : 0 < len0 := by
        rcases Nat.eq_zero_or_pos len0 with h | h
        · subst h; simp at hne
        · exact h
      have h0 := (hi 0 (by omega)).1
      obtain ⟨b, off, spot⟩ := a
      have hspot : spot = none := by simpa [Addr.add] using World.cell?_spot h0
      subst hspot
      rw [add_none] at h0
      refine ⟨b, off, rfl, World.block_lt_of_cell? _ _ h0, fun i L hL => ?_⟩
      rw [List.getElem?_map] at hL
      obtain ⟨y, hy, hyx⟩ := Option.map_eq_some_iff.1 hL
      have hil : i < len0 := by
        have := (List.getElem?_eq_some_iff.1 hy).1
        simpa using this
      obtain rfl : i = y := by
        rw [List.getElem?_range hil] at hy
        exact Option.some.inj hy
      subst hyx
      have := (hi i (by omega)).1
      rw [add_none] at this
      exact ⟨V i, this, (hf' i hil).1⟩
    · obtain ⟨i, hi', rfl⟩ := List.mem_map.1 hL
      exact (hf' i (List.mem_range.1 hi')).2
set_option maxRecDepth 100000 in
theorem open_ints2 {base : Nat} {r : Reach} {b0 : Nat} {sp : Nat → Bool} {held : Bool} {v : Value} {d : DataW H} {p : List MemPlace} (hv : Value.okWide Try.prog W r b0 23 v) (h : DataW.Trod enc Try.prog W base sp held 23 v d p) :
    ∃ R : List (List Int), RdW W v R ∧ R.length ≤ maxLen ∧ ∀ x ∈ R, x.length ≤ maxLen := by
  obtain ⟨a, len, cap, rfl⟩ := okWide_slice Try.underlying23 hv
  obtain ⟨fuel, hf⟩ := h
  exact trod_rowsI hf
end
end Go.Proofs.Ytniggdaakiofeaa
