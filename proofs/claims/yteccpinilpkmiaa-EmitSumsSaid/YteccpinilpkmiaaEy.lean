/- Arguments that are rows of strings, and rows of these. -/
import Derived.ProofKit
import Derived.LaidMore
import Derived.OpenShut
import Derived.Lib.SmallJoins
import Derived.Deep.Slices
import Derived.SliceStrings
import Derived.SizedLaws
import Derived.ChangeMaps5
import Derived.ChangeOld
import Derived.Below
import Derived.Test.YteccpinilpkmiaaEn
import Derived.Test.YteccpinilpkmiaaRows
namespace Go.Proofs.Yteccpinilpkmiaa
open Go.ChangeShapes Go.WideShapes Go.ChangeAt Go.WideMaps Go.WideElems Go.RowKit Go.Deep

theorem own : ownKnob Try.prog.godebug = none := by kernel_rfl
theorem laidOut : laidOutB Try.prog = true := by kernel_rfl
theorem cellsOf9 : Try.prog.cellsOf 9 = 1 := by kernel_rfl
theorem cellsOf22 : Try.prog.cellsOf 22 = 1 := by kernel_rfl
theorem weightsAll_mem {H : Type} {P : Program} {e : TypeId} : ∀ {ds : List (DataW H)} {d : DataW H} {n : Nat}, d ∈ ds → n ∈ d.weights P e → n ∈ DataW.weightsAll P e ds
  | x :: r, d, n, hd, hn => by
    simp only [DataW.weightsAll, List.mem_append]
    rcases List.mem_cons.1 hd with rfl | h
    · exact .inl hn
    · exact .inr (weightsAll_mem h hn)

section
variable {H : Type} {enc : TypeId × Value → H} {W : World}
theorem add_none (b off k : Nat) : (⟨b, off, none⟩ : Addr).add k = ⟨b, off + k, none⟩ := by unfold Addr.add; split <;> simp_all
theorem trod_row {base : Nat} {sp : Nat → Bool} {held : Bool} {fuel : Nat} {v : Value} {x : DataW H × List MemPlace} (h : DataW.trod enc Try.prog W base sp held fuel 22 [v] = some x) :
    ∃ L : List ByteArray, RdS W v L ∧ L.length ≤ maxLen ∧ (∀ s ∈ L, s.size ≤ maxLen) ∧ ((∀ n ∈ x.1.weights Try.prog 22, n ≤ reachBytes) → ∀ s ∈ L, s.size ≤ reachBytes) := by
  rcases open_strings Try.underlying22 Try.underlying9 cellsOf9 h with ⟨h0, rfl⟩ | ⟨a, len, cap, ss, hcs, hb, hl, hm, hlen, rfl, hcell, hsz⟩
  · simp only [List.cons.injEq, and_true] at h0
    subst h0
    exact ⟨[], ⟨none, 0, rfl, Nat.le_refl _, fun h => absurd rfl h⟩, Nat.zero_le _, fun s h => (by cases h), fun _ s h => (by cases h)⟩
  · simp only [List.cons.injEq, and_true] at hcs
    subst hcs
    have hlm : len ≤ ss.length := by rw [hlen]; split <;> omega
    have htl : (ss.take len).length = len := by rw [List.length_take]; omega
    refine ⟨ss.take len, ⟨some a, cap, by rw [htl], by rw [htl]; exact hl, fun hne => ?_⟩, by rw [htl]; omega, fun s hs => hsz s (List.mem_of_mem_take hs), fun hw s hs => ?_⟩
    · have hl0 : 0 < len := by
        rcases Nat.eq_zero_or_pos len with h | h
        · subst h; simp at hne
        · exact h
      have h0 := hcell 0 (by omega)
      obtain ⟨b, off, spot⟩ := a
      have hspot : spot = none := by simpa [Addr.add] using World.cell?_spot h0
      subst hspot
      rw [add_none] at h0
      refine ⟨b, off, rfl, World.block_lt_of_cell? _ _ h0, fun i s hi => ?_⟩
      have hil : i < len := by
        have := (List.getElem?_eq_some_iff.1 hi).1
        omega
      have := hcell i (by omega)
      rw [add_none] at this
      rw [this]
      rw [List.getElem?_take, if_pos hil] at hi
      simp [List.getD, hi]
    · have := hw s.data.toList.length (by
        simp only [DataW.weights, Try.underlying22]
        refine List.mem_cons_of_mem _ (List.mem_append.2 (.inl (weightsAll_mem (d := .lit (.string s.data.toList)) ?_ (by simp [DataW.weights]))))
        exact List.mem_map.2 ⟨s, hs, rfl⟩)
      simpa using this

theorem open_row {base : Nat} {r : Reach} {b0 : Nat} {sp : Nat → Bool} {held : Bool} {v : Value} {d : DataW H} {p : List MemPlace} (hv : Value.okWide Try.prog W r b0 22 v) (h : DataW.Trod enc Try.prog W base sp held 22 v d p) :
    ∃ L : List ByteArray, RdS W v L ∧ L.length ≤ maxLen ∧ (∀ s ∈ L, s.size ≤ maxLen) := by
  obtain ⟨a, len, cap, rfl⟩ := okWide_slice Try.underlying22 hv
  obtain ⟨fuel, hf⟩ := h
  obtain ⟨L, h1, h2, h3, _⟩ := trod_row hf
  exact ⟨L, h1, h2, h3⟩

theorem open_rows {base : Nat} {r : Reach} {b0 : Nat} {sp : Nat → Bool} {held : Bool} {v : Value} {d : DataW H} {p : List MemPlace} (hv : Value.okWide Try.prog W r b0 25 v) (h : DataW.Trod enc Try.prog W base sp held 25 v d p) (hw : ∀ n ∈ d.weights Try.prog 25, n ≤ reachBytes) :
    ∃ LL : List (List ByteArray), RdSS W v LL ∧ LL.length ≤ maxLen ∧ (∀ L ∈ LL, L.length ≤ maxLen) ∧ ∀ L ∈ LL, ∀ s ∈ L, s.size ≤ 281474976710656 := by
  obtain ⟨a0, len0, cap0, rfl⟩ := okWide_slice Try.underlying25 hv
  obtain ⟨fuel, hf⟩ := h
  rcases open_slice1 Try.underlying25 cellsOf22 hf with ⟨h0, _⟩ | ⟨a, len, cap, m, n, V, D, Pl, hcs, hb, hl, hm, hmm, hx, hi⟩
  · simp only [Value.cells, List.cons.injEq, Value.slice.injEq, and_true] at h0
    obtain ⟨rfl, rfl, rfl⟩ := h0
    exact ⟨[], ⟨none, 0, rfl, fun h => absurd rfl h⟩, Nat.zero_le _, fun s h => (by cases h), fun s h => (by cases h)⟩
  · simp only [Value.cells, List.cons.injEq, Value.slice.injEq, and_true] at hcs
    obtain ⟨rfl, rfl, rfl⟩ := hcs
    have hlm : len0 ≤ m := by rw [hmm]; split <;> omega
    have hall : ∀ i, i < len0 → ∃ L : List ByteArray, RdS W (V i) L ∧ L.length ≤ maxLen ∧ ∀ s ∈ L, s.size ≤ 281474976710656 := by
      intro i hil
      obtain ⟨_, ht⟩ := hi i (by omega)
      obtain ⟨L, h1, h2, _, h4⟩ := trod_row ht
      refine ⟨L, h1, h2, fun s hs => Nat.le_trans (h4 (fun k hk => hw k ?_) s hs) (by decide)⟩
      rw [(Prod.mk.inj hx).1]
      simp only [DataW.weights, Try.underlying25]
      exact List.mem_cons_of_mem _ (List.mem_append.2 (.inl (weightsAll_mem (d := D i) (List.mem_map.2 ⟨i, List.mem_range.2 hil, rfl⟩) hk)))
    obtain ⟨f, hf'⟩ : ∃ f : Nat → List ByteArray, ∀ i, i < len0 → RdS W (V i) (f i) ∧ (f i).length ≤ maxLen ∧ ∀ s ∈ f i, s.size ≤ 281474976710656 := by
      refine ⟨fun i => if h : i < len0 then (hall i h).choose else [], fun i hil => ?_⟩
      simp only [hil, dif_pos]
      exact (hall i hil).choose_spec
    refine ⟨(List.range len0).map f, ⟨some a, cap0, by simp, fun hne => ?_⟩, by simp; omega, fun L hL => ?_, fun L hL => ?_⟩
    · have hl0 : 0 < len0 := by
        rcases Nat.eq_zero_or_pos len0 with h | h
        · subst h; simp at hne
        · exact h
      have h0 := (hi 0 (by omega)).1
      obtain ⟨b, off, spot⟩ := a
      have hspot : spot = none := by simpa [Addr.add] using World.cell?_spot h0
      subst hspot
      rw [add_none] at h0
      refine ⟨b, off, rfl, World.block_lt_of_cell? _ _ h0, fun i L hL => ?_⟩
      rw [List.getElem?_map] at hL
      obtain ⟨y, hy, hyx⟩ := Option.map_eq_some_iff.1 hL
      have hil : i < len0 := by
        have := (List.getElem?_eq_some_iff.1 hy).1
        simpa using this
      obtain rfl : i = y := by
        rw [List.getElem?_range hil] at hy
        exact Option.some.inj hy
      subst hyx
      have := (hi i (by omega)).1
      rw [add_none] at this
      exact ⟨V i, this, (hf' i hil).1⟩
    · obtain ⟨i, hi', rfl⟩ := List.mem_map.1 hL
      exact (hf' i (List.mem_range.1 hi')).2.1
    · obtain ⟨i, hi', rfl⟩ := List.mem_map.1 hL
      exact (hf' i (List.mem_range.1 hi')).2.2
end
end Go.Proofs.Yteccpinilpkmiaa
