/- Arguments: rows of strings, of numbers, of bytes, and rows of these; Raw. -/
import Derived.ProofKit
import Derived.LaidMore
import Derived.OpenShut
import Derived.Lib.SmallJoins
import Derived.Deep.Slices
import Derived.SliceStrings
import Derived.ChangeSlices
import Derived.SizedLaws
import Derived.ChangeMaps5
import Derived.ChangeOld
import Derived.Below
import Derived.Test.YtniggdaakiofeaaDoorSn
import Derived.Test.YtniggdaakiofeaaDoorRows
namespace Go.Proofs.YtniggdaakiofeaaDoor
open Go.ChangeShapes Go.WideShapes Go.ChangeAt Go.WideMaps Go.WideElems Go.RowKit Go.Deep

theorem own : ownKnob Tryd.prog.godebug = none := by kernel_rfl
theorem laidOut : laidOutB Tryd.prog = true := by kernel_rfl
theorem cellsOfU8 : Tryd.prog.cellsOf 5 = 1 := by kernel_rfl
theorem cellsOfSB : Tryd.prog.cellsOf 22 = 1 := by kernel_rfl
theorem cellsOfSSB : Tryd.prog.cellsOf 23 = 1 := by kernel_rfl
theorem add_none (b off k : Nat) : (⟨b, off, none⟩ : Addr).add k = ⟨b, off + k, none⟩ := by unfold Addr.add; split <;> simp_all
section
variable {H : Type} {enc : TypeId × Value → H} {W : World}
theorem trod_rowU {base : Nat} {sp : Nat → Bool} {held : Bool} {fuel : Nat} {v : Value} {x : DataW H × List MemPlace} (h : DataW.trod enc Tryd.prog W base sp held fuel 22 [v] = some x) :
    ∃ L : List Nat, RdU W v L ∧ L.length ≤ maxLen := by
  rcases open_ints Tryd.underlying22 Tryd.underlying5 cellsOfU8 h with ⟨h0, rfl⟩ | ⟨a, len, cap, zs, hcs, hb, hl, hm, hlen, rfl, hcell, hwf⟩
  · simp only [List.cons.injEq, and_true] at h0
    subst h0
    exact ⟨[], ⟨none, 0, rfl, Nat.le_refl _, fun h => absurd rfl h⟩, Nat.zero_le _⟩
  · simp only [List.cons.injEq, and_true] at hcs
    subst hcs
    have hlm : len ≤ zs.length := by rw [hlen]; split <;> omega
    have hz : ∀ z ∈ zs, 0 ≤ z ∧ z ≤ 255 := fun z hz => by
      exact bounds_u8 (hwf z hz)
    have htl : ((zs.take len).map Int.toNat).length = len := by rw [List.length_map, List.length_take]; omega
    refine ⟨(zs.take len).map Int.toNat, ⟨some a, cap, by rw [htl], by rw [htl]; exact hl, fun hne => ?_⟩, by rw [htl]; omega⟩
    have hl0 : 0 < len := by
      rcases Nat.eq_zero_or_pos len with h | h
      · subst h; simp at hne
      · exact h
    have h0 := hcell 0 (by omega)
    obtain ⟨b, off, spot⟩ := a
    have hspot : spot = none := by simpa [Addr.add] using World.cell?_spot h0
    subst hspot
    rw [add_none] at h0
    refine ⟨b, off, rfl, World.block_lt_of_cell? _ _ h0, fun i y hi => ?_⟩
    rw [List.getElem?_map] at hi
    obtain ⟨z, hz1, rfl⟩ := Option.map_eq_some_iff.1 hi
    have hil : i < len := by
      have := (List.getElem?_eq_some_iff.1 hz1).1
      simp at this; omega
    rw [List.getElem?_take, if_pos hil] at hz1
    have := hcell i (by omega)
    rw [add_none] at this
    rw [this]
    have h2 := hz z (List.mem_of_getElem? hz1)
    refine ⟨?_, by omega⟩
    simp [List.getD, hz1]
    omega
theorem trod_rowsU {base : Nat} {sp : Nat → Bool} {held : Bool} {fuel : Nat} {v : Value} {x : DataW H × List MemPlace} (h : DataW.trod enc Tryd.prog W base sp held fuel 23 [v] = some x) :
    ∃ LL : List (List Nat), RdUU W v LL ∧ LL.length ≤ maxLen ∧ ∀ L ∈ LL, L.length ≤ maxLen := by
  rcases open_slice1 Tryd.underlying23 cellsOfSB h with ⟨h0, _⟩ | ⟨a, len0, cap0, m, n, V, D, Pl, hcs, hb, hl, hm, hmm, hx, hi⟩
  · simp only [List.cons.injEq, and_true] at h0
    subst h0
    exact ⟨[], ⟨none, 0, rfl, Nat.le_refl _, fun h => absurd rfl h⟩, Nat.zero_le _, fun L h => by cases h⟩
  · simp only [List.cons.injEq, and_true] at hcs
    subst hcs
    have hlm : len0 ≤ m := by rw [hmm]; split <;> omega
    have hall : ∀ i, i < len0 → ∃ L : List Nat, RdU W (V i) L ∧ L.length ≤ maxLen := by
      intro i hil
      obtain ⟨_, ht⟩ := hi i (by omega)
      exact trod_rowU ht
    obtain ⟨f, hf'⟩ : ∃ f : Nat → List Nat, ∀ i, i < len0 → RdU W (V i) (f i) ∧ (f i).length ≤ maxLen := by
      refine ⟨fun i => if h : i < len0 then (hall i h).choose else [], fun i hil => ?_⟩
      simp only [hil, dif_pos]
      exact (hall i hil).choose_spec
    refine ⟨(List.range len0).map f, ⟨some a, cap0, by simp, by simp; exact hl, fun hne => ?_⟩, by simp; omega, fun L hL => ?_⟩
    · have hl0 : 0 < len0 := by
        rcases Nat.eq_zero_or_pos len0 with h | h
        · subst h; simp at hne
        · exact h
      have h0 := (hi 0 (by omega)).1
      obtain ⟨b, off, spot⟩ := a
      have hspot : spot = none := by simpa [Addr.add] using World.cell?_spot h0
      subst hspot
      rw [add_none] at h0
      refine ⟨b, off, rfl, World.block_lt_of_cell? _ _ h0, fun i L hL => ?_⟩
      rw [List.getElem?_map] at hL
      obtain ⟨y, hy, hyx⟩ := Option.map_eq_some_iff.1 hL
      have hil : i < len0 := by
        have := (List.getElem?_eq_some_iff.1 hy).1
        simpa using this
      obtain rfl : i = y := by
        rw [List.getElem?_range hil] at hy
        exact Option.some.inj hy
      subst hyx
      have := (hi i (by omega)).1
      rw [add_none] at this
      exact ⟨V i, this, (hf' i hil).1⟩
    · obtain ⟨i, hi', rfl⟩ := List.mem_map.1 hL
      exact (hf' i (List.mem_range.1 hi')).2
set_option maxRecDepth 100000 in
theorem open_raw {base : Nat} {r : Reach} {b0 : Nat} {sp : Nat → Bool} {held : Bool} {v : Value} {d : DataW H} {p : List MemPlace} (hv : Value.okWide Tryd.prog W r b0 25 v) (h : DataW.Trod enc Tryd.prog W base sp held 25 v d p) :
    ∃ (xs : List Nat) (rs : List (List Nat)), RawV W v xs rs ∧ xs.length ≤ maxLen ∧ rs.length ≤ maxLen ∧ ∀ r ∈ rs, r.length ≤ maxLen := by
  obtain ⟨cs, rfl, hsz⟩ := okWide_struct Tryd.underlying25 hv
  obtain ⟨fuel, hf⟩ := h
  obtain ⟨y0, y1, k, hxy, hlen, g0, g1⟩ := trod_struct2 Tryd.underlying25 hf
  have hl2 : cs.toList.length = 2 := by
    have : Tryd.prog.cellsOf 25 = 2 := by kernel_rfl
    rw [← this]; exact hlen
  obtain ⟨v0, v1, hc⟩ : ∃ v0 v1, cs = #[v0, v1] := by
    match h : cs.toList, hl2 with
    | [a, b], _ => exact ⟨a, b, by rw [← Array.toArray_toList (xs := cs), h]⟩
  subst hc
  simp [Value.cells, cellsOfSB, cellsOfSSB] at g0 g1
  obtain ⟨xs, h1, h2⟩ := trod_rowU g0
  obtain ⟨rs, h3, h4, h5⟩ := trod_rowsU g1
  exact ⟨xs, rs, ⟨v0, v1, rfl, h1, h3⟩, h2, h4, h5⟩
end
end Go.Proofs.YtniggdaakiofeaaDoor
