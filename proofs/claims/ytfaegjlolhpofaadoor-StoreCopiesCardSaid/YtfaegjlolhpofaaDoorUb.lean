/- Acts as an argument. -/
import Derived.Deep.Slices
import Derived.Deep.Fields
import Derived.ChangeSame
import Derived.Test.YtfaegjlolhpofaaDoorYb
import Derived.Test.YtfaegjlolhpofaaDoorUv
namespace Go.Proofs.YtfaegjlolhpofaaDoor
open Go.ChangeShapes Go.WideShapes Go.ChangeAt Go.WideMaps Go.WideElems Go.RowKit Go.Deep

section
variable {H : Type} {enc : TypeId × Value → H} {W : World}
theorem act_of_trod {base : Nat} {sp : Nat → Bool} {held : Bool} {fuel : Nat} {cs : List Value} {x : DataW H × List MemPlace} (h : DataW.trod enc Tryd.prog W base sp held fuel 39 cs = some x) :
    ∃ a : ActV, cs = [.int .u8 a.kind, .int .u8 a.num, .int .i64 a.key.a, .int .i64 a.key.b, .int .i64 a.key.c] ∧ 0 ≤ a.kind ∧ a.kind ≤ 255 ∧ 0 ≤ a.num ∧ a.num ≤ 255 := by
  obtain ⟨xs, m, rfl, hx, hlen, hn, hel⟩ := DataW.trod_struct Tryd.underlying39 h
  have c5 : Tryd.prog.cellsOf 39 = 5 := by kernel_rfl
  rw [c5] at hlen
  have e0 : DataW.trod enc Tryd.prog W base sp held m 5 ((cs.drop 0).take (Tryd.prog.cellsOf 5)) = xs[0]? := hel 0 _ rfl
  have e1 : DataW.trod enc Tryd.prog W base sp held m 5 ((cs.drop 1).take (Tryd.prog.cellsOf 5)) = xs[1]? := hel 1 _ rfl
  have e2 : DataW.trod enc Tryd.prog W base sp held m 22 ((cs.drop 2).take (Tryd.prog.cellsOf 22)) = xs[2]? := hel 2 _ rfl
  have d5 : Tryd.prog.cellsOf 5 = 1 := by kernel_rfl
  simp only [d5, cellsOf22] at e0 e1 e2
  match xs, hn, e0, e1, e2 with
  | [x0, x1, x2], _, e0, e1, e2 =>
    match cs, hlen, e0, e1, e2 with
    | [c0, c1, c2, c3, c4], _, e0, e1, e2 =>
      simp at e0 e1 e2
      obtain ⟨a, h1, _, w1⟩ := DataW.trod_int Tryd.underlying5 e0
      obtain ⟨b, h2, _, w2⟩ := DataW.trod_int Tryd.underlying5 e1
      obtain ⟨k0, k1, k2, h3⟩ := three_of_trod e2
      simp only [List.cons.injEq, and_true] at h1 h2 h3
      obtain ⟨rfl, rfl, rfl⟩ := h3
      subst h1 h2
      have b1 := bounds_u8 w1
      have b2 := bounds_u8 w2
      exact ⟨⟨a, b, ⟨k0, k1, k2⟩⟩, rfl, b1.1, b1.2, b2.1, b2.2⟩

theorem open_acts {base : Nat} {r : Reach} {b0 : Nat} {sp : Nat → Bool} {held : Bool} {v : Value} {d : DataW H} {p : List MemPlace} (hv : Value.okWide Tryd.prog W r b0 33 v) (h : DataW.Trod enc Tryd.prog W base sp held 33 v d p) :
    ∃ (A : Option Addr) (acts : List ActV) (cap : Nat), v = .slice A acts.length cap ∧ (acts ≠ [] → ∃ b off, A = some ⟨b, off, none⟩ ∧ ActsIn W b off acts) := by
  obtain ⟨a', len', cap', rfl⟩ := okWide_slice Tryd.underlying33 hv
  obtain ⟨fuel, hf⟩ := h
  have c5 : Tryd.prog.cellsOf 39 = 5 := by kernel_rfl
  rcases open_slice Tryd.underlying33 hf with ⟨h0, _⟩ | ⟨a, len, cap, m, n, D, Pl, hcs, hb, hl, hm, hmm, hx, hi⟩
  · simp only [Value.cells, List.cons.injEq, Value.slice.injEq, and_true] at h0
    obtain ⟨rfl, rfl, rfl⟩ := h0
    exact ⟨none, [], 0, rfl, fun h => absurd rfl h⟩
  · simp only [Value.cells, List.cons.injEq, Value.slice.injEq, and_true] at hcs
    obtain ⟨rfl, rfl, rfl⟩ := hcs
    have hlm : len' ≤ m := by rw [hmm]; split <;> omega
    have hall : ∀ i, i < len' → ∃ x : ActV, (∀ j u, [Value.int .u8 x.kind, .int .u8 x.num, .int .i64 x.key.a, .int .i64 x.key.b, .int .i64 x.key.c][j]? = some u → W.cell? (a.add (i * 5 + j)) = some u) ∧ 0 ≤ x.kind ∧ x.kind ≤ 255 ∧ 0 ≤ x.num ∧ x.num ≤ 255 := by
      intro i hil
      obtain ⟨cs', hc, ht⟩ := hi i (by omega)
      rw [c5] at hc
      obtain ⟨x, rfl, hb⟩ := act_of_trod ht
      obtain ⟨_, hcl, hat⟩ := World.cells?_some hc
      refine ⟨x, fun j u hu => ?_, hb⟩
      have hj : j < 5 := by
        have := (List.getElem?_eq_some_iff.1 hu).1
        simpa using this
      rw [← Go.Deep.add_add, hat j hj]
      exact hu
    obtain ⟨f, hf'⟩ : ∃ f : Nat → ActV, ∀ i, i < len' → (∀ j u, [Value.int .u8 (f i).kind, .int .u8 (f i).num, .int .i64 (f i).key.a, .int .i64 (f i).key.b, .int .i64 (f i).key.c][j]? = some u → W.cell? (a.add (i * 5 + j)) = some u) ∧ 0 ≤ (f i).kind ∧ (f i).kind ≤ 255 ∧ 0 ≤ (f i).num ∧ (f i).num ≤ 255 := by
      refine ⟨fun i => if h : i < len' then (hall i h).choose else ⟨0, 0, ⟨0, 0, 0⟩⟩, fun i hil => ?_⟩
      simp only [hil, dif_pos]
      exact (hall i hil).choose_spec
    refine ⟨some a, (List.range len').map f, cap', by simp, fun hne => ?_⟩
    have hl0 : 0 < len' := by
      rcases Nat.eq_zero_or_pos len' with h | h
      · subst h; simp at hne
      · exact h
    have h0 := (hf' 0 hl0).1 0 _ rfl
    obtain ⟨b, off, spot⟩ := a
    have hspot : spot = none := by simpa [Addr.add] using World.cell?_spot h0
    subst hspot
    have hadd : ∀ k, (⟨b, off, none⟩ : Addr).add k = ⟨b, off + k, none⟩ := fun k => by unfold Addr.add; split <;> simp_all
    simp only [hadd] at hf' h0
    refine ⟨b, off, rfl, World.block_lt_of_cell? _ _ h0, fun i x hx => ?_⟩
    rw [List.getElem?_map] at hx
    obtain ⟨y, hy, hyx⟩ := Option.map_eq_some_iff.1 hx
    have hil : i < len' := by
      have := (List.getElem?_eq_some_iff.1 hy).1
      simpa using this
    obtain rfl : i = y := by
      rw [List.getElem?_range hil] at hy
      exact Option.some.inj hy
    subst hyx
    obtain ⟨hc, hb⟩ := hf' i hil
    refine ⟨⟨?_, ?_, ?_, ?_, ?_⟩, hb⟩
    · exact hc 0 _ rfl
    · have := hc 1 _ rfl; rwa [← Nat.add_assoc] at this
    · have := hc 2 _ rfl; rwa [← Nat.add_assoc] at this
    · have := hc 3 _ rfl; rwa [← Nat.add_assoc] at this
    · have := hc 4 _ rfl; rwa [← Nat.add_assoc] at this
end
end Go.Proofs.YtfaegjlolhpofaaDoor
