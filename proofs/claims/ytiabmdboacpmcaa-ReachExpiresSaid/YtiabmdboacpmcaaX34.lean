/- Texts joined: Hx. -/
import Derived.Test.YtiabmdboacpmcaaX33
import Derived.Deep.Fields
import Derived.ChangeSame
import Derived.Test.YtiabmdboacpmcaaX32
/- Arguments: acts. -/
namespace Go.Proofs.Ytiabmdboacpmcaa
open Go.ChangeShapes Go.WideShapes Go.ChangeAt Go.WideMaps Go.WideElems Go.RowKit Go.Deep

set_option maxRecDepth 100000
theorem cellsOfA : Try.prog.cellsOf 82 = 5 := by kernel_rfl
theorem cellsOfT : Try.prog.cellsOf 73 = 3 := by kernel_rfl
theorem cellsOfI : Try.prog.cellsOf 3 = 1 := by kernel_rfl
theorem cellsOfU : Try.prog.cellsOf 5 = 1 := by kernel_rfl
theorem cellsOfT2 : Try.prog.cellsOf 78 = 2 := by kernel_rfl
theorem cellsOfT3 : Try.prog.cellsOf 94 = 2 := by kernel_rfl
theorem okWide_array {P : Program} {w : World} {r : Reach} {base : Nat} {t e : TypeId} {n : Nat} {v : Value} (ht : P.underlying t = some (.array n e)) (h : Value.okWide P w r base t v) : ∃ cs, v = .agg cs ∧ cs.size = P.cellsOf t := by
  simp only [Value.okWide, ht] at h
  obtain ⟨cs, h1, h2, _⟩ := h
  exact ⟨cs, h1, h2⟩
section
variable {H : Type} {enc : TypeId × Value → H} {W : World}
/-- three ints in a row -/
theorem three_of_trod {base : Nat} {sp : Nat → Bool} {held : Bool} {fuel : Nat} {cs : List Value} {x : DataW H × List MemPlace} (h : DataW.trod enc Try.prog W base sp held fuel 73 cs = some x) :
    ∃ a b c : Int, cs = [.int .i64 a, .int .i64 b, .int .i64 c] ∧ okI a ∧ okI b ∧ okI c := by
  obtain ⟨xs, m, rfl, hx, hlen, hn, hel⟩ := DataW.trod_array Try.underlying73 h
  rw [cellsOfT] at hlen
  rw [cellsOfI] at hel
  obtain ⟨c0, c1, c2, rfl⟩ : ∃ c0 c1 c2, cs = [c0, c1, c2] := by
    match cs, hlen with
    | [a, b, c], _ => exact ⟨a, b, c, rfl⟩
  match xs, hn, hel with
  | [x0, x1, x2], _, hel =>
    obtain ⟨a, e1, _, w1⟩ := DataW.trod_int Try.underlying3 (show DataW.trod enc Try.prog W base sp held m 3 [c0] = some x0 from by simpa using hel 0 (by omega))
    obtain ⟨b, e2, _, w2⟩ := DataW.trod_int Try.underlying3 (show DataW.trod enc Try.prog W base sp held m 3 [c1] = some x1 from by simpa using hel 1 (by omega))
    obtain ⟨c, e3, _, w3⟩ := DataW.trod_int Try.underlying3 (show DataW.trod enc Try.prog W base sp held m 3 [c2] = some x2 from by simpa using hel 2 (by omega))
    simp only [List.cons.injEq, and_true] at e1 e2 e3
    exact ⟨a, b, c, by rw [e1, e2, e3], w1, w2, w3⟩
theorem open_times {base : Nat} {r : Reach} {b0 : Nat} {sp : Nat → Bool} {held : Bool} {v : Value} {d : DataW H} {p : List MemPlace} (hv : Value.okWide Try.prog W r b0 73 v) (h : DataW.Trod enc Try.prog W base sp held 73 v d p) :
    ∃ k : Key, v = k3 k ∧ ok3 k := by
  obtain ⟨cs, rfl, hsz⟩ := okWide_array Try.underlying73 hv
  obtain ⟨fuel, hf⟩ := h
  obtain ⟨a, b, c, hc, hk⟩ := three_of_trod hf
  obtain ⟨l⟩ := cs
  simp only [Value.cells] at hc
  subst hc
  exact ⟨⟨a, b, c⟩, rfl, hk⟩
def cellsA (a : AR) : List Value := [.int .u8 a.kind, .int .i64 a.key.a, .int .i64 a.key.b, .int .i64 a.key.c, .int .i64 a.till]
theorem act_of_trod {base : Nat} {sp : Nat → Bool} {held : Bool} {fuel : Nat} {cs : List Value} {x : DataW H × List MemPlace} (h : DataW.trod enc Try.prog W base sp held fuel 82 cs = some x) :
    ∃ a : AR, cs = cellsA a ∧ ok3 a.key ∧ okI a.till := by
  obtain ⟨xs, m, rfl, hx, hlen, hn, hel⟩ := DataW.trod_struct Try.underlying82 h
  rw [cellsOfA] at hlen
  have e0 : DataW.trod enc Try.prog W base sp held m 5 ((cs.drop 0).take (Try.prog.cellsOf 5)) = xs[0]? := hel 0 _ rfl
  have e1 : DataW.trod enc Try.prog W base sp held m 73 ((cs.drop 1).take (Try.prog.cellsOf 73)) = xs[1]? := hel 1 _ rfl
  have e2 : DataW.trod enc Try.prog W base sp held m 3 ((cs.drop 4).take (Try.prog.cellsOf 3)) = xs[2]? := hel 2 _ rfl
  simp only [cellsOfU, cellsOfI, cellsOfT] at e0 e1 e2
  match xs, hn, e0, e1, e2 with
  | [x0, x1, x2], _, e0, e1, e2 =>
    match cs, hlen, e0, e1, e2 with
    | [c0, c1, c2, c3, c4], _, e0, e1, e2 =>
      simp at e0 e1 e2
      obtain ⟨a, h1, _, w1⟩ := DataW.trod_int Try.underlying5 e0
      obtain ⟨k0, k1, k2, h4, hk⟩ := three_of_trod e1
      obtain ⟨b, h2, _, w2⟩ := DataW.trod_int Try.underlying3 e2
      simp only [List.cons.injEq, and_true] at h1 h2 h4
      obtain ⟨rfl, rfl, rfl⟩ := h4
      subst h1 h2
      exact ⟨⟨a, ⟨k0, k1, k2⟩, b⟩, rfl, hk, w2⟩
theorem open_acts {base : Nat} {r : Reach} {b0 : Nat} {sp : Nat → Bool} {held : Bool} {v : Value} {d : DataW H} {p : List MemPlace} (hv : Value.okWide Try.prog W r b0 60 v) (h : DataW.Trod enc Try.prog W base sp held 60 v d p) :
    ∃ L : List AR, RdAR W v L := by
  obtain ⟨a', len', cap', rfl⟩ := okWide_slice Try.underlying60 hv
  obtain ⟨fuel, hf⟩ := h
  rcases open_slice Try.underlying60 hf with ⟨h0, _⟩ | ⟨a, len, cap, m, n, D, Pl, hcs, hb, hl, hm, hmm, hx, hi⟩
  · simp only [Value.cells, List.cons.injEq, Value.slice.injEq, and_true] at h0
    obtain ⟨rfl, rfl, rfl⟩ := h0
    exact ⟨[], none, 0, rfl, (fun x hx => by cases hx), fun h => absurd rfl h⟩
  · simp only [Value.cells, List.cons.injEq, Value.slice.injEq, and_true] at hcs
    obtain ⟨rfl, rfl, rfl⟩ := hcs
    have hlm : len' ≤ m := by rw [hmm]; split <;> omega
    have hall : ∀ i, i < len' → ∃ x : AR, (∀ j u, (cellsA x)[j]? = some u → W.cell? (a.add (i * 5 + j)) = some u) ∧ ok3 x.key ∧ okI x.till := by
      intro i hil
      obtain ⟨cs', hc, ht⟩ := hi i (by omega)
      rw [cellsOfA] at hc
      obtain ⟨x, rfl, hb⟩ := act_of_trod ht
      obtain ⟨_, hcl, hat⟩ := World.cells?_some hc
      refine ⟨x, fun j u hu => ?_, hb⟩
      have hj : j < 5 := by
        have := (List.getElem?_eq_some_iff.1 hu).1
        simpa [cellsA] using this
      rw [← Go.Deep.add_add, hat j hj]
      exact hu
    obtain ⟨f, hf'⟩ : ∃ f : Nat → AR, ∀ i, i < len' → (∀ j u, (cellsA (f i))[j]? = some u → W.cell? (a.add (i * 5 + j)) = some u) ∧ ok3 (f i).key ∧ okI (f i).till := by
      refine ⟨fun i => if h : i < len' then (hall i h).choose else ⟨0, ⟨0, 0, 0⟩, 0⟩, fun i hil => ?_⟩
      simp only [hil, dif_pos]
      exact (hall i hil).choose_spec
    refine ⟨(List.range len').map f, some a, cap', by simp, fun x hx => ?_, fun hne => ?_⟩
    · obtain ⟨i, hi', rfl⟩ := List.mem_map.1 hx
      exact (hf' i (List.mem_range.1 hi')).2
    have hl0 : 0 < len' := by
      rcases Nat.eq_zero_or_pos len' with h | h
      · subst h; simp at hne
      · exact h
    have h0 := (hf' 0 hl0).1 0 _ rfl
    obtain ⟨b, off, spot⟩ := a
    have hspot : spot = none := by simpa [Addr.add] using World.cell?_spot h0
    subst hspot
    simp only [add_none] at hf' h0
    refine ⟨b, off, rfl, World.block_lt_of_cell? _ _ h0, fun i x hx => ?_⟩
    rw [List.getElem?_map] at hx
    obtain ⟨y, hy, hyx⟩ := Option.map_eq_some_iff.1 hx
    have hil : i < len' := by
      have := (List.getElem?_eq_some_iff.1 hy).1
      simpa using this
    obtain rfl : i = y := by
      rw [List.getElem?_range hil] at hy
      exact Option.some.inj hy
    subst hyx
    obtain ⟨hc, hb⟩ := hf' i hil
    refine ⟨?_, ?_, ?_, ?_, ?_⟩
    · exact hc 0 _ rfl
    · have := hc 1 _ rfl; rwa [← Nat.add_assoc] at this
    · have := hc 2 _ rfl; rwa [← Nat.add_assoc] at this
    · have := hc 3 _ rfl; rwa [← Nat.add_assoc] at this
    · have := hc 4 _ rfl; rwa [← Nat.add_assoc] at this
/-- two ints in a row -/
theorem two_of_trod {base : Nat} {sp : Nat → Bool} {held : Bool} {fuel : Nat} {cs : List Value} {x : DataW H × List MemPlace} (h : DataW.trod enc Try.prog W base sp held fuel 78 cs = some x) :
    ∃ a b : Int, cs = [.int .i64 a, .int .i64 b] ∧ okI a ∧ okI b := by
  obtain ⟨xs, m, rfl, hx, hlen, hn, hel⟩ := DataW.trod_array Try.underlying78 h
  rw [cellsOfT2] at hlen
  rw [cellsOfI] at hel
  match cs, hlen with
  | [c0, c1], _ =>
  match xs, hn, hel with
  | [x0, x1], _, hel =>
    obtain ⟨a, e1, _, w1⟩ := DataW.trod_int Try.underlying3 (show DataW.trod enc Try.prog W base sp held m 3 [c0] = some x0 from by simpa using hel 0 (by omega))
    obtain ⟨b, e2, _, w2⟩ := DataW.trod_int Try.underlying3 (show DataW.trod enc Try.prog W base sp held m 3 [c1] = some x1 from by simpa using hel 1 (by omega))
    simp only [List.cons.injEq, and_true] at e1 e2
    exact ⟨a, b, by rw [e1, e2], w1, w2⟩
theorem open_two {base : Nat} {r : Reach} {b0 : Nat} {sp : Nat → Bool} {held : Bool} {v : Value} {d : DataW H} {p : List MemPlace} (hv : Value.okWide Try.prog W r b0 78 v) (h : DataW.Trod enc Try.prog W base sp held 78 v d p) :
    ∃ a b : Int, v = .agg #[.int .i64 a, .int .i64 b] ∧ okI a ∧ okI b := by
  obtain ⟨cs, rfl, hsz⟩ := okWide_array Try.underlying78 hv
  obtain ⟨fuel, hf⟩ := h
  obtain ⟨a, b, hc, hk⟩ := two_of_trod hf
  obtain ⟨l⟩ := cs
  simp only [Value.cells] at hc
  subst hc
  exact ⟨a, b, rfl, hk⟩
/-- two bytes in a row -/
theorem twoU_of_trod {base : Nat} {sp : Nat → Bool} {held : Bool} {fuel : Nat} {cs : List Value} {x : DataW H × List MemPlace} (h : DataW.trod enc Try.prog W base sp held fuel 94 cs = some x) :
    ∃ a b : Nat, cs = [.int .u8 (a : Int), .int .u8 (b : Int)] ∧ a ≤ 255 ∧ b ≤ 255 := by
  obtain ⟨xs, m, rfl, hx, hlen, hn, hel⟩ := DataW.trod_array Try.underlying94 h
  rw [cellsOfT3] at hlen
  rw [cellsOfU] at hel
  match cs, hlen with
  | [c0, c1], _ =>
  match xs, hn, hel with
  | [x0, x1], _, hel =>
    obtain ⟨a, e1, _, w1⟩ := DataW.trod_int Try.underlying5 (show DataW.trod enc Try.prog W base sp held m 5 [c0] = some x0 from by simpa using hel 0 (by omega))
    obtain ⟨b, e2, _, w2⟩ := DataW.trod_int Try.underlying5 (show DataW.trod enc Try.prog W base sp held m 5 [c1] = some x1 from by simpa using hel 1 (by omega))
    simp only [List.cons.injEq, and_true] at e1 e2
    have b1 : 0 ≤ a ∧ a ≤ 255 := bounds_u8 w1
    have b2 : 0 ≤ b ∧ b ≤ 255 := bounds_u8 w2
    obtain ⟨a', rfl⟩ := Int.eq_ofNat_of_zero_le b1.1
    obtain ⟨b', rfl⟩ := Int.eq_ofNat_of_zero_le b2.1
    exact ⟨a', b', by rw [e1, e2], by omega, by omega⟩
theorem open_twoU {base : Nat} {r : Reach} {b0 : Nat} {sp : Nat → Bool} {held : Bool} {v : Value} {d : DataW H} {p : List MemPlace} (hv : Value.okWide Try.prog W r b0 94 v) (h : DataW.Trod enc Try.prog W base sp held 94 v d p) :
    ∃ a b : Nat, v = .agg #[.int .u8 (a : Int), .int .u8 (b : Int)] ∧ a ≤ 255 ∧ b ≤ 255 := by
  obtain ⟨cs, rfl, hsz⟩ := okWide_array Try.underlying94 hv
  obtain ⟨fuel, hf⟩ := h
  obtain ⟨a, b, hc, hk⟩ := twoU_of_trod hf
  obtain ⟨l⟩ := cs
  simp only [Value.cells] at hc
  subst hc
  exact ⟨a, b, rfl, hk⟩
end
end Go.Proofs.Ytiabmdboacpmcaa
