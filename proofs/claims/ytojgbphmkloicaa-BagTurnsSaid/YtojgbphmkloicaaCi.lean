/- Arguments: acts, times. -/
import Derived.ProofKit
import Derived.LaidMore
import Derived.OpenShut
import Derived.Lib.SmallJoins
import Derived.Deep.Slices
import Derived.Deep.Fields
import Derived.ChangeSlices
import Derived.ChangeSame
import Derived.SizedLaws
import Derived.ChangeMaps5
import Derived.ChangeOld
import Derived.Below
import Derived.Test.YtojgbphmkloicaaCg
import Derived.Test.YtojgbphmkloicaaRows
namespace Go.Proofs.Ytojgbphmkloicaa
open Go.ChangeShapes Go.WideShapes Go.ChangeAt Go.WideMaps Go.WideElems Go.RowKit Go.Deep

theorem own : ownKnob Try.prog.godebug = none := by kernel_rfl
theorem cellsOfA : Try.prog.cellsOf 30 = 6 := by kernel_rfl
theorem cellsOfT : Try.prog.cellsOf 23 = 3 := by kernel_rfl
theorem cellsOfI : Try.prog.cellsOf 3 = 1 := by kernel_rfl
theorem cellsOfU : Try.prog.cellsOf 5 = 1 := by kernel_rfl
theorem add_none (b off k : Nat) : (⟨b, off, none⟩ : Addr).add k = ⟨b, off + k, none⟩ := by unfold Addr.add; split <;> simp_all
theorem okWide_array {P : Program} {w : World} {r : Reach} {base : Nat} {t e : TypeId} {n : Nat} {v : Value} (ht : P.underlying t = some (.array n e)) (h : Value.okWide P w r base t v) : ∃ cs, v = .agg cs ∧ cs.size = P.cellsOf t := by
  simp only [Value.okWide, ht] at h
  obtain ⟨cs, h1, h2, _⟩ := h
  exact ⟨cs, h1, h2⟩
section
variable {H : Type} {enc : TypeId × Value → H} {W : World}
/-- three ints in a row -/
theorem three_of_trod {base : Nat} {sp : Nat → Bool} {held : Bool} {fuel : Nat} {cs : List Value} {x : DataW H × List MemPlace} (h : DataW.trod enc Try.prog W base sp held fuel 23 cs = some x) :
    ∃ a b c : Int, cs = [.int .i64 a, .int .i64 b, .int .i64 c] ∧ okI a ∧ okI b ∧ okI c := by
  obtain ⟨xs, m, rfl, hx, hlen, hn, hel⟩ := DataW.trod_array Try.underlying23 h
  rw [cellsOfT] at hlen
  rw [cellsOfI] at hel
  obtain ⟨c0, c1, c2, rfl⟩ : ∃ c0 c1 c2, cs = [c0, c1, c2] := by
    match cs, hlen with
    | [a, b, c], _ => exact ⟨a, b, c, rfl⟩
  match xs, hn, hel with
  | [x0, x1, x2], _, hel =>
    obtain ⟨a, e1, _, w1⟩ := DataW.trod_int Try.underlying3 (show DataW.trod enc Try.prog W base sp held m 3 [c0] = some x0 from by simpa using hel 0 (by omega))
    obtain ⟨b, e2, _, w2⟩ := DataW.trod_int Try.underlying3 (show DataW.trod enc Try.prog W base sp held m 3 [c1] = some x1 from by simpa using hel 1 (by omega))
    obtain ⟨c, e3, _, w3⟩ := DataW.trod_int Try.underlying3 (show DataW.trod enc Try.prog W base sp held m 3 [c2] = some x2 from by simpa using hel 2 (by omega))
    simp only [List.cons.injEq, and_true] at e1 e2 e3
    exact ⟨a, b, c, by rw [e1, e2, e3], w1, w2, w3⟩
theorem open_times {base : Nat} {r : Reach} {b0 : Nat} {sp : Nat → Bool} {held : Bool} {v : Value} {d : DataW H} {p : List MemPlace} (hv : Value.okWide Try.prog W r b0 23 v) (h : DataW.Trod enc Try.prog W base sp held 23 v d p) :
    ∃ k : Key, v = k3 k ∧ ok3 k := by
  obtain ⟨cs, rfl, hsz⟩ := okWide_array Try.underlying23 hv
  obtain ⟨fuel, hf⟩ := h
  obtain ⟨a, b, c, hc, hk⟩ := three_of_trod hf
  obtain ⟨l⟩ := cs
  simp only [Value.cells] at hc
  subst hc
  exact ⟨⟨a, b, c⟩, rfl, hk⟩
def cellsA (a : AC) : List Value := [.int .u8 a.kind, .int .i64 a.time, .int .i64 a.n, .int .i64 a.key.a, .int .i64 a.key.b, .int .i64 a.key.c]
theorem act_of_trod {base : Nat} {sp : Nat → Bool} {held : Bool} {fuel : Nat} {cs : List Value} {x : DataW H × List MemPlace} (h : DataW.trod enc Try.prog W base sp held fuel 30 cs = some x) :
    ∃ a : AC, cs = cellsA a ∧ okI a.time ∧ okI a.n ∧ ok3 a.key := by
  obtain ⟨xs, m, rfl, hx, hlen, hn, hel⟩ := DataW.trod_struct Try.underlying30 h
  rw [cellsOfA] at hlen
  have e0 : DataW.trod enc Try.prog W base sp held m 5 ((cs.drop 0).take (Try.prog.cellsOf 5)) = xs[0]? := hel 0 _ rfl
  have e1 : DataW.trod enc Try.prog W base sp held m 3 ((cs.drop 1).take (Try.prog.cellsOf 3)) = xs[1]? := hel 1 _ rfl
  have e2 : DataW.trod enc Try.prog W base sp held m 3 ((cs.drop 2).take (Try.prog.cellsOf 3)) = xs[2]? := hel 2 _ rfl
  have e3 : DataW.trod enc Try.prog W base sp held m 23 ((cs.drop 3).take (Try.prog.cellsOf 23)) = xs[3]? := hel 3 _ rfl
  simp only [cellsOfU, cellsOfI, cellsOfT] at e0 e1 e2 e3
  match xs, hn, e0, e1, e2, e3 with
  | [x0, x1, x2, x3], _, e0, e1, e2, e3 =>
    match cs, hlen, e0, e1, e2, e3 with
    | [c0, c1, c2, c3, c4, c5], _, e0, e1, e2, e3 =>
      simp at e0 e1 e2 e3
      obtain ⟨a, h1, _, w1⟩ := DataW.trod_int Try.underlying5 e0
      obtain ⟨b, h2, _, w2⟩ := DataW.trod_int Try.underlying3 e1
      obtain ⟨c, h3, _, w3⟩ := DataW.trod_int Try.underlying3 e2
      obtain ⟨k0, k1, k2, h4, hk⟩ := three_of_trod e3
      simp only [List.cons.injEq, and_true] at h1 h2 h3 h4
      obtain ⟨rfl, rfl, rfl⟩ := h4
      subst h1 h2 h3
      exact ⟨⟨a, b, c, ⟨k0, k1, k2⟩⟩, rfl, w2, w3, hk⟩
theorem open_acts {base : Nat} {r : Reach} {b0 : Nat} {sp : Nat → Bool} {held : Bool} {v : Value} {d : DataW H} {p : List MemPlace} (hv : Value.okWide Try.prog W r b0 22 v) (h : DataW.Trod enc Try.prog W base sp held 22 v d p) :
    ∃ L : List AC, RdA W v L := by
  obtain ⟨a', len', cap', rfl⟩ := okWide_slice Try.underlying22 hv
  obtain ⟨fuel, hf⟩ := h
  rcases open_slice Try.underlying22 hf with ⟨h0, _⟩ | ⟨a, len, cap, m, n, D, Pl, hcs, hb, hl, hm, hmm, hx, hi⟩
  · simp only [Value.cells, List.cons.injEq, Value.slice.injEq, and_true] at h0
    obtain ⟨rfl, rfl, rfl⟩ := h0
    exact ⟨[], none, 0, rfl, (fun x hx => by cases hx), fun h => absurd rfl h⟩
  · simp only [Value.cells, List.cons.injEq, Value.slice.injEq, and_true] at hcs
    obtain ⟨rfl, rfl, rfl⟩ := hcs
    have hlm : len' ≤ m := by rw [hmm]; split <;> omega
    have hall : ∀ i, i < len' → ∃ x : AC, (∀ j u, (cellsA x)[j]? = some u → W.cell? (a.add (i * 6 + j)) = some u) ∧ okI x.time ∧ okI x.n ∧ ok3 x.key := by
      intro i hil
      obtain ⟨cs', hc, ht⟩ := hi i (by omega)
      rw [cellsOfA] at hc
      obtain ⟨x, rfl, hb⟩ := act_of_trod ht
      obtain ⟨_, hcl, hat⟩ := World.cells?_some hc
      refine ⟨x, fun j u hu => ?_, hb⟩
      have hj : j < 6 := by
        have := (List.getElem?_eq_some_iff.1 hu).1
        simpa [cellsA] using this
      rw [← Go.Deep.add_add, hat j hj]
      exact hu
    obtain ⟨f, hf'⟩ : ∃ f : Nat → AC, ∀ i, i < len' → (∀ j u, (cellsA (f i))[j]? = some u → W.cell? (a.add (i * 6 + j)) = some u) ∧ okI (f i).time ∧ okI (f i).n ∧ ok3 (f i).key := by
      refine ⟨fun i => if h : i < len' then (hall i h).choose else ⟨0, 0, 0, ⟨0, 0, 0⟩⟩, fun i hil => ?_⟩
      simp only [hil, dif_pos]
      exact (hall i hil).choose_spec
    refine ⟨(List.range len').map f, some a, cap', by simp, fun x hx => ?_, fun hne => ?_⟩
    · obtain ⟨i, hi', rfl⟩ := List.mem_map.1 hx
      exact (hf' i (List.mem_range.1 hi')).2
    have hl0 : 0 < len' := by
      rcases Nat.eq_zero_or_pos len' with h | h
      · subst h; simp at hne
      · exact h
    have h0 := (hf' 0 hl0).1 0 _ rfl
    obtain ⟨b, off, spot⟩ := a
    have hspot : spot = none := by simpa [Addr.add] using World.cell?_spot h0
    subst hspot
    simp only [add_none] at hf' h0
    refine ⟨b, off, rfl, World.block_lt_of_cell? _ _ h0, fun i x hx => ?_⟩
    rw [List.getElem?_map] at hx
    obtain ⟨y, hy, hyx⟩ := Option.map_eq_some_iff.1 hx
    have hil : i < len' := by
      have := (List.getElem?_eq_some_iff.1 hy).1
      simpa using this
    obtain rfl : i = y := by
      rw [List.getElem?_range hil] at hy
      exact Option.some.inj hy
    subst hyx
    obtain ⟨hc, hb⟩ := hf' i hil
    refine ⟨?_, ?_, ?_, ?_, ?_, ?_⟩
    · exact hc 0 _ rfl
    · have := hc 1 _ rfl; rwa [← Nat.add_assoc] at this
    · have := hc 2 _ rfl; rwa [← Nat.add_assoc] at this
    · have := hc 3 _ rfl; rwa [← Nat.add_assoc] at this
    · have := hc 4 _ rfl; rwa [← Nat.add_assoc] at this
    · have := hc 5 _ rfl; rwa [← Nat.add_assoc] at this
theorem cellsOfS : Try.prog.cellsOf 35 = 2 := by kernel_rfl
theorem span_of_trod {base : Nat} {sp : Nat → Bool} {held : Bool} {fuel : Nat} {cs : List Value} {x : DataW H × List MemPlace} (h : DataW.trod enc Try.prog W base sp held fuel 35 cs = some x) :
    ∃ o c : Int, cs = [.int .i64 o, .int .i64 c] := by
  obtain ⟨xs, m, rfl, hx, hlen, hn, hel⟩ := DataW.trod_struct Try.underlying35 h
  rw [cellsOfS] at hlen
  have e0 : DataW.trod enc Try.prog W base sp held m 3 ((cs.drop 0).take (Try.prog.cellsOf 3)) = xs[0]? := hel 0 _ rfl
  have e1 : DataW.trod enc Try.prog W base sp held m 3 ((cs.drop 1).take (Try.prog.cellsOf 3)) = xs[1]? := hel 1 _ rfl
  simp only [cellsOfI] at e0 e1
  match xs, hn, e0, e1 with
  | [x0, x1], _, e0, e1 =>
    match cs, hlen, e0, e1 with
    | [c0, c1], _, e0, e1 =>
      simp at e0 e1
      obtain ⟨a, h1, _, w1⟩ := DataW.trod_int Try.underlying3 e0
      obtain ⟨b, h2, _, w2⟩ := DataW.trod_int Try.underlying3 e1
      simp only [List.cons.injEq, and_true] at h1 h2
      exact ⟨a, b, by rw [h1, h2]⟩
theorem open_span {base : Nat} {r : Reach} {b0 : Nat} {sp : Nat → Bool} {held : Bool} {v : Value} {d : DataW H} {p : List MemPlace} (hv : Value.okWide Try.prog W r b0 35 v) (h : DataW.Trod enc Try.prog W base sp held 35 v d p) :
    ∃ o c : Int, v = .agg #[.int .i64 o, .int .i64 c] := by
  obtain ⟨cs, rfl, hsz⟩ := okWide_struct Try.underlying35 hv
  obtain ⟨fuel, hf⟩ := h
  obtain ⟨a, b, hc⟩ := span_of_trod hf
  obtain ⟨l⟩ := cs
  simp only [Value.cells] at hc
  subst hc
  exact ⟨a, b, rfl⟩
end
end Go.Proofs.Ytojgbphmkloicaa
