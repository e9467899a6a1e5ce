/- Arguments that are arrays of ints. -/
import Derived.Test.YtfaegjlolhpofaaDoorYa
namespace Go.Proofs.YtfaegjlolhpofaaDoor
open Go.ChangeShapes Go.WideShapes Go.ChangeAt Go.WideMaps Go.WideElems Go.RowKit

theorem okWide_array {P : Program} {w : World} {r : Reach} {base : Nat} {t e : TypeId} {n : Nat} {v : Value} (ht : P.underlying t = some (.array n e)) (h : Value.okWide P w r base t v) : ∃ cs, v = .agg cs ∧ cs.size = P.cellsOf t := by
  simp only [Value.okWide, ht] at h
  obtain ⟨cs, h1, h2, _⟩ := h
  exact ⟨cs, h1, h2⟩

section
variable {H : Type} {enc : TypeId × Value → H} {W : World}
/-- three ints in a row -/
theorem three_of_trod {base : Nat} {sp : Nat → Bool} {held : Bool} {fuel : Nat} {cs : List Value} {x : DataW H × List MemPlace} (h : DataW.trod enc Tryd.prog W base sp held fuel 22 cs = some x) :
    ∃ a b c : Int, cs = [.int .i64 a, .int .i64 b, .int .i64 c] := by
  obtain ⟨xs, m, rfl, hx, hlen, hn, hel⟩ := DataW.trod_array Tryd.underlying22 h
  rw [cellsOf22] at hlen
  rw [cellsOf3] at hel
  obtain ⟨c0, c1, c2, rfl⟩ : ∃ c0 c1 c2, cs = [c0, c1, c2] := by
    match cs, hlen with
    | [a, b, c], _ => exact ⟨a, b, c, rfl⟩
  match xs, hn, hel with
  | [x0, x1, x2], _, hel =>
    obtain ⟨a, e1, _, _⟩ := DataW.trod_int Tryd.underlying3 (show DataW.trod enc Tryd.prog W base sp held m 3 [c0] = some x0 from by simpa using hel 0 (by omega))
    obtain ⟨b, e2, _, _⟩ := DataW.trod_int Tryd.underlying3 (show DataW.trod enc Tryd.prog W base sp held m 3 [c1] = some x1 from by simpa using hel 1 (by omega))
    obtain ⟨c, e3, _, _⟩ := DataW.trod_int Tryd.underlying3 (show DataW.trod enc Tryd.prog W base sp held m 3 [c2] = some x2 from by simpa using hel 2 (by omega))
    simp only [List.cons.injEq, and_true] at e1 e2 e3
    exact ⟨a, b, c, by rw [e1, e2, e3]⟩

theorem open_key {base : Nat} {r : Reach} {b0 : Nat} {sp : Nat → Bool} {held : Bool} {v : Value} {d : DataW H} {p : List MemPlace} (hv : Value.okWide Tryd.prog W r b0 22 v) (h : DataW.Trod enc Tryd.prog W base sp held 22 v d p) :
    ∃ k : Key, v = K3 k.a k.b k.c := by
  obtain ⟨cs, rfl, hsz⟩ := okWide_array Tryd.underlying22 hv
  obtain ⟨fuel, hf⟩ := h
  obtain ⟨a, b, c, hc⟩ := three_of_trod hf
  obtain ⟨l⟩ := cs
  simp only [Value.cells] at hc
  subst hc
  exact ⟨⟨a, b, c⟩, rfl⟩

theorem open_two_keys {base : Nat} {r : Reach} {b0 : Nat} {sp : Nat → Bool} {held : Bool} {v : Value} {d : DataW H} {p : List MemPlace} (hv : Value.okWide Tryd.prog W r b0 23 v) (h : DataW.Trod enc Tryd.prog W base sp held 23 v d p) :
    ∃ x y : Key, v = .agg #[.int .i64 x.a, .int .i64 x.b, .int .i64 x.c, .int .i64 y.a, .int .i64 y.b, .int .i64 y.c] := by
  obtain ⟨cs, rfl, hsz⟩ := okWide_array Tryd.underlying23 hv
  obtain ⟨fuel, hf⟩ := h
  obtain ⟨xs, m, rfl, hx, hlen, hn, hel⟩ := DataW.trod_array Tryd.underlying23 hf
  rw [cellsOf22] at hel
  match xs, hn, hel with
  | [x0, x1], _, hel =>
    obtain ⟨a, b, c, h1⟩ := three_of_trod (show DataW.trod enc Tryd.prog W base sp held m 22 _ = some x0 from hel 0 (by omega))
    obtain ⟨a', b', c', h2⟩ := three_of_trod (show DataW.trod enc Tryd.prog W base sp held m 22 _ = some x1 from hel 1 (by omega))
    obtain ⟨l⟩ := cs
    have c6 : Tryd.prog.cellsOf 23 = 6 := by kernel_rfl
    rw [c6] at hlen
    simp only [Value.cells] at h1 h2 hlen
    match l, hlen with
    | [k0, k1, k2, k3, k4, k5], _ =>
      simp at h1 h2
      obtain ⟨rfl, rfl, rfl⟩ := h1
      obtain ⟨rfl, rfl, rfl⟩ := h2
      exact ⟨⟨a, b, c⟩, ⟨a', b', c'⟩, rfl⟩
end
end Go.Proofs.YtfaegjlolhpofaaDoor
