/- Texts joined: Py. -/
import Derived.ProofKit
import Derived.LaidMore
import Derived.OpenShut
import Derived.Lib.SmallJoins
import Derived.Deep.Slices
import Derived.ChangeSlices
import Derived.SizedLaws
import Derived.ChangeMaps5
import Derived.ChangeOld
import Derived.Below
import Derived.Test.YtiabmdboacpmcaaY17
import Derived.Test.YtiabmdboacpmcaaRows
/- Arguments: bytes, rows of nodes. -/
namespace Go.Proofs.Ytiabmdboacpmcaa
open Go.ChangeShapes Go.WideShapes Go.ChangeAt Go.WideMaps Go.WideElems Go.RowKit Go.Deep

theorem own : ownKnob Try.prog.godebug = none := by kernel_rfl
theorem laidOut : laidOutB Try.prog = true := by kernel_rfl
theorem cellsOf5 : Try.prog.cellsOf 5 = 1 := by kernel_rfl
theorem cellsOf26 : Try.prog.cellsOf 26 = 3 := by kernel_rfl
theorem cellsOf3 : Try.prog.cellsOf 3 = 1 := by kernel_rfl
theorem cellsOf24 : Try.prog.cellsOf 24 = 1 := by kernel_rfl
theorem add_none (b off k : Nat) : (⟨b, off, none⟩ : Addr).add k = ⟨b, off + k, none⟩ := by unfold Addr.add; split <;> simp_all
section
variable {H : Type} {enc : TypeId × Value → H} {W : World}
theorem wf_i64 {n : Int} (h : (Lit.int .i64 n).wf = true) : i64ok n := by
  simp [Lit.wf, IntKind.min, IntKind.max, IntKind.signed, IntKind.bits] at h
  unfold i64ok
  omega
theorem trod_bytes {base : Nat} {sp : Nat → Bool} {held : Bool} {fuel : Nat} {v : Value} {x : DataW H × List MemPlace} (h : DataW.trod enc Try.prog W base sp held fuel 24 [v] = some x) :
    ∃ L : List Nat, RdB W v L ∧ L.length ≤ maxLen := by
  rcases open_ints Try.underlying24 Try.underlying5 cellsOf5 h with ⟨h0, rfl⟩ | ⟨a, len, cap, zs, hcs, hb, hl, hm, hlen, rfl, hcell, hwf⟩
  · simp only [List.cons.injEq, and_true] at h0
    subst h0
    exact ⟨[], ⟨none, 0, rfl, Nat.le_refl _, by simp, fun h => absurd rfl h⟩, Nat.zero_le _⟩
  · simp only [List.cons.injEq, and_true] at hcs
    subst hcs
    have hlm : len ≤ zs.length := by rw [hlen]; split <;> omega
    have hz : ∀ z ∈ zs, 0 ≤ z ∧ z ≤ 255 := fun z hz => by
      exact bounds_u8 (hwf z hz)
    have htl : ((zs.take len).map Int.toNat).length = len := by rw [List.length_map, List.length_take]; omega
    refine ⟨(zs.take len).map Int.toNat, ⟨some a, cap, by rw [htl], by rw [htl]; exact hl, ?_, fun hne => ?_⟩, by rw [htl]; omega⟩
    · intro y hy
      obtain ⟨z, h1, rfl⟩ := List.mem_map.1 hy
      have := hz z (List.mem_of_mem_take h1)
      omega
    · have hl0 : 0 < len := by
        rcases Nat.eq_zero_or_pos len with h | h
        · subst h; simp at hne
        · exact h
      have h0 := hcell 0 (by omega)
      obtain ⟨b, off, spot⟩ := a
      have hspot : spot = none := by simpa [Addr.add] using World.cell?_spot h0
      subst hspot
      rw [add_none] at h0
      refine ⟨b, off, rfl, World.block_lt_of_cell? _ _ h0, fun i y hi => ?_⟩
      rw [List.getElem?_map] at hi
      obtain ⟨z, hz1, rfl⟩ := Option.map_eq_some_iff.1 hi
      have hil : i < len := by
        have := (List.getElem?_eq_some_iff.1 hz1).1
        simp at this; omega
      rw [List.getElem?_take, if_pos hil] at hz1
      have := hcell i (by omega)
      rw [add_none] at this
      rw [this]
      have h2 := hz z (List.mem_of_getElem? hz1)
      simp [List.getD, hz1]
      omega
set_option maxRecDepth 100000 in
theorem open_bytes {base : Nat} {r : Reach} {b0 : Nat} {sp : Nat → Bool} {held : Bool} {v : Value} {d : DataW H} {p : List MemPlace} (hv : Value.okWide Try.prog W r b0 24 v) (h : DataW.Trod enc Try.prog W base sp held 24 v d p) :
    ∃ L : List Nat, RdB W v L ∧ L.length ≤ maxLen := by
  obtain ⟨a, len, cap, rfl⟩ := okWide_slice Try.underlying24 hv
  obtain ⟨fuel, hf⟩ := h
  exact trod_bytes hf
set_option maxRecDepth 100000 in
theorem open_nodes {base : Nat} {r : Reach} {b0 : Nat} {sp : Nat → Bool} {held : Bool} {v : Value} {d : DataW H} {p : List MemPlace} (hv : Value.okWide Try.prog W r b0 22 v) (h : DataW.Trod enc Try.prog W base sp held 22 v d p) :
    ∃ L : List Nd, RdNd W v L ∧ L.length ≤ maxLen := by
  obtain ⟨a0, len0, cap0, rfl⟩ := okWide_slice Try.underlying22 hv
  obtain ⟨fuel, hf⟩ := h
  rcases open_slice Try.underlying22 hf with ⟨h0, _⟩ | ⟨a, len, cap, m, n, D, Pl, hcs, hb, hl, hm, hmm, hx, hi⟩
  · simp only [Value.cells, List.cons.injEq, Value.slice.injEq, and_true] at h0
    obtain ⟨rfl, rfl, rfl⟩ := h0
    exact ⟨[], ⟨none, 0, rfl, Nat.le_refl _, by simp, fun h => absurd rfl h⟩, Nat.zero_le _⟩
  · simp only [Value.cells, List.cons.injEq, Value.slice.injEq, and_true] at hcs
    obtain ⟨rfl, rfl, rfl⟩ := hcs
    have hlm : len0 ≤ m := by rw [hmm]; split <;> omega
    have hall : ∀ i, i < len0 → ∃ x : Nd, (i64ok x.1 ∧ i64ok x.2.1 ∧ x.2.2.length ≤ maxLen) ∧ W.cell? (a.add (i * 3)) = some (.int .i64 x.1) ∧ W.cell? (a.add (i * 3 + 1)) = some (.int .i64 x.2.1) ∧ ∃ s, W.cell? (a.add (i * 3 + 2)) = some s ∧ RdB W s x.2.2 := by
      intro i hil
      obtain ⟨cs', h1, h2⟩ := hi i (by omega)
      rw [cellsOf26] at h1
      obtain ⟨_, hlen, hcell⟩ := World.cells?_some h1
      obtain ⟨y0, y1, y2, k, hxy, _, g0, g1, g2⟩ := trod_struct3 Try.underlying26 h2
      match cs', hlen with
      | [v0, v1, v2], _ =>
        have e0 := hcell 0 (by omega)
        have e1 := hcell 1 (by omega)
        have e2 := hcell 2 (by omega)
        rw [add_add] at e0 e1 e2
        simp [cellsOf3, cellsOf24] at g0 g1 g2
        obtain ⟨n0, hn0, -, w0⟩ := DataW.trod_int Try.underlying3 g0
        obtain ⟨n1, hn1, -, w1⟩ := DataW.trod_int Try.underlying3 g1
        obtain ⟨L, hL, hLm⟩ := trod_bytes g2
        simp only [List.cons.injEq, and_true] at hn0 hn1
        subst hn0 hn1
        exact ⟨(n0, n1, L), ⟨wf_i64 w0, wf_i64 w1, hLm⟩, by simpa using e0, by simpa using e1, v2, by simpa using e2, hL⟩
    obtain ⟨f, hf'⟩ : ∃ f : Nat → Nd, ∀ i, i < len0 → (i64ok (f i).1 ∧ i64ok (f i).2.1 ∧ (f i).2.2.length ≤ maxLen) ∧ W.cell? (a.add (i * 3)) = some (.int .i64 (f i).1) ∧ W.cell? (a.add (i * 3 + 1)) = some (.int .i64 (f i).2.1) ∧ ∃ s, W.cell? (a.add (i * 3 + 2)) = some s ∧ RdB W s (f i).2.2 := by
      refine ⟨fun i => if h : i < len0 then (hall i h).choose else (0, 0, []), fun i hil => ?_⟩
      simp only [hil, dif_pos]
      exact (hall i hil).choose_spec
    refine ⟨(List.range len0).map f, ⟨some a, cap0, by simp, by simp; exact hl, fun x hx => ?_, fun hne => ?_⟩, by simp; omega⟩
    · obtain ⟨i, hi', rfl⟩ := List.mem_map.1 hx
      exact (hf' i (List.mem_range.1 hi')).1
    · have hl0 : 0 < len0 := by
        rcases Nat.eq_zero_or_pos len0 with h | h
        · subst h; simp at hne
        · exact h
      have h0 := (hf' 0 hl0).2.1
      obtain ⟨b, off, spot⟩ := a
      have hspot : spot = none := by simpa [Addr.add] using World.cell?_spot h0
      subst hspot
      rw [add_none] at h0
      refine ⟨b, off, rfl, World.block_lt_of_cell? _ _ h0, fun i L hL => ?_⟩
      rw [List.getElem?_map] at hL
      obtain ⟨y, hy, hyx⟩ := Option.map_eq_some_iff.1 hL
      have hil : i < len0 := by
        have := (List.getElem?_eq_some_iff.1 hy).1
        simpa using this
      obtain rfl : i = y := by
        rw [List.getElem?_range hil] at hy
        exact Option.some.inj hy
      subst hyx
      obtain ⟨_, k1, k2, s, k3, k4⟩ := hf' i hil
      rw [add_none] at k1 k2 k3
      exact ⟨k1, by simpa [Nat.add_assoc] using k2, s, by simpa [Nat.add_assoc] using k3, k4⟩
end
end Go.Proofs.Ytiabmdboacpmcaa
