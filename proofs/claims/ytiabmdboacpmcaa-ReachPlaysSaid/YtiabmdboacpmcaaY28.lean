/- Texts joined: Hx La Lb Lc Ld Le Lf. -/
import Derived.Test.YtiabmdboacpmcaaY27
import Derived.Deep.Fields
import Derived.ChangeSame
import Derived.Test.YtiabmdboacpmcaaY25
import Derived.Test.YtiabmdboacpmcaaY11
import Derived.Test.YtiabmdboacpmcaaY16
import Derived.ChangeKeysEq
import Derived.Test.YtiabmdboacpmcaaY19
/- Arguments: acts. -/
namespace Go.Proofs.Ytiabmdboacpmcaa
open Go.ChangeShapes Go.WideShapes Go.ChangeAt Go.WideMaps Go.WideElems Go.RowKit Go.Deep

set_option maxRecDepth 100000
theorem cellsOfA : Try.prog.cellsOf 82 = 5 := by kernel_rfl
theorem cellsOfT : Try.prog.cellsOf 73 = 3 := by kernel_rfl
theorem cellsOfI : Try.prog.cellsOf 3 = 1 := by kernel_rfl
theorem cellsOfU : Try.prog.cellsOf 5 = 1 := by kernel_rfl
theorem cellsOfT2 : Try.prog.cellsOf 78 = 2 := by kernel_rfl
theorem cellsOfT3 : Try.prog.cellsOf 94 = 2 := by kernel_rfl
theorem okWide_array {P : Program} {w : World} {r : Reach} {base : Nat} {t e : TypeId} {n : Nat} {v : Value} (ht : P.underlying t = some (.array n e)) (h : Value.okWide P w r base t v) : ∃ cs, v = .agg cs ∧ cs.size = P.cellsOf t := by
  simp only [Value.okWide, ht] at h
  obtain ⟨cs, h1, h2, _⟩ := h
  exact ⟨cs, h1, h2⟩
section
variable {H : Type} {enc : TypeId × Value → H} {W : World}
/-- three ints in a row -/
theorem three_of_trod {base : Nat} {sp : Nat → Bool} {held : Bool} {fuel : Nat} {cs : List Value} {x : DataW H × List MemPlace} (h : DataW.trod enc Try.prog W base sp held fuel 73 cs = some x) :
    ∃ a b c : Int, cs = [.int .i64 a, .int .i64 b, .int .i64 c] ∧ okI a ∧ okI b ∧ okI c := by
  obtain ⟨xs, m, rfl, hx, hlen, hn, hel⟩ := DataW.trod_array Try.underlying73 h
  rw [cellsOfT] at hlen
  rw [cellsOfI] at hel
  obtain ⟨c0, c1, c2, rfl⟩ : ∃ c0 c1 c2, cs = [c0, c1, c2] := by
    match cs, hlen with
    | [a, b, c], _ => exact ⟨a, b, c, rfl⟩
  match xs, hn, hel with
  | [x0, x1, x2], _, hel =>
    obtain ⟨a, e1, _, w1⟩ := DataW.trod_int Try.underlying3 (show DataW.trod enc Try.prog W base sp held m 3 [c0] = some x0 from by simpa using hel 0 (by omega))
    obtain ⟨b, e2, _, w2⟩ := DataW.trod_int Try.underlying3 (show DataW.trod enc Try.prog W base sp held m 3 [c1] = some x1 from by simpa using hel 1 (by omega))
    obtain ⟨c, e3, _, w3⟩ := DataW.trod_int Try.underlying3 (show DataW.trod enc Try.prog W base sp held m 3 [c2] = some x2 from by simpa using hel 2 (by omega))
    simp only [List.cons.injEq, and_true] at e1 e2 e3
    exact ⟨a, b, c, by rw [e1, e2, e3], w1, w2, w3⟩
theorem open_times {base : Nat} {r : Reach} {b0 : Nat} {sp : Nat → Bool} {held : Bool} {v : Value} {d : DataW H} {p : List MemPlace} (hv : Value.okWide Try.prog W r b0 73 v) (h : DataW.Trod enc Try.prog W base sp held 73 v d p) :
    ∃ k : Key, v = k3 k ∧ ok3 k := by
  obtain ⟨cs, rfl, hsz⟩ := okWide_array Try.underlying73 hv
  obtain ⟨fuel, hf⟩ := h
  obtain ⟨a, b, c, hc, hk⟩ := three_of_trod hf
  obtain ⟨l⟩ := cs
  simp only [Value.cells] at hc
  subst hc
  exact ⟨⟨a, b, c⟩, rfl, hk⟩
def cellsA (a : AR) : List Value := [.int .u8 a.kind, .int .i64 a.key.a, .int .i64 a.key.b, .int .i64 a.key.c, .int .i64 a.till]
theorem act_of_trod {base : Nat} {sp : Nat → Bool} {held : Bool} {fuel : Nat} {cs : List Value} {x : DataW H × List MemPlace} (h : DataW.trod enc Try.prog W base sp held fuel 82 cs = some x) :
    ∃ a : AR, cs = cellsA a ∧ ok3 a.key ∧ okI a.till := by
  obtain ⟨xs, m, rfl, hx, hlen, hn, hel⟩ := DataW.trod_struct Try.underlying82 h
  rw [cellsOfA] at hlen
  have e0 : DataW.trod enc Try.prog W base sp held m 5 ((cs.drop 0).take (Try.prog.cellsOf 5)) = xs[0]? := hel 0 _ rfl
  have e1 : DataW.trod enc Try.prog W base sp held m 73 ((cs.drop 1).take (Try.prog.cellsOf 73)) = xs[1]? := hel 1 _ rfl
  have e2 : DataW.trod enc Try.prog W base sp held m 3 ((cs.drop 4).take (Try.prog.cellsOf 3)) = xs[2]? := hel 2 _ rfl
  simp only [cellsOfU, cellsOfI, cellsOfT] at e0 e1 e2
  match xs, hn, e0, e1, e2 with
  | [x0, x1, x2], _, e0, e1, e2 =>
    match cs, hlen, e0, e1, e2 with
    | [c0, c1, c2, c3, c4], _, e0, e1, e2 =>
      simp at e0 e1 e2
      obtain ⟨a, h1, _, w1⟩ := DataW.trod_int Try.underlying5 e0
      obtain ⟨k0, k1, k2, h4, hk⟩ := three_of_trod e1
      obtain ⟨b, h2, _, w2⟩ := DataW.trod_int Try.underlying3 e2
      simp only [List.cons.injEq, and_true] at h1 h2 h4
      obtain ⟨rfl, rfl, rfl⟩ := h4
      subst h1 h2
      exact ⟨⟨a, ⟨k0, k1, k2⟩, b⟩, rfl, hk, w2⟩
theorem open_acts {base : Nat} {r : Reach} {b0 : Nat} {sp : Nat → Bool} {held : Bool} {v : Value} {d : DataW H} {p : List MemPlace} (hv : Value.okWide Try.prog W r b0 60 v) (h : DataW.Trod enc Try.prog W base sp held 60 v d p) :
    ∃ L : List AR, RdAR W v L := by
  obtain ⟨a', len', cap', rfl⟩ := okWide_slice Try.underlying60 hv
  obtain ⟨fuel, hf⟩ := h
  rcases open_slice Try.underlying60 hf with ⟨h0, _⟩ | ⟨a, len, cap, m, n, D, Pl, hcs, hb, hl, hm, hmm, hx, hi⟩
  · simp only [Value.cells, List.cons.injEq, Value.slice.injEq, and_true] at h0
    obtain ⟨rfl, rfl, rfl⟩ := h0
    exact ⟨[], none, 0, rfl, (fun x hx => by cases hx), fun h => absurd rfl h⟩
  · simp only [Value.cells, List.cons.injEq, Value.slice.injEq, and_true] at hcs
    obtain ⟨rfl, rfl, rfl⟩ := hcs
    have hlm : len' ≤ m := by rw [hmm]; split <;> omega
    have hall : ∀ i, i < len' → ∃ x : AR, (∀ j u, (cellsA x)[j]? = some u → W.cell? (a.add (i * 5 + j)) = some u) ∧ ok3 x.key ∧ okI x.till := by
      intro i hil
      obtain ⟨cs', hc, ht⟩ := hi i (by omega)
      rw [cellsOfA] at hc
      obtain ⟨x, rfl, hb⟩ := act_of_trod ht
      obtain ⟨_, hcl, hat⟩ := World.cells?_some hc
      refine ⟨x, fun j u hu => ?_, hb⟩
      have hj : j < 5 := by
        have := (List.getElem?_eq_some_iff.1 hu).1
        simpa [cellsA] using this
      rw [← Go.Deep.add_add, hat j hj]
      exact hu
    obtain ⟨f, hf'⟩ : ∃ f : Nat → AR, ∀ i, i < len' → (∀ j u, (cellsA (f i))[j]? = some u → W.cell? (a.add (i * 5 + j)) = some u) ∧ ok3 (f i).key ∧ okI (f i).till := by
      refine ⟨fun i => if h : i < len' then (hall i h).choose else ⟨0, ⟨0, 0, 0⟩, 0⟩, fun i hil => ?_⟩
      simp only [hil, dif_pos]
      exact (hall i hil).choose_spec
    refine ⟨(List.range len').map f, some a, cap', by simp, fun x hx => ?_, fun hne => ?_⟩
    · obtain ⟨i, hi', rfl⟩ := List.mem_map.1 hx
      exact (hf' i (List.mem_range.1 hi')).2
    have hl0 : 0 < len' := by
      rcases Nat.eq_zero_or_pos len' with h | h
      · subst h; simp at hne
      · exact h
    have h0 := (hf' 0 hl0).1 0 _ rfl
    obtain ⟨b, off, spot⟩ := a
    have hspot : spot = none := by simpa [Addr.add] using World.cell?_spot h0
    subst hspot
    simp only [add_none] at hf' h0
    refine ⟨b, off, rfl, World.block_lt_of_cell? _ _ h0, fun i x hx => ?_⟩
    rw [List.getElem?_map] at hx
    obtain ⟨y, hy, hyx⟩ := Option.map_eq_some_iff.1 hx
    have hil : i < len' := by
      have := (List.getElem?_eq_some_iff.1 hy).1
      simpa using this
    obtain rfl : i = y := by
      rw [List.getElem?_range hil] at hy
      exact Option.some.inj hy
    subst hyx
    obtain ⟨hc, hb⟩ := hf' i hil
    refine ⟨?_, ?_, ?_, ?_, ?_⟩
    · exact hc 0 _ rfl
    · have := hc 1 _ rfl; rwa [← Nat.add_assoc] at this
    · have := hc 2 _ rfl; rwa [← Nat.add_assoc] at this
    · have := hc 3 _ rfl; rwa [← Nat.add_assoc] at this
    · have := hc 4 _ rfl; rwa [← Nat.add_assoc] at this
/-- two ints in a row -/
theorem two_of_trod {base : Nat} {sp : Nat → Bool} {held : Bool} {fuel : Nat} {cs : List Value} {x : DataW H × List MemPlace} (h : DataW.trod enc Try.prog W base sp held fuel 78 cs = some x) :
    ∃ a b : Int, cs = [.int .i64 a, .int .i64 b] ∧ okI a ∧ okI b := by
  obtain ⟨xs, m, rfl, hx, hlen, hn, hel⟩ := DataW.trod_array Try.underlying78 h
  rw [cellsOfT2] at hlen
  rw [cellsOfI] at hel
  match cs, hlen with
  | [c0, c1], _ =>
  match xs, hn, hel with
  | [x0, x1], _, hel =>
    obtain ⟨a, e1, _, w1⟩ := DataW.trod_int Try.underlying3 (show DataW.trod enc Try.prog W base sp held m 3 [c0] = some x0 from by simpa using hel 0 (by omega))
    obtain ⟨b, e2, _, w2⟩ := DataW.trod_int Try.underlying3 (show DataW.trod enc Try.prog W base sp held m 3 [c1] = some x1 from by simpa using hel 1 (by omega))
    simp only [List.cons.injEq, and_true] at e1 e2
    exact ⟨a, b, by rw [e1, e2], w1, w2⟩
theorem open_two {base : Nat} {r : Reach} {b0 : Nat} {sp : Nat → Bool} {held : Bool} {v : Value} {d : DataW H} {p : List MemPlace} (hv : Value.okWide Try.prog W r b0 78 v) (h : DataW.Trod enc Try.prog W base sp held 78 v d p) :
    ∃ a b : Int, v = .agg #[.int .i64 a, .int .i64 b] ∧ okI a ∧ okI b := by
  obtain ⟨cs, rfl, hsz⟩ := okWide_array Try.underlying78 hv
  obtain ⟨fuel, hf⟩ := h
  obtain ⟨a, b, hc, hk⟩ := two_of_trod hf
  obtain ⟨l⟩ := cs
  simp only [Value.cells] at hc
  subst hc
  exact ⟨a, b, rfl, hk⟩
/-- two bytes in a row -/
theorem twoU_of_trod {base : Nat} {sp : Nat → Bool} {held : Bool} {fuel : Nat} {cs : List Value} {x : DataW H × List MemPlace} (h : DataW.trod enc Try.prog W base sp held fuel 94 cs = some x) :
    ∃ a b : Nat, cs = [.int .u8 (a : Int), .int .u8 (b : Int)] ∧ a ≤ 255 ∧ b ≤ 255 := by
  obtain ⟨xs, m, rfl, hx, hlen, hn, hel⟩ := DataW.trod_array Try.underlying94 h
  rw [cellsOfT3] at hlen
  rw [cellsOfU] at hel
  match cs, hlen with
  | [c0, c1], _ =>
  match xs, hn, hel with
  | [x0, x1], _, hel =>
    obtain ⟨a, e1, _, w1⟩ := DataW.trod_int Try.underlying5 (show DataW.trod enc Try.prog W base sp held m 5 [c0] = some x0 from by simpa using hel 0 (by omega))
    obtain ⟨b, e2, _, w2⟩ := DataW.trod_int Try.underlying5 (show DataW.trod enc Try.prog W base sp held m 5 [c1] = some x1 from by simpa using hel 1 (by omega))
    simp only [List.cons.injEq, and_true] at e1 e2
    have b1 : 0 ≤ a ∧ a ≤ 255 := bounds_u8 w1
    have b2 : 0 ≤ b ∧ b ≤ 255 := bounds_u8 w2
    obtain ⟨a', rfl⟩ := Int.eq_ofNat_of_zero_le b1.1
    obtain ⟨b', rfl⟩ := Int.eq_ofNat_of_zero_le b2.1
    exact ⟨a', b', by rw [e1, e2], by omega, by omega⟩
theorem open_twoU {base : Nat} {r : Reach} {b0 : Nat} {sp : Nat → Bool} {held : Bool} {v : Value} {d : DataW H} {p : List MemPlace} (hv : Value.okWide Try.prog W r b0 94 v) (h : DataW.Trod enc Try.prog W base sp held 94 v d p) :
    ∃ a b : Nat, v = .agg #[.int .u8 (a : Int), .int .u8 (b : Int)] ∧ a ≤ 255 ∧ b ≤ 255 := by
  obtain ⟨cs, rfl, hsz⟩ := okWide_array Try.underlying94 hv
  obtain ⟨fuel, hf⟩ := h
  obtain ⟨a, b, hc, hk⟩ := twoU_of_trod hf
  obtain ⟨l⟩ := cs
  simp only [Value.cells] at hc
  subst hc
  exact ⟨a, b, rfl, hk⟩
end
end Go.Proofs.Ytiabmdboacpmcaa
/- Matrices in memory: empty, place, better. -/
namespace Go.Proofs.Ytiabmdboacpmcaa
open Go Go.RowKit Go.Sort
set_option maxHeartbeats 4000000

/-- rows below k of a matrix: outer block g, rows' blocks gs -/
structure MatK (H n k g : Nat) (gs : Nat → Nat) (m : Mx) (w : World) : Prop where
  outer : ∃ cs, w.heap[g]? = some (.cells cs 140 (0, 0)) ∧ n ≤ cs.size ∧ ∀ i, i < k → cs[i]? = some (.slice (some ⟨gs i, 0, none⟩) n n)
  inner : ∀ i, i < k → ∃ cs, w.heap[gs i]? = some (.cells cs 139 (0, 0)) ∧ ∀ j, j < n → cs[j * 2]? = some (.bool (m i j).isSome) ∧ cs[j * 2 + 1]? = some (.int .i64 ((m i j).getD 0))
  inj : ∀ i j, i < k → j < k → gs i = gs j → i = j
  low : H ≤ g ∧ ∀ i, i < k → H ≤ gs i
abbrev MatAt (H n g : Nat) (gs : Nat → Nat) (m : Mx) (w : World) : Prop := MatK H n n g gs m w
abbrev mval (g n : Nat) : Value := .slice (some ⟨g, 0, none⟩) n n
theorem matK_upd {H n k g : Nat} {gs : Nat → Nat} {m : Mx} {w w' : World} {fp : Nat → Prop} (h : MatK H n k g gs m w) (hU : Upd fp w w') (hg : ¬ fp g) (hgs : ∀ i, i < k → ¬ fp (gs i)) : MatK H n k g gs m w' := by
  obtain ⟨cs, h1, h2, h3⟩ := h.outer
  refine ⟨⟨cs, (hU.block g (block_lt h1) hg).trans h1, h2, h3⟩, fun i hi => ?_, h.inj, h.low⟩
  obtain ⟨c, h4, h5⟩ := h.inner i hi
  exact ⟨c, (hU.block _ (block_lt h4) (hgs i hi)).trans h4, h5⟩
theorem matK_ext {H n k g : Nat} {gs : Nat → Nat} {m : Mx} {w w' : World} (h : MatK H n k g gs m w) (hE : Ext w w') : MatK H n k g gs m w' := matK_upd h (upd_of_ext (fp := fun _ => False) hE) (fun h => h) (fun _ _ h => h)
theorem matK_congr {H n k g : Nat} {gs : Nat → Nat} {m m' : Mx} {w : World} (h : MatK H n k g gs m w) (hm : ∀ i j, i < k → j < n → m i j = m' i j) : MatK H n k g gs m' w := by
  refine ⟨h.outer, fun i hi => ?_, h.inj, h.low⟩
  obtain ⟨c, h4, h5⟩ := h.inner i hi
  exact ⟨c, h4, fun j hj => by rw [← hm i j hi hj]; exact h5 j hj⟩
theorem matK_low {H H' n k g : Nat} {gs : Nat → Nat} {m : Mx} {w : World} (h : MatK H n k g gs m w) (hh : H' ≤ H) : MatK H' n k g gs m w := ⟨h.outer, h.inner, h.inj, ⟨Nat.le_trans hh h.low.1, fun i hi => Nat.le_trans hh (h.low.2 i hi)⟩⟩
theorem matK_zero {H n g : Nat} {gs : Nat → Nat} {m : Mx} {w : World} {cs : Array Value} (h : w.heap[g]? = some (.cells cs 140 (0, 0))) (hs : n ≤ cs.size) (hl : H ≤ g) : MatK H n 0 g gs m w :=
  ⟨⟨cs, h, hs, fun i hi => absurd hi (Nat.not_lt_zero i)⟩, fun i hi => absurd hi (Nat.not_lt_zero i), fun i _ hi => absurd hi (Nat.not_lt_zero i), hl, fun i hi => absurd hi (Nat.not_lt_zero i)⟩
/-- one row more -/
theorem matK_step {H n k g : Nat} {gs : Nat → Nat} {m : Mx} {w : World} {c0 : Array Value} (h : MatK H n k g gs m w) (hk : k < n) (hH : H ≤ w.heap.size) (hc : ∀ j, j < n → c0[j * 2]? = some (.bool (m k j).isSome) ∧ c0[j * 2 + 1]? = some (.int .i64 ((m k j).getD 0))) :
    MatK H n (k + 1) g (fun i => if i = k then w.heap.size else gs i) m ((w.setCell ⟨g, k, none⟩ (.slice (some ⟨w.heap.size, 0, none⟩) n n)).alloc (.cells c0 139)) := by
  obtain ⟨cs, h1, h2, h3⟩ := h.outer
  have hg := block_lt h1
  have hU0 : Upd (fun b => b = g) w (w.setCell ⟨g, k, none⟩ (.slice (some ⟨w.heap.size, 0, none⟩) n n)) := upd_setCell (a := ⟨g, k, none⟩) _
  have hE : Ext (w.setCell ⟨g, k, none⟩ (.slice (some ⟨w.heap.size, 0, none⟩) n n)) ((w.setCell ⟨g, k, none⟩ (.slice (some ⟨w.heap.size, 0, none⟩) n n)).alloc (.cells c0 139)) := ext_alloc (ext_refl _) _
  have hsz : (w.setCell ⟨g, k, none⟩ (.slice (some ⟨w.heap.size, 0, none⟩) n n)).heap.size = w.heap.size := by simp [World.setCell]
  have hne : ∀ i, i < k → gs i ≠ g := fun i hi e => by
    obtain ⟨c, h4, _⟩ := h.inner i hi
    rw [e, h1] at h4
    simp only [Option.some.injEq, Obj.cells.injEq] at h4
    exact absurd h4.2.1 (by decide)
  have hlt : ∀ i, i < k → gs i < w.heap.size := fun i hi => by
    obtain ⟨c, h4, _⟩ := h.inner i hi
    exact block_lt h4
  refine ⟨⟨_, (ext_block hE (by omega)).trans (heap_setCell_at h1), by simpa using h2, fun i hi => ?_⟩, fun i hi => ?_, fun i j hi hj e => ?_, h.low.1, fun i hi => ?_⟩
  · by_cases e : i = k
    · subst e
      rw [if_pos rfl, Array.getElem?_setIfInBounds_self_of_lt (by omega)]
    · rw [if_neg e, Array.getElem?_setIfInBounds_ne (fun e' => e e'.symm)]
      exact h3 i (by omega)
  · by_cases e : i = k
    · subst e
      rw [if_pos rfl]
      have h5 := heap_alloc_new (w.setCell ⟨g, i, none⟩ (.slice (some ⟨w.heap.size, 0, none⟩) n n)) (.cells c0 139)
      rw [hsz] at h5
      exact ⟨c0, h5, hc⟩
    · rw [if_neg e]
      obtain ⟨c, h4, h5⟩ := h.inner i (by omega)
      have h6 := block_lt h4
      exact ⟨c, (ext_block hE (by omega)).trans ((hU0.block _ h6 (hne i (by omega))).trans h4), h5⟩
  · by_cases e1 : i = k
    · by_cases e2 : j = k
      · rw [e1, e2]
      · rw [if_pos e1, if_neg e2] at e
        have := hlt j (by omega)
        omega
    · by_cases e2 : j = k
      · rw [if_neg e1, if_pos e2] at e
        have := hlt i (by omega)
        omega
      · rw [if_neg e1, if_neg e2] at e
        exact h.inj i j (by omega) (by omega) e
  · by_cases e : i = k
    · rw [if_pos e]; exact hH
    · rw [if_neg e]; exact h.low.2 i (by omega)
def setM (m : Mx) (i j : Nat) (c : Option Int) : Mx := fun i' j' => if i' = i ∧ j' = j then c else m i' j'
/-- a cell laid anew -/
theorem mat_set {H n g : Nat} {gs : Nat → Nat} {m : Mx} {w : World} {i j : Nat} {c : Option Int} (h : MatAt H n g gs m w) (hi : i < n) (hj : j < n) :
    MatAt H n g gs (setM m i j c) ((w.setCell ⟨gs i, j * 2, none⟩ (.bool c.isSome)).setCell ⟨gs i, j * 2 + 1, none⟩ (.int .i64 (c.getD 0))) ∧ Upd (fun b => b = gs i) w ((w.setCell ⟨gs i, j * 2, none⟩ (.bool c.isSome)).setCell ⟨gs i, j * 2 + 1, none⟩ (.int .i64 (c.getD 0))) := by
  have hU : Upd (fun b => b = gs i) w ((w.setCell ⟨gs i, j * 2, none⟩ (.bool c.isSome)).setCell ⟨gs i, j * 2 + 1, none⟩ (.int .i64 (c.getD 0))) := upd_trans (upd_setCell (a := ⟨gs i, j * 2, none⟩) _) (upd_setCell (a := ⟨gs i, j * 2 + 1, none⟩) _) (fun _ _ h => h)
  refine ⟨?_, hU⟩
  obtain ⟨cs, h1, h2, h3⟩ := h.outer
  obtain ⟨c1, h4, h5⟩ := h.inner i hi
  have hne : g ≠ gs i := fun e => by
    rw [← e, h1] at h4
    simp only [Option.some.injEq, Obj.cells.injEq] at h4
    exact absurd h4.2.1 (by decide)
  refine ⟨⟨cs, (hU.block g (block_lt h1) hne).trans h1, h2, h3⟩, fun i' hi' => ?_, h.inj, h.low⟩
  by_cases e : i' = i
  · subst e
    refine ⟨_, heap_setCell_at (heap_setCell_at h4), fun j' hj' => ?_⟩
    have hb := h5 j' hj'
    have hb0 := (Array.getElem?_eq_some_iff.1 hb.1).1
    have hb1 := (Array.getElem?_eq_some_iff.1 hb.2).1
    unfold setM
    by_cases e2 : j' = j
    · subst e2
      rw [if_pos ⟨rfl, rfl⟩]
      constructor
      · rw [Array.getElem?_setIfInBounds_ne (by omega), Array.getElem?_setIfInBounds_self_of_lt hb0]
      · rw [Array.getElem?_setIfInBounds_self_of_lt (by simpa using hb1)]
    · rw [if_neg (fun c => e2 c.2)]
      constructor
      · rw [Array.getElem?_setIfInBounds_ne (by omega), Array.getElem?_setIfInBounds_ne (by omega)]; exact hb.1
      · rw [Array.getElem?_setIfInBounds_ne (by omega), Array.getElem?_setIfInBounds_ne (by omega)]; exact hb.2
  · obtain ⟨c2, h6, h7⟩ := h.inner i' hi'
    refine ⟨c2, (hU.block _ (block_lt h6) (fun e' => e (h.inj i' i hi' hi e'))).trans h6, fun j' hj' => ?_⟩
    unfold setM
    rw [if_neg (fun c => e c.1)]
    exact h7 j' hj'
/-- what the walk loads -/
structure CellAt (g n : Nat) (gi i j : Nat) (c : Option Int) (w : World) : Prop where
  row : w.cell? ⟨g, i, none⟩ = some (.slice (some ⟨gi, 0, none⟩) n n)
  ok : w.cell? ⟨gi, j * 2, none⟩ = some (.bool c.isSome)
  til : w.cell? ⟨gi, j * 2 + 1, none⟩ = some (.int .i64 (c.getD 0))
  fz : w.frozen? ⟨gi, j * 2, none⟩ = false ∧ w.frozen? ⟨gi, j * 2 + 1, none⟩ = false
  lg : g < w.heap.size
  li : gi < w.heap.size
theorem mat_cell {H n g : Nat} {gs : Nat → Nat} {m : Mx} {w : World} (h : MatAt H n g gs m w) {i j : Nat} (hi : i < n) (hj : j < n) : CellAt g n (gs i) i j (m i j) w := by
  obtain ⟨cs, h1, h2, h3⟩ := h.outer
  obtain ⟨c, h4, h5⟩ := h.inner i hi
  exact ⟨by rw [block_cell h1]; exact h3 i hi, by rw [block_cell h4]; exact (h5 j hj).1, by rw [block_cell h4]; exact (h5 j hj).2, ⟨block_frozen h4 _, block_frozen h4 _⟩, block_lt h1, block_lt h4⟩
theorem cellAt_ext {g n gi i j : Nat} {c : Option Int} {w w' : World} (h : CellAt g n gi i j c w) (hE : Ext w w') : CellAt g n gi i j c w' :=
  ⟨(ext_cell hE _ _ h.lg).trans h.row, (ext_cell hE _ _ h.li).trans h.ok, (ext_cell hE _ _ h.li).trans h.til, ⟨(ext_frozen hE _ _ h.li).trans h.fz.1, (ext_frozen hE _ _ h.li).trans h.fz.2⟩, ext_lt hE h.lg, ext_lt hE h.li⟩
set_option maxRecDepth 100000 in
theorem make_rowsC (n : Nat) (hn : n ≤ 1000) : ∃ c0 : Array Value, n ≤ c0.size ∧ ∀ w : World, Sem.run Try.prog (Instr.makeSlice 136 (.int .i64 (n : Int)) (.int .i64 (n : Int))) w = .ok (mval w.heap.size n) (w.alloc (.cells c0 140)) := by
  have hi : (Try.prog.info? 140) = some ((Try.prog.info? 140).get (by kernel_rfl)) := (Option.some_get _).symm
  have hsz : ((Try.prog.info? 140).get (by kernel_rfl)).size = 1 := by kernel_rfl
  have hz : ((Try.prog.info? 140).get (by kernel_rfl)).zero = some (.slice none 0 0) := by kernel_rfl
  have hby : ((Try.prog.info? 140).get (by kernel_rfl)).bytes = 24 := by kernel_rfl
  refine ⟨madeCells (Value.slice none 0 0).cells (n * 1), by simp [madeCells], fun w => ?_⟩
  have h := run_makeSlice (P := Try.prog) w 136 140 _ (.slice none 0 0) Try.underlying136 hi hz .i64 .i64 (n : Int) (n : Int) (by omega) (Int.le_refl _) (by rw [hsz]; simp; omega) (by rw [hby]; omega) (by omega)
  rw [hsz, Int.toNat_natCast] at h
  exact h
set_option maxRecDepth 100000 in
theorem make_cellsC (n : Nat) (hn : n ≤ 1000) : ∃ c0 : Array Value, (∀ j, j < n → c0[j * 2]? = some (.bool false) ∧ c0[j * 2 + 1]? = some (.int .i64 0)) ∧ ∀ w : World, Sem.run Try.prog (Instr.makeSlice 140 (.int .i64 (n : Int)) (.int .i64 (n : Int))) w = .ok (mval w.heap.size n) (w.alloc (.cells c0 139)) := by
  have hi : (Try.prog.info? 139) = some ((Try.prog.info? 139).get (by kernel_rfl)) := (Option.some_get _).symm
  have hsz : ((Try.prog.info? 139).get (by kernel_rfl)).size = 2 := by kernel_rfl
  have hz : ((Try.prog.info? 139).get (by kernel_rfl)).zero = some (.agg #[.bool false, .int .i64 0]) := by kernel_rfl
  have hby : ((Try.prog.info? 139).get (by kernel_rfl)).bytes = 16 := by kernel_rfl
  refine ⟨madeCells (Value.agg #[.bool false, .int .i64 0]).cells (n * 2), fun j hj => ?_, fun w => ?_⟩
  · have h1 : j * 2 < n * 2 := by omega
    have h2 : j * 2 + 1 < n * 2 := by omega
    have h3 : (j * 2) % 2 = 0 := by omega
    have h4 : (j * 2 + 1) % 2 = 1 := by omega
    constructor <;> simp [madeCells, Value.cells, h1, h2, h3, h4]
  · have h := run_makeSlice (P := Try.prog) w 140 139 _ (.agg #[.bool false, .int .i64 0]) Try.underlying140 hi hz .i64 .i64 (n : Int) (n : Int) (by omega) (Int.le_refl _) (by rw [hsz]; simp; omega) (by rw [hby]; omega) (by omega)
    rw [hsz, Int.toNat_natCast] at h
    exact h
def MatTo (n : Nat) (m : Mx) (w : World) (e : Ending) (w' : World) : Prop := ∃ g gs, e = .returned (mval g n) ∧ MatAt w.heap.size n g gs m w' ∧ Ext w w'
set_option maxRecDepth 100000 in
theorem empty_mat (n : Nat) (w : World) (hn : n ≤ 200) : Calls Try.prog 98 #[.int .i64 (n : Int)] w (MatTo n noneM w) := by
  obtain ⟨c0, hc0, hmk⟩ := make_rowsC n (by omega)
  obtain ⟨c1, hc1, hmk1⟩ := make_cellsC n (by omega)
  have HC0 := Lib.hid hc0
  have HC1 := Lib.hid hc1
  obtain ⟨g, hg⟩ : ∃ g, g = w.heap.size := ⟨_, rfl⟩
  obtain ⟨W, hW⟩ : ∃ W, W = w.alloc (.cells c0 140) := ⟨_, rfl⟩
  have HW := Lib.hid (And.intro hW hg)
  have HE0 := Lib.hid (show Ext w W by rw [hW]; exact ext_alloc (ext_refl _) _)
  have HM0 := Lib.hid (show MatK w.heap.size n 0 g (fun _ => 0) noneM W from matK_zero (by rw [hW, hg]; exact heap_alloc_new _ _) hc0 (by rw [hg]; exact Nat.le_refl _))
  clear hc0 hc1 hW hg
  go_enter Try.func98, Try.ntmps98
  go_wp2
  rw [← HW.out.1, ← HW.out.2]
  go_loopw [9] (fun y wr => ∃ (k : Nat) (gs : Nat → Nat), k ≤ n ∧ y = .int .i64 (k : Int) ∧ MatK w.heap.size n k g gs noneM wr ∧ Ext w wr) (fun y _ => n - (intOf y).toNat)
  case atStart => exact ⟨0, _, by omega, rfl, HM0.out, HE0.out⟩
  case round =>
    rename World => wr
    obtain ⟨k, gs, hk, rfl, hM, hE⟩ := hrel
    have HM := Lib.hid hM
    have HE := Lib.hid hE
    by_cases hlt : k < n
    · have hki : (k : Int) < (n : Int) := by omega
      have hk0 : (0 : Int) ≤ (k : Int) := by omega
      obtain ⟨cs, h1, h2, h3⟩ := hM.outer
      have hks : k < cs.size := by omega
      have q0 : wr.cell? ⟨g, k, none⟩ = some cs[k] := by rw [block_cell h1, Array.getElem?_eq_getElem hks]
      have f0 : wr.frozen? ⟨g, k, none⟩ = false := block_frozen h1 _
      have lg := block_lt h1
      have HN := Lib.hid (matK_step hM hlt (ext_size hE) (fun j hj => by simpa [noneM] using HC1.out j hj))
      have HEN := Lib.hid (show Ext w ((wr.setCell ⟨g, k, none⟩ (.slice (some ⟨wr.heap.size, 0, none⟩) n n)).alloc (.cells c1 139)) from ext_alloc (ext_set hE (by rw [HW.out.2]; exact Nat.le_refl _) _) _)
      clear hM hE h1 h2 h3
      go_wp2
      go_roundw
      case rel => exact ⟨k + 1, _, by omega, by go_num, HN.out, HEN.out⟩
      case measure => simp [intOf]; omega
    · have HK := Lib.hid (show k = n by omega)
      have HF := Lib.hid (show MatTo n noneM w (.returned (mval g n)) wr from ⟨g, gs, rfl, by rw [HK.out] at hM; exact hM, hE⟩)
      have hnl : ¬ (k : Int) < (n : Int) := by omega
      clear hM hE
      go_wp2
      refine bodyPost_ret (results_tmp rfl _ _ _) rfl ?_
      exact HF.out
/-- a cell -/
abbrev cv (c : Option Int) : Value := .agg #[.bool c.isSome, .int .i64 (c.getD 0)]
set_option maxRecDepth 100000 in
theorem better_any (a b : Option Int) (w : World) : Calls Try.prog 100 #[cv a, cv b] w fun e w' => e = .returned (cv (betO a b)) ∧ Ext w w' := by
  have HE := Lib.hid (ext_alloc (ext_alloc (ext_refl w) (.cells #[.bool a.isSome, .int .i64 (a.getD 0)] 139)) (.cells #[.bool b.isSome, .int .i64 (b.getD 0)] 139))
  have HX : ∀ z : Obj, Hid (Ext w (((w.alloc (.cells #[.bool a.isSome, .int .i64 (a.getD 0)] 139)).alloc (.cells #[.bool b.isSome, .int .i64 (b.getD 0)] 139)).alloc z)) := fun z => Lib.hid (ext_alloc HE.out z)
  cases a with
  | none =>
    cases b with
    | none =>
      have HR := Lib.hid (show betO none none = none from rfl)
      go_enter Try.func100, Try.ntmps100
      go_wp2
      refine bodyPost_ret (v := cv none) (by simp [results, Try.results100, go_sem]) rfl ?_
      exact ⟨by rw [HR.out], (HX _).out⟩
    | some y =>
      have HR := Lib.hid (show betO none (some y) = some y from rfl)
      go_enter Try.func100, Try.ntmps100
      go_wp2
      refine bodyPost_ret (v := cv (some y)) (by simp [results, Try.results100, go_sem]) rfl ?_
      exact ⟨by rw [HR.out], (HX _).out⟩
  | some x =>
    cases b with
    | none =>
      have HR := Lib.hid (show betO (some x) none = some x from rfl)
      go_enter Try.func100, Try.ntmps100
      go_wp2
      refine bodyPost_ret (v := cv (some x)) (by simp [results, Try.results100, go_sem]) rfl ?_
      exact ⟨by rw [HR.out], (HX _).out⟩
    | some y =>
      by_cases hxy : x < y
      · have HR := Lib.hid (show betO (some x) (some y) = some y from by simp [betO, hxy])
        go_enter Try.func100, Try.ntmps100
        go_wp2
        refine bodyPost_ret (v := cv (some y)) (by simp [results, Try.results100, go_sem]) rfl ?_
        exact ⟨by rw [HR.out], (HX _).out⟩
      · have HR := Lib.hid (show betO (some x) (some y) = some x from by simp [betO, hxy])
        go_enter Try.func100, Try.ntmps100
        go_wp2
        refine bodyPost_ret (v := cv (some x)) (by simp [results, Try.results100, go_sem]) rfl ?_
        exact ⟨by rw [HR.out], (HX _).out⟩
set_option maxRecDepth 100000 in
theorem place_any (L : List Int) (v : Value) (x : Int) (i : Nat) (w : World) (h : rowE elJ w v L) (hx : L[i]? = some x) (hf : ∀ j, j < i → L[j]? ≠ some x) (hl : L.length ≤ 1000) : Calls Try.prog 99 #[v, .int .i64 x] w fun e w' => e = .returned (.int .i64 (i : Int)) ∧ w' = w := by
  have HROW := Lib.hid h
  have HX := Lib.hid hx
  have HF := Lib.hid hf
  obtain ⟨A, c, rfl⟩ := rowE_form h
  obtain ⟨n, hn⟩ : ∃ n, n = L.length := ⟨_, rfl⟩
  rw [← hn] at HROW ⊢
  have HN := Lib.hid hn
  have hin : i < n := by rw [hn]; exact (List.getElem?_eq_some_iff.1 hx).1
  obtain ⟨gn, rfl, lgn⟩ := rowE_some HROW.out (fun e => by rw [e] at hx; simp at hx)
  have hn1 : n ≤ 1000 := by omega
  clear h hx hf hn hl
  go_enter Try.func99, Try.ntmps99
  go_wp2
  go_loopw [5] (fun y wr => ∃ j : Nat, j ≤ i ∧ y = .int .i64 (j : Int) ∧ w = wr) (fun y _ => n - (intOf y).toNat)
  case atStart => exact ⟨0, by omega, rfl, rfl⟩
  case round =>
    obtain ⟨j, hj, rfl, rfl⟩ := hrel
    have hj0 : (0 : Int) ≤ (j : Int) := by omega
    have hji : (j : Int) < (n : Int) := by omega
    obtain ⟨y, hy⟩ : ∃ y, L[j]? = some y := ⟨_, List.getElem?_eq_getElem (by rw [← HN.out]; omega)⟩
    have y0 := rowJ_cell HROW.out hy
    have HY := Lib.hid hy
    clear hy
    by_cases hlt : j < i
    · have hne : (y != x) = true := by
        have h5 := HF.out j hlt
        rw [HY.out] at h5
        simpa using fun e : y = x => h5 (by rw [e])
      go_wp2
      go_roundw
      case rel => exact ⟨j + 1, by omega, by go_num, by first | rfl | trivial⟩
      case measure => simp [intOf]; omega
    · have HJ := Lib.hid (show j = i by omega)
      have hyx : y = x := by
        have h5 := HX.out
        rw [← HJ.out, HY.out] at h5
        exact Option.some.inj h5
      have hne : (y != x) = false := by rw [hyx]; simp
      subst hyx
      go_wp2
      refine bodyPost_ret (results_tmp rfl _ _ _) rfl ?_
      exact ⟨by rw [HJ.out]; rfl, rfl⟩
end Go.Proofs.Ytiabmdboacpmcaa
/- Matrices in memory: self, either, both, same. -/
namespace Go.Proofs.Ytiabmdboacpmcaa
open Go Go.RowKit Go.Sort
set_option maxHeartbeats 4000000

/-- a matrix, its rows below i as they will be -/
def rowsM (i : Nat) (a b : Mx) : Mx := fun i' j' => if i' < i then a i' j' else b i' j'
theorem mat_eq {H n g : Nat} {gs : Nat → Nat} {m m' : Mx} {w : World} (h : MatAt H n g gs m w) (hm : ∀ i j, i < n → j < n → m i j = m' i j) : MatAt H n g gs m' w := matK_congr h hm
def selfU (k : Nat) : Mx := fun i j => if i < k ∧ i = j then some forever else none
theorem selfU_step (k : Nat) (i j : Nat) : setM (selfU k) k k (some forever) i j = selfU (k + 1) i j := by
  unfold setM selfU
  by_cases e : i = k ∧ j = k
  · rw [if_pos e, if_pos ⟨by omega, by omega⟩]
  · rw [if_neg e]
    by_cases e2 : i < k ∧ i = j
    · rw [if_pos e2, if_pos ⟨by omega, e2.2⟩]
    · rw [if_neg e2, if_neg (fun c => by omega)]
set_option maxRecDepth 100000 in
theorem self_mat (n : Nat) (w : World) (hn : n ≤ 200) : Calls Try.prog 101 #[.int .i64 (n : Int)] w (MatTo n selfM w) := by
  have hbd := fun (w : World) => run_build (P := Try.prog) w 139 #[(0, .bool true), (1, .int .i64 4611686018427387904)] #[.bool true, .int .i64 4611686018427387904] (by kernel_rfl)
  have HBD := Lib.hid hbd
  clear hbd
  go_enter Try.func101, Try.ntmps101
  go_wp2_with fail
  refine (empty_mat n w hn).mono ?_
  rintro e w1 ⟨g, gs, rfl, hM0, hE0⟩
  have HM0 := Lib.hid hM0
  have HE0 := Lib.hid hE0
  clear hM0 hE0
  go_wp2
  go_loopw [9] (fun y wr => ∃ k : Nat, k ≤ n ∧ y = .int .i64 (k : Int) ∧ MatAt w.heap.size n g gs (selfU k) wr ∧ Ext w wr) (fun y _ => n - (intOf y).toNat)
  case atStart => exact ⟨0, by omega, rfl, mat_eq HM0.out (fun i j _ _ => by unfold selfU noneM; rw [if_neg (fun c => by omega)]), HE0.out⟩
  case round =>
    rename World => wr
    obtain ⟨k, hk, rfl, hM, hE⟩ := hrel
    have HM := Lib.hid hM
    have HE := Lib.hid hE
    clear hM hE
    by_cases hlt : k < n
    · have hki : (k : Int) < (n : Int) := by omega
      have hk0 : (0 : Int) ≤ (k : Int) := by omega
      obtain ⟨q0, c0, c1, ⟨f0, f1⟩, lg, li⟩ := mat_cell HM.out hlt hlt
      obtain ⟨hm2, hu2⟩ := mat_set (c := some forever) HM.out hlt hlt
      have HM2 := Lib.hid (mat_eq hm2 (fun i j _ _ => selfU_step k i j))
      have HE2 := Lib.hid (show Ext w ((wr.setCell ⟨gs k, k * 2, none⟩ (.bool true)).setCell ⟨gs k, k * 2 + 1, none⟩ (.int .i64 4611686018427387904)) from ext_of_upd (upd_trans (upd_of_ext HE.out) hu2 (fun i hi e => by have h5 := HM.out.low.2 k hlt; have e' : i = gs k := e; omega)))
      have hbd := HBD.out
      clear hm2 hu2
      go_wp2
      go_roundw
      case rel => exact ⟨k + 1, by omega, by go_num, HM2.out, HE2.out⟩
      case measure => simp [intOf]; omega
    · have HK := Lib.hid (show k = n by omega)
      have HF := Lib.hid (show MatTo n selfM w (.returned (mval g n)) wr from ⟨g, gs, rfl, mat_eq HM.out (fun i j hi _ => by unfold selfU selfM; rw [HK.out]; by_cases e : i = j <;> simp [e] <;> omega), HE.out⟩)
      have hnl : ¬ (k : Int) < (n : Int) := by omega
      go_wp2
      refine bodyPost_ret (results_tmp rfl _ _ _) rfl ?_
      exact HF.out
end Go.Proofs.Ytiabmdboacpmcaa
/- Matrices in memory: either. -/
namespace Go.Proofs.Ytiabmdboacpmcaa
open Go Go.RowKit Go.Sort
set_option maxHeartbeats 4000000

/-- cells laid up to a place, row by row -/
def uptoM (i j : Nat) (m : Mx) : Mx := fun i' j' => if i' < i ∨ i' = i ∧ j' < j then m i' j' else none
theorem upto_zero (m : Mx) (i j : Nat) : noneM i j = uptoM 0 0 m i j := by
  unfold noneM uptoM
  rw [if_neg (fun c => by omega)]
theorem upto_step (m : Mx) (i j i' j' : Nat) : setM (uptoM i j m) i j (m i j) i' j' = uptoM i (j + 1) m i' j' := by
  unfold setM uptoM
  by_cases e : i' = i ∧ j' = j
  · rw [if_pos e, if_pos (by omega), e.1, e.2]
  · rw [if_neg e]
    by_cases e2 : i' < i ∨ i' = i ∧ j' < j
    · rw [if_pos e2, if_pos (by omega)]
    · rw [if_neg e2, if_neg (fun c => by omega)]
theorem upto_row {n : Nat} (m : Mx) {i i' j' : Nat} (hj : j' < n) : uptoM i n m i' j' = uptoM (i + 1) 0 m i' j' := by
  unfold uptoM
  by_cases e2 : i' < i ∨ i' = i ∧ j' < n
  · rw [if_pos e2, if_pos (by omega)]
  · rw [if_neg e2, if_neg (fun c => by omega)]
theorem upto_all {n : Nat} (m : Mx) {i' j' : Nat} (hi : i' < n) : uptoM n 0 m i' j' = m i' j' := by
  unfold uptoM
  rw [if_pos (by omega)]
set_option maxRecDepth 100000 in
theorem either_mat (n ga gb Ha Hb : Nat) (gsa gsb : Nat → Nat) (a b : Mx) (w : World) (hA : MatAt Ha n ga gsa a w) (hB : MatAt Hb n gb gsb b w) (hn : n ≤ 200) : Calls Try.prog 103 #[mval ga n, mval gb n] w (MatTo n (eithM a b) w) := by
  have HA := Lib.hid hA
  have HB := Lib.hid hB
  clear hA hB
  go_enter Try.func103, Try.ntmps103
  go_wp2_with fail
  refine (empty_mat n w hn).mono ?_
  rintro e w1 ⟨g, gs, rfl, hM0, hE0⟩
  have HM0 := Lib.hid hM0
  have HE0 := Lib.hid hE0
  clear hM0 hE0
  go_wp2
  go_loopw [13] (fun y wr => ∃ i : Nat, i ≤ n ∧ y = .int .i64 (i : Int) ∧ MatAt w.heap.size n g gs (uptoM i 0 (eithM a b)) wr ∧ Ext w wr) (fun y _ => n - (intOf y).toNat)
  case atStart => exact ⟨0, by omega, rfl, mat_eq HM0.out (fun i j _ _ => upto_zero _ i j), HE0.out⟩
  case round =>
    rename World => wi
    obtain ⟨i, hi, rfl, hM, hE⟩ := hrel
    have HM := Lib.hid hM
    have HE := Lib.hid hE
    clear hM hE
    by_cases hlt : i < n
    · have hii : (i : Int) < (n : Int) := by omega
      have hi0 : (0 : Int) ≤ (i : Int) := by omega
      go_wp2
      go_loopw [18] (fun y wr => ∃ j : Nat, j ≤ n ∧ y = .int .i64 (j : Int) ∧ MatAt w.heap.size n g gs (uptoM i j (eithM a b)) wr ∧ Ext w wr) (fun y _ => n - (intOf y).toNat)
      case atStart => exact ⟨0, by omega, rfl, HM.out, HE.out⟩
      case round =>
        rename World => wr
        obtain ⟨j, hj, rfl, hM, hE⟩ := hrel
        have HMJ := Lib.hid hM
        have HEJ := Lib.hid hE
        clear hM hE
        by_cases hlt2 : j < n
        · have hjj : (j : Int) < (n : Int) := by omega
          have hj0 : (0 : Int) ≤ (j : Int) := by omega
          obtain ⟨q0, c0, c1, -, lg, li⟩ := mat_cell HMJ.out hlt hlt2
          obtain ⟨qa0, a0, a1, -, lga, lia⟩ := mat_cell (matK_ext HA.out HEJ.out) hlt hlt2
          obtain ⟨qb0, b0, b1, -, lgb, lib⟩ := mat_cell (matK_ext HB.out HEJ.out) hlt hlt2
          obtain ⟨x, hx⟩ : ∃ x, x = a i j := ⟨_, rfl⟩
          obtain ⟨y, hy⟩ : ∃ x, x = b i j := ⟨_, rfl⟩
          rw [← hx] at a0 a1
          rw [← hy] at b0 b1
          have HXY := Lib.hid (show betO x y = eithM a b i j by rw [hx, hy]; rfl)
          have HC := Lib.hid (fun w' => better_any x y w')
          clear hx hy
          have hgc := cell_grown
          go_wp2
          refine wp_region_mix [] [0, 1, 2, 3, 4, 5, 6, 7, 8, 9, 10, 11, 12, 13, 14, 15, 16, 17, 18, 19, 20] [] [21] (by kernel_rfl) (by kernel_rfl) (fun _ _ d _ _ h => by cases d <;> exact h) ?_
          refine wpPre_nil ?_
          repeat (refine wpLoose_step rfl (fun K hK => ?_); (try simp only [Oper.quietAt, Oper.quietUpon]); go_simp; first | (refine hK _ ?_; clear hK K) | (apply Exists.intro; refine ⟨fun p => ?_, hK _ ?_⟩; (go_at_call 100; exact HC.out _); clear hK K))
          refine wpLoose_nil (wpFresh_nil (fun w2 hE2 _ => ?_))
          try simp only [List.drop_succ_cons, List.drop_zero]
          clear q0 c0 c1 lg li qa0 a0 a1 lga lia qb0 b0 b1 lgb lib hgc
          have hm2 := matK_ext HMJ.out hE2
          obtain ⟨q0, c0, c1, ⟨f0, f1⟩, lg, li⟩ := mat_cell hm2 hlt hlt2
          obtain ⟨hm3, hu3⟩ := mat_set (c := betO x y) hm2 hlt hlt2
          have HM3 := Lib.hid (mat_eq hm3 (m' := uptoM i (j + 1) (eithM a b)) (fun i' j' _ _ => by rw [HXY.out]; exact upto_step (eithM a b) i j i' j'))
          have HE3 := Lib.hid (ext_of_upd (upd_trans (upd_of_ext (ext_trans HEJ.out hE2)) hu3 (fun k hk e => by have h5 := hm2.low.2 i hlt; have e' : k = gs i := e; omega)))
          clear hm2 hm3 hu3 hE2
          refine wpSeq_of_list [21] [_] _ _ rfl ?_
          go_wp2
          go_roundw
          case rel => exact ⟨j + 1, by omega, by go_num, HM3.out, HE3.out⟩
          case measure => simp [intOf]; omega
        · have HK := Lib.hid (show j = n by omega)
          have hnl : ¬ (j : Int) < (n : Int) := by omega
          have HM3 := Lib.hid (mat_eq HMJ.out (m' := uptoM (i + 1) 0 (eithM a b)) (fun i' j' _ h => by rw [HK.out]; exact upto_row _ h))
          go_wp2
          go_roundw
          case rel => exact ⟨i + 1, by omega, by go_num, HM3.out, HEJ.out⟩
          case measure => simp [intOf]; omega
    · have HK := Lib.hid (show i = n by omega)
      have HF := Lib.hid (show MatTo n (eithM a b) w (.returned (mval g n)) wi from ⟨g, gs, rfl, mat_eq HM.out (fun i' j' h _ => by rw [HK.out]; exact upto_all _ h), HE.out⟩)
      have hnl : ¬ (i : Int) < (n : Int) := by omega
      go_wp2
      refine bodyPost_ret (results_tmp rfl _ _ _) rfl ?_
      exact HF.out
end Go.Proofs.Ytiabmdboacpmcaa
/- Matrices in memory: both. -/
namespace Go.Proofs.Ytiabmdboacpmcaa
open Go Go.RowKit Go.Sort Go.WideMaps Go.Maps
set_option maxHeartbeats 4000000

theorem set_none {m : Mx} {i j : Nat} (h : m i j = none) (i' j' : Nat) : m i' j' = setM m i j none i' j' := by
  unfold setM
  by_cases e : i' = i ∧ j' = j
  · rw [if_pos e, e.1, e.2, h]
  · rw [if_neg e]
theorem set_set {m : Mx} {i j : Nat} {c d : Option Int} {i' j' : Nat} : setM (setM m i j c) i j d i' j' = setM m i j d i' j' := by
  unfold setM
  by_cases e : i' = i ∧ j' = j
  · rw [if_pos e, if_pos e]
  · rw [if_neg e, if_neg e, if_neg e]
theorem betO_none (c : Option Int) : betO c none = c := by cases c <;> rfl
theorem minO_nl (c : Option Int) : minO none c = none := by cases c <;> rfl
theorem minO_nr (c : Option Int) : minO c none = none := by cases c <;> rfl
theorem fold_more (a b : Mx) (i j k : Nat) : foldO (fun k => minO (a i k) (b k j)) (List.range (k + 1)) none = betO (foldO (fun k => minO (a i k) (b k j)) (List.range k) none) (minO (a i k) (b k j)) := by
  rw [List.range_succ, foldO_snoc]
set_option maxRecDepth 100000 in
theorem both_mat (n ga gb Ha Hb : Nat) (gsa gsb : Nat → Nat) (a b : Mx) (w : World) (hA : MatAt Ha n ga gsa a w) (hB : MatAt Hb n gb gsb b w) (hn : n ≤ 200) : Calls Try.prog 102 #[mval ga n, mval gb n] w (MatTo n (bothM n a b) w) := by
  have HA := Lib.hid hA
  have HB := Lib.hid hB
  clear hA hB
  go_enter Try.func102, Try.ntmps102
  go_wp2_with fail
  refine (empty_mat n w hn).mono ?_
  rintro e w1 ⟨g, gs, rfl, hM0, hE0⟩
  have HM0 := Lib.hid hM0
  have HE0 := Lib.hid hE0
  clear hM0 hE0
  go_wp2
  go_loopw [15] (fun y wr => ∃ i : Nat, i ≤ n ∧ y = .int .i64 (i : Int) ∧ MatAt w.heap.size n g gs (uptoM i 0 (bothM n a b)) wr ∧ Ext w wr) (fun y _ => n - (intOf y).toNat)
  case atStart => exact ⟨0, by omega, rfl, mat_eq HM0.out (fun i j _ _ => upto_zero _ i j), HE0.out⟩
  case round =>
    rename World => wi
    obtain ⟨i, hi, rfl, hM, hE⟩ := hrel
    have HM := Lib.hid hM
    have HE := Lib.hid hE
    clear hM hE
    by_cases hlt : i < n
    · have hii : (i : Int) < (n : Int) := by omega
      have hi0 : (0 : Int) ≤ (i : Int) := by omega
      go_wp2
      go_loopw [20] (fun y wr => ∃ j : Nat, j ≤ n ∧ y = .int .i64 (j : Int) ∧ MatAt w.heap.size n g gs (uptoM i j (bothM n a b)) wr ∧ Ext w wr) (fun y _ => n - (intOf y).toNat)
      case atStart => exact ⟨0, by omega, rfl, HM.out, HE.out⟩
      case round =>
        rename World => wj
        obtain ⟨j, hj, rfl, hM, hE⟩ := hrel
        have HMJ := Lib.hid hM
        have HEJ := Lib.hid hE
        clear hM hE
        by_cases hlt2 : j < n
        · have hjj : (j : Int) < (n : Int) := by omega
          have hj0 : (0 : Int) ≤ (j : Int) := by omega
          go_wp2
          go_loopw [25] (fun y wr => ∃ k : Nat, k ≤ n ∧ y = .int .i64 (k : Int) ∧ MatAt w.heap.size n g gs (setM (uptoM i j (bothM n a b)) i j (foldO (fun k => minO (a i k) (b k j)) (List.range k) none)) wr ∧ Ext w wr) (fun y _ => n - (intOf y).toNat)
          case atStart => exact ⟨0, by omega, rfl, mat_eq HMJ.out (fun i' j' _ _ => set_none (by unfold uptoM; rw [if_neg (fun c => by omega)]) i' j'), HEJ.out⟩
          case round =>
            rename World => wr
            obtain ⟨k, hk, rfl, hM, hE⟩ := hrel
            have HMK := Lib.hid hM
            have HEK := Lib.hid hE
            clear hM hE
            by_cases hlt3 : k < n
            · have hkk : (k : Int) < (n : Int) := by omega
              have hk0 : (0 : Int) ≤ (k : Int) := by omega
              obtain ⟨qa0, a0, a1, -, lga, lia⟩ := mat_cell (matK_ext HA.out HEK.out) hlt hlt3
              obtain ⟨qb0, b0, b1, -, lgb, lib⟩ := mat_cell (matK_ext HB.out HEK.out) hlt3 hlt2
              obtain ⟨x, hx⟩ : ∃ x, x = a i k := ⟨_, rfl⟩
              obtain ⟨y, hy⟩ : ∃ x, x = b k j := ⟨_, rfl⟩
              rw [← hx] at a0 a1
              rw [← hy] at b0 b1
              have HF := Lib.hid (show foldO (fun k => minO (a i k) (b k j)) (List.range (k + 1)) none = betO (foldO (fun k => minO (a i k) (b k j)) (List.range k) none) (minO x y) from by rw [fold_more, hx, hy])
              have HXY := Lib.hid (And.intro hx hy)
              clear hx hy
              cases x with
              | none =>
                have HM5 := Lib.hid (mat_eq HMK.out (m' := setM (uptoM i j (bothM n a b)) i j (foldO (fun k => minO (a i k) (b k j)) (List.range (k + 1)) none)) (fun i' j' _ _ => by rw [HF.out, minO_nl, betO_none]))
                go_wp2
                go_roundw
                case rel => exact ⟨k + 1, by omega, by go_num, HM5.out, HEK.out⟩
                case measure => simp [intOf]; omega
              | some x =>
                cases y with
                | none =>
                  have HM5 := Lib.hid (mat_eq HMK.out (m' := setM (uptoM i j (bothM n a b)) i j (foldO (fun k => minO (a i k) (b k j)) (List.range (k + 1)) none)) (fun i' j' _ _ => by rw [HF.out, minO_nr, betO_none]))
                  go_wp2
                  go_roundw
                  case rel => exact ⟨k + 1, by omega, by go_num, HM5.out, HEK.out⟩
                  case measure => simp [intOf]; omega
                | some y =>
                  obtain ⟨W, hW⟩ : ∃ W, W = wr.alloc (.cells #[.bool true, .int .i64 x] 139) := ⟨_, rfl⟩
                  have hEW : Ext wr W := by rw [hW]; exact ext_alloc (ext_refl _) _
                  obtain ⟨bc, hbc⟩ : ∃ b, b = wr.heap.size := ⟨_, rfl⟩
                  have hBC : W.heap[bc]? = some (.cells #[.bool true, .int .i64 x] 139 (0, 0)) := by rw [hW, hbc]; exact heap_alloc_new _ _
                  have HW := Lib.hid (And.intro hW hbc)
                  have HEW0 := Lib.hid hEW
                  have HBC := Lib.hid hBC
                  go_wp2
                  rw [← HW.out.1, ← HW.out.2]
                  clear qa0 a0 a1 lga lia qb0 b0 b1 lgb lib
                  obtain ⟨qb0, b0, b1, -, lgb, lib⟩ := mat_cell (matK_ext HB.out (ext_trans HEK.out hEW)) hlt3 hlt2
                  rw [← HXY.out.2] at b0 b1
                  have k0 := block_cell hBC 0
                  have k1 := block_cell hBC 1
                  have lk := block_lt hBC
                  have hgc := cell_grown
                  clear hEW hBC hW hbc
                  refine wp_region_free 11 [0, 1, 2, 3, 4, 5, 6, 7, 8, 9, 10] [] (by kernel_rfl) (by kernel_rfl) ?_
                  repeat (refine wpLoose_step rfl (fun K hK => ?_); (try simp only [Oper.quietAt, Oper.quietUpon]); go_simp; (refine hK _ ?_; clear hK K))
                  refine wpLoose_nil (wpFresh_nil (fun W2 hE2 _ => ?_))
                  simp only [List.drop_succ_cons, List.drop_zero]
                  have HE2 := Lib.hid hE2
                  have hbc2 := (ext_block hE2 (block_lt HBC.out)).trans HBC.out
                  have hm2 := matK_ext HMK.out (ext_trans HEW0.out hE2)
                  have hew2 := ext_trans HEK.out (ext_trans HEW0.out hE2)
                  clear qb0 b0 b1 lgb lib k0 k1 lk hgc hE2
                  obtain ⟨cu, hcu⟩ : ∃ c, c = foldO (fun k => minO (a i k) (b k j)) (List.range k) none := ⟨_, rfl⟩
                  obtain ⟨qb0, b0, b1, -, lgb, lib⟩ := mat_cell (matK_ext HB.out hew2) hlt3 hlt2
                  rw [← HXY.out.2] at b0 b1
                  have HCU := Lib.hid (show cu = setM (uptoM i j (bothM n a b)) i j (foldO (fun k => minO (a i k) (b k j)) (List.range k) none) i j from by rw [hcu]; unfold setM; rw [if_pos ⟨rfl, rfl⟩])
                  have HFC := Lib.hid (show foldO (fun k => minO (a i k) (b k j)) (List.range (k + 1)) none = betO cu (minO (some x) (some y)) from by rw [HF.out, hcu])
                  have hwr : wr.heap.size ≤ bc := by rw [HW.out.2]; exact Nat.le_refl _
                  by_cases hyx : y < x
                  · obtain ⟨mn, hmn⟩ : ∃ m, m = y := ⟨_, rfl⟩
                    have HNX := Lib.hid (show foldO (fun k => minO (a i k) (b k j)) (List.range (k + 1)) none = betO cu (some mn) from by rw [HFC.out, hmn]; simp [minO, hyx])
                    obtain ⟨W3, hW3⟩ : ∃ W3, W3 = (W2.setCell ⟨bc, 1, none⟩ (.int .i64 y)) := ⟨_, rfl⟩
                    have hU3 : Upd (fun b => b = bc) W2 W3 := by rw [hW3]; exact upd_setCell (a := ⟨bc, 1, none⟩) _
                    have HBW := Lib.hid (show W3.heap[bc]? = some (.cells #[.bool true, .int .i64 mn] 139 (0, 0)) from by rw [hW3, hmn]; exact heap_setCell_at (j := 1) (u := .int .i64 y) hbc2)
                    have hnb : ∀ q, q < wr.heap.size → ¬ (q = bc) := fun q hq e => by omega
                    have HMW := Lib.hid (matK_upd hm2 hU3 (hnb _ (by obtain ⟨cs, h1, _⟩ := HMK.out.outer; exact block_lt h1)) (fun q hq => hnb _ (by obtain ⟨cs, h1, _⟩ := HMK.out.inner q hq; exact block_lt h1)))
                    have HEW := Lib.hid (show Ext w W3 from ext_of_upd (upd_trans (upd_of_ext hew2) hU3 (fun q hq e => by have e' : q = bc := e; have := ext_size HEK.out; omega)))
                    have HW3 := Lib.hid hW3
                    have k0 := block_cell hbc2 0
                    have k1 := block_cell hbc2 1
                    have fk := block_frozen hbc2 1
                    have lk := block_lt hbc2
                    have qa0 := trivial
                    have a0 := trivial
                    have a1 := trivial
                    have lga := trivial
                    have lia := trivial
                    have q0 := trivial
                    have c0 := trivial
                    have c1 := trivial
                    have lg := trivial
                    have li := trivial
                    clear hW3 hU3 hnb hmn hbc2 hm2 hew2 hcu hwr
                    go_wp2
                    rw [← HW3.out]
                    clear q0 c0 c1 lg li qa0 a0 a1 lga lia qb0 b0 b1 lgb lib k0 k1 fk lk
                    obtain ⟨q0, c0, c1, -, lg, li⟩ := mat_cell HMW.out hlt hlt2
                    rw [← HCU.out] at c0 c1
                    have k0 := block_cell HBW.out 0
                    have k1 := block_cell HBW.out 1
                    have lk := block_lt HBW.out
                    have HC := Lib.hid (fun w' => better_any cu (some mn) w')
                    have hgc := cell_grown
                    refine wp_region_mix [] [0, 1, 2, 3, 4, 5, 6, 7, 8, 9, 10, 11, 12, 13, 14] [] [15] (by kernel_rfl) (by kernel_rfl) (fun _ _ d _ _ h => by cases d <;> exact h) ?_
                    refine wpPre_nil ?_
                    repeat (refine wpLoose_step rfl (fun K hK => ?_); (try simp only [Oper.quietAt, Oper.quietUpon]); go_simp; first | (refine hK _ ?_; clear hK K) | (apply Exists.intro; refine ⟨fun p => ?_, hK _ ?_⟩; (go_at_call 100; exact HC.out _); clear hK K))
                    refine wpLoose_nil (wpFresh_nil (fun w4 hE4 _ => ?_))
                    try simp only [List.drop_succ_cons, List.drop_zero]
                    clear q0 c0 c1 lg li k0 k1 lk hgc
                    have hm4 := matK_ext HMW.out hE4
                    obtain ⟨q0, c0, c1, ⟨f0, f1⟩, lg, li⟩ := mat_cell hm4 hlt hlt2
                    obtain ⟨hm5, hu5⟩ := mat_set (c := betO cu (some mn)) hm4 hlt hlt2
                    have HM5 := Lib.hid (mat_eq hm5 (m' := setM (uptoM i j (bothM n a b)) i j (foldO (fun k => minO (a i k) (b k j)) (List.range (k + 1)) none)) (fun i' j' _ _ => by rw [HNX.out, set_set]))
                    have HE5 := Lib.hid (ext_of_upd (upd_trans (upd_of_ext (ext_trans HEW.out hE4)) hu5 (fun q hq e => by have h5 := hm4.low.2 i hlt; have e' : q = gs i := e; omega)))
                    clear hm4 hm5 hu5 hE4
                    refine wpSeq_of_list [15] [_] _ _ rfl ?_
                    go_wp2
                    go_roundw
                    case rel => exact ⟨k + 1, by omega, by go_num, HM5.out, HE5.out⟩
                    case measure => simp [intOf]; omega
                  · obtain ⟨mn, hmn⟩ : ∃ m, m = x := ⟨_, rfl⟩
                    have HNX := Lib.hid (show foldO (fun k => minO (a i k) (b k j)) (List.range (k + 1)) none = betO cu (some mn) from by rw [HFC.out, hmn]; simp [minO, hyx])
                    have HBW := Lib.hid (show W2.heap[bc]? = some (.cells #[.bool true, .int .i64 mn] 139 (0, 0)) from by rw [hmn]; exact hbc2)
                    have HMW := Lib.hid hm2
                    have HEW := Lib.hid hew2
                    have k0 := trivial
                    have k1 := trivial
                    have fk := trivial
                    have lk := trivial
                    have qa0 := trivial
                    have a0 := trivial
                    have a1 := trivial
                    have lga := trivial
                    have lia := trivial
                    have q0 := trivial
                    have c0 := trivial
                    have c1 := trivial
                    have lg := trivial
                    have li := trivial
                    clear hmn hbc2 hm2 hew2 hcu hwr
                    go_wp2
                    clear q0 c0 c1 lg li qa0 a0 a1 lga lia qb0 b0 b1 lgb lib k0 k1 fk lk
                    obtain ⟨q0, c0, c1, -, lg, li⟩ := mat_cell HMW.out hlt hlt2
                    rw [← HCU.out] at c0 c1
                    have k0 := block_cell HBW.out 0
                    have k1 := block_cell HBW.out 1
                    have lk := block_lt HBW.out
                    have HC := Lib.hid (fun w' => better_any cu (some mn) w')
                    have hgc := cell_grown
                    refine wp_region_mix [] [0, 1, 2, 3, 4, 5, 6, 7, 8, 9, 10, 11, 12, 13, 14] [] [15] (by kernel_rfl) (by kernel_rfl) (fun _ _ d _ _ h => by cases d <;> exact h) ?_
                    refine wpPre_nil ?_
                    repeat (refine wpLoose_step rfl (fun K hK => ?_); (try simp only [Oper.quietAt, Oper.quietUpon]); go_simp; first | (refine hK _ ?_; clear hK K) | (apply Exists.intro; refine ⟨fun p => ?_, hK _ ?_⟩; (go_at_call 100; exact HC.out _); clear hK K))
                    refine wpLoose_nil (wpFresh_nil (fun w4 hE4 _ => ?_))
                    try simp only [List.drop_succ_cons, List.drop_zero]
                    clear q0 c0 c1 lg li k0 k1 lk hgc
                    have hm4 := matK_ext HMW.out hE4
                    obtain ⟨q0, c0, c1, ⟨f0, f1⟩, lg, li⟩ := mat_cell hm4 hlt hlt2
                    obtain ⟨hm5, hu5⟩ := mat_set (c := betO cu (some mn)) hm4 hlt hlt2
                    have HM5 := Lib.hid (mat_eq hm5 (m' := setM (uptoM i j (bothM n a b)) i j (foldO (fun k => minO (a i k) (b k j)) (List.range (k + 1)) none)) (fun i' j' _ _ => by rw [HNX.out, set_set]))
                    have HE5 := Lib.hid (ext_of_upd (upd_trans (upd_of_ext (ext_trans HEW.out hE4)) hu5 (fun q hq e => by have h5 := hm4.low.2 i hlt; have e' : q = gs i := e; omega)))
                    clear hm4 hm5 hu5 hE4
                    refine wpSeq_of_list [15] [_] _ _ rfl ?_
                    go_wp2
                    go_roundw
                    case rel => exact ⟨k + 1, by omega, by go_num, HM5.out, HE5.out⟩
                    case measure => simp [intOf]; omega
            · have HK := Lib.hid (show k = n by omega)
              have hnl : ¬ (k : Int) < (n : Int) := by omega
              have HM3 := Lib.hid (mat_eq HMK.out (m' := uptoM i (j + 1) (bothM n a b)) (fun i' j' _ h => by rw [HK.out]; exact upto_step (bothM n a b) i j i' j'))
              go_wp2
              go_roundw
              case rel => exact ⟨j + 1, by omega, by go_num, HM3.out, HEK.out⟩
              case measure => simp [intOf]; omega
        · have HK := Lib.hid (show j = n by omega)
          have hnl : ¬ (j : Int) < (n : Int) := by omega
          have HM3 := Lib.hid (mat_eq HMJ.out (m' := uptoM (i + 1) 0 (bothM n a b)) (fun i' j' _ h => by rw [HK.out]; exact upto_row _ h))
          go_wp2
          go_roundw
          case rel => exact ⟨i + 1, by omega, by go_num, HM3.out, HEJ.out⟩
          case measure => simp [intOf]; omega
    · have HK := Lib.hid (show i = n by omega)
      have HF := Lib.hid (show MatTo n (bothM n a b) w (.returned (mval g n)) wi from ⟨g, gs, rfl, mat_eq HM.out (fun i' j' h _ => by rw [HK.out]; exact upto_all _ h), HE.out⟩)
      have hnl : ¬ (i : Int) < (n : Int) := by omega
      go_wp2
      refine bodyPost_ret (results_tmp rfl _ _ _) rfl ?_
      exact HF.out
end Go.Proofs.Ytiabmdboacpmcaa
/- Matrices in memory: same. -/
namespace Go.Proofs.Ytiabmdboacpmcaa
open Go Go.RowKit Go.Sort
set_option maxHeartbeats 4000000

theorem eqCd (d : Nat) (a1 b1 : Bool) (a2 b2 : Int) (w : World) : (Op.equalIn (d + 2) 139 (.agg #[.bool a1, .int .i64 a2]) (.agg #[.bool b1, .int .i64 b2])).run Try.prog w = .ok (decide ((a1, a2) = (b1, b2))) w := by
  have h3 : ∀ (x y : Int) (w : World), (Op.equalIn (d + 1) 3 (.int .i64 x) (.int .i64 y)).run Try.prog w = .ok (x == y) w := fun x y w => run_equalIn_int (P := Try.prog) w d 3 .i64 .i64 x y Try.underlying3
  have h4 : ∀ (x y : Bool) (w : World), (Op.equalIn (d + 1) 4 (.bool x) (.bool y)).run Try.prog w = .ok (x == y) w := fun x y w => by
    rw [Op.equalIn]
    simp [run_underlying Try.underlying4]
  have p0 : ∀ (w : World) (x y : Value), (part 4 #[x, y] 0).run Try.prog w = .ok x w := fun w x y => by kernel_rfl
  have p1 : ∀ (w : World) (x y : Value), (part 3 #[x, y] 1).run Try.prog w = .ok y w := fun w x y => by kernel_rfl
  have hst : Try.prog.stoodInHeld 139 = false := by kernel_rfl
  rw [Op.equalIn]
  simp only [Sem.run_bind, run_underlying Try.underlying139, Result.andThen_ok]
  simp [hst]
  simp only [p0, p1, Result.andThen_ok, h3, h4]
  by_cases e1 : a1 = b1
  · by_cases e2 : a2 = b2 <;> simp [e1, e2]
  · simp [e1]
theorem cell_inj {x y : Option Int} : (x.isSome, x.getD 0) = (y.isSome, y.getD 0) ↔ x = y := by
  cases x <;> cases y <;> simp
theorem eqC (x y : Option Int) (w : World) : (Op.equalIn 10000 139 (.agg #[.bool x.isSome, .int .i64 (x.getD 0)]) (.agg #[.bool y.isSome, .int .i64 (y.getD 0)])).run Try.prog w = .ok (decide (x = y)) w := by
  rw [eqCd 9998]
  congr 1
  rw [decide_eq_decide]
  exact cell_inj
def SameTo (n : Nat) (a b : Mx) (w : World) (e : Ending) (w' : World) : Prop := ∃ r : Bool, e = .returned (.bool r) ∧ (r = true → ∀ i j, i < n → j < n → a i j = b i j) ∧ (r = false → ∃ i j, i < n ∧ j < n ∧ a i j ≠ b i j) ∧ Ext w w'
def sameM (n : Nat) (a b : Mx) : Prop := ∀ i j, i < n → j < n → a i j = b i j
set_option maxRecDepth 100000 in
theorem same_mat (n ga gb Ha Hb : Nat) (gsa gsb : Nat → Nat) (a b : Mx) (w : World) (hA : MatAt Ha n ga gsa a w) (hB : MatAt Hb n gb gsb b w) (hn : n ≤ 200) : Calls Try.prog 104 #[mval ga n, mval gb n] w (SameTo n a b w) := by
  have HA := Lib.hid hA
  have HB := Lib.hid hB
  clear hA hB
  go_enter Try.func104, Try.ntmps104
  go_wp2
  go_loopw [9] (fun y wr => ∃ i : Nat, i ≤ n ∧ y = .int .i64 (i : Int) ∧ (∀ i' j', i' < i → j' < n → a i' j' = b i' j') ∧ Ext w wr) (fun y _ => n - (intOf y).toNat)
  case atStart => exact ⟨0, by omega, rfl, fun i' j' h => absurd h (Nat.not_lt_zero _), ext_refl _⟩
  case round =>
    rename World => wi
    obtain ⟨i, hi, rfl, hS, hE⟩ := hrel
    have HS := Lib.hid hS
    have HE := Lib.hid hE
    clear hS hE
    by_cases hlt : i < n
    · have hii : (i : Int) < (n : Int) := by omega
      have hi0 : (0 : Int) ≤ (i : Int) := by omega
      go_wp2
      go_loopw [14] (fun y wr => ∃ j : Nat, j ≤ n ∧ y = .int .i64 (j : Int) ∧ (∀ j', j' < j → a i j' = b i j') ∧ Ext w wr) (fun y _ => n - (intOf y).toNat)
      case atStart => exact ⟨0, by omega, rfl, fun j' h => absurd h (Nat.not_lt_zero _), HE.out⟩
      case round =>
        rename World => wr
        obtain ⟨j, hj, rfl, hS, hE⟩ := hrel
        have HSJ := Lib.hid hS
        have HEJ := Lib.hid hE
        clear hS hE
        by_cases hlt2 : j < n
        · have hjj : (j : Int) < (n : Int) := by omega
          have hj0 : (0 : Int) ≤ (j : Int) := by omega
          obtain ⟨qa0, a0, a1, -, lga, lia⟩ := mat_cell (matK_ext HA.out HEJ.out) hlt hlt2
          obtain ⟨qb0, b0, b1, -, lgb, lib⟩ := mat_cell (matK_ext HB.out HEJ.out) hlt hlt2
          obtain ⟨x, hx⟩ : ∃ x, x = a i j := ⟨_, rfl⟩
          obtain ⟨y, hy⟩ : ∃ x, x = b i j := ⟨_, rfl⟩
          rw [← hx] at a0 a1
          rw [← hy] at b0 b1
          have HXY := Lib.hid (And.intro hx hy)
          clear hx hy
          have hgc := cell_grown
          by_cases hxy : x = y
          · have HSX := Lib.hid (show ∀ j', j' < j + 1 → a i j' = b i j' from fun j' h => by
              by_cases e : j' = j
              · rw [e, ← HXY.out.1, ← HXY.out.2, hxy]
              · exact HSJ.out j' (by omega))
            subst hxy
            go_wp2
            refine wp_region_free 14 [0, 1, 2, 3, 4, 5, 6, 7, 8, 9, 10, 11, 12, 13] [] (by kernel_rfl) (by kernel_rfl) ?_
            repeat (refine wpLoose_step rfl (fun K hK => ?_); (try simp only [Oper.quietAt, Oper.quietUpon]); go_simp; (refine hK _ ?_; clear hK K))
            refine wpLoose_nil (wpFresh_nil (fun w2 hE2 _ => ?_))
            simp only [List.drop_succ_cons, List.drop_zero]
            have HE2 := Lib.hid (ext_trans HEJ.out hE2)
            clear hE2 hgc qa0 a0 a1 lga lia qb0 b0 b1 lgb lib
            go_wp2
            go_roundw
            case rel => exact ⟨j + 1, by omega, by go_num, HSX.out, HE2.out⟩
            case measure => simp [intOf]; omega
          · have HSX := Lib.hid (show ∃ i j, i < n ∧ j < n ∧ a i j ≠ b i j from ⟨i, j, hlt, hlt2, by rw [← HXY.out.1, ← HXY.out.2]; exact hxy⟩)
            cases x with
            | none =>
              cases y with
              | none => exact absurd rfl hxy
              | some y =>
                clear hxy
                go_wp2
                refine wp_region_free 14 [0, 1, 2, 3, 4, 5, 6, 7, 8, 9, 10, 11, 12, 13] [] (by kernel_rfl) (by kernel_rfl) ?_
                repeat (refine wpLoose_step rfl (fun K hK => ?_); (try simp only [Oper.quietAt, Oper.quietUpon]); go_simp; (refine hK _ ?_; clear hK K))
                refine wpLoose_nil (wpFresh_nil (fun w2 hE2 _ => ?_))
                simp only [List.drop_succ_cons, List.drop_zero]
                have HE2 := Lib.hid (ext_trans HEJ.out hE2)
                clear hE2 hgc qa0 a0 a1 lga lia qb0 b0 b1 lgb lib
                go_wp2
                refine bodyPost_ret (results_tmp rfl _ _ _) rfl ?_
                exact ⟨false, rfl, (fun h => by cases h), (fun _ => HSX.out), HE2.out⟩
            | some x =>
              cases y with
              | none =>
                clear hxy
                go_wp2
                refine wp_region_free 14 [0, 1, 2, 3, 4, 5, 6, 7, 8, 9, 10, 11, 12, 13] [] (by kernel_rfl) (by kernel_rfl) ?_
                repeat (refine wpLoose_step rfl (fun K hK => ?_); (try simp only [Oper.quietAt, Oper.quietUpon]); go_simp; (refine hK _ ?_; clear hK K))
                refine wpLoose_nil (wpFresh_nil (fun w2 hE2 _ => ?_))
                simp only [List.drop_succ_cons, List.drop_zero]
                have HE2 := Lib.hid (ext_trans HEJ.out hE2)
                clear hE2 hgc qa0 a0 a1 lga lia qb0 b0 b1 lgb lib
                go_wp2
                refine bodyPost_ret (results_tmp rfl _ _ _) rfl ?_
                exact ⟨false, rfl, (fun h => by cases h), (fun _ => HSX.out), HE2.out⟩
              | some y =>
                have hne : ¬ x = y := fun e => hxy (by rw [e])
                clear hxy
                go_wp2
                refine wp_region_free 14 [0, 1, 2, 3, 4, 5, 6, 7, 8, 9, 10, 11, 12, 13] [] (by kernel_rfl) (by kernel_rfl) ?_
                repeat (refine wpLoose_step rfl (fun K hK => ?_); (try simp only [Oper.quietAt, Oper.quietUpon]); go_simp; (refine hK _ ?_; clear hK K))
                refine wpLoose_nil (wpFresh_nil (fun w2 hE2 _ => ?_))
                simp only [List.drop_succ_cons, List.drop_zero]
                have HE2 := Lib.hid (ext_trans HEJ.out hE2)
                clear hE2 hgc qa0 a0 a1 lga lia qb0 b0 b1 lgb lib
                go_wp2
                refine bodyPost_ret (results_tmp rfl _ _ _) rfl ?_
                exact ⟨false, rfl, (fun h => by cases h), (fun _ => HSX.out), HE2.out⟩
        · have HK := Lib.hid (show ∀ i' j', i' < i + 1 → j' < n → a i' j' = b i' j' from fun i' j' h1 h2 => by
            by_cases e : i' = i
            · rw [e]; exact HSJ.out j' (by omega)
            · exact HS.out i' j' (by omega) h2)
          have hnl : ¬ (j : Int) < (n : Int) := by omega
          go_wp2
          go_roundw
          case rel => exact ⟨i + 1, by omega, by go_num, HK.out, HEJ.out⟩
          case measure => simp [intOf]; omega
    · have HK := Lib.hid (show sameM n a b from fun i' j' h1 h2 => HS.out i' j' (by omega) h2)
      have hnl : ¬ (i : Int) < (n : Int) := by omega
      go_wp2
      refine bodyPost_ret (results_tmp rfl _ _ _) rfl ?_
      exact ⟨true, rfl, (fun _ => HK.out), (fun h => by cases h), HE.out⟩
end Go.Proofs.Ytiabmdboacpmcaa
/- Plain: what the document's Leads goes through. -/
namespace Go.Proofs.Ytiabmdboacpmcaa
open Go

theorem wordsSeq_snoc (ps : List Tr) (q : Tr) (w : List Sy) : WordsSeq (ps ++ [q]) w ↔ behind (WordsSeq ps) (Words q) w := by
  induction ps generalizing w with
  | nil =>
    rw [List.nil_append, wordsSeq_one]
    constructor
    · intro h; exact ⟨[], w, rfl, by rw [WordsSeq], h⟩
    · rintro ⟨u, v, rfl, h1, h2⟩
      rw [WordsSeq] at h1
      subst h1
      exact h2
  | cons p ps ih =>
    rw [List.cons_append, WordsSeq]
    constructor
    · rintro ⟨u, v, rfl, h1, h2⟩
      obtain ⟨v1, v2, rfl, h3, h4⟩ := (ih v).1 h2
      exact ⟨u ++ v1, v2, by rw [List.append_assoc], by rw [WordsSeq]; exact ⟨u, v1, rfl, h1, h3⟩, h4⟩
    · rintro ⟨u, v, rfl, h1, h2⟩
      rw [WordsSeq] at h1
      obtain ⟨u1, u2, rfl, h3, h4⟩ := h1
      exact ⟨u1, u2 ++ v, by rw [List.append_assoc], h3, (ih _).2 ⟨u2, v, rfl, h4, h2⟩⟩
theorem wordsAlt_snoc (ps : List Tr) (q : Tr) (w : List Sy) : WordsAlt (ps ++ [q]) w ↔ WordsAlt ps w ∨ Words q w := by
  rw [wordsAlt_iff, wordsAlt_iff]
  constructor
  · rintro ⟨p, hp, h⟩
    rcases List.mem_append.1 hp with h1 | h1
    · exact .inl ⟨p, h1, h⟩
    · rw [List.mem_singleton.1 h1] at h; exact .inr h
  · rintro (⟨p, hp, h⟩ | h)
    · exact ⟨p, List.mem_append_left _ hp, h⟩
    · exact ⟨q, by simp, h⟩
/-- where an edge leads from and to, by kind -/
def eFrom (k : Int) (e : Ed) : Int := if k = 1 then e.1.c else e.1.a
def eTo (k : Int) (e : Ed) : Int := if k = 1 then e.1.a else e.1.c
structure BaseI (k n : Int) (Ns : List Int) (L : List Ed) (m : Mx) : Prop where
  sound : ∀ x y v, m x y = some v → ∃ e ∈ L, e.1.b = n ∧ Ns[x]? = some (eFrom k e) ∧ Ns[y]? = some (eTo k e) ∧ e.2 = v
  comp : ∀ e ∈ L, e.1.b = n → ∀ x y, Ns[x]? = some (eFrom k e) → Ns[y]? = some (eTo k e) → geO (m x y) e.2
theorem base_nil (k n : Int) (Ns : List Int) : BaseI k n Ns [] noneM := ⟨(fun x y v h => by cases h), (fun e he => by cases he)⟩
theorem base_skip {k n : Int} {Ns : List Int} {L : List Ed} {m : Mx} {e : Ed} (h : BaseI k n Ns L m) (he : e.1.b ≠ n) : BaseI k n Ns (L ++ [e]) m := by
  refine ⟨fun x y v hv => ?_, fun e' he' hb => ?_⟩
  · obtain ⟨e', h1, h2⟩ := h.sound x y v hv
    exact ⟨e', List.mem_append_left _ h1, h2⟩
  · rcases List.mem_append.1 he' with h1 | h1
    · exact h.comp e' h1 hb
    · rw [List.mem_singleton.1 h1] at hb; exact absurd hb he
theorem base_put {k n : Int} {Ns : List Int} {L : List Ed} {m : Mx} {e : Ed} {px py : Nat} (hN : Ns.Nodup) (h : BaseI k n Ns L m) (he : e.1.b = n) (hx : Ns[px]? = some (eFrom k e)) (hy : Ns[py]? = some (eTo k e)) : BaseI k n Ns (L ++ [e]) (setM m px py (betO (m px py) (some e.2))) := by
  refine ⟨fun x y v hv => ?_, fun e' he' hb x y hx' hy' => ?_⟩
  · unfold setM at hv
    split at hv
    · rename_i hc
      rcases betO_sound hv with h1 | h1
      · obtain ⟨e', h2, h3⟩ := h.sound px py v h1
        rw [hc.1, hc.2]
        exact ⟨e', List.mem_append_left _ h2, h3⟩
      · cases h1
        rw [hc.1, hc.2]
        exact ⟨e, by simp, he, hx, hy, rfl⟩
    · obtain ⟨e', h2, h3⟩ := h.sound x y v hv
      exact ⟨e', List.mem_append_left _ h2, h3⟩
  · unfold setM
    rcases List.mem_append.1 he' with h1 | h1
    · have h5 := h.comp e' h1 hb x y hx' hy'
      split
      · rename_i hc
        rw [hc.1, hc.2] at h5
        exact betO_left h5
      · exact h5
    · rw [List.mem_singleton.1 h1] at hx' hy' ⊢
      rw [if_pos ⟨nodup_at hN hx' hx, nodup_at hN hy' hy⟩]
      exact betO_right ⟨e.2, rfl, Int.le_refl _⟩
theorem base_mat {k n : Int} {Ns : List Int} {E : List Ed} {m : Mx} (hk : k = 0 ∨ k = 1) (hnd : KeysNd E) (htop : ∀ e ∈ E, e.2 ≤ forever) (hN : NodesOf (grOf E) Ns) (h : BaseI k n Ns E m) : MatOf (Words (.node k n [])) (grOf E) Ns m := by
  have hrun : ∀ x y t, Lead (Words (.node k n [])) (grOf E) x y t ↔ isNode (grOf E) x ∧ t ≤ forever ∧ ∃ e ∈ E, e.1.b = n ∧ eFrom k e = x ∧ eTo k e = y ∧ t ≤ e.2 := fun x y t => by
    unfold Lead
    rcases hk with rfl | rfl
    · simp only [words_step]
      constructor
      · rintro ⟨h1, h2, w, rfl, h3⟩
        obtain ⟨u, hu, ht⟩ := run_one.1 h3
        exact ⟨h1, h2, _, (grOf_some hnd).1 hu, rfl, rfl, rfl, ht⟩
      · rintro ⟨h1, h2, e, he, h3, h4, h5, h6⟩
        refine ⟨h1, h2, _, rfl, run_one.2 ⟨e.2, ?_, h6⟩⟩
        refine (grOf_some hnd).2 ?_
        obtain ⟨⟨a, b, c⟩, u⟩ := e
        simp only [eFrom, eTo] at h3 h4 h5
        rw [if_neg (by decide)] at h4 h5
        rw [← h3, ← h4, ← h5]
        exact he
    · simp only [words_back]
      constructor
      · rintro ⟨h1, h2, w, rfl, h3⟩
        obtain ⟨u, hu, ht⟩ := run_one.1 h3
        exact ⟨h1, h2, _, (grOf_some hnd).1 hu, rfl, rfl, rfl, ht⟩
      · rintro ⟨h1, h2, e, he, h3, h4, h5, h6⟩
        refine ⟨h1, h2, _, rfl, run_one.2 ⟨e.2, ?_, h6⟩⟩
        refine (grOf_some hnd).2 ?_
        obtain ⟨⟨a, b, c⟩, u⟩ := e
        simp only [eFrom, eTo] at h3 h4 h5
        rw [if_true] at h4 h5
        rw [← h3, ← h4, ← h5]
        exact he
  intro i j x y hi hj
  refine ⟨fun v hv => ?_, fun t ht => ?_⟩
  · obtain ⟨e, h1, h2, h3, h4, h5⟩ := h.sound i j v hv
    rw [hi] at h3
    rw [hj] at h4
    cases h3
    cases h4
    rw [hrun]
    exact ⟨(hN.mem _).1 (List.mem_of_getElem? hi), by rw [← h5]; exact htop e h1, e, h1, h2, rfl, rfl, by rw [h5]; exact Int.le_refl _⟩
  · rw [hrun] at ht
    obtain ⟨_, _, e, h1, h2, h3, h4, h5⟩ := ht
    exact geO_mono (h.comp e h1 h2 i j (by rw [hi, h3]) (by rw [hj, h4])) h5
/-- a matrix as it lies in memory -/
def rdC (w : World) (g j : Nat) : Option Int := match w.cell? ⟨g, j * 2, none⟩, w.cell? ⟨g, j * 2 + 1, none⟩ with
  | some (.bool true), some (.int _ u) => some u
  | _, _ => none
def rdM (w : World) (v : Value) : Mx := fun i j => match v with
  | .slice (some ⟨g, _, _⟩) _ _ => (match w.cell? ⟨g, i, none⟩ with
    | some (.slice (some ⟨gi, _, _⟩) _ _) => rdC w gi j
    | _ => none)
  | _ => none
theorem rdM_at {H n g : Nat} {gs : Nat → Nat} {m : Mx} {w : World} (h : MatAt H n g gs m w) {i j : Nat} (hi : i < n) (hj : j < n) : rdM w (mval g n) i j = m i j := by
  obtain ⟨q, c0, c1, _⟩ := mat_cell h hi hj
  unfold rdM mval
  simp only
  rw [q]
  simp only
  unfold rdC
  rw [c0, c1]
  cases m i j <;> rfl
def cellsP (n : Nat) : List Key := (List.range n).flatMap fun i : Nat => (List.range n).map fun j : Nat => (⟨(i : Int), (j : Int), 0⟩ : Key)
def toB (m : Mx) : Bst := fun x => m x.a.toNat x.b.toNat
def gapM (n : Nat) (V : List Int) (m : Mx) : Nat := gap (cellsP n) V (toB m)
theorem mem_cellsP {n : Nat} {x : Key} : x ∈ cellsP n ↔ ∃ i j : Nat, i < n ∧ j < n ∧ x = ⟨(i : Int), (j : Int), 0⟩ := by
  unfold cellsP
  rw [List.mem_flatMap]
  constructor
  · rintro ⟨i, hi, h⟩
    obtain ⟨j, hj, rfl⟩ := List.mem_map.1 h
    exact ⟨i, j, List.mem_range.1 hi, List.mem_range.1 hj, rfl⟩
  · rintro ⟨i, j, hi, hj, rfl⟩
    exact ⟨i, List.mem_range.2 hi, List.mem_map.2 ⟨j, List.mem_range.2 hj, rfl⟩⟩
theorem gapM_congr {n : Nat} {V : List Int} {m m' : Mx} (h : ∀ i j, i < n → j < n → m i j = m' i j) : gapM n V m = gapM n V m' := by
  unfold gapM gap
  congr 1
  refine List.map_congr_left (fun x hx => ?_)
  obtain ⟨i, j, hi, hj, rfl⟩ := mem_cellsP.1 hx
  unfold gapAt toB
  simp only [Int.toNat_natCast]
  rw [h i j hi hj]
theorem gapM_lt {n : Nat} {V : List Int} {m m' : Mx} (hle : ∀ i j, leO (m i j) (m' i j)) {i j : Nat} (hi : i < n) (hj : j < n) (hne : m' i j ≠ m i j) (hV : ∀ v, m' i j = some v → v ∈ V) : gapM n V m' < gapM n V m := by
  have h0 := hle i j
  cases h1 : m' i j with
  | none =>
    exfalso
    cases h2 : m i j with
    | none => exact hne (by rw [h1, h2])
    | some u =>
      obtain ⟨v, h3, _⟩ := h0 u h2
      rw [h1] at h3
      cases h3
  | some v =>
    refine gap_lt (P := cellsP n) (V := V) (f := toB m) (g := toB m') (fun x => hle _ _) (x := ⟨(i : Int), (j : Int), 0⟩) (u := v) (mem_cellsP.2 ⟨i, j, hi, hj, rfl⟩) (hV v h1) ?_ ?_
    · unfold toB
      simp only [Int.toNat_natCast]
      rintro ⟨u, h2, h3⟩
      obtain ⟨v', h4, h5⟩ := h0 u h2
      rw [h1] at h4
      cases h4
      exact hne (by rw [h1, h2]; congr 1; omega)
    · unfold toB
      simp only [Int.toNat_natCast]
      exact ⟨v, h1, Int.le_refl _⟩
/-- the rounds of 'once or more' -/
structure MoreI (L : List Sy → Prop) (E : Gr3) (Ns : List Int) (n : Nat) (V : List Int) (one out : Mx) : Prop where
  sound : ∀ i j x y, Ns[i]? = some x → Ns[j]? = some y → ∀ v, out i j = some v → Lead (moreL L) E x y v
  one : ∀ i j, leO (one i j) (out i j)
  val : ∀ i j, i < n → j < n → ∀ v, out i j = some v → v ∈ V
def nextM (n : Nat) (one out : Mx) : Mx := eithM out (bothM n out one)
theorem more_start {L : List Sy → Prop} {E : Gr3} {Ns : List Int} {one : Mx} (h : MatOf L E Ns one) : ∃ V, MoreI L E Ns Ns.length V one one ∧ ∀ i j, i < Ns.length → j < Ns.length → ∀ v, one i j = some v → v ∈ V := by
  refine ⟨(List.range Ns.length).flatMap fun i => (List.range Ns.length).flatMap fun j => (one i j).toList, ?_⟩
  have hv : ∀ i j, i < Ns.length → j < Ns.length → ∀ v, one i j = some v → v ∈ (List.range Ns.length).flatMap fun i => (List.range Ns.length).flatMap fun j => (one i j).toList := fun i j hi hj v hv => List.mem_flatMap.2 ⟨i, List.mem_range.2 hi, List.mem_flatMap.2 ⟨j, List.mem_range.2 hj, by rw [hv]; simp⟩⟩
  refine ⟨⟨fun i j x y hi hj v hv => ?_, fun i j => leO_refl _, hv⟩, hv⟩
  obtain ⟨h1, h2, w, h3, h4⟩ := (h i j x y hi hj).1 v hv
  exact ⟨h1, h2, w, ⟨w, [], by simp, h3, .nil⟩, h4⟩
theorem more_next {L : List Sy → Prop} {E : Gr3} {Ns : List Int} {V : List Int} {one out : Mx} (h1 : MatOf L E Ns one) (hV1 : ∀ i j, i < Ns.length → j < Ns.length → ∀ v, one i j = some v → v ∈ V) (h : MoreI L E Ns Ns.length V one out) : MoreI L E Ns Ns.length V one (nextM Ns.length one out) := by
  refine ⟨more_round h1 h.sound, fun i j => leO_trans (h.one i j) (more_grows _ _ _ i j), fun i j hi hj v hv => ?_⟩
  rcases betO_sound hv with h2 | h2
  · exact h.val i j hi hj v h2
  · rcases foldO_sound h2 with h3 | ⟨c, hc, h3⟩
    · cases h3
    · have hc' := List.mem_range.1 hc
      obtain ⟨p, q, h4, h5, _, _, h6⟩ := minO_some h3
      rcases h6 with rfl | rfl
      · exact h.val i c hi hc' _ h4
      · exact hV1 c j hc' hj _ h5
theorem more_end {L : List Sy → Prop} {E : Gr3} {Ns : List Int} {V : List Int} {one out : Mx} (hN : NodesOf E Ns) (h1 : MatOf L E Ns one) (h : MoreI L E Ns Ns.length V one out) (hs : ∀ i j, i < Ns.length → j < Ns.length → nextM Ns.length one out i j = out i j) : MatOf (moreL L) E Ns out := mat_more hN h1 h.sound h.one hs
theorem words_plusM (n : Int) (p : Tr) (w : List Sy) : Words (.node 5 n [p]) w ↔ moreL (Words p) w := by
  rw [words_plus0]
  rfl
theorem words_starM (n : Int) (p : Tr) (w : List Sy) : Words (.node 4 n [p]) w ↔ moreL (Words p) w ∨ w = [] := by
  rw [words_star0]
  constructor
  · intro h
    cases h with
    | nil => exact .inr rfl
    | cons h1 h2 => exact .inl ⟨_, _, rfl, h1, h2⟩
  · rintro (⟨u, v, rfl, h1, h2⟩ | rfl)
    · exact .cons h1 h2
    · exact .nil
end Go.Proofs.Ytiabmdboacpmcaa
