/- What the listed variables give: the two tables of the store's package. -/
import Derived.Test.YtfaegjlolhpofaaDoorRows
import Derived.Test.YtfaegjlolhpofaaDoorTie
import Derived.Test.YtfaegjlolhpofaaDoorWb
import Derived.ProofKit
import Derived.LaidMore
import Derived.OpenShut
import Derived.Stop.Joined
import Derived.Lib.LaidTab
import Derived.Lib.SmallJoins
namespace Go.Proofs.YtfaegjlolhpofaaDoor
open Go.ChangeShapes Go.WideShapes Go.ChangeAt Go.WideMaps Go.WideElems Go.RowKit

theorem own : ownKnob Tryd.prog.godebug = none := by kernel_rfl
theorem laidOut : laidOutB Tryd.prog = true := by kernel_rfl
theorem gChosen : Tryd.prog.globalNamed "beck/store.chosen" = some 0 := by kernel_rfl
theorem gPlaces : Tryd.prog.globalNamed "beck/store.places" = some 1 := by kernel_rfl
theorem tChosen : (Tryd.prog.globals[0]?).map (·.type) = some 60 := by kernel_rfl
theorem tPlaces : (Tryd.prog.globals[1]?).map (·.type) = some 77 := by kernel_rfl
theorem cellsOf3 : Tryd.prog.cellsOf 3 = 1 := by kernel_rfl
theorem cellsOf22 : Tryd.prog.cellsOf 22 = 3 := by kernel_rfl
theorem cellsOf60 : Tryd.prog.cellsOf 60 = 8 := by kernel_rfl
def laid2 : List (String × DataW Unit) := [("beck/store.places", Rows.laid_beck_store_places), ("beck/store.chosen", Rows.laid_beck_store_chosen)]

theorem door_met (os : Os) (args : Array Value) : laidMetH Tryd.prog laid2 ((World.doorLaid Tryd.prog 22 os).forCall (fun _ _ => 0) ⟨#[], args, []⟩).memory :=
  laidMetH_of_parts3 (fuel := 8) (laidMet_of_run' 8 (by kernel_rfl) (by kernel_rfl)) (by kernel_rfl) (by kernel_rfl)

theorem at_of_seg {cs l : List Value} {i k : Nat} {v : Value} (h : (cs.drop (i * 3)).take 3 = l) (hk : k < 3) (hv : l[k]? = some v) : cs[i * 3 + k]? = some v := by
  rw [← h, List.getElem?_take, if_pos hk, List.getElem?_drop] at hv
  exact hv

theorem laid_of {W : World} (h : laidMetH Tryd.prog laid2 W) : Laid W := by
  rw [MakeChecks.laidMetH_plain _ _ _ (by kernel_rfl)] at h
  obtain ⟨ps, ⟨g0, t0, cs0, f0, p0, q0, hg0, ht0, hv0, hd0, ⟨g1, t1, cs1, f1, p1, q1, hg1, ht1, hv1, hd1, _, _⟩, _⟩, _, _⟩ := h
  obtain rfl := Option.some.inj (gPlaces.symm.trans hg0)
  obtain rfl := Option.some.inj (gChosen.symm.trans hg1)
  obtain rfl := Option.some.inj (tPlaces.symm.trans ht0)
  obtain rfl := Option.some.inj (tChosen.symm.trans ht1)
  have e1 := Lib.cells_of_tab (zs := [0, 0, 1, 0, 2, 2, 1, 0]) (k := .i64) Tryd.underlying60 Tryd.underlying3 cellsOf3 cellsOf60 hd1
  have c1 := World.var?_cell hg1 hv1
  have c0 := World.var?_cell hg0 hv0
  obtain ⟨xs, m1, rfl, hx1, hlen, hn3, hel⟩ := DataW.trod_array Tryd.underlying77 hd0
  rw [cellsOf22] at hel
  simp only [Prod.mk.injEq] at hx1
  match xs, hn3, hx1, hel with
  | [x0, x1, x2], _, hx1, hel =>
    have hm : [x0.1, x1.1, x2.1] = [.agg [.lit (.int .i64 0), .lit (.int .i64 1), .lit (.int .i64 2)], .agg [.lit (.int .i64 1), .lit (.int .i64 2), .lit (.int .i64 0)], .agg [.lit (.int .i64 2), .lit (.int .i64 0), .lit (.int .i64 1)]] := by
      have := hx1.1
      simp only [Rows.laid_beck_store_places, DataW.agg.injEq, List.map_cons, List.map_nil] at this
      exact this.symm
    simp only [List.cons.injEq, and_true] at hm
    obtain ⟨m0, m1', m2⟩ := hm
    have r0 := hel 0 (by omega)
    have r1 := hel 1 (by omega)
    have r2 := hel 2 (by omega)
    obtain ⟨d0, q0'⟩ := x0
    obtain ⟨d1, q1'⟩ := x1
    obtain ⟨d2, q2'⟩ := x2
    simp only at m0 m1' m2
    subst m0 m1' m2
    have s0 := Lib.cells_of_tab (zs := [0, 1, 2]) (k := .i64) Tryd.underlying22 Tryd.underlying3 cellsOf3 cellsOf22 r0
    have s1 := Lib.cells_of_tab (zs := [1, 2, 0]) (k := .i64) Tryd.underlying22 Tryd.underlying3 cellsOf3 cellsOf22 r1
    have s2 := Lib.cells_of_tab (zs := [2, 0, 1]) (k := .i64) Tryd.underlying22 Tryd.underlying3 cellsOf3 cellsOf22 r2
    have z : ∀ i k v, k < 3 → (cs0.toList.drop (i * 3)).take 3 = v → ∀ u, v[k]? = some u → W.cell? ⟨1, i * 3 + k, none⟩ = some u := fun i k v hk hv u hu => by
      have := at_of_seg hv hk hu
      rw [c0]
      simpa using this
    have y : ∀ j u, ([.int .i64 0, .int .i64 0, .int .i64 1, .int .i64 0, .int .i64 2, .int .i64 2, .int .i64 1, .int .i64 0] : List Value)[j]? = some u → W.cell? ⟨0, j, none⟩ = some u := fun j u hu => by
      rw [c1]
      have : cs1.toList[j]? = some u := by rw [e1]; exact hu
      simpa using this
    exact ⟨World.block_lt_of_cell? W ⟨1, 0, none⟩ (z 0 0 _ (by omega) s0 _ rfl), y 0 _ rfl, y 1 _ rfl, y 2 _ rfl, y 3 _ rfl, y 4 _ rfl, y 5 _ rfl, y 6 _ rfl, y 7 _ rfl,
      z 0 0 _ (by omega) s0 _ rfl, z 0 1 _ (by omega) s0 _ rfl, z 0 2 _ (by omega) s0 _ rfl, z 1 0 _ (by omega) s1 _ rfl, z 1 1 _ (by omega) s1 _ rfl, z 1 2 _ (by omega) s1 _ rfl, z 2 0 _ (by omega) s2 _ rfl, z 2 1 _ (by omega) s2 _ rfl, z 2 2 _ (by omega) s2 _ rfl⟩
end Go.Proofs.YtfaegjlolhpofaaDoor
