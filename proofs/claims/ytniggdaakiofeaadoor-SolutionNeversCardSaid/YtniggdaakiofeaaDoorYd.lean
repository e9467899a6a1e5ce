/- What the listed variables give: the table of powers. -/
import Derived.Test.YtniggdaakiofeaaDoorTie
import Derived.ProofKit
import Derived.LaidMore
import Derived.Lib.LaidTab
import Derived.Test.YtniggdaakiofeaaDoorDt
namespace Go.Proofs.YtniggdaakiofeaaDoor
open Go.ChangeShapes Go.WideShapes Go.ChangeAt Go.WideMaps Go.WideElems Go.RowKit
/- of this seat alone: 80 -/

def laid3 : List (String × DataW Unit) := [("math/bits.deBruijn32tab", Rows.laid_math_bits_deBruijn32tab), ("math/bits.deBruijn64tab", Rows.laid_math_bits_deBruijn64tab), ("internal/strconv.uint64pow10", Rows.laid_internal_strconv_uint64pow10)]
theorem door_met (os : Os) (args : Array Value) : laidMetH Tryd.prog laid3 ((World.doorLaid Tryd.prog 24 os).forCall (fun _ _ => 0) ⟨#[], args, []⟩).memory :=
  laidMetH_of_parts3 (fuel := 8) (laidMet_of_run' 8 (by kernel_rfl) (by kernel_rfl)) (by kernel_rfl) (by kernel_rfl)
theorem gTabN : Tryd.prog.globalNamed "internal/strconv.uint64pow10" = some 0 := by kernel_rfl
theorem tTabN : (Tryd.prog.globals[0]?).map (·.type) = some 135 := by kernel_rfl
theorem cells20 : Tryd.prog.cellsOf 135 = 20 := by kernel_rfl
theorem cellsU64 : Tryd.prog.cellsOf 117 = 1 := by kernel_rfl
theorem laid_of {W : World} (h : laidMetH Tryd.prog laid3 W) : TabP W := by
  rw [MakeChecks.laidMetH_plain _ _ _ (by kernel_rfl)] at h
  obtain ⟨ps, ⟨g0, t0, cs0, f0, p0, q0, hg0, ht0, hv0, hd0, ⟨g1, t1, cs1, f1, p1, q1, hg1, ht1, hv1, hd1, ⟨g2, t2, cs2, f2, p2, q2, hg2, ht2, hv2, hd2, _, _⟩, _⟩, _⟩, _, _⟩ := h
  obtain rfl := Option.some.inj (gTabN.symm.trans hg2)
  obtain rfl := Option.some.inj (tTabN.symm.trans ht2)
  have e1 := Lib.cells_of_tab (zs := Lib.pow10Tab) (k := .u64) Tryd.underlying135 Tryd.underlying117 cellsU64 cells20 hd2
  unfold TabP Lib.TabIs
  rw [hv2, ← e1]
end Go.Proofs.YtniggdaakiofeaaDoor
