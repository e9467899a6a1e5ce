/- Rows of strings; what awake asks first. -/
import Derived.WalkKit
import Derived.WalkSpells
import Derived.WalkLawsBesides
import Derived.Lib.Hide
import Derived.BigQuiet
import Derived.Deep.DeepCutAuto
import Derived.Deep.RegionHeld3
import Derived.StillTailTactics
import Derived.OwnWalk
import Derived.Test.YteccpinilpkmiaaProg
import Derived.Test.YteccpinilpkmiaaGr
namespace Go.Proofs.Yteccpinilpkmiaa
open Go Go.RowKit Go.Sort
set_option maxHeartbeats 800000

def elS : El ByteArray := ⟨fun s => [.string s], 1, 9, by decide, fun _ => rfl, fun x u hu => by rw [List.mem_singleton.1 hu]; rfl⟩
theorem info9 : (Try.prog.info? 9).map (fun i => (i.zero, i.size, i.bytes)) = some (some (.string ⟨#[]⟩), 1, 16) := by kernel_rfl
noncomputable def tpS : Tp Try.prog 22 elS :=
  ⟨(Try.prog.info? 9).get (by kernel_rfl), .string ⟨#[]⟩, 16, Try.underlying22, by kernel_rfl, by kernel_rfl, by kernel_rfl, by kernel_rfl, rfl, by decide⟩
abbrev RS := rowE elS

theorem rowS_cell {w : World} {g n c : Nat} {L : List ByteArray} (h : rowE elS w (.slice (some ⟨g, 0, none⟩) n c) L) {i : Nat} {x : ByteArray} (hx : L[i]? = some x) : w.cell? ⟨g, i, none⟩ = some (.string x) := by
  have := rowE_cell h hx (j := 0) (u := .string x) rfl
  simpa [elS] using this
end Go.Proofs.Yteccpinilpkmiaa
