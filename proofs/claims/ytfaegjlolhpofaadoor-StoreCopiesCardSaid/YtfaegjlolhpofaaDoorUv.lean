/- Acts as they lie in memory. -/
import Derived.Test.YtfaegjlolhpofaaDoorTb
namespace Go.Proofs.YtfaegjlolhpofaaDoor
open Go.RowKit Go.Sort

structure ActV where
  kind : Int
  num : Int
  key : Key
def cellsA (w : World) (b o : Nat) (x : ActV) : Prop := w.cell? ⟨b, o, none⟩ = some (.int .u8 x.kind) ∧ w.cell? ⟨b, o + 1, none⟩ = some (.int .u8 x.num) ∧
  w.cell? ⟨b, o + 2, none⟩ = some (.int .i64 x.key.a) ∧ w.cell? ⟨b, o + 3, none⟩ = some (.int .i64 x.key.b) ∧ w.cell? ⟨b, o + 4, none⟩ = some (.int .i64 x.key.c)
def ActsIn (w : World) (b off : Nat) (acts : List ActV) : Prop := b < w.heap.size ∧ ∀ (i : Nat) (x : ActV), acts[i]? = some x → cellsA w b (off + i * 5) x ∧ 0 ≤ x.kind ∧ x.kind ≤ 255 ∧ 0 ≤ x.num ∧ x.num ≤ 255

end Go.Proofs.YtfaegjlolhpofaaDoor
