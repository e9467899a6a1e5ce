/-
  No cell of these rows narrows 'for every input' (looked for: loops, veiled, ifaces, maps, wideKeys, modest, calm, conditions, laid).
  DERIVED. THE GIVEN ROWS OF THIS SEAT. 3 by the template 'for every input the law returns true; each argument reads behind the call as it read before'; 0 by the template 'total and deterministic' (their statements: YtniggdaakiofeaaTotals.lean).
  GIVEN WITH THE SEED: the statements are not yours to turn. If you find one false, say at which input.
  Laid BY PROGRAM, IN A SANDBOX (cutbox-rows.mjs): the forced cells as the released guide's own fill.sh prints them over the translation 6f9e5a651bf36fe8… (all of the seat's roots in one cut). By AI agents, Wed Nov 11 2026. No macro, syntax, notation, axiom, sorry.
-/
import Derived.Test.YtniggdaakiofeaaChecked
import GoSem.Claim
import GoSem.ClaimJoined
import GoSem.ClaimMapViews
import Derived.JoinedTies
import Derived.KernelRfl
namespace Go.Proofs.Ytniggdaakiofeaa
/- THE CELL 'sum', in the pinned program and in every row, IS THE sha256 OF THE DUMP (.gsa) THAT YtniggdaakiofeaaProg.lean LOADS. Nothing in Lean hashes anything: it is a label: what it is worth is what the hold of that sum in a sandbox is worth. -/
noncomputable def Try.pinned : Pinned := { name := "ytniggdaakiofeaa", sum := "6f9e5a651bf36fe89841fa37974ce8880166c115a94bfb9c206333252654d74b", checked := Try.checked }
namespace Rows
def none {H : Type} : Left H := { results := [], args := [] }

/-- 'becklaw14.SolutionGoods': WHATEVER THE INPUT: true; the input reads as it did. -/
def solutionGoodsSpec : ChangeSpec := { name := "solutionGoods", fn := fun _ => fun
  | [d1, d2] => { results := [.lit (.bool true)], args := [d1, d2] }
  | _ => none }
def solutionGoodsRow : OpenClaim := { program := "ytniggdaakiofeaa", sum := "6f9e5a651bf36fe89841fa37974ce8880166c115a94bfb9c206333252654d74b", func := "beck/becklaw14.SolutionGoods", spec := "solutionGoods", unfollowed := true, recurses := true, apart := false }
def SolutionGoodsSaid : Prop := solutionGoodsRow.holds Try.pinned (OpenSpec.ofChange solutionGoodsSpec)

/-- ITS FALSE NEIGHBOUR: 'it returns false'. Refute it at one input. -/
def solutionGoodsWrong : ChangeSpec := { name := "solutionGoods", fn := fun _ => fun
  | [d1, d2] => { results := [.lit (.bool false)], args := [d1, d2] }
  | _ => none }
def SolutionGoodsWrongFalsely : Prop := solutionGoodsRow.holds Try.pinned (OpenSpec.ofChange solutionGoodsWrong)

/-- 'becklaw14.SolutionLefts': WHATEVER THE INPUT: true; the input reads as it did. -/
def solutionLeftsSpec : ChangeSpec := { name := "solutionLefts", fn := fun _ => fun
  | [d1, d2, d3] => { results := [.lit (.bool true)], args := [d1, d2, d3] }
  | _ => none }
def solutionLeftsRow : OpenClaim := { program := "ytniggdaakiofeaa", sum := "6f9e5a651bf36fe89841fa37974ce8880166c115a94bfb9c206333252654d74b", func := "beck/becklaw14.SolutionLefts", spec := "solutionLefts", unfollowed := true, recurses := true, apart := false }
def SolutionLeftsSaid : Prop := solutionLeftsRow.holds Try.pinned (OpenSpec.ofChange solutionLeftsSpec)

/-- ITS FALSE NEIGHBOUR: 'it returns false'. Refute it at one input. -/
def solutionLeftsWrong : ChangeSpec := { name := "solutionLefts", fn := fun _ => fun
  | [d1, d2, d3] => { results := [.lit (.bool false)], args := [d1, d2, d3] }
  | _ => none }
def SolutionLeftsWrongFalsely : Prop := solutionLeftsRow.holds Try.pinned (OpenSpec.ofChange solutionLeftsWrong)

/-- 'becklaw14.SolutionExtends': WHATEVER THE INPUT: true; the input reads as it did. -/
def solutionExtendsSpec : ChangeSpec := { name := "solutionExtends", fn := fun _ => fun
  | [d1, d2] => { results := [.lit (.bool true)], args := [d1, d2] }
  | _ => none }
def solutionExtendsRow : OpenClaim := { program := "ytniggdaakiofeaa", sum := "6f9e5a651bf36fe89841fa37974ce8880166c115a94bfb9c206333252654d74b", func := "beck/becklaw14.SolutionExtends", spec := "solutionExtends", unfollowed := true, recurses := true, apart := false }
def SolutionExtendsSaid : Prop := solutionExtendsRow.holds Try.pinned (OpenSpec.ofChange solutionExtendsSpec)

/-- ITS FALSE NEIGHBOUR: 'it returns false'. Refute it at one input. -/
def solutionExtendsWrong : ChangeSpec := { name := "solutionExtends", fn := fun _ => fun
  | [d1, d2] => { results := [.lit (.bool false)], args := [d1, d2] }
  | _ => none }
def SolutionExtendsWrongFalsely : Prop := solutionExtendsRow.holds Try.pinned (OpenSpec.ofChange solutionExtendsWrong)

/- THE SECOND FORM. 'bulk': how many values and letters a reading holds, each counted each time it is reached (what is shared counts as often as it is met; a slice's spare places count too). A statement '..UptoSaid' is the law's where the arguments, and the package variables that the reading takes, are together of bulk at most 1048576: NARROWER than '..Said'. Prove '..Said' where nothing that the law and all that it calls make is longer than what came in: it says more and counts as full. Else prove '..UptoSaid'. A law counts once. -/
mutual
def uptoBulk {H : Type} : DataW H → Nat
  | .lit (.string bytes) => bytes.length + 1
  | .lit _ => 1
  | .nil => 1
  | .ptr d => uptoBulk d + 1
  | .slice elems spare => uptoBulkAll elems + uptoBulkAll spare + 1
  | .agg parts => uptoBulkAll parts + 1
  | .iface _ d => uptoBulk d + 1
  | .map entries => uptoBulkEntries entries + 1
  | .held _ => 1
def uptoBulkAll {H : Type} : List (DataW H) → Nat
  | [] => 0
  | d :: r => uptoBulk d + uptoBulkAll r
def uptoBulkEntries {H : Type} : List (Lit × DataW H) → Nat
  | [] => 0
  | x :: r => uptoBulkEntry x + uptoBulkEntries r
def uptoBulkEntry {H : Type} : Lit × DataW H → Nat
  | (.string bytes, d) => bytes.length + uptoBulk d + 1
  | (_, d) => uptoBulk d + 1
 end
def uptoSmall : (H : Type) → List (DataW H) → Bool := fun _ ds => decide (uptoBulkAll ds ≤ 1048576)
def OpenSpec.upto (s : _root_.Go.ChangeSpec) : _root_.Go.OpenSpec := { _root_.Go.OpenSpec.ofChange s with cond := some uptoSmall }

/-- 'becklaw14.SolutionGoods', WHERE WHAT IT READS IS OF BULK AT MOST 1048576: true; the input reads as it did. -/
def solutionGoodsUptoRow : OpenClaim := { program := "ytniggdaakiofeaa", sum := "6f9e5a651bf36fe89841fa37974ce8880166c115a94bfb9c206333252654d74b", func := "beck/becklaw14.SolutionGoods", spec := "solutionGoods", unfollowed := true, recurses := true, apart := false, narrowed := true }
def SolutionGoodsUptoSaid : Prop := solutionGoodsUptoRow.holds Try.pinned (OpenSpec.upto solutionGoodsSpec)

/-- 'becklaw14.SolutionLefts', WHERE WHAT IT READS IS OF BULK AT MOST 1048576: true; the input reads as it did. -/
def solutionLeftsUptoRow : OpenClaim := { program := "ytniggdaakiofeaa", sum := "6f9e5a651bf36fe89841fa37974ce8880166c115a94bfb9c206333252654d74b", func := "beck/becklaw14.SolutionLefts", spec := "solutionLefts", unfollowed := true, recurses := true, apart := false, narrowed := true }
def SolutionLeftsUptoSaid : Prop := solutionLeftsUptoRow.holds Try.pinned (OpenSpec.upto solutionLeftsSpec)

/-- 'becklaw14.SolutionExtends', WHERE WHAT IT READS IS OF BULK AT MOST 1048576: true; the input reads as it did. -/
def solutionExtendsUptoRow : OpenClaim := { program := "ytniggdaakiofeaa", sum := "6f9e5a651bf36fe89841fa37974ce8880166c115a94bfb9c206333252654d74b", func := "beck/becklaw14.SolutionExtends", spec := "solutionExtends", unfollowed := true, recurses := true, apart := false, narrowed := true }
def SolutionExtendsUptoSaid : Prop := solutionExtendsUptoRow.holds Try.pinned (OpenSpec.upto solutionExtendsSpec)

end Rows
end Go.Proofs.Ytniggdaakiofeaa
