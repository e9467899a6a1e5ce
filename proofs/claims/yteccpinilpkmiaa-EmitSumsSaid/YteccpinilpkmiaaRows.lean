/-
  No cell of these rows narrows 'for every input' (looked for: loops, veiled, ifaces, maps, wideKeys, modest, calm, conditions, laid).
  DERIVED. THE GIVEN ROWS OF THIS SEAT. 5 by the template 'for every input the law returns true; each argument reads behind the call as it read before'; 0 by the template 'total and deterministic' (their statements: YteccpinilpkmiaaTotals.lean).
  GIVEN WITH THE SEED: the statements are not yours to turn. If you find one false, say at which input.
  Laid BY PROGRAM, IN A SANDBOX (cutbox-rows.mjs): the forced cells as the released guide's own fill.sh prints them over the translation 5378099c3ccc2f40… (all of the seat's roots in one cut). By AI agents, Wed Nov 11 2026. No macro, syntax, notation, axiom, sorry.
-/
import Derived.Test.YteccpinilpkmiaaChecked
import GoSem.Claim
import GoSem.ClaimJoined
import GoSem.ClaimMapViews
import Derived.JoinedTies
import Derived.KernelRfl
namespace Go.Proofs.Yteccpinilpkmiaa
/- THE CELL 'sum', in the pinned program and in every row, IS THE sha256 OF THE DUMP (.gsa) THAT YteccpinilpkmiaaProg.lean LOADS. Nothing in Lean hashes anything: it is a label: what it is worth is what the hold of that sum in a sandbox is worth. -/
noncomputable def Try.pinned : Pinned := { name := "yteccpinilpkmiaa", sum := "5378099c3ccc2f4067aa60be29da462b9237ab12dcc51631a25ba1487759e433", checked := Try.checked }
namespace Rows
def none {H : Type} : Left H := { results := [], args := [] }

/-- 'becklaw18.EmitSums': WHATEVER THE INPUT: true; the input reads as it did. -/
def emitSumsSpec : ChangeSpec := { name := "emitSums", fn := fun _ => fun
  | [d1, d2] => { results := [.lit (.bool true)], args := [d1, d2] }
  | _ => none }
def emitSumsRow : OpenClaim := { program := "yteccpinilpkmiaa", sum := "5378099c3ccc2f4067aa60be29da462b9237ab12dcc51631a25ba1487759e433", func := "beck/becklaw18.EmitSums", spec := "emitSums", unfollowed := true, recurses := true, apart := false }
def EmitSumsSaid : Prop := emitSumsRow.holds Try.pinned (OpenSpec.ofChange emitSumsSpec)

/-- ITS FALSE NEIGHBOUR: 'it returns false'. Refute it at one input. -/
def emitSumsWrong : ChangeSpec := { name := "emitSums", fn := fun _ => fun
  | [d1, d2] => { results := [.lit (.bool false)], args := [d1, d2] }
  | _ => none }
def EmitSumsWrongFalsely : Prop := emitSumsRow.holds Try.pinned (OpenSpec.ofChange emitSumsWrong)

/-- 'becklaw18.EmitLess': WHATEVER THE INPUT: true; the input reads as it did. -/
def emitLessSpec : ChangeSpec := { name := "emitLess", fn := fun _ => fun
  | [d1, d2] => { results := [.lit (.bool true)], args := [d1, d2] }
  | _ => none }
def emitLessRow : OpenClaim := { program := "yteccpinilpkmiaa", sum := "5378099c3ccc2f4067aa60be29da462b9237ab12dcc51631a25ba1487759e433", func := "beck/becklaw18.EmitLess", spec := "emitLess", unfollowed := true, recurses := true, apart := false }
def EmitLessSaid : Prop := emitLessRow.holds Try.pinned (OpenSpec.ofChange emitLessSpec)

/-- ITS FALSE NEIGHBOUR: 'it returns false'. Refute it at one input. -/
def emitLessWrong : ChangeSpec := { name := "emitLess", fn := fun _ => fun
  | [d1, d2] => { results := [.lit (.bool false)], args := [d1, d2] }
  | _ => none }
def EmitLessWrongFalsely : Prop := emitLessRow.holds Try.pinned (OpenSpec.ofChange emitLessWrong)

/-- 'becklaw18.EmitTwice': WHATEVER THE INPUT: true; the input reads as it did. -/
def emitTwiceSpec : ChangeSpec := { name := "emitTwice", fn := fun _ => fun
  | [d1, d2] => { results := [.lit (.bool true)], args := [d1, d2] }
  | _ => none }
def emitTwiceRow : OpenClaim := { program := "yteccpinilpkmiaa", sum := "5378099c3ccc2f4067aa60be29da462b9237ab12dcc51631a25ba1487759e433", func := "beck/becklaw18.EmitTwice", spec := "emitTwice", unfollowed := true, recurses := true, apart := false }
def EmitTwiceSaid : Prop := emitTwiceRow.holds Try.pinned (OpenSpec.ofChange emitTwiceSpec)

/-- ITS FALSE NEIGHBOUR: 'it returns false'. Refute it at one input. -/
def emitTwiceWrong : ChangeSpec := { name := "emitTwice", fn := fun _ => fun
  | [d1, d2] => { results := [.lit (.bool false)], args := [d1, d2] }
  | _ => none }
def EmitTwiceWrongFalsely : Prop := emitTwiceRow.holds Try.pinned (OpenSpec.ofChange emitTwiceWrong)

/-- 'becklaw18.EmitBacks': WHATEVER THE INPUT: true; the input reads as it did. -/
def emitBacksSpec : ChangeSpec := { name := "emitBacks", fn := fun _ => fun
  | [d] => { results := [.lit (.bool true)], args := [d] }
  | _ => none }
def emitBacksRow : OpenClaim := { program := "yteccpinilpkmiaa", sum := "5378099c3ccc2f4067aa60be29da462b9237ab12dcc51631a25ba1487759e433", func := "beck/becklaw18.EmitBacks", spec := "emitBacks", unfollowed := true, recurses := true, apart := false }
def EmitBacksSaid : Prop := emitBacksRow.holds Try.pinned (OpenSpec.ofChange emitBacksSpec)

/-- ITS FALSE NEIGHBOUR: 'it returns false'. Refute it at one input. -/
def emitBacksWrong : ChangeSpec := { name := "emitBacks", fn := fun _ => fun
  | [d] => { results := [.lit (.bool false)], args := [d] }
  | _ => none }
def EmitBacksWrongFalsely : Prop := emitBacksRow.holds Try.pinned (OpenSpec.ofChange emitBacksWrong)

/-- 'becklaw18.EmitPlays': WHATEVER THE INPUT: true; the input reads as it did. -/
def emitPlaysSpec : ChangeSpec := { name := "emitPlays", fn := fun _ => fun
  | [d1, d2] => { results := [.lit (.bool true)], args := [d1, d2] }
  | _ => none }
def emitPlaysRow : OpenClaim := { program := "yteccpinilpkmiaa", sum := "5378099c3ccc2f4067aa60be29da462b9237ab12dcc51631a25ba1487759e433", func := "beck/becklaw18.EmitPlays", spec := "emitPlays", unfollowed := true, recurses := true, apart := false }
def EmitPlaysSaid : Prop := emitPlaysRow.holds Try.pinned (OpenSpec.ofChange emitPlaysSpec)

/-- ITS FALSE NEIGHBOUR: 'it returns false'. Refute it at one input. -/
def emitPlaysWrong : ChangeSpec := { name := "emitPlays", fn := fun _ => fun
  | [d1, d2] => { results := [.lit (.bool false)], args := [d1, d2] }
  | _ => none }
def EmitPlaysWrongFalsely : Prop := emitPlaysRow.holds Try.pinned (OpenSpec.ofChange emitPlaysWrong)

/- THE SECOND FORM. 'bulk': how many values and letters a reading holds, each counted each time it is reached (what is shared counts as often as it is met; a slice's spare places count too). A statement '..UptoSaid' is the law's where the arguments, and the package variables that the reading takes, are together of bulk at most 1048576: NARROWER than '..Said'. Prove '..Said' where nothing that the law and all that it calls make is longer than what came in: it says more and counts as full. Else prove '..UptoSaid'. A law counts once. -/
mutual
def uptoBulk {H : Type} : DataW H → Nat
  | .lit (.string bytes) => bytes.length + 1
  | .lit _ => 1
  | .nil => 1
  | .ptr d => uptoBulk d + 1
  | .slice elems spare => uptoBulkAll elems + uptoBulkAll spare + 1
  | .agg parts => uptoBulkAll parts + 1
  | .iface _ d => uptoBulk d + 1
  | .map entries => uptoBulkEntries entries + 1
  | .held _ => 1
def uptoBulkAll {H : Type} : List (DataW H) → Nat
  | [] => 0
  | d :: r => uptoBulk d + uptoBulkAll r
def uptoBulkEntries {H : Type} : List (Lit × DataW H) → Nat
  | [] => 0
  | x :: r => uptoBulkEntry x + uptoBulkEntries r
def uptoBulkEntry {H : Type} : Lit × DataW H → Nat
  | (.string bytes, d) => bytes.length + uptoBulk d + 1
  | (_, d) => uptoBulk d + 1
 end
def uptoSmall : (H : Type) → List (DataW H) → Bool := fun _ ds => decide (uptoBulkAll ds ≤ 1048576)
def OpenSpec.upto (s : _root_.Go.ChangeSpec) : _root_.Go.OpenSpec := { _root_.Go.OpenSpec.ofChange s with cond := some uptoSmall }

/-- 'becklaw18.EmitSums', WHERE WHAT IT READS IS OF BULK AT MOST 1048576: true; the input reads as it did. -/
def emitSumsUptoRow : OpenClaim := { program := "yteccpinilpkmiaa", sum := "5378099c3ccc2f4067aa60be29da462b9237ab12dcc51631a25ba1487759e433", func := "beck/becklaw18.EmitSums", spec := "emitSums", unfollowed := true, recurses := true, apart := false, narrowed := true }
def EmitSumsUptoSaid : Prop := emitSumsUptoRow.holds Try.pinned (OpenSpec.upto emitSumsSpec)

/-- 'becklaw18.EmitLess', WHERE WHAT IT READS IS OF BULK AT MOST 1048576: true; the input reads as it did. -/
def emitLessUptoRow : OpenClaim := { program := "yteccpinilpkmiaa", sum := "5378099c3ccc2f4067aa60be29da462b9237ab12dcc51631a25ba1487759e433", func := "beck/becklaw18.EmitLess", spec := "emitLess", unfollowed := true, recurses := true, apart := false, narrowed := true }
def EmitLessUptoSaid : Prop := emitLessUptoRow.holds Try.pinned (OpenSpec.upto emitLessSpec)

/-- 'becklaw18.EmitTwice', WHERE WHAT IT READS IS OF BULK AT MOST 1048576: true; the input reads as it did. -/
def emitTwiceUptoRow : OpenClaim := { program := "yteccpinilpkmiaa", sum := "5378099c3ccc2f4067aa60be29da462b9237ab12dcc51631a25ba1487759e433", func := "beck/becklaw18.EmitTwice", spec := "emitTwice", unfollowed := true, recurses := true, apart := false, narrowed := true }
def EmitTwiceUptoSaid : Prop := emitTwiceUptoRow.holds Try.pinned (OpenSpec.upto emitTwiceSpec)

/-- 'becklaw18.EmitBacks', WHERE WHAT IT READS IS OF BULK AT MOST 1048576: true; the input reads as it did. -/
def emitBacksUptoRow : OpenClaim := { program := "yteccpinilpkmiaa", sum := "5378099c3ccc2f4067aa60be29da462b9237ab12dcc51631a25ba1487759e433", func := "beck/becklaw18.EmitBacks", spec := "emitBacks", unfollowed := true, recurses := true, apart := false, narrowed := true }
def EmitBacksUptoSaid : Prop := emitBacksUptoRow.holds Try.pinned (OpenSpec.upto emitBacksSpec)

/-- 'becklaw18.EmitPlays', WHERE WHAT IT READS IS OF BULK AT MOST 1048576: true; the input reads as it did. -/
def emitPlaysUptoRow : OpenClaim := { program := "yteccpinilpkmiaa", sum := "5378099c3ccc2f4067aa60be29da462b9237ab12dcc51631a25ba1487759e433", func := "beck/becklaw18.EmitPlays", spec := "emitPlays", unfollowed := true, recurses := true, apart := false, narrowed := true }
def EmitPlaysUptoSaid : Prop := emitPlaysUptoRow.holds Try.pinned (OpenSpec.upto emitPlaysSpec)

end Rows
end Go.Proofs.Yteccpinilpkmiaa
