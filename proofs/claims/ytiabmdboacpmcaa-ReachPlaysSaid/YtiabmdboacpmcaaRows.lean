/-
  No cell of these rows narrows 'for every input' (looked for: loops, veiled, ifaces, maps, wideKeys, modest, calm, conditions, laid).
  DERIVED. THE GIVEN ROWS OF THIS SEAT. 16 by the template 'for every input the law returns true; each argument reads behind the call as it read before'; 0 by the template 'total and deterministic' (their statements: YtiabmdboacpmcaaTotals.lean).
  GIVEN WITH THE SEED: the statements are not yours to turn. If you find one false, say at which input.
  Laid BY PROGRAM, IN A SANDBOX (cutbox-rows.mjs): the forced cells as the released guide's own fill.sh prints them over the translation 5d71ce00d1c04f06… (all of the seat's roots in one cut). By AI agents, Wed Nov 11 2026. No macro, syntax, notation, axiom, sorry.
-/
import Derived.Test.YtiabmdboacpmcaaChecked
import GoSem.Claim
import GoSem.ClaimJoined
import GoSem.ClaimMapViews
import Derived.JoinedTies
import Derived.KernelRfl
namespace Go.Proofs.Ytiabmdboacpmcaa
/- THE CELL 'sum', in the pinned program and in every row, IS THE sha256 OF THE DUMP (.gsa) THAT YtiabmdboacpmcaaProg.lean LOADS. Nothing in Lean hashes anything: it is a label: what it is worth is what the hold of that sum in a sandbox is worth. -/
noncomputable def Try.pinned : Pinned := { name := "ytiabmdboacpmcaa", sum := "5d71ce00d1c04f06f0e05ade0ac8c3f80fc73face6786e5650225492564b0044", checked := Try.checked }
namespace Rows
def none {H : Type} : Left H := { results := [], args := [] }

/-- 'becklaw10.NfaChecks': WHATEVER THE INPUT: true; the input reads as it did. -/
def nfaChecksSpec : ChangeSpec := { name := "nfaChecks", fn := fun _ => fun
  | [d] => { results := [.lit (.bool true)], args := [d] }
  | _ => none }
def nfaChecksRow : OpenClaim := { program := "ytiabmdboacpmcaa", sum := "5d71ce00d1c04f06f0e05ade0ac8c3f80fc73face6786e5650225492564b0044", func := "beck/becklaw10.NfaChecks", spec := "nfaChecks", unfollowed := true, recurses := true, plainKeys := false, apart := false }
def NfaChecksSaid : Prop := nfaChecksRow.holds Try.pinned (OpenSpec.ofChange nfaChecksSpec)

/-- ITS FALSE NEIGHBOUR: 'it returns false'. Refute it at one input. -/
def nfaChecksWrong : ChangeSpec := { name := "nfaChecks", fn := fun _ => fun
  | [d] => { results := [.lit (.bool false)], args := [d] }
  | _ => none }
def NfaChecksWrongFalsely : Prop := nfaChecksRow.holds Try.pinned (OpenSpec.ofChange nfaChecksWrong)

/-- 'becklaw10.NfaDeep': WHATEVER THE INPUT: true; the input reads as it did. -/
def nfaDeepSpec : ChangeSpec := { name := "nfaDeep", fn := fun _ => fun
  | [d1, d2] => { results := [.lit (.bool true)], args := [d1, d2] }
  | _ => none }
def nfaDeepRow : OpenClaim := { program := "ytiabmdboacpmcaa", sum := "5d71ce00d1c04f06f0e05ade0ac8c3f80fc73face6786e5650225492564b0044", func := "beck/becklaw10.NfaDeep", spec := "nfaDeep", unfollowed := true, recurses := true, plainKeys := false, apart := false }
def NfaDeepSaid : Prop := nfaDeepRow.holds Try.pinned (OpenSpec.ofChange nfaDeepSpec)

/-- ITS FALSE NEIGHBOUR: 'it returns false'. Refute it at one input. -/
def nfaDeepWrong : ChangeSpec := { name := "nfaDeep", fn := fun _ => fun
  | [d1, d2] => { results := [.lit (.bool false)], args := [d1, d2] }
  | _ => none }
def NfaDeepWrongFalsely : Prop := nfaDeepRow.holds Try.pinned (OpenSpec.ofChange nfaDeepWrong)

/-- 'becklaw10.NfaStars': WHATEVER THE INPUT: true; the input reads as it did. -/
def nfaStarsSpec : ChangeSpec := { name := "nfaStars", fn := fun _ => fun
  | [d1, d2] => { results := [.lit (.bool true)], args := [d1, d2] }
  | _ => none }
def nfaStarsRow : OpenClaim := { program := "ytiabmdboacpmcaa", sum := "5d71ce00d1c04f06f0e05ade0ac8c3f80fc73face6786e5650225492564b0044", func := "beck/becklaw10.NfaStars", spec := "nfaStars", unfollowed := true, recurses := true, plainKeys := false, apart := false }
def NfaStarsSaid : Prop := nfaStarsRow.holds Try.pinned (OpenSpec.ofChange nfaStarsSpec)

/-- ITS FALSE NEIGHBOUR: 'it returns false'. Refute it at one input. -/
def nfaStarsWrong : ChangeSpec := { name := "nfaStars", fn := fun _ => fun
  | [d1, d2] => { results := [.lit (.bool false)], args := [d1, d2] }
  | _ => none }
def NfaStarsWrongFalsely : Prop := nfaStarsRow.holds Try.pinned (OpenSpec.ofChange nfaStarsWrong)

/-- 'becklaw10.NfaTwo': WHATEVER THE INPUT: true; the input reads as it did. -/
def nfaTwoSpec : ChangeSpec := { name := "nfaTwo", fn := fun _ => fun
  | [d1, d2, d3] => { results := [.lit (.bool true)], args := [d1, d2, d3] }
  | _ => none }
def nfaTwoRow : OpenClaim := { program := "ytiabmdboacpmcaa", sum := "5d71ce00d1c04f06f0e05ade0ac8c3f80fc73face6786e5650225492564b0044", func := "beck/becklaw10.NfaTwo", spec := "nfaTwo", unfollowed := true, recurses := true, plainKeys := false, apart := false }
def NfaTwoSaid : Prop := nfaTwoRow.holds Try.pinned (OpenSpec.ofChange nfaTwoSpec)

/-- ITS FALSE NEIGHBOUR: 'it returns false'. Refute it at one input. -/
def nfaTwoWrong : ChangeSpec := { name := "nfaTwo", fn := fun _ => fun
  | [d1, d2, d3] => { results := [.lit (.bool false)], args := [d1, d2, d3] }
  | _ => none }
def NfaTwoWrongFalsely : Prop := nfaTwoRow.holds Try.pinned (OpenSpec.ofChange nfaTwoWrong)

/-- 'becklaw10.NfaSets': WHATEVER THE INPUT: true; the input reads as it did. -/
def nfaSetsSpec : ChangeSpec := { name := "nfaSets", fn := fun _ => fun
  | [d1, d2] => { results := [.lit (.bool true)], args := [d1, d2] }
  | _ => none }
def nfaSetsRow : OpenClaim := { program := "ytiabmdboacpmcaa", sum := "5d71ce00d1c04f06f0e05ade0ac8c3f80fc73face6786e5650225492564b0044", func := "beck/becklaw10.NfaSets", spec := "nfaSets", unfollowed := true, recurses := true, plainKeys := false, apart := false }
def NfaSetsSaid : Prop := nfaSetsRow.holds Try.pinned (OpenSpec.ofChange nfaSetsSpec)

/-- ITS FALSE NEIGHBOUR: 'it returns false'. Refute it at one input. -/
def nfaSetsWrong : ChangeSpec := { name := "nfaSets", fn := fun _ => fun
  | [d1, d2] => { results := [.lit (.bool false)], args := [d1, d2] }
  | _ => none }
def NfaSetsWrongFalsely : Prop := nfaSetsRow.holds Try.pinned (OpenSpec.ofChange nfaSetsWrong)

/-- 'becklaw10.NfaTakes': WHATEVER THE INPUT: true; the input reads as it did. -/
def nfaTakesSpec : ChangeSpec := { name := "nfaTakes", fn := fun _ => fun
  | [d1, d2] => { results := [.lit (.bool true)], args := [d1, d2] }
  | _ => none }
def nfaTakesRow : OpenClaim := { program := "ytiabmdboacpmcaa", sum := "5d71ce00d1c04f06f0e05ade0ac8c3f80fc73face6786e5650225492564b0044", func := "beck/becklaw10.NfaTakes", spec := "nfaTakes", unfollowed := true, recurses := true, plainKeys := false, apart := false }
def NfaTakesSaid : Prop := nfaTakesRow.holds Try.pinned (OpenSpec.ofChange nfaTakesSpec)

/-- ITS FALSE NEIGHBOUR: 'it returns false'. Refute it at one input. -/
def nfaTakesWrong : ChangeSpec := { name := "nfaTakes", fn := fun _ => fun
  | [d1, d2] => { results := [.lit (.bool false)], args := [d1, d2] }
  | _ => none }
def NfaTakesWrongFalsely : Prop := nfaTakesRow.holds Try.pinned (OpenSpec.ofChange nfaTakesWrong)

/-- 'becklaw11.ReachMore': WHATEVER THE INPUT: true; the input reads as it did. -/
def reachMoreSpec : ChangeSpec := { name := "reachMore", fn := fun _ => fun
  | [d1, d2, d3] => { results := [.lit (.bool true)], args := [d1, d2, d3] }
  | _ => none }
def reachMoreRow : OpenClaim := { program := "ytiabmdboacpmcaa", sum := "5d71ce00d1c04f06f0e05ade0ac8c3f80fc73face6786e5650225492564b0044", func := "beck/becklaw11.ReachMore", spec := "reachMore", inPlace := ["maps.clone"], unfollowed := true, recurses := true, plainKeys := false, apart := false }
def ReachMoreSaid : Prop := reachMoreRow.holds Try.pinned (OpenSpec.ofChange reachMoreSpec)

/-- ITS FALSE NEIGHBOUR: 'it returns false'. Refute it at one input. -/
def reachMoreWrong : ChangeSpec := { name := "reachMore", fn := fun _ => fun
  | [d1, d2, d3] => { results := [.lit (.bool false)], args := [d1, d2, d3] }
  | _ => none }
def ReachMoreWrongFalsely : Prop := reachMoreRow.holds Try.pinned (OpenSpec.ofChange reachMoreWrong)

/-- 'becklaw11.ReachStars': WHATEVER THE INPUT: true; the input reads as it did. -/
def reachStarsSpec : ChangeSpec := { name := "reachStars", fn := fun _ => fun
  | [d1, d2] => { results := [.lit (.bool true)], args := [d1, d2] }
  | _ => none }
def reachStarsRow : OpenClaim := { program := "ytiabmdboacpmcaa", sum := "5d71ce00d1c04f06f0e05ade0ac8c3f80fc73face6786e5650225492564b0044", func := "beck/becklaw11.ReachStars", spec := "reachStars", inPlace := ["maps.clone"], unfollowed := true, recurses := true, plainKeys := false, apart := false }
def ReachStarsSaid : Prop := reachStarsRow.holds Try.pinned (OpenSpec.ofChange reachStarsSpec)

/-- ITS FALSE NEIGHBOUR: 'it returns false'. Refute it at one input. -/
def reachStarsWrong : ChangeSpec := { name := "reachStars", fn := fun _ => fun
  | [d1, d2] => { results := [.lit (.bool false)], args := [d1, d2] }
  | _ => none }
def ReachStarsWrongFalsely : Prop := reachStarsRow.holds Try.pinned (OpenSpec.ofChange reachStarsWrong)

/-- 'becklaw11.ReachSteps': WHATEVER THE INPUT: true; the input reads as it did. -/
def reachStepsSpec : ChangeSpec := { name := "reachSteps", fn := fun _ => fun
  | [d1, d2] => { results := [.lit (.bool true)], args := [d1, d2] }
  | _ => none }
def reachStepsRow : OpenClaim := { program := "ytiabmdboacpmcaa", sum := "5d71ce00d1c04f06f0e05ade0ac8c3f80fc73face6786e5650225492564b0044", func := "beck/becklaw11.ReachSteps", spec := "reachSteps", inPlace := ["maps.clone"], unfollowed := true, recurses := true, plainKeys := false, apart := false }
def ReachStepsSaid : Prop := reachStepsRow.holds Try.pinned (OpenSpec.ofChange reachStepsSpec)

/-- ITS FALSE NEIGHBOUR: 'it returns false'. Refute it at one input. -/
def reachStepsWrong : ChangeSpec := { name := "reachSteps", fn := fun _ => fun
  | [d1, d2] => { results := [.lit (.bool false)], args := [d1, d2] }
  | _ => none }
def ReachStepsWrongFalsely : Prop := reachStepsRow.holds Try.pinned (OpenSpec.ofChange reachStepsWrong)

/-- 'becklaw11.ReachAsks': WHATEVER THE INPUT: true; the input reads as it did. -/
def reachAsksSpec : ChangeSpec := { name := "reachAsks", fn := fun _ => fun
  | [d1, d2, d3] => { results := [.lit (.bool true)], args := [d1, d2, d3] }
  | _ => none }
def reachAsksRow : OpenClaim := { program := "ytiabmdboacpmcaa", sum := "5d71ce00d1c04f06f0e05ade0ac8c3f80fc73face6786e5650225492564b0044", func := "beck/becklaw11.ReachAsks", spec := "reachAsks", inPlace := ["maps.clone"], unfollowed := true, recurses := true, plainKeys := false, apart := false }
def ReachAsksSaid : Prop := reachAsksRow.holds Try.pinned (OpenSpec.ofChange reachAsksSpec)

/-- ITS FALSE NEIGHBOUR: 'it returns false'. Refute it at one input. -/
def reachAsksWrong : ChangeSpec := { name := "reachAsks", fn := fun _ => fun
  | [d1, d2, d3] => { results := [.lit (.bool false)], args := [d1, d2, d3] }
  | _ => none }
def ReachAsksWrongFalsely : Prop := reachAsksRow.holds Try.pinned (OpenSpec.ofChange reachAsksWrong)

/-- 'becklaw11.ReachTurns': WHATEVER THE INPUT: true; the input reads as it did. -/
def reachTurnsSpec : ChangeSpec := { name := "reachTurns", fn := fun _ => fun
  | [d1, d2] => { results := [.lit (.bool true)], args := [d1, d2] }
  | _ => none }
def reachTurnsRow : OpenClaim := { program := "ytiabmdboacpmcaa", sum := "5d71ce00d1c04f06f0e05ade0ac8c3f80fc73face6786e5650225492564b0044", func := "beck/becklaw11.ReachTurns", spec := "reachTurns", inPlace := ["maps.clone"], unfollowed := true, recurses := true, plainKeys := false, apart := false }
def ReachTurnsSaid : Prop := reachTurnsRow.holds Try.pinned (OpenSpec.ofChange reachTurnsSpec)

/-- ITS FALSE NEIGHBOUR: 'it returns false'. Refute it at one input. -/
def reachTurnsWrong : ChangeSpec := { name := "reachTurns", fn := fun _ => fun
  | [d1, d2] => { results := [.lit (.bool false)], args := [d1, d2] }
  | _ => none }
def ReachTurnsWrongFalsely : Prop := reachTurnsRow.holds Try.pinned (OpenSpec.ofChange reachTurnsWrong)

/-- 'becklaw11.ReachExpires': WHATEVER THE INPUT: true; the input reads as it did. -/
def reachExpiresSpec : ChangeSpec := { name := "reachExpires", fn := fun _ => fun
  | [d1, d2, d3] => { results := [.lit (.bool true)], args := [d1, d2, d3] }
  | _ => none }
def reachExpiresRow : OpenClaim := { program := "ytiabmdboacpmcaa", sum := "5d71ce00d1c04f06f0e05ade0ac8c3f80fc73face6786e5650225492564b0044", func := "beck/becklaw11.ReachExpires", spec := "reachExpires", inPlace := ["maps.clone"], unfollowed := true, recurses := true, plainKeys := false, apart := false }
def ReachExpiresSaid : Prop := reachExpiresRow.holds Try.pinned (OpenSpec.ofChange reachExpiresSpec)

/-- ITS FALSE NEIGHBOUR: 'it returns false'. Refute it at one input. -/
def reachExpiresWrong : ChangeSpec := { name := "reachExpires", fn := fun _ => fun
  | [d1, d2, d3] => { results := [.lit (.bool false)], args := [d1, d2, d3] }
  | _ => none }
def ReachExpiresWrongFalsely : Prop := reachExpiresRow.holds Try.pinned (OpenSpec.ofChange reachExpiresWrong)

/-- 'becklaw11.ReachPlays': WHATEVER THE INPUT: true; the input reads as it did. -/
def reachPlaysSpec : ChangeSpec := { name := "reachPlays", fn := fun _ => fun
  | [d1, d2, d3] => { results := [.lit (.bool true)], args := [d1, d2, d3] }
  | _ => none }
def reachPlaysRow : OpenClaim := { program := "ytiabmdboacpmcaa", sum := "5d71ce00d1c04f06f0e05ade0ac8c3f80fc73face6786e5650225492564b0044", func := "beck/becklaw11.ReachPlays", spec := "reachPlays", inPlace := ["maps.clone"], unfollowed := true, recurses := true, plainKeys := false, apart := false }
def ReachPlaysSaid : Prop := reachPlaysRow.holds Try.pinned (OpenSpec.ofChange reachPlaysSpec)

/-- ITS FALSE NEIGHBOUR: 'it returns false'. Refute it at one input. -/
def reachPlaysWrong : ChangeSpec := { name := "reachPlays", fn := fun _ => fun
  | [d1, d2, d3] => { results := [.lit (.bool false)], args := [d1, d2, d3] }
  | _ => none }
def ReachPlaysWrongFalsely : Prop := reachPlaysRow.holds Try.pinned (OpenSpec.ofChange reachPlaysWrong)

/-- 'becklaw11.ReachOrders': WHATEVER THE INPUT: true; the input reads as it did. -/
def reachOrdersSpec : ChangeSpec := { name := "reachOrders", fn := fun _ => fun
  | [d1, d2, d3] => { results := [.lit (.bool true)], args := [d1, d2, d3] }
  | _ => none }
def reachOrdersRow : OpenClaim := { program := "ytiabmdboacpmcaa", sum := "5d71ce00d1c04f06f0e05ade0ac8c3f80fc73face6786e5650225492564b0044", func := "beck/becklaw11.ReachOrders", spec := "reachOrders", inPlace := ["maps.clone"], unfollowed := true, recurses := true, plainKeys := false, apart := false }
def ReachOrdersSaid : Prop := reachOrdersRow.holds Try.pinned (OpenSpec.ofChange reachOrdersSpec)

/-- ITS FALSE NEIGHBOUR: 'it returns false'. Refute it at one input. -/
def reachOrdersWrong : ChangeSpec := { name := "reachOrders", fn := fun _ => fun
  | [d1, d2, d3] => { results := [.lit (.bool false)], args := [d1, d2, d3] }
  | _ => none }
def ReachOrdersWrongFalsely : Prop := reachOrdersRow.holds Try.pinned (OpenSpec.ofChange reachOrdersWrong)

/-- 'becklaw10.NfaSymbols': WHATEVER THE INPUT: true; the input reads as it did. -/
def nfaSymbolsSpec : ChangeSpec := { name := "nfaSymbols", fn := fun _ => fun
  | [d1, d2] => { results := [.lit (.bool true)], args := [d1, d2] }
  | _ => none }
def nfaSymbolsRow : OpenClaim := { program := "ytiabmdboacpmcaa", sum := "5d71ce00d1c04f06f0e05ade0ac8c3f80fc73face6786e5650225492564b0044", func := "beck/becklaw10.NfaSymbols", spec := "nfaSymbols", unfollowed := true, recurses := true, plainKeys := false, apart := false }
def NfaSymbolsSaid : Prop := nfaSymbolsRow.holds Try.pinned (OpenSpec.ofChange nfaSymbolsSpec)

/-- ITS FALSE NEIGHBOUR: 'it returns false'. Refute it at one input. -/
def nfaSymbolsWrong : ChangeSpec := { name := "nfaSymbols", fn := fun _ => fun
  | [d1, d2] => { results := [.lit (.bool false)], args := [d1, d2] }
  | _ => none }
def NfaSymbolsWrongFalsely : Prop := nfaSymbolsRow.holds Try.pinned (OpenSpec.ofChange nfaSymbolsWrong)

/-- 'becklaw10.NfaTurns': WHATEVER THE INPUT: true; the input reads as it did. -/
def nfaTurnsSpec : ChangeSpec := { name := "nfaTurns", fn := fun _ => fun
  | [d1, d2] => { results := [.lit (.bool true)], args := [d1, d2] }
  | _ => none }
def nfaTurnsRow : OpenClaim := { program := "ytiabmdboacpmcaa", sum := "5d71ce00d1c04f06f0e05ade0ac8c3f80fc73face6786e5650225492564b0044", func := "beck/becklaw10.NfaTurns", spec := "nfaTurns", unfollowed := true, recurses := true, plainKeys := false, apart := false }
def NfaTurnsSaid : Prop := nfaTurnsRow.holds Try.pinned (OpenSpec.ofChange nfaTurnsSpec)

/-- ITS FALSE NEIGHBOUR: 'it returns false'. Refute it at one input. -/
def nfaTurnsWrong : ChangeSpec := { name := "nfaTurns", fn := fun _ => fun
  | [d1, d2] => { results := [.lit (.bool false)], args := [d1, d2] }
  | _ => none }
def NfaTurnsWrongFalsely : Prop := nfaTurnsRow.holds Try.pinned (OpenSpec.ofChange nfaTurnsWrong)

/- THE SECOND FORM. 'bulk': how many values and letters a reading holds, each counted each time it is reached (what is shared counts as often as it is met; a slice's spare places count too). A statement '..UptoSaid' is the law's where the arguments, and the package variables that the reading takes, are together of bulk at most 1048576: NARROWER than '..Said'. Prove '..Said' where nothing that the law and all that it calls make is longer than what came in: it says more and counts as full. Else prove '..UptoSaid'. A law counts once. -/
mutual
def uptoBulk {H : Type} : DataW H → Nat
  | .lit (.string bytes) => bytes.length + 1
  | .lit _ => 1
  | .nil => 1
  | .ptr d => uptoBulk d + 1
  | .slice elems spare => uptoBulkAll elems + uptoBulkAll spare + 1
  | .agg parts => uptoBulkAll parts + 1
  | .iface _ d => uptoBulk d + 1
  | .map entries => uptoBulkEntries entries + 1
  | .held _ => 1
def uptoBulkAll {H : Type} : List (DataW H) → Nat
  | [] => 0
  | d :: r => uptoBulk d + uptoBulkAll r
def uptoBulkEntries {H : Type} : List (Lit × DataW H) → Nat
  | [] => 0
  | x :: r => uptoBulkEntry x + uptoBulkEntries r
def uptoBulkEntry {H : Type} : Lit × DataW H → Nat
  | (.string bytes, d) => bytes.length + uptoBulk d + 1
  | (_, d) => uptoBulk d + 1
 end
def uptoSmall : (H : Type) → List (DataW H) → Bool := fun _ ds => decide (uptoBulkAll ds ≤ 1048576)
def OpenSpec.upto (s : _root_.Go.ChangeSpec) : _root_.Go.OpenSpec := { _root_.Go.OpenSpec.ofChange s with cond := some uptoSmall }

/-- 'becklaw10.NfaChecks', WHERE WHAT IT READS IS OF BULK AT MOST 1048576: true; the input reads as it did. -/
def nfaChecksUptoRow : OpenClaim := { program := "ytiabmdboacpmcaa", sum := "5d71ce00d1c04f06f0e05ade0ac8c3f80fc73face6786e5650225492564b0044", func := "beck/becklaw10.NfaChecks", spec := "nfaChecks", unfollowed := true, recurses := true, plainKeys := false, apart := false, narrowed := true }
def NfaChecksUptoSaid : Prop := nfaChecksUptoRow.holds Try.pinned (OpenSpec.upto nfaChecksSpec)

/-- 'becklaw10.NfaDeep', WHERE WHAT IT READS IS OF BULK AT MOST 1048576: true; the input reads as it did. -/
def nfaDeepUptoRow : OpenClaim := { program := "ytiabmdboacpmcaa", sum := "5d71ce00d1c04f06f0e05ade0ac8c3f80fc73face6786e5650225492564b0044", func := "beck/becklaw10.NfaDeep", spec := "nfaDeep", unfollowed := true, recurses := true, plainKeys := false, apart := false, narrowed := true }
def NfaDeepUptoSaid : Prop := nfaDeepUptoRow.holds Try.pinned (OpenSpec.upto nfaDeepSpec)

/-- 'becklaw10.NfaStars', WHERE WHAT IT READS IS OF BULK AT MOST 1048576: true; the input reads as it did. -/
def nfaStarsUptoRow : OpenClaim := { program := "ytiabmdboacpmcaa", sum := "5d71ce00d1c04f06f0e05ade0ac8c3f80fc73face6786e5650225492564b0044", func := "beck/becklaw10.NfaStars", spec := "nfaStars", unfollowed := true, recurses := true, plainKeys := false, apart := false, narrowed := true }
def NfaStarsUptoSaid : Prop := nfaStarsUptoRow.holds Try.pinned (OpenSpec.upto nfaStarsSpec)

/-- 'becklaw10.NfaTwo', WHERE WHAT IT READS IS OF BULK AT MOST 1048576: true; the input reads as it did. -/
def nfaTwoUptoRow : OpenClaim := { program := "ytiabmdboacpmcaa", sum := "5d71ce00d1c04f06f0e05ade0ac8c3f80fc73face6786e5650225492564b0044", func := "beck/becklaw10.NfaTwo", spec := "nfaTwo", unfollowed := true, recurses := true, plainKeys := false, apart := false, narrowed := true }
def NfaTwoUptoSaid : Prop := nfaTwoUptoRow.holds Try.pinned (OpenSpec.upto nfaTwoSpec)

/-- 'becklaw10.NfaSets', WHERE WHAT IT READS IS OF BULK AT MOST 1048576: true; the input reads as it did. -/
def nfaSetsUptoRow : OpenClaim := { program := "ytiabmdboacpmcaa", sum := "5d71ce00d1c04f06f0e05ade0ac8c3f80fc73face6786e5650225492564b0044", func := "beck/becklaw10.NfaSets", spec := "nfaSets", unfollowed := true, recurses := true, plainKeys := false, apart := false, narrowed := true }
def NfaSetsUptoSaid : Prop := nfaSetsUptoRow.holds Try.pinned (OpenSpec.upto nfaSetsSpec)

/-- 'becklaw10.NfaTakes', WHERE WHAT IT READS IS OF BULK AT MOST 1048576: true; the input reads as it did. -/
def nfaTakesUptoRow : OpenClaim := { program := "ytiabmdboacpmcaa", sum := "5d71ce00d1c04f06f0e05ade0ac8c3f80fc73face6786e5650225492564b0044", func := "beck/becklaw10.NfaTakes", spec := "nfaTakes", unfollowed := true, recurses := true, plainKeys := false, apart := false, narrowed := true }
def NfaTakesUptoSaid : Prop := nfaTakesUptoRow.holds Try.pinned (OpenSpec.upto nfaTakesSpec)

/-- 'becklaw11.ReachMore', WHERE WHAT IT READS IS OF BULK AT MOST 1048576: true; the input reads as it did. -/
def reachMoreUptoRow : OpenClaim := { program := "ytiabmdboacpmcaa", sum := "5d71ce00d1c04f06f0e05ade0ac8c3f80fc73face6786e5650225492564b0044", func := "beck/becklaw11.ReachMore", spec := "reachMore", inPlace := ["maps.clone"], unfollowed := true, recurses := true, plainKeys := false, apart := false, narrowed := true }
def ReachMoreUptoSaid : Prop := reachMoreUptoRow.holds Try.pinned (OpenSpec.upto reachMoreSpec)

/-- 'becklaw11.ReachStars', WHERE WHAT IT READS IS OF BULK AT MOST 1048576: true; the input reads as it did. -/
def reachStarsUptoRow : OpenClaim := { program := "ytiabmdboacpmcaa", sum := "5d71ce00d1c04f06f0e05ade0ac8c3f80fc73face6786e5650225492564b0044", func := "beck/becklaw11.ReachStars", spec := "reachStars", inPlace := ["maps.clone"], unfollowed := true, recurses := true, plainKeys := false, apart := false, narrowed := true }
def ReachStarsUptoSaid : Prop := reachStarsUptoRow.holds Try.pinned (OpenSpec.upto reachStarsSpec)

/-- 'becklaw11.ReachSteps', WHERE WHAT IT READS IS OF BULK AT MOST 1048576: true; the input reads as it did. -/
def reachStepsUptoRow : OpenClaim := { program := "ytiabmdboacpmcaa", sum := "5d71ce00d1c04f06f0e05ade0ac8c3f80fc73face6786e5650225492564b0044", func := "beck/becklaw11.ReachSteps", spec := "reachSteps", inPlace := ["maps.clone"], unfollowed := true, recurses := true, plainKeys := false, apart := false, narrowed := true }
def ReachStepsUptoSaid : Prop := reachStepsUptoRow.holds Try.pinned (OpenSpec.upto reachStepsSpec)

/-- 'becklaw11.ReachAsks', WHERE WHAT IT READS IS OF BULK AT MOST 1048576: true; the input reads as it did. -/
def reachAsksUptoRow : OpenClaim := { program := "ytiabmdboacpmcaa", sum := "5d71ce00d1c04f06f0e05ade0ac8c3f80fc73face6786e5650225492564b0044", func := "beck/becklaw11.ReachAsks", spec := "reachAsks", inPlace := ["maps.clone"], unfollowed := true, recurses := true, plainKeys := false, apart := false, narrowed := true }
def ReachAsksUptoSaid : Prop := reachAsksUptoRow.holds Try.pinned (OpenSpec.upto reachAsksSpec)

/-- 'becklaw11.ReachTurns', WHERE WHAT IT READS IS OF BULK AT MOST 1048576: true; the input reads as it did. -/
def reachTurnsUptoRow : OpenClaim := { program := "ytiabmdboacpmcaa", sum := "5d71ce00d1c04f06f0e05ade0ac8c3f80fc73face6786e5650225492564b0044", func := "beck/becklaw11.ReachTurns", spec := "reachTurns", inPlace := ["maps.clone"], unfollowed := true, recurses := true, plainKeys := false, apart := false, narrowed := true }
def ReachTurnsUptoSaid : Prop := reachTurnsUptoRow.holds Try.pinned (OpenSpec.upto reachTurnsSpec)

/-- 'becklaw11.ReachExpires', WHERE WHAT IT READS IS OF BULK AT MOST 1048576: true; the input reads as it did. -/
def reachExpiresUptoRow : OpenClaim := { program := "ytiabmdboacpmcaa", sum := "5d71ce00d1c04f06f0e05ade0ac8c3f80fc73face6786e5650225492564b0044", func := "beck/becklaw11.ReachExpires", spec := "reachExpires", inPlace := ["maps.clone"], unfollowed := true, recurses := true, plainKeys := false, apart := false, narrowed := true }
def ReachExpiresUptoSaid : Prop := reachExpiresUptoRow.holds Try.pinned (OpenSpec.upto reachExpiresSpec)

/-- 'becklaw11.ReachPlays', WHERE WHAT IT READS IS OF BULK AT MOST 1048576: true; the input reads as it did. -/
def reachPlaysUptoRow : OpenClaim := { program := "ytiabmdboacpmcaa", sum := "5d71ce00d1c04f06f0e05ade0ac8c3f80fc73face6786e5650225492564b0044", func := "beck/becklaw11.ReachPlays", spec := "reachPlays", inPlace := ["maps.clone"], unfollowed := true, recurses := true, plainKeys := false, apart := false, narrowed := true }
def ReachPlaysUptoSaid : Prop := reachPlaysUptoRow.holds Try.pinned (OpenSpec.upto reachPlaysSpec)

/-- 'becklaw11.ReachOrders', WHERE WHAT IT READS IS OF BULK AT MOST 1048576: true; the input reads as it did. -/
def reachOrdersUptoRow : OpenClaim := { program := "ytiabmdboacpmcaa", sum := "5d71ce00d1c04f06f0e05ade0ac8c3f80fc73face6786e5650225492564b0044", func := "beck/becklaw11.ReachOrders", spec := "reachOrders", inPlace := ["maps.clone"], unfollowed := true, recurses := true, plainKeys := false, apart := false, narrowed := true }
def ReachOrdersUptoSaid : Prop := reachOrdersUptoRow.holds Try.pinned (OpenSpec.upto reachOrdersSpec)

/-- 'becklaw10.NfaSymbols', WHERE WHAT IT READS IS OF BULK AT MOST 1048576: true; the input reads as it did. -/
def nfaSymbolsUptoRow : OpenClaim := { program := "ytiabmdboacpmcaa", sum := "5d71ce00d1c04f06f0e05ade0ac8c3f80fc73face6786e5650225492564b0044", func := "beck/becklaw10.NfaSymbols", spec := "nfaSymbols", unfollowed := true, recurses := true, plainKeys := false, apart := false, narrowed := true }
def NfaSymbolsUptoSaid : Prop := nfaSymbolsUptoRow.holds Try.pinned (OpenSpec.upto nfaSymbolsSpec)

/-- 'becklaw10.NfaTurns', WHERE WHAT IT READS IS OF BULK AT MOST 1048576: true; the input reads as it did. -/
def nfaTurnsUptoRow : OpenClaim := { program := "ytiabmdboacpmcaa", sum := "5d71ce00d1c04f06f0e05ade0ac8c3f80fc73face6786e5650225492564b0044", func := "beck/becklaw10.NfaTurns", spec := "nfaTurns", unfollowed := true, recurses := true, plainKeys := false, apart := false, narrowed := true }
def NfaTurnsUptoSaid : Prop := nfaTurnsUptoRow.holds Try.pinned (OpenSpec.upto nfaTurnsSpec)

end Rows
end Go.Proofs.Ytiabmdboacpmcaa
