/-
  DERIVED. GIVEN WITH THE SEED: THE CARDS: each row of YtniggdaakiofeaaDoorRows.lean that lists a variable, with what it lists TIED to the program's text (the seventh form; the later family's looks); each row that meets fmt, with fmt's text TOLD by the authors' own Lean function (tested against real Go, not proved from fmt's source: count such statements apart). THE CARD IS WHAT COUNTS. Prove the row's statement (the work); the ties are given (YtniggdaakiofeaaDoorTie.lean); close each card by the builder's one call (the guide's Derived/Test/ToyasCard.lean, 'card_holds'). Laid BY PROGRAM, IN A SANDBOX (cutbox-door.mjs). By AI agents, Wed Nov 11 2026. No macro, syntax, notation, axiom, sorry.
-/
import Derived.Test.YtniggdaakiofeaaDoorRows
import GoSem.ClaimSeven
namespace Go.Proofs.YtniggdaakiofeaaDoor
namespace Rows

/-- THE TIED CARD OF 'becklaw14.SolutionJoins'. -/
def solutionJoinsCard : Claim7 := { stood := { row := solutionJoinsRow, standIns := [], harness := (true, "811115b5137751a59115d0a76d186c9ee974b6775d4f794146eca61a1d024a5a"), looks := false }, kinds := [], alts := [], laidByText := true, laidKinds := [.data, .data, .data], laidTests := true, laidLooks := .later }
def SolutionJoinsCardSaid : Prop := Claim7.holds Tryd.pinned (.plain (OpenSpec.ofChange solutionJoinsSpec)) solutionJoinsCard

/-- THE TIED CARD OF 'becklaw14.SolutionMinus'. -/
def solutionMinusCard : Claim7 := { stood := { row := solutionMinusRow, standIns := [], harness := (true, "811115b5137751a59115d0a76d186c9ee974b6775d4f794146eca61a1d024a5a"), looks := false }, kinds := [], alts := [], laidByText := true, laidKinds := [.data, .data, .data], laidTests := true, laidLooks := .later }
def SolutionMinusCardSaid : Prop := Claim7.holds Tryd.pinned (.plain (OpenSpec.ofChange solutionMinusSpec)) solutionMinusCard

/-- THE TIED CARD OF 'becklaw14.SolutionThrees'. -/
def solutionThreesCard : Claim7 := { stood := { row := solutionThreesRow, standIns := [], harness := (true, "811115b5137751a59115d0a76d186c9ee974b6775d4f794146eca61a1d024a5a"), looks := false }, kinds := [], alts := [], laidByText := true, laidKinds := [.data, .data, .data], laidTests := true, laidLooks := .later }
def SolutionThreesCardSaid : Prop := Claim7.holds Tryd.pinned (.plain (OpenSpec.ofChange solutionThreesSpec)) solutionThreesCard

/-- THE TIED CARD OF 'becklaw14.SolutionNevers'. -/
def solutionNeversCard : Claim7 := { stood := { row := solutionNeversRow, standIns := [], harness := (true, "811115b5137751a59115d0a76d186c9ee974b6775d4f794146eca61a1d024a5a"), looks := false }, kinds := [], alts := [], laidByText := true, laidKinds := [.data, .data, .data], laidTests := true, laidLooks := .later }
def SolutionNeversCardSaid : Prop := Claim7.holds Tryd.pinned (.plain (OpenSpec.ofChange solutionNeversSpec)) solutionNeversCard

/-- THE TIED CARD OF 'becklaw14.SolutionRows'. -/
def solutionRowsCard : Claim7 := { stood := { row := solutionRowsRow, standIns := [], harness := (true, "811115b5137751a59115d0a76d186c9ee974b6775d4f794146eca61a1d024a5a"), looks := false }, kinds := [], alts := [], laidByText := true, laidKinds := [.data, .data, .data], laidTests := true, laidLooks := .later }
def SolutionRowsCardSaid : Prop := Claim7.holds Tryd.pinned (.plain (OpenSpec.ofChange solutionRowsSpec)) solutionRowsCard

/-- THE TIED CARD OF 'becklaw14.SolutionSorts'. -/
def solutionSortsCard : Claim7 := { stood := { row := solutionSortsRow, standIns := [], harness := (true, "811115b5137751a59115d0a76d186c9ee974b6775d4f794146eca61a1d024a5a"), looks := false }, kinds := [], alts := [], laidByText := true, laidKinds := [.data, .data, .data], laidTests := true, laidLooks := .later }
def SolutionSortsCardSaid : Prop := Claim7.holds Tryd.pinned (.plain (OpenSpec.ofChange solutionSortsSpec)) solutionSortsCard

/-- THE SECOND FORM's CARD OF 'becklaw14.SolutionJoins'. -/
def solutionJoinsUptoCard : Claim7 := { stood := { row := solutionJoinsUptoRow, standIns := [], harness := (true, "811115b5137751a59115d0a76d186c9ee974b6775d4f794146eca61a1d024a5a"), looks := false }, kinds := [], alts := [], laidByText := true, laidKinds := [.data, .data, .data], laidTests := true, laidLooks := .later }
def SolutionJoinsUptoCardSaid : Prop := Claim7.holds Tryd.pinned (.plain (OpenSpec.upto solutionJoinsSpec)) solutionJoinsUptoCard

/-- THE SECOND FORM's CARD OF 'becklaw14.SolutionMinus'. -/
def solutionMinusUptoCard : Claim7 := { stood := { row := solutionMinusUptoRow, standIns := [], harness := (true, "811115b5137751a59115d0a76d186c9ee974b6775d4f794146eca61a1d024a5a"), looks := false }, kinds := [], alts := [], laidByText := true, laidKinds := [.data, .data, .data], laidTests := true, laidLooks := .later }
def SolutionMinusUptoCardSaid : Prop := Claim7.holds Tryd.pinned (.plain (OpenSpec.upto solutionMinusSpec)) solutionMinusUptoCard

/-- THE SECOND FORM's CARD OF 'becklaw14.SolutionThrees'. -/
def solutionThreesUptoCard : Claim7 := { stood := { row := solutionThreesUptoRow, standIns := [], harness := (true, "811115b5137751a59115d0a76d186c9ee974b6775d4f794146eca61a1d024a5a"), looks := false }, kinds := [], alts := [], laidByText := true, laidKinds := [.data, .data, .data], laidTests := true, laidLooks := .later }
def SolutionThreesUptoCardSaid : Prop := Claim7.holds Tryd.pinned (.plain (OpenSpec.upto solutionThreesSpec)) solutionThreesUptoCard

/-- THE SECOND FORM's CARD OF 'becklaw14.SolutionNevers'. -/
def solutionNeversUptoCard : Claim7 := { stood := { row := solutionNeversUptoRow, standIns := [], harness := (true, "811115b5137751a59115d0a76d186c9ee974b6775d4f794146eca61a1d024a5a"), looks := false }, kinds := [], alts := [], laidByText := true, laidKinds := [.data, .data, .data], laidTests := true, laidLooks := .later }
def SolutionNeversUptoCardSaid : Prop := Claim7.holds Tryd.pinned (.plain (OpenSpec.upto solutionNeversSpec)) solutionNeversUptoCard

/-- THE SECOND FORM's CARD OF 'becklaw14.SolutionRows'. -/
def solutionRowsUptoCard : Claim7 := { stood := { row := solutionRowsUptoRow, standIns := [], harness := (true, "811115b5137751a59115d0a76d186c9ee974b6775d4f794146eca61a1d024a5a"), looks := false }, kinds := [], alts := [], laidByText := true, laidKinds := [.data, .data, .data], laidTests := true, laidLooks := .later }
def SolutionRowsUptoCardSaid : Prop := Claim7.holds Tryd.pinned (.plain (OpenSpec.upto solutionRowsSpec)) solutionRowsUptoCard

/-- THE SECOND FORM's CARD OF 'becklaw14.SolutionSorts'. -/
def solutionSortsUptoCard : Claim7 := { stood := { row := solutionSortsUptoRow, standIns := [], harness := (true, "811115b5137751a59115d0a76d186c9ee974b6775d4f794146eca61a1d024a5a"), looks := false }, kinds := [], alts := [], laidByText := true, laidKinds := [.data, .data, .data], laidTests := true, laidLooks := .later }
def SolutionSortsUptoCardSaid : Prop := Claim7.holds Tryd.pinned (.plain (OpenSpec.upto solutionSortsSpec)) solutionSortsUptoCard
end Rows
end Go.Proofs.YtniggdaakiofeaaDoor
