/-
  DERIVED. GIVEN WITH THE SEED: THE CARDS: each row of YtfaegjlolhpofaaDoorRows.lean that lists a variable, with what it lists TIED to the program's text (the seventh form; the later family's looks); each row that meets fmt, with fmt's text TOLD by the authors' own Lean function (tested against real Go, not proved from fmt's source: count such statements apart). THE CARD IS WHAT COUNTS. Prove the row's statement (the work); the ties are given (YtfaegjlolhpofaaDoorTie.lean); close each card by the builder's one call (the guide's Derived/Test/ToyasCard.lean, 'card_holds'). Laid BY PROGRAM, IN A SANDBOX (cutbox-door.mjs). By AI agents, Wed Nov 11 2026. No macro, syntax, notation, axiom, sorry.
-/
import Derived.Test.YtfaegjlolhpofaaDoorRows
import GoSem.ClaimSeven
namespace Go.Proofs.YtfaegjlolhpofaaDoor
namespace Rows

/-- THE TIED CARD OF 'becklaw06.StoreOrders'. -/
def storeOrdersCard : Claim7 := { stood := { row := storeOrdersRow, standIns := [], harness := (true, "b31a9fb8064c1a9bc672a770804789d57e1619ca33683888ef0bc2416c67afbb"), looks := false }, kinds := [], alts := [], laidByText := true, laidKinds := [.data, .data], laidTests := true, laidLooks := .later }
def StoreOrdersCardSaid : Prop := Claim7.holds Tryd.pinned (.plain (OpenSpec.ofChange storeOrdersSpec)) storeOrdersCard

/-- THE TIED CARD OF 'becklaw06.StoreAgrees'. -/
def storeAgreesCard : Claim7 := { stood := { row := storeAgreesRow, standIns := [], harness := (true, "b31a9fb8064c1a9bc672a770804789d57e1619ca33683888ef0bc2416c67afbb"), looks := false }, kinds := [], alts := [], laidByText := true, laidKinds := [.data, .data], laidTests := true, laidLooks := .later }
def StoreAgreesCardSaid : Prop := Claim7.holds Tryd.pinned (.plain (OpenSpec.ofChange storeAgreesSpec)) storeAgreesCard

/-- THE TIED CARD OF 'becklaw06.StoreSums'. -/
def storeSumsCard : Claim7 := { stood := { row := storeSumsRow, standIns := [], harness := (true, "b31a9fb8064c1a9bc672a770804789d57e1619ca33683888ef0bc2416c67afbb"), looks := false }, kinds := [], alts := [], laidByText := true, laidKinds := [.data, .data], laidTests := true, laidLooks := .later }
def StoreSumsCardSaid : Prop := Claim7.holds Tryd.pinned (.plain (OpenSpec.ofChange storeSumsSpec)) storeSumsCard

/-- THE TIED CARD OF 'becklaw06.StorePlays'. -/
def storePlaysCard : Claim7 := { stood := { row := storePlaysRow, standIns := [], harness := (true, "b31a9fb8064c1a9bc672a770804789d57e1619ca33683888ef0bc2416c67afbb"), looks := false }, kinds := [], alts := [], laidByText := true, laidKinds := [.data, .data], laidTests := true, laidLooks := .later }
def StorePlaysCardSaid : Prop := Claim7.holds Tryd.pinned (.plain (OpenSpec.ofChange storePlaysSpec)) storePlaysCard

/-- THE TIED CARD OF 'becklaw06.StoreUndoes'. -/
def storeUndoesCard : Claim7 := { stood := { row := storeUndoesRow, standIns := [], harness := (true, "b31a9fb8064c1a9bc672a770804789d57e1619ca33683888ef0bc2416c67afbb"), looks := false }, kinds := [], alts := [], laidByText := true, laidKinds := [.data, .data], laidTests := true, laidLooks := .later }
def StoreUndoesCardSaid : Prop := Claim7.holds Tryd.pinned (.plain (OpenSpec.ofChange storeUndoesSpec)) storeUndoesCard

/-- THE TIED CARD OF 'becklaw06.StoreCopies'. -/
def storeCopiesCard : Claim7 := { stood := { row := storeCopiesRow, standIns := [], harness := (true, "b31a9fb8064c1a9bc672a770804789d57e1619ca33683888ef0bc2416c67afbb"), looks := false }, kinds := [], alts := [], laidByText := true, laidKinds := [.data, .data], laidTests := true, laidLooks := .later }
def StoreCopiesCardSaid : Prop := Claim7.holds Tryd.pinned (.plain (OpenSpec.ofChange storeCopiesSpec)) storeCopiesCard

/-- THE SECOND FORM's CARD OF 'becklaw06.StoreOrders'. -/
def storeOrdersUptoCard : Claim7 := { stood := { row := storeOrdersUptoRow, standIns := [], harness := (true, "b31a9fb8064c1a9bc672a770804789d57e1619ca33683888ef0bc2416c67afbb"), looks := false }, kinds := [], alts := [], laidByText := true, laidKinds := [.data, .data], laidTests := true, laidLooks := .later }
def StoreOrdersUptoCardSaid : Prop := Claim7.holds Tryd.pinned (.plain (OpenSpec.upto storeOrdersSpec)) storeOrdersUptoCard

/-- THE SECOND FORM's CARD OF 'becklaw06.StoreAgrees'. -/
def storeAgreesUptoCard : Claim7 := { stood := { row := storeAgreesUptoRow, standIns := [], harness := (true, "b31a9fb8064c1a9bc672a770804789d57e1619ca33683888ef0bc2416c67afbb"), looks := false }, kinds := [], alts := [], laidByText := true, laidKinds := [.data, .data], laidTests := true, laidLooks := .later }
def StoreAgreesUptoCardSaid : Prop := Claim7.holds Tryd.pinned (.plain (OpenSpec.upto storeAgreesSpec)) storeAgreesUptoCard

/-- THE SECOND FORM's CARD OF 'becklaw06.StoreSums'. -/
def storeSumsUptoCard : Claim7 := { stood := { row := storeSumsUptoRow, standIns := [], harness := (true, "b31a9fb8064c1a9bc672a770804789d57e1619ca33683888ef0bc2416c67afbb"), looks := false }, kinds := [], alts := [], laidByText := true, laidKinds := [.data, .data], laidTests := true, laidLooks := .later }
def StoreSumsUptoCardSaid : Prop := Claim7.holds Tryd.pinned (.plain (OpenSpec.upto storeSumsSpec)) storeSumsUptoCard

/-- THE SECOND FORM's CARD OF 'becklaw06.StorePlays'. -/
def storePlaysUptoCard : Claim7 := { stood := { row := storePlaysUptoRow, standIns := [], harness := (true, "b31a9fb8064c1a9bc672a770804789d57e1619ca33683888ef0bc2416c67afbb"), looks := false }, kinds := [], alts := [], laidByText := true, laidKinds := [.data, .data], laidTests := true, laidLooks := .later }
def StorePlaysUptoCardSaid : Prop := Claim7.holds Tryd.pinned (.plain (OpenSpec.upto storePlaysSpec)) storePlaysUptoCard

/-- THE SECOND FORM's CARD OF 'becklaw06.StoreUndoes'. -/
def storeUndoesUptoCard : Claim7 := { stood := { row := storeUndoesUptoRow, standIns := [], harness := (true, "b31a9fb8064c1a9bc672a770804789d57e1619ca33683888ef0bc2416c67afbb"), looks := false }, kinds := [], alts := [], laidByText := true, laidKinds := [.data, .data], laidTests := true, laidLooks := .later }
def StoreUndoesUptoCardSaid : Prop := Claim7.holds Tryd.pinned (.plain (OpenSpec.upto storeUndoesSpec)) storeUndoesUptoCard

/-- THE SECOND FORM's CARD OF 'becklaw06.StoreCopies'. -/
def storeCopiesUptoCard : Claim7 := { stood := { row := storeCopiesUptoRow, standIns := [], harness := (true, "b31a9fb8064c1a9bc672a770804789d57e1619ca33683888ef0bc2416c67afbb"), looks := false }, kinds := [], alts := [], laidByText := true, laidKinds := [.data, .data], laidTests := true, laidLooks := .later }
def StoreCopiesUptoCardSaid : Prop := Claim7.holds Tryd.pinned (.plain (OpenSpec.upto storeCopiesSpec)) storeCopiesUptoCard
end Rows
end Go.Proofs.YtfaegjlolhpofaaDoor
