/-
  DERIVED. GIVEN WITH THE SEED: THE CARDS: each row of YtapebbejdgeijaaDoorRows.lean that lists a variable, with what it lists TIED to the program's text (the seventh form; the later family's looks); each row that meets fmt, with fmt's text TOLD by the authors' own Lean function (tested against real Go, not proved from fmt's source: count such statements apart). THE CARD IS WHAT COUNTS. Prove the row's statement (the work); the ties are given (YtapebbejdgeijaaDoorTie.lean); close each card by the builder's one call (the guide's Derived/Test/ToyasCard.lean, 'card_holds'). Laid BY PROGRAM, IN A SANDBOX (cutbox-door.mjs). By AI agents, Wed Nov 11 2026. No macro, syntax, notation, axiom, sorry.
-/
import Derived.Test.YtapebbejdgeijaaDoorRows
import GoSem.ClaimSeven
namespace Go.Proofs.YtapebbejdgeijaaDoor
namespace Rows

/-- THE TIED CARD OF 'edenlaw09.BagFull'. -/
def bagFullCard : Claim7 := { stood := { row := bagFullRow, standIns := [], harness := (true, "046105c670e6849bbd348e80cad4f8a13851aaca26a5727887f8a8c3c8ddfb82"), looks := true }, kinds := [], alts := [], laidByText := true, laidKinds := [.handle, .sentinel, .sentinel, .sentinel, .sentinel, .sentinel, .sentinel, .sentinel, .sentinel, .sentinel, .sentinel, .sentinel, .sentinel], laidTests := true, laidLooks := .later }
def BagFullCardSaid : Prop := Claim7.holds Tryd.pinned (.plain (OpenSpec.ofChange bagFullSpec)) bagFullCard

/-- THE TIED CARD OF 'edenlaw09.BagPlays'. -/
def bagPlaysCard : Claim7 := { stood := { row := bagPlaysRow, standIns := [], harness := (true, "046105c670e6849bbd348e80cad4f8a13851aaca26a5727887f8a8c3c8ddfb82"), looks := true }, kinds := [], alts := [], laidByText := true, laidKinds := [.handle, .sentinel, .sentinel, .sentinel, .sentinel, .sentinel, .sentinel, .sentinel, .sentinel, .sentinel, .sentinel, .sentinel, .sentinel], laidTests := true, laidLooks := .later }
def BagPlaysCardSaid : Prop := Claim7.holds Tryd.pinned (.plain (OpenSpec.ofChange bagPlaysSpec)) bagPlaysCard

/-- THE TIED CARD OF 'edenlaw05.FormsSames'. -/
def formsSamesCard : Claim7 := { stood := { row := formsSamesRow, standIns := [], harness := (true, "046105c670e6849bbd348e80cad4f8a13851aaca26a5727887f8a8c3c8ddfb82"), looks := true }, kinds := [], alts := [], laidByText := true, laidKinds := [.data, .handle, .sentinel, .sentinel, .sentinel, .sentinel, .sentinel, .sentinel, .sentinel, .sentinel, .sentinel, .sentinel, .sentinel, .sentinel, .pinned], laidTests := true, laidLooks := .later }
def FormsSamesCardSaid : Prop := Claim7.holds Tryd.pinned (.plain (OpenSpec.ofChange formsSamesSpec)) formsSamesCard

/-- THE TIED CARD OF 'edenlaw12.GraphParts'. -/
def graphPartsCard : Claim7 := { stood := { row := graphPartsRow, standIns := [], harness := (true, "046105c670e6849bbd348e80cad4f8a13851aaca26a5727887f8a8c3c8ddfb82"), looks := true }, kinds := [], alts := [], laidByText := true, laidKinds := [.handle, .sentinel, .sentinel, .sentinel, .sentinel, .sentinel, .sentinel, .sentinel, .sentinel, .sentinel, .sentinel, .sentinel, .sentinel], laidTests := true, laidLooks := .later }
def GraphPartsCardSaid : Prop := Claim7.holds Tryd.pinned (.plain (OpenSpec.ofChange graphPartsSpec)) graphPartsCard

/-- THE TIED CARD OF 'edenlaw12.GraphWays'. -/
def graphWaysCard : Claim7 := { stood := { row := graphWaysRow, standIns := [], harness := (true, "046105c670e6849bbd348e80cad4f8a13851aaca26a5727887f8a8c3c8ddfb82"), looks := true }, kinds := [], alts := [], laidByText := true, laidKinds := [.handle, .sentinel, .sentinel, .sentinel, .sentinel, .sentinel, .sentinel, .sentinel, .sentinel, .sentinel, .sentinel, .sentinel, .sentinel], laidTests := true, laidLooks := .later }
def GraphWaysCardSaid : Prop := Claim7.holds Tryd.pinned (.plain (OpenSpec.ofChange graphWaysSpec)) graphWaysCard

/-- THE SECOND FORM's CARD OF 'edenlaw09.BagFull'. -/
def bagFullUptoCard : Claim7 := { stood := { row := bagFullUptoRow, standIns := [], harness := (true, "046105c670e6849bbd348e80cad4f8a13851aaca26a5727887f8a8c3c8ddfb82"), looks := true }, kinds := [], alts := [], laidByText := true, laidKinds := [.handle, .sentinel, .sentinel, .sentinel, .sentinel, .sentinel, .sentinel, .sentinel, .sentinel, .sentinel, .sentinel, .sentinel, .sentinel], laidTests := true, laidLooks := .later }
def BagFullUptoCardSaid : Prop := Claim7.holds Tryd.pinned (.plain (OpenSpec.upto bagFullSpec)) bagFullUptoCard

/-- THE SECOND FORM's CARD OF 'edenlaw09.BagPlays'. -/
def bagPlaysUptoCard : Claim7 := { stood := { row := bagPlaysUptoRow, standIns := [], harness := (true, "046105c670e6849bbd348e80cad4f8a13851aaca26a5727887f8a8c3c8ddfb82"), looks := true }, kinds := [], alts := [], laidByText := true, laidKinds := [.handle, .sentinel, .sentinel, .sentinel, .sentinel, .sentinel, .sentinel, .sentinel, .sentinel, .sentinel, .sentinel, .sentinel, .sentinel], laidTests := true, laidLooks := .later }
def BagPlaysUptoCardSaid : Prop := Claim7.holds Tryd.pinned (.plain (OpenSpec.upto bagPlaysSpec)) bagPlaysUptoCard

/-- THE SECOND FORM's CARD OF 'edenlaw05.FormsSames'. -/
def formsSamesUptoCard : Claim7 := { stood := { row := formsSamesUptoRow, standIns := [], harness := (true, "046105c670e6849bbd348e80cad4f8a13851aaca26a5727887f8a8c3c8ddfb82"), looks := true }, kinds := [], alts := [], laidByText := true, laidKinds := [.data, .handle, .sentinel, .sentinel, .sentinel, .sentinel, .sentinel, .sentinel, .sentinel, .sentinel, .sentinel, .sentinel, .sentinel, .sentinel, .pinned], laidTests := true, laidLooks := .later }
def FormsSamesUptoCardSaid : Prop := Claim7.holds Tryd.pinned (.plain (OpenSpec.upto formsSamesSpec)) formsSamesUptoCard

/-- THE SECOND FORM's CARD OF 'edenlaw12.GraphParts'. -/
def graphPartsUptoCard : Claim7 := { stood := { row := graphPartsUptoRow, standIns := [], harness := (true, "046105c670e6849bbd348e80cad4f8a13851aaca26a5727887f8a8c3c8ddfb82"), looks := true }, kinds := [], alts := [], laidByText := true, laidKinds := [.handle, .sentinel, .sentinel, .sentinel, .sentinel, .sentinel, .sentinel, .sentinel, .sentinel, .sentinel, .sentinel, .sentinel, .sentinel], laidTests := true, laidLooks := .later }
def GraphPartsUptoCardSaid : Prop := Claim7.holds Tryd.pinned (.plain (OpenSpec.upto graphPartsSpec)) graphPartsUptoCard

/-- THE SECOND FORM's CARD OF 'edenlaw12.GraphWays'. -/
def graphWaysUptoCard : Claim7 := { stood := { row := graphWaysUptoRow, standIns := [], harness := (true, "046105c670e6849bbd348e80cad4f8a13851aaca26a5727887f8a8c3c8ddfb82"), looks := true }, kinds := [], alts := [], laidByText := true, laidKinds := [.handle, .sentinel, .sentinel, .sentinel, .sentinel, .sentinel, .sentinel, .sentinel, .sentinel, .sentinel, .sentinel, .sentinel, .sentinel], laidTests := true, laidLooks := .later }
def GraphWaysUptoCardSaid : Prop := Claim7.holds Tryd.pinned (.plain (OpenSpec.upto graphWaysSpec)) graphWaysUptoCard
end Rows
end Go.Proofs.YtapebbejdgeijaaDoor
