/-
  DERIVED. GIVEN WITH THE SEED: THE CARDS: each row of YtgjfiaadnecilaaGreatDoorRows.lean that lists a variable, with what it lists TIED to the program's text (the seventh form; the later family's looks); each row that meets fmt, with fmt's text TOLD by the authors' own Lean function (tested against real Go, not proved from fmt's source: count such statements apart). THE CARD IS WHAT COUNTS. Prove the row's statement (the work); the ties are given (YtgjfiaadnecilaaGreatDoorTie.lean); close each card by the builder's one call (the guide's Derived/Test/ToyasCard.lean, 'card_holds'). Laid BY PROGRAM, IN A SANDBOX (cutbox-door.mjs). By AI agents, Wed Nov 11 2026. No macro, syntax, notation, axiom, sorry.
-/
import Derived.Test.YtgjfiaadnecilaaGreatDoorRows
import GoSem.ClaimSeven
namespace Go.Proofs.YtgjfiaadnecilaaGreatDoor
namespace Rows

/-- THE TIED CARD OF 'metrolablaw26.DistPlaces'. -/
def distPlacesCard : Claim7 := { stood := { row := distPlacesRow, standIns := [], harness := (true, "6529ea801db1eac94ec0dea1d948a721baaca788dc6daa867e75d35a9d34794d"), looks := true }, kinds := [], alts := [], laidByText := true, laidKinds := [.data, .data, .data, .data, .sentinel, .sentinel, .pinned], laidTests := true, laidLooks := .later }
def DistPlacesCardSaid : Prop := Claim7.holds Tryz.pinned (.plain (OpenSpec.ofChange distPlacesSpec)) distPlacesCard

/-- THE TIED CARD OF 'metrolablaw26.DistMeasures'. -/
def distMeasuresCard : Claim7 := { stood := { row := distMeasuresRow, standIns := [], harness := (true, "6529ea801db1eac94ec0dea1d948a721baaca788dc6daa867e75d35a9d34794d"), looks := true }, kinds := [], alts := [], laidByText := true, laidKinds := [.data, .data, .data, .data, .sentinel, .sentinel, .pinned], laidTests := true, laidLooks := .later }
def DistMeasuresCardSaid : Prop := Claim7.holds Tryz.pinned (.plain (OpenSpec.ofChange distMeasuresSpec)) distMeasuresCard

/-- THE TIED CARD OF 'metrolablaw26.DistMakes'. -/
def distMakesCard : Claim7 := { stood := { row := distMakesRow, standIns := [], harness := (true, "6529ea801db1eac94ec0dea1d948a721baaca788dc6daa867e75d35a9d34794d"), looks := true }, kinds := [], alts := [], laidByText := true, laidKinds := [.data, .data, .data, .data, .sentinel, .sentinel, .pinned], laidTests := true, laidLooks := .later }
def DistMakesCardSaid : Prop := Claim7.holds Tryz.pinned (.plain (OpenSpec.ofChange distMakesSpec)) distMakesCard

/-- THE TIED CARD OF 'metrolablaw26.DistChanges'. -/
def distChangesCard : Claim7 := { stood := { row := distChangesRow, standIns := [], harness := (true, "6529ea801db1eac94ec0dea1d948a721baaca788dc6daa867e75d35a9d34794d"), looks := true }, kinds := [], alts := [], laidByText := true, laidKinds := [.data, .data, .data, .data, .sentinel, .sentinel, .pinned], laidTests := true, laidLooks := .later }
def DistChangesCardSaid : Prop := Claim7.holds Tryz.pinned (.plain (OpenSpec.ofChange distChangesSpec)) distChangesCard

/-- THE TIED CARD OF 'metrolablaw26.DistTrials'. -/
def distTrialsCard : Claim7 := { stood := { row := distTrialsRow, standIns := [], harness := (true, "6529ea801db1eac94ec0dea1d948a721baaca788dc6daa867e75d35a9d34794d"), looks := true }, kinds := [], alts := [], laidByText := true, laidKinds := [.data, .data, .data, .data, .sentinel, .sentinel, .pinned], laidTests := true, laidLooks := .later }
def DistTrialsCardSaid : Prop := Claim7.holds Tryz.pinned (.plain (OpenSpec.ofChange distTrialsSpec)) distTrialsCard

/-- THE TIED CARD OF 'metrolablaw26.DistUnits'. -/
def distUnitsCard : Claim7 := { stood := { row := distUnitsRow, standIns := [], harness := (true, "6529ea801db1eac94ec0dea1d948a721baaca788dc6daa867e75d35a9d34794d"), looks := true }, kinds := [], alts := [], laidByText := true, laidKinds := [.data, .data, .data, .data, .sentinel, .sentinel, .pinned], laidTests := true, laidLooks := .later }
def DistUnitsCardSaid : Prop := Claim7.holds Tryz.pinned (.plain (OpenSpec.ofChange distUnitsSpec)) distUnitsCard

/-- THE TIED CARD OF 'metrolablaw26.DistCollects'. -/
def distCollectsCard : Claim7 := { stood := { row := distCollectsRow, standIns := [], harness := (true, "6529ea801db1eac94ec0dea1d948a721baaca788dc6daa867e75d35a9d34794d"), looks := true }, kinds := [], alts := [], laidByText := true, laidKinds := [.data, .data, .data, .data, .sentinel, .sentinel, .pinned], laidTests := true, laidLooks := .later }
def DistCollectsCardSaid : Prop := Claim7.holds Tryz.pinned (.plain (OpenSpec.ofChange distCollectsSpec)) distCollectsCard

/-- THE TIED CARD OF 'metrolablaw26.DistOrders'. -/
def distOrdersCard : Claim7 := { stood := { row := distOrdersRow, standIns := [], harness := (true, "6529ea801db1eac94ec0dea1d948a721baaca788dc6daa867e75d35a9d34794d"), looks := true }, kinds := [], alts := [], laidByText := true, laidKinds := [.data, .data, .data, .data, .sentinel, .sentinel, .pinned], laidTests := true, laidLooks := .later }
def DistOrdersCardSaid : Prop := Claim7.holds Tryz.pinned (.plain (OpenSpec.ofChange distOrdersSpec)) distOrdersCard

/-- THE SECOND FORM's CARD OF 'metrolablaw26.DistPlaces'. -/
def distPlacesUptoCard : Claim7 := { stood := { row := distPlacesUptoRow, standIns := [], harness := (true, "6529ea801db1eac94ec0dea1d948a721baaca788dc6daa867e75d35a9d34794d"), looks := true }, kinds := [], alts := [], laidByText := true, laidKinds := [.data, .data, .data, .data, .sentinel, .sentinel, .pinned], laidTests := true, laidLooks := .later }
def DistPlacesUptoCardSaid : Prop := Claim7.holds Tryz.pinned (.plain (OpenSpec.upto distPlacesSpec)) distPlacesUptoCard

/-- THE SECOND FORM's CARD OF 'metrolablaw26.DistMeasures'. -/
def distMeasuresUptoCard : Claim7 := { stood := { row := distMeasuresUptoRow, standIns := [], harness := (true, "6529ea801db1eac94ec0dea1d948a721baaca788dc6daa867e75d35a9d34794d"), looks := true }, kinds := [], alts := [], laidByText := true, laidKinds := [.data, .data, .data, .data, .sentinel, .sentinel, .pinned], laidTests := true, laidLooks := .later }
def DistMeasuresUptoCardSaid : Prop := Claim7.holds Tryz.pinned (.plain (OpenSpec.upto distMeasuresSpec)) distMeasuresUptoCard

/-- THE SECOND FORM's CARD OF 'metrolablaw26.DistMakes'. -/
def distMakesUptoCard : Claim7 := { stood := { row := distMakesUptoRow, standIns := [], harness := (true, "6529ea801db1eac94ec0dea1d948a721baaca788dc6daa867e75d35a9d34794d"), looks := true }, kinds := [], alts := [], laidByText := true, laidKinds := [.data, .data, .data, .data, .sentinel, .sentinel, .pinned], laidTests := true, laidLooks := .later }
def DistMakesUptoCardSaid : Prop := Claim7.holds Tryz.pinned (.plain (OpenSpec.upto distMakesSpec)) distMakesUptoCard

/-- THE SECOND FORM's CARD OF 'metrolablaw26.DistChanges'. -/
def distChangesUptoCard : Claim7 := { stood := { row := distChangesUptoRow, standIns := [], harness := (true, "6529ea801db1eac94ec0dea1d948a721baaca788dc6daa867e75d35a9d34794d"), looks := true }, kinds := [], alts := [], laidByText := true, laidKinds := [.data, .data, .data, .data, .sentinel, .sentinel, .pinned], laidTests := true, laidLooks := .later }
def DistChangesUptoCardSaid : Prop := Claim7.holds Tryz.pinned (.plain (OpenSpec.upto distChangesSpec)) distChangesUptoCard

/-- THE SECOND FORM's CARD OF 'metrolablaw26.DistTrials'. -/
def distTrialsUptoCard : Claim7 := { stood := { row := distTrialsUptoRow, standIns := [], harness := (true, "6529ea801db1eac94ec0dea1d948a721baaca788dc6daa867e75d35a9d34794d"), looks := true }, kinds := [], alts := [], laidByText := true, laidKinds := [.data, .data, .data, .data, .sentinel, .sentinel, .pinned], laidTests := true, laidLooks := .later }
def DistTrialsUptoCardSaid : Prop := Claim7.holds Tryz.pinned (.plain (OpenSpec.upto distTrialsSpec)) distTrialsUptoCard

/-- THE SECOND FORM's CARD OF 'metrolablaw26.DistUnits'. -/
def distUnitsUptoCard : Claim7 := { stood := { row := distUnitsUptoRow, standIns := [], harness := (true, "6529ea801db1eac94ec0dea1d948a721baaca788dc6daa867e75d35a9d34794d"), looks := true }, kinds := [], alts := [], laidByText := true, laidKinds := [.data, .data, .data, .data, .sentinel, .sentinel, .pinned], laidTests := true, laidLooks := .later }
def DistUnitsUptoCardSaid : Prop := Claim7.holds Tryz.pinned (.plain (OpenSpec.upto distUnitsSpec)) distUnitsUptoCard

/-- THE SECOND FORM's CARD OF 'metrolablaw26.DistCollects'. -/
def distCollectsUptoCard : Claim7 := { stood := { row := distCollectsUptoRow, standIns := [], harness := (true, "6529ea801db1eac94ec0dea1d948a721baaca788dc6daa867e75d35a9d34794d"), looks := true }, kinds := [], alts := [], laidByText := true, laidKinds := [.data, .data, .data, .data, .sentinel, .sentinel, .pinned], laidTests := true, laidLooks := .later }
def DistCollectsUptoCardSaid : Prop := Claim7.holds Tryz.pinned (.plain (OpenSpec.upto distCollectsSpec)) distCollectsUptoCard

/-- THE SECOND FORM's CARD OF 'metrolablaw26.DistOrders'. -/
def distOrdersUptoCard : Claim7 := { stood := { row := distOrdersUptoRow, standIns := [], harness := (true, "6529ea801db1eac94ec0dea1d948a721baaca788dc6daa867e75d35a9d34794d"), looks := true }, kinds := [], alts := [], laidByText := true, laidKinds := [.data, .data, .data, .data, .sentinel, .sentinel, .pinned], laidTests := true, laidLooks := .later }
def DistOrdersUptoCardSaid : Prop := Claim7.holds Tryz.pinned (.plain (OpenSpec.upto distOrdersSpec)) distOrdersUptoCard
end Rows
end Go.Proofs.YtgjfiaadnecilaaGreatDoor
