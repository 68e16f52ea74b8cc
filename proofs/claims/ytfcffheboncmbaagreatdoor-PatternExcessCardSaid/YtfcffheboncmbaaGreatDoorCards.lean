/-
  DERIVED. GIVEN WITH THE SEED: THE CARDS: each row of YtfcffheboncmbaaGreatDoorRows.lean that lists a variable, with what it lists TIED to the program's text (the seventh form; the later family's looks); each row that meets fmt, with fmt's text TOLD by the authors' own Lean function (tested against real Go, not proved from fmt's source: count such statements apart). THE CARD IS WHAT COUNTS. Prove the row's statement (the work); the ties are given (YtfcffheboncmbaaGreatDoorTie.lean); close each card by the builder's one call (the guide's Derived/Test/ToyasCard.lean, 'card_holds'). Laid BY PROGRAM, IN A SANDBOX (cutbox-door.mjs). By AI agents, Wed Nov 11 2026. No macro, syntax, notation, axiom, sorry.
-/
import Derived.Test.YtfcffheboncmbaaGreatDoorRows
import GoSem.ClaimSeven
namespace Go.Proofs.YtfcffheboncmbaaGreatDoor
namespace Rows

/-- THE TIED CARD OF 'metrolablaw46.PatternZones'. -/
def patternZonesCard : Claim7 := { stood := { row := patternZonesRow, standIns := [], harness := (true, "e83d02c119f61a8b61b2f1719ef7b04866f09f93c05a3f089df79975be00eef3"), looks := true }, kinds := [], alts := [], laidByText := true, laidKinds := [.data, .data, .data, .data, .data, .sentinel, .sentinel, .pinned], laidTests := true, laidLooks := .later }
def PatternZonesCardSaid : Prop := Claim7.holds Tryz.pinned (.plain (OpenSpec.ofChange patternZonesSpec)) patternZonesCard

/-- THE TIED CARD OF 'metrolablaw46.PatternFits'. -/
def patternFitsCard : Claim7 := { stood := { row := patternFitsRow, standIns := [], harness := (true, "e83d02c119f61a8b61b2f1719ef7b04866f09f93c05a3f089df79975be00eef3"), looks := true }, kinds := [], alts := [], laidByText := true, laidKinds := [.data, .data, .data, .data, .data, .sentinel, .sentinel, .pinned], laidTests := true, laidLooks := .later }
def PatternFitsCardSaid : Prop := Claim7.holds Tryz.pinned (.plain (OpenSpec.ofChange patternFitsSpec)) patternFitsCard

/-- THE TIED CARD OF 'metrolablaw46.PatternExcess'. -/
def patternExcessCard : Claim7 := { stood := { row := patternExcessRow, standIns := [], harness := (true, "e83d02c119f61a8b61b2f1719ef7b04866f09f93c05a3f089df79975be00eef3"), looks := true }, kinds := [], alts := [], laidByText := true, laidKinds := [.data, .data, .data, .data, .data, .sentinel, .sentinel, .pinned], laidTests := true, laidLooks := .later }
def PatternExcessCardSaid : Prop := Claim7.holds Tryz.pinned (.plain (OpenSpec.ofChange patternExcessSpec)) patternExcessCard

/-- THE TIED CARD OF 'metrolablaw46.PatternGrows'. -/
def patternGrowsCard : Claim7 := { stood := { row := patternGrowsRow, standIns := [], harness := (true, "e83d02c119f61a8b61b2f1719ef7b04866f09f93c05a3f089df79975be00eef3"), looks := true }, kinds := [], alts := [], laidByText := true, laidKinds := [.data, .data, .data, .data, .data, .sentinel, .sentinel, .pinned], laidTests := true, laidLooks := .later }
def PatternGrowsCardSaid : Prop := Claim7.holds Tryz.pinned (.plain (OpenSpec.ofChange patternGrowsSpec)) patternGrowsCard

/-- THE TIED CARD OF 'metrolablaw46.PatternPairs'. -/
def patternPairsCard : Claim7 := { stood := { row := patternPairsRow, standIns := [], harness := (true, "e83d02c119f61a8b61b2f1719ef7b04866f09f93c05a3f089df79975be00eef3"), looks := true }, kinds := [], alts := [], laidByText := true, laidKinds := [.data, .data, .data, .data, .data, .sentinel, .sentinel, .pinned], laidTests := true, laidLooks := .later }
def PatternPairsCardSaid : Prop := Claim7.holds Tryz.pinned (.plain (OpenSpec.ofChange patternPairsSpec)) patternPairsCard

/-- THE TIED CARD OF 'metrolablaw46.PatternTurns'. -/
def patternTurnsCard : Claim7 := { stood := { row := patternTurnsRow, standIns := [], harness := (true, "e83d02c119f61a8b61b2f1719ef7b04866f09f93c05a3f089df79975be00eef3"), looks := true }, kinds := [], alts := [], laidByText := true, laidKinds := [.data, .data, .data, .data, .data, .sentinel, .sentinel, .pinned], laidTests := true, laidLooks := .later }
def PatternTurnsCardSaid : Prop := Claim7.holds Tryz.pinned (.plain (OpenSpec.ofChange patternTurnsSpec)) patternTurnsCard

/-- THE TIED CARD OF 'metrolablaw46.PatternChecks'. -/
def patternChecksCard : Claim7 := { stood := { row := patternChecksRow, standIns := [], harness := (true, "e83d02c119f61a8b61b2f1719ef7b04866f09f93c05a3f089df79975be00eef3"), looks := true }, kinds := [], alts := [], laidByText := true, laidKinds := [.data, .data, .data, .data, .data, .sentinel, .sentinel, .pinned], laidTests := true, laidLooks := .later }
def PatternChecksCardSaid : Prop := Claim7.holds Tryz.pinned (.plain (OpenSpec.ofChange patternChecksSpec)) patternChecksCard

/-- THE TIED CARD OF 'metrolablaw46.PatternJudges'. -/
def patternJudgesCard : Claim7 := { stood := { row := patternJudgesRow, standIns := [], harness := (true, "e83d02c119f61a8b61b2f1719ef7b04866f09f93c05a3f089df79975be00eef3"), looks := true }, kinds := [], alts := [], laidByText := true, laidKinds := [.data, .data, .data, .data, .data, .sentinel, .sentinel, .pinned], laidTests := true, laidLooks := .later }
def PatternJudgesCardSaid : Prop := Claim7.holds Tryz.pinned (.plain (OpenSpec.ofChange patternJudgesSpec)) patternJudgesCard

/-- THE TIED CARD OF 'metrolablaw46.PatternAgrees'. -/
def patternAgreesCard : Claim7 := { stood := { row := patternAgreesRow, standIns := [], harness := (true, "e83d02c119f61a8b61b2f1719ef7b04866f09f93c05a3f089df79975be00eef3"), looks := true }, kinds := [], alts := [], laidByText := true, laidKinds := [.data, .data, .data, .data, .data, .sentinel, .sentinel, .pinned], laidTests := true, laidLooks := .later }
def PatternAgreesCardSaid : Prop := Claim7.holds Tryz.pinned (.plain (OpenSpec.ofChange patternAgreesSpec)) patternAgreesCard

/-- THE SECOND FORM's CARD OF 'metrolablaw46.PatternZones'. -/
def patternZonesUptoCard : Claim7 := { stood := { row := patternZonesUptoRow, standIns := [], harness := (true, "e83d02c119f61a8b61b2f1719ef7b04866f09f93c05a3f089df79975be00eef3"), looks := true }, kinds := [], alts := [], laidByText := true, laidKinds := [.data, .data, .data, .data, .data, .sentinel, .sentinel, .pinned], laidTests := true, laidLooks := .later }
def PatternZonesUptoCardSaid : Prop := Claim7.holds Tryz.pinned (.plain (OpenSpec.upto patternZonesSpec)) patternZonesUptoCard

/-- THE SECOND FORM's CARD OF 'metrolablaw46.PatternFits'. -/
def patternFitsUptoCard : Claim7 := { stood := { row := patternFitsUptoRow, standIns := [], harness := (true, "e83d02c119f61a8b61b2f1719ef7b04866f09f93c05a3f089df79975be00eef3"), looks := true }, kinds := [], alts := [], laidByText := true, laidKinds := [.data, .data, .data, .data, .data, .sentinel, .sentinel, .pinned], laidTests := true, laidLooks := .later }
def PatternFitsUptoCardSaid : Prop := Claim7.holds Tryz.pinned (.plain (OpenSpec.upto patternFitsSpec)) patternFitsUptoCard

/-- THE SECOND FORM's CARD OF 'metrolablaw46.PatternExcess'. -/
def patternExcessUptoCard : Claim7 := { stood := { row := patternExcessUptoRow, standIns := [], harness := (true, "e83d02c119f61a8b61b2f1719ef7b04866f09f93c05a3f089df79975be00eef3"), looks := true }, kinds := [], alts := [], laidByText := true, laidKinds := [.data, .data, .data, .data, .data, .sentinel, .sentinel, .pinned], laidTests := true, laidLooks := .later }
def PatternExcessUptoCardSaid : Prop := Claim7.holds Tryz.pinned (.plain (OpenSpec.upto patternExcessSpec)) patternExcessUptoCard

/-- THE SECOND FORM's CARD OF 'metrolablaw46.PatternGrows'. -/
def patternGrowsUptoCard : Claim7 := { stood := { row := patternGrowsUptoRow, standIns := [], harness := (true, "e83d02c119f61a8b61b2f1719ef7b04866f09f93c05a3f089df79975be00eef3"), looks := true }, kinds := [], alts := [], laidByText := true, laidKinds := [.data, .data, .data, .data, .data, .sentinel, .sentinel, .pinned], laidTests := true, laidLooks := .later }
def PatternGrowsUptoCardSaid : Prop := Claim7.holds Tryz.pinned (.plain (OpenSpec.upto patternGrowsSpec)) patternGrowsUptoCard

/-- THE SECOND FORM's CARD OF 'metrolablaw46.PatternPairs'. -/
def patternPairsUptoCard : Claim7 := { stood := { row := patternPairsUptoRow, standIns := [], harness := (true, "e83d02c119f61a8b61b2f1719ef7b04866f09f93c05a3f089df79975be00eef3"), looks := true }, kinds := [], alts := [], laidByText := true, laidKinds := [.data, .data, .data, .data, .data, .sentinel, .sentinel, .pinned], laidTests := true, laidLooks := .later }
def PatternPairsUptoCardSaid : Prop := Claim7.holds Tryz.pinned (.plain (OpenSpec.upto patternPairsSpec)) patternPairsUptoCard

/-- THE SECOND FORM's CARD OF 'metrolablaw46.PatternTurns'. -/
def patternTurnsUptoCard : Claim7 := { stood := { row := patternTurnsUptoRow, standIns := [], harness := (true, "e83d02c119f61a8b61b2f1719ef7b04866f09f93c05a3f089df79975be00eef3"), looks := true }, kinds := [], alts := [], laidByText := true, laidKinds := [.data, .data, .data, .data, .data, .sentinel, .sentinel, .pinned], laidTests := true, laidLooks := .later }
def PatternTurnsUptoCardSaid : Prop := Claim7.holds Tryz.pinned (.plain (OpenSpec.upto patternTurnsSpec)) patternTurnsUptoCard

/-- THE SECOND FORM's CARD OF 'metrolablaw46.PatternChecks'. -/
def patternChecksUptoCard : Claim7 := { stood := { row := patternChecksUptoRow, standIns := [], harness := (true, "e83d02c119f61a8b61b2f1719ef7b04866f09f93c05a3f089df79975be00eef3"), looks := true }, kinds := [], alts := [], laidByText := true, laidKinds := [.data, .data, .data, .data, .data, .sentinel, .sentinel, .pinned], laidTests := true, laidLooks := .later }
def PatternChecksUptoCardSaid : Prop := Claim7.holds Tryz.pinned (.plain (OpenSpec.upto patternChecksSpec)) patternChecksUptoCard

/-- THE SECOND FORM's CARD OF 'metrolablaw46.PatternJudges'. -/
def patternJudgesUptoCard : Claim7 := { stood := { row := patternJudgesUptoRow, standIns := [], harness := (true, "e83d02c119f61a8b61b2f1719ef7b04866f09f93c05a3f089df79975be00eef3"), looks := true }, kinds := [], alts := [], laidByText := true, laidKinds := [.data, .data, .data, .data, .data, .sentinel, .sentinel, .pinned], laidTests := true, laidLooks := .later }
def PatternJudgesUptoCardSaid : Prop := Claim7.holds Tryz.pinned (.plain (OpenSpec.upto patternJudgesSpec)) patternJudgesUptoCard

/-- THE SECOND FORM's CARD OF 'metrolablaw46.PatternAgrees'. -/
def patternAgreesUptoCard : Claim7 := { stood := { row := patternAgreesUptoRow, standIns := [], harness := (true, "e83d02c119f61a8b61b2f1719ef7b04866f09f93c05a3f089df79975be00eef3"), looks := true }, kinds := [], alts := [], laidByText := true, laidKinds := [.data, .data, .data, .data, .data, .sentinel, .sentinel, .pinned], laidTests := true, laidLooks := .later }
def PatternAgreesUptoCardSaid : Prop := Claim7.holds Tryz.pinned (.plain (OpenSpec.upto patternAgreesSpec)) patternAgreesUptoCard
end Rows
end Go.Proofs.YtfcffheboncmbaaGreatDoor
