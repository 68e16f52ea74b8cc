/-
  DERIVED. GIVEN WITH THE SEED: THE CARDS: each row of YtnaikafamjebdaaGreatDoorRows.lean that lists a variable, with what it lists TIED to the program's text (the seventh form; the later family's looks); each row that meets fmt, with fmt's text TOLD by the authors' own Lean function (tested against real Go, not proved from fmt's source: count such statements apart). THE CARD IS WHAT COUNTS. Prove the row's statement (the work); the ties are given (YtnaikafamjebdaaGreatDoorTie.lean); close each card by the builder's one call (the guide's Derived/Test/ToyasCard.lean, 'card_holds'). Laid BY PROGRAM, IN A SANDBOX (cutbox-door.mjs). By AI agents, Wed Nov 11 2026. No macro, syntax, notation, axiom, sorry.
-/
import Derived.Test.YtnaikafamjebdaaGreatDoorRows
import GoSem.ClaimSeven
namespace Go.Proofs.YtnaikafamjebdaaGreatDoor
namespace Rows

/-- THE TIED CARD OF 'metrolablaw46.PatternFits'. -/
def patternFitsCard : Claim7 := { stood := { row := patternFitsRow, standIns := [], harness := (true, "5e88fe9f34b35ccf0595914cdb794232ccff8daba454dce584c1b744480907cf"), looks := true }, kinds := [], alts := [], laidByText := true, laidKinds := [.data, .data, .data, .data, .data, .sentinel, .sentinel, .pinned], laidTests := true, laidLooks := .later }
def PatternFitsCardSaid : Prop := Claim7.holds Tryz.pinned (.plain (OpenSpec.ofChange patternFitsSpec)) patternFitsCard

/-- THE TIED CARD OF 'metrolablaw46.PatternChecks'. -/
def patternChecksCard : Claim7 := { stood := { row := patternChecksRow, standIns := [], harness := (true, "5e88fe9f34b35ccf0595914cdb794232ccff8daba454dce584c1b744480907cf"), looks := true }, kinds := [], alts := [], laidByText := true, laidKinds := [.data, .data, .data, .data, .data, .sentinel, .sentinel, .pinned], laidTests := true, laidLooks := .later }
def PatternChecksCardSaid : Prop := Claim7.holds Tryz.pinned (.plain (OpenSpec.ofChange patternChecksSpec)) patternChecksCard

/-- THE TIED CARD OF 'metrolablaw46.PatternJudges'. -/
def patternJudgesCard : Claim7 := { stood := { row := patternJudgesRow, standIns := [], harness := (true, "5e88fe9f34b35ccf0595914cdb794232ccff8daba454dce584c1b744480907cf"), looks := true }, kinds := [], alts := [], laidByText := true, laidKinds := [.data, .data, .data, .data, .data, .sentinel, .sentinel, .pinned], laidTests := true, laidLooks := .later }
def PatternJudgesCardSaid : Prop := Claim7.holds Tryz.pinned (.plain (OpenSpec.ofChange patternJudgesSpec)) patternJudgesCard

/-- THE SECOND FORM's CARD OF 'metrolablaw46.PatternFits'. -/
def patternFitsUptoCard : Claim7 := { stood := { row := patternFitsUptoRow, standIns := [], harness := (true, "5e88fe9f34b35ccf0595914cdb794232ccff8daba454dce584c1b744480907cf"), looks := true }, kinds := [], alts := [], laidByText := true, laidKinds := [.data, .data, .data, .data, .data, .sentinel, .sentinel, .pinned], laidTests := true, laidLooks := .later }
def PatternFitsUptoCardSaid : Prop := Claim7.holds Tryz.pinned (.plain (OpenSpec.upto patternFitsSpec)) patternFitsUptoCard

/-- THE SECOND FORM's CARD OF 'metrolablaw46.PatternChecks'. -/
def patternChecksUptoCard : Claim7 := { stood := { row := patternChecksUptoRow, standIns := [], harness := (true, "5e88fe9f34b35ccf0595914cdb794232ccff8daba454dce584c1b744480907cf"), looks := true }, kinds := [], alts := [], laidByText := true, laidKinds := [.data, .data, .data, .data, .data, .sentinel, .sentinel, .pinned], laidTests := true, laidLooks := .later }
def PatternChecksUptoCardSaid : Prop := Claim7.holds Tryz.pinned (.plain (OpenSpec.upto patternChecksSpec)) patternChecksUptoCard

/-- THE SECOND FORM's CARD OF 'metrolablaw46.PatternJudges'. -/
def patternJudgesUptoCard : Claim7 := { stood := { row := patternJudgesUptoRow, standIns := [], harness := (true, "5e88fe9f34b35ccf0595914cdb794232ccff8daba454dce584c1b744480907cf"), looks := true }, kinds := [], alts := [], laidByText := true, laidKinds := [.data, .data, .data, .data, .data, .sentinel, .sentinel, .pinned], laidTests := true, laidLooks := .later }
def PatternJudgesUptoCardSaid : Prop := Claim7.holds Tryz.pinned (.plain (OpenSpec.upto patternJudgesSpec)) patternJudgesUptoCard
end Rows
end Go.Proofs.YtnaikafamjebdaaGreatDoor
