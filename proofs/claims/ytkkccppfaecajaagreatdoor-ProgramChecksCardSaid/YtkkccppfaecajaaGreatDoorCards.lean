/-
  DERIVED. GIVEN WITH THE SEED: THE CARDS: each row of YtkkccppfaecajaaGreatDoorRows.lean that lists a variable, with what it lists TIED to the program's text (the seventh form; the later family's looks); each row that meets fmt, with fmt's text TOLD by the authors' own Lean function (tested against real Go, not proved from fmt's source: count such statements apart). THE CARD IS WHAT COUNTS. Prove the row's statement (the work); the ties are given (YtkkccppfaecajaaGreatDoorTie.lean); close each card by the builder's one call (the guide's Derived/Test/ToyasCard.lean, 'card_holds'). Laid BY PROGRAM, IN A SANDBOX (cutbox-door.mjs). By AI agents, Wed Nov 11 2026. No macro, syntax, notation, axiom, sorry.
-/
import Derived.Test.YtkkccppfaecajaaGreatDoorRows
import GoSem.ClaimSeven
namespace Go.Proofs.YtkkccppfaecajaaGreatDoor
namespace Rows

/-- THE TIED CARD OF 'metrolablaw05.ProgramChecks'. -/
def programChecksCard : Claim7 := { stood := { row := programChecksRow, standIns := [], harness := (true, "0e20c69577685fb59e36af42c550dfc9f32d72556f65a3ad0e2a435940f6b6e0"), looks := true }, kinds := [], alts := [], laidByText := true, laidKinds := [.data, .data, .data, .data, .sentinel, .sentinel, .pinned], laidTests := true, laidLooks := .later }
def ProgramChecksCardSaid : Prop := Claim7.holds Tryz.pinned (.plain (OpenSpec.ofChange programChecksSpec)) programChecksCard

/-- THE TIED CARD OF 'metrolablaw05.ProgramProves'. -/
def programProvesCard : Claim7 := { stood := { row := programProvesRow, standIns := [], harness := (true, "0e20c69577685fb59e36af42c550dfc9f32d72556f65a3ad0e2a435940f6b6e0"), looks := true }, kinds := [], alts := [], laidByText := true, laidKinds := [.data, .data, .data, .data, .sentinel, .sentinel, .pinned], laidTests := true, laidLooks := .later }
def ProgramProvesCardSaid : Prop := Claim7.holds Tryz.pinned (.plain (OpenSpec.ofChange programProvesSpec)) programProvesCard

/-- THE SECOND FORM's CARD OF 'metrolablaw05.ProgramChecks'. -/
def programChecksUptoCard : Claim7 := { stood := { row := programChecksUptoRow, standIns := [], harness := (true, "0e20c69577685fb59e36af42c550dfc9f32d72556f65a3ad0e2a435940f6b6e0"), looks := true }, kinds := [], alts := [], laidByText := true, laidKinds := [.data, .data, .data, .data, .sentinel, .sentinel, .pinned], laidTests := true, laidLooks := .later }
def ProgramChecksUptoCardSaid : Prop := Claim7.holds Tryz.pinned (.plain (OpenSpec.upto programChecksSpec)) programChecksUptoCard

/-- THE SECOND FORM's CARD OF 'metrolablaw05.ProgramProves'. -/
def programProvesUptoCard : Claim7 := { stood := { row := programProvesUptoRow, standIns := [], harness := (true, "0e20c69577685fb59e36af42c550dfc9f32d72556f65a3ad0e2a435940f6b6e0"), looks := true }, kinds := [], alts := [], laidByText := true, laidKinds := [.data, .data, .data, .data, .sentinel, .sentinel, .pinned], laidTests := true, laidLooks := .later }
def ProgramProvesUptoCardSaid : Prop := Claim7.holds Tryz.pinned (.plain (OpenSpec.upto programProvesSpec)) programProvesUptoCard
end Rows
end Go.Proofs.YtkkccppfaecajaaGreatDoor
