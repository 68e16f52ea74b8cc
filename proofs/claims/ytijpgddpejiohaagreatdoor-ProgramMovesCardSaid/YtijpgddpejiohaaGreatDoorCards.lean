/-
  DERIVED. GIVEN WITH THE SEED: THE CARDS: each row of YtijpgddpejiohaaGreatDoorRows.lean that lists a variable, with what it lists TIED to the program's text (the seventh form; the later family's looks); each row that meets fmt, with fmt's text TOLD by the authors' own Lean function (tested against real Go, not proved from fmt's source: count such statements apart). THE CARD IS WHAT COUNTS. Prove the row's statement (the work); the ties are given (YtijpgddpejiohaaGreatDoorTie.lean); close each card by the builder's one call (the guide's Derived/Test/ToyasCard.lean, 'card_holds'). Laid BY PROGRAM, IN A SANDBOX (cutbox-door.mjs). By AI agents, Wed Nov 11 2026. No macro, syntax, notation, axiom, sorry.
-/
import Derived.Test.YtijpgddpejiohaaGreatDoorRows
import GoSem.ClaimSeven
namespace Go.Proofs.YtijpgddpejiohaaGreatDoor
namespace Rows

/-- THE TIED CARD OF 'metrolablaw05.ProgramMoves'. -/
def programMovesCard : Claim7 := { stood := { row := programMovesRow, standIns := [], harness := (true, "440c166efdddfcc09b271994253e2b7f568463f537616db030c64a2629f20abb"), looks := true }, kinds := [], alts := [], laidByText := true, laidKinds := [.data, .data, .data, .data, .sentinel, .sentinel, .pinned], laidTests := true, laidLooks := .later }
def ProgramMovesCardSaid : Prop := Claim7.holds Tryz.pinned (.plain (OpenSpec.ofChange programMovesSpec)) programMovesCard

/-- THE TIED CARD OF 'metrolablaw35.RingMeasures'. -/
def ringMeasuresCard : Claim7 := { stood := { row := ringMeasuresRow, standIns := [], harness := (true, "440c166efdddfcc09b271994253e2b7f568463f537616db030c64a2629f20abb"), looks := true }, kinds := [], alts := [], laidByText := true, laidKinds := [.data, .data, .data, .data, .sentinel, .sentinel, .pinned], laidTests := true, laidLooks := .later }
def RingMeasuresCardSaid : Prop := Claim7.holds Tryz.pinned (.plain (OpenSpec.ofChange ringMeasuresSpec)) ringMeasuresCard

/-- THE TIED CARD OF 'metrolablaw35.RingNarrows'. -/
def ringNarrowsCard : Claim7 := { stood := { row := ringNarrowsRow, standIns := [], harness := (true, "440c166efdddfcc09b271994253e2b7f568463f537616db030c64a2629f20abb"), looks := true }, kinds := [], alts := [], laidByText := true, laidKinds := [.data, .data, .data, .data, .sentinel, .sentinel, .pinned], laidTests := true, laidLooks := .later }
def RingNarrowsCardSaid : Prop := Claim7.holds Tryz.pinned (.plain (OpenSpec.ofChange ringNarrowsSpec)) ringNarrowsCard

/-- THE TIED CARD OF 'metrolablaw35.RingVerifies'. -/
def ringVerifiesCard : Claim7 := { stood := { row := ringVerifiesRow, standIns := [], harness := (true, "440c166efdddfcc09b271994253e2b7f568463f537616db030c64a2629f20abb"), looks := true }, kinds := [], alts := [], laidByText := true, laidKinds := [.data, .data, .data, .data, .sentinel, .sentinel, .pinned], laidTests := true, laidLooks := .later }
def RingVerifiesCardSaid : Prop := Claim7.holds Tryz.pinned (.plain (OpenSpec.ofChange ringVerifiesSpec)) ringVerifiesCard

/-- THE TIED CARD OF 'metrolablaw35.RingMoves'. -/
def ringMovesCard : Claim7 := { stood := { row := ringMovesRow, standIns := [], harness := (true, "440c166efdddfcc09b271994253e2b7f568463f537616db030c64a2629f20abb"), looks := true }, kinds := [], alts := [], laidByText := true, laidKinds := [.data, .data, .data, .data, .sentinel, .sentinel, .pinned], laidTests := true, laidLooks := .later }
def RingMovesCardSaid : Prop := Claim7.holds Tryz.pinned (.plain (OpenSpec.ofChange ringMovesSpec)) ringMovesCard

/-- THE TIED CARD OF 'metrolablaw35.RingCircles'. -/
def ringCirclesCard : Claim7 := { stood := { row := ringCirclesRow, standIns := [], harness := (true, "440c166efdddfcc09b271994253e2b7f568463f537616db030c64a2629f20abb"), looks := true }, kinds := [], alts := [], laidByText := true, laidKinds := [.data, .data, .data, .data, .sentinel, .sentinel, .pinned], laidTests := true, laidLooks := .later }
def RingCirclesCardSaid : Prop := Claim7.holds Tryz.pinned (.plain (OpenSpec.ofChange ringCirclesSpec)) ringCirclesCard

/-- THE SECOND FORM's CARD OF 'metrolablaw05.ProgramMoves'. -/
def programMovesUptoCard : Claim7 := { stood := { row := programMovesUptoRow, standIns := [], harness := (true, "440c166efdddfcc09b271994253e2b7f568463f537616db030c64a2629f20abb"), looks := true }, kinds := [], alts := [], laidByText := true, laidKinds := [.data, .data, .data, .data, .sentinel, .sentinel, .pinned], laidTests := true, laidLooks := .later }
def ProgramMovesUptoCardSaid : Prop := Claim7.holds Tryz.pinned (.plain (OpenSpec.upto programMovesSpec)) programMovesUptoCard

/-- THE SECOND FORM's CARD OF 'metrolablaw35.RingMeasures'. -/
def ringMeasuresUptoCard : Claim7 := { stood := { row := ringMeasuresUptoRow, standIns := [], harness := (true, "440c166efdddfcc09b271994253e2b7f568463f537616db030c64a2629f20abb"), looks := true }, kinds := [], alts := [], laidByText := true, laidKinds := [.data, .data, .data, .data, .sentinel, .sentinel, .pinned], laidTests := true, laidLooks := .later }
def RingMeasuresUptoCardSaid : Prop := Claim7.holds Tryz.pinned (.plain (OpenSpec.upto ringMeasuresSpec)) ringMeasuresUptoCard

/-- THE SECOND FORM's CARD OF 'metrolablaw35.RingNarrows'. -/
def ringNarrowsUptoCard : Claim7 := { stood := { row := ringNarrowsUptoRow, standIns := [], harness := (true, "440c166efdddfcc09b271994253e2b7f568463f537616db030c64a2629f20abb"), looks := true }, kinds := [], alts := [], laidByText := true, laidKinds := [.data, .data, .data, .data, .sentinel, .sentinel, .pinned], laidTests := true, laidLooks := .later }
def RingNarrowsUptoCardSaid : Prop := Claim7.holds Tryz.pinned (.plain (OpenSpec.upto ringNarrowsSpec)) ringNarrowsUptoCard

/-- THE SECOND FORM's CARD OF 'metrolablaw35.RingVerifies'. -/
def ringVerifiesUptoCard : Claim7 := { stood := { row := ringVerifiesUptoRow, standIns := [], harness := (true, "440c166efdddfcc09b271994253e2b7f568463f537616db030c64a2629f20abb"), looks := true }, kinds := [], alts := [], laidByText := true, laidKinds := [.data, .data, .data, .data, .sentinel, .sentinel, .pinned], laidTests := true, laidLooks := .later }
def RingVerifiesUptoCardSaid : Prop := Claim7.holds Tryz.pinned (.plain (OpenSpec.upto ringVerifiesSpec)) ringVerifiesUptoCard

/-- THE SECOND FORM's CARD OF 'metrolablaw35.RingMoves'. -/
def ringMovesUptoCard : Claim7 := { stood := { row := ringMovesUptoRow, standIns := [], harness := (true, "440c166efdddfcc09b271994253e2b7f568463f537616db030c64a2629f20abb"), looks := true }, kinds := [], alts := [], laidByText := true, laidKinds := [.data, .data, .data, .data, .sentinel, .sentinel, .pinned], laidTests := true, laidLooks := .later }
def RingMovesUptoCardSaid : Prop := Claim7.holds Tryz.pinned (.plain (OpenSpec.upto ringMovesSpec)) ringMovesUptoCard

/-- THE SECOND FORM's CARD OF 'metrolablaw35.RingCircles'. -/
def ringCirclesUptoCard : Claim7 := { stood := { row := ringCirclesUptoRow, standIns := [], harness := (true, "440c166efdddfcc09b271994253e2b7f568463f537616db030c64a2629f20abb"), looks := true }, kinds := [], alts := [], laidByText := true, laidKinds := [.data, .data, .data, .data, .sentinel, .sentinel, .pinned], laidTests := true, laidLooks := .later }
def RingCirclesUptoCardSaid : Prop := Claim7.holds Tryz.pinned (.plain (OpenSpec.upto ringCirclesSpec)) ringCirclesUptoCard
end Rows
end Go.Proofs.YtijpgddpejiohaaGreatDoor
