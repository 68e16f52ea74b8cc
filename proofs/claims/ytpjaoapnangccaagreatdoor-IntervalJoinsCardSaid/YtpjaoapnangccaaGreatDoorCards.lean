/-
  DERIVED. GIVEN WITH THE SEED: THE CARDS: each row of YtpjaoapnangccaaGreatDoorRows.lean that lists a variable, with what it lists TIED to the program's text (the seventh form; the later family's looks); each row that meets fmt, with fmt's text TOLD by the authors' own Lean function (tested against real Go, not proved from fmt's source: count such statements apart). THE CARD IS WHAT COUNTS. Prove the row's statement (the work); the ties are given (YtpjaoapnangccaaGreatDoorTie.lean); close each card by the builder's one call (the guide's Derived/Test/ToyasCard.lean, 'card_holds'). Laid BY PROGRAM, IN A SANDBOX (cutbox-door.mjs). By AI agents, Wed Nov 11 2026. No macro, syntax, notation, axiom, sorry.
-/
import Derived.Test.YtpjaoapnangccaaGreatDoorRows
import GoSem.ClaimSeven
namespace Go.Proofs.YtpjaoapnangccaaGreatDoor
namespace Rows

/-- THE TIED CARD OF 'metrolablaw03.IntervalCombines'. -/
def intervalCombinesCard : Claim7 := { stood := { row := intervalCombinesRow, standIns := [], harness := (true, "b96129a77ed0b6425d328a9e03b94ba6efd27c6a6e67c1e5038665f813871754"), looks := true }, kinds := [], alts := [], laidByText := true, laidKinds := [.data, .data, .data, .data, .sentinel, .sentinel, .pinned], laidTests := true, laidLooks := .later }
def IntervalCombinesCardSaid : Prop := Claim7.holds Tryz.pinned (.plain (OpenSpec.ofChange intervalCombinesSpec)) intervalCombinesCard

/-- THE TIED CARD OF 'metrolablaw03.IntervalJoins'. -/
def intervalJoinsCard : Claim7 := { stood := { row := intervalJoinsRow, standIns := [], harness := (true, "b96129a77ed0b6425d328a9e03b94ba6efd27c6a6e67c1e5038665f813871754"), looks := true }, kinds := [], alts := [], laidByText := true, laidKinds := [.data, .data, .data, .data, .sentinel, .sentinel, .pinned], laidTests := true, laidLooks := .later }
def IntervalJoinsCardSaid : Prop := Claim7.holds Tryz.pinned (.plain (OpenSpec.ofChange intervalJoinsSpec)) intervalJoinsCard

/-- THE TIED CARD OF 'metrolablaw03.IntervalCounts'. -/
def intervalCountsCard : Claim7 := { stood := { row := intervalCountsRow, standIns := [], harness := (true, "b96129a77ed0b6425d328a9e03b94ba6efd27c6a6e67c1e5038665f813871754"), looks := true }, kinds := [], alts := [], laidByText := true, laidKinds := [.data, .data, .data, .data, .sentinel, .sentinel, .pinned], laidTests := true, laidLooks := .later }
def IntervalCountsCardSaid : Prop := Claim7.holds Tryz.pinned (.plain (OpenSpec.ofChange intervalCountsSpec)) intervalCountsCard

/-- THE TIED CARD OF 'metrolablaw03.IntervalChecks'. -/
def intervalChecksCard : Claim7 := { stood := { row := intervalChecksRow, standIns := [], harness := (true, "b96129a77ed0b6425d328a9e03b94ba6efd27c6a6e67c1e5038665f813871754"), looks := true }, kinds := [], alts := [], laidByText := true, laidKinds := [.data, .data, .data, .data, .sentinel, .sentinel, .pinned], laidTests := true, laidLooks := .later }
def IntervalChecksCardSaid : Prop := Claim7.holds Tryz.pinned (.plain (OpenSpec.ofChange intervalChecksSpec)) intervalChecksCard

/-- THE TIED CARD OF 'metrolablaw03.IntervalSets'. -/
def intervalSetsCard : Claim7 := { stood := { row := intervalSetsRow, standIns := [], harness := (true, "b96129a77ed0b6425d328a9e03b94ba6efd27c6a6e67c1e5038665f813871754"), looks := true }, kinds := [], alts := [], laidByText := true, laidKinds := [.data, .data, .data, .data, .sentinel, .sentinel, .pinned], laidTests := true, laidLooks := .later }
def IntervalSetsCardSaid : Prop := Claim7.holds Tryz.pinned (.plain (OpenSpec.ofChange intervalSetsSpec)) intervalSetsCard

/-- THE TIED CARD OF 'metrolablaw03.IntervalHolds'. -/
def intervalHoldsCard : Claim7 := { stood := { row := intervalHoldsRow, standIns := [], harness := (true, "b96129a77ed0b6425d328a9e03b94ba6efd27c6a6e67c1e5038665f813871754"), looks := true }, kinds := [], alts := [], laidByText := true, laidKinds := [.data, .data, .data, .data, .sentinel, .sentinel, .pinned], laidTests := true, laidLooks := .later }
def IntervalHoldsCardSaid : Prop := Claim7.holds Tryz.pinned (.plain (OpenSpec.ofChange intervalHoldsSpec)) intervalHoldsCard

/-- THE SECOND FORM's CARD OF 'metrolablaw03.IntervalCombines'. -/
def intervalCombinesUptoCard : Claim7 := { stood := { row := intervalCombinesUptoRow, standIns := [], harness := (true, "b96129a77ed0b6425d328a9e03b94ba6efd27c6a6e67c1e5038665f813871754"), looks := true }, kinds := [], alts := [], laidByText := true, laidKinds := [.data, .data, .data, .data, .sentinel, .sentinel, .pinned], laidTests := true, laidLooks := .later }
def IntervalCombinesUptoCardSaid : Prop := Claim7.holds Tryz.pinned (.plain (OpenSpec.upto intervalCombinesSpec)) intervalCombinesUptoCard

/-- THE SECOND FORM's CARD OF 'metrolablaw03.IntervalJoins'. -/
def intervalJoinsUptoCard : Claim7 := { stood := { row := intervalJoinsUptoRow, standIns := [], harness := (true, "b96129a77ed0b6425d328a9e03b94ba6efd27c6a6e67c1e5038665f813871754"), looks := true }, kinds := [], alts := [], laidByText := true, laidKinds := [.data, .data, .data, .data, .sentinel, .sentinel, .pinned], laidTests := true, laidLooks := .later }
def IntervalJoinsUptoCardSaid : Prop := Claim7.holds Tryz.pinned (.plain (OpenSpec.upto intervalJoinsSpec)) intervalJoinsUptoCard

/-- THE SECOND FORM's CARD OF 'metrolablaw03.IntervalCounts'. -/
def intervalCountsUptoCard : Claim7 := { stood := { row := intervalCountsUptoRow, standIns := [], harness := (true, "b96129a77ed0b6425d328a9e03b94ba6efd27c6a6e67c1e5038665f813871754"), looks := true }, kinds := [], alts := [], laidByText := true, laidKinds := [.data, .data, .data, .data, .sentinel, .sentinel, .pinned], laidTests := true, laidLooks := .later }
def IntervalCountsUptoCardSaid : Prop := Claim7.holds Tryz.pinned (.plain (OpenSpec.upto intervalCountsSpec)) intervalCountsUptoCard

/-- THE SECOND FORM's CARD OF 'metrolablaw03.IntervalChecks'. -/
def intervalChecksUptoCard : Claim7 := { stood := { row := intervalChecksUptoRow, standIns := [], harness := (true, "b96129a77ed0b6425d328a9e03b94ba6efd27c6a6e67c1e5038665f813871754"), looks := true }, kinds := [], alts := [], laidByText := true, laidKinds := [.data, .data, .data, .data, .sentinel, .sentinel, .pinned], laidTests := true, laidLooks := .later }
def IntervalChecksUptoCardSaid : Prop := Claim7.holds Tryz.pinned (.plain (OpenSpec.upto intervalChecksSpec)) intervalChecksUptoCard

/-- THE SECOND FORM's CARD OF 'metrolablaw03.IntervalSets'. -/
def intervalSetsUptoCard : Claim7 := { stood := { row := intervalSetsUptoRow, standIns := [], harness := (true, "b96129a77ed0b6425d328a9e03b94ba6efd27c6a6e67c1e5038665f813871754"), looks := true }, kinds := [], alts := [], laidByText := true, laidKinds := [.data, .data, .data, .data, .sentinel, .sentinel, .pinned], laidTests := true, laidLooks := .later }
def IntervalSetsUptoCardSaid : Prop := Claim7.holds Tryz.pinned (.plain (OpenSpec.upto intervalSetsSpec)) intervalSetsUptoCard

/-- THE SECOND FORM's CARD OF 'metrolablaw03.IntervalHolds'. -/
def intervalHoldsUptoCard : Claim7 := { stood := { row := intervalHoldsUptoRow, standIns := [], harness := (true, "b96129a77ed0b6425d328a9e03b94ba6efd27c6a6e67c1e5038665f813871754"), looks := true }, kinds := [], alts := [], laidByText := true, laidKinds := [.data, .data, .data, .data, .sentinel, .sentinel, .pinned], laidTests := true, laidLooks := .later }
def IntervalHoldsUptoCardSaid : Prop := Claim7.holds Tryz.pinned (.plain (OpenSpec.upto intervalHoldsSpec)) intervalHoldsUptoCard
end Rows
end Go.Proofs.YtpjaoapnangccaaGreatDoor
