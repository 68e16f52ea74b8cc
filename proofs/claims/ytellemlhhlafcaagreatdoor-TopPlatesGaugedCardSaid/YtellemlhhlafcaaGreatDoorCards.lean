/-
  DERIVED. GIVEN WITH THE SEED: THE CARDS: each row of YtellemlhhlafcaaGreatDoorRows.lean that lists a variable, with what it lists TIED to the program's text (the seventh form; the later family's looks); each row that meets fmt, with fmt's text TOLD by the authors' own Lean function (tested against real Go, not proved from fmt's source: count such statements apart). THE CARD IS WHAT COUNTS. Prove the row's statement (the work); the ties are given (YtellemlhhlafcaaGreatDoorTie.lean); close each card by the builder's one call (the guide's Derived/Test/ToyasCard.lean, 'card_holds'). Laid BY PROGRAM, IN A SANDBOX (cutbox-door.mjs). By AI agents, Wed Nov 11 2026. No macro, syntax, notation, axiom, sorry.
-/
import Derived.Test.YtellemlhhlafcaaGreatDoorRows
import GoSem.ClaimSeven
namespace Go.Proofs.YtellemlhhlafcaaGreatDoor
namespace Rows

/-- THE TIED CARD OF 'metrolabtop.TopPlatesPairs'. -/
def topPlatesPairsCard : Claim7 := { stood := { row := topPlatesPairsRow, standIns := [], harness := (true, "f25e7a0fa6e59144f11bb013afde252e2429c1fc505adeb9fb49ac60d48bac96"), looks := true }, kinds := [], alts := [], laidByText := true, laidKinds := [.data, .data, .data, .data, .data, .sentinel, .sentinel, .pinned], laidTests := true, laidLooks := .later }
def TopPlatesPairsCardSaid : Prop := Claim7.holds Tryz.pinned (.plain (OpenSpec.ofChange topPlatesPairsSpec)) topPlatesPairsCard

/-- THE TIED CARD OF 'metrolabtop.TopGaugeRound'. -/
def topGaugeRoundCard : Claim7 := { stood := { row := topGaugeRoundRow, standIns := [], harness := (true, "f25e7a0fa6e59144f11bb013afde252e2429c1fc505adeb9fb49ac60d48bac96"), looks := true }, kinds := [], alts := [], laidByText := true, laidKinds := [.data, .data, .data, .data, .data, .sentinel, .sentinel, .pinned], laidTests := true, laidLooks := .later }
def TopGaugeRoundCardSaid : Prop := Claim7.holds Tryz.pinned (.plain (OpenSpec.ofChange topGaugeRoundSpec)) topGaugeRoundCard

/-- THE TIED CARD OF 'metrolabtop.TopGaugeWorn'. -/
def topGaugeWornCard : Claim7 := { stood := { row := topGaugeWornRow, standIns := [], harness := (true, "f25e7a0fa6e59144f11bb013afde252e2429c1fc505adeb9fb49ac60d48bac96"), looks := true }, kinds := [], alts := [], laidByText := true, laidKinds := [.data, .data, .data, .data, .data, .sentinel, .sentinel, .pinned], laidTests := true, laidLooks := .later }
def TopGaugeWornCardSaid : Prop := Claim7.holds Tryz.pinned (.plain (OpenSpec.ofChange topGaugeWornSpec)) topGaugeWornCard

/-- THE TIED CARD OF 'metrolabtop.TopPlatesGauged'. -/
def topPlatesGaugedCard : Claim7 := { stood := { row := topPlatesGaugedRow, standIns := [], harness := (true, "f25e7a0fa6e59144f11bb013afde252e2429c1fc505adeb9fb49ac60d48bac96"), looks := true }, kinds := [], alts := [], laidByText := true, laidKinds := [.data, .data, .data, .data, .data, .sentinel, .sentinel, .pinned], laidTests := true, laidLooks := .later }
def TopPlatesGaugedCardSaid : Prop := Claim7.holds Tryz.pinned (.plain (OpenSpec.ofChange topPlatesGaugedSpec)) topPlatesGaugedCard

/-- THE SECOND FORM's CARD OF 'metrolabtop.TopPlatesPairs'. -/
def topPlatesPairsUptoCard : Claim7 := { stood := { row := topPlatesPairsUptoRow, standIns := [], harness := (true, "f25e7a0fa6e59144f11bb013afde252e2429c1fc505adeb9fb49ac60d48bac96"), looks := true }, kinds := [], alts := [], laidByText := true, laidKinds := [.data, .data, .data, .data, .data, .sentinel, .sentinel, .pinned], laidTests := true, laidLooks := .later }
def TopPlatesPairsUptoCardSaid : Prop := Claim7.holds Tryz.pinned (.plain (OpenSpec.upto topPlatesPairsSpec)) topPlatesPairsUptoCard

/-- THE SECOND FORM's CARD OF 'metrolabtop.TopGaugeRound'. -/
def topGaugeRoundUptoCard : Claim7 := { stood := { row := topGaugeRoundUptoRow, standIns := [], harness := (true, "f25e7a0fa6e59144f11bb013afde252e2429c1fc505adeb9fb49ac60d48bac96"), looks := true }, kinds := [], alts := [], laidByText := true, laidKinds := [.data, .data, .data, .data, .data, .sentinel, .sentinel, .pinned], laidTests := true, laidLooks := .later }
def TopGaugeRoundUptoCardSaid : Prop := Claim7.holds Tryz.pinned (.plain (OpenSpec.upto topGaugeRoundSpec)) topGaugeRoundUptoCard

/-- THE SECOND FORM's CARD OF 'metrolabtop.TopGaugeWorn'. -/
def topGaugeWornUptoCard : Claim7 := { stood := { row := topGaugeWornUptoRow, standIns := [], harness := (true, "f25e7a0fa6e59144f11bb013afde252e2429c1fc505adeb9fb49ac60d48bac96"), looks := true }, kinds := [], alts := [], laidByText := true, laidKinds := [.data, .data, .data, .data, .data, .sentinel, .sentinel, .pinned], laidTests := true, laidLooks := .later }
def TopGaugeWornUptoCardSaid : Prop := Claim7.holds Tryz.pinned (.plain (OpenSpec.upto topGaugeWornSpec)) topGaugeWornUptoCard

/-- THE SECOND FORM's CARD OF 'metrolabtop.TopPlatesGauged'. -/
def topPlatesGaugedUptoCard : Claim7 := { stood := { row := topPlatesGaugedUptoRow, standIns := [], harness := (true, "f25e7a0fa6e59144f11bb013afde252e2429c1fc505adeb9fb49ac60d48bac96"), looks := true }, kinds := [], alts := [], laidByText := true, laidKinds := [.data, .data, .data, .data, .data, .sentinel, .sentinel, .pinned], laidTests := true, laidLooks := .later }
def TopPlatesGaugedUptoCardSaid : Prop := Claim7.holds Tryz.pinned (.plain (OpenSpec.upto topPlatesGaugedSpec)) topPlatesGaugedUptoCard
end Rows
end Go.Proofs.YtellemlhhlafcaaGreatDoor
