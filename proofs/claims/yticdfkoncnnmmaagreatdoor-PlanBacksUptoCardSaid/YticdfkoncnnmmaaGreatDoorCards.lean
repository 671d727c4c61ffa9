/-
  DERIVED. GIVEN WITH THE SEED: THE CARDS: each row of YticdfkoncnnmmaaGreatDoorRows.lean that lists a variable, with what it lists TIED to the program's text (the seventh form; the later family's looks); each row that meets fmt, with fmt's text TOLD by the authors' own Lean function (tested against real Go, not proved from fmt's source: count such statements apart). THE CARD IS WHAT COUNTS. Prove the row's statement (the work); the ties are given (YticdfkoncnnmmaaGreatDoorTie.lean); close each card by the builder's one call (the guide's Derived/Test/ToyasCard.lean, 'card_holds'). Laid BY PROGRAM, IN A SANDBOX (cutbox-door.mjs). By AI agents, Wed Nov 11 2026. No macro, syntax, notation, axiom, sorry.
-/
import Derived.Test.YticdfkoncnnmmaaGreatDoorRows
import GoSem.ClaimSeven
namespace Go.Proofs.YticdfkoncnnmmaaGreatDoor
namespace Rows

/-- THE TIED CARD OF 'syngraphlaw25.PlanKeeps'. -/
def planKeepsCard : Claim7 := { stood := { row := planKeepsRow, standIns := [], harness := (true, "b908f54ebde2f749e9da66d53e763154355da5d0590edb071e810af37b776655"), looks := true }, kinds := [], alts := [], laidByText := true, laidKinds := [.data, .data, .data, .data, .sentinel, .sentinel, .data, .data, .widerDeep, .pinned], laidTests := true, laidLooks := .later }
def PlanKeepsCardSaid : Prop := Claim7.holds Tryz.pinned (.plain (OpenSpec.ofChange planKeepsSpec)) planKeepsCard

/-- THE TIED CARD OF 'syngraphlaw25.PlanPools'. -/
def planPoolsCard : Claim7 := { stood := { row := planPoolsRow, standIns := [], harness := (true, "b908f54ebde2f749e9da66d53e763154355da5d0590edb071e810af37b776655"), looks := true }, kinds := [], alts := [], laidByText := true, laidKinds := [.data, .data, .data, .data, .sentinel, .sentinel, .data, .data, .widerDeep, .pinned], laidTests := true, laidLooks := .later }
def PlanPoolsCardSaid : Prop := Claim7.holds Tryz.pinned (.plain (OpenSpec.ofChange planPoolsSpec)) planPoolsCard

/-- THE TIED CARD OF 'syngraphlaw25.PlanMakes'. -/
def planMakesCard : Claim7 := { stood := { row := planMakesRow, standIns := [], harness := (true, "b908f54ebde2f749e9da66d53e763154355da5d0590edb071e810af37b776655"), looks := true }, kinds := [], alts := [], laidByText := true, laidKinds := [.data, .data, .data, .data, .sentinel, .sentinel, .data, .data, .widerDeep, .pinned], laidTests := true, laidLooks := .later }
def PlanMakesCardSaid : Prop := Claim7.holds Tryz.pinned (.plain (OpenSpec.ofChange planMakesSpec)) planMakesCard

/-- THE TIED CARD OF 'syngraphlaw25.PlanItems'. -/
def planItemsCard : Claim7 := { stood := { row := planItemsRow, standIns := [], harness := (true, "b908f54ebde2f749e9da66d53e763154355da5d0590edb071e810af37b776655"), looks := true }, kinds := [], alts := [], laidByText := true, laidKinds := [.data, .data, .data, .data, .sentinel, .sentinel, .data, .data, .widerDeep, .pinned], laidTests := true, laidLooks := .later }
def PlanItemsCardSaid : Prop := Claim7.holds Tryz.pinned (.plain (OpenSpec.ofChange planItemsSpec)) planItemsCard

/-- THE TIED CARD OF 'syngraphlaw25.PlanLines'. -/
def planLinesCard : Claim7 := { stood := { row := planLinesRow, standIns := [], harness := (true, "b908f54ebde2f749e9da66d53e763154355da5d0590edb071e810af37b776655"), looks := true }, kinds := [], alts := [], laidByText := true, laidKinds := [.data, .data, .data, .data, .sentinel, .sentinel, .data, .data, .widerDeep, .pinned], laidTests := true, laidLooks := .later }
def PlanLinesCardSaid : Prop := Claim7.holds Tryz.pinned (.plain (OpenSpec.ofChange planLinesSpec)) planLinesCard

/-- THE TIED CARD OF 'syngraphlaw25.PlanBacks'. -/
def planBacksCard : Claim7 := { stood := { row := planBacksRow, standIns := [], harness := (true, "b908f54ebde2f749e9da66d53e763154355da5d0590edb071e810af37b776655"), looks := true }, kinds := [], alts := [], laidByText := true, laidKinds := [.data, .data, .data, .data, .sentinel, .sentinel, .data, .data, .widerDeep, .pinned], laidTests := true, laidLooks := .later }
def PlanBacksCardSaid : Prop := Claim7.holds Tryz.pinned (.plain (OpenSpec.ofChange planBacksSpec)) planBacksCard

/-- THE SECOND FORM's CARD OF 'syngraphlaw25.PlanKeeps'. -/
def planKeepsUptoCard : Claim7 := { stood := { row := planKeepsUptoRow, standIns := [], harness := (true, "b908f54ebde2f749e9da66d53e763154355da5d0590edb071e810af37b776655"), looks := true }, kinds := [], alts := [], laidByText := true, laidKinds := [.data, .data, .data, .data, .sentinel, .sentinel, .data, .data, .widerDeep, .pinned], laidTests := true, laidLooks := .later }
def PlanKeepsUptoCardSaid : Prop := Claim7.holds Tryz.pinned (.plain (OpenSpec.upto planKeepsSpec)) planKeepsUptoCard

/-- THE SECOND FORM's CARD OF 'syngraphlaw25.PlanPools'. -/
def planPoolsUptoCard : Claim7 := { stood := { row := planPoolsUptoRow, standIns := [], harness := (true, "b908f54ebde2f749e9da66d53e763154355da5d0590edb071e810af37b776655"), looks := true }, kinds := [], alts := [], laidByText := true, laidKinds := [.data, .data, .data, .data, .sentinel, .sentinel, .data, .data, .widerDeep, .pinned], laidTests := true, laidLooks := .later }
def PlanPoolsUptoCardSaid : Prop := Claim7.holds Tryz.pinned (.plain (OpenSpec.upto planPoolsSpec)) planPoolsUptoCard

/-- THE SECOND FORM's CARD OF 'syngraphlaw25.PlanMakes'. -/
def planMakesUptoCard : Claim7 := { stood := { row := planMakesUptoRow, standIns := [], harness := (true, "b908f54ebde2f749e9da66d53e763154355da5d0590edb071e810af37b776655"), looks := true }, kinds := [], alts := [], laidByText := true, laidKinds := [.data, .data, .data, .data, .sentinel, .sentinel, .data, .data, .widerDeep, .pinned], laidTests := true, laidLooks := .later }
def PlanMakesUptoCardSaid : Prop := Claim7.holds Tryz.pinned (.plain (OpenSpec.upto planMakesSpec)) planMakesUptoCard

/-- THE SECOND FORM's CARD OF 'syngraphlaw25.PlanItems'. -/
def planItemsUptoCard : Claim7 := { stood := { row := planItemsUptoRow, standIns := [], harness := (true, "b908f54ebde2f749e9da66d53e763154355da5d0590edb071e810af37b776655"), looks := true }, kinds := [], alts := [], laidByText := true, laidKinds := [.data, .data, .data, .data, .sentinel, .sentinel, .data, .data, .widerDeep, .pinned], laidTests := true, laidLooks := .later }
def PlanItemsUptoCardSaid : Prop := Claim7.holds Tryz.pinned (.plain (OpenSpec.upto planItemsSpec)) planItemsUptoCard

/-- THE SECOND FORM's CARD OF 'syngraphlaw25.PlanLines'. -/
def planLinesUptoCard : Claim7 := { stood := { row := planLinesUptoRow, standIns := [], harness := (true, "b908f54ebde2f749e9da66d53e763154355da5d0590edb071e810af37b776655"), looks := true }, kinds := [], alts := [], laidByText := true, laidKinds := [.data, .data, .data, .data, .sentinel, .sentinel, .data, .data, .widerDeep, .pinned], laidTests := true, laidLooks := .later }
def PlanLinesUptoCardSaid : Prop := Claim7.holds Tryz.pinned (.plain (OpenSpec.upto planLinesSpec)) planLinesUptoCard

/-- THE SECOND FORM's CARD OF 'syngraphlaw25.PlanBacks'. -/
def planBacksUptoCard : Claim7 := { stood := { row := planBacksUptoRow, standIns := [], harness := (true, "b908f54ebde2f749e9da66d53e763154355da5d0590edb071e810af37b776655"), looks := true }, kinds := [], alts := [], laidByText := true, laidKinds := [.data, .data, .data, .data, .sentinel, .sentinel, .data, .data, .widerDeep, .pinned], laidTests := true, laidLooks := .later }
def PlanBacksUptoCardSaid : Prop := Claim7.holds Tryz.pinned (.plain (OpenSpec.upto planBacksSpec)) planBacksUptoCard
end Rows
end Go.Proofs.YticdfkoncnnmmaaGreatDoor
