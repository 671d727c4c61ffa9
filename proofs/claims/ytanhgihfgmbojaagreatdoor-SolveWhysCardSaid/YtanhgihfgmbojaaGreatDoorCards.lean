/-
  DERIVED. GIVEN WITH THE SEED: THE CARDS: each row of YtanhgihfgmbojaaGreatDoorRows.lean that lists a variable, with what it lists TIED to the program's text (the seventh form; the later family's looks); each row that meets fmt, with fmt's text TOLD by the authors' own Lean function (tested against real Go, not proved from fmt's source: count such statements apart). THE CARD IS WHAT COUNTS. Prove the row's statement (the work); the ties are given (YtanhgihfgmbojaaGreatDoorTie.lean); close each card by the builder's one call (the guide's Derived/Test/ToyasCard.lean, 'card_holds'). Laid BY PROGRAM, IN A SANDBOX (cutbox-door.mjs). By AI agents, Wed Nov 11 2026. No macro, syntax, notation, axiom, sorry.
-/
import Derived.Test.YtanhgihfgmbojaaGreatDoorRows
import GoSem.ClaimSeven
namespace Go.Proofs.YtanhgihfgmbojaaGreatDoor
namespace Rows

/-- THE TIED CARD OF 'syngraphlaw20.SolveFinds'. -/
def solveFindsCard : Claim7 := { stood := { row := solveFindsRow, standIns := [], harness := (true, "30156843882fc41f337238a22110f983825e833716832e3c656f086885eda2e2"), looks := true }, kinds := [], alts := [], laidByText := true, laidKinds := [.data, .data, .data, .data, .sentinel, .sentinel, .widerDeep, .pinned], laidTests := true, laidLooks := .later }
def SolveFindsCardSaid : Prop := Claim7.holds Tryz.pinned (.plain (OpenSpec.ofChange solveFindsSpec)) solveFindsCard

/-- THE TIED CARD OF 'syngraphlaw20.SolveBounds'. -/
def solveBoundsCard : Claim7 := { stood := { row := solveBoundsRow, standIns := [], harness := (true, "30156843882fc41f337238a22110f983825e833716832e3c656f086885eda2e2"), looks := true }, kinds := [], alts := [], laidByText := true, laidKinds := [.data, .data, .data, .data, .sentinel, .sentinel, .widerDeep, .pinned], laidTests := true, laidLooks := .later }
def SolveBoundsCardSaid : Prop := Claim7.holds Tryz.pinned (.plain (OpenSpec.ofChange solveBoundsSpec)) solveBoundsCard

/-- THE TIED CARD OF 'syngraphlaw20.SolveRight'. -/
def solveRightCard : Claim7 := { stood := { row := solveRightRow, standIns := [], harness := (true, "30156843882fc41f337238a22110f983825e833716832e3c656f086885eda2e2"), looks := true }, kinds := [], alts := [], laidByText := true, laidKinds := [.data, .data, .data, .data, .sentinel, .sentinel, .widerDeep, .pinned], laidTests := true, laidLooks := .later }
def SolveRightCardSaid : Prop := Claim7.holds Tryz.pinned (.plain (OpenSpec.ofChange solveRightSpec)) solveRightCard

/-- THE TIED CARD OF 'syngraphlaw20.SolveChoices'. -/
def solveChoicesCard : Claim7 := { stood := { row := solveChoicesRow, standIns := [], harness := (true, "30156843882fc41f337238a22110f983825e833716832e3c656f086885eda2e2"), looks := true }, kinds := [], alts := [], laidByText := true, laidKinds := [.data, .data, .data, .data, .sentinel, .sentinel, .widerDeep, .pinned], laidTests := true, laidLooks := .later }
def SolveChoicesCardSaid : Prop := Claim7.holds Tryz.pinned (.plain (OpenSpec.ofChange solveChoicesSpec)) solveChoicesCard

/-- THE TIED CARD OF 'syngraphlaw20.SolveOrders'. -/
def solveOrdersCard : Claim7 := { stood := { row := solveOrdersRow, standIns := [], harness := (true, "30156843882fc41f337238a22110f983825e833716832e3c656f086885eda2e2"), looks := true }, kinds := [], alts := [], laidByText := true, laidKinds := [.data, .data, .data, .data, .sentinel, .sentinel, .widerDeep, .pinned], laidTests := true, laidLooks := .later }
def SolveOrdersCardSaid : Prop := Claim7.holds Tryz.pinned (.plain (OpenSpec.ofChange solveOrdersSpec)) solveOrdersCard

/-- THE TIED CARD OF 'syngraphlaw20.SolveWhys'. -/
def solveWhysCard : Claim7 := { stood := { row := solveWhysRow, standIns := [], harness := (true, "30156843882fc41f337238a22110f983825e833716832e3c656f086885eda2e2"), looks := true }, kinds := [], alts := [], laidByText := true, laidKinds := [.data, .data, .data, .data, .sentinel, .sentinel, .widerDeep, .pinned], laidTests := true, laidLooks := .later }
def SolveWhysCardSaid : Prop := Claim7.holds Tryz.pinned (.plain (OpenSpec.ofChange solveWhysSpec)) solveWhysCard

/-- THE SECOND FORM's CARD OF 'syngraphlaw20.SolveFinds'. -/
def solveFindsUptoCard : Claim7 := { stood := { row := solveFindsUptoRow, standIns := [], harness := (true, "30156843882fc41f337238a22110f983825e833716832e3c656f086885eda2e2"), looks := true }, kinds := [], alts := [], laidByText := true, laidKinds := [.data, .data, .data, .data, .sentinel, .sentinel, .widerDeep, .pinned], laidTests := true, laidLooks := .later }
def SolveFindsUptoCardSaid : Prop := Claim7.holds Tryz.pinned (.plain (OpenSpec.upto solveFindsSpec)) solveFindsUptoCard

/-- THE SECOND FORM's CARD OF 'syngraphlaw20.SolveBounds'. -/
def solveBoundsUptoCard : Claim7 := { stood := { row := solveBoundsUptoRow, standIns := [], harness := (true, "30156843882fc41f337238a22110f983825e833716832e3c656f086885eda2e2"), looks := true }, kinds := [], alts := [], laidByText := true, laidKinds := [.data, .data, .data, .data, .sentinel, .sentinel, .widerDeep, .pinned], laidTests := true, laidLooks := .later }
def SolveBoundsUptoCardSaid : Prop := Claim7.holds Tryz.pinned (.plain (OpenSpec.upto solveBoundsSpec)) solveBoundsUptoCard

/-- THE SECOND FORM's CARD OF 'syngraphlaw20.SolveRight'. -/
def solveRightUptoCard : Claim7 := { stood := { row := solveRightUptoRow, standIns := [], harness := (true, "30156843882fc41f337238a22110f983825e833716832e3c656f086885eda2e2"), looks := true }, kinds := [], alts := [], laidByText := true, laidKinds := [.data, .data, .data, .data, .sentinel, .sentinel, .widerDeep, .pinned], laidTests := true, laidLooks := .later }
def SolveRightUptoCardSaid : Prop := Claim7.holds Tryz.pinned (.plain (OpenSpec.upto solveRightSpec)) solveRightUptoCard

/-- THE SECOND FORM's CARD OF 'syngraphlaw20.SolveChoices'. -/
def solveChoicesUptoCard : Claim7 := { stood := { row := solveChoicesUptoRow, standIns := [], harness := (true, "30156843882fc41f337238a22110f983825e833716832e3c656f086885eda2e2"), looks := true }, kinds := [], alts := [], laidByText := true, laidKinds := [.data, .data, .data, .data, .sentinel, .sentinel, .widerDeep, .pinned], laidTests := true, laidLooks := .later }
def SolveChoicesUptoCardSaid : Prop := Claim7.holds Tryz.pinned (.plain (OpenSpec.upto solveChoicesSpec)) solveChoicesUptoCard

/-- THE SECOND FORM's CARD OF 'syngraphlaw20.SolveOrders'. -/
def solveOrdersUptoCard : Claim7 := { stood := { row := solveOrdersUptoRow, standIns := [], harness := (true, "30156843882fc41f337238a22110f983825e833716832e3c656f086885eda2e2"), looks := true }, kinds := [], alts := [], laidByText := true, laidKinds := [.data, .data, .data, .data, .sentinel, .sentinel, .widerDeep, .pinned], laidTests := true, laidLooks := .later }
def SolveOrdersUptoCardSaid : Prop := Claim7.holds Tryz.pinned (.plain (OpenSpec.upto solveOrdersSpec)) solveOrdersUptoCard

/-- THE SECOND FORM's CARD OF 'syngraphlaw20.SolveWhys'. -/
def solveWhysUptoCard : Claim7 := { stood := { row := solveWhysUptoRow, standIns := [], harness := (true, "30156843882fc41f337238a22110f983825e833716832e3c656f086885eda2e2"), looks := true }, kinds := [], alts := [], laidByText := true, laidKinds := [.data, .data, .data, .data, .sentinel, .sentinel, .widerDeep, .pinned], laidTests := true, laidLooks := .later }
def SolveWhysUptoCardSaid : Prop := Claim7.holds Tryz.pinned (.plain (OpenSpec.upto solveWhysSpec)) solveWhysUptoCard
end Rows
end Go.Proofs.YtanhgihfgmbojaaGreatDoor
