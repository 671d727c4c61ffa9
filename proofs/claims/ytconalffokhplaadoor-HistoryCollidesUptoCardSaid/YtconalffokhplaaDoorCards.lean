/-
  DERIVED. GIVEN WITH THE SEED: THE CARDS: each row of YtconalffokhplaaDoorRows.lean that lists a variable, with what it lists TIED to the program's text (the seventh form; the later family's looks); each row that meets fmt, with fmt's text TOLD by the authors' own Lean function (tested against real Go, not proved from fmt's source: count such statements apart). THE CARD IS WHAT COUNTS. Prove the row's statement (the work); the ties are given (YtconalffokhplaaDoorTie.lean); close each card by the builder's one call (the guide's Derived/Test/ToyasCard.lean, 'card_holds'). Laid BY PROGRAM, IN A SANDBOX (cutbox-door.mjs). By AI agents, Wed Nov 11 2026. No macro, syntax, notation, axiom, sorry.
-/
import Derived.Test.YtconalffokhplaaDoorRows
import GoSem.ClaimSeven
namespace Go.Proofs.YtconalffokhplaaDoor
namespace Rows

/-- THE TIED CARD OF 'syngraphlaw22.HistoryCollides'. -/
def historyCollidesCard : Claim7 := { stood := { row := historyCollidesRow, standIns := [], harness := (true, "900d7a8602c83f4330a5763cfbf964a2c6fccc25e9f69bf5626f752e4d79d4a7"), looks := false }, kinds := [], alts := [], laidByText := true, laidKinds := [.data, .data, .data, .data, .data, .data, .pinned], laidTests := true, laidLooks := .later }
def HistoryCollidesCardSaid : Prop := Claim7.holds Tryd.pinned (.plain (OpenSpec.ofChange historyCollidesSpec)) historyCollidesCard

/-- THE SECOND FORM's CARD OF 'syngraphlaw22.HistoryCollides'. -/
def historyCollidesUptoCard : Claim7 := { stood := { row := historyCollidesUptoRow, standIns := [], harness := (true, "900d7a8602c83f4330a5763cfbf964a2c6fccc25e9f69bf5626f752e4d79d4a7"), looks := false }, kinds := [], alts := [], laidByText := true, laidKinds := [.data, .data, .data, .data, .data, .data, .pinned], laidTests := true, laidLooks := .later }
def HistoryCollidesUptoCardSaid : Prop := Claim7.holds Tryd.pinned (.plain (OpenSpec.upto historyCollidesSpec)) historyCollidesUptoCard
end Rows
end Go.Proofs.YtconalffokhplaaDoor
