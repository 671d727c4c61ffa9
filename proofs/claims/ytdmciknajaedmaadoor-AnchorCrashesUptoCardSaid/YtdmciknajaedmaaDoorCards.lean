/-
  DERIVED. GIVEN WITH THE SEED: THE CARDS: each row of YtdmciknajaedmaaDoorRows.lean that lists a variable, with what it lists TIED to the program's text (the seventh form; the later family's looks); each row that meets fmt, with fmt's text TOLD by the authors' own Lean function (tested against real Go, not proved from fmt's source: count such statements apart). THE CARD IS WHAT COUNTS. Prove the row's statement (the work); the ties are given (YtdmciknajaedmaaDoorTie.lean); close each card by the builder's one call (the guide's Derived/Test/ToyasCard.lean, 'card_holds'). Laid BY PROGRAM, IN A SANDBOX (cutbox-door.mjs). By AI agents, Wed Nov 11 2026. No macro, syntax, notation, axiom, sorry.
-/
import Derived.Test.YtdmciknajaedmaaDoorRows
import GoSem.ClaimSeven
namespace Go.Proofs.YtdmciknajaedmaaDoor
namespace Rows

/-- THE TIED CARD OF 'syngraphlaw23.AnchorCrashes'. -/
def anchorCrashesCard : Claim7 := { stood := { row := anchorCrashesRow, standIns := [], harness := (true, "bfa19df793e563db4fa17285a6ae5b935110bc0bbdd2937731e2ce9662b963bf"), looks := false }, kinds := [], alts := [], laidByText := true, laidKinds := [.data, .data, .data, .data, .data, .data, .pinned], laidTests := true, laidLooks := .later }
def AnchorCrashesCardSaid : Prop := Claim7.holds Tryd.pinned (.plain (OpenSpec.ofChange anchorCrashesSpec)) anchorCrashesCard

/-- THE SECOND FORM's CARD OF 'syngraphlaw23.AnchorCrashes'. -/
def anchorCrashesUptoCard : Claim7 := { stood := { row := anchorCrashesUptoRow, standIns := [], harness := (true, "bfa19df793e563db4fa17285a6ae5b935110bc0bbdd2937731e2ce9662b963bf"), looks := false }, kinds := [], alts := [], laidByText := true, laidKinds := [.data, .data, .data, .data, .data, .data, .pinned], laidTests := true, laidLooks := .later }
def AnchorCrashesUptoCardSaid : Prop := Claim7.holds Tryd.pinned (.plain (OpenSpec.upto anchorCrashesSpec)) anchorCrashesUptoCard
end Rows
end Go.Proofs.YtdmciknajaedmaaDoor
