/-
  DERIVED. GIVEN WITH THE SEED: THE CARDS: each row of YtdmciknajaedmaaGreatDoorRows.lean that lists a variable, with what it lists TIED to the program's text (the seventh form; the later family's looks); each row that meets fmt, with fmt's text TOLD by the authors' own Lean function (tested against real Go, not proved from fmt's source: count such statements apart). THE CARD IS WHAT COUNTS. Prove the row's statement (the work); the ties are given (YtdmciknajaedmaaGreatDoorTie.lean); close each card by the builder's one call (the guide's Derived/Test/ToyasCard.lean, 'card_holds'). Laid BY PROGRAM, IN A SANDBOX (cutbox-door.mjs). By AI agents, Wed Nov 11 2026. No macro, syntax, notation, axiom, sorry.
-/
import Derived.Test.YtdmciknajaedmaaGreatDoorRows
import GoSem.ClaimSeven
namespace Go.Proofs.YtdmciknajaedmaaGreatDoor
namespace Rows

/-- THE TIED CARD OF 'syngraphlaw23.AnchorPlays'. -/
def anchorPlaysCard : Claim7 := { stood := { row := anchorPlaysRow, standIns := [], harness := (true, "9db0e302c4c9b77d11122835274169d119d2e34f11e70c8339a4c3b824191752"), looks := false }, kinds := [], alts := [], laidByText := true, laidKinds := [.data, .data, .data, .data, .data, .data, .pinned], laidTests := true, laidLooks := .later }
def AnchorPlaysCardSaid : Prop := Claim7.holds Tryz.pinned (.plain (OpenSpec.ofChange anchorPlaysSpec)) anchorPlaysCard

/-- THE TIED CARD OF 'syngraphlaw23.AnchorTampers'. -/
def anchorTampersCard : Claim7 := { stood := { row := anchorTampersRow, standIns := [], harness := (true, "9db0e302c4c9b77d11122835274169d119d2e34f11e70c8339a4c3b824191752"), looks := false }, kinds := [], alts := [], laidByText := true, laidKinds := [.data, .data, .data, .data, .data, .data, .pinned], laidTests := true, laidLooks := .later }
def AnchorTampersCardSaid : Prop := Claim7.holds Tryz.pinned (.plain (OpenSpec.ofChange anchorTampersSpec)) anchorTampersCard

/-- THE TIED CARD OF 'syngraphlaw23.AnchorGoes'. -/
def anchorGoesCard : Claim7 := { stood := { row := anchorGoesRow, standIns := [], harness := (true, "9db0e302c4c9b77d11122835274169d119d2e34f11e70c8339a4c3b824191752"), looks := false }, kinds := [], alts := [], laidByText := true, laidKinds := [.data, .data, .data, .data, .data, .data, .pinned], laidTests := true, laidLooks := .later }
def AnchorGoesCardSaid : Prop := Claim7.holds Tryz.pinned (.plain (OpenSpec.ofChange anchorGoesSpec)) anchorGoesCard

/-- THE SECOND FORM's CARD OF 'syngraphlaw23.AnchorPlays'. -/
def anchorPlaysUptoCard : Claim7 := { stood := { row := anchorPlaysUptoRow, standIns := [], harness := (true, "9db0e302c4c9b77d11122835274169d119d2e34f11e70c8339a4c3b824191752"), looks := false }, kinds := [], alts := [], laidByText := true, laidKinds := [.data, .data, .data, .data, .data, .data, .pinned], laidTests := true, laidLooks := .later }
def AnchorPlaysUptoCardSaid : Prop := Claim7.holds Tryz.pinned (.plain (OpenSpec.upto anchorPlaysSpec)) anchorPlaysUptoCard

/-- THE SECOND FORM's CARD OF 'syngraphlaw23.AnchorTampers'. -/
def anchorTampersUptoCard : Claim7 := { stood := { row := anchorTampersUptoRow, standIns := [], harness := (true, "9db0e302c4c9b77d11122835274169d119d2e34f11e70c8339a4c3b824191752"), looks := false }, kinds := [], alts := [], laidByText := true, laidKinds := [.data, .data, .data, .data, .data, .data, .pinned], laidTests := true, laidLooks := .later }
def AnchorTampersUptoCardSaid : Prop := Claim7.holds Tryz.pinned (.plain (OpenSpec.upto anchorTampersSpec)) anchorTampersUptoCard

/-- THE SECOND FORM's CARD OF 'syngraphlaw23.AnchorGoes'. -/
def anchorGoesUptoCard : Claim7 := { stood := { row := anchorGoesUptoRow, standIns := [], harness := (true, "9db0e302c4c9b77d11122835274169d119d2e34f11e70c8339a4c3b824191752"), looks := false }, kinds := [], alts := [], laidByText := true, laidKinds := [.data, .data, .data, .data, .data, .data, .pinned], laidTests := true, laidLooks := .later }
def AnchorGoesUptoCardSaid : Prop := Claim7.holds Tryz.pinned (.plain (OpenSpec.upto anchorGoesSpec)) anchorGoesUptoCard
end Rows
end Go.Proofs.YtdmciknajaedmaaGreatDoor
