/-
  DERIVED. GIVEN WITH THE SEED: THE CARDS: each row of YtmhfanpijdgkjabGreatDoorRows.lean that lists a variable, with what it lists TIED to the program's text (the seventh form; the later family's looks); each row that meets fmt, with fmt's text TOLD by the authors' own Lean function (tested against real Go, not proved from fmt's source: count such statements apart). THE CARD IS WHAT COUNTS. Prove the row's statement (the work); the ties are given (YtmhfanpijdgkjabGreatDoorTie.lean); close each card by the builder's one call (the guide's Derived/Test/ToyasCard.lean, 'card_holds'). Laid BY PROGRAM, IN A SANDBOX (cutbox-door.mjs). By AI agents, Wed Nov 11 2026. No macro, syntax, notation, axiom, sorry.
-/
import Derived.Test.YtmhfanpijdgkjabGreatDoorRows
import GoSem.ClaimSeven
namespace Go.Proofs.YtmhfanpijdgkjabGreatDoor
namespace Rows

/-- THE TIED CARD OF 'syngraphlaw22.HistoryReads'. -/
def historyReadsCard : Claim7 := { stood := { row := historyReadsRow, standIns := [], harness := (true, "d59238bbb9619c81ad95b1c6f34e2fe1017e0de3d79f048f042b2357db88c0f0"), looks := true }, kinds := [], alts := [], laidByText := true, laidKinds := [.data, .data, .data, .data, .sentinel, .sentinel, .data, .data, .pinned], laidTests := true, laidLooks := .later }
def HistoryReadsCardSaid : Prop := Claim7.holds Tryz.pinned (.plain (OpenSpec.ofChange historyReadsSpec)) historyReadsCard

/-- THE TIED CARD OF 'syngraphlaw22.HistoryGrows'. -/
def historyGrowsCard : Claim7 := { stood := { row := historyGrowsRow, standIns := [], harness := (true, "d59238bbb9619c81ad95b1c6f34e2fe1017e0de3d79f048f042b2357db88c0f0"), looks := true }, kinds := [], alts := [], laidByText := true, laidKinds := [.data, .data, .data, .data, .sentinel, .sentinel, .data, .data, .pinned], laidTests := true, laidLooks := .later }
def HistoryGrowsCardSaid : Prop := Claim7.holds Tryz.pinned (.plain (OpenSpec.ofChange historyGrowsSpec)) historyGrowsCard

/-- THE SECOND FORM's CARD OF 'syngraphlaw22.HistoryReads'. -/
def historyReadsUptoCard : Claim7 := { stood := { row := historyReadsUptoRow, standIns := [], harness := (true, "d59238bbb9619c81ad95b1c6f34e2fe1017e0de3d79f048f042b2357db88c0f0"), looks := true }, kinds := [], alts := [], laidByText := true, laidKinds := [.data, .data, .data, .data, .sentinel, .sentinel, .data, .data, .pinned], laidTests := true, laidLooks := .later }
def HistoryReadsUptoCardSaid : Prop := Claim7.holds Tryz.pinned (.plain (OpenSpec.upto historyReadsSpec)) historyReadsUptoCard

/-- THE SECOND FORM's CARD OF 'syngraphlaw22.HistoryGrows'. -/
def historyGrowsUptoCard : Claim7 := { stood := { row := historyGrowsUptoRow, standIns := [], harness := (true, "d59238bbb9619c81ad95b1c6f34e2fe1017e0de3d79f048f042b2357db88c0f0"), looks := true }, kinds := [], alts := [], laidByText := true, laidKinds := [.data, .data, .data, .data, .sentinel, .sentinel, .data, .data, .pinned], laidTests := true, laidLooks := .later }
def HistoryGrowsUptoCardSaid : Prop := Claim7.holds Tryz.pinned (.plain (OpenSpec.upto historyGrowsSpec)) historyGrowsUptoCard
end Rows
end Go.Proofs.YtmhfanpijdgkjabGreatDoor
