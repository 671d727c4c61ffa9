/-
  DERIVED. GIVEN WITH THE SEED: THE CARDS: each row of YtmhfanpijdgkjaaGreatDoorRows.lean that lists a variable, with what it lists TIED to the program's text (the seventh form; the later family's looks); each row that meets fmt, with fmt's text TOLD by the authors' own Lean function (tested against real Go, not proved from fmt's source: count such statements apart). THE CARD IS WHAT COUNTS. Prove the row's statement (the work); the ties are given (YtmhfanpijdgkjaaGreatDoorTie.lean); close each card by the builder's one call (the guide's Derived/Test/ToyasCard.lean, 'card_holds'). Laid BY PROGRAM, IN A SANDBOX (cutbox-door.mjs). By AI agents, Wed Nov 11 2026. No macro, syntax, notation, axiom, sorry.
-/
import Derived.Test.YtmhfanpijdgkjaaGreatDoorRows
import GoSem.ClaimSeven
namespace Go.Proofs.YtmhfanpijdgkjaaGreatDoor
namespace Rows

/-- THE TIED CARD OF 'syngraphlaw18.VersionBest'. -/
def versionBestCard : Claim7 := { stood := { row := versionBestRow, standIns := [], harness := (true, "3ac8d192bad492b6ec59b2c1a3a688153b61decc3d121ff3272b8ef82e08bf34"), looks := true }, kinds := [], alts := [], laidByText := true, laidKinds := [.data, .data, .data, .data, .sentinel, .sentinel, .widerDeep, .pinned], laidTests := true, laidLooks := .later }
def VersionBestCardSaid : Prop := Claim7.holds Tryz.pinned (.plain (OpenSpec.ofChange versionBestSpec)) versionBestCard

/-- THE TIED CARD OF 'syngraphlaw22.HistoryRecords'. -/
def historyRecordsCard : Claim7 := { stood := { row := historyRecordsRow, standIns := [], harness := (true, "3ac8d192bad492b6ec59b2c1a3a688153b61decc3d121ff3272b8ef82e08bf34"), looks := true }, kinds := [], alts := [], laidByText := true, laidKinds := [.data, .data, .data, .data, .sentinel, .sentinel, .data, .data, .pinned], laidTests := true, laidLooks := .later }
def HistoryRecordsCardSaid : Prop := Claim7.holds Tryz.pinned (.plain (OpenSpec.ofChange historyRecordsSpec)) historyRecordsCard

/-- THE SECOND FORM's CARD OF 'syngraphlaw18.VersionBest'. -/
def versionBestUptoCard : Claim7 := { stood := { row := versionBestUptoRow, standIns := [], harness := (true, "3ac8d192bad492b6ec59b2c1a3a688153b61decc3d121ff3272b8ef82e08bf34"), looks := true }, kinds := [], alts := [], laidByText := true, laidKinds := [.data, .data, .data, .data, .sentinel, .sentinel, .widerDeep, .pinned], laidTests := true, laidLooks := .later }
def VersionBestUptoCardSaid : Prop := Claim7.holds Tryz.pinned (.plain (OpenSpec.upto versionBestSpec)) versionBestUptoCard

/-- THE SECOND FORM's CARD OF 'syngraphlaw22.HistoryRecords'. -/
def historyRecordsUptoCard : Claim7 := { stood := { row := historyRecordsUptoRow, standIns := [], harness := (true, "3ac8d192bad492b6ec59b2c1a3a688153b61decc3d121ff3272b8ef82e08bf34"), looks := true }, kinds := [], alts := [], laidByText := true, laidKinds := [.data, .data, .data, .data, .sentinel, .sentinel, .data, .data, .pinned], laidTests := true, laidLooks := .later }
def HistoryRecordsUptoCardSaid : Prop := Claim7.holds Tryz.pinned (.plain (OpenSpec.upto historyRecordsSpec)) historyRecordsUptoCard
end Rows
end Go.Proofs.YtmhfanpijdgkjaaGreatDoor
