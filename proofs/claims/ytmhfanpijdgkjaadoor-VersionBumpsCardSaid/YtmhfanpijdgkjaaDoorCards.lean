/-
  DERIVED. GIVEN WITH THE SEED: THE CARDS: each row of YtmhfanpijdgkjaaDoorRows.lean that lists a variable, with what it lists TIED to the program's text (the seventh form; the later family's looks); each row that meets fmt, with fmt's text TOLD by the authors' own Lean function (tested against real Go, not proved from fmt's source: count such statements apart). THE CARD IS WHAT COUNTS. Prove the row's statement (the work); the ties are given (YtmhfanpijdgkjaaDoorTie.lean); close each card by the builder's one call (the guide's Derived/Test/ToyasCard.lean, 'card_holds'). Laid BY PROGRAM, IN A SANDBOX (cutbox-door.mjs). By AI agents, Wed Nov 11 2026. No macro, syntax, notation, axiom, sorry.
-/
import Derived.Test.YtmhfanpijdgkjaaDoorRows
import GoSem.ClaimSeven
namespace Go.Proofs.YtmhfanpijdgkjaaDoor
namespace Rows

/-- THE TIED CARD OF 'syngraphlaw22.HistoryHeads'. -/
def historyHeadsCard : Claim7 := { stood := { row := historyHeadsRow, standIns := [], harness := (true, "b7e703086a6eedacbb56b8ce3c9adbc927efddddb031bbe26ae1f84339cab47e"), looks := true }, kinds := [], alts := [], laidByText := true, laidKinds := [.data, .data, .data, .data, .data, .data, .pinned], laidTests := true, laidLooks := .later }
def HistoryHeadsCardSaid : Prop := Claim7.holds Tryd.pinned (.plain (OpenSpec.ofChange historyHeadsSpec)) historyHeadsCard

/-- THE TIED CARD OF 'syngraphlaw22.HistoryDiffs'. -/
def historyDiffsCard : Claim7 := { stood := { row := historyDiffsRow, standIns := [], harness := (true, "b7e703086a6eedacbb56b8ce3c9adbc927efddddb031bbe26ae1f84339cab47e"), looks := true }, kinds := [], alts := [], laidByText := true, laidKinds := [.data, .data, .data, .data, .data, .data, .pinned], laidTests := true, laidLooks := .later }
def HistoryDiffsCardSaid : Prop := Claim7.holds Tryd.pinned (.plain (OpenSpec.ofChange historyDiffsSpec)) historyDiffsCard

/-- THE TIED CARD OF 'syngraphlaw22.HistoryFinds'. -/
def historyFindsCard : Claim7 := { stood := { row := historyFindsRow, standIns := [], harness := (true, "b7e703086a6eedacbb56b8ce3c9adbc927efddddb031bbe26ae1f84339cab47e"), looks := true }, kinds := [], alts := [], laidByText := true, laidKinds := [.data, .data, .data, .data, .data, .data, .pinned], laidTests := true, laidLooks := .later }
def HistoryFindsCardSaid : Prop := Claim7.holds Tryd.pinned (.plain (OpenSpec.ofChange historyFindsSpec)) historyFindsCard

/-- THE TIED CARD OF 'syngraphlaw22.HistoryCollides'. -/
def historyCollidesCard : Claim7 := { stood := { row := historyCollidesRow, standIns := [], harness := (true, "b7e703086a6eedacbb56b8ce3c9adbc927efddddb031bbe26ae1f84339cab47e"), looks := true }, kinds := [], alts := [], laidByText := true, laidKinds := [.data, .data, .data, .data, .data, .data, .pinned], laidTests := true, laidLooks := .later }
def HistoryCollidesCardSaid : Prop := Claim7.holds Tryd.pinned (.plain (OpenSpec.ofChange historyCollidesSpec)) historyCollidesCard

/-- THE TIED CARD OF 'syngraphlaw18.VersionOrders'. -/
def versionOrdersCard : Claim7 := { stood := { row := versionOrdersRow, standIns := [], harness := (true, "b7e703086a6eedacbb56b8ce3c9adbc927efddddb031bbe26ae1f84339cab47e"), looks := true }, kinds := [], alts := [], laidByText := true, laidKinds := [.data, .data, .data, .data, .sentinel, .sentinel, .widerDeep, .pinned], laidTests := true, laidLooks := .later }
def VersionOrdersCardSaid : Prop := Claim7.holds Tryd.pinned (.plain (OpenSpec.ofChange versionOrdersSpec)) versionOrdersCard

/-- THE TIED CARD OF 'syngraphlaw18.VersionShows'. -/
def versionShowsCard : Claim7 := { stood := { row := versionShowsRow, standIns := [], harness := (true, "b7e703086a6eedacbb56b8ce3c9adbc927efddddb031bbe26ae1f84339cab47e"), looks := true }, kinds := [], alts := [], laidByText := true, laidKinds := [.data, .data, .data, .data, .sentinel, .sentinel, .widerDeep, .pinned], laidTests := true, laidLooks := .later }
def VersionShowsCardSaid : Prop := Claim7.holds Tryd.pinned (.plain (OpenSpec.ofChange versionShowsSpec)) versionShowsCard

/-- THE TIED CARD OF 'syngraphlaw18.VersionParses'. -/
def versionParsesCard : Claim7 := { stood := { row := versionParsesRow, standIns := [], harness := (true, "b7e703086a6eedacbb56b8ce3c9adbc927efddddb031bbe26ae1f84339cab47e"), looks := true }, kinds := [], alts := [], laidByText := true, laidKinds := [.data, .data, .data, .data, .sentinel, .sentinel, .widerDeep, .pinned], laidTests := true, laidLooks := .later }
def VersionParsesCardSaid : Prop := Claim7.holds Tryd.pinned (.plain (OpenSpec.ofChange versionParsesSpec)) versionParsesCard

/-- THE TIED CARD OF 'syngraphlaw18.VersionFits'. -/
def versionFitsCard : Claim7 := { stood := { row := versionFitsRow, standIns := [], harness := (true, "b7e703086a6eedacbb56b8ce3c9adbc927efddddb031bbe26ae1f84339cab47e"), looks := true }, kinds := [], alts := [], laidByText := true, laidKinds := [.data, .data, .data, .data, .sentinel, .sentinel, .widerDeep, .pinned], laidTests := true, laidLooks := .later }
def VersionFitsCardSaid : Prop := Claim7.holds Tryd.pinned (.plain (OpenSpec.ofChange versionFitsSpec)) versionFitsCard

/-- THE TIED CARD OF 'syngraphlaw18.VersionChains'. -/
def versionChainsCard : Claim7 := { stood := { row := versionChainsRow, standIns := [], harness := (true, "b7e703086a6eedacbb56b8ce3c9adbc927efddddb031bbe26ae1f84339cab47e"), looks := true }, kinds := [], alts := [], laidByText := true, laidKinds := [.data, .data, .data, .data, .sentinel, .sentinel, .widerDeep, .pinned], laidTests := true, laidLooks := .later }
def VersionChainsCardSaid : Prop := Claim7.holds Tryd.pinned (.plain (OpenSpec.ofChange versionChainsSpec)) versionChainsCard

/-- THE TIED CARD OF 'syngraphlaw18.VersionBumps'. -/
def versionBumpsCard : Claim7 := { stood := { row := versionBumpsRow, standIns := [], harness := (true, "b7e703086a6eedacbb56b8ce3c9adbc927efddddb031bbe26ae1f84339cab47e"), looks := true }, kinds := [], alts := [], laidByText := true, laidKinds := [.data, .data, .data, .data, .sentinel, .sentinel, .widerDeep, .pinned], laidTests := true, laidLooks := .later }
def VersionBumpsCardSaid : Prop := Claim7.holds Tryd.pinned (.plain (OpenSpec.ofChange versionBumpsSpec)) versionBumpsCard

/-- THE SECOND FORM's CARD OF 'syngraphlaw22.HistoryHeads'. -/
def historyHeadsUptoCard : Claim7 := { stood := { row := historyHeadsUptoRow, standIns := [], harness := (true, "b7e703086a6eedacbb56b8ce3c9adbc927efddddb031bbe26ae1f84339cab47e"), looks := true }, kinds := [], alts := [], laidByText := true, laidKinds := [.data, .data, .data, .data, .data, .data, .pinned], laidTests := true, laidLooks := .later }
def HistoryHeadsUptoCardSaid : Prop := Claim7.holds Tryd.pinned (.plain (OpenSpec.upto historyHeadsSpec)) historyHeadsUptoCard

/-- THE SECOND FORM's CARD OF 'syngraphlaw22.HistoryDiffs'. -/
def historyDiffsUptoCard : Claim7 := { stood := { row := historyDiffsUptoRow, standIns := [], harness := (true, "b7e703086a6eedacbb56b8ce3c9adbc927efddddb031bbe26ae1f84339cab47e"), looks := true }, kinds := [], alts := [], laidByText := true, laidKinds := [.data, .data, .data, .data, .data, .data, .pinned], laidTests := true, laidLooks := .later }
def HistoryDiffsUptoCardSaid : Prop := Claim7.holds Tryd.pinned (.plain (OpenSpec.upto historyDiffsSpec)) historyDiffsUptoCard

/-- THE SECOND FORM's CARD OF 'syngraphlaw22.HistoryFinds'. -/
def historyFindsUptoCard : Claim7 := { stood := { row := historyFindsUptoRow, standIns := [], harness := (true, "b7e703086a6eedacbb56b8ce3c9adbc927efddddb031bbe26ae1f84339cab47e"), looks := true }, kinds := [], alts := [], laidByText := true, laidKinds := [.data, .data, .data, .data, .data, .data, .pinned], laidTests := true, laidLooks := .later }
def HistoryFindsUptoCardSaid : Prop := Claim7.holds Tryd.pinned (.plain (OpenSpec.upto historyFindsSpec)) historyFindsUptoCard

/-- THE SECOND FORM's CARD OF 'syngraphlaw22.HistoryCollides'. -/
def historyCollidesUptoCard : Claim7 := { stood := { row := historyCollidesUptoRow, standIns := [], harness := (true, "b7e703086a6eedacbb56b8ce3c9adbc927efddddb031bbe26ae1f84339cab47e"), looks := true }, kinds := [], alts := [], laidByText := true, laidKinds := [.data, .data, .data, .data, .data, .data, .pinned], laidTests := true, laidLooks := .later }
def HistoryCollidesUptoCardSaid : Prop := Claim7.holds Tryd.pinned (.plain (OpenSpec.upto historyCollidesSpec)) historyCollidesUptoCard

/-- THE SECOND FORM's CARD OF 'syngraphlaw18.VersionOrders'. -/
def versionOrdersUptoCard : Claim7 := { stood := { row := versionOrdersUptoRow, standIns := [], harness := (true, "b7e703086a6eedacbb56b8ce3c9adbc927efddddb031bbe26ae1f84339cab47e"), looks := true }, kinds := [], alts := [], laidByText := true, laidKinds := [.data, .data, .data, .data, .sentinel, .sentinel, .widerDeep, .pinned], laidTests := true, laidLooks := .later }
def VersionOrdersUptoCardSaid : Prop := Claim7.holds Tryd.pinned (.plain (OpenSpec.upto versionOrdersSpec)) versionOrdersUptoCard

/-- THE SECOND FORM's CARD OF 'syngraphlaw18.VersionShows'. -/
def versionShowsUptoCard : Claim7 := { stood := { row := versionShowsUptoRow, standIns := [], harness := (true, "b7e703086a6eedacbb56b8ce3c9adbc927efddddb031bbe26ae1f84339cab47e"), looks := true }, kinds := [], alts := [], laidByText := true, laidKinds := [.data, .data, .data, .data, .sentinel, .sentinel, .widerDeep, .pinned], laidTests := true, laidLooks := .later }
def VersionShowsUptoCardSaid : Prop := Claim7.holds Tryd.pinned (.plain (OpenSpec.upto versionShowsSpec)) versionShowsUptoCard

/-- THE SECOND FORM's CARD OF 'syngraphlaw18.VersionParses'. -/
def versionParsesUptoCard : Claim7 := { stood := { row := versionParsesUptoRow, standIns := [], harness := (true, "b7e703086a6eedacbb56b8ce3c9adbc927efddddb031bbe26ae1f84339cab47e"), looks := true }, kinds := [], alts := [], laidByText := true, laidKinds := [.data, .data, .data, .data, .sentinel, .sentinel, .widerDeep, .pinned], laidTests := true, laidLooks := .later }
def VersionParsesUptoCardSaid : Prop := Claim7.holds Tryd.pinned (.plain (OpenSpec.upto versionParsesSpec)) versionParsesUptoCard

/-- THE SECOND FORM's CARD OF 'syngraphlaw18.VersionFits'. -/
def versionFitsUptoCard : Claim7 := { stood := { row := versionFitsUptoRow, standIns := [], harness := (true, "b7e703086a6eedacbb56b8ce3c9adbc927efddddb031bbe26ae1f84339cab47e"), looks := true }, kinds := [], alts := [], laidByText := true, laidKinds := [.data, .data, .data, .data, .sentinel, .sentinel, .widerDeep, .pinned], laidTests := true, laidLooks := .later }
def VersionFitsUptoCardSaid : Prop := Claim7.holds Tryd.pinned (.plain (OpenSpec.upto versionFitsSpec)) versionFitsUptoCard

/-- THE SECOND FORM's CARD OF 'syngraphlaw18.VersionChains'. -/
def versionChainsUptoCard : Claim7 := { stood := { row := versionChainsUptoRow, standIns := [], harness := (true, "b7e703086a6eedacbb56b8ce3c9adbc927efddddb031bbe26ae1f84339cab47e"), looks := true }, kinds := [], alts := [], laidByText := true, laidKinds := [.data, .data, .data, .data, .sentinel, .sentinel, .widerDeep, .pinned], laidTests := true, laidLooks := .later }
def VersionChainsUptoCardSaid : Prop := Claim7.holds Tryd.pinned (.plain (OpenSpec.upto versionChainsSpec)) versionChainsUptoCard

/-- THE SECOND FORM's CARD OF 'syngraphlaw18.VersionBumps'. -/
def versionBumpsUptoCard : Claim7 := { stood := { row := versionBumpsUptoRow, standIns := [], harness := (true, "b7e703086a6eedacbb56b8ce3c9adbc927efddddb031bbe26ae1f84339cab47e"), looks := true }, kinds := [], alts := [], laidByText := true, laidKinds := [.data, .data, .data, .data, .sentinel, .sentinel, .widerDeep, .pinned], laidTests := true, laidLooks := .later }
def VersionBumpsUptoCardSaid : Prop := Claim7.holds Tryd.pinned (.plain (OpenSpec.upto versionBumpsSpec)) versionBumpsUptoCard
end Rows
end Go.Proofs.YtmhfanpijdgkjaaDoor
