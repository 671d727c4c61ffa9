/- JOINED: V21t -/
import Derived.Test.YtanhgihfgmbojaaGreatDoorGJ
import Derived.Test.YtanhgihfgmbojaaGreatDoorGU
import Derived.Test.YtanhgihfgmbojaaGreatDoorGI
set_option linter.unusedSimpArgs false
set_option linter.unusedVariables false
/- HistoryDiffs: is what comes in small? -/
namespace Go.Proofs.YtanhgihfgmbojaaGreatDoor
open Go.X Go.X.Diff
set_option maxRecDepth 100000

theorem Items.slice {P : Nat → Prop} {H : Heap} {v : Value} {xs : List Item} (h : Items P H v xs) : ∃ a c, v = .slice a xs.length c := by
  obtain ⟨⟨⟨a, c, rfl, _⟩, _⟩, _⟩ := h; exact ⟨a, c, by simp⟩
end Go.Proofs.YtanhgihfgmbojaaGreatDoor

