/- JOINED: V193 -/
import Derived.Test.YtanhgihfgmbojaaGreatDoorG21
import Derived.Test.YtanhgihfgmbojaaGreatDoorG6
import Derived.Test.YtanhgihfgmbojaaGreatDoorG7
import Derived.Test.YtanhgihfgmbojaaGreatDoorGX
set_option linter.unusedSimpArgs false
set_option linter.unusedVariables false
/- law 20: sorted. -/
namespace Go.Proofs.YtanhgihfgmbojaaGreatDoor
open Go.X Go.X.Diff
set_option maxRecDepth 100000
set_option linter.unusedSimpArgs false
set_option linter.unusedVariables false

theorem Rise.put {hv : List Man} {A B : List Nat} {x : Nat} (h : Rise hv (A ++ B)) (h1 : ∀ a ∈ A, cmpB (gM hv a).name (gM hv x).name < 0) (h2 : ∀ b ∈ B, cmpB (gM hv x).name (gM hv b).name < 0) : Rise hv (A ++ x :: B) := by
  obtain ⟨p1, p2, p3⟩ := List.pairwise_append.1 h
  refine List.pairwise_append.2 ⟨p1, List.pairwise_cons.2 ⟨h2, p2⟩, fun a ha b hb => ?_⟩
  rcases List.mem_cons.1 hb with rfl | hb
  · exact h1 a ha
  · exact p3 a ha b hb
end Go.Proofs.YtanhgihfgmbojaaGreatDoor

