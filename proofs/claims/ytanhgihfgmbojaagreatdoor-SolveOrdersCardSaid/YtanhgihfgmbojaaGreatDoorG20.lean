/- JOINED: V185 -/
import Derived.Test.YtanhgihfgmbojaaGreatDoorG19
import Derived.Test.YtanhgihfgmbojaaGreatDoorG8
import Derived.MapKept
set_option linter.unusedSimpArgs false
set_option linter.unusedVariables false
/- law 20: SolveChoices. -/
namespace Go.Proofs.YtanhgihfgmbojaaGreatDoor
open Go.X Go.X.Diff Go.MapKept
set_option maxRecDepth 100000
set_option linter.unusedSimpArgs false
set_option linter.unusedVariables false

def SetAt (h : Heap) (q : Nat) (l : List Int) : Prop := ∃ es, MapAt h q es ∧ (∀ x ∈ es, ∃ n : Int, x = (.int .i64 n, .bool true)) ∧ ∀ n : Int, ((Value.int .i64 n, Value.bool true) ∈ es ↔ n ∈ l)
theorem SetAt.keep {H H' : Heap} {q : Nat} {l : List Int} {S : Nat → Prop} (h : SetAt H q l) (k : Keep S H H') (hs : ¬ S q) : SetAt H' q l := by
  obtain ⟨es, h1, h2⟩ := h
  exact ⟨es, h1.keep k hs, h2⟩
theorem SetAt.keys {es : List (Value × Value)} (h : ∀ x ∈ es, ∃ n : Int, x = (.int .i64 n, .bool true)) : ∀ x ∈ es, IsKey (.int .i64) x.1 := fun x hx => by
  obtain ⟨n, rfl⟩ := h x hx
  exact rfl
end Go.Proofs.YtanhgihfgmbojaaGreatDoor

