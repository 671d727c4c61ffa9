/- JOINED: V176 -/
import Derived.Test.YtanhgihfgmbojaaGreatDoorG11
set_option linter.unusedSimpArgs false
set_option linter.unusedVariables false
/- law 20: SolveBounds. -/
namespace Go.Proofs.YtanhgihfgmbojaaGreatDoor
open Go.X Go.X.Diff
set_option maxRecDepth 100000
set_option linter.unusedSimpArgs false
set_option linter.unusedVariables false

/-- a search's answer, whatever it is -/
def resC : Res → Int
  | .ok _ => 0
  | .fail => 40
  | .over => 42
def resL (hv : List Man) : Res → List Nat
  | .ok l => sortedF hv l
  | .fail => []
  | .over => []
theorem SolR.open {hv : List Man} {wants : List Dep} {bd : Nat} {H H' : Heap} {u : Value} (h : SolR hv wants bd H H' u) : ∃ r s v, Run hv bd (.sol [] wants) 0 r s ∧ u = .tuple #[v, .int .i64 (s : Nat), .int .i64 (resC r)] ∧ SlE 1 (fun b => H.size ≤ b ∧ b < H'.size) H' v (ints (zs (resL hv r))) ∧ ∀ l, r = .ok l → Names hv l := by
  obtain ⟨r, s, hr, hu⟩ := h
  cases r with
  | ok l =>
    obtain ⟨hN, v, rfl, hb⟩ := hu
    exact ⟨.ok l, s, v, hr, rfl, hb.sl, fun l' e => by cases e; exact hN⟩
  | fail =>
    subst hu
    exact ⟨.fail, s, _, hr, rfl, SlE.nil, fun l' e => by cases e⟩
  | over =>
    subst hu
    exact ⟨.over, s, _, hr, rfl, SlE.nil, fun l' e => by cases e⟩
end Go.Proofs.YtanhgihfgmbojaaGreatDoor

