/- JOINED: V180 -/
import Derived.Test.YtanhgihfgmbojaaGreatDoorG14
import Derived.Test.YtanhgihfgmbojaaGreatDoorG7
import Derived.Test.YtanhgihfgmbojaaGreatDoorGX
set_option linter.unusedSimpArgs false
set_option linter.unusedVariables false
/- ref 20: newest. -/
namespace Go.Proofs.YtanhgihfgmbojaaGreatDoor
open Go.X Go.X.Diff
set_option maxRecDepth 100000
set_option linter.unusedSimpArgs false
set_option linter.unusedVariables false

theorem PksV.at {Q : Nat → Prop} {H : Heap} {v : Value} {pk : List PK} {hv : List Man} (h : PksV Q H v pk) (he : pk.map (·.1) = hv) {k : Nat} (hk : k < hv.length) : ∃ x, pk[k]? = some x ∧ gM hv k = x.1 ∧ x ∈ pk ∧ PkV Q H x ∧ ∃ b o, (∀ q, ixS 7 v (.int q k) = some (Ptr b o)) ∧ Pt H b o (pkgC x) := by
  have hl : pk.length = hv.length := by rw [← he]; simp
  have hg : pk[k]? = some pk[k] := List.getElem?_eq_getElem (by omega)
  have hm : pk[k] ∈ pk := List.getElem_mem (by omega)
  generalize pk[k] = x at *
  obtain ⟨b, o, h1, h2, _⟩ := h.s.at (i := k) (x := pkgC x) (by rw [List.getElem?_map, hg]; rfl)
  exact ⟨x, hg, getD_at (by rw [← he, List.getElem?_map, hg]; rfl), hm, h.m x hm, b, o, h1, h2⟩
end Go.Proofs.YtanhgihfgmbojaaGreatDoor

