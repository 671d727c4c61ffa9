/- JOINED: V127 V128 -/
import Derived.Test.YtanhgihfgmbojaaGreatDoorG2
import Derived.Test.YtanhgihfgmbojaaGreatDoorGV
import Derived.Test.YtanhgihfgmbojaaGreatDoorGW
import Derived.Test.YtanhgihfgmbojaaGreatDoorGN
import Derived.Test.YtanhgihfgmbojaaGreatDoorGJ
set_option linter.unusedSimpArgs false
set_option linter.unusedVariables false
/- ManifestFits. -/
namespace Go.Proofs.YtanhgihfgmbojaaGreatDoor
open Go.X Go.X.Diff
set_option maxRecDepth 100000

/- files' cells -/
section
variable {h : Heap} {b o : Nat} {f : MFile}
end

/-- rows of bytes -/
structure BSS (P Q : Nat → Prop) (H : Heap) (v : Value) (xs : List (Value × List UInt8)) : Prop where
  sl : SlE 1 P H v (rows1 (xs.map (·.1)))
  el : ∀ x ∈ xs, Sl Q H x.1 x.2
theorem BSS.keep {P Q S : Nat → Prop} {H H' : Heap} {v : Value} {xs : List (Value × List UInt8)} (h : BSS P Q H v xs) (k : Keep S H H') (h1 : ∀ b, P b → ¬ S b) (h2 : ∀ b, Q b → ¬ S b) : BSS P Q H' v xs :=
  ⟨h.sl.keep k h1, fun x hx => (h.el x hx).keep k h2⟩
theorem BSS.len {P Q : Nat → Prop} {H : Heap} {v : Value} {xs : List (Value × List UInt8)} (h : BSS P Q H v xs) : lenV v = some (.int .i64 xs.length) := by have := h.sl.len; simpa using this
theorem BSS.at {P Q : Nat → Prop} {H : Heap} {v : Value} {xs : List (Value × List UInt8)} (h : BSS P Q H v xs) {i : Nat} {x : Value × List UInt8} (hi : xs[i]? = some x) : Sl Q H x.1 x.2 ∧ ∃ p, (∀ k, ixS 1 v (.int k i) = some p) ∧ ld1 H p = some x.1 := by
  obtain ⟨b, o, hix, hpt, _⟩ := h.sl.at (i := i) (x := [x.1]) (rows1_get (by simp [hi]))
  exact ⟨h.el x (List.mem_of_getElem? hi), Ptr b o, hix, hpt.cell0 rfl⟩

/- what fits -/
end Go.Proofs.YtanhgihfgmbojaaGreatDoor

/- The law's small, and ManifestFits. -/
namespace Go.Proofs.YtanhgihfgmbojaaGreatDoor
open Go.X Go.X.Diff
set_option maxRecDepth 100000

theorem gt_dec {n m : Nat} : binV .no .gtr (.int .i64 (n : Nat)) (.int .i64 (m : Nat)) = some (.bool (decide (n > m))) := by
  rw [binV_int]; simp only [intV]; congr 2; rw [decide_eq_decide]; omega
end Go.Proofs.YtanhgihfgmbojaaGreatDoor

