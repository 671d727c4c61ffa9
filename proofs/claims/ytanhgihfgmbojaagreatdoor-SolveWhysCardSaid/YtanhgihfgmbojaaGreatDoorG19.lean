/- JOINED: V184 -/
import Derived.Test.YtanhgihfgmbojaaGreatDoorG17
set_option linter.unusedSimpArgs false
set_option linter.unusedVariables false
/- solve: Needed. -/
namespace Go.Proofs.YtanhgihfgmbojaaGreatDoor
open Go.X Go.X.Diff
set_option maxRecDepth 100000
set_option linter.unusedSimpArgs false
set_option linter.unusedVariables false

theorem _root_.Go.X.BufE.rest {n : Nat} {F : Nat → Prop} {H : Heap} {v : Value} {x : List Value} {xs : List (List Value)} (h : BufE n F H v (x :: xs)) : ∃ u, slS n v (some (.int .i64 1)) none none = some u ∧ BufE n F H u xs := by
  obtain ⟨h1, h2, h | ⟨b, o, c, cs, T, f, rfl, hf, hc, hb, hle, ht, hl⟩⟩ := h
  · obtain ⟨rfl, he⟩ := h; cases he
  · rw [List.length_cons] at hc hl
    have hbn : bnds (xs.length + 1) c (some (.int .i64 1)) none none = some (1, xs.length + 1, c) := by
      simp only [bnds, bnd, Option.bind_some]
      rw [if_pos (by omega)]; rfl
    have e1 : ∀ y ∈ xs, y.length = n := fun y hy => h1 y (List.mem_cons_of_mem _ hy)
    have ex : x.length = n := h1 x (by simp)
    refine ⟨.slice (some ⟨b, if c = 1 then o else o + 1 * n, none⟩) xs.length (c - 1), by simp [slS, hbn], e1, fun y hy => h2 y (List.mem_cons_of_mem _ hy), .inr ⟨b, _, c - 1, cs, T, f, rfl, hf, by omega, hb, ?_, ht, ?_⟩⟩
    · split
      · rename_i e; subst e; simp; omega
      · rename_i e
        obtain ⟨m, rfl⟩ : ∃ m, c = m + 1 := ⟨c - 1, by omega⟩
        rw [Nat.add_mul] at hle
        simp only [Nat.add_sub_cancel]
        omega
    · split
      · rename_i e
        have : xs = [] := List.length_eq_zero_iff.1 (by omega)
        subst this; simp
      · rw [Nat.one_mul, ← List.drop_drop]
        have := congrArg (List.drop n) hl
        have e2 : List.drop n (x ++ xs.flatten) = xs.flatten := by rw [← ex, List.drop_left]
        rw [List.drop_take, List.flatten_cons, e2] at this
        rw [← this]
        congr 1
        rw [Nat.add_mul]; omega
end Go.Proofs.YtanhgihfgmbojaaGreatDoor

