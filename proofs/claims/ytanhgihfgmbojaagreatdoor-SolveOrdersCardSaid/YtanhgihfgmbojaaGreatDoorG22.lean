/- JOINED: V187 -/
import Derived.Test.YtanhgihfgmbojaaGreatDoorG13
set_option linter.unusedSimpArgs false
set_option linter.unusedVariables false
/- What rows give: slices of ints. -/
namespace Go.Proofs.YtanhgihfgmbojaaGreatDoor.Came
open Go.X
set_option maxRecDepth 100000

theorem u_SInt : prg.underlying T_S_int = some (.slice T_int) := by kernel_rfl
abbrev IntsIn (P : Nat → Prop) (H : Heap) (v : Value) (xs : List Int) : Prop := SlE 1 P H v (ints xs)
theorem maps_intN {q : List (List Value)} (h : ∀ x ∈ q, ∃ n : Int, x = [.int .i64 n]) : ∃ l : List Int, q = ints l := by
  induction q with
  | nil => exact ⟨[], rfl⟩
  | cons x q ih =>
    obtain ⟨ys, hy⟩ := ih fun x hx => h x (by simp [hx])
    obtain ⟨y, rfl⟩ := h x (by simp)
    exact ⟨y :: ys, by rw [hy]; rfl⟩
theorem intsl_of {w : World} {d : Nat} {v : Value} (h : Shp prg w d T_S_int [v]) : ∃ xs : List Int, xs.length ≤ 9223372036854775807 ∧ IntsIn (· < w.heap.size) w.heap v xs := by
  cases d with
  | zero => exact h.elim
  | succ d =>
    simp only [Shp, u_SInt] at h
    rcases h with h | ⟨a, len, cap, hv, hle, hcap, hel⟩
    · obtain rfl : v = .slice none 0 0 := by simpa using h
      exact ⟨[], by simp, SlE.nil⟩
    · obtain rfl : v = .slice (some a) len cap := by simpa using hv
      rw [cs_int] at hel
      obtain ⟨q, hq, hs, hqi⟩ := sle_of_cells (n := 1) (q := fun cs => ∃ n : Int, cs = [.int .i64 n]) (by omega) hle (fun cs ⟨y, e⟩ c hc => by subst e; simp at hc; subst hc; rfl) fun i hi => by
        obtain ⟨cs', h1, h2⟩ := hel i hi
        obtain ⟨n, hn, _⟩ := shp_int u_int h2
        exact ⟨cs', h1, n, hn⟩
      obtain ⟨ys, rfl⟩ := maps_intN hqi
      have hm : maxLen = 9223372036854775807 := rfl
      rw [ints_len] at hq
      exact ⟨ys, by omega, hs⟩
end Go.Proofs.YtanhgihfgmbojaaGreatDoor.Came

