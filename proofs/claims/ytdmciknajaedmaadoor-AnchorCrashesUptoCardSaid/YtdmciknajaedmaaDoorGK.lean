/- JOINED: V90 -/
import Derived.Test.YtdmciknajaedmaaDoorGY
import Derived.Test.YtdmciknajaedmaaDoorGX
set_option linter.unusedSimpArgs false
set_option linter.unusedVariables false
/- Slices of records that came in. -/
namespace Go.Proofs.YtdmciknajaedmaaDoor.Came
open Go.X
set_option maxRecDepth 100000

theorem maps_rec {w : World} {q : List (List Value)} (h : ∀ x ∈ q, ∃ (a : RecA) (y : Value × Value), RawIn (· < w.heap.size) w.heap a y ∧ x = rawC a y) : ∃ l : List (RecA × Value × Value), q = l.map (fun r => rawC r.1 r.2) ∧ ∀ r ∈ l, RawIn (· < w.heap.size) w.heap r.1 r.2 := by
  induction q with
  | nil => exact ⟨[], rfl, fun y h => by cases h⟩
  | cons x q ih =>
    obtain ⟨l, hy, hw⟩ := ih fun x hx => h x (by simp [hx])
    obtain ⟨a, y, hr, rfl⟩ := h x (by simp)
    exact ⟨(a, y) :: l, by rw [hy]; rfl, fun z hz => by
      rcases List.mem_cons.1 hz with rfl | hz
      · exact hr
      · exact hw z hz⟩
theorem recs_of {w : World} {d : Nat} {v : Value} (h : Shp prg w d T_S_history_Record [v]) : ∃ l : List (RecA × Value × Value), l.length ≤ 9223372036854775807 ∧ Recs (· < w.heap.size) w.heap v l := by
  cases d with
  | zero => exact h.elim
  | succ d =>
    simp only [Shp, u_SRec] at h
    rcases h with h | ⟨a, len, cap, hv, hle, hcap, hel⟩
    · obtain rfl : v = .slice none 0 0 := by simpa using h
      exact ⟨[], by simp, SlE.nil, fun x h => by cases h⟩
    · obtain rfl : v = .slice (some a) len cap := by simpa using hv
      rw [cs_Rec] at hel
      obtain ⟨q, hq, hs, hqi⟩ := sle_of_cells (n := 36) (q := fun cs => ∃ (a : RecA) (y : Value × Value), RawIn (· < w.heap.size) w.heap a y ∧ cs = rawC a y) (by omega) hle (fun cs ⟨a, y, hr, e⟩ c hc => by subst e; exact rawC_one hr c hc) fun i hi => by
        obtain ⟨cs', h1, h2⟩ := hel i hi
        exact ⟨cs', h1, rec_of h2⟩
      obtain ⟨l, rfl, hw⟩ := maps_rec hqi
      refine ⟨l, ?_, hs, hw⟩
      rw [List.length_map] at hq
      have : maxLen = 9223372036854775807 := rfl
      omega
end Go.Proofs.YtdmciknajaedmaaDoor.Came
