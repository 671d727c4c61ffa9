/- JOINED: V105 -/
import Derived.Test.YtdmciknajaedmaaGreatDoorGK
import Derived.Test.YtdmciknajaedmaaGreatDoorG1
set_option linter.unusedSimpArgs false
set_option linter.unusedVariables false
/- Slices of calls that came in. -/
namespace Go.Proofs.YtdmciknajaedmaaGreatDoor.Came
open Go.X
set_option maxRecDepth 100000

theorem u_SOp : prg.underlying T_S_syngraphlaw23_Op = some (.slice T_syngraphlaw23_Op) := by kernel_rfl
theorem f_Op : flds T_syngraphlaw23_Op [(0, T_int), (1, T_sha_Hash), (33, T_history_Record)] = true := by kernel_rfl
theorem cs_Op : prg.cellsOf T_syngraphlaw23_Op = 69 := by kernel_rfl
theorem op_of {w : World} {d : Nat} {cs : List Value} (h : Shp prg w d T_syngraphlaw23_Op cs) : ∃ o : OpA, OpIn (· < w.heap.size) w.heap o ∧ cs = opC o := by
  obtain ⟨d', hl, hfl⟩ := shp_flds f_Op h
  rw [cs_Op] at hl
  have h0 := hfl 0 0 T_int rfl
  have h1 := hfl 1 1 T_sha_Hash rfl
  have h2 := hfl 2 33 T_history_Record rfl
  rw [cs_int] at h0; rw [cs_Hash] at h1; rw [cs_Rec] at h2
  obtain ⟨k, hk, _⟩ := shp_int u_int h0
  obtain ⟨e, he, hu, hc⟩ := u_Hash
  obtain ⟨l, hll, hlc, hlw⟩ := shp_ints he hu hc cs_Hash h1
  obtain ⟨t, ht, htc⟩ := ints_bytes hlw
  obtain ⟨a, x, hr, hx⟩ := rec_of h2
  refine ⟨⟨k, t, a, x⟩, ⟨by show t.length = 32; omega, hr⟩, ?_⟩
  have e33 : (cs.drop 33).take 36 = cs.drop 33 := List.take_of_length_le (by simp; omega)
  rw [e33] at hx
  have p1 : cs.drop 1 = bcells t ++ cs.drop 33 := by
    rw [← htc, ← hlc, show cs.drop 33 = (cs.drop 1).drop 32 by rw [List.drop_drop]]
    exact (List.take_append_drop 32 _).symm
  have p0 : cs = [Value.int .i64 k] ++ cs.drop 1 := by
    rw [List.drop_zero] at hk
    rw [← hk]
    exact (List.take_append_drop 1 _).symm
  rw [p0, p1, hx]; rfl
theorem maps_op {w : World} {q : List (List Value)} (h : ∀ x ∈ q, ∃ o : OpA, OpIn (· < w.heap.size) w.heap o ∧ x = opC o) : ∃ l : List OpA, q = l.map opC ∧ ∀ r ∈ l, OpIn (· < w.heap.size) w.heap r := by
  induction q with
  | nil => exact ⟨[], rfl, fun y h => by cases h⟩
  | cons x q ih =>
    obtain ⟨l, hy, hw⟩ := ih fun x hx => h x (by simp [hx])
    obtain ⟨o, hr, rfl⟩ := h x (by simp)
    exact ⟨o :: l, by rw [hy]; rfl, fun z hz => by
      rcases List.mem_cons.1 hz with rfl | hz
      · exact hr
      · exact hw z hz⟩
theorem ops_of {w : World} {d : Nat} {v : Value} (h : Shp prg w d T_S_syngraphlaw23_Op [v]) : ∃ l : List OpA, l.length ≤ 9223372036854775807 ∧ Ops (· < w.heap.size) w.heap v l := by
  cases d with
  | zero => exact h.elim
  | succ d =>
    simp only [Shp, u_SOp] at h
    rcases h with h | ⟨a, len, cap, hv, hle, hcap, hel⟩
    · obtain rfl : v = .slice none 0 0 := by simpa using h
      exact ⟨[], by simp, SlE.nil, fun x h => by cases h⟩
    · obtain rfl : v = .slice (some a) len cap := by simpa using hv
      rw [cs_Op] at hel
      obtain ⟨q, hq, hs, hqi⟩ := sle_of_cells (n := 69) (q := fun cs => ∃ o : OpA, OpIn (· < w.heap.size) w.heap o ∧ cs = opC o) (by omega) hle (fun cs ⟨o, hr, e⟩ c hc => by subst e; exact opC_one hr c hc) fun i hi => by
        obtain ⟨cs', h1, h2⟩ := hel i hi
        exact ⟨cs', h1, op_of h2⟩
      obtain ⟨l, rfl, hw⟩ := maps_op hqi
      refine ⟨l, ?_, hs, hw⟩
      rw [List.length_map] at hq
      have : maxLen = 9223372036854775807 := rfl
      omega
end Go.Proofs.YtdmciknajaedmaaGreatDoor.Came
