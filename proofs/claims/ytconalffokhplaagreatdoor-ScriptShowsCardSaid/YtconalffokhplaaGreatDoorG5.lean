/- JOINED: V129 -/
import Derived.Test.YtconalffokhplaaGreatDoorG4
import Derived.Test.YtconalffokhplaaGreatDoorGM
set_option linter.unusedSimpArgs false
set_option linter.unusedVariables false
/- What rows give: manifests, rows of bytes; the tables and a world for ManifestFits. -/
namespace Go.Proofs.YtconalffokhplaaGreatDoor.Came
open Go.X
set_option maxRecDepth 100000

theorem cs_int : prg.cellsOf T_int = 1 := by kernel_rfl
/- bytes -/
theorem u_SU8' : prg.underlying T_S_uint8 = some (.slice T_uint8) := by kernel_rfl
theorem u_U8' : prg.underlying T_uint8 = some (.int .u8) := by kernel_rfl
theorem cs_U8' : prg.cellsOf T_uint8 = 1 := by kernel_rfl
theorem bmaps_of' {q : List (List Value)} (h : ∀ x ∈ q, ∃ y : UInt8, x = [.int .u8 y.toNat]) : ∃ l : List UInt8, q = l.map fun y => [Value.int .u8 y.toNat] := by
  induction q with
  | nil => exact ⟨[], rfl⟩
  | cons x q ih =>
    obtain ⟨l, hl⟩ := ih fun x hx => h x (by simp [hx])
    obtain ⟨y, rfl⟩ := h x (by simp)
    exact ⟨y :: l, by rw [hl]; rfl⟩
theorem flat_one' : ∀ l : List UInt8, (l.map fun y => [Value.int .u8 y.toNat]).flatten = bcells l
  | [] => rfl
  | x :: l => by rw [List.map_cons, List.flatten_cons, flat_one' l]; rfl
theorem sl_of {w : World} {d : Nat} {cs : List Value} (hl : cs.length = 1) (h : Shp prg w d T_S_uint8 cs) : ∃ v, cs = [v] ∧ ∃ l : List UInt8, l.length ≤ 9223372036854775807 ∧ Sl (· < w.heap.size) w.heap v l := by
  match cs, hl with
  | [v], _ =>
    refine ⟨v, rfl, ?_⟩
    cases d with
    | zero => exact h.elim
    | succ d =>
      simp only [Shp, u_SU8'] at h
      rcases h with h | ⟨a, len, cap, hv, hle, hcap, hel⟩
      · obtain rfl : v = .slice none 0 0 := by simpa using h
        exact ⟨[], by simp, Sl.nil⟩
      · obtain rfl : v = .slice (some a) len cap := by simpa using hv
        rw [cs_U8'] at hel
        have h1c : ∀ cs : List Value, (∃ y : UInt8, cs = [.int .u8 y.toNat]) → ∀ c ∈ cs, c.oneCell' = true := by
          rintro _ ⟨y, rfl⟩ c hc
          obtain rfl : c = _ := by simpa using hc
          rfl
        obtain ⟨q, hq, hs, hqi⟩ := sle_of_cells (n := 1) (q := fun cs => ∃ y : UInt8, cs = [.int .u8 y.toNat]) (by omega) hle h1c fun i hi => by
          obtain ⟨cs', h1, h2⟩ := hel i hi
          obtain ⟨n, hn, hw⟩ := Go.X.shp_int u_U8' h2
          refine ⟨cs', h1, UInt8.ofNat n.toNat, ?_⟩
          rw [hn]
          have : 0 ≤ n ∧ n ≤ 255 := by
            simp only [Lit.wf, IntKind.min, IntKind.max, IntKind.signed, IntKind.bits] at hw
            simp at hw
            omega
          have e : (((UInt8.ofNat n.toNat).toNat : Nat) : Int) = n := by rw [UInt8.toNat_ofNat']; omega
          rw [e]
        obtain ⟨l, rfl⟩ := bmaps_of' hqi
        rw [List.length_map] at hq
        have hm : maxLen = 9223372036854775807 := rfl
        obtain ⟨⟨a', c', he, hc, hx⟩, _, _⟩ := hs
        rw [List.length_map] at he
        cases he
        rcases hx with hx | ⟨b, o, e, hb', ⟨cs, T, f, hb, h1, h2⟩⟩
        · have : l = [] := by simpa using hx
          subst this
          exact ⟨[], by simp, Bs_nil, ⟨some a, cap, rfl, Nat.zero_le _, fun _ _ => rfl⟩, fun b hb => absurd rfl (blk_slice hb).2⟩
        · cases e
          have hfl := flat_one' l
          rw [hfl] at h1 h2
          have hbl : (bcells l).length = l.length := by simp [bcells]
          exact ⟨l, by omega, Bs.mk hb rfl (by omega) (by rw [← hbl]; exact h2), ⟨_, cap, rfl, by omega, fun _ _ => rfl⟩, fun b2 hb2 => by obtain ⟨rfl, _⟩ := blk_slice hb2; exact hb'⟩
end Go.Proofs.YtconalffokhplaaGreatDoor.Came

