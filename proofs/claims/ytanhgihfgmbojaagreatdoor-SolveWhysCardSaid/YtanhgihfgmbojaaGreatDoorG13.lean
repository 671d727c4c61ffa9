/- JOINED: V177 -/
import Derived.Test.YtanhgihfgmbojaaGreatDoorG11
import Derived.Test.YtanhgihfgmbojaaGreatDoorG5
set_option linter.unusedSimpArgs false
set_option linter.unusedVariables false
/- What rows give: problems; a world for the laws of layer 20. -/
namespace Go.Proofs.YtanhgihfgmbojaaGreatDoor.Came
open Go.X
set_option maxRecDepth 100000

theorem maps_man {w : World} {q : List (List Value)} (h : ∀ x ∈ q, ∃ (m : Man) (vd vc vf : Value), ManV (· < w.heap.size) w.heap m vd vc vf ∧ x = manC m vd vc vf) : ∃ mv : List MV, q = mv.map mvC ∧ ∀ x ∈ mv, ManV (· < w.heap.size) w.heap x.1 x.2.1 x.2.2.1 x.2.2.2 := by
  induction q with
  | nil => exact ⟨[], rfl, fun y h => by cases h⟩
  | cons x q ih =>
    obtain ⟨ys, hy, hw⟩ := ih fun x hx => h x (by simp [hx])
    obtain ⟨m, vd, vc, vf, yw, rfl⟩ := h x (by simp)
    exact ⟨(m, vd, vc, vf) :: ys, by rw [hy]; rfl, fun z hz => by
      rcases List.mem_cons.1 hz with rfl | hz
      · exact yw
      · exact hw z hz⟩
theorem u_SMan : prg.underlying T_S_manifest_Manifest = some (.slice T_manifest_Manifest) := by kernel_rfl
theorem cs_SMan : prg.cellsOf T_S_manifest_Manifest = 1 := by kernel_rfl
theorem men_of {w : World} {d : Nat} {cs : List Value} (hl : cs.length = 1) (h : Shp prg w d T_S_manifest_Manifest cs) : ∃ v, cs = [v] ∧ ∃ mv : List MV, mv.length ≤ 9223372036854775807 ∧ SlE 8 (· < w.heap.size) w.heap v (mv.map mvC) ∧ ∀ x ∈ mv, ManV (· < w.heap.size) w.heap x.1 x.2.1 x.2.2.1 x.2.2.2 := by
  match cs, hl with
  | [v], _ =>
    refine ⟨v, rfl, ?_⟩
    cases d with
    | zero => exact h.elim
    | succ d =>
      simp only [Shp, u_SMan] at h
      rcases h with h | ⟨a, len, cap, hv, hle, hcap, hel⟩
      · obtain rfl : v = .slice none 0 0 := by simpa using h
        exact ⟨[], by simp, SlE.nil, fun x h => by cases h⟩
      · obtain rfl : v = .slice (some a) len cap := by simpa using hv
        rw [cs_Man] at hel
        obtain ⟨q, hq, hs, hqi⟩ := sle_of_cells (n := 8) (q := fun cs => ∃ (m : Man) (vd vc vf : Value), ManV (· < w.heap.size) w.heap m vd vc vf ∧ cs = manC m vd vc vf) (by omega) hle (fun cs ⟨m, vd, vc, vf, hm, e⟩ c hc => by subst e; exact hm.one c hc) fun i hi => by
          obtain ⟨cs', h1, h2⟩ := hel i hi
          exact ⟨cs', h1, man_of h2⟩
        obtain ⟨mv, rfl, hw⟩ := maps_man hqi
        have hm : maxLen = 9223372036854775807 := rfl
        rw [List.length_map] at hq
        exact ⟨mv, by omega, hs, hw⟩
theorem f_Prb : flds T_solve_Problem [(0, T_S_manifest_Manifest), (1, T_S_manifest_Dep), (2, T_int)] = true := by kernel_rfl
theorem cs_Prb : prg.cellsOf T_solve_Problem = 3 := by kernel_rfl
theorem prob_of {w : World} {d : Nat} {cs : List Value} (h : Shp prg w d T_solve_Problem cs) : ∃ (mv : List MV) (wants : List Dep) (vh vw : Value) (b : Int), Prb0 (· < w.heap.size) w.heap mv wants vh vw ∧ cs = prbC vh vw b := by
  obtain ⟨d', hl, hfl⟩ := shp_flds f_Prb h
  rw [cs_Prb] at hl
  have h0 := hfl 0 0 T_S_manifest_Manifest rfl
  have h1 := hfl 1 1 T_S_manifest_Dep rfl
  have h2 := hfl 2 2 T_int rfl
  rw [cs_SMan] at h0; rw [cs_SDep] at h1; rw [cs_int] at h2
  obtain ⟨vh, hvh, mv, hml, hms, hmw⟩ := men_of (by simp; omega) h0
  obtain ⟨vw, hvw, ds, hds, hdw⟩ := deps_of (by simp; omega) h1
  obtain ⟨n, hn, hw⟩ := shp_int u_int h2
  refine ⟨mv, ds, vh, vw, n, ⟨hms, hmw, hds, hdw, hml⟩, ?_⟩
  have e1 : cs = (cs.drop 0).take 1 ++ ((cs.drop 1).take 1 ++ (cs.drop 2).take 1) := by
    match cs, hl with
    | [a, b, c], _ => rfl
  rw [e1, hvh, hvw, hn]; rfl
theorem s_Prb : ∃ fs, Tryz.prog.underlying T_solve_Problem = some (.struct fs) := by
  have h : (match Tryz.prog.underlying T_solve_Problem with | some (.struct _) => true | _ => false) = true := by kernel_rfl
  split at h
  · exact ⟨_, by assumption⟩
  · cases h

/-- A WORLD FOR THE WITNESSES -/
def flatN : DataW Unit → List Value
  | .agg l => l.map fun
    | .lit (.int k n) => .int k n
    | _ => .bool false
  | _ => []
def flatN2 : DataW Unit → List Value
  | .agg l => l.flatMap flatN
  | _ => []
def layN (h : Array Obj) (g : Nat) (cs : List Value) : Array Obj := h.modify g fun
  | .cells _ t fr => .cells cs.toArray t fr
  | o => o
def laidHeap20 (h : Array Obj) : Array Obj :=
  ((layN (layN (layN (layN (layN (layN (layN (layN h g_math_bits_deBruijn32tab (flatN Rows.laid_math_bits_deBruijn32tab)) g_math_bits_deBruijn64tab (flatN Rows.laid_math_bits_deBruijn64tab)) g_internal_strconv_uint64pow10 (flatN Rows.laid_internal_strconv_uint64pow10)) g_unicode_utf8_acceptRanges (flatN2 Rows.laid_unicode_utf8_acceptRanges)) g_unicode_utf8_first (flatN Rows.laid_unicode_utf8_first))
    g_version_ops (flatS Rows.laid_syngraph_version_ops))
    g_strconv_ErrRange [.iface T_P_errors_errorString (.pointer (some ⟨h.size, 0, none⟩))])
    g_strconv_ErrSyntax [.iface T_P_errors_errorString (.pointer (some ⟨h.size + 1, 0, none⟩))]).push
    (.cells #[.string ⟨#[118, 97, 108, 117, 101, 32, 111, 117, 116, 32, 111, 102, 32, 114, 97, 110, 103, 101]⟩] T_errors_errorString (0, 0))).push
    (.cells #[.string ⟨#[105, 110, 118, 97, 108, 105, 100, 32, 115, 121, 110, 116, 97, 120]⟩] T_errors_errorString (0, 0))
noncomputable def laidWorld20 (os : Os) : World :=
  { World.holding Tryz.prog os ⟨#[], #[], []⟩ with heap := laidHeap20 (World.holding Tryz.prog os ⟨#[], #[], []⟩).heap }
end Go.Proofs.YtanhgihfgmbojaaGreatDoor.Came

