/- JOINED: V53 -/
import Derived.Test.YtmhfanpijdgkjaaDoorGX
import Derived.Test.YtmhfanpijdgkjaaDoorGM
set_option linter.unusedSimpArgs false
set_option linter.unusedVariables false
/- What a row gives: records that came in. -/
namespace Go.Proofs.YtmhfanpijdgkjaaDoor.Came
open Go.X
set_option maxRecDepth 100000

theorem s_Rec : ∃ fs, Tryd.prog.underlying T_history_Record = some (.struct fs) := by
  have h : (match Tryd.prog.underlying T_history_Record with | some (.struct _) => true | _ => false) = true := by kernel_rfl
  split at h
  · exact ⟨_, by assumption⟩
  · cases h
theorem u_SRec : prg.underlying T_S_history_Record = some (.slice T_history_Record) := by kernel_rfl
theorem f_Rec : flds T_history_Record [(0, T_int), (1, T_S_history_Item), (2, T_S_history_Item), (3, T_head_Head)] = true := by kernel_rfl
theorem f_Head : flds T_head_Head [(0, T_int), (1, T_sha_Hash)] = true := by kernel_rfl
theorem cs_Rec : prg.cellsOf T_history_Record = 36 := by kernel_rfl
theorem cs_Head : prg.cellsOf T_head_Head = 33 := by kernel_rfl
theorem cs_int : prg.cellsOf T_int = 1 := by kernel_rfl
theorem cs_SItem : prg.cellsOf T_S_history_Item = 1 := by kernel_rfl
theorem int_rng' {n : Int} (h : (Lit.int .i64 n).wf = true) : -9223372036854775808 ≤ n ∧ n ≤ 9223372036854775807 := by
  simp only [Lit.wf, IntKind.min, IntKind.max, IntKind.signed, IntKind.bits] at h
  simp at h
  omega
theorem items_of' {w : World} {d : Nat} {cs : List Value} (hl : cs.length = 1) (h : Shp prg w d T_S_history_Item cs) : ∃ v, cs = [v] ∧ ∃ xs : List Item, xs.length ≤ 9223372036854775807 ∧ Items (· < w.heap.size) w.heap v xs := by
  match cs, hl with
  | [v], _ => exact ⟨v, rfl, items_of h⟩
theorem rec_of {w : World} {d : Nat} {cs : List Value} (h : Shp prg w d T_history_Record cs) : ∃ (a : RecA) (x : Value × Value), RawIn (· < w.heap.size) w.heap a x ∧ cs = rawC a x := by
  obtain ⟨d', hl, hfl⟩ := shp_flds f_Rec h
  rw [cs_Rec] at hl
  have h0 := hfl 0 0 T_int rfl
  have h1 := hfl 1 1 T_S_history_Item rfl
  have h2 := hfl 2 2 T_S_history_Item rfl
  have h3 := hfl 3 3 T_head_Head rfl
  rw [cs_int] at h0; rw [cs_SItem] at h1 h2; rw [cs_Head] at h3
  obtain ⟨k, hk, _⟩ := shp_int u_int h0
  obtain ⟨vb, hb, xs, hxl, hxs⟩ := items_of' (by simp; omega) h1
  obtain ⟨va, ha, ys, hyl, hys⟩ := items_of' (by simp; omega) h2
  obtain ⟨d2, hl3, hf3⟩ := shp_flds f_Head h3
  have g0 := hf3 0 0 T_int rfl
  have g1 := hf3 1 1 T_sha_Hash rfl
  rw [cs_int] at g0; rw [cs_Hash] at g1
  obtain ⟨s, hs, _⟩ := shp_int u_int g0
  obtain ⟨e, he, hu, hc⟩ := u_Hash
  obtain ⟨l, hll, hlc, hlw⟩ := shp_ints he hu hc cs_Hash g1
  obtain ⟨r, hr, hrc⟩ := ints_bytes hlw
  refine ⟨⟨k, xs, ys, s, r⟩, (vb, va), ⟨by show r.length = 32; omega, hxs, hys, hxl, hyl⟩, ?_⟩
  have e3 : (cs.drop 3).take 33 = cs.drop 3 := List.take_of_length_le (by simp; omega)
  rw [e3] at hs hlc
  have e4 : ((cs.drop 3).drop 1).take 32 = (cs.drop 3).drop 1 := List.take_of_length_le (by simp; omega)
  rw [e4] at hlc
  have p3 : cs.drop 3 = [Value.int .i64 s] ++ bcells r := by
    rw [← hrc, ← hlc, ← hs, List.drop_zero]
    exact (List.take_append_drop 1 _).symm
  have p2 : cs.drop 2 = [va] ++ cs.drop 3 := by
    rw [← ha, show cs.drop 3 = (cs.drop 2).drop 1 by rw [List.drop_drop]]
    exact (List.take_append_drop 1 _).symm
  have p1 : cs.drop 1 = [vb] ++ cs.drop 2 := by
    rw [← hb, show cs.drop 2 = (cs.drop 1).drop 1 by rw [List.drop_drop]]
    exact (List.take_append_drop 1 _).symm
  have p0 : cs = [Value.int .i64 k] ++ cs.drop 1 := by
    rw [List.drop_zero] at hk
    rw [← hk]
    exact (List.take_append_drop 1 _).symm
  rw [p0, p1, p2, p3]; rfl
theorem maps_rec {w : World} {q : List (List Value)} (h : ∀ x ∈ q, ∃ (a : RecA) (y : Value × Value), RawIn (· < w.heap.size) w.heap a y ∧ x = rawC a y) : ∃ l : List (RecA × Value × Value), q = l.map (fun r => rawC r.1 r.2) ∧ ∀ r ∈ l, RawIn (· < w.heap.size) w.heap r.1 r.2 := by
  induction q with
  | nil => exact ⟨[], rfl, fun y h => by cases h⟩
  | cons x q ih =>
    obtain ⟨l, hy, hw⟩ := ih fun x hx => h x (by simp [hx])
    obtain ⟨a, y, hr, rfl⟩ := h x (by simp)
    exact ⟨(a, y) :: l, by rw [hy]; rfl, fun z hz => by
      rcases List.mem_cons.1 hz with rfl | hz
      · exact hr
      · exact hw z hz⟩
theorem recs_of {w : World} {d : Nat} {v : Value} (h : Shp prg w d T_S_history_Record [v]) : ∃ l : List (RecA × Value × Value), l.length ≤ 9223372036854775807 ∧ Recs (· < w.heap.size) w.heap v l := by
  cases d with
  | zero => exact h.elim
  | succ d =>
    simp only [Shp, u_SRec] at h
    rcases h with h | ⟨a, len, cap, hv, hle, hcap, hel⟩
    · obtain rfl : v = .slice none 0 0 := by simpa using h
      exact ⟨[], by simp, SlE.nil, fun x h => by cases h⟩
    · obtain rfl : v = .slice (some a) len cap := by simpa using hv
      rw [cs_Rec] at hel
      obtain ⟨q, hq, hs, hqi⟩ := sle_of_cells (n := 36) (q := fun cs => ∃ (a : RecA) (y : Value × Value), RawIn (· < w.heap.size) w.heap a y ∧ cs = rawC a y) (by omega) hle (fun cs ⟨a, y, hr, e⟩ c hc => by subst e; exact rawC_one hr c hc) fun i hi => by
        obtain ⟨cs', h1, h2⟩ := hel i hi
        exact ⟨cs', h1, rec_of h2⟩
      obtain ⟨l, rfl, hw⟩ := maps_rec hqi
      refine ⟨l, ?_, hs, hw⟩
      rw [List.length_map] at hq
      have : maxLen = 9223372036854775807 := rfl
      omega
end Go.Proofs.YtmhfanpijdgkjaaDoor.Came
