/- JOINED: V129 -/
import Derived.Test.YtanhgihfgmbojaaGreatDoorG4
import Derived.Test.YtanhgihfgmbojaaGreatDoorGM
set_option linter.unusedSimpArgs false
set_option linter.unusedVariables false
/- What rows give: manifests, rows of bytes; the tables and a world for ManifestFits. -/
namespace Go.Proofs.YtanhgihfgmbojaaGreatDoor.Came
open Go.X
set_option maxRecDepth 100000

theorem maps_dep {q : List (List Value)} (h : ∀ x ∈ q, ∃ y : Dep, y.wf ∧ x = depC y) : ∃ ys : List Dep, q = ys.map depC ∧ ∀ y ∈ ys, y.wf := by
  induction q with
  | nil => exact ⟨[], rfl, fun y h => by cases h⟩
  | cons x q ih =>
    obtain ⟨ys, hy, hw⟩ := ih fun x hx => h x (by simp [hx])
    obtain ⟨y, yw, rfl⟩ := h x (by simp)
    exact ⟨y :: ys, by rw [hy]; rfl, fun z hz => by
      rcases List.mem_cons.1 hz with rfl | hz
      · exact yw
      · exact hw z hz⟩
theorem maps_file {q : List (List Value)} (h : ∀ x ∈ q, ∃ y : MFile, y.wf ∧ x = fileC y) : ∃ ys : List MFile, q = ys.map fileC ∧ ∀ y ∈ ys, y.wf := by
  induction q with
  | nil => exact ⟨[], rfl, fun y h => by cases h⟩
  | cons x q ih =>
    obtain ⟨ys, hy, hw⟩ := ih fun x hx => h x (by simp [hx])
    obtain ⟨y, yw, rfl⟩ := h x (by simp)
    exact ⟨y :: ys, by rw [hy]; rfl, fun z hz => by
      rcases List.mem_cons.1 hz with rfl | hz
      · exact yw
      · exact hw z hz⟩
theorem f_Dep : flds T_manifest_Dep [(0, T_string), (1, T_version_Want)] = true := by kernel_rfl
theorem cs_Dep : prg.cellsOf T_manifest_Dep = 6 := by kernel_rfl
theorem dep_of {w : World} {d : Nat} {cs : List Value} (h : Shp prg w d T_manifest_Dep cs) : ∃ x : Dep, x.wf ∧ cs = depC x := by
  obtain ⟨d', hl, hfl⟩ := shp_flds f_Dep h
  rw [cs_Dep] at hl
  have h0 := hfl 0 0 T_string rfl
  have h1 := hfl 1 1 T_version_Want rfl
  rw [cs_string] at h0; rw [cs_Want] at h1
  obtain ⟨s, hs, hsl⟩ := shp_str u_string h0
  obtain ⟨n, hsn, hnl⟩ := str_of hsl
  obtain ⟨v, hv, hvc⟩ := want_of h1
  refine ⟨⟨n, v⟩, ⟨hv, hnl⟩, ?_⟩
  have e1 : cs = (cs.drop 0).take 1 ++ (cs.drop 1).take 5 := by
    rw [List.take_of_length_le (l := cs.drop 1) (by simp; omega), List.drop_zero]
    exact (List.take_append_drop 1 cs).symm
  rw [e1, hs, hvc, hsn]; rfl
theorem f_File : flds T_manifest_File [(0, T_string), (1, T_sha_Hash), (33, T_int)] = true := by kernel_rfl
theorem cs_File : prg.cellsOf T_manifest_File = 34 := by kernel_rfl
theorem cs_int : prg.cellsOf T_int = 1 := by kernel_rfl
theorem file_of {w : World} {d : Nat} {cs : List Value} (h : Shp prg w d T_manifest_File cs) : ∃ x : MFile, x.wf ∧ cs = fileC x := by
  obtain ⟨d', hl, hfl⟩ := shp_flds f_File h
  rw [cs_File] at hl
  have h0 := hfl 0 0 T_string rfl
  have h1 := hfl 1 1 T_sha_Hash rfl
  have h2 := hfl 2 33 T_int rfl
  rw [cs_string] at h0; rw [cs_Hash] at h1; rw [cs_int] at h2
  obtain ⟨s, hs, hsl⟩ := shp_str u_string h0
  obtain ⟨n, hsn, hnl⟩ := str_of hsl
  obtain ⟨e, he, hu, hc⟩ := u_Hash
  obtain ⟨l, hll, hlc, hlw⟩ := shp_ints he hu hc cs_Hash h1
  obtain ⟨r, hr, hrc⟩ := ints_bytes hlw
  obtain ⟨k, hk, hkw⟩ := shp_int u_int h2
  refine ⟨⟨n, r, k⟩, ⟨hnl, by show r.length = 32; omega, int_rng hkw⟩, ?_⟩
  have e1 : cs = (cs.drop 0).take 1 ++ ((cs.drop 1).take 32 ++ (cs.drop 33).take 1) := by
    rw [List.take_of_length_le (l := cs.drop 33) (by simp; omega), List.drop_zero]
    have h33 : cs.drop 33 = (cs.drop 1).drop 32 := by rw [List.drop_drop]
    rw [h33, List.take_append_drop]
    exact (List.take_append_drop 1 cs).symm
  rw [e1, hs, hlc, hrc, hk, hsn]; rfl
theorem u_SDep : prg.underlying T_S_manifest_Dep = some (.slice T_manifest_Dep) := by kernel_rfl
theorem u_SFile : prg.underlying T_S_manifest_File = some (.slice T_manifest_File) := by kernel_rfl
theorem deps_of {w : World} {d : Nat} {cs : List Value} (hl : cs.length = 1) (h : Shp prg w d T_S_manifest_Dep cs) : ∃ v, cs = [v] ∧ ∃ xs : List Dep, SlE 6 (· < w.heap.size) w.heap v (xs.map depC) ∧ ∀ x ∈ xs, x.wf := by
  match cs, hl with
  | [v], _ =>
    refine ⟨v, rfl, ?_⟩
    cases d with
    | zero => exact h.elim
    | succ d =>
      simp only [Shp, u_SDep] at h
      rcases h with h | ⟨a, len, cap, hv, hle, hcap, hel⟩
      · obtain rfl : v = .slice none 0 0 := by simpa using h
        exact ⟨[], SlE.nil, fun x h => by cases h⟩
      · obtain rfl : v = .slice (some a) len cap := by simpa using hv
        rw [cs_Dep] at hel
        obtain ⟨q, hq, hs, hqi⟩ := sle_of_cells (n := 6) (q := fun cs => ∃ y : Dep, y.wf ∧ cs = depC y) (by omega) hle (fun cs ⟨y, _, e⟩ c hc => by subst e; exact depC_one c hc) fun i hi => by
          obtain ⟨cs', h1, h2⟩ := hel i hi
          exact ⟨cs', h1, dep_of h2⟩
        obtain ⟨ys, rfl, hw⟩ := maps_dep hqi
        exact ⟨ys, hs, hw⟩
theorem files_of {w : World} {d : Nat} {cs : List Value} (hl : cs.length = 1) (h : Shp prg w d T_S_manifest_File cs) : ∃ v, cs = [v] ∧ ∃ xs : List MFile, SlE 34 (· < w.heap.size) w.heap v (xs.map fileC) ∧ ∀ x ∈ xs, x.wf := by
  match cs, hl with
  | [v], _ =>
    refine ⟨v, rfl, ?_⟩
    cases d with
    | zero => exact h.elim
    | succ d =>
      simp only [Shp, u_SFile] at h
      rcases h with h | ⟨a, len, cap, hv, hle, hcap, hel⟩
      · obtain rfl : v = .slice none 0 0 := by simpa using h
        exact ⟨[], SlE.nil, fun x h => by cases h⟩
      · obtain rfl : v = .slice (some a) len cap := by simpa using hv
        rw [cs_File] at hel
        obtain ⟨q, hq, hs, hqi⟩ := sle_of_cells (n := 34) (q := fun cs => ∃ y : MFile, y.wf ∧ cs = fileC y) (by omega) hle (fun cs ⟨y, _, e⟩ c hc => by subst e; exact fileC_one c hc) fun i hi => by
          obtain ⟨cs', h1, h2⟩ := hel i hi
          exact ⟨cs', h1, file_of h2⟩
        obtain ⟨ys, rfl, hw⟩ := maps_file hqi
        exact ⟨ys, hs, hw⟩
theorem f_Man : flds T_manifest_Manifest [(0, T_string), (1, T_version_Version), (5, T_S_manifest_Dep), (6, T_S_manifest_Dep), (7, T_S_manifest_File)] = true := by kernel_rfl
theorem cs_Man : prg.cellsOf T_manifest_Manifest = 8 := by kernel_rfl
theorem cs_SDep : prg.cellsOf T_S_manifest_Dep = 1 := by kernel_rfl
theorem cs_SFile : prg.cellsOf T_S_manifest_File = 1 := by kernel_rfl
theorem man_of {w : World} {d : Nat} {cs : List Value} (h : Shp prg w d T_manifest_Manifest cs) : ∃ (m : Man) (vd vc vf : Value), ManV (· < w.heap.size) w.heap m vd vc vf ∧ cs = manC m vd vc vf := by
  obtain ⟨d', hl, hfl⟩ := shp_flds f_Man h
  rw [cs_Man] at hl
  have h0 := hfl 0 0 T_string rfl
  have h1 := hfl 1 1 T_version_Version rfl
  have h2 := hfl 2 5 T_S_manifest_Dep rfl
  have h3 := hfl 3 6 T_S_manifest_Dep rfl
  have h4 := hfl 4 7 T_S_manifest_File rfl
  rw [cs_string] at h0; rw [cs_Ver] at h1; rw [cs_SDep] at h2 h3; rw [cs_SFile] at h4
  obtain ⟨s, hs, hsl⟩ := shp_str u_string h0
  obtain ⟨n, hsn, hnl⟩ := str_of hsl
  obtain ⟨v, hv, hvc⟩ := ver_of h1
  obtain ⟨vd, hvd, ds, hds, hdw⟩ := deps_of (by simp; omega) h2
  obtain ⟨vc, hvc', cc, hcs, hcw⟩ := deps_of (by simp; omega) h3
  obtain ⟨vf, hvf, fs, hfs, hfw⟩ := files_of (by simp; omega) h4
  refine ⟨⟨n, v, ds, cc, fs⟩, vd, vc, vf, ⟨hds, hcs, hfs, ⟨hnl, hv, hdw, hcw, hfw⟩⟩, ?_⟩
  have e1 : cs = (cs.drop 0).take 1 ++ ((cs.drop 1).take 4 ++ ((cs.drop 5).take 1 ++ ((cs.drop 6).take 1 ++ (cs.drop 7).take 1))) := by
    match cs, hl with
    | [a, b, c, d, e, f, g, i], _ => rfl
  rw [e1, hs, hvc, hvd, hvc', hvf, hsn]; rfl

/- bytes -/
end Go.Proofs.YtanhgihfgmbojaaGreatDoor.Came

