/- JOINED: V129 -/
import Derived.Test.YtconalffokhplaaGreatDoorG4
import Derived.Test.YtconalffokhplaaGreatDoorGM
set_option linter.unusedSimpArgs false
set_option linter.unusedVariables false
/- What rows give: manifests, rows of bytes; the tables and a world for ManifestFits. -/
namespace Go.Proofs.YtconalffokhplaaGreatDoor.Came
open Go.X
set_option maxRecDepth 100000

theorem maps_dep {q : List (List Value)} (h : ∀ x ∈ q, ∃ y : Dep, y.wf ∧ x = depC y) : ∃ ys : List Dep, q = ys.map depC ∧ ∀ y ∈ ys, y.wf := by
  induction q with
  | nil => exact ⟨[], rfl, fun y h => by cases h⟩
  | cons x q ih =>
    obtain ⟨ys, hy, hw⟩ := ih fun x hx => h x (by simp [hx])
    obtain ⟨y, yw, rfl⟩ := h x (by simp)
    exact ⟨y :: ys, by rw [hy]; rfl, fun z hz => by
      rcases List.mem_cons.1 hz with rfl | hz
      · exact yw
      · exact hw z hz⟩
theorem maps_file {q : List (List Value)} (h : ∀ x ∈ q, ∃ y : MFile, y.wf ∧ x = fileC y) : ∃ ys : List MFile, q = ys.map fileC ∧ ∀ y ∈ ys, y.wf := by
  induction q with
  | nil => exact ⟨[], rfl, fun y h => by cases h⟩
  | cons x q ih =>
    obtain ⟨ys, hy, hw⟩ := ih fun x hx => h x (by simp [hx])
    obtain ⟨y, yw, rfl⟩ := h x (by simp)
    exact ⟨y :: ys, by rw [hy]; rfl, fun z hz => by
      rcases List.mem_cons.1 hz with rfl | hz
      · exact yw
      · exact hw z hz⟩
theorem f_Dep : flds T_manifest_Dep [(0, T_string), (1, T_version_Want)] = true := by kernel_rfl
theorem cs_Dep : prg.cellsOf T_manifest_Dep = 6 := by kernel_rfl
theorem dep_of {w : World} {d : Nat} {cs : List Value} (h : Shp prg w d T_manifest_Dep cs) : ∃ x : Dep, x.wf ∧ cs = depC x := by
  obtain ⟨d', hl, hfl⟩ := shp_flds f_Dep h
  rw [cs_Dep] at hl
  have h0 := hfl 0 0 T_string rfl
  have h1 := hfl 1 1 T_version_Want rfl
  rw [cs_string] at h0; rw [cs_Want] at h1
  obtain ⟨s, hs, hsl⟩ := shp_str u_string h0
  obtain ⟨n, hsn, hnl⟩ := str_of hsl
  obtain ⟨v, hv, hvc⟩ := want_of h1
  refine ⟨⟨n, v⟩, ⟨hv, hnl⟩, ?_⟩
  have e1 : cs = (cs.drop 0).take 1 ++ (cs.drop 1).take 5 := by
    rw [List.take_of_length_le (l := cs.drop 1) (by simp; omega), List.drop_zero]
    exact (List.take_append_drop 1 cs).symm
  rw [e1, hs, hvc, hsn]; rfl
theorem f_File : flds T_manifest_File [(0, T_string), (1, T_sha_Hash), (33, T_int)] = true := by kernel_rfl
theorem cs_File : prg.cellsOf T_manifest_File = 34 := by kernel_rfl
theorem cs_int : prg.cellsOf T_int = 1 := by kernel_rfl
theorem file_of {w : World} {d : Nat} {cs : List Value} (h : Shp prg w d T_manifest_File cs) : ∃ x : MFile, x.wf ∧ cs = fileC x := by
  obtain ⟨d', hl, hfl⟩ := shp_flds f_File h
  rw [cs_File] at hl
  have h0 := hfl 0 0 T_string rfl
  have h1 := hfl 1 1 T_sha_Hash rfl
  have h2 := hfl 2 33 T_int rfl
  rw [cs_string] at h0; rw [cs_Hash] at h1; rw [cs_int] at h2
  obtain ⟨s, hs, hsl⟩ := shp_str u_string h0
  obtain ⟨n, hsn, hnl⟩ := str_of hsl
  obtain ⟨e, he, hu, hc⟩ := u_Hash
  obtain ⟨l, hll, hlc, hlw⟩ := shp_ints he hu hc cs_Hash h1
  obtain ⟨r, hr, hrc⟩ := ints_bytes hlw
  obtain ⟨k, hk, hkw⟩ := shp_int u_int h2
  refine ⟨⟨n, r, k⟩, ⟨hnl, by show r.length = 32; omega, int_rng hkw⟩, ?_⟩
  have e1 : cs = (cs.drop 0).take 1 ++ ((cs.drop 1).take 32 ++ (cs.drop 33).take 1) := by
    rw [List.take_of_length_le (l := cs.drop 33) (by simp; omega), List.drop_zero]
    have h33 : cs.drop 33 = (cs.drop 1).drop 32 := by rw [List.drop_drop]
    rw [h33, List.take_append_drop]
    exact (List.take_append_drop 1 cs).symm
  rw [e1, hs, hlc, hrc, hk, hsn]; rfl
theorem u_SDep : prg.underlying T_S_manifest_Dep = some (.slice T_manifest_Dep) := by kernel_rfl
theorem u_SFile : prg.underlying T_S_manifest_File = some (.slice T_manifest_File) := by kernel_rfl
theorem deps_of {w : World} {d : Nat} {cs : List Value} (hl : cs.length = 1) (h : Shp prg w d T_S_manifest_Dep cs) : ∃ v, cs = [v] ∧ ∃ xs : List Dep, SlE 6 (· < w.heap.size) w.heap v (xs.map depC) ∧ ∀ x ∈ xs, x.wf := by
  match cs, hl with
  | [v], _ =>
    refine ⟨v, rfl, ?_⟩
    cases d with
    | zero => exact h.elim
    | succ d =>
      simp only [Shp, u_SDep] at h
      rcases h with h | ⟨a, len, cap, hv, hle, hcap, hel⟩
      · obtain rfl : v = .slice none 0 0 := by simpa using h
        exact ⟨[], SlE.nil, fun x h => by cases h⟩
      · obtain rfl : v = .slice (some a) len cap := by simpa using hv
        rw [cs_Dep] at hel
        obtain ⟨q, hq, hs, hqi⟩ := sle_of_cells (n := 6) (q := fun cs => ∃ y : Dep, y.wf ∧ cs = depC y) (by omega) hle (fun cs ⟨y, _, e⟩ c hc => by subst e; exact depC_one c hc) fun i hi => by
          obtain ⟨cs', h1, h2⟩ := hel i hi
          exact ⟨cs', h1, dep_of h2⟩
        obtain ⟨ys, rfl, hw⟩ := maps_dep hqi
        exact ⟨ys, hs, hw⟩
theorem files_of {w : World} {d : Nat} {cs : List Value} (hl : cs.length = 1) (h : Shp prg w d T_S_manifest_File cs) : ∃ v, cs = [v] ∧ ∃ xs : List MFile, SlE 34 (· < w.heap.size) w.heap v (xs.map fileC) ∧ ∀ x ∈ xs, x.wf := by
  match cs, hl with
  | [v], _ =>
    refine ⟨v, rfl, ?_⟩
    cases d with
    | zero => exact h.elim
    | succ d =>
      simp only [Shp, u_SFile] at h
      rcases h with h | ⟨a, len, cap, hv, hle, hcap, hel⟩
      · obtain rfl : v = .slice none 0 0 := by simpa using h
        exact ⟨[], SlE.nil, fun x h => by cases h⟩
      · obtain rfl : v = .slice (some a) len cap := by simpa using hv
        rw [cs_File] at hel
        obtain ⟨q, hq, hs, hqi⟩ := sle_of_cells (n := 34) (q := fun cs => ∃ y : MFile, y.wf ∧ cs = fileC y) (by omega) hle (fun cs ⟨y, _, e⟩ c hc => by subst e; exact fileC_one c hc) fun i hi => by
          obtain ⟨cs', h1, h2⟩ := hel i hi
          exact ⟨cs', h1, file_of h2⟩
        obtain ⟨ys, rfl, hw⟩ := maps_file hqi
        exact ⟨ys, hs, hw⟩
theorem f_Man : flds T_manifest_Manifest [(0, T_string), (1, T_version_Version), (5, T_S_manifest_Dep), (6, T_S_manifest_Dep), (7, T_S_manifest_File)] = true := by kernel_rfl
theorem cs_Man : prg.cellsOf T_manifest_Manifest = 8 := by kernel_rfl
theorem cs_SDep : prg.cellsOf T_S_manifest_Dep = 1 := by kernel_rfl
theorem cs_SFile : prg.cellsOf T_S_manifest_File = 1 := by kernel_rfl
theorem man_of {w : World} {d : Nat} {cs : List Value} (h : Shp prg w d T_manifest_Manifest cs) : ∃ (m : Man) (vd vc vf : Value), ManV (· < w.heap.size) w.heap m vd vc vf ∧ cs = manC m vd vc vf := by
  obtain ⟨d', hl, hfl⟩ := shp_flds f_Man h
  rw [cs_Man] at hl
  have h0 := hfl 0 0 T_string rfl
  have h1 := hfl 1 1 T_version_Version rfl
  have h2 := hfl 2 5 T_S_manifest_Dep rfl
  have h3 := hfl 3 6 T_S_manifest_Dep rfl
  have h4 := hfl 4 7 T_S_manifest_File rfl
  rw [cs_string] at h0; rw [cs_Ver] at h1; rw [cs_SDep] at h2 h3; rw [cs_SFile] at h4
  obtain ⟨s, hs, hsl⟩ := shp_str u_string h0
  obtain ⟨n, hsn, hnl⟩ := str_of hsl
  obtain ⟨v, hv, hvc⟩ := ver_of h1
  obtain ⟨vd, hvd, ds, hds, hdw⟩ := deps_of (by simp; omega) h2
  obtain ⟨vc, hvc', cc, hcs, hcw⟩ := deps_of (by simp; omega) h3
  obtain ⟨vf, hvf, fs, hfs, hfw⟩ := files_of (by simp; omega) h4
  refine ⟨⟨n, v, ds, cc, fs⟩, vd, vc, vf, ⟨hds, hcs, hfs, ⟨hnl, hv, hdw, hcw, hfw⟩⟩, ?_⟩
  have e1 : cs = (cs.drop 0).take 1 ++ ((cs.drop 1).take 4 ++ ((cs.drop 5).take 1 ++ ((cs.drop 6).take 1 ++ (cs.drop 7).take 1))) := by
    match cs, hl with
    | [a, b, c, d, e, f, g, i], _ => rfl
  rw [e1, hs, hvc, hvd, hvc', hvf, hsn]; rfl

theorem s_Man : ∃ fs, Tryz.prog.underlying T_manifest_Manifest = some (.struct fs) := by
  have h : (match Tryz.prog.underlying T_manifest_Manifest with | some (.struct _) => true | _ => false) = true := by kernel_rfl
  split at h
  · exact ⟨_, by assumption⟩
  · cases h

/- bytes -/
theorem u_SU8' : prg.underlying T_S_uint8 = some (.slice T_uint8) := by kernel_rfl
theorem u_U8' : prg.underlying T_uint8 = some (.int .u8) := by kernel_rfl
theorem cs_U8' : prg.cellsOf T_uint8 = 1 := by kernel_rfl
theorem bmaps_of' {q : List (List Value)} (h : ∀ x ∈ q, ∃ y : UInt8, x = [.int .u8 y.toNat]) : ∃ l : List UInt8, q = l.map fun y => [Value.int .u8 y.toNat] := by
  induction q with
  | nil => exact ⟨[], rfl⟩
  | cons x q ih =>
    obtain ⟨l, hl⟩ := ih fun x hx => h x (by simp [hx])
    obtain ⟨y, rfl⟩ := h x (by simp)
    exact ⟨y :: l, by rw [hl]; rfl⟩
theorem flat_one' : ∀ l : List UInt8, (l.map fun y => [Value.int .u8 y.toNat]).flatten = bcells l
  | [] => rfl
  | x :: l => by rw [List.map_cons, List.flatten_cons, flat_one' l]; rfl
theorem sl_of {w : World} {d : Nat} {cs : List Value} (hl : cs.length = 1) (h : Shp prg w d T_S_uint8 cs) : ∃ v, cs = [v] ∧ ∃ l : List UInt8, l.length ≤ 9223372036854775807 ∧ Sl (· < w.heap.size) w.heap v l := by
  match cs, hl with
  | [v], _ =>
    refine ⟨v, rfl, ?_⟩
    cases d with
    | zero => exact h.elim
    | succ d =>
      simp only [Shp, u_SU8'] at h
      rcases h with h | ⟨a, len, cap, hv, hle, hcap, hel⟩
      · obtain rfl : v = .slice none 0 0 := by simpa using h
        exact ⟨[], by simp, Sl.nil⟩
      · obtain rfl : v = .slice (some a) len cap := by simpa using hv
        rw [cs_U8'] at hel
        have h1c : ∀ cs : List Value, (∃ y : UInt8, cs = [.int .u8 y.toNat]) → ∀ c ∈ cs, c.oneCell' = true := by
          rintro _ ⟨y, rfl⟩ c hc
          obtain rfl : c = _ := by simpa using hc
          rfl
        obtain ⟨q, hq, hs, hqi⟩ := sle_of_cells (n := 1) (q := fun cs => ∃ y : UInt8, cs = [.int .u8 y.toNat]) (by omega) hle h1c fun i hi => by
          obtain ⟨cs', h1, h2⟩ := hel i hi
          obtain ⟨n, hn, hw⟩ := Go.X.shp_int u_U8' h2
          refine ⟨cs', h1, UInt8.ofNat n.toNat, ?_⟩
          rw [hn]
          have : 0 ≤ n ∧ n ≤ 255 := by
            simp only [Lit.wf, IntKind.min, IntKind.max, IntKind.signed, IntKind.bits] at hw
            simp at hw
            omega
          have e : (((UInt8.ofNat n.toNat).toNat : Nat) : Int) = n := by rw [UInt8.toNat_ofNat']; omega
          rw [e]
        obtain ⟨l, rfl⟩ := bmaps_of' hqi
        rw [List.length_map] at hq
        have hm : maxLen = 9223372036854775807 := rfl
        obtain ⟨⟨a', c', he, hc, hx⟩, _, _⟩ := hs
        rw [List.length_map] at he
        cases he
        rcases hx with hx | ⟨b, o, e, hb', ⟨cs, T, f, hb, h1, h2⟩⟩
        · have : l = [] := by simpa using hx
          subst this
          exact ⟨[], by simp, Bs_nil, ⟨some a, cap, rfl, Nat.zero_le _, fun _ _ => rfl⟩, fun b hb => absurd rfl (blk_slice hb).2⟩
        · cases e
          have hfl := flat_one' l
          rw [hfl] at h1 h2
          have hbl : (bcells l).length = l.length := by simp [bcells]
          exact ⟨l, by omega, Bs.mk hb rfl (by omega) (by rw [← hbl]; exact h2), ⟨_, cap, rfl, by omega, fun _ _ => rfl⟩, fun b2 hb2 => by obtain ⟨rfl, _⟩ := blk_slice hb2; exact hb'⟩
theorem u_SSU8 : prg.underlying T_S_S_uint8 = some (.slice T_S_uint8) := by kernel_rfl
theorem cs_SU8' : prg.cellsOf T_S_uint8 = 1 := by kernel_rfl
theorem bmaps2 {w : World} {q : List (List Value)} (h : ∀ x ∈ q, ∃ v, x = [v] ∧ ∃ l : List UInt8, l.length ≤ 9223372036854775807 ∧ Sl (· < w.heap.size) w.heap v l) : ∃ xs : List (Value × List UInt8), q = rows1 (xs.map (·.1)) ∧ ∀ x ∈ xs, Sl (· < w.heap.size) w.heap x.1 x.2 := by
  induction q with
  | nil => exact ⟨[], rfl, fun x h => by cases h⟩
  | cons x q ih =>
    obtain ⟨xs, hx, hw⟩ := ih fun x hx => h x (by simp [hx])
    obtain ⟨v, rfl, l, _, hs⟩ := h x (by simp)
    exact ⟨(v, l) :: xs, by rw [hx]; rfl, fun z hz => by
      rcases List.mem_cons.1 hz with rfl | hz
      · exact hs
      · exact hw z hz⟩
theorem bss_of {w : World} {d : Nat} {v : Value} (h : Shp prg w d T_S_S_uint8 [v]) : ∃ xs : List (Value × List UInt8), xs.length ≤ 9223372036854775807 ∧ BSS (· < w.heap.size) (· < w.heap.size) w.heap v xs := by
  cases d with
  | zero => exact h.elim
  | succ d =>
    simp only [Shp, u_SSU8] at h
    rcases h with h | ⟨a, len, cap, hv, hle, hcap, hel⟩
    · obtain rfl : v = .slice none 0 0 := by simpa using h
      exact ⟨[], by simp, SlE.nil, fun x h => by cases h⟩
    · obtain rfl : v = .slice (some a) len cap := by simpa using hv
      rw [cs_SU8'] at hel
      obtain ⟨q, hq, hs, hqi⟩ := sle_of_cells (n := 1) (q := fun cs => cs.length = 1 ∧ ∃ v, cs = [v] ∧ ∃ l : List UInt8, l.length ≤ 9223372036854775807 ∧ Sl (· < w.heap.size) w.heap v l) (by omega) hle (fun cs ⟨_, v, e, l, _, hs⟩ c hc => by subst e; simp at hc; subst hc; exact hs.one) fun i hi => by
        obtain ⟨cs', h1, h2⟩ := hel i hi
        have hl1 : cs'.length = 1 := (World.cells?_some h1).2.1
        exact ⟨cs', h1, hl1, sl_of hl1 h2⟩
      obtain ⟨xs, rfl, hw⟩ := bmaps2 fun x hx => (hqi x hx).2
      have hm : maxLen = 9223372036854775807 := rfl
      refine ⟨xs, ?_, hs, hw⟩
      rw [rows1_len, List.length_map] at hq
      omega

/-- WHAT MANIFESTFITS' LIST GIVES -/
theorem tables19 {W : World} (h : laidMetH Tryz.prog Rows.manifestFitsRow.laid W) (ho : W.ShapedOpen Tryz.prog) : VerT W.heap ∧ ShaT W.heap := by
  refine ⟨?_, (tables h ho).1⟩
  have h : laidMet Tryz.prog Rows.manifestFitsRow.laid W := h
  obtain ⟨ps, hv, _⟩ := h
  obtain ⟨t, ms, h1, h2, hu⟩ := t_err
  refine ⟨⟨?_, ?_⟩, ⟨?_, szNG ho⟩, ?_⟩
  · obtain ⟨cs, T, f, fuel, p, hb, hd⟩ := var_of (dd := Rows.laid_strconv_ErrSyntax) g_ErrSyntax h1 hv (by repeat (first | exact List.Mem.head _ | refine List.Mem.tail _ ?_))
    obtain ⟨T', x, hcs⟩ := iface_of hu hd
    exact ⟨T', x, T, f, by rw [hb]; congr 2; apply Array.ext'; rw [hcs]⟩
  · obtain ⟨cs, T, f, fuel, p, hb, hd⟩ := var_of (dd := Rows.laid_strconv_ErrRange) g_ErrRange h2 hv (by repeat (first | exact List.Mem.head _ | refine List.Mem.tail _ ?_))
    obtain ⟨T', x, hcs⟩ := iface_of hu hd
    exact ⟨T', x, T, f, by rw [hb]; congr 2; apply Array.ext'; rw [hcs]⟩
  · exact tab_of (t := T_A20_uint64) (e := T_uint64) (n := 20) g_pow10 (by kernel_rfl) (by kernel_rfl) (by kernel_rfl) (by kernel_rfl) (by kernel_rfl) hv (by repeat (first | exact List.Mem.head _ | refine List.Mem.tail _ ?_))
  · obtain ⟨t, ht, hu, hc⟩ := t_ops
    obtain ⟨cs, T, f, fuel, p, hb, hd⟩ := var_of (dd := tabS opsP) g_ops ht hv (by repeat (first | exact List.Mem.head _ | refine List.Mem.tail _ ?_))
    have := cells_of_tabS hu u_string cs_string hc hd
    exact ⟨T, f, by rw [hb]; congr 2; apply Array.ext'; rw [this]⟩
def laidHeap19 (h : Array Obj) : Array Obj := lay (lay (laidHeap18 h) g_sha_begin (flat Rows.laid_syngraph_sha_begin)) g_sha_table (flat Rows.laid_syngraph_sha_table)
noncomputable def laidWorld19 (os : Os) : World :=
  { World.holding Tryz.prog os ⟨#[], #[], []⟩ with heap := laidHeap19 (World.holding Tryz.prog os ⟨#[], #[], []⟩).heap }
end Go.Proofs.YtconalffokhplaaGreatDoor.Came
