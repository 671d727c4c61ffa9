/- JOINED: V158 -/
import Derived.Test.YtconalffokhplaaGreatDoorG9
import Derived.Test.YtconalffokhplaaGreatDoorG5
set_option linter.unusedSimpArgs false
set_option linter.unusedVariables false
/- What rows give: a script's line; the tables of the layer of scripts. -/
namespace Go.Proofs.YtconalffokhplaaGreatDoor.Came
open Go.X
set_option maxRecDepth 100000

theorem u_SInt : prg.underlying T_S_int = some (.slice T_int) := by kernel_rfl
theorem cs_SInt : prg.cellsOf T_S_int = 1 := by kernel_rfl
theorem maps_int {q : List (List Value)} (h : ∀ x ∈ q, ∃ n : Int, rng64 n ∧ x = [.int .i64 n]) : ∃ l : List Int, q = ints l ∧ ∀ x ∈ l, rng64 x := by
  induction q with
  | nil => exact ⟨[], rfl, fun y h => by cases h⟩
  | cons x q ih =>
    obtain ⟨ys, hy, hw⟩ := ih fun x hx => h x (by simp [hx])
    obtain ⟨y, yw, rfl⟩ := h x (by simp)
    exact ⟨y :: ys, by rw [hy]; rfl, fun z hz => by
      rcases List.mem_cons.1 hz with rfl | hz
      · exact yw
      · exact hw z hz⟩
theorem int_of {w : World} {d : Nat} {cs : List Value} (h : Shp prg w d T_int cs) : ∃ n : Int, rng64 n ∧ cs = [.int .i64 n] := by
  obtain ⟨n, hn, hw⟩ := shp_int u_int h
  exact ⟨n, int_rng hw, hn⟩
theorem ints_of {w : World} {d : Nat} {cs : List Value} (hl : cs.length = 1) (h : Shp prg w d T_S_int cs) : ∃ v, cs = [v] ∧ ∃ xs : List Int, SlE 1 (· < w.heap.size) w.heap v (ints xs) ∧ ∀ x ∈ xs, rng64 x := by
  match cs, hl with
  | [v], _ =>
    refine ⟨v, rfl, ?_⟩
    cases d with
    | zero => exact h.elim
    | succ d =>
      simp only [Shp, u_SInt] at h
      rcases h with h | ⟨a, len, cap, hv, hle, hcap, hel⟩
      · obtain rfl : v = .slice none 0 0 := by simpa using h
        exact ⟨[], SlE.nil, fun x h => by cases h⟩
      · obtain rfl : v = .slice (some a) len cap := by simpa using hv
        rw [cs_int] at hel
        obtain ⟨q, hq, hs, hqi⟩ := sle_of_cells (n := 1) (q := fun cs => ∃ n : Int, rng64 n ∧ cs = [.int .i64 n]) (by omega) hle (fun cs ⟨y, _, e⟩ c hc => by subst e; simp at hc; subst hc; rfl) fun i hi => by
          obtain ⟨cs', h1, h2⟩ := hel i hi
          exact ⟨cs', h1, int_of h2⟩
        obtain ⟨ys, rfl, hw⟩ := maps_int hqi
        exact ⟨ys, hs, hw⟩
theorem f_Step : flds T_world_Step [(0, T_int), (1, T_int), (2, T_int), (3, T_string), (4, T_version_Want), (9, T_S_uint8), (10, T_S_int)] = true := by kernel_rfl
theorem f_Line : flds T_script_Line [(0, T_world_Step), (11, T_int)] = true := by kernel_rfl
theorem cs_Step : prg.cellsOf T_world_Step = 11 := by kernel_rfl
theorem cs_Line : prg.cellsOf T_script_Line = 12 := by kernel_rfl
theorem cs_SU8 : prg.cellsOf T_S_uint8 = 1 := by kernel_rfl
/-- a line's value as it came in -/
structure LineI (P : Nat → Prop) (H : Heap) (l : LineA) (vd vl : Value) : Prop where
  d : Sl P H vd l.data
  s : SlE 1 P H vl (ints l.lost)
  w : l.want.wf
  k : rng64 l.kind
  n : rng64 l.n
  a : rng64 l.at'
  q : rng64 l.ask
  o : ∀ x ∈ l.lost, rng64 x
  nl : l.name.length ≤ 9223372036854775807
theorem list11 {cs : List Value} (h : cs.length = 11) : cs = (cs.drop 0).take 1 ++ ((cs.drop 1).take 1 ++ ((cs.drop 2).take 1 ++ ((cs.drop 3).take 1 ++ ((cs.drop 4).take 5 ++ ((cs.drop 9).take 1 ++ (cs.drop 10).take 1))))) := by
  match cs, h with
  | [a, b, c, d, e, f, g, i, j, k, l], _ => rfl
theorem line_of {w : World} {d : Nat} {cs : List Value} (h : Shp prg w d T_script_Line cs) : ∃ (l : LineA) (vd vl : Value), LineI (· < w.heap.size) w.heap l vd vl ∧ cs = lineC l vd vl := by
  obtain ⟨d', hl, hfl⟩ := shp_flds f_Line h
  rw [cs_Line] at hl
  have hs := hfl 0 0 T_world_Step rfl
  have hq := hfl 1 11 T_int rfl
  rw [cs_Step] at hs; rw [cs_int] at hq
  obtain ⟨d2, hl2, hfl2⟩ := shp_flds f_Step hs
  rw [cs_Step] at hl2
  generalize hss : (cs.drop 0).take 11 = ss at *
  have h0 := hfl2 0 0 T_int rfl
  have h1 := hfl2 1 1 T_int rfl
  have h2 := hfl2 2 2 T_int rfl
  have h3 := hfl2 3 3 T_string rfl
  have h4 := hfl2 4 4 T_version_Want rfl
  have h5 := hfl2 5 9 T_S_uint8 rfl
  have h6 := hfl2 6 10 T_S_int rfl
  rw [cs_int] at h0 h1 h2; rw [cs_string] at h3; rw [cs_Want] at h4; rw [cs_SU8] at h5; rw [cs_SInt] at h6
  obtain ⟨k, hk, ek⟩ := int_of h0
  obtain ⟨n, hn, en⟩ := int_of h1
  obtain ⟨a, ha, ea⟩ := int_of h2
  obtain ⟨q, hqr, eq⟩ := int_of hq
  obtain ⟨s, hs', hsl⟩ := shp_str u_string h3
  obtain ⟨nm, hsn, hnl⟩ := str_of hsl
  obtain ⟨wt, hwt, ew⟩ := want_of h4
  obtain ⟨vd, hvd, dt, _, hdt⟩ := sl_of (by rw [List.length_take, List.length_drop]; omega) h5
  obtain ⟨vl, hvl, ls, hls, hlr⟩ := ints_of (by rw [List.length_take, List.length_drop]; omega) h6
  refine ⟨⟨k, n, a, nm, wt, dt, ls, q⟩, vd, vl, ⟨hdt, hls, hwt, hk, hn, ha, hqr, hlr, hnl⟩, ?_⟩
  have e1 : cs = ss ++ (cs.drop 11).take 1 := by
    rw [← hss, List.drop_zero, List.take_of_length_le (l := cs.drop 11) (by rw [List.length_drop]; omega), List.take_append_drop]
  rw [e1, list11 hl2, ek, en, ea, hs', ew, hvd, hvl, eq, hsn]; simp [lineC]
theorem s_Line : ∃ fs, Tryz.prog.underlying T_script_Line = some (.struct fs) := by
  have h : (match Tryz.prog.underlying T_script_Line with | some (.struct _) => true | _ => false) = true := by kernel_rfl
  split at h
  · exact ⟨_, by assumption⟩
  · cases h
/-- WHAT THE LISTS OF SCRIPTS GIVE -/
theorem tables30p {W : World} (h : laidMetH Tryz.prog Rows.scriptParsesRow.laid W) (ho : W.ShapedOpen Tryz.prog) : VerT W.heap := by
  have h : laidMet Tryz.prog Rows.scriptParsesRow.laid W := h
  obtain ⟨ps, hv, _⟩ := h
  obtain ⟨t, ms, h1, h2, hu⟩ := t_err
  refine ⟨⟨?_, ?_⟩, ⟨?_, szNG ho⟩, ?_⟩
  · obtain ⟨cs, T, f, fuel, p, hb, hd⟩ := var_of (dd := Rows.laid_strconv_ErrSyntax) g_ErrSyntax h1 hv (by repeat (first | exact List.Mem.head _ | refine List.Mem.tail _ ?_))
    obtain ⟨T', x, hcs⟩ := iface_of hu hd
    exact ⟨T', x, T, f, by rw [hb]; congr 2; apply Array.ext'; rw [hcs]⟩
  · obtain ⟨cs, T, f, fuel, p, hb, hd⟩ := var_of (dd := Rows.laid_strconv_ErrRange) g_ErrRange h2 hv (by repeat (first | exact List.Mem.head _ | refine List.Mem.tail _ ?_))
    obtain ⟨T', x, hcs⟩ := iface_of hu hd
    exact ⟨T', x, T, f, by rw [hb]; congr 2; apply Array.ext'; rw [hcs]⟩
  · exact tab_of (t := T_A20_uint64) (e := T_uint64) (n := 20) g_pow10 (by kernel_rfl) (by kernel_rfl) (by kernel_rfl) (by kernel_rfl) (by kernel_rfl) hv (by repeat (first | exact List.Mem.head _ | refine List.Mem.tail _ ?_))
  · obtain ⟨t, ht, hu, hc⟩ := t_ops
    obtain ⟨cs, T, f, fuel, p, hb, hd⟩ := var_of (dd := tabS opsP) g_ops ht hv (by repeat (first | exact List.Mem.head _ | refine List.Mem.tail _ ?_))
    have := cells_of_tabS hu u_string cs_string hc hd
    exact ⟨T, f, by rw [hb]; congr 2; apply Array.ext'; rw [this]⟩
theorem tables30s {W : World} (h : laidMetH Tryz.prog Rows.scriptShowsRow.laid W) (ho : W.ShapedOpen Tryz.prog) : VerT W.heap := by
  have h : laidMet Tryz.prog Rows.scriptShowsRow.laid W := h
  obtain ⟨ps, hv, _⟩ := h
  obtain ⟨t, ms, h1, h2, hu⟩ := t_err
  refine ⟨⟨?_, ?_⟩, ⟨?_, szNG ho⟩, ?_⟩
  · obtain ⟨cs, T, f, fuel, p, hb, hd⟩ := var_of (dd := Rows.laid_strconv_ErrSyntax) g_ErrSyntax h1 hv (by repeat (first | exact List.Mem.head _ | refine List.Mem.tail _ ?_))
    obtain ⟨T', x, hcs⟩ := iface_of hu hd
    exact ⟨T', x, T, f, by rw [hb]; congr 2; apply Array.ext'; rw [hcs]⟩
  · obtain ⟨cs, T, f, fuel, p, hb, hd⟩ := var_of (dd := Rows.laid_strconv_ErrRange) g_ErrRange h2 hv (by repeat (first | exact List.Mem.head _ | refine List.Mem.tail _ ?_))
    obtain ⟨T', x, hcs⟩ := iface_of hu hd
    exact ⟨T', x, T, f, by rw [hb]; congr 2; apply Array.ext'; rw [hcs]⟩
  · exact tab_of (t := T_A20_uint64) (e := T_uint64) (n := 20) g_pow10 (by kernel_rfl) (by kernel_rfl) (by kernel_rfl) (by kernel_rfl) (by kernel_rfl) hv (by repeat (first | exact List.Mem.head _ | refine List.Mem.tail _ ?_))
  · obtain ⟨t, ht, hu, hc⟩ := t_ops
    obtain ⟨cs, T, f, fuel, p, hb, hd⟩ := var_of (dd := tabS opsP) g_ops ht hv (by repeat (first | exact List.Mem.head _ | refine List.Mem.tail _ ?_))
    have := cells_of_tabS hu u_string cs_string hc hd
    exact ⟨T, f, by rw [hb]; congr 2; apply Array.ext'; rw [this]⟩
end Go.Proofs.YtconalffokhplaaGreatDoor.Came

