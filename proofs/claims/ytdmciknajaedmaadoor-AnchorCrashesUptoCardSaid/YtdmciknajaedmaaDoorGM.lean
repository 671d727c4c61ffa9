/- JOINED: V27 V43a -/
import Derived.Test.YtdmciknajaedmaaDoorGI
import Derived.Test.YtdmciknajaedmaaDoorGE
import Derived.Test.YtdmciknajaedmaaDoorCards
import Derived.Test.YtdmciknajaedmaaDoorTie
import Derived.WalkKit
import Derived.ProofKit
import Derived.OpenShut
import Derived.Below
import Derived.Deep.DeepHandedRow
import Derived.Lib.LaidTab
set_option linter.unusedSimpArgs false
set_option linter.unusedVariables false
/- What a row of this seat gives: items that came in, and the tables; and a world for the witnesses. -/
namespace Go.Proofs.YtdmciknajaedmaaDoor.Came
open Go.X
set_option maxRecDepth 100000

theorem own : ownKnob Tryd.prog.godebug = none := by kernel_rfl
theorem laidOut : laidOutB Tryd.prog = true := by kernel_rfl
theorem u_bool : Tryd.prog.underlying 4 = some .bool := by kernel_rfl

/-- the fields of a struct, as its offsets and types -/
noncomputable def flds (t : TypeId) (l : List (Nat × TypeId)) : Bool := match prg.underlying t with
  | some (.struct fs) => fs.toList.map (fun f => (f.offset, f.type)) == l
  | _ => false
theorem shp_flds {w : World} {d : Nat} {t : TypeId} {l : List (Nat × TypeId)} {cs : List Value} (hl : flds t l = true) (h : Shp prg w d t cs) : ∃ d', cs.length = prg.cellsOf t ∧ ∀ (i o : Nat) (ty : TypeId), l[i]? = some (o, ty) → Shp prg w d' ty ((cs.drop o).take (prg.cellsOf ty)) := by
  unfold flds at hl
  split at hl
  · rename_i fs hu
    obtain ⟨d', h1, h2⟩ := shp_struct hu h
    refine ⟨d', h1, fun i o ty hi => ?_⟩
    have e := eq_of_beq hl
    rw [← e, List.getElem?_map] at hi
    obtain ⟨f, hf, he⟩ := Option.map_eq_some_iff.1 hi
    cases he
    exact h2 i f (by simpa using hf)
  · cases hl
theorem u_SItem : prg.underlying T_S_history_Item = some (.slice T_history_Item) := by kernel_rfl
theorem u_int : prg.underlying T_int = some (.int .i64) := by kernel_rfl
theorem u_string : prg.underlying T_string = some .string := by kernel_rfl
theorem u_Hash : ∃ e, prg.underlying T_sha_Hash = some (.array 32 e) ∧ prg.underlying e = some (.int .u8) ∧ prg.cellsOf e = 1 := ⟨T_uint8, by kernel_rfl, by kernel_rfl, by kernel_rfl⟩
theorem u_A3 : ∃ t e, (prg.underlying T_version_Version).isSome = true ∧ flds T_version_Version [(0, t), (3, T_string)] = true ∧ prg.underlying t = some (.array 3 e) ∧ prg.underlying e = some (.int .i64) ∧ prg.cellsOf e = 1 ∧ prg.cellsOf t = 3 := ⟨T_A3_int, T_int, by kernel_rfl, by kernel_rfl, by kernel_rfl, by kernel_rfl, by kernel_rfl, by kernel_rfl⟩
theorem f_Item : flds T_history_Item [(0, T_string), (1, T_version_Version), (5, T_sha_Hash)] = true := by kernel_rfl
theorem cs_string : prg.cellsOf T_string = 1 := by kernel_rfl
theorem cs_Ver : prg.cellsOf T_version_Version = 4 := by kernel_rfl
theorem cs_Hash : prg.cellsOf T_sha_Hash = 32 := by kernel_rfl
theorem cs_Item : prg.cellsOf T_history_Item = 37 := by kernel_rfl

theorem str_of {s : ByteArray} (h : s.size ≤ maxLen) : ∃ l : List UInt8, Value.string s = str l ∧ l.length ≤ 9223372036854775807 := ⟨s.data.toList, by cases s; rfl, by
  have : s.data.toList.length = s.size := by cases s; rfl
  rw [this]; exact h⟩
theorem ver_of {w : World} {d : Nat} {cs : List Value} (h : Shp prg w d T_version_Version cs) : ∃ v : Ver, v.wf ∧ cs = verC v := by
  obtain ⟨t, e, _, hf, ha, he, hc, hn⟩ := u_A3
  obtain ⟨d', hl, hfl⟩ := shp_flds hf h
  rw [cs_Ver] at hl
  have h0 := hfl 0 0 t rfl
  have h1 := hfl 1 3 T_string rfl
  rw [hn] at h0; rw [cs_string] at h1
  obtain ⟨p, hp, hpc, _⟩ := shp_ints ha he hc hn h0
  obtain ⟨s, hs, hsl⟩ := shp_str u_string h1
  obtain ⟨l, hsl', hll⟩ := str_of hsl
  refine ⟨⟨p, l⟩, ⟨hp, hll⟩, ?_⟩
  have e1 : cs = cs.take 3 ++ cs.drop 3 := (List.take_append_drop 3 cs).symm
  rw [e1]
  rw [List.drop_zero] at hpc
  rw [List.take_of_length_le (by simp; omega)] at hs
  rw [hpc, hs, hsl']; rfl
theorem item_of {w : World} {d : Nat} {cs : List Value} (h : Shp prg w d T_history_Item cs) : ∃ x : Item, x.wf ∧ cs = itemC x := by
  obtain ⟨d', hl, hfl⟩ := shp_flds f_Item h
  rw [cs_Item] at hl
  have h0 := hfl 0 0 T_string rfl
  have h1 := hfl 1 1 T_version_Version rfl
  have h2 := hfl 2 5 T_sha_Hash rfl
  rw [cs_string] at h0; rw [cs_Ver] at h1; rw [cs_Hash] at h2
  obtain ⟨s, hs, hsl⟩ := shp_str u_string h0
  obtain ⟨n, hsn, hnl⟩ := str_of hsl
  obtain ⟨v, hv, hvc⟩ := ver_of h1
  obtain ⟨e, he, hb, hc⟩ := u_Hash
  obtain ⟨l, hll, hlc, hlw⟩ := shp_ints he hb hc cs_Hash h2
  obtain ⟨r, hr, hrc⟩ := ints_bytes hlw
  refine ⟨⟨n, v, r⟩, ⟨hv, hr.trans hll, hnl⟩, ?_⟩
  have e1 : cs = (cs.drop 0).take 1 ++ ((cs.drop 1).take 4 ++ (cs.drop 5).take 32) := by
    rw [List.take_of_length_le (l := cs.drop 5) (by simp; omega), List.drop_zero]
    have a1 : (cs.drop 1).take 4 ++ cs.drop 5 = cs.drop 1 := by
      have := List.take_append_drop 4 (cs.drop 1)
      rwa [List.drop_drop] at this
    rw [a1]; exact (List.take_append_drop 1 cs).symm
  rw [e1, hs, hvc, hlc, hrc, hsn]; rfl
theorem maps_of {q : List (List Value)} (h : ∀ x ∈ q, ∃ y : Item, y.wf ∧ x = itemC y) : ∃ ys : List Item, q = ys.map itemC ∧ ∀ y ∈ ys, y.wf := by
  induction q with
  | nil => exact ⟨[], rfl, fun y h => by cases h⟩
  | cons x q ih =>
    obtain ⟨ys, hy, hw⟩ := ih fun x hx => h x (by simp [hx])
    obtain ⟨y, yw, rfl⟩ := h x (by simp)
    exact ⟨y :: ys, by rw [hy]; rfl, fun z hz => by 
      rcases List.mem_cons.1 hz with rfl | hz
      · exact yw
      · exact hw z hz⟩
/-- a slice of items that came in -/
theorem items_of {w : World} {d : Nat} {v : Value} (h : Shp prg w d T_S_history_Item [v]) : ∃ xs : List Item, xs.length ≤ 9223372036854775807 ∧ Items (· < w.heap.size) w.heap v xs := by
  cases d with
  | zero => exact h.elim
  | succ d =>
    simp only [Shp, u_SItem] at h
    rcases h with h | ⟨a, len, cap, hv, hle, hcap, hel⟩
    · obtain rfl : v = .slice none 0 0 := by simpa using h
      exact ⟨[], by simp, SlE.nil, fun x h => by cases h⟩
    · obtain rfl : v = .slice (some a) len cap := by simpa using hv
      rw [cs_Item] at hel
      obtain ⟨q, hq, hs, hqi⟩ := sle_of_cells (n := 37) (q := fun cs => ∃ y : Item, y.wf ∧ cs = itemC y) (by omega) hle (fun cs ⟨y, _, e⟩ c hc => by subst e; exact itemC_one c hc) fun i hi => by
        obtain ⟨cs', h1, h2⟩ := hel i hi
        exact ⟨cs', h1, item_of h2⟩
      obtain ⟨ys, rfl, hw⟩ := maps_of hqi
      refine ⟨ys, ?_, hs, hw⟩
      rw [List.length_map] at hq
      have : maxLen = 9223372036854775807 := rfl
      omega

theorem g_begin : prg.globalNamed "syngraph/sha.begin" = some g_sha_begin := by kernel_rfl
theorem g_table : prg.globalNamed "syngraph/sha.table" = some g_sha_table := by kernel_rfl
theorem g_pow10 : prg.globalNamed "internal/strconv.uint64pow10" = some g_internal_strconv_uint64pow10 := by kernel_rfl
theorem size0 : (begin Tryd.prog (fun _ _ => 0) default).world.heap.size > NG ∧ Tryd.prog.globals.size = NG := ⟨of_decide_eq_true (by kernel_rfl), by kernel_rfl⟩
theorem szNG {W : World} (ho : W.ShapedOpen Tryd.prog) : NG ≤ W.heap.size := by
  obtain ⟨h1, h2⟩ := size0
  obtain ⟨o, _, ho, _⟩ := ho.2 NG (by rw [h2]; exact Nat.le_refl _) h1
  exact Nat.le_of_lt (Go.X.lt_of ho)
/-- WHAT THE ROWS' LIST GIVES. -/
theorem tables {W : World} (h : laidMetH Tryd.prog Rows.anchorCrashesRow.laid W) (ho : W.ShapedOpen Tryd.prog) : ShaT W.heap ∧ PowT W.heap := by
  have h : laidMet Tryd.prog Rows.anchorCrashesRow.laid W := h
  obtain ⟨ps, hv, _⟩ := h
  refine ⟨⟨?_, ?_, szNG ho⟩, ⟨?_, szNG ho⟩⟩
  · exact tab_of (t := T_A8_uint32) (e := T_uint32) (n := 8) g_begin (by kernel_rfl) (by kernel_rfl) (by kernel_rfl) (by kernel_rfl) (by kernel_rfl) hv (by repeat (first | exact List.Mem.head _ | refine List.Mem.tail _ ?_))
  · exact tab_of (t := T_A64_uint32) (e := T_uint32) (n := 64) g_table (by kernel_rfl) (by kernel_rfl) (by kernel_rfl) (by kernel_rfl) (by kernel_rfl) hv (by repeat (first | exact List.Mem.head _ | refine List.Mem.tail _ ?_))
  · exact tab_of (t := T_A20_uint64) (e := T_uint64) (n := 20) g_pow10 (by kernel_rfl) (by kernel_rfl) (by kernel_rfl) (by kernel_rfl) (by kernel_rfl) hv (by repeat (first | exact List.Mem.head _ | refine List.Mem.tail _ ?_))

/-- A WORLD FOR THE WITNESSES: the settled one, its tables as their initialisers lay them. -/
def flat : DataW Unit → List Value
  | .agg l => l.map fun
    | .lit (.int k n) => .int k n
    | _ => .bool false
  | _ => []
def flat2 : DataW Unit → List Value
  | .agg l => l.flatMap flat
  | _ => []
def lay (h : Array Obj) (g : Nat) (cs : List Value) : Array Obj := h.modify g fun
  | .cells _ t fr => .cells cs.toArray t fr
  | o => o
def laidHeap (h : Array Obj) : Array Obj :=
  lay (lay (lay (lay (lay (lay (lay h g_math_bits_deBruijn32tab (flat Rows.laid_math_bits_deBruijn32tab)) g_math_bits_deBruijn64tab (flat Rows.laid_math_bits_deBruijn64tab)) g_internal_strconv_uint64pow10 (flat Rows.laid_internal_strconv_uint64pow10)) g_unicode_utf8_acceptRanges (flat2 Rows.laid_unicode_utf8_acceptRanges)) g_sha_begin (flat Rows.laid_syngraph_sha_begin)) g_sha_table (flat Rows.laid_syngraph_sha_table)) g_unicode_utf8_first (flat Rows.laid_unicode_utf8_first)
noncomputable def laidWorld (os : Os) : World :=
  { World.holding Tryd.prog os ⟨#[], #[], []⟩ with heap := laidHeap (World.holding Tryd.prog os ⟨#[], #[], []⟩).heap }
end Go.Proofs.YtdmciknajaedmaaDoor.Came
/- What a row gives: variables that are laid. -/
namespace Go.Proofs.YtdmciknajaedmaaDoor.Came
open Go.X
set_option maxRecDepth 100000

theorem int_rng {n : Int} (h : (Lit.int .i64 n).wf = true) : -9223372036854775808 ≤ n ∧ n ≤ 9223372036854775807 := by
  simp only [Lit.wf, IntKind.min, IntKind.max, IntKind.signed, IntKind.bits] at h
  simp at h
  omega

def tabS {H : Type} (zs : List (List UInt8)) : DataW H := .agg (zs.map fun l => .lit (.string l))
theorem cells_of_tabS {H : Type} {enc : TypeId × Value → H} {P : Program} {w : World} {base : Nat} {sp : Nat → Bool} {held : Bool} {fuel : Nat} {t e : TypeId} {n : Nat} {cs : List Value} {zs : List (List UInt8)} {p : List MemPlace}
    (ht : P.underlying t = some (.array n e)) (he : P.underlying e = some .string) (hce : P.cellsOf e = 1) (hct : P.cellsOf t = n)
    (h : DataW.trod enc P w base sp held fuel t cs = some (tabS zs, p)) : cs = zs.map str := by
  cases fuel with
  | zero => simp [DataW.trod] at h
  | succ fuel =>
    simp only [DataW.trod, ht, hce, hct, Nat.mul_one] at h
    split at h
    · rename_i hl
      obtain ⟨xs, hm, hx⟩ := Option.map_eq_some_iff.1 h
      have hxs : xs.map (·.1) = zs.map fun z => (DataW.lit (.string z) : DataW H) := by
        have := congrArg Prod.fst hx
        simpa [tabS] using this
      have hxl : xs.length = n := by simpa using Lib.mapM_length hm
      have hzl : zs.length = n := by
        have := congrArg List.length hxs
        simp at this
        omega
      apply List.ext_getElem?
      intro i
      by_cases hi : i < n
      · obtain ⟨b, hb, hf⟩ := Lib.mapM_at hm i i (by simp [hi])
        obtain ⟨s, hc, rfl, _⟩ := DataW.trod_string he hf
        have h1 : cs[i]? = some (.string s) := by
          have := congrArg (·[0]?) hc
          simpa [List.getElem?_take, List.getElem?_drop] using this
        have h2 : (xs.map (·.1))[i]? = some (DataW.lit (.string s.data.toList) : DataW H) := by simp [hb]
        rw [hxs] at h2
        simp only [List.getElem?_map, Option.map_eq_some_iff, DataW.lit.injEq, Lit.string.injEq] at h2
        obtain ⟨z', hz', rfl⟩ := h2
        rw [List.getElem?_map, hz', h1]
        obtain ⟨a⟩ := s
        simp
      · rw [List.getElem?_eq_none (by omega), List.getElem?_eq_none (by simp; omega)]
    · cases h
/-- the cells of a variable that is laid -/
theorem var_of {P : Program} {w : World} {name : String} {g : Nat} {t : TypeId} {dd : DataW Unit} (hg : P.globalNamed name = some g) (hty : (P.globals[g]?).map (·.type) = some t) :
    ∀ {l : List (String × DataW Unit)} {ps : List MemPlace}, DataW.LaidVars P w l ps → (name, dd) ∈ l → ∃ cs T f fuel p, w.heap[g]? = some (.cells cs T f) ∧ DataW.trod (fun _ => ()) P w 0 (fun _ => true) false fuel t cs.toList = some (dd, p)
  | [], _, _, hm => by cases hm
  | (nm, d) :: r, ps, h, hm => by
    obtain ⟨g', t', cs, fuel, p, q, hg', ht', hvar, hd, hrest, _⟩ := h
    rcases List.mem_cons.1 hm with he' | hm
    · cases he'
      obtain rfl := Option.some.inj (hg.symm.trans hg')
      obtain rfl := Option.some.inj (hty.symm.trans ht')
      unfold World.var? at hvar
      rw [hg, Option.bind_some] at hvar
      split at hvar
      · rename_i cs' T f hb
        cases Option.some.inj hvar
        exact ⟨_, T, f, fuel, p, hb, hd⟩
      · cases hvar
    · exact var_of hg hty hrest hm
theorem iface_of {P : Program} {w : World} {t : TypeId} {ms : Array (String × TypeId)} {cs : List Value} {fuel : Nat} {nm : String} {d : DataW Unit} {p : List MemPlace} (ht : P.underlying t = some (.interface ms)) (h : DataW.trod (fun _ => ()) P w 0 (fun _ => true) false fuel t cs = some (.iface nm d, p)) :
    ∃ T x, cs = [.iface T x] := by
  cases fuel with
  | zero => simp [DataW.trod] at h
  | succ fuel =>
    unfold DataW.trod at h
    rw [ht] at h
    split at h <;> first
      | (rename_i hq; cases hq; done)
      | (cases h; done)
      | exact ⟨_, _, rfl⟩

end Go.Proofs.YtdmciknajaedmaaDoor.Came
