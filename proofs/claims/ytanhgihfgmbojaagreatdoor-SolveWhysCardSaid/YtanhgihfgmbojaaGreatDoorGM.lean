/- JOINED: V27 V43a V43 -/
import Derived.Test.YtanhgihfgmbojaaGreatDoorGI
import Derived.Test.YtanhgihfgmbojaaGreatDoorGE
import Derived.Test.YtanhgihfgmbojaaGreatDoorCards
import Derived.Test.YtanhgihfgmbojaaGreatDoorTie
import Derived.WalkKit
import Derived.ProofKit
import Derived.OpenShut
import Derived.Below
import Derived.Deep.DeepHandedRow
import Derived.Lib.LaidTab
import Derived.Test.YtanhgihfgmbojaaGreatDoorG0
set_option linter.unusedSimpArgs false
set_option linter.unusedVariables false
/- What a row of this seat gives: items that came in, and the tables; and a world for the witnesses. -/
namespace Go.Proofs.YtanhgihfgmbojaaGreatDoor.Came
open Go.X
set_option maxRecDepth 100000

theorem own : ownKnob Tryz.prog.godebug = none := by kernel_rfl
theorem laidOut : laidOutB Tryz.prog = true := by kernel_rfl
theorem u_bool : Tryz.prog.underlying 4 = some .bool := by kernel_rfl

/-- the fields of a struct, as its offsets and types -/
noncomputable def flds (t : TypeId) (l : List (Nat × TypeId)) : Bool := match prg.underlying t with
  | some (.struct fs) => fs.toList.map (fun f => (f.offset, f.type)) == l
  | _ => false
theorem shp_flds {w : World} {d : Nat} {t : TypeId} {l : List (Nat × TypeId)} {cs : List Value} (hl : flds t l = true) (h : Shp prg w d t cs) : ∃ d', cs.length = prg.cellsOf t ∧ ∀ (i o : Nat) (ty : TypeId), l[i]? = some (o, ty) → Shp prg w d' ty ((cs.drop o).take (prg.cellsOf ty)) := by
  unfold flds at hl
  split at hl
  · rename_i fs hu
    obtain ⟨d', h1, h2⟩ := shp_struct hu h
    refine ⟨d', h1, fun i o ty hi => ?_⟩
    have e := eq_of_beq hl
    rw [← e, List.getElem?_map] at hi
    obtain ⟨f, hf, he⟩ := Option.map_eq_some_iff.1 hi
    cases he
    exact h2 i f (by simpa using hf)
  · cases hl
theorem u_int : prg.underlying T_int = some (.int .i64) := by kernel_rfl
theorem u_string : prg.underlying T_string = some .string := by kernel_rfl
theorem u_Hash : ∃ e, prg.underlying T_sha_Hash = some (.array 32 e) ∧ prg.underlying e = some (.int .u8) ∧ prg.cellsOf e = 1 := ⟨T_uint8, by kernel_rfl, by kernel_rfl, by kernel_rfl⟩
theorem u_A3 : ∃ t e, (prg.underlying T_version_Version).isSome = true ∧ flds T_version_Version [(0, t), (3, T_string)] = true ∧ prg.underlying t = some (.array 3 e) ∧ prg.underlying e = some (.int .i64) ∧ prg.cellsOf e = 1 ∧ prg.cellsOf t = 3 := ⟨T_A3_int, T_int, by kernel_rfl, by kernel_rfl, by kernel_rfl, by kernel_rfl, by kernel_rfl, by kernel_rfl⟩
theorem cs_string : prg.cellsOf T_string = 1 := by kernel_rfl
theorem cs_Ver : prg.cellsOf T_version_Version = 4 := by kernel_rfl
theorem cs_Hash : prg.cellsOf T_sha_Hash = 32 := by kernel_rfl
theorem str_of {s : ByteArray} (h : s.size ≤ maxLen) : ∃ l : List UInt8, Value.string s = str l ∧ l.length ≤ 9223372036854775807 := ⟨s.data.toList, by cases s; rfl, by
  have : s.data.toList.length = s.size := by cases s; rfl
  rw [this]; exact h⟩
theorem ver_of {w : World} {d : Nat} {cs : List Value} (h : Shp prg w d T_version_Version cs) : ∃ v : Ver, v.wf ∧ cs = verC v := by
  obtain ⟨t, e, _, hf, ha, he, hc, hn⟩ := u_A3
  obtain ⟨d', hl, hfl⟩ := shp_flds hf h
  rw [cs_Ver] at hl
  have h0 := hfl 0 0 t rfl
  have h1 := hfl 1 3 T_string rfl
  rw [hn] at h0; rw [cs_string] at h1
  obtain ⟨p, hp, hpc, _⟩ := shp_ints ha he hc hn h0
  obtain ⟨s, hs, hsl⟩ := shp_str u_string h1
  obtain ⟨l, hsl', hll⟩ := str_of hsl
  refine ⟨⟨p, l⟩, ⟨hp, hll⟩, ?_⟩
  have e1 : cs = cs.take 3 ++ cs.drop 3 := (List.take_append_drop 3 cs).symm
  rw [e1]
  rw [List.drop_zero] at hpc
  rw [List.take_of_length_le (by simp; omega)] at hs
  rw [hpc, hs, hsl']; rfl
theorem g_pow10 : prg.globalNamed "internal/strconv.uint64pow10" = some g_internal_strconv_uint64pow10 := by kernel_rfl
theorem size0 : (begin Tryz.prog (fun _ _ => 0) default).world.heap.size > NG ∧ Tryz.prog.globals.size = NG := ⟨of_decide_eq_true (by kernel_rfl), by kernel_rfl⟩
theorem szNG {W : World} (ho : W.ShapedOpen Tryz.prog) : NG ≤ W.heap.size := by
  obtain ⟨h1, h2⟩ := size0
  obtain ⟨o, _, ho, _⟩ := ho.2 NG (by rw [h2]; exact Nat.le_refl _) h1
  exact Nat.le_of_lt (Go.X.lt_of ho)
def lay (h : Array Obj) (g : Nat) (cs : List Value) : Array Obj := h.modify g fun
  | .cells _ t fr => .cells cs.toArray t fr
  | o => o
end Go.Proofs.YtanhgihfgmbojaaGreatDoor.Came

/- What a row gives: variables that are laid. -/
namespace Go.Proofs.YtanhgihfgmbojaaGreatDoor.Came
open Go.X
set_option maxRecDepth 100000

theorem int_rng {n : Int} (h : (Lit.int .i64 n).wf = true) : -9223372036854775808 ≤ n ∧ n ≤ 9223372036854775807 := by
  simp only [Lit.wf, IntKind.min, IntKind.max, IntKind.signed, IntKind.bits] at h
  simp at h
  omega

def tabS {H : Type} (zs : List (List UInt8)) : DataW H := .agg (zs.map fun l => .lit (.string l))
theorem cells_of_tabS {H : Type} {enc : TypeId × Value → H} {P : Program} {w : World} {base : Nat} {sp : Nat → Bool} {held : Bool} {fuel : Nat} {t e : TypeId} {n : Nat} {cs : List Value} {zs : List (List UInt8)} {p : List MemPlace}
    (ht : P.underlying t = some (.array n e)) (he : P.underlying e = some .string) (hce : P.cellsOf e = 1) (hct : P.cellsOf t = n)
    (h : DataW.trod enc P w base sp held fuel t cs = some (tabS zs, p)) : cs = zs.map str := by
  cases fuel with
  | zero => simp [DataW.trod] at h
  | succ fuel =>
    simp only [DataW.trod, ht, hce, hct, Nat.mul_one] at h
    split at h
    · rename_i hl
      obtain ⟨xs, hm, hx⟩ := Option.map_eq_some_iff.1 h
      have hxs : xs.map (·.1) = zs.map fun z => (DataW.lit (.string z) : DataW H) := by
        have := congrArg Prod.fst hx
        simpa [tabS] using this
      have hxl : xs.length = n := by simpa using Lib.mapM_length hm
      have hzl : zs.length = n := by
        have := congrArg List.length hxs
        simp at this
        omega
      apply List.ext_getElem?
      intro i
      by_cases hi : i < n
      · obtain ⟨b, hb, hf⟩ := Lib.mapM_at hm i i (by simp [hi])
        obtain ⟨s, hc, rfl, _⟩ := DataW.trod_string he hf
        have h1 : cs[i]? = some (.string s) := by
          have := congrArg (·[0]?) hc
          simpa [List.getElem?_take, List.getElem?_drop] using this
        have h2 : (xs.map (·.1))[i]? = some (DataW.lit (.string s.data.toList) : DataW H) := by simp [hb]
        rw [hxs] at h2
        simp only [List.getElem?_map, Option.map_eq_some_iff, DataW.lit.injEq, Lit.string.injEq] at h2
        obtain ⟨z', hz', rfl⟩ := h2
        rw [List.getElem?_map, hz', h1]
        obtain ⟨a⟩ := s
        simp
      · rw [List.getElem?_eq_none (by omega), List.getElem?_eq_none (by simp; omega)]
    · cases h
/-- the cells of a variable that is laid -/
theorem var_of {P : Program} {w : World} {name : String} {g : Nat} {t : TypeId} {dd : DataW Unit} (hg : P.globalNamed name = some g) (hty : (P.globals[g]?).map (·.type) = some t) :
    ∀ {l : List (String × DataW Unit)} {ps : List MemPlace}, DataW.LaidVars P w l ps → (name, dd) ∈ l → ∃ cs T f fuel p, w.heap[g]? = some (.cells cs T f) ∧ DataW.trod (fun _ => ()) P w 0 (fun _ => true) false fuel t cs.toList = some (dd, p)
  | [], _, _, hm => by cases hm
  | (nm, d) :: r, ps, h, hm => by
    obtain ⟨g', t', cs, fuel, p, q, hg', ht', hvar, hd, hrest, _⟩ := h
    rcases List.mem_cons.1 hm with he' | hm
    · cases he'
      obtain rfl := Option.some.inj (hg.symm.trans hg')
      obtain rfl := Option.some.inj (hty.symm.trans ht')
      unfold World.var? at hvar
      rw [hg, Option.bind_some] at hvar
      split at hvar
      · rename_i cs' T f hb
        cases Option.some.inj hvar
        exact ⟨_, T, f, fuel, p, hb, hd⟩
      · cases hvar
    · exact var_of hg hty hrest hm
theorem iface_of {P : Program} {w : World} {t : TypeId} {ms : Array (String × TypeId)} {cs : List Value} {fuel : Nat} {nm : String} {d : DataW Unit} {p : List MemPlace} (ht : P.underlying t = some (.interface ms)) (h : DataW.trod (fun _ => ()) P w 0 (fun _ => true) false fuel t cs = some (.iface nm d, p)) :
    ∃ T x, cs = [.iface T x] := by
  cases fuel with
  | zero => simp [DataW.trod] at h
  | succ fuel =>
    unfold DataW.trod at h
    rw [ht] at h
    split at h <;> first
      | (rename_i hq; cases hq; done)
      | (cases h; done)
      | exact ⟨_, _, rfl⟩

theorem g_ErrSyntax : prg.globalNamed "strconv.ErrSyntax" = some g_strconv_ErrSyntax := by kernel_rfl
theorem g_ErrRange : prg.globalNamed "strconv.ErrRange" = some g_strconv_ErrRange := by kernel_rfl
theorem t_err : ∃ t ms, (prg.globals[g_strconv_ErrSyntax]?).map (·.type) = some t ∧ (prg.globals[g_strconv_ErrRange]?).map (·.type) = some t ∧ prg.underlying t = some (.interface ms) := by
  have h : (match (prg.globals[g_strconv_ErrSyntax]?).map (·.type), (prg.globals[g_strconv_ErrRange]?).map (·.type) with
    | some t, some t' => Nat.beq t t' && (match prg.underlying t with | some (.interface _) => true | _ => false)
    | _, _ => false) = true := by kernel_rfl
  split at h
  · rename_i t t' h1 h2
    simp only [Bool.and_eq_true] at h
    obtain ⟨h3, h4⟩ := h
    have e := Nat.eq_of_beq_eq_true h3
    subst e
    split at h4
    · rename_i ms hu
      exact ⟨t, ms, h1, h2, hu⟩
    · cases h4
  · cases h
end Go.Proofs.YtanhgihfgmbojaaGreatDoor.Came

/- What a row of layer 18 gives: versions and wants that came in, and the tables; and a world for the witnesses. -/
namespace Go.Proofs.YtanhgihfgmbojaaGreatDoor.Came
open Go.X
set_option maxRecDepth 100000

theorem f_Want : flds T_version_Want [(0, T_string), (1, T_version_Version)] = true := by kernel_rfl
theorem cs_Want : prg.cellsOf T_version_Want = 5 := by kernel_rfl
theorem want_of {w : World} {d : Nat} {cs : List Value} (h : Shp prg w d T_version_Want cs) : ∃ x : Want, x.wf ∧ cs = wantC x := by
  obtain ⟨d', hl, hfl⟩ := shp_flds f_Want h
  rw [cs_Want] at hl
  have h0 := hfl 0 0 T_string rfl
  have h1 := hfl 1 1 T_version_Version rfl
  rw [cs_string] at h0; rw [cs_Ver] at h1
  obtain ⟨s, hs, hsl⟩ := shp_str u_string h0
  obtain ⟨n, hsn, hnl⟩ := str_of hsl
  obtain ⟨v, hv, hvc⟩ := ver_of h1
  refine ⟨⟨n, v⟩, ⟨hv, hnl⟩, ?_⟩
  have e1 : cs = (cs.drop 0).take 1 ++ (cs.drop 1).take 4 := by
    rw [List.take_of_length_le (l := cs.drop 1) (by simp; omega), List.drop_zero]
    exact (List.take_append_drop 1 cs).symm
  rw [e1, hs, hvc, hsn]; rfl
theorem g_ops : prg.globalNamed "syngraph/version.ops" = some g_version_ops := by kernel_rfl
theorem t_ops : ∃ t, (prg.globals[g_version_ops]?).map (·.type) = some t ∧ prg.underlying t = some (.array 8 T_string) ∧ prg.cellsOf t = 8 := ⟨T_A8_string, by kernel_rfl, by kernel_rfl, by kernel_rfl⟩
/-- WHAT THE ROWS' LIST GIVES. -/
theorem tables18 {W : World} (h : laidMetH Tryz.prog Rows.solveFindsRow.laid W) (ho : W.ShapedOpen Tryz.prog) : VerT W.heap := by
  have h : laidMet Tryz.prog Rows.solveFindsRow.laid W := h
  obtain ⟨ps, hv, _⟩ := h
  obtain ⟨t, ms, h1, h2, hu⟩ := t_err
  refine ⟨⟨?_, ?_⟩, ⟨?_, szNG ho⟩, ?_⟩
  · obtain ⟨cs, T, f, fuel, p, hb, hd⟩ := var_of (dd := Rows.laid_strconv_ErrSyntax) g_ErrSyntax h1 hv (by repeat (first | exact List.Mem.head _ | refine List.Mem.tail _ ?_))
    obtain ⟨T', x, hcs⟩ := iface_of hu hd
    exact ⟨T', x, T, f, by rw [hb]; congr 2; apply Array.ext'; rw [hcs]⟩
  · obtain ⟨cs, T, f, fuel, p, hb, hd⟩ := var_of (dd := Rows.laid_strconv_ErrRange) g_ErrRange h2 hv (by repeat (first | exact List.Mem.head _ | refine List.Mem.tail _ ?_))
    obtain ⟨T', x, hcs⟩ := iface_of hu hd
    exact ⟨T', x, T, f, by rw [hb]; congr 2; apply Array.ext'; rw [hcs]⟩
  · exact tab_of (t := T_A20_uint64) (e := T_uint64) (n := 20) g_pow10 (by kernel_rfl) (by kernel_rfl) (by kernel_rfl) (by kernel_rfl) (by kernel_rfl) hv (by repeat (first | exact List.Mem.head _ | refine List.Mem.tail _ ?_))
  · obtain ⟨t, ht, hu, hc⟩ := t_ops
    obtain ⟨cs, T, f, fuel, p, hb, hd⟩ := var_of (dd := tabS opsP) g_ops ht hv (by repeat (first | exact List.Mem.head _ | refine List.Mem.tail _ ?_))
    have := cells_of_tabS hu u_string cs_string hc hd
    exact ⟨T, f, by rw [hb]; congr 2; apply Array.ext'; rw [this]⟩

/-- A WORLD FOR THE WITNESSES -/
def flatS : DataW Unit → List Value
  | .agg l => l.map fun
    | .lit (.string s) => .string ⟨s.toArray⟩
    | _ => .bool false
  | _ => []
end Go.Proofs.YtanhgihfgmbojaaGreatDoor.Came

