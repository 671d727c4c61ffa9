/- PROVED: the law HistoryHeads returns true at every head, and its argument reads as before; over package-level variables that hold what the program's text lays. -/
import Derived.Test.YtmhfanpijdgkjaaDoorV14
import Derived.Test.YtmhfanpijdgkjaaDoorXS
import Derived.Test.YtmhfanpijdgkjaaDoorCards
import Derived.Test.YtmhfanpijdgkjaaDoorTie
import Derived.WalkKit
import Derived.ProofKit
import Derived.OpenShut
import Derived.Below
import Derived.Deep.DeepHandedRow
import Derived.Lib.LaidTab
namespace Go.Proofs.YtmhfanpijdgkjaaDoor.historyHeads
open Go.ChangeShapes Go.WideShapes Go.ChangeAt Go.RowKit
set_option maxRecDepth 100000

theorem own : ownKnob Tryd.prog.godebug = none := by kernel_rfl
theorem laidOut : laidOutB Tryd.prog = true := by kernel_rfl

theorem u_Head : ∃ fs f0 f1, prg.underlying T_head_Head = some (.struct fs) ∧ fs[0]? = some f0 ∧ fs[1]? = some f1 ∧ f0.offset = 0 ∧ f0.type = T_int ∧ f1.offset = 1 ∧ f1.type = T_sha_Hash := by
  have h : (match prg.underlying T_head_Head with
    | some (.struct fs) => (match fs[0]?, fs[1]? with
      | some a, some b => a.offset == 0 && a.type == T_int && b.offset == 1 && b.type == T_sha_Hash
      | _, _ => false)
    | _ => false) = true := by kernel_rfl
  split at h
  · rename_i fs hfs
    split at h
    · rename_i a b ha hb
      simp only [Bool.and_eq_true, beq_iff_eq] at h
      obtain ⟨⟨⟨h1, h2⟩, h3⟩, h4⟩ := h
      exact ⟨fs, a, b, hfs, ha, hb, h1, h2, h3, h4⟩
    · cases h
  · cases h
theorem u_int : prg.underlying T_int = some (.int .i64) := by kernel_rfl
theorem u_Hash : ∃ e, prg.underlying T_sha_Hash = some (.array 32 e) ∧ prg.underlying e = some (.int .u8) ∧ prg.cellsOf e = 1 := ⟨T_uint8, by kernel_rfl, by kernel_rfl, by kernel_rfl⟩
theorem c_int : prg.cellsOf T_int = 1 := by kernel_rfl
theorem c_Head : prg.cellsOf T_head_Head = 33 := by kernel_rfl
theorem u_bool : Tryd.prog.underlying 4 = some .bool := by kernel_rfl
theorem pars : Tryd.f3.params = #[T_head_Head] := by kernel_rfl

/-- what comes in -/
theorem head_of {w : World} {d : Nat} {cs : List Value} (h : Go.X.Shp prg w d T_head_Head cs) : ∃ s r, r.length = 32 ∧ cs = Value.int .i64 s :: Go.X.bcells r := by
  obtain ⟨fs, f0, f1, hu, h0, h1, o0, t0, o1, t1⟩ := u_Head
  obtain ⟨d', hl, hf⟩ := Go.X.shp_struct hu h
  rw [c_Head] at hl
  have g0 := hf 0 f0 h0
  have g1 := hf 1 f1 h1
  rw [o0, t0, c_int] at g0
  rw [o1, t1, c_Hash] at g1
  obtain ⟨s, hs, _⟩ := Go.X.shp_int u_int g0
  obtain ⟨e, he, hb, hc⟩ := u_Hash
  obtain ⟨l, hll, hlc, hlw⟩ := Go.X.shp_ints he hb hc c_Hash g1
  obtain ⟨r, hr, hrc⟩ := Go.X.ints_bytes hlw
  refine ⟨s, r, by omega, ?_⟩
  match cs, hl with
  | c :: cs, hl =>
    have e0 : c = Value.int .i64 s := by simpa using hs
    have e1 : cs = Go.X.bcells r := by
      rw [← hrc, ← hlc]
      simp only [List.drop_succ_cons, List.drop_zero]
      rw [List.take_of_length_le (by simp at hl; omega)]
    rw [e0, e1]

theorem g_begin : prg.globalNamed "syngraph/sha.begin" = some g_sha_begin := by kernel_rfl
theorem g_table : prg.globalNamed "syngraph/sha.table" = some g_sha_table := by kernel_rfl
theorem size0 : (begin Tryd.prog (fun _ _ => 0) default).world.heap.size > NG ∧ Tryd.prog.globals.size = NG := ⟨of_decide_eq_true (by kernel_rfl), by kernel_rfl⟩
/-- WHAT THE ROW's LIST GIVES. -/
theorem tables {W : World} (h : laidMetH Tryd.prog Rows.historyHeadsRow.laid W) (ho : W.ShapedOpen Tryd.prog) : ShaT W.heap := by
  have h : laidMet Tryd.prog Rows.historyHeadsRow.laid W := h
  obtain ⟨ps, hv, _⟩ := h
  refine ⟨?_, ?_, ?_⟩
  · exact Go.X.tab_of (t := T_A8_uint32) (e := T_uint32) (n := 8) g_begin (by kernel_rfl) (by kernel_rfl) (by kernel_rfl) (by kernel_rfl) (by kernel_rfl) hv (.tail _ (.tail _ (.tail _ (.tail _ (.head _)))))
  · exact Go.X.tab_of (t := T_A64_uint32) (e := T_uint32) (n := 64) g_table (by kernel_rfl) (by kernel_rfl) (by kernel_rfl) (by kernel_rfl) (by kernel_rfl) hv (.tail _ (.tail _ (.tail _ (.tail _ (.tail _ (.head _))))))
  · obtain ⟨h1, h2⟩ := size0
    obtain ⟨o, _, ho, _⟩ := ho.2 NG (by rw [h2]; exact Nat.le_refl _) h1
    exact Nat.le_of_lt (Go.X.lt_of ho)

theorem contract (H : Type) (enc : TypeId × Value → H) (W : World) (base : Nat) (args : Array Value) (ds gs : List (DataW H)) (before : List MemPlace)
    (hval : ∀ (j : Nat) t v, Tryd.f3.params[j]? = some t → args[j]? = some v → Value.okWide Tryd.prog W .any base t v)
    (hW : DataW.Whole enc Tryd.prog Tryd.f3.params.toList Rows.historyHeadsSpec.vars false W args.toList ds gs before) (hL : laidMetH Tryd.prog Rows.historyHeadsRow.laid W) (ho : W.ShapedOpen Tryd.prog) :
    Calls Tryd.prog 3 args W fun e W' => ∃ v, e = .returned v ∧ Rows.historyHeadsSpec.post enc Tryd.prog Tryd.f3 false true false false W args v W' := by
  have hW' := hW
  obtain ⟨p, q, hA0, hV, rfl, hfz, hnd⟩ := hW
  have hA : DataW.TrodAll enc Tryd.prog W 0 (fun _ => true) true Tryd.f3.params.toList args.toList ds p := hA0
  rw [pars] at hA hval
  obtain ⟨v0, vs0, d0, ds0, p0, q0, hargs, rfl, rfl, h0, r0⟩ := trodAll_cons hA
  obtain ⟨rfl, rfl, rfl⟩ := trodAll_nil r0
  obtain rfl : args = #[v0] := by cases args; simp_all
  obtain ⟨rfl, rfl⟩ := trodVars_none hV
  have k0 := h0
  have lt0 : ∀ x ∈ p0, x.block < W.heap.size := by obtain ⟨m, hm⟩ := k0; exact DataW.trod_lt m _ _ _ hm
  obtain ⟨fs, _, _, hu, _⟩ := u_Head
  obtain ⟨cs, rfl, hcs⟩ := okWide_struct hu (hval 0 T_head_Head v0 rfl rfl)
  obtain ⟨s, r, hr, hc⟩ : ∃ s r, r.length = 32 ∧ cs.toList = Value.int .i64 s :: Go.X.bcells r := by
    obtain ⟨m, hm⟩ := h0
    exact head_of (Go.X.shp_of_trod hm)
  obtain rfl : cs = (Value.int .i64 s :: Go.X.bcells r).toArray := by rw [← hc]
  clear hA0
  refine (c_HistoryHeads (tables hL ho) hr W rfl).mono fun e W' => ?_
  rintro ⟨v, rfl, hs, rfl, hk⟩
  have bel : Below W.heap.size W W' := ⟨hs.os, hs.tape, hs.output, hk.1, fun k hk' => hk.2 k hk' id⟩
  exact ⟨_, rfl, _, _, _, [], _, [], hW', trodAll_mk1 (shut_bool u_bool _), (trodAll_cons_mk (Below.trod laidOut (by kernel_rfl) (of_decide_eq_true (by kernel_rfl)) k0 bel lt0) trodAll_mk0), rfl, bel.frame _, fun h => by cases h⟩

/-- A WORLD FOR THE WITNESS: the settled one, its tables as their initialisers lay them. -/
def flat : DataW Unit → List Value
  | .agg l => l.map fun
    | .lit (.int k n) => .int k n
    | _ => .bool false
  | _ => []
def flat2 : DataW Unit → List Value
  | .agg l => l.flatMap flat
  | _ => []
def lay (h : Array Obj) (g : Nat) (cs : List Value) : Array Obj := h.modify g fun
  | .cells _ t fr => .cells cs.toArray t fr
  | o => o
def laidHeap (h : Array Obj) : Array Obj :=
  lay (lay (lay (lay (lay (lay (lay h g_math_bits_deBruijn32tab (flat Rows.laid_math_bits_deBruijn32tab)) g_math_bits_deBruijn64tab (flat Rows.laid_math_bits_deBruijn64tab)) g_internal_strconv_uint64pow10 (flat Rows.laid_internal_strconv_uint64pow10)) g_unicode_utf8_acceptRanges (flat2 Rows.laid_unicode_utf8_acceptRanges)) g_sha_begin (flat Rows.laid_syngraph_sha_begin)) g_sha_table (flat Rows.laid_syngraph_sha_table)) g_unicode_utf8_first (flat Rows.laid_unicode_utf8_first)
noncomputable def laidWorld (os : Os) : World :=
  { World.holding Tryd.prog os ⟨#[], #[], []⟩ with heap := laidHeap (World.holding Tryd.prog os ⟨#[], #[], []⟩).heap }
def arg0 : Value := .agg (Value.int .i64 0 :: List.replicate 32 (Value.int .u8 0)).toArray
theorem laid_met (os : Os) : laidMet Tryd.prog Rows.historyHeadsRow.laid ((laidWorld os).forCall (fun _ _ => 0) ⟨#[], #[arg0], []⟩).memory :=
  laidMet_of_run' 8 (by kernel_rfl) (by kernel_rfl)
theorem reads (os : Os) {H : Type} (enc : TypeId × Value → H) : ∃ ds places, DataW.whole enc Tryd.prog ((laidWorld os).forCall (fun _ _ => 0) ⟨#[], #[arg0], []⟩).memory Tryd.f3.params.toList Rows.historyHeadsSpec.vars false #[arg0].toList 8 = some (ds, [], places) :=
  ⟨[.agg [.lit (.int .i64 0), .agg (List.replicate 32 (.lit (.int .u8 0)))]], [], by kernel_rfl⟩

set_option maxRecDepth 100000 in
theorem lifted (os : Os) (started : os.Started) (H : Type) (enc : TypeId × Value → H) (F : Stop.Interp) :
    ReturnsInHanded {} Tryd.checked os 3 .any ((OpenSpec.ofChange Rows.historyHeadsSpec).preRow enc Tryd.prog Tryd.f3 Rows.historyHeadsRow.domain false Rows.historyHeadsRow.laid) (((OpenSpec.ofChange Rows.historyHeadsSpec).at F).post enc Tryd.prog Tryd.f3 false true false false) := by
  obtain ⟨ds, places, hx⟩ := reads os enc
  refine returnsInHanded_of_row (C := Tryd.checked) (s := OpenSpec.ofChange Rows.historyHeadsSpec) own started (by kernel_rfl) Tryd.func3
    (witness_row_at (enc := enc) (C := Tryd.checked) false (laidWorld os) #[arg0] rfl (by kernel_rfl) (by kernel_rfl) (by kernel_rfl)
      (OpenSpec.preRow_of_cond 8 hx (by kernel_rfl) (fun k hk => by cases hk) (by kernel_rfl) (laid_met os))) ?_
  intro W base args ds gs before hval hW _ _ _ hL ho _
  exact contract H enc W base args ds gs before hval hW hL ho

theorem said : Rows.HistoryHeadsSaid :=
  OpenClaim.holds_of_cond 3 Tryd.f3 rfl rfl rfl rfl rfl rfl rfl ⟨rfl, rfl, rfl, rfl, rfl⟩ rfl rfl rfl rfl rfl (by kernel_rfl) Tryd.func3 (by kernel_rfl)
    (of_decide_eq_true (by kernel_rfl)) (by unfold Func.isWrapper; first | (rw [if_pos (by decide +kernel)]; kernel_rfl) | (rw [if_neg (by decide +kernel)]; exact ⟨rfl, rfl⟩))
    (fun os started H enc _ F => by rw [OpenClaim.pre_eq_preRow]; exact lifted os started H enc F)

theorem plain (f : FuncId) (fn : Func) (hf : Tryd.pinned.checked.prog.funcNamed "syngraph/syngraphlaw22.HistoryHeads" = some f) (hfn : Tryd.pinned.checked.prog.funcs[f]? = some fn) :
    true = Tryd.pinned.checked.prog.looks [] ∧ ∀ (j : Nat) t, fn.params[j]? = some t → Tryd.pinned.checked.prog.wantsStandIn t = false := by
  obtain rfl : f = 3 := Option.some.inj ((show Tryd.prog.funcNamed "syngraph/syngraphlaw22.HistoryHeads" = some 3 by kernel_rfl).symm.trans hf) |>.symm
  obtain rfl : fn = Tryd.f3 := (Option.some.inj (Tryd.func3.symm.trans hfn)).symm
  refine ⟨by kernel_rfl, fun j t ht => ?_⟩
  rw [pars] at ht
  obtain rfl : t = T_head_Head := by simpa using Array.mem_of_getElem? ht
  exact (show Tryd.prog.wantsStandIn T_head_Head = false by kernel_rfl)

end Go.Proofs.YtmhfanpijdgkjaaDoor.historyHeads
namespace Go.Proofs.YtmhfanpijdgkjaaDoor
theorem historyHeadsCardHolds : Rows.HistoryHeadsCardSaid :=
  Claim7.holds_tied_plain_at .later [] _ _ _ _ historyHeads.said (fun _ h => by cases h) (by kernel_rfl) (fun _ h => by cases h) historyHeads_row_tie rfl ⟨rfl, rfl⟩ (by kernel_rfl) rfl historyHeads.plain (by kernel_rfl)
#print axioms historyHeadsCardHolds
end Go.Proofs.YtmhfanpijdgkjaaDoor
