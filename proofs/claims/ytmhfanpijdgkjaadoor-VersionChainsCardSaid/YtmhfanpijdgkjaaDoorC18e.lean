/- PROVED: the law VersionChains returns true at all arguments, and its arguments read as before; over package-level variables that hold what the program's text lays. -/
import Derived.Test.YtmhfanpijdgkjaaDoorGR
import Derived.Test.YtmhfanpijdgkjaaDoorGS
set_option linter.unusedSimpArgs false
set_option linter.unusedVariables false
namespace Go.Proofs.YtmhfanpijdgkjaaDoor.versionChains
open Go.ChangeShapes Go.WideShapes Go.ChangeAt Go.RowKit Came
set_option maxRecDepth 100000

theorem pars : Tryd.f11.params = #[T_version_Version, T_version_Version, T_version_Version] := by kernel_rfl

theorem contract (H : Type) (enc : TypeId × Value → H) (W : World) (base : Nat) (args : Array Value) (ds gs : List (DataW H)) (before : List MemPlace)
    (hval : ∀ (j : Nat) t v, Tryd.f11.params[j]? = some t → args[j]? = some v → Value.okWide Tryd.prog W .any base t v)
    (hW : DataW.Whole enc Tryd.prog Tryd.f11.params.toList Rows.versionChainsSpec.vars false W args.toList ds gs before) (hL : laidMetH Tryd.prog Rows.versionChainsRow.laid W) (ho : W.ShapedOpen Tryd.prog) :
    Calls Tryd.prog 11 args W fun e W' => ∃ v, e = .returned v ∧ Rows.versionChainsSpec.post enc Tryd.prog Tryd.f11 false true false false W args v W' := by
  have hW' := hW
  obtain ⟨p, q, hA0, hV, rfl, hfz, hnd⟩ := hW
  have hA : DataW.TrodAll enc Tryd.prog W 0 (fun _ => true) true Tryd.f11.params.toList args.toList ds p := hA0
  rw [pars] at hA hval
  obtain ⟨v0, vs0, d0, ds0, p0, q0, hargs, rfl, rfl, h0, r0⟩ := trodAll_cons hA
  obtain ⟨v1, vs1, d1, ds1, p1, q1, rfl, rfl, rfl, h1, r1⟩ := trodAll_cons r0
  obtain ⟨v2, vs2, d2, ds2, p2, q2, rfl, rfl, rfl, h2, r2⟩ := trodAll_cons r1
  obtain ⟨rfl, rfl, rfl⟩ := trodAll_nil r2
  obtain rfl : args = #[v0, v1, v2] := by cases args; simp_all
  obtain ⟨rfl, rfl⟩ := trodVars_none hV
  have k0 := h0
  have lt0 : ∀ x ∈ p0, x.block < W.heap.size := by obtain ⟨m, hm⟩ := k0; exact DataW.trod_lt m _ _ _ hm
  have k1 := h1
  have lt1 : ∀ x ∈ p1, x.block < W.heap.size := by obtain ⟨m, hm⟩ := k1; exact DataW.trod_lt m _ _ _ hm
  have k2 := h2
  have lt2 : ∀ x ∈ p2, x.block < W.heap.size := by obtain ⟨m, hm⟩ := k2; exact DataW.trod_lt m _ _ _ hm
  clear hA0
  obtain ⟨fs0, hu0⟩ := s_Ver
  obtain ⟨cs0, rfl, hcs0⟩ := okWide_struct hu0 (hval 0 T_version_Version v0 rfl rfl)
  obtain ⟨x0, hx0, hc0⟩ : ∃ x : Ver, x.wf ∧ cs0.toList = verC x := by
    obtain ⟨m, hm⟩ := h0
    exact ver_of (Go.X.shp_of_trod hm)
  obtain rfl : cs0 = (verC x0).toArray := by rw [← hc0]
  obtain ⟨fs1, hu1⟩ := s_Ver
  obtain ⟨cs1, rfl, hcs1⟩ := okWide_struct hu1 (hval 1 T_version_Version v1 rfl rfl)
  obtain ⟨x1, hx1, hc1⟩ : ∃ x : Ver, x.wf ∧ cs1.toList = verC x := by
    obtain ⟨m, hm⟩ := h1
    exact ver_of (Go.X.shp_of_trod hm)
  obtain rfl : cs1 = (verC x1).toArray := by rw [← hc1]
  obtain ⟨fs2, hu2⟩ := s_Ver
  obtain ⟨cs2, rfl, hcs2⟩ := okWide_struct hu2 (hval 2 T_version_Version v2 rfl rfl)
  obtain ⟨x2, hx2, hc2⟩ : ∃ x : Ver, x.wf ∧ cs2.toList = verC x := by
    obtain ⟨m, hm⟩ := h2
    exact ver_of (Go.X.shp_of_trod hm)
  obtain rfl : cs2 = (verC x2).toArray := by rw [← hc2]
  have hT := tables18 hL ho
  refine (c_VersionChains hx0 hx1 hx2 hT W rfl).mono fun e W' => ?_
  rintro ⟨v, rfl, hs, rfl, hk⟩
  have bel : Below W.heap.size W W' := ⟨hs.os, hs.tape, hs.output, hk.1, fun k hk' => hk.2 k hk' id⟩
  exact ⟨_, rfl, _, _, _, [], _, [], hW', trodAll_mk1 (shut_bool u_bool _), (trodAll_cons_mk (Below.trod laidOut (by kernel_rfl) (of_decide_eq_true (by kernel_rfl)) k0 bel lt0) (trodAll_cons_mk (Below.trod laidOut (by kernel_rfl) (of_decide_eq_true (by kernel_rfl)) k1 bel lt1) (trodAll_cons_mk (Below.trod laidOut (by kernel_rfl) (of_decide_eq_true (by kernel_rfl)) k2 bel lt2) trodAll_mk0))), rfl, bel.frame _, fun h => by cases h⟩

def arg0 : Value := .agg #[.int .i64 0, .int .i64 0, .int .i64 0, .string ⟨#[]⟩]
def arg1 : Value := .agg #[.int .i64 0, .int .i64 0, .int .i64 0, .string ⟨#[]⟩]
def arg2 : Value := .agg #[.int .i64 0, .int .i64 0, .int .i64 0, .string ⟨#[]⟩]
theorem laid_met (os : Os) : laidMet Tryd.prog Rows.versionChainsRow.laid ((laidWorld18 os).forCall (fun _ _ => 0) ⟨#[], #[arg0, arg1, arg2], []⟩).memory :=
  laidMet_of_run' 8 (by kernel_rfl) (by kernel_rfl)
theorem reads (os : Os) {H : Type} (enc : TypeId × Value → H) : ∃ ds places, DataW.whole enc Tryd.prog ((laidWorld18 os).forCall (fun _ _ => 0) ⟨#[], #[arg0, arg1, arg2], []⟩).memory Tryd.f11.params.toList Rows.versionChainsSpec.vars false #[arg0, arg1, arg2].toList 8 = some (ds, [], places) :=
  ⟨[.agg [.agg [.lit (.int .i64 0), .lit (.int .i64 0), .lit (.int .i64 0)], .lit (.string [])], .agg [.agg [.lit (.int .i64 0), .lit (.int .i64 0), .lit (.int .i64 0)], .lit (.string [])], .agg [.agg [.lit (.int .i64 0), .lit (.int .i64 0), .lit (.int .i64 0)], .lit (.string [])]], [], by kernel_rfl⟩

set_option maxRecDepth 100000 in
theorem lifted (os : Os) (started : os.Started) (H : Type) (enc : TypeId × Value → H) (F : Stop.Interp) :
    ReturnsInHanded {} Tryd.checked os 11 .any ((OpenSpec.ofChange Rows.versionChainsSpec).preRow enc Tryd.prog Tryd.f11 Rows.versionChainsRow.domain false Rows.versionChainsRow.laid) (((OpenSpec.ofChange Rows.versionChainsSpec).at F).post enc Tryd.prog Tryd.f11 false true false false) := by
  obtain ⟨ds, places, hx⟩ := reads os enc
  refine returnsInHanded_of_row (C := Tryd.checked) (s := OpenSpec.ofChange Rows.versionChainsSpec) own started (by kernel_rfl) Tryd.func11
    (witness_row_at (enc := enc) (C := Tryd.checked) false (laidWorld18 os) #[arg0, arg1, arg2] rfl (by kernel_rfl) (by kernel_rfl) (by kernel_rfl)
      (OpenSpec.preRow_of_cond 8 hx (by kernel_rfl) (fun k hk => by cases hk) (by kernel_rfl) (laid_met os))) ?_
  intro W base args ds gs before hval hW _ _ _ hL ho _
  exact contract H enc W base args ds gs before hval hW hL ho

theorem said : Rows.VersionChainsSaid :=
  OpenClaim.holds_of_cond 11 Tryd.f11 rfl rfl rfl rfl rfl rfl rfl ⟨rfl, rfl, rfl, rfl, rfl⟩ rfl rfl rfl rfl rfl (by kernel_rfl) Tryd.func11 (by kernel_rfl)
    (of_decide_eq_true (by kernel_rfl)) (by unfold Func.isWrapper; first | (rw [if_pos (by decide +kernel)]; kernel_rfl) | (rw [if_neg (by decide +kernel)]; exact ⟨rfl, rfl⟩))
    (fun os started H enc _ F => by rw [OpenClaim.pre_eq_preRow]; exact lifted os started H enc F)

theorem plain (f : FuncId) (fn : Func) (hf : Tryd.pinned.checked.prog.funcNamed "syngraph/syngraphlaw18.VersionChains" = some f) (hfn : Tryd.pinned.checked.prog.funcs[f]? = some fn) :
    true = Tryd.pinned.checked.prog.looks [] ∧ ∀ (j : Nat) t, fn.params[j]? = some t → Tryd.pinned.checked.prog.wantsStandIn t = false := by
  obtain rfl : f = 11 := Option.some.inj ((show Tryd.prog.funcNamed "syngraph/syngraphlaw18.VersionChains" = some 11 by kernel_rfl).symm.trans hf) |>.symm
  obtain rfl : fn = Tryd.f11 := (Option.some.inj (Tryd.func11.symm.trans hfn)).symm
  refine ⟨by kernel_rfl, fun j t ht => ?_⟩
  rw [pars] at ht
  obtain rfl : t = T_version_Version := by have := Array.mem_of_getElem? ht; simpa using this
  exact (show Tryd.prog.wantsStandIn T_version_Version = false by kernel_rfl)

end Go.Proofs.YtmhfanpijdgkjaaDoor.versionChains
namespace Go.Proofs.YtmhfanpijdgkjaaDoor
theorem versionChainsCardHolds : Rows.VersionChainsCardSaid :=
  Claim7.holds_tied_plain_at .later [] _ _ _ _ versionChains.said (fun _ h => by cases h) (by kernel_rfl) (fun _ h => by cases h) versionChains_row_tie rfl ⟨rfl, rfl⟩ (by kernel_rfl) rfl versionChains.plain (by kernel_rfl)
#print axioms versionChainsCardHolds
end Go.Proofs.YtmhfanpijdgkjaaDoor
