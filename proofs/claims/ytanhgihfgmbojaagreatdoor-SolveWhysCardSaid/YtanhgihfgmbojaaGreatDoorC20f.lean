/- PROVED: the law SolveWhys returns true at all arguments, and its arguments read as before; over package-level variables that hold what the program's text lays. -/
import Derived.Test.YtanhgihfgmbojaaGreatDoorG31
import Derived.Test.YtanhgihfgmbojaaGreatDoorG13
set_option linter.unusedSimpArgs false
set_option linter.unusedVariables false
namespace Go.Proofs.YtanhgihfgmbojaaGreatDoor.solveWhys
open Go.ChangeShapes Go.WideShapes Go.ChangeAt Go.RowKit Came
set_option maxRecDepth 100000

theorem pars : Tryz.f8.params = #[T_solve_Problem, T_string] := by kernel_rfl

theorem contract (H : Type) (enc : TypeId × Value → H) (W : World) (base : Nat) (args : Array Value) (ds gs : List (DataW H)) (before : List MemPlace)
    (hval : ∀ (j : Nat) t v, Tryz.f8.params[j]? = some t → args[j]? = some v → Value.okWide Tryz.prog W .any base t v)
    (hW : DataW.Whole enc Tryz.prog Tryz.f8.params.toList Rows.solveWhysSpec.vars false W args.toList ds gs before) (hL : laidMetH Tryz.prog Rows.solveWhysRow.laid W) (ho : W.ShapedOpen Tryz.prog) :
    Calls Tryz.prog 8 args W fun e W' => ∃ v, e = .returned v ∧ Rows.solveWhysSpec.post enc Tryz.prog Tryz.f8 false true false false W args v W' := by
  have hW' := hW
  obtain ⟨p, q, hA0, hV, rfl, hfz, hnd⟩ := hW
  have hA : DataW.TrodAll enc Tryz.prog W 0 (fun _ => true) true Tryz.f8.params.toList args.toList ds p := hA0
  rw [pars] at hA hval
  obtain ⟨v0, vs0, d0, ds0, p0, q0, hargs, rfl, rfl, h0, r0⟩ := trodAll_cons hA
  obtain ⟨v1, vs1, d1, ds1, p1, q1, rfl, rfl, rfl, h1, r1⟩ := trodAll_cons r0
  obtain ⟨rfl, rfl, rfl⟩ := trodAll_nil r1
  obtain rfl : args = #[v0, v1] := by cases args; simp_all
  obtain ⟨rfl, rfl⟩ := trodVars_none hV
  have k0 := h0
  have lt0 : ∀ x ∈ p0, x.block < W.heap.size := by obtain ⟨m, hm⟩ := k0; exact DataW.trod_lt m _ _ _ hm
  have k1 := h1
  have lt1 : ∀ x ∈ p1, x.block < W.heap.size := by obtain ⟨m, hm⟩ := k1; exact DataW.trod_lt m _ _ _ hm
  clear hA0
  obtain ⟨fs0, hu0⟩ := s_Prb
  obtain ⟨cs0, rfl, hcs0⟩ := okWide_struct hu0 (hval 0 T_solve_Problem v0 rfl rfl)
  obtain ⟨x0, w0, vh0, vw0, b0, hx0, hc0⟩ : ∃ (mv : List MV) (wants : List Dep) (vh vw : Value) (b : Int), Prb0 (· < W.heap.size) W.heap mv wants vh vw ∧ cs0.toList = prbC vh vw b := by
    obtain ⟨m, hm⟩ := h0
    exact prob_of (Go.X.shp_of_trod hm)
  obtain rfl : cs0 = (prbC vh0 vw0 b0).toArray := by rw [← hc0]
  obtain ⟨s1, rfl⟩ := okWide_string u_string (hval 1 T_string v1 rfl rfl)
  obtain ⟨⟨x1⟩⟩ := s1
  have hx1 : x1.length ≤ 9223372036854775807 := by
    obtain ⟨m, hm⟩ := h1
    obtain ⟨s, hs, hl⟩ := Go.X.shp_str u_string (Go.X.shp_of_trod hm)
    have e : [Value.string (ByteArray.mk (Array.mk x1))] = [Value.string s] := hs
    cases e
    exact hl
  have hT := tables18 hL ho
  refine (c_SolveWhys hx0 (fun b hb => hb) hx1 hT W rfl).mono fun e W' => ?_
  rintro ⟨v, rfl, hs, rfl, hk⟩
  have bel : Below W.heap.size W W' := ⟨hs.os, hs.tape, hs.output, hk.1, fun k hk' => hk.2 k hk' id⟩
  exact ⟨_, rfl, _, _, _, [], _, [], hW', trodAll_mk1 (shut_bool u_bool _), (trodAll_cons_mk (Below.trod laidOut (by kernel_rfl) (of_decide_eq_true (by kernel_rfl)) k0 bel lt0) (trodAll_cons_mk (Below.trod laidOut (by kernel_rfl) (of_decide_eq_true (by kernel_rfl)) k1 bel lt1) trodAll_mk0)), rfl, bel.frame _, fun h => by cases h⟩

def arg0 : Value := .agg #[.slice none 0 0, .slice none 0 0, .int .i64 0]
def arg1 : Value := .string ⟨#[]⟩
theorem laid_met (os : Os) : laidMet Tryz.prog Rows.solveWhysRow.laid ((laidWorld20 os).forCall (fun _ _ => 0) ⟨#[], #[arg0, arg1], []⟩).memory :=
  laidMet_of_run' 8 (by kernel_rfl) (by kernel_rfl)
theorem reads (os : Os) {H : Type} (enc : TypeId × Value → H) : ∃ ds places, DataW.whole enc Tryz.prog ((laidWorld20 os).forCall (fun _ _ => 0) ⟨#[], #[arg0, arg1], []⟩).memory Tryz.f8.params.toList Rows.solveWhysSpec.vars false #[arg0, arg1].toList 8 = some (ds, [], places) :=
  ⟨[.agg [.nil, .nil, .lit (.int .i64 0)], .lit (.string [])], [], by kernel_rfl⟩

set_option maxRecDepth 100000 in
theorem lifted (os : Os) (started : os.Started) (H : Type) (enc : TypeId × Value → H) (F : Stop.Interp) :
    ReturnsInHanded {} Tryz.checked os 8 .any ((OpenSpec.ofChange Rows.solveWhysSpec).preRow enc Tryz.prog Tryz.f8 Rows.solveWhysRow.domain false Rows.solveWhysRow.laid) (((OpenSpec.ofChange Rows.solveWhysSpec).at F).post enc Tryz.prog Tryz.f8 false true false false) := by
  obtain ⟨ds, places, hx⟩ := reads os enc
  refine returnsInHanded_of_row (C := Tryz.checked) (s := OpenSpec.ofChange Rows.solveWhysSpec) own started (by kernel_rfl) Tryz.func8
    (witness_row_at (enc := enc) (C := Tryz.checked) false (laidWorld20 os) #[arg0, arg1] rfl (by kernel_rfl) (by kernel_rfl) (by kernel_rfl)
      (OpenSpec.preRow_of_cond 8 hx (by kernel_rfl) (fun k hk => by cases hk) (by kernel_rfl) (laid_met os))) ?_
  intro W base args ds gs before hval hW _ _ _ hL ho _
  exact contract H enc W base args ds gs before hval hW hL ho

theorem said : Rows.SolveWhysSaid :=
  OpenClaim.holds_of_cond 8 Tryz.f8 rfl rfl rfl rfl rfl rfl rfl ⟨rfl, rfl, rfl, rfl, rfl⟩ rfl rfl rfl rfl rfl (by kernel_rfl) Tryz.func8 (by kernel_rfl)
    (of_decide_eq_true (by kernel_rfl)) (by unfold Func.isWrapper; first | (rw [if_pos (by decide +kernel)]; kernel_rfl) | (rw [if_neg (by decide +kernel)]; exact ⟨rfl, rfl⟩))
    (fun os started H enc _ F => by rw [OpenClaim.pre_eq_preRow]; exact lifted os started H enc F)

theorem plain (f : FuncId) (fn : Func) (hf : Tryz.pinned.checked.prog.funcNamed "syngraph/syngraphlaw20.SolveWhys" = some f) (hfn : Tryz.pinned.checked.prog.funcs[f]? = some fn) :
    true = Tryz.pinned.checked.prog.looks [] ∧ ∀ (j : Nat) t, fn.params[j]? = some t → Tryz.pinned.checked.prog.wantsStandIn t = false := by
  obtain rfl : f = 8 := Option.some.inj ((show Tryz.prog.funcNamed "syngraph/syngraphlaw20.SolveWhys" = some 8 by kernel_rfl).symm.trans hf) |>.symm
  obtain rfl : fn = Tryz.f8 := (Option.some.inj (Tryz.func8.symm.trans hfn)).symm
  refine ⟨by kernel_rfl, fun j t ht => ?_⟩
  rw [pars] at ht
  have hm : t = T_solve_Problem ∨ t = T_string := by have := Array.mem_of_getElem? ht; simpa using this
  rcases hm with rfl | rfl
  · exact (show Tryz.prog.wantsStandIn T_solve_Problem = false by kernel_rfl)
  · exact (show Tryz.prog.wantsStandIn T_string = false by kernel_rfl)

end Go.Proofs.YtanhgihfgmbojaaGreatDoor.solveWhys
namespace Go.Proofs.YtanhgihfgmbojaaGreatDoor
theorem solveWhysCardHolds : Rows.SolveWhysCardSaid :=
  Claim7.holds_tied_plain_at .later [] _ _ _ _ solveWhys.said (fun _ h => by cases h) (by kernel_rfl) (fun _ h => by cases h) solveWhys_row_tie rfl ⟨rfl, rfl⟩ (by kernel_rfl) rfl solveWhys.plain (by kernel_rfl)
#print axioms solveWhysCardHolds
end Go.Proofs.YtanhgihfgmbojaaGreatDoor
