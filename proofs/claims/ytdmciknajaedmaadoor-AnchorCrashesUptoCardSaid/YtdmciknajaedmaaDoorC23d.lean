/- PROVED: the law AnchorCrashes returns true at all arguments, and its arguments read as before; over package-level variables that hold what the program's text lays. -/
import Derived.Test.YtdmciknajaedmaaDoorG9
import Derived.Test.YtdmciknajaedmaaDoorG8
set_option linter.unusedSimpArgs false
set_option linter.unusedVariables false
namespace Go.Proofs.YtdmciknajaedmaaDoor.anchorCrashes
open Go.ChangeShapes Go.WideShapes Go.ChangeAt Go.RowKit Came
set_option maxRecDepth 100000

theorem pars : Tryd.f3.params = #[T_S_history_Record, T_history_Record, T_int] := by kernel_rfl

theorem contract (H : Type) (enc : TypeId × Value → H) (W : World) (base : Nat) (args : Array Value) (ds gs : List (DataW H)) (before : List MemPlace)
    (hval : ∀ (j : Nat) t v, Tryd.f3.params[j]? = some t → args[j]? = some v → Value.okWide Tryd.prog W .any base t v)
    (hW : DataW.Whole enc Tryd.prog Tryd.f3.params.toList Rows.anchorCrashesSpec.vars false W args.toList ds gs before) (hbk : Rows.uptoSmall H (ds ++ gs) = true) (hL : laidMetH Tryd.prog Rows.anchorCrashesUptoRow.laid W) (ho : W.ShapedOpen Tryd.prog) :
    Calls Tryd.prog 3 args W fun e W' => ∃ v, e = .returned v ∧ Rows.anchorCrashesSpec.post enc Tryd.prog Tryd.f3 false true false false W args v W' := by
  have hW' := hW
  obtain ⟨p, q, hA0, hV, rfl, hfz, hnd⟩ := hW
  have hA : DataW.TrodAll enc Tryd.prog W 0 (fun _ => true) true Tryd.f3.params.toList args.toList ds p := hA0
  rw [pars] at hA hval
  obtain ⟨v0, vs0, d0, ds0, p0, q0, hargs, rfl, rfl, h0, r0⟩ := trodAll_cons hA
  obtain ⟨v1, vs1, d1, ds1, p1, q1, rfl, rfl, rfl, h1, r1⟩ := trodAll_cons r0
  obtain ⟨v2, vs2, d2, ds2, p2, q2, rfl, rfl, rfl, h2, r2⟩ := trodAll_cons r1
  obtain ⟨rfl, rfl, rfl⟩ := trodAll_nil r2
  obtain rfl : args = #[v0, v1, v2] := by cases args; simp_all
  obtain ⟨rfl, rfl⟩ := trodVars_none hV
  have k0 := h0
  have lt0 : ∀ x ∈ p0, x.block < W.heap.size := by obtain ⟨m, hm⟩ := k0; exact DataW.trod_lt m _ _ _ hm
  have k1 := h1
  have lt1 : ∀ x ∈ p1, x.block < W.heap.size := by obtain ⟨m, hm⟩ := k1; exact DataW.trod_lt m _ _ _ hm
  have k2 := h2
  have lt2 : ∀ x ∈ p2, x.block < W.heap.size := by obtain ⟨m, hm⟩ := k2; exact DataW.trod_lt m _ _ _ hm
  clear hA0
  obtain ⟨a0, l0, c0, rfl⟩ := okWide_slice u_SRec (hval 0 T_S_history_Record v0 rfl rfl)
  obtain ⟨x0, hl0, hx0⟩ : ∃ xs : List (RecA × Value × Value), xs.length ≤ 9223372036854775807 ∧ Recs (· < W.heap.size) W.heap (.slice a0 l0 c0) xs := by
    obtain ⟨m, hm⟩ := h0
    exact recs_of (Go.X.shp_of_trod hm)
  obtain ⟨fs1, hu1⟩ := s_Rec
  obtain ⟨cs1, rfl, hcs1⟩ := okWide_struct hu1 (hval 1 T_history_Record v1 rfl rfl)
  obtain ⟨x1, y1, hx1, hc1⟩ : ∃ (x : RecA) (y : Value × Value), RawIn (· < W.heap.size) W.heap x y ∧ cs1.toList = rawC x y := by
    obtain ⟨m, hm⟩ := h1
    exact rec_of (Go.X.shp_of_trod hm)
  obtain rfl : cs1 = (rawC x1 y1).toArray := by rw [← hc1]
  obtain ⟨x2, rfl⟩ := okWide_int u_int (hval 2 T_int v2 rfl rfl)
  have hx2 : -9223372036854775808 ≤ x2 ∧ x2 ≤ 9223372036854775807 := by
    obtain ⟨m, hm⟩ := h2
    obtain ⟨n, hn, hw⟩ := Go.X.shp_int u_int (Go.X.shp_of_trod hm)
    have e : [Value.int .i64 x2] = [Value.int .i64 n] := hn
    cases e
    exact int_rng hw
  have hbb := bulk_bound hbk
  have hb0 : Rows.uptoBulk d0 ≤ 1048576 := Nat.le_trans (bulk_at (by simp)) hbb
  have hn0 : x0.length ≤ 1048576 := by
    obtain ⟨m, hm⟩ := k0
    have h1 := slice_bulk u_SRec hm
    have h2 := hx0.len
    have h3 : (l0 : Int) = (x0.length : Int) := by
      have : Go.X.lenV (.slice a0 l0 c0) = some (Value.int .i64 l0) := rfl
      rw [this] at h2
      simpa using h2
    omega
  have hb1 : Rows.uptoBulk d1 ≤ 1048576 := Nat.le_trans (bulk_at (by simp)) hbb
  have hb2 : Rows.uptoBulk d2 ≤ 1048576 := Nat.le_trans (bulk_at (by simp)) hbb
  obtain ⟨hS, hT⟩ := tables hL ho
  refine (c_AnchorCrashes hx0 hn0 hx1 hS hT W rfl).mono fun e W' => ?_
  rintro ⟨v, rfl, hs, rfl, hk⟩
  have bel : Below W.heap.size W W' := ⟨hs.os, hs.tape, hs.output, hk.1, fun k hk' => hk.2 k hk' id⟩
  exact ⟨_, rfl, _, _, _, [], _, [], hW', trodAll_mk1 (shut_bool u_bool _), (trodAll_cons_mk (Below.trod laidOut (by kernel_rfl) (of_decide_eq_true (by kernel_rfl)) k0 bel lt0) (trodAll_cons_mk (Below.trod laidOut (by kernel_rfl) (of_decide_eq_true (by kernel_rfl)) k1 bel lt1) (trodAll_cons_mk (Below.trod laidOut (by kernel_rfl) (of_decide_eq_true (by kernel_rfl)) k2 bel lt2) trodAll_mk0))), rfl, bel.frame _, fun h => by cases h⟩

def arg0 : Value := .slice none 0 0
def arg1 : Value := .agg ([Value.int .i64 0, .slice none 0 0, .slice none 0 0, .int .i64 0] ++ List.replicate 32 (Value.int .u8 0)).toArray
def arg2 : Value := .int .i64 0
theorem laid_met (os : Os) : laidMet Tryd.prog Rows.anchorCrashesUptoRow.laid ((laidWorld os).forCall (fun _ _ => 0) ⟨#[], #[arg0, arg1, arg2], []⟩).memory :=
  laidMet_of_run' 8 (by kernel_rfl) (by kernel_rfl)
theorem reads (os : Os) {H : Type} (enc : TypeId × Value → H) : ∃ places, DataW.whole enc Tryd.prog ((laidWorld os).forCall (fun _ _ => 0) ⟨#[], #[arg0, arg1, arg2], []⟩).memory Tryd.f3.params.toList Rows.anchorCrashesSpec.vars false #[arg0, arg1, arg2].toList 8 = some ([.nil, .agg [.lit (.int .i64 0), .nil, .nil, .agg [.lit (.int .i64 0), .agg (List.replicate 32 (.lit (.int .u8 0)))]], .lit (.int .i64 0)], [], places) :=
  ⟨[], by kernel_rfl⟩

set_option maxRecDepth 100000 in
theorem lifted (os : Os) (started : os.Started) (H : Type) (enc : TypeId × Value → H) (F : Stop.Interp) :
    ReturnsInHanded {} Tryd.checked os 3 .any ((Rows.OpenSpec.upto Rows.anchorCrashesSpec).preRow enc Tryd.prog Tryd.f3 Rows.anchorCrashesUptoRow.domain false Rows.anchorCrashesUptoRow.laid) (((Rows.OpenSpec.upto Rows.anchorCrashesSpec).at F).post enc Tryd.prog Tryd.f3 false true false false) := by
  obtain ⟨places, hx⟩ := reads os enc
  refine returnsInHanded_of_row (C := Tryd.checked) (s := Rows.OpenSpec.upto Rows.anchorCrashesSpec) own started (by kernel_rfl) Tryd.func3
    (witness_row_at (enc := enc) (C := Tryd.checked) false (laidWorld os) #[arg0, arg1, arg2] rfl (by kernel_rfl) (by kernel_rfl) (by kernel_rfl)
      (OpenSpec.preRow_of_cond 8 hx (by kernel_rfl) (fun k hk => by cases hk; kernel_rfl) (by kernel_rfl) (laid_met os))) ?_
  intro W base args ds gs before hval hW _ hcond _ hL ho _
  exact contract H enc W base args ds gs before hval hW (hcond _ rfl) hL ho

theorem said : Rows.AnchorCrashesUptoSaid :=
  OpenClaim.holds_of_cond 3 Tryd.f3 rfl rfl rfl rfl rfl rfl rfl ⟨rfl, rfl, rfl, rfl, rfl⟩ rfl rfl rfl rfl rfl (by kernel_rfl) Tryd.func3 (by kernel_rfl)
    (of_decide_eq_true (by kernel_rfl)) (by unfold Func.isWrapper; first | (rw [if_pos (by decide +kernel)]; kernel_rfl) | (rw [if_neg (by decide +kernel)]; exact ⟨rfl, rfl⟩))
    (fun os started H enc _ F => by rw [OpenClaim.pre_eq_preRow]; exact lifted os started H enc F)

theorem plain (f : FuncId) (fn : Func) (hf : Tryd.pinned.checked.prog.funcNamed "syngraph/syngraphlaw23.AnchorCrashes" = some f) (hfn : Tryd.pinned.checked.prog.funcs[f]? = some fn) :
    false = Tryd.pinned.checked.prog.looks [] ∧ ∀ (j : Nat) t, fn.params[j]? = some t → Tryd.pinned.checked.prog.wantsStandIn t = false := by
  obtain rfl : f = 3 := Option.some.inj ((show Tryd.prog.funcNamed "syngraph/syngraphlaw23.AnchorCrashes" = some 3 by kernel_rfl).symm.trans hf) |>.symm
  obtain rfl : fn = Tryd.f3 := (Option.some.inj (Tryd.func3.symm.trans hfn)).symm
  refine ⟨by kernel_rfl, fun j t ht => ?_⟩
  rw [pars] at ht
  have hm : t = T_S_history_Record ∨ t = T_history_Record ∨ t = T_int := by have := Array.mem_of_getElem? ht; simpa using this
  rcases hm with rfl | rfl | rfl
  · exact (show Tryd.prog.wantsStandIn T_S_history_Record = false by kernel_rfl)
  · exact (show Tryd.prog.wantsStandIn T_history_Record = false by kernel_rfl)
  · exact (show Tryd.prog.wantsStandIn T_int = false by kernel_rfl)

end Go.Proofs.YtdmciknajaedmaaDoor.anchorCrashes
namespace Go.Proofs.YtdmciknajaedmaaDoor
theorem anchorCrashesUptoCardHolds : Rows.AnchorCrashesUptoCardSaid :=
  Claim7.holds_tied_plain_at .later [] _ _ _ _ anchorCrashes.said (fun _ h => by cases h) (by kernel_rfl) (fun _ h => by cases h) anchorCrashesUpto_row_tie rfl ⟨rfl, rfl⟩ (by kernel_rfl) rfl anchorCrashes.plain (by kernel_rfl)
#print axioms anchorCrashesUptoCardHolds
end Go.Proofs.YtdmciknajaedmaaDoor
