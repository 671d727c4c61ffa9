/- PROVED: the law HistoryRecords returns true at all arguments, and its arguments read as before; over package-level variables that hold what the program's text lays. -/
import Derived.Test.YtmhfanpijdgkjaaGreatDoorGX
set_option linter.unusedSimpArgs false
set_option linter.unusedVariables false
namespace Go.Proofs.YtmhfanpijdgkjaaGreatDoor.historyRecords
open Go.ChangeShapes Go.WideShapes Go.ChangeAt Go.RowKit Came
set_option maxRecDepth 100000

theorem pars : Tryz.f4.params = #[T_history_Record] := by kernel_rfl

theorem contract (H : Type) (enc : TypeId × Value → H) (W : World) (base : Nat) (args : Array Value) (ds gs : List (DataW H)) (before : List MemPlace)
    (hval : ∀ (j : Nat) t v, Tryz.f4.params[j]? = some t → args[j]? = some v → Value.okWide Tryz.prog W .any base t v)
    (hW : DataW.Whole enc Tryz.prog Tryz.f4.params.toList Rows.historyRecordsSpec.vars false W args.toList ds gs before) (hL : laidMetH Tryz.prog Rows.historyRecordsRow.laid W) (ho : W.ShapedOpen Tryz.prog) :
    Calls Tryz.prog 4 args W fun e W' => ∃ v, e = .returned v ∧ Rows.historyRecordsSpec.post enc Tryz.prog Tryz.f4 false true false false W args v W' := by
  have hW' := hW
  obtain ⟨p, q, hA0, hV, rfl, hfz, hnd⟩ := hW
  have hA : DataW.TrodAll enc Tryz.prog W 0 (fun _ => true) true Tryz.f4.params.toList args.toList ds p := hA0
  rw [pars] at hA hval
  obtain ⟨v0, vs0, d0, ds0, p0, q0, hargs, rfl, rfl, h0, r0⟩ := trodAll_cons hA
  obtain ⟨rfl, rfl, rfl⟩ := trodAll_nil r0
  obtain rfl : args = #[v0] := by cases args; simp_all
  obtain ⟨rfl, rfl⟩ := trodVars_none hV
  have k0 := h0
  have lt0 : ∀ x ∈ p0, x.block < W.heap.size := by obtain ⟨m, hm⟩ := k0; exact DataW.trod_lt m _ _ _ hm
  clear hA0
  obtain ⟨fs0, hu0⟩ := s_Rec
  obtain ⟨cs0, rfl, hcs0⟩ := okWide_struct hu0 (hval 0 T_history_Record v0 rfl rfl)
  obtain ⟨x0, y0, hx0, hc0⟩ : ∃ (x : RecA) (y : Value × Value), RawIn (· < W.heap.size) W.heap x y ∧ cs0.toList = rawC x y := by
    obtain ⟨m, hm⟩ := h0
    exact rec_of (Go.X.shp_of_trod hm)
  obtain rfl : cs0 = (rawC x0 y0).toArray := by rw [← hc0]
  obtain ⟨hS, hT, hE⟩ := tables22 hL ho
  refine (c_HistoryRecords hx0 hS hT hE W rfl).mono fun e W' => ?_
  rintro ⟨v, rfl, hs, rfl, hk⟩
  have bel : Below W.heap.size W W' := ⟨hs.os, hs.tape, hs.output, hk.1, fun k hk' => hk.2 k hk' id⟩
  exact ⟨_, rfl, _, _, _, [], _, [], hW', trodAll_mk1 (shut_bool u_bool _), (trodAll_cons_mk (Below.trod laidOut (by kernel_rfl) (of_decide_eq_true (by kernel_rfl)) k0 bel lt0) trodAll_mk0), rfl, bel.frame _, fun h => by cases h⟩

def arg0 : Value := .agg ([Value.int .i64 0, .slice none 0 0, .slice none 0 0, .int .i64 0] ++ List.replicate 32 (Value.int .u8 0)).toArray
theorem laid_met (os : Os) : laidMet Tryz.prog Rows.historyRecordsRow.laid ((laidWorld22 os).forCall (fun _ _ => 0) ⟨#[], #[arg0], []⟩).memory :=
  laidMet_of_run' 8 (by kernel_rfl) (by kernel_rfl)
theorem reads (os : Os) {H : Type} (enc : TypeId × Value → H) : ∃ ds places, DataW.whole enc Tryz.prog ((laidWorld22 os).forCall (fun _ _ => 0) ⟨#[], #[arg0], []⟩).memory Tryz.f4.params.toList Rows.historyRecordsSpec.vars false #[arg0].toList 8 = some (ds, [], places) :=
  ⟨[.agg [.lit (.int .i64 0), .nil, .nil, .agg [.lit (.int .i64 0), .agg (List.replicate 32 (.lit (.int .u8 0)))]]], [], by kernel_rfl⟩

set_option maxRecDepth 100000 in
theorem lifted (os : Os) (started : os.Started) (H : Type) (enc : TypeId × Value → H) (F : Stop.Interp) :
    ReturnsInHanded {} Tryz.checked os 4 .any ((OpenSpec.ofChange Rows.historyRecordsSpec).preRow enc Tryz.prog Tryz.f4 Rows.historyRecordsRow.domain false Rows.historyRecordsRow.laid) (((OpenSpec.ofChange Rows.historyRecordsSpec).at F).post enc Tryz.prog Tryz.f4 false true false false) := by
  obtain ⟨ds, places, hx⟩ := reads os enc
  refine returnsInHanded_of_row (C := Tryz.checked) (s := OpenSpec.ofChange Rows.historyRecordsSpec) own started (by kernel_rfl) Tryz.func4
    (witness_row_at (enc := enc) (C := Tryz.checked) false (laidWorld22 os) #[arg0] rfl (by kernel_rfl) (by kernel_rfl) (by kernel_rfl)
      (OpenSpec.preRow_of_cond 8 hx (by kernel_rfl) (fun k hk => by cases hk) (by kernel_rfl) (laid_met os))) ?_
  intro W base args ds gs before hval hW _ _ _ hL ho _
  exact contract H enc W base args ds gs before hval hW hL ho

theorem said : Rows.HistoryRecordsSaid :=
  OpenClaim.holds_of_cond 4 Tryz.f4 rfl rfl rfl rfl rfl rfl rfl ⟨rfl, rfl, rfl, rfl, rfl⟩ rfl rfl rfl rfl rfl (by kernel_rfl) Tryz.func4 (by kernel_rfl)
    (of_decide_eq_true (by kernel_rfl)) (by unfold Func.isWrapper; first | (rw [if_pos (by decide +kernel)]; kernel_rfl) | (rw [if_neg (by decide +kernel)]; exact ⟨rfl, rfl⟩))
    (fun os started H enc _ F => by rw [OpenClaim.pre_eq_preRow]; exact lifted os started H enc F)

theorem plain (f : FuncId) (fn : Func) (hf : Tryz.pinned.checked.prog.funcNamed "syngraph/syngraphlaw22.HistoryRecords" = some f) (hfn : Tryz.pinned.checked.prog.funcs[f]? = some fn) :
    true = Tryz.pinned.checked.prog.looks [] ∧ ∀ (j : Nat) t, fn.params[j]? = some t → Tryz.pinned.checked.prog.wantsStandIn t = false := by
  obtain rfl : f = 4 := Option.some.inj ((show Tryz.prog.funcNamed "syngraph/syngraphlaw22.HistoryRecords" = some 4 by kernel_rfl).symm.trans hf) |>.symm
  obtain rfl : fn = Tryz.f4 := (Option.some.inj (Tryz.func4.symm.trans hfn)).symm
  refine ⟨by kernel_rfl, fun j t ht => ?_⟩
  rw [pars] at ht
  obtain rfl : t = T_history_Record := by have := Array.mem_of_getElem? ht; simpa using this
  exact (show Tryz.prog.wantsStandIn T_history_Record = false by kernel_rfl)

end Go.Proofs.YtmhfanpijdgkjaaGreatDoor.historyRecords
namespace Go.Proofs.YtmhfanpijdgkjaaGreatDoor
theorem historyRecordsCardHolds : Rows.HistoryRecordsCardSaid :=
  Claim7.holds_tied_plain_at .later [] _ _ _ _ historyRecords.said (fun _ h => by cases h) (by kernel_rfl) (fun _ h => by cases h) historyRecords_row_tie rfl ⟨rfl, rfl⟩ (by kernel_rfl) rfl historyRecords.plain (by kernel_rfl)
#print axioms historyRecordsCardHolds
end Go.Proofs.YtmhfanpijdgkjaaGreatDoor
