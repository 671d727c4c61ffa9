/- PROVED: the law HistoryFinds returns true at all arguments, and its arguments read as before; over package-level variables that hold what the program's text lays. -/
import Derived.Test.YtmhfanpijdgkjaaDoorGX
import Derived.Test.YtmhfanpijdgkjaaDoorGY
set_option linter.unusedSimpArgs false
set_option linter.unusedVariables false
namespace Go.Proofs.YtmhfanpijdgkjaaDoor.historyFinds
open Go.ChangeShapes Go.WideShapes Go.ChangeAt Go.RowKit Came
set_option maxRecDepth 100000

theorem pars : Tryd.f5.params = #[T_S_history_Record, T_string] := by kernel_rfl

theorem contract (H : Type) (enc : TypeId × Value → H) (W : World) (base : Nat) (args : Array Value) (ds gs : List (DataW H)) (before : List MemPlace)
    (hval : ∀ (j : Nat) t v, Tryd.f5.params[j]? = some t → args[j]? = some v → Value.okWide Tryd.prog W .any base t v)
    (hW : DataW.Whole enc Tryd.prog Tryd.f5.params.toList Rows.historyFindsSpec.vars false W args.toList ds gs before) (hL : laidMetH Tryd.prog Rows.historyFindsRow.laid W) (ho : W.ShapedOpen Tryd.prog) :
    Calls Tryd.prog 5 args W fun e W' => ∃ v, e = .returned v ∧ Rows.historyFindsSpec.post enc Tryd.prog Tryd.f5 false true false false W args v W' := by
  have hW' := hW
  obtain ⟨p, q, hA0, hV, rfl, hfz, hnd⟩ := hW
  have hA : DataW.TrodAll enc Tryd.prog W 0 (fun _ => true) true Tryd.f5.params.toList args.toList ds p := hA0
  rw [pars] at hA hval
  obtain ⟨v0, vs0, d0, ds0, p0, q0, hargs, rfl, rfl, h0, r0⟩ := trodAll_cons hA
  obtain ⟨v1, vs1, d1, ds1, p1, q1, rfl, rfl, rfl, h1, r1⟩ := trodAll_cons r0
  obtain ⟨rfl, rfl, rfl⟩ := trodAll_nil r1
  obtain rfl : args = #[v0, v1] := by cases args; simp_all
  obtain ⟨rfl, rfl⟩ := trodVars_none hV
  have k0 := h0
  have lt0 : ∀ x ∈ p0, x.block < W.heap.size := by obtain ⟨m, hm⟩ := k0; exact DataW.trod_lt m _ _ _ hm
  have k1 := h1
  have lt1 : ∀ x ∈ p1, x.block < W.heap.size := by obtain ⟨m, hm⟩ := k1; exact DataW.trod_lt m _ _ _ hm
  clear hA0
  obtain ⟨a0, l0, c0, rfl⟩ := okWide_slice u_SRec (hval 0 T_S_history_Record v0 rfl rfl)
  obtain ⟨x0, hl0, hx0⟩ : ∃ xs : List (RecA × Value × Value), xs.length ≤ 9223372036854775807 ∧ Recs (· < W.heap.size) W.heap (.slice a0 l0 c0) xs := by
    obtain ⟨m, hm⟩ := h0
    exact recs_of (Go.X.shp_of_trod hm)
  obtain ⟨s1, rfl⟩ := okWide_string u_string (hval 1 T_string v1 rfl rfl)
  obtain ⟨⟨x1⟩⟩ := s1
  have hx1 : x1.length ≤ 9223372036854775807 := by
    obtain ⟨m, hm⟩ := h1
    obtain ⟨s, hs, hl⟩ := Go.X.shp_str u_string (Go.X.shp_of_trod hm)
    have e : [Value.string (ByteArray.mk (Array.mk x1))] = [Value.string s] := hs
    cases e
    exact hl
  obtain ⟨hS, hT⟩ := tables hL ho
  refine (c_HistoryFinds hx0 (fun _ h => h) hl0 hx1 hS hT W rfl).mono fun e W' => ?_
  rintro ⟨v, rfl, hs, rfl, hk⟩
  have bel : Below W.heap.size W W' := ⟨hs.os, hs.tape, hs.output, hk.1, fun k hk' => hk.2 k hk' id⟩
  exact ⟨_, rfl, _, _, _, [], _, [], hW', trodAll_mk1 (shut_bool u_bool _), (trodAll_cons_mk (Below.trod laidOut (by kernel_rfl) (of_decide_eq_true (by kernel_rfl)) k0 bel lt0) (trodAll_cons_mk (Below.trod laidOut (by kernel_rfl) (of_decide_eq_true (by kernel_rfl)) k1 bel lt1) trodAll_mk0)), rfl, bel.frame _, fun h => by cases h⟩

def arg0 : Value := .slice none 0 0
def arg1 : Value := .string ⟨#[]⟩
theorem laid_met (os : Os) : laidMet Tryd.prog Rows.historyFindsRow.laid ((laidWorld os).forCall (fun _ _ => 0) ⟨#[], #[arg0, arg1], []⟩).memory :=
  laidMet_of_run' 8 (by kernel_rfl) (by kernel_rfl)
theorem reads (os : Os) {H : Type} (enc : TypeId × Value → H) : ∃ ds places, DataW.whole enc Tryd.prog ((laidWorld os).forCall (fun _ _ => 0) ⟨#[], #[arg0, arg1], []⟩).memory Tryd.f5.params.toList Rows.historyFindsSpec.vars false #[arg0, arg1].toList 8 = some (ds, [], places) :=
  ⟨[.nil, .lit (.string [])], [], by kernel_rfl⟩

set_option maxRecDepth 100000 in
theorem lifted (os : Os) (started : os.Started) (H : Type) (enc : TypeId × Value → H) (F : Stop.Interp) :
    ReturnsInHanded {} Tryd.checked os 5 .any ((OpenSpec.ofChange Rows.historyFindsSpec).preRow enc Tryd.prog Tryd.f5 Rows.historyFindsRow.domain false Rows.historyFindsRow.laid) (((OpenSpec.ofChange Rows.historyFindsSpec).at F).post enc Tryd.prog Tryd.f5 false true false false) := by
  obtain ⟨ds, places, hx⟩ := reads os enc
  refine returnsInHanded_of_row (C := Tryd.checked) (s := OpenSpec.ofChange Rows.historyFindsSpec) own started (by kernel_rfl) Tryd.func5
    (witness_row_at (enc := enc) (C := Tryd.checked) false (laidWorld os) #[arg0, arg1] rfl (by kernel_rfl) (by kernel_rfl) (by kernel_rfl)
      (OpenSpec.preRow_of_cond 8 hx (by kernel_rfl) (fun k hk => by cases hk) (by kernel_rfl) (laid_met os))) ?_
  intro W base args ds gs before hval hW _ _ _ hL ho _
  exact contract H enc W base args ds gs before hval hW hL ho

theorem said : Rows.HistoryFindsSaid :=
  OpenClaim.holds_of_cond 5 Tryd.f5 rfl rfl rfl rfl rfl rfl rfl ⟨rfl, rfl, rfl, rfl, rfl⟩ rfl rfl rfl rfl rfl (by kernel_rfl) Tryd.func5 (by kernel_rfl)
    (of_decide_eq_true (by kernel_rfl)) (by unfold Func.isWrapper; first | (rw [if_pos (by decide +kernel)]; kernel_rfl) | (rw [if_neg (by decide +kernel)]; exact ⟨rfl, rfl⟩))
    (fun os started H enc _ F => by rw [OpenClaim.pre_eq_preRow]; exact lifted os started H enc F)

theorem plain (f : FuncId) (fn : Func) (hf : Tryd.pinned.checked.prog.funcNamed "syngraph/syngraphlaw22.HistoryFinds" = some f) (hfn : Tryd.pinned.checked.prog.funcs[f]? = some fn) :
    true = Tryd.pinned.checked.prog.looks [] ∧ ∀ (j : Nat) t, fn.params[j]? = some t → Tryd.pinned.checked.prog.wantsStandIn t = false := by
  obtain rfl : f = 5 := Option.some.inj ((show Tryd.prog.funcNamed "syngraph/syngraphlaw22.HistoryFinds" = some 5 by kernel_rfl).symm.trans hf) |>.symm
  obtain rfl : fn = Tryd.f5 := (Option.some.inj (Tryd.func5.symm.trans hfn)).symm
  refine ⟨by kernel_rfl, fun j t ht => ?_⟩
  rw [pars] at ht
  have hm : t = T_S_history_Record ∨ t = T_string := by have := Array.mem_of_getElem? ht; simpa using this
  rcases hm with rfl | rfl
  · exact (show Tryd.prog.wantsStandIn T_S_history_Record = false by kernel_rfl)
  · exact (show Tryd.prog.wantsStandIn T_string = false by kernel_rfl)

end Go.Proofs.YtmhfanpijdgkjaaDoor.historyFinds
namespace Go.Proofs.YtmhfanpijdgkjaaDoor
theorem historyFindsCardHolds : Rows.HistoryFindsCardSaid :=
  Claim7.holds_tied_plain_at .later [] _ _ _ _ historyFinds.said (fun _ h => by cases h) (by kernel_rfl) (fun _ h => by cases h) historyFinds_row_tie rfl ⟨rfl, rfl⟩ (by kernel_rfl) rfl historyFinds.plain (by kernel_rfl)
#print axioms historyFindsCardHolds
end Go.Proofs.YtmhfanpijdgkjaaDoor
