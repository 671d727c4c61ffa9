/- PROVED: the law HistoryDiffs returns true at all arguments, and its arguments read as before; over package-level variables that hold what the program's text lays. -/
import Derived.Test.YtmhfanpijdgkjaaDoorGL
import Derived.Test.YtmhfanpijdgkjaaDoorGM
namespace Go.Proofs.YtmhfanpijdgkjaaDoor.historyDiffs
open Go.ChangeShapes Go.WideShapes Go.ChangeAt Go.RowKit Came
set_option maxRecDepth 100000

theorem pars : Tryd.f4.params = #[T_S_history_Item, T_S_history_Item] := by kernel_rfl

theorem contract (H : Type) (enc : TypeId × Value → H) (W : World) (base : Nat) (args : Array Value) (ds gs : List (DataW H)) (before : List MemPlace)
    (hval : ∀ (j : Nat) t v, Tryd.f4.params[j]? = some t → args[j]? = some v → Value.okWide Tryd.prog W .any base t v)
    (hW : DataW.Whole enc Tryd.prog Tryd.f4.params.toList Rows.historyDiffsSpec.vars false W args.toList ds gs before) (hL : laidMetH Tryd.prog Rows.historyDiffsRow.laid W) (ho : W.ShapedOpen Tryd.prog) :
    Calls Tryd.prog 4 args W fun e W' => ∃ v, e = .returned v ∧ Rows.historyDiffsSpec.post enc Tryd.prog Tryd.f4 false true false false W args v W' := by
  have hW' := hW
  obtain ⟨p, q, hA0, hV, rfl, hfz, hnd⟩ := hW
  have hA : DataW.TrodAll enc Tryd.prog W 0 (fun _ => true) true Tryd.f4.params.toList args.toList ds p := hA0
  rw [pars] at hA hval
  obtain ⟨v0, vs0, d0, ds0, p0, q0, hargs, rfl, rfl, h0, r0⟩ := trodAll_cons hA
  obtain ⟨v1, vs1, d1, ds1, p1, q1, rfl, rfl, rfl, h1, r1⟩ := trodAll_cons r0
  obtain ⟨rfl, rfl, rfl⟩ := trodAll_nil r1
  obtain rfl : args = #[v0, v1] := by cases args; simp_all
  obtain ⟨rfl, rfl⟩ := trodVars_none hV
  have k0 := h0
  have lt0 : ∀ x ∈ p0, x.block < W.heap.size := by obtain ⟨m, hm⟩ := k0; exact DataW.trod_lt m _ _ _ hm
  have k1 := h1
  have lt1 : ∀ x ∈ p1, x.block < W.heap.size := by obtain ⟨m, hm⟩ := k1; exact DataW.trod_lt m _ _ _ hm
  clear hA0
  obtain ⟨a0, l0, c0, rfl⟩ := okWide_slice u_SItem (hval 0 T_S_history_Item v0 rfl rfl)
  obtain ⟨x0, hl0, hx0⟩ : ∃ xs : List Item, xs.length ≤ 9223372036854775807 ∧ Items (· < W.heap.size) W.heap (.slice a0 l0 c0) xs := by
    obtain ⟨m, hm⟩ := h0
    exact items_of (Go.X.shp_of_trod hm)
  obtain ⟨a1, l1, c1, rfl⟩ := okWide_slice u_SItem (hval 1 T_S_history_Item v1 rfl rfl)
  obtain ⟨x1, hl1, hx1⟩ : ∃ xs : List Item, xs.length ≤ 9223372036854775807 ∧ Items (· < W.heap.size) W.heap (.slice a1 l1 c1) xs := by
    obtain ⟨m, hm⟩ := h1
    exact items_of (Go.X.shp_of_trod hm)
  obtain ⟨hS, hT⟩ := tables hL ho
  refine (c_HistoryDiffs hx0 hx1 (fun _ h => h) (fun _ h => h) hl0 hl1 hT hS W rfl).mono fun e W' => ?_
  rintro ⟨v, rfl, hs, rfl, hk⟩
  have bel : Below W.heap.size W W' := ⟨hs.os, hs.tape, hs.output, hk.1, fun k hk' => hk.2 k hk' id⟩
  exact ⟨_, rfl, _, _, _, [], _, [], hW', trodAll_mk1 (shut_bool u_bool _), (trodAll_cons_mk (Below.trod laidOut (by kernel_rfl) (of_decide_eq_true (by kernel_rfl)) k0 bel lt0) (trodAll_cons_mk (Below.trod laidOut (by kernel_rfl) (of_decide_eq_true (by kernel_rfl)) k1 bel lt1) trodAll_mk0)), rfl, bel.frame _, fun h => by cases h⟩

def arg0 : Value := .slice none 0 0
def arg1 : Value := .slice none 0 0
theorem laid_met (os : Os) : laidMet Tryd.prog Rows.historyDiffsRow.laid ((laidWorld os).forCall (fun _ _ => 0) ⟨#[], #[arg0, arg1], []⟩).memory :=
  laidMet_of_run' 8 (by kernel_rfl) (by kernel_rfl)
theorem reads (os : Os) {H : Type} (enc : TypeId × Value → H) : ∃ ds places, DataW.whole enc Tryd.prog ((laidWorld os).forCall (fun _ _ => 0) ⟨#[], #[arg0, arg1], []⟩).memory Tryd.f4.params.toList Rows.historyDiffsSpec.vars false #[arg0, arg1].toList 8 = some (ds, [], places) :=
  ⟨[.nil, .nil], [], by kernel_rfl⟩

set_option maxRecDepth 100000 in
theorem lifted (os : Os) (started : os.Started) (H : Type) (enc : TypeId × Value → H) (F : Stop.Interp) :
    ReturnsInHanded {} Tryd.checked os 4 .any ((OpenSpec.ofChange Rows.historyDiffsSpec).preRow enc Tryd.prog Tryd.f4 Rows.historyDiffsRow.domain false Rows.historyDiffsRow.laid) (((OpenSpec.ofChange Rows.historyDiffsSpec).at F).post enc Tryd.prog Tryd.f4 false true false false) := by
  obtain ⟨ds, places, hx⟩ := reads os enc
  refine returnsInHanded_of_row (C := Tryd.checked) (s := OpenSpec.ofChange Rows.historyDiffsSpec) own started (by kernel_rfl) Tryd.func4
    (witness_row_at (enc := enc) (C := Tryd.checked) false (laidWorld os) #[arg0, arg1] rfl (by kernel_rfl) (by kernel_rfl) (by kernel_rfl)
      (OpenSpec.preRow_of_cond 8 hx (by kernel_rfl) (fun k hk => by cases hk) (by kernel_rfl) (laid_met os))) ?_
  intro W base args ds gs before hval hW _ _ _ hL ho _
  exact contract H enc W base args ds gs before hval hW hL ho

theorem said : Rows.HistoryDiffsSaid :=
  OpenClaim.holds_of_cond 4 Tryd.f4 rfl rfl rfl rfl rfl rfl rfl ⟨rfl, rfl, rfl, rfl, rfl⟩ rfl rfl rfl rfl rfl (by kernel_rfl) Tryd.func4 (by kernel_rfl)
    (of_decide_eq_true (by kernel_rfl)) (by unfold Func.isWrapper; first | (rw [if_pos (by decide +kernel)]; kernel_rfl) | (rw [if_neg (by decide +kernel)]; exact ⟨rfl, rfl⟩))
    (fun os started H enc _ F => by rw [OpenClaim.pre_eq_preRow]; exact lifted os started H enc F)

theorem plain (f : FuncId) (fn : Func) (hf : Tryd.pinned.checked.prog.funcNamed "syngraph/syngraphlaw22.HistoryDiffs" = some f) (hfn : Tryd.pinned.checked.prog.funcs[f]? = some fn) :
    true = Tryd.pinned.checked.prog.looks [] ∧ ∀ (j : Nat) t, fn.params[j]? = some t → Tryd.pinned.checked.prog.wantsStandIn t = false := by
  obtain rfl : f = 4 := Option.some.inj ((show Tryd.prog.funcNamed "syngraph/syngraphlaw22.HistoryDiffs" = some 4 by kernel_rfl).symm.trans hf) |>.symm
  obtain rfl : fn = Tryd.f4 := (Option.some.inj (Tryd.func4.symm.trans hfn)).symm
  refine ⟨by kernel_rfl, fun j t ht => ?_⟩
  rw [pars] at ht
  obtain rfl : t = T_S_history_Item := by have := Array.mem_of_getElem? ht; simpa using this
  exact (show Tryd.prog.wantsStandIn T_S_history_Item = false by kernel_rfl)

end Go.Proofs.YtmhfanpijdgkjaaDoor.historyDiffs
namespace Go.Proofs.YtmhfanpijdgkjaaDoor
theorem historyDiffsCardHolds : Rows.HistoryDiffsCardSaid :=
  Claim7.holds_tied_plain_at .later [] _ _ _ _ historyDiffs.said (fun _ h => by cases h) (by kernel_rfl) (fun _ h => by cases h) historyDiffs_row_tie rfl ⟨rfl, rfl⟩ (by kernel_rfl) rfl historyDiffs.plain (by kernel_rfl)
#print axioms historyDiffsCardHolds
end Go.Proofs.YtmhfanpijdgkjaaDoor
