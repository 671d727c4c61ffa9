/- PROVED: the law HistoryCollides returns true at all arguments, and its arguments read as before; over package-level variables that hold what the program's text lays. -/
import Derived.Test.YtconalffokhplaaDoorG7
import Derived.Test.YtconalffokhplaaDoorG8
set_option linter.unusedSimpArgs false
set_option linter.unusedVariables false
namespace Go.Proofs.YtconalffokhplaaDoor.historyCollides
open Go.ChangeShapes Go.WideShapes Go.ChangeAt Go.RowKit Came
set_option maxRecDepth 100000

theorem pars : Tryd.f3.params = #[T_S_history_Record, T_S_history_Record] := by kernel_rfl

theorem contract (H : Type) (enc : TypeId × Value → H) (W : World) (base : Nat) (args : Array Value) (ds gs : List (DataW H)) (before : List MemPlace)
    (hval : ∀ (j : Nat) t v, Tryd.f3.params[j]? = some t → args[j]? = some v → Value.okWide Tryd.prog W .any base t v)
    (hW : DataW.Whole enc Tryd.prog Tryd.f3.params.toList Rows.historyCollidesSpec.vars false W args.toList ds gs before) (hbk : Rows.uptoSmall H (ds ++ gs) = true) (hL : laidMetH Tryd.prog Rows.historyCollidesUptoRow.laid W) (ho : W.ShapedOpen Tryd.prog) :
    Calls Tryd.prog 3 args W fun e W' => ∃ v, e = .returned v ∧ Rows.historyCollidesSpec.post enc Tryd.prog Tryd.f3 false true false false W args v W' := by
  have hW' := hW
  obtain ⟨p, q, hA0, hV, rfl, hfz, hnd⟩ := hW
  have hA : DataW.TrodAll enc Tryd.prog W 0 (fun _ => true) true Tryd.f3.params.toList args.toList ds p := hA0
  rw [pars] at hA hval
  obtain ⟨v0, vs0, d0, ds0, p0, q0, hargs, rfl, rfl, h0, r0⟩ := trodAll_cons hA
  obtain ⟨v1, vs1, d1, ds1, p1, q1, rfl, rfl, rfl, h1, r1⟩ := trodAll_cons r0
  obtain ⟨rfl, rfl, rfl⟩ := trodAll_nil r1
  obtain rfl : args = #[v0, v1] := by cases args; simp_all
  obtain ⟨rfl, rfl⟩ := trodVars_none hV
  have k0 := h0
  have lt0 : ∀ x ∈ p0, x.block < W.heap.size := by obtain ⟨m, hm⟩ := k0; exact DataW.trod_lt m _ _ _ hm
  have k1 := h1
  have lt1 : ∀ x ∈ p1, x.block < W.heap.size := by obtain ⟨m, hm⟩ := k1; exact DataW.trod_lt m _ _ _ hm
  clear hA0
  obtain ⟨a0, l0, c0, rfl⟩ := okWide_slice u_SRec (hval 0 T_S_history_Record v0 rfl rfl)
  obtain ⟨x0, hl0, hx0⟩ : ∃ xs : List (RecA × Value × Value), xs.length ≤ 9223372036854775807 ∧ Recs (· < W.heap.size) W.heap (.slice a0 l0 c0) xs := by
    obtain ⟨m, hm⟩ := h0
    exact recs_of (Go.X.shp_of_trod hm)
  obtain ⟨a1, l1, c1, rfl⟩ := okWide_slice u_SRec (hval 1 T_S_history_Record v1 rfl rfl)
  obtain ⟨x1, hl1, hx1⟩ : ∃ xs : List (RecA × Value × Value), xs.length ≤ 9223372036854775807 ∧ Recs (· < W.heap.size) W.heap (.slice a1 l1 c1) xs := by
    obtain ⟨m, hm⟩ := h1
    exact recs_of (Go.X.shp_of_trod hm)
  have hbb := bulk_bound hbk
  have hb0 : Rows.uptoBulk d0 ≤ 1048576 := Nat.le_trans (bulk_at (by simp)) hbb
  have hn0 : x0.length ≤ 1048576 := by
    obtain ⟨m, hm⟩ := k0
    have h1 := slice_bulk u_SRec hm
    have h2 := hx0.len
    have h3 : (l0 : Int) = (x0.length : Int) := by
      have : Go.X.lenV (.slice a0 l0 c0) = some (Value.int .i64 l0) := rfl
      rw [this] at h2
      simpa using h2
    omega
  have hb1 : Rows.uptoBulk d1 ≤ 1048576 := Nat.le_trans (bulk_at (by simp)) hbb
  have hn1 : x1.length ≤ 1048576 := by
    obtain ⟨m, hm⟩ := k1
    have h1 := slice_bulk u_SRec hm
    have h2 := hx1.len
    have h3 : (l1 : Int) = (x1.length : Int) := by
      have : Go.X.lenV (.slice a1 l1 c1) = some (Value.int .i64 l1) := rfl
      rw [this] at h2
      simpa using h2
    omega
  obtain ⟨hS, hT⟩ := tables hL ho
  refine (c_HistoryCollides hx0 hn0 hx1 hn1 hS hT W rfl).mono fun e W' => ?_
  rintro ⟨v, rfl, hs, rfl, hk⟩
  have bel : Below W.heap.size W W' := ⟨hs.os, hs.tape, hs.output, hk.1, fun k hk' => hk.2 k hk' id⟩
  exact ⟨_, rfl, _, _, _, [], _, [], hW', trodAll_mk1 (shut_bool u_bool _), (trodAll_cons_mk (Below.trod laidOut (by kernel_rfl) (of_decide_eq_true (by kernel_rfl)) k0 bel lt0) (trodAll_cons_mk (Below.trod laidOut (by kernel_rfl) (of_decide_eq_true (by kernel_rfl)) k1 bel lt1) trodAll_mk0)), rfl, bel.frame _, fun h => by cases h⟩

def arg0 : Value := .slice none 0 0
def arg1 : Value := .slice none 0 0
theorem laid_met (os : Os) : laidMet Tryd.prog Rows.historyCollidesUptoRow.laid ((laidWorld os).forCall (fun _ _ => 0) ⟨#[], #[arg0, arg1], []⟩).memory :=
  laidMet_of_run' 8 (by kernel_rfl) (by kernel_rfl)
theorem reads (os : Os) {H : Type} (enc : TypeId × Value → H) : ∃ places, DataW.whole enc Tryd.prog ((laidWorld os).forCall (fun _ _ => 0) ⟨#[], #[arg0, arg1], []⟩).memory Tryd.f3.params.toList Rows.historyCollidesSpec.vars false #[arg0, arg1].toList 8 = some ([.nil, .nil], [], places) :=
  ⟨[], by kernel_rfl⟩

set_option maxRecDepth 100000 in
theorem lifted (os : Os) (started : os.Started) (H : Type) (enc : TypeId × Value → H) (F : Stop.Interp) :
    ReturnsInHanded {} Tryd.checked os 3 .any ((Rows.OpenSpec.upto Rows.historyCollidesSpec).preRow enc Tryd.prog Tryd.f3 Rows.historyCollidesUptoRow.domain false Rows.historyCollidesUptoRow.laid) (((Rows.OpenSpec.upto Rows.historyCollidesSpec).at F).post enc Tryd.prog Tryd.f3 false true false false) := by
  obtain ⟨places, hx⟩ := reads os enc
  refine returnsInHanded_of_row (C := Tryd.checked) (s := Rows.OpenSpec.upto Rows.historyCollidesSpec) own started (by kernel_rfl) Tryd.func3
    (witness_row_at (enc := enc) (C := Tryd.checked) false (laidWorld os) #[arg0, arg1] rfl (by kernel_rfl) (by kernel_rfl) (by kernel_rfl)
      (OpenSpec.preRow_of_cond 8 hx (by kernel_rfl) (fun k hk => by cases hk; kernel_rfl) (by kernel_rfl) (laid_met os))) ?_
  intro W base args ds gs before hval hW _ hcond _ hL ho _
  exact contract H enc W base args ds gs before hval hW (hcond _ rfl) hL ho

theorem said : Rows.HistoryCollidesUptoSaid :=
  OpenClaim.holds_of_cond 3 Tryd.f3 rfl rfl rfl rfl rfl rfl rfl ⟨rfl, rfl, rfl, rfl, rfl⟩ rfl rfl rfl rfl rfl (by kernel_rfl) Tryd.func3 (by kernel_rfl)
    (of_decide_eq_true (by kernel_rfl)) (by unfold Func.isWrapper; first | (rw [if_pos (by decide +kernel)]; kernel_rfl) | (rw [if_neg (by decide +kernel)]; exact ⟨rfl, rfl⟩))
    (fun os started H enc _ F => by rw [OpenClaim.pre_eq_preRow]; exact lifted os started H enc F)

theorem plain (f : FuncId) (fn : Func) (hf : Tryd.pinned.checked.prog.funcNamed "syngraph/syngraphlaw22.HistoryCollides" = some f) (hfn : Tryd.pinned.checked.prog.funcs[f]? = some fn) :
    false = Tryd.pinned.checked.prog.looks [] ∧ ∀ (j : Nat) t, fn.params[j]? = some t → Tryd.pinned.checked.prog.wantsStandIn t = false := by
  obtain rfl : f = 3 := Option.some.inj ((show Tryd.prog.funcNamed "syngraph/syngraphlaw22.HistoryCollides" = some 3 by kernel_rfl).symm.trans hf) |>.symm
  obtain rfl : fn = Tryd.f3 := (Option.some.inj (Tryd.func3.symm.trans hfn)).symm
  refine ⟨by kernel_rfl, fun j t ht => ?_⟩
  rw [pars] at ht
  obtain rfl : t = T_S_history_Record := by have := Array.mem_of_getElem? ht; simpa using this
  exact (show Tryd.prog.wantsStandIn T_S_history_Record = false by kernel_rfl)

end Go.Proofs.YtconalffokhplaaDoor.historyCollides
namespace Go.Proofs.YtconalffokhplaaDoor
theorem historyCollidesUptoCardHolds : Rows.HistoryCollidesUptoCardSaid :=
  Claim7.holds_tied_plain_at .later [] _ _ _ _ historyCollides.said (fun _ h => by cases h) (by kernel_rfl) (fun _ h => by cases h) historyCollidesUpto_row_tie rfl ⟨rfl, rfl⟩ (by kernel_rfl) rfl historyCollides.plain (by kernel_rfl)
#print axioms historyCollidesUptoCardHolds
end Go.Proofs.YtconalffokhplaaDoor
