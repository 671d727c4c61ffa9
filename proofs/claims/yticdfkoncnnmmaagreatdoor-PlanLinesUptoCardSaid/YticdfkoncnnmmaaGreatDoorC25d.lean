/- PROVED: the law PlanLines returns true at all arguments, and its arguments read as before; over package-level variables that hold what the program's text lays. -/
import Derived.Test.YticdfkoncnnmmaaGreatDoorKF
set_option linter.unusedSimpArgs false
set_option linter.unusedVariables false
namespace Go.Proofs.YticdfkoncnnmmaaGreatDoor.planLines
open Go.ChangeShapes Go.WideShapes Go.ChangeAt Go.RowKit Came
set_option maxRecDepth 100000
theorem plain (f:FuncId) (fn:Func) (hf:Tryz.pinned.checked.prog.funcNamed "syngraph/syngraphlaw25.PlanLines" = some f) (hfn:Tryz.pinned.checked.prog.funcs[f]? = some fn) :
    true=Tryz.pinned.checked.prog.looks []/\∀ (j:Nat) t,fn.params[j]? = some t->Tryz.pinned.checked.prog.wantsStandIn t=false:=by
  obtain rfl:f=7:=Option.some.inj ((show Tryz.prog.funcNamed "syngraph/syngraphlaw25.PlanLines" = some 7 by kernel_rfl).symm.trans hf) |>.symm
  obtain rfl:fn=Tryz.f7:=(Option.some.inj (Tryz.func7.symm.trans hfn)).symm
  refine⟨by kernel_rfl,fun j t ht=>?_⟩
  rw[zAmG]at ht
  obtain rfl:t=zCu:=by have:=Array.mem_of_getElem? ht;simpa using this
  exact(show Tryz.prog.wantsStandIn zCu=false by kernel_rfl)
end Go.Proofs.YticdfkoncnnmmaaGreatDoor.planLines
namespace Go.Proofs.YticdfkoncnnmmaaGreatDoor
theorem planLinesUptoCardHolds:Rows.PlanLinesUptoCardSaid :=
  Claim7.holds_tied_plain_at .later [] _ _ _ _ planLines.said (fun _ h=>by cases h) (by kernel_rfl) (fun _ h=>by cases h) planLinesUpto_row_tie rfl ⟨rfl,rfl⟩ (by kernel_rfl) rfl planLines.plain (by kernel_rfl)
#print axioms planLinesUptoCardHolds
end Go.Proofs.YticdfkoncnnmmaaGreatDoor
