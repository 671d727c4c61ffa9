/- PROVED: the law PlanMakes returns true at all arguments, and its arguments read as before; over package-level variables that hold what the program's text lays. -/
import Derived.Test.YticdfkoncnnmmaaGreatDoorK5
set_option linter.unusedSimpArgs false
set_option linter.unusedVariables false
namespace Go.Proofs.YticdfkoncnnmmaaGreatDoor.planMakes
open Go.ChangeShapes Go.WideShapes Go.ChangeAt Go.RowKit Came
set_option maxRecDepth 100000
theorem plain (f:FuncId) (fn:Func) (hf:Tryz.pinned.checked.prog.funcNamed "syngraph/syngraphlaw25.PlanMakes" = some f) (hfn:Tryz.pinned.checked.prog.funcs[f]? = some fn) :
    true=Tryz.pinned.checked.prog.looks []/\∀ (j:Nat) t,fn.params[j]? = some t->Tryz.pinned.checked.prog.wantsStandIn t=false:=by
  obtain rfl:f=5:=Option.some.inj ((show Tryz.prog.funcNamed "syngraph/syngraphlaw25.PlanMakes" = some 5 by kernel_rfl).symm.trans hf) |>.symm
  obtain rfl:fn=Tryz.f5:=(Option.some.inj (Tryz.func5.symm.trans hfn)).symm
  refine⟨by kernel_rfl,fun j t ht=>?_⟩
  rw[zAmZ]at ht
  obtain rfl:t=zB5:=by have:=Array.mem_of_getElem? ht;simpa using this
  exact(show Tryz.prog.wantsStandIn zB5=false by kernel_rfl)
end Go.Proofs.YticdfkoncnnmmaaGreatDoor.planMakes
namespace Go.Proofs.YticdfkoncnnmmaaGreatDoor
theorem planMakesUptoCardHolds:Rows.PlanMakesUptoCardSaid :=
  Claim7.holds_tied_plain_at .later [] _ _ _ _ planMakes.said (fun _ h=>by cases h) (by kernel_rfl) (fun _ h=>by cases h) planMakesUpto_row_tie rfl ⟨rfl,rfl⟩ (by kernel_rfl) rfl planMakes.plain (by kernel_rfl)
#print axioms planMakesUptoCardHolds
end Go.Proofs.YticdfkoncnnmmaaGreatDoor
