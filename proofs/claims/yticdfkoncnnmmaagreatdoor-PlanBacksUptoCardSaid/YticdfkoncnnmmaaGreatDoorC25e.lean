/- PROVED: the law PlanBacks returns true at all arguments, and its arguments read as before; over package-level variables that hold what the program's text lays. -/
import Derived.Test.YticdfkoncnnmmaaGreatDoorKK
set_option linter.unusedSimpArgs false
set_option linter.unusedVariables false
namespace Go.Proofs.YticdfkoncnnmmaaGreatDoor.planBacks
open Go.ChangeShapes Go.WideShapes Go.ChangeAt Go.RowKit Came
set_option maxRecDepth 100000
theorem plain (f:FuncId) (fn:Func) (hf:Tryz.pinned.checked.prog.funcNamed "syngraph/syngraphlaw25.PlanBacks" = some f) (hfn:Tryz.pinned.checked.prog.funcs[f]? = some fn) :
    true=Tryz.pinned.checked.prog.looks []/\∀ (j:Nat) t,fn.params[j]? = some t->Tryz.pinned.checked.prog.wantsStandIn t=false:=by
  obtain rfl:f=8:=Option.some.inj ((show Tryz.prog.funcNamed "syngraph/syngraphlaw25.PlanBacks" = some 8 by kernel_rfl).symm.trans hf) |>.symm
  obtain rfl:fn=Tryz.f8:=(Option.some.inj (Tryz.func8.symm.trans hfn)).symm
  refine⟨by kernel_rfl,fun j t ht=>?_⟩
  rw[zAng]at ht
  have hm:t=zDu\/t=zF3\/t=zF4:=by have:=Array.mem_of_getElem? ht;simpa using this
  rcases hm with rfl|rfl|rfl
  · exact(show Tryz.prog.wantsStandIn zDu=false by kernel_rfl)
  · exact(show Tryz.prog.wantsStandIn zF3=false by kernel_rfl)
  · exact(show Tryz.prog.wantsStandIn zF4=false by kernel_rfl)
end Go.Proofs.YticdfkoncnnmmaaGreatDoor.planBacks
namespace Go.Proofs.YticdfkoncnnmmaaGreatDoor
theorem planBacksUptoCardHolds:Rows.PlanBacksUptoCardSaid :=
  Claim7.holds_tied_plain_at .later [] _ _ _ _ planBacks.said (fun _ h=>by cases h) (by kernel_rfl) (fun _ h=>by cases h) planBacksUpto_row_tie rfl ⟨rfl,rfl⟩ (by kernel_rfl) rfl planBacks.plain (by kernel_rfl)
#print axioms planBacksUptoCardHolds
end Go.Proofs.YticdfkoncnnmmaaGreatDoor
