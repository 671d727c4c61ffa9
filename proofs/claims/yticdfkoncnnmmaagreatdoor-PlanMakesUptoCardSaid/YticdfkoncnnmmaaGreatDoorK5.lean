import Derived.Test.YticdfkoncnnmmaaGreatDoorK2
import Derived.Test.YticdfkoncnnmmaaGreatDoorK3
import Derived.Test.YticdfkoncnnmmaaGreatDoorK4
set_option linter.unusedSimpArgs false
set_option linter.unusedVariables false
set_option maxRecDepth 100000
namespace Go.Proofs.YticdfkoncnnmmaaGreatDoor.planMakes
open Go.ChangeShapes Go.WideShapes Go.ChangeAt Go.RowKit Came
theorem closed:joinedFacts Tryz.prog 5 Tryz.f5 (Rows.OpenSpec.upto Rows.planMakesSpec).bare Rows.planMakesUptoRow=true:=by
 unfold joinedFacts
 simp only[Bool.and_eq_true]
 repeat' apply And.intro
 all_goals first
  | with_reducible exact j1
  | with_reducible exact j2
  | with_reducible exact j3
  | with_reducible exact j4
  | with_reducible exact j5
  | with_reducible exact j6
  | kernel_rfl
theorem said:Rows.PlanMakesUptoSaid :=
 OpenClaim.holds_of_cond 5 Tryz.f5 rfl rfl rfl rfl rfl rfl rfl ⟨rfl,rfl,rfl,rfl,rfl⟩ rfl rfl rfl rfl rfl (by kernel_rfl) Tryz.func5 closed
  (of_decide_eq_true (by kernel_rfl)) (by unfold Func.isWrapper;first|(rw[if_pos (by decide +kernel)];kernel_rfl)|(rw[if_neg (by decide +kernel)];exact⟨rfl,rfl⟩))
  (λos started H enc _ F=>by rw[OpenClaim.pre_eq_preRow];exact zAk1 os started H enc F)
end Go.Proofs.YticdfkoncnnmmaaGreatDoor.planMakes
