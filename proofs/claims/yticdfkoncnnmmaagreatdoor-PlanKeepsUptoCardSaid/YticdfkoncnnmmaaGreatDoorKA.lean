import Derived.Test.YticdfkoncnnmmaaGreatDoorK7
import Derived.Test.YticdfkoncnnmmaaGreatDoorK8
import Derived.Test.YticdfkoncnnmmaaGreatDoorK9
set_option linter.unusedSimpArgs false
set_option linter.unusedVariables false
set_option maxRecDepth 100000
namespace Go.Proofs.YticdfkoncnnmmaaGreatDoor.planKeeps
open Go.ChangeShapes Go.WideShapes Go.ChangeAt Go.RowKit Came
theorem closed:joinedFacts Tryz.prog 3 Tryz.f3 (Rows.OpenSpec.upto Rows.planKeepsSpec).bare Rows.planKeepsUptoRow=true:=by
 unfold joinedFacts
 simp only[Bool.and_eq_true]
 repeat' apply And.intro
 all_goals first
  | with_reducible exact j1
  | with_reducible exact j2
  | with_reducible exact j3
  | with_reducible exact j4
  | with_reducible exact j5
  | with_reducible exact j6
  | kernel_rfl
theorem said:Rows.PlanKeepsUptoSaid :=
 OpenClaim.holds_of_cond 3 Tryz.f3 rfl rfl rfl rfl rfl rfl rfl ⟨rfl,rfl,rfl,rfl,rfl⟩ rfl rfl rfl rfl rfl (by kernel_rfl) Tryz.func3 closed
  (of_decide_eq_true (by kernel_rfl)) (by unfold Func.isWrapper;first|(rw[if_pos (by decide +kernel)];kernel_rfl)|(rw[if_neg (by decide +kernel)];exact⟨rfl,rfl⟩))
  (λos started H enc _ F=>by rw[OpenClaim.pre_eq_preRow];exact zAi1 os started H enc F)
end Go.Proofs.YticdfkoncnnmmaaGreatDoor.planKeeps
