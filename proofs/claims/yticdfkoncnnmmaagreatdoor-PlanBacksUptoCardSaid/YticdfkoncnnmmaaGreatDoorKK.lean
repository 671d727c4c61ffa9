import Derived.Test.YticdfkoncnnmmaaGreatDoorKH
import Derived.Test.YticdfkoncnnmmaaGreatDoorKI
import Derived.Test.YticdfkoncnnmmaaGreatDoorKJ
set_option linter.unusedSimpArgs false
set_option linter.unusedVariables false
set_option maxRecDepth 100000
namespace Go.Proofs.YticdfkoncnnmmaaGreatDoor.planBacks
open Go.ChangeShapes Go.WideShapes Go.ChangeAt Go.RowKit Came
theorem closed:joinedFacts Tryz.prog 8 Tryz.f8 (Rows.OpenSpec.upto Rows.planBacksSpec).bare Rows.planBacksUptoRow=true:=by
 unfold joinedFacts
 simp only[Bool.and_eq_true]
 repeat' apply And.intro
 all_goals first
  | with_reducible exact j1
  | with_reducible exact j2
  | with_reducible exact j3
  | with_reducible exact j4
  | with_reducible exact j5
  | with_reducible exact j6
  | kernel_rfl
theorem said:Rows.PlanBacksUptoSaid :=
 OpenClaim.holds_of_cond 8 Tryz.f8 rfl rfl rfl rfl rfl rfl rfl ⟨rfl,rfl,rfl,rfl,rfl⟩ rfl rfl rfl rfl rfl (by kernel_rfl) Tryz.func8 closed
  (of_decide_eq_true (by kernel_rfl)) (by unfold Func.isWrapper;first|(rw[if_pos (by decide +kernel)];kernel_rfl)|(rw[if_neg (by decide +kernel)];exact⟨rfl,rfl⟩))
  (λos started H enc _ F=>by rw[OpenClaim.pre_eq_preRow];exact zAlh os started H enc F)
end Go.Proofs.YticdfkoncnnmmaaGreatDoor.planBacks
