import Derived.Test.YticdfkoncnnmmaaGreatDoorK1
set_option linter.unusedSimpArgs false
set_option linter.unusedVariables false
set_option maxRecDepth 100000
namespace Go.Proofs.YticdfkoncnnmmaaGreatDoor.planMakes
open Go.ChangeShapes Go.WideShapes Go.ChangeAt Go.RowKit Came
set_option maxRecDepth 100000 in
theorem zAk1 (os:Os)(started:os.Started)(H:Type)(enc:TypeId×Value->H)(F:Stop.Interp) :
  ReturnsInHanded {} Tryz.checked os 5 .any ((Rows.OpenSpec.upto Rows.planMakesSpec).preRow enc Tryz.prog Tryz.f5 Rows.planMakesUptoRow.domain false Rows.planMakesUptoRow.laid) (((Rows.OpenSpec.upto Rows.planMakesSpec).at F).post enc Tryz.prog Tryz.f5 false true false false):=by
 obtain⟨places,hx⟩:=reads os enc
 refine returnsInHanded_of_row (C:=Tryz.checked) (s:=Rows.OpenSpec.upto Rows.planMakesSpec) own started (by kernel_rfl) Tryz.func5
  (witness_row_at (enc:=enc) (C:=Tryz.checked) false (zRq os) #[zAll] rfl (by kernel_rfl) (by kernel_rfl) (by kernel_rfl)
   (OpenSpec.preRow_of_cond 8 hx (by kernel_rfl) (λk hk=>by cases hk;kernel_rfl) (by kernel_rfl) (zAge os))) ?_
 intro W base args ds gs before hval hW _ hcond _ hL ho _
 exact zAgd H enc W base args ds gs before hval hW (hcond _ rfl) hL ho
end Go.Proofs.YticdfkoncnnmmaaGreatDoor.planMakes
