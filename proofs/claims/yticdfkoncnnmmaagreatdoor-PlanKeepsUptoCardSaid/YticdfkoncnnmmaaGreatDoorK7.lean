import Derived.Test.YticdfkoncnnmmaaGreatDoorK6
set_option linter.unusedSimpArgs false
set_option linter.unusedVariables false
set_option maxRecDepth 100000
namespace Go.Proofs.YticdfkoncnnmmaaGreatDoor.planKeeps
open Go.ChangeShapes Go.WideShapes Go.ChangeAt Go.RowKit Came
set_option maxRecDepth 100000 in
theorem zAi1 (os:Os)(started:os.Started)(H:Type)(enc:TypeId×Value->H)(F:Stop.Interp) :
  ReturnsInHanded {} Tryz.checked os 3 .any ((Rows.OpenSpec.upto Rows.planKeepsSpec).preRow enc Tryz.prog Tryz.f3 Rows.planKeepsUptoRow.domain false Rows.planKeepsUptoRow.laid) (((Rows.OpenSpec.upto Rows.planKeepsSpec).at F).post enc Tryz.prog Tryz.f3 false true false false):=by
 obtain⟨places,hx⟩:=reads os enc
 refine returnsInHanded_of_row (C:=Tryz.checked) (s:=Rows.OpenSpec.upto Rows.planKeepsSpec) own started (by kernel_rfl) Tryz.func3
  (witness_row_at (enc:=enc) (C:=Tryz.checked) false (zP0 os) #[zAjl] rfl (by kernel_rfl) (by kernel_rfl) (by kernel_rfl)
   (OpenSpec.preRow_of_cond 8 hx (by kernel_rfl) (λk hk=>by cases hk;kernel_rfl) (by kernel_rfl) (zAeg os))) ?_
 intro W base args ds gs before hval hW _ hcond _ hL ho _
 exact zAef H enc W base args ds gs before hval hW (hcond _ rfl) hL ho
end Go.Proofs.YticdfkoncnnmmaaGreatDoor.planKeeps
