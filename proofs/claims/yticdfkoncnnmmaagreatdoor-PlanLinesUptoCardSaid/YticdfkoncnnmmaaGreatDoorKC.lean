import Derived.Test.YticdfkoncnnmmaaGreatDoorKB
set_option linter.unusedSimpArgs false
set_option linter.unusedVariables false
set_option maxRecDepth 100000
namespace Go.Proofs.YticdfkoncnnmmaaGreatDoor.planLines
open Go.ChangeShapes Go.WideShapes Go.ChangeAt Go.RowKit Came
set_option maxRecDepth 100000 in
theorem zAkL (os:Os)(started:os.Started)(H:Type)(enc:TypeId×Value->H)(F:Stop.Interp) :
  ReturnsInHanded {} Tryz.checked os 7 .any ((Rows.OpenSpec.upto Rows.planLinesSpec).preRow enc Tryz.prog Tryz.f7 Rows.planLinesUptoRow.domain false Rows.planLinesUptoRow.laid) (((Rows.OpenSpec.upto Rows.planLinesSpec).at F).post enc Tryz.prog Tryz.f7 false true false false):=by
 obtain⟨places,hx⟩:=reads os enc
 refine returnsInHanded_of_row (C:=Tryz.checked) (s:=Rows.OpenSpec.upto Rows.planLinesSpec) own started (by kernel_rfl) Tryz.func7
  (witness_row_at (enc:=enc) (C:=Tryz.checked) false (zQS os) #[zAk4] rfl (by kernel_rfl) (by kernel_rfl) (by kernel_rfl)
   (OpenSpec.preRow_of_cond 8 hx (by kernel_rfl) (λk hk=>by cases hk;kernel_rfl) (by kernel_rfl) (zAfY os))) ?_
 intro W base args ds gs before hval hW _ hcond _ hL ho _
 exact zAfX H enc W base args ds gs before hval hW (hcond _ rfl) hL ho
end Go.Proofs.YticdfkoncnnmmaaGreatDoor.planLines
