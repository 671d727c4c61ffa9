import Derived.Test.YticdfkoncnnmmaaGreatDoorKG
set_option linter.unusedSimpArgs false
set_option linter.unusedVariables false
set_option maxRecDepth 100000
namespace Go.Proofs.YticdfkoncnnmmaaGreatDoor.planBacks
open Go.ChangeShapes Go.WideShapes Go.ChangeAt Go.RowKit Came
set_option maxRecDepth 100000 in
theorem zAlh (os:Os)(started:os.Started)(H:Type)(enc:TypeId×Value->H)(F:Stop.Interp) :
  ReturnsInHanded {} Tryz.checked os 8 .any ((Rows.OpenSpec.upto Rows.planBacksSpec).preRow enc Tryz.prog Tryz.f8 Rows.planBacksUptoRow.domain false Rows.planBacksUptoRow.laid) (((Rows.OpenSpec.upto Rows.planBacksSpec).at F).post enc Tryz.prog Tryz.f8 false true false false):=by
 obtain⟨places,hx⟩:=reads os enc
 refine returnsInHanded_of_row (C:=Tryz.checked) (s:=Rows.OpenSpec.upto Rows.planBacksSpec) own started (by kernel_rfl) Tryz.func8
  (witness_row_at (enc:=enc) (C:=Tryz.checked) false (zRi os) #[zAlB,zAlC,zAlD] rfl (by kernel_rfl) (by kernel_rfl) (by kernel_rfl)
   (OpenSpec.preRow_of_cond 8 hx (by kernel_rfl) (λk hk=>by cases hk;kernel_rfl) (by kernel_rfl) (zAgr os))) ?_
 intro W base args ds gs before hval hW _ hcond _ hL ho _
 exact zAgq H enc W base args ds gs before hval hW (hcond _ rfl) hL ho
end Go.Proofs.YticdfkoncnnmmaaGreatDoor.planBacks
