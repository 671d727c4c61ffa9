import Derived.Test.YticdfkoncnnmmaaGreatDoorKG
set_option linter.unusedSimpArgs false
set_option linter.unusedVariables false
set_option maxRecDepth 100000
namespace Go.Proofs.YticdfkoncnnmmaaGreatDoor.planBacks
open Go.ChangeShapes Go.WideShapes Go.ChangeAt Go.RowKit Came
theorem j1:laidOutB Tryz.prog=true:=by kernel_rfl
theorem j2:mapsRowed Tryz.prog=true:=by kernel_rfl
theorem j3:(Rows.planBacksUptoRow.inPlace == Tryz.prog.inPlace 8)=true:=by kernel_rfl
theorem j4:(Rows.planBacksUptoRow.unfollowed == Tryz.prog.unfollowed 8)=true:=by kernel_rfl
end Go.Proofs.YticdfkoncnnmmaaGreatDoor.planBacks
