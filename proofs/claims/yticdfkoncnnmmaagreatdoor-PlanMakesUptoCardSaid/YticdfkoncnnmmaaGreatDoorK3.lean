import Derived.Test.YticdfkoncnnmmaaGreatDoorK1
set_option linter.unusedSimpArgs false
set_option linter.unusedVariables false
set_option maxRecDepth 100000
namespace Go.Proofs.YticdfkoncnnmmaaGreatDoor.planMakes
open Go.ChangeShapes Go.WideShapes Go.ChangeAt Go.RowKit Came
theorem j1:laidOutB Tryz.prog=true:=by kernel_rfl
theorem j2:mapsRowed Tryz.prog=true:=by kernel_rfl
theorem j3:(Rows.planMakesUptoRow.inPlace == Tryz.prog.inPlace 5)=true:=by kernel_rfl
theorem j4:(Rows.planMakesUptoRow.unfollowed == Tryz.prog.unfollowed 5)=true:=by kernel_rfl
end Go.Proofs.YticdfkoncnnmmaaGreatDoor.planMakes
