import Derived.Test.YticdfkoncnnmmaaGreatDoorK1
set_option linter.unusedSimpArgs false
set_option linter.unusedVariables false
set_option maxRecDepth 100000
namespace Go.Proofs.YticdfkoncnnmmaaGreatDoor.planMakes
open Go.ChangeShapes Go.WideShapes Go.ChangeAt Go.RowKit Came
theorem j5:(Rows.planMakesUptoRow.recurses == Tryz.prog.recurses 5)=true:=by kernel_rfl
theorem j6:(Rows.planMakesUptoRow.named == Tryz.prog.varsNamed 5)=true:=by kernel_rfl
end Go.Proofs.YticdfkoncnnmmaaGreatDoor.planMakes
