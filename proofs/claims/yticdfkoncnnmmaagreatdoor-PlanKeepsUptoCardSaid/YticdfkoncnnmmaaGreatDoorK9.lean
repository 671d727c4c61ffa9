import Derived.Test.YticdfkoncnnmmaaGreatDoorK6
set_option linter.unusedSimpArgs false
set_option linter.unusedVariables false
set_option maxRecDepth 100000
namespace Go.Proofs.YticdfkoncnnmmaaGreatDoor.planKeeps
open Go.ChangeShapes Go.WideShapes Go.ChangeAt Go.RowKit Came
theorem j5:(Rows.planKeepsUptoRow.recurses == Tryz.prog.recurses 3)=true:=by kernel_rfl
theorem j6:(Rows.planKeepsUptoRow.named == Tryz.prog.varsNamed 3)=true:=by kernel_rfl
end Go.Proofs.YticdfkoncnnmmaaGreatDoor.planKeeps
