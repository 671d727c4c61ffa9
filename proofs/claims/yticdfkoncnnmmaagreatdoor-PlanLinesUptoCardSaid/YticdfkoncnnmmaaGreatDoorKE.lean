import Derived.Test.YticdfkoncnnmmaaGreatDoorKB
set_option linter.unusedSimpArgs false
set_option linter.unusedVariables false
set_option maxRecDepth 100000
namespace Go.Proofs.YticdfkoncnnmmaaGreatDoor.planLines
open Go.ChangeShapes Go.WideShapes Go.ChangeAt Go.RowKit Came
theorem j5:(Rows.planLinesUptoRow.recurses == Tryz.prog.recurses 7)=true:=by kernel_rfl
theorem j6:(Rows.planLinesUptoRow.named == Tryz.prog.varsNamed 7)=true:=by kernel_rfl
end Go.Proofs.YticdfkoncnnmmaaGreatDoor.planLines
