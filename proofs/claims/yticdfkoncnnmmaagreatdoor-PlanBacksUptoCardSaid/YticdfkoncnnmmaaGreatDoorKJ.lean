import Derived.Test.YticdfkoncnnmmaaGreatDoorKG
set_option linter.unusedSimpArgs false
set_option linter.unusedVariables false
set_option maxRecDepth 100000
namespace Go.Proofs.YticdfkoncnnmmaaGreatDoor.planBacks
open Go.ChangeShapes Go.WideShapes Go.ChangeAt Go.RowKit Came
theorem j5:(Rows.planBacksUptoRow.recurses == Tryz.prog.recurses 8)=true:=by kernel_rfl
theorem j6:(Rows.planBacksUptoRow.named == Tryz.prog.varsNamed 8)=true:=by kernel_rfl
end Go.Proofs.YticdfkoncnnmmaaGreatDoor.planBacks
