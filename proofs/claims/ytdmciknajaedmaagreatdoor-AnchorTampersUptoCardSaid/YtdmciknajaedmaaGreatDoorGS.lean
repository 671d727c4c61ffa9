/- JOINED: Sb0 Sb1 Sb2 Sb3 Sb4 Sd0 Sd1 Sd2 Sd3 Sd4 -/
import Derived.Test.YtdmciknajaedmaaGreatDoorGE
set_option linter.unusedSimpArgs false
set_option linter.unusedVariables false
/- PRINTED: clean texts -/
namespace Go.Proofs.YtdmciknajaedmaaGreatDoor
open Go.X
set_option maxRecDepth 100000
end Go.Proofs.YtdmciknajaedmaaGreatDoor
/- PRINTED: clean texts -/
namespace Go.Proofs.YtdmciknajaedmaaGreatDoor
open Go.X
set_option maxRecDepth 100000
end Go.Proofs.YtdmciknajaedmaaGreatDoor
/- PRINTED: clean texts -/
namespace Go.Proofs.YtdmciknajaedmaaGreatDoor
open Go.X
set_option maxRecDepth 100000
end Go.Proofs.YtdmciknajaedmaaGreatDoor
/- PRINTED: clean texts -/
namespace Go.Proofs.YtdmciknajaedmaaGreatDoor
open Go.X
set_option maxRecDepth 100000
end Go.Proofs.YtdmciknajaedmaaGreatDoor
/- PRINTED: clean texts -/
namespace Go.Proofs.YtdmciknajaedmaaGreatDoor
open Go.X
set_option maxRecDepth 100000
end Go.Proofs.YtdmciknajaedmaaGreatDoor
/- PRINTED: clean texts -/
namespace Go.Proofs.YtdmciknajaedmaaGreatDoor
open Go.X
set_option maxRecDepth 100000
end Go.Proofs.YtdmciknajaedmaaGreatDoor
/- PRINTED: clean texts -/
namespace Go.Proofs.YtdmciknajaedmaaGreatDoor
open Go.X
set_option maxRecDepth 100000
end Go.Proofs.YtdmciknajaedmaaGreatDoor
/- PRINTED: clean texts -/
namespace Go.Proofs.YtdmciknajaedmaaGreatDoor
open Go.X
set_option maxRecDepth 100000
end Go.Proofs.YtdmciknajaedmaaGreatDoor
/- PRINTED: clean texts -/
namespace Go.Proofs.YtdmciknajaedmaaGreatDoor
open Go.X
set_option maxRecDepth 100000
end Go.Proofs.YtdmciknajaedmaaGreatDoor
/- PRINTED: clean texts -/
namespace Go.Proofs.YtdmciknajaedmaaGreatDoor
open Go.X
set_option maxRecDepth 100000
end Go.Proofs.YtdmciknajaedmaaGreatDoor
