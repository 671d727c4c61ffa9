/- JOINED: Sb0 Sb1 Sb2 Sb3 Sb4 Sd0 Sd1 Sd2 Sd3 Sd4 -/
import Derived.Test.YtdmciknajaedmaaDoorGE
set_option linter.unusedSimpArgs false
set_option linter.unusedVariables false
/- PRINTED: clean texts -/
namespace Go.Proofs.YtdmciknajaedmaaDoor
open Go.X
set_option maxRecDepth 100000
end Go.Proofs.YtdmciknajaedmaaDoor
/- PRINTED: clean texts -/
namespace Go.Proofs.YtdmciknajaedmaaDoor
open Go.X
set_option maxRecDepth 100000
end Go.Proofs.YtdmciknajaedmaaDoor
/- PRINTED: clean texts -/
namespace Go.Proofs.YtdmciknajaedmaaDoor
open Go.X
set_option maxRecDepth 100000
end Go.Proofs.YtdmciknajaedmaaDoor
/- PRINTED: clean texts -/
namespace Go.Proofs.YtdmciknajaedmaaDoor
open Go.X
set_option maxRecDepth 100000
end Go.Proofs.YtdmciknajaedmaaDoor
/- PRINTED: clean texts -/
namespace Go.Proofs.YtdmciknajaedmaaDoor
open Go.X
set_option maxRecDepth 100000
end Go.Proofs.YtdmciknajaedmaaDoor
/- PRINTED: clean texts -/
namespace Go.Proofs.YtdmciknajaedmaaDoor
open Go.X
set_option maxRecDepth 100000
end Go.Proofs.YtdmciknajaedmaaDoor
/- PRINTED: clean texts -/
namespace Go.Proofs.YtdmciknajaedmaaDoor
open Go.X
set_option maxRecDepth 100000
end Go.Proofs.YtdmciknajaedmaaDoor
/- PRINTED: clean texts -/
namespace Go.Proofs.YtdmciknajaedmaaDoor
open Go.X
set_option maxRecDepth 100000
end Go.Proofs.YtdmciknajaedmaaDoor
/- PRINTED: clean texts -/
namespace Go.Proofs.YtdmciknajaedmaaDoor
open Go.X
set_option maxRecDepth 100000
end Go.Proofs.YtdmciknajaedmaaDoor
/- PRINTED: clean texts -/
namespace Go.Proofs.YtdmciknajaedmaaDoor
open Go.X
set_option maxRecDepth 100000
end Go.Proofs.YtdmciknajaedmaaDoor
