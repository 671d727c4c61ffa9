/- JOINED: Se0 Sf0 Sf1 Sf2 Sf3 -/
import Derived.Test.YtdmciknajaedmaaDoorGE
set_option linter.unusedSimpArgs false
set_option linter.unusedVariables false
/- PRINTED: clean texts -/
namespace Go.Proofs.YtdmciknajaedmaaDoor
open Go.X
set_option maxRecDepth 100000
end Go.Proofs.YtdmciknajaedmaaDoor
/- PRINTED: clean texts -/
namespace Go.Proofs.YtdmciknajaedmaaDoor
open Go.X
set_option maxRecDepth 100000
end Go.Proofs.YtdmciknajaedmaaDoor
/- PRINTED: clean texts -/
namespace Go.Proofs.YtdmciknajaedmaaDoor
open Go.X
set_option maxRecDepth 100000
end Go.Proofs.YtdmciknajaedmaaDoor
/- PRINTED: clean texts -/
namespace Go.Proofs.YtdmciknajaedmaaDoor
open Go.X
set_option maxRecDepth 100000
end Go.Proofs.YtdmciknajaedmaaDoor
/- PRINTED: clean texts -/
namespace Go.Proofs.YtdmciknajaedmaaDoor
open Go.X
set_option maxRecDepth 100000
end Go.Proofs.YtdmciknajaedmaaDoor
