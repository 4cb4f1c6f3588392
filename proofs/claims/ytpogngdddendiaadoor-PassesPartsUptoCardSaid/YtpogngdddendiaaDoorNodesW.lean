/- The walk over patoisref.Nodes: a copy in memory of its own. A bound on the length. -/
import Derived.Test.YtpogngdddendiaaDoorHG
import Derived.Outline
set_option linter.unusedVariables false
set_option linter.unusedSimpArgs false
namespace Go.Proofs.YtpogngdddendiaaDoor
open Go.RowKit

end Go.Proofs.YtpogngdddendiaaDoor
