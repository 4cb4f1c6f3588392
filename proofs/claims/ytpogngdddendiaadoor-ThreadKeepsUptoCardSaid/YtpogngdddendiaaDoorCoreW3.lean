/- The walks over text.Name and what it calls, beside nodes. No condition. -/
import Derived.Test.YtpogngdddendiaaDoorNameW
import Derived.Test.YtpogngdddendiaaDoorNode
import Derived.Outline
set_option linter.unusedVariables false
set_option linter.unusedSimpArgs false
namespace Go.Proofs.YtpogngdddendiaaDoor
end Go.Proofs.YtpogngdddendiaaDoor
