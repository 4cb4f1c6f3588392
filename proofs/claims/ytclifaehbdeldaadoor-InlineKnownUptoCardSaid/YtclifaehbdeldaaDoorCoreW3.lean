/- The walks over text.Name and what it calls, beside nodes. No condition. -/
import Derived.Test.YtclifaehbdeldaaDoorNameW
import Derived.Test.YtclifaehbdeldaaDoorNode
import Derived.Outline
set_option linter.unusedVariables false
set_option linter.unusedSimpArgs false
namespace Go.Proofs.YtclifaehbdeldaaDoor
end Go.Proofs.YtclifaehbdeldaaDoor
