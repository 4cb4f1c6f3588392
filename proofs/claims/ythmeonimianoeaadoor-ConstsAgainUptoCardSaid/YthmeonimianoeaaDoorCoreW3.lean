/- The walks over text.Name and what it calls, beside nodes. No condition. -/
import Derived.Test.YthmeonimianoeaaDoorNameW
import Derived.Test.YthmeonimianoeaaDoorNode
import Derived.Outline
set_option linter.unusedVariables false
set_option linter.unusedSimpArgs false
namespace Go.Proofs.YthmeonimianoeaaDoor
end Go.Proofs.YthmeonimianoeaaDoor
