/- The walk over patoisref.SameTexts: it says whether two rows of texts are the same. Each row is shorter than a million. -/
import Derived.Test.YthmeonimianoeaaDoorStrc
import Derived.Test.YthmeonimianoeaaDoorLater
import Derived.WalkKit
import Derived.WalkSpells
import Derived.WalkLawsBesides
import Derived.Lib.Hide
import Derived.Deep.LoopGhost
import Derived.Deep.DeepFit
import Derived.Lib.Strings
import Derived.Outline
set_option linter.unusedVariables false
set_option linter.unusedSimpArgs false
namespace Go.Proofs.YthmeonimianoeaaDoor
open Go.RowKit


end Go.Proofs.YthmeonimianoeaaDoor
