/- The walk of portion.Steps. -/
import Derived.Test.YtkceeifhnohioaaPortionB
import Derived.Test.YtkceeifhnohioaaStepsMath
import Derived.Test.YtkceeifhnohioaaConsiderB
namespace Go.Proofs.Ytkceeifhnohioaa.PO
open Go.RowKit Go.Proofs.Ytkceeifhnohioaa.Cents Go.Proofs.Ytkceeifhnohioaa.CO
set_option linter.unusedVariables false
set_option linter.unusedSimpArgs false

end Go.Proofs.Ytkceeifhnohioaa.PO
