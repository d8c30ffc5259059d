/- The walk of the reference's Over, of what isn't below 0: both loops. -/
import Derived.Test.YtleocecfcamjnaaOverB
import Derived.StillTailTactics
namespace Go.Proofs.Ytleocecfcamjnaa.Exact
open Go.RowKit Go.Proofs.Ytleocecfcamjnaa.Cents
set_option linter.unusedVariables false
set_option linter.unusedSimpArgs false

end Go.Proofs.Ytleocecfcamjnaa.Exact
