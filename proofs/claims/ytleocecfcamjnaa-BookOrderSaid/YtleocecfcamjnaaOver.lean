/- The walk of the reference's Over, of any number. -/
import Derived.Test.YtleocecfcamjnaaOverC
namespace Go.Proofs.Ytleocecfcamjnaa.Exact
open Go.RowKit Go.Proofs.Ytleocecfcamjnaa.Cents
set_option linter.unusedVariables false
set_option linter.unusedSimpArgs false

end Go.Proofs.Ytleocecfcamjnaa.Exact
