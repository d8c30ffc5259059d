/- The walk of the reference's Over, of any number. -/
import Derived.Test.YtmijcgcppankcaaOverC
namespace Go.Proofs.Ytmijcgcppankcaa.Exact
open Go.RowKit Go.Proofs.Ytmijcgcppankcaa.Cents
set_option linter.unusedVariables false
set_option linter.unusedSimpArgs false

end Go.Proofs.Ytmijcgcppankcaa.Exact
