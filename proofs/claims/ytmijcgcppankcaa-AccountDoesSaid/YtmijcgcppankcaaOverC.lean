/- The walk of the reference's Over, of what isn't below 0: both loops. -/
import Derived.Test.YtmijcgcppankcaaOverB
import Derived.StillTailTactics
namespace Go.Proofs.Ytmijcgcppankcaa.Exact
open Go.RowKit Go.Proofs.Ytmijcgcppankcaa.Cents
set_option linter.unusedVariables false
set_option linter.unusedSimpArgs false

end Go.Proofs.Ytmijcgcppankcaa.Exact
