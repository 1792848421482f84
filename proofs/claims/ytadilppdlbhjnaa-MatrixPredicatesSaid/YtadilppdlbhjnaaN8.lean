/- Walks of layer 15: Squaring, Stepwise, Smaller. -/
import Derived.Test.YtadilppdlbhjnaaN7
namespace Go.Proofs.Ytadilppdlbhjnaa
set_option linter.unusedSimpArgs false
set_option linter.unusedVariables false
open Go.RowKit

end Go.Proofs.Ytadilppdlbhjnaa
