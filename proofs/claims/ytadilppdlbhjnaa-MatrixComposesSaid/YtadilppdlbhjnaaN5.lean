/- Walk of layer 15: the reference's Smaller. -/
import Derived.Test.YtadilppdlbhjnaaN4
namespace Go.Proofs.Ytadilppdlbhjnaa
set_option linter.unusedSimpArgs false
set_option linter.unusedVariables false
open Go.RowKit

end Go.Proofs.Ytadilppdlbhjnaa
