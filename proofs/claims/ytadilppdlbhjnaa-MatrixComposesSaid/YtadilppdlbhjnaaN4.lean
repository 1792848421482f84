/- Walk of layer 15: the reference's At. -/
import Derived.Test.YtadilppdlbhjnaaN3
namespace Go.Proofs.Ytadilppdlbhjnaa
set_option linter.unusedSimpArgs false
set_option linter.unusedVariables false
open Go.RowKit

end Go.Proofs.Ytadilppdlbhjnaa
