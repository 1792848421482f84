/- Walk of layer 15: Acyclic. -/
import Derived.Test.YtadilppdlbhjnaaN8
import Derived.Test.YtadilppdlbhjnaaN6
namespace Go.Proofs.Ytadilppdlbhjnaa
set_option linter.unusedSimpArgs false
set_option linter.unusedVariables false
open Go.RowKit

end Go.Proofs.Ytadilppdlbhjnaa
