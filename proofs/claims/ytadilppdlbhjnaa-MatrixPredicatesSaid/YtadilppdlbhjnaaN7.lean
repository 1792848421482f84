/- Walks of layer 15: the closure methods' run. -/
import Derived.Test.YtadilppdlbhjnaaJ1
import Derived.Test.YtadilppdlbhjnaaM7
namespace Go.Proofs.Ytadilppdlbhjnaa
set_option linter.unusedSimpArgs false
set_option linter.unusedVariables false
open Go.RowKit

end Go.Proofs.Ytadilppdlbhjnaa
