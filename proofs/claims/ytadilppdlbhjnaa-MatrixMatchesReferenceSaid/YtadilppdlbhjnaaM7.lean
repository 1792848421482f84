import Derived.Test.YtadilppdlbhjnaaM4
import Derived.Test.YtadilppdlbhjnaaGB
namespace Go.Proofs.Ytadilppdlbhjnaa
set_option linter.unusedSimpArgs false
set_option linter.unusedVariables false
open Go.RowKit
end Go.Proofs.Ytadilppdlbhjnaa
