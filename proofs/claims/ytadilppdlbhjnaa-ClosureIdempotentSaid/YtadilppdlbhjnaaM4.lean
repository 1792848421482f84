/- Walks of layers 14, 15: the reference's power, at, with, Same. -/
import Derived.Test.YtadilppdlbhjnaaM1
namespace Go.Proofs.Ytadilppdlbhjnaa
set_option linter.unusedSimpArgs false
set_option linter.unusedVariables false
open Go.RowKit

end Go.Proofs.Ytadilppdlbhjnaa
