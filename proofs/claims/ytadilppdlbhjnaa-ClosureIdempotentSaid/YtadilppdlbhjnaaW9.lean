/- Walks of layer 13: Same, formed, Valid of the reference. -/
import Derived.Test.YtadilppdlbhjnaaW8
import Derived.Test.YtadilppdlbhjnaaGA
namespace Go.Proofs.Ytadilppdlbhjnaa
set_option linter.unusedSimpArgs false
set_option linter.unusedVariables false
open Go.RowKit

attribute [local go_sem ↓] gate_eql gate_neq gate_guard

end Go.Proofs.Ytadilppdlbhjnaa
