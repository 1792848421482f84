/- Walk of law 15's head. -/
import Derived.Test.YtadilppdlbhjnaaLR
namespace Go.Proofs.Ytadilppdlbhjnaa
set_option linter.unusedSimpArgs false
set_option linter.unusedVariables false
open Go.RowKit

def hE : List Gate := [⟨0, 0, 0⟩, ⟨1, 1, 0⟩]
end Go.Proofs.Ytadilppdlbhjnaa
