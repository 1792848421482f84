/- The examples of the chapter, plainly. -/
import Derived.Test.YtdibfjcmgbpnpaaKT
namespace Go.Proofs.Ytdibfjcmgbpnpaa
set_option linter.unusedSimpArgs false
set_option linter.unusedVariables false
open Go.RowKit

def hs2 : SS := ((snew 2).add [1, 2]).add [-1, 2]
def hr1 : SS × Int := solve hs2 [] 9
def hr2 : SS × Int := solve hr1.1 [-2] 9
def hu2 : SS := ((snew 2).add [1]).add [-1]
def hq1 : SS × Int := solve hu2 [] 9
theorem hr1_val : (hr1.2, hr1.1.model, hr1.1.proof.length) = (1, [0, -1, 1], 0) := by kernel_rfl
theorem hr2_val : (hr2.2, hr2.1.core, hr2.1.model, hr2.1.proof) = (2, [-2], [], [[2], [2]]) := by kernel_rfl
theorem hq1_val : (hq1.2, hq1.1.core, hq1.1.proof) = (2, [], [[]]) := by kernel_rfl
theorem vlit_val : (vlit 2 [1, 2], vlit 2 [-1, 2], vlit 2 [3], vlit 2 [0], vlit 2 [1], vlit 2 [-1]) = (true, true, false, false, true, true) := by kernel_rfl
end Go.Proofs.Ytdibfjcmgbpnpaa
