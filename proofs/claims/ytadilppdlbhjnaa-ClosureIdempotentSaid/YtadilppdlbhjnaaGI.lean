/- Texts PlainN, N15, N16 in one. -/
import Derived.Test.YtadilppdlbhjnaaGB
import Derived.Test.YtadilppdlbhjnaaJ1
import Derived.Test.YtadilppdlbhjnaaMH
namespace Go.Proofs.Ytadilppdlbhjnaa
set_option linter.unusedSimpArgs false
set_option linter.unusedVariables false

end Go.Proofs.Ytadilppdlbhjnaa

namespace Go.Proofs.Ytadilppdlbhjnaa
set_option linter.unusedSimpArgs false
set_option linter.unusedVariables false
open Go.RowKit

end Go.Proofs.Ytadilppdlbhjnaa

namespace Go.Proofs.Ytadilppdlbhjnaa
set_option linter.unusedSimpArgs false
set_option linter.unusedVariables false
open Go.RowKit

/-- what a search finds -/
def Found (m : List Cell) (r : Int) (i : Nat) (b : Bool) : Prop := i ≤ m.length ∧ (b = true → ∃ x, m[i]? = some x ∧ x.rank = r) ∧ (b = false → ∀ x ∈ m, x.rank ≠ r)

theorem Found.mat {m : List Cell} {r : Int} {i : Nat} {b : Bool} (h : Found m r i b) (hs : Sorted m) : (b = true → ∃ x, m[i]? = some x ∧ mat m r = x.ref) ∧ (b = false → mat m r = 1) :=
  ⟨fun hb => by obtain ⟨x, hx, rfl⟩ := h.2.1 hb; exact ⟨x, hx, mat_mem hs (List.mem_of_getElem? hx)⟩, fun hb => mat_out (h.2.2 hb)⟩

end Go.Proofs.Ytadilppdlbhjnaa
