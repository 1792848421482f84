/- Walks of layer 6: same, set, keep at Diff, Diff, In. -/
import Derived.Test.YtadilppdlbhjnaaJ1
import Derived.Test.YtadilppdlbhjnaaGF
namespace Go.Proofs.Ytadilppdlbhjnaa
set_option linter.unusedSimpArgs false
set_option linter.unusedVariables false
open Go.RowKit


/-- The map counts the numbers of l. -/
def CMap (D : DM) (l : List Int) : Prop := Maps.IsMap D ∧ ∀ r : Int, D.atKey (keyI r) (numI 0) = numI ((l.count r : Nat) : Int)
theorem CMap.start : CMap (.map []) [] := ⟨⟨_, rfl⟩, fun r => rfl⟩
theorem CMap.put {D : DM} {l : List Int} (h : CMap D l) (t : Int) {c : Int} (hc : c = ((l.count t : Nat) : Int) + 1) : CMap (D.put (keyI t) (numI c)) (l ++ [t]) := by
  refine ⟨Maps.IsMap.put h.1 _ _, fun r => ?_⟩
  by_cases e : r = t
  · subst e
    rw [Maps.atKey_put_same h.1 (keyI_key _), hc, List.count_append]
    simp
  · rw [Maps.atKey_put_other (keyI_ne e), h.2 r, List.count_append, List.count_singleton]
    have : (t == r) = false := by simp; exact fun h => e h.symm
    rw [this]; simp
theorem CMap.read {D : DM} {l : List Int} (h : CMap D l) {t c : Int} (hat : D.atKey (keyI t) (numI 0) = numI c) : c = ((l.count t : Nat) : Int) := by
  rw [h.2 t] at hat; simpa [numI] using hat.symm
end Go.Proofs.Ytadilppdlbhjnaa
