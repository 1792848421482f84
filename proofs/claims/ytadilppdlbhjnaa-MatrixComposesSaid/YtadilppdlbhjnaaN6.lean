/- Walk of layer 15: the reference's Acyclic. -/
import Derived.Test.YtadilppdlbhjnaaN5
namespace Go.Proofs.Ytadilppdlbhjnaa
set_option linter.unusedSimpArgs false
set_option linter.unusedVariables false
open Go.RowKit

theorem acTo_ok {n : Nat} {m : List Cell} {c : List Gate} {N : Int} (hg : Good c) (hm : MOk c N m) : ∀ k, c.length + k ≤ 20000 → Grow c (acTo n m c k).1 k ∧ In (acTo n m c k).1 (acTo n m c k).2
  | 0, _ => ⟨.refl hg _, in_0 hg.ne⟩
  | k + 1, hl => by
    obtain ⟨h1, h2⟩ := acTo_ok hg hm k (by omega)
    have h3 := h1.len
    obtain ⟨g1, g2, _⟩ := ok_but.one h1.good (by omega) h2 (((hm.mat_in' hg _).up h1) : In (acTo n m c k).1 (mat m ((k : Int) * n + k)))
    exact ⟨h1.trans g1, g2⟩
end Go.Proofs.Ytadilppdlbhjnaa
