import Derived.Test.YtadilppdlbhjnaaW9
import Derived.Test.YtadilppdlbhjnaaMap
namespace Go.Proofs.Ytadilppdlbhjnaa
set_option linter.unusedSimpArgs false
set_option linter.unusedVariables false
open Go.RowKit
attribute [local go_sem ↓] gate_eql gate_neq gate_guard
theorem MapIs.alloc {w : World} {b : Nat} {gs : List Gate} (h : MapIs w b gs) (o : Obj) : MapIs (w.alloc o) b gs := by
 obtain ⟨es, clock, hb, hes⟩ := h
 exact ⟨es, clock, by rw [Below.heap_alloc _ _ _ (Array.getElem?_eq_some_iff.1 hb).1]; exact hb, hes⟩
theorem MapIs.new {w : World} {n : Nat} (hn : w.heap.size = n) : MapIs (w.alloc (.map #[] 0)) n [] := by
 subst hn
 exact ⟨#[], 0, by show (w.heap.push _)[w.heap.size]? = _; simp, rfl⟩
theorem MapIs.lt {w : World} {b : Nat} {gs : List Gate} (h : MapIs w b gs) : b < w.heap.size := by
 obtain ⟨es, clock, hb, hes⟩ := h
 exact (Array.getElem?_eq_some_iff.1 hb).1
end Go.Proofs.Ytadilppdlbhjnaa
