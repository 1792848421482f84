/- Walks of layers 14, 15: the reference's ranks. -/
import Derived.Test.YtadilppdlbhjnaaM4
namespace Go.Proofs.Ytadilppdlbhjnaa
set_option linter.unusedSimpArgs false
set_option linter.unusedVariables false
open Go.RowKit

/-- A slice of ints in memory. -/
structure SI (w : World) (q : Option Addr) (cq : Nat) (xs : List Int) : Prop where
  le : xs.length ≤ cq
  cm : cq ≤ maxLen
  q0 : q = none → cq = 0
  at' : IntsAt w q xs
  lt : ∀ a, q = some a → a.block < w.heap.size
theorem SI.up {w w' : World} {q : Option Addr} {cq : Nat} {xs : List Int} (h : SI w q cq xs) (hB : Below w.heap.size w w') : SI w' q cq xs := ⟨h.le, h.cm, h.q0, h.at'.mono hB, fun a ha => Nat.lt_of_lt_of_le (h.lt a ha) hB.size⟩
end Go.Proofs.Ytadilppdlbhjnaa
