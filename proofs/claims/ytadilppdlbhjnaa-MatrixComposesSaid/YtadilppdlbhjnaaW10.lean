/- Walks of layer 13: Eval of the reference. -/
import Derived.Test.YtadilppdlbhjnaaW9
namespace Go.Proofs.Ytadilppdlbhjnaa
set_option linter.unusedSimpArgs false
set_option linter.unusedVariables false
open Go.RowKit

theorem bEnc_one (b : Bool) (j : Nat) : (bEnc b j).oneCell' = true := rfl
theorem bool_info : (Try.prog.info? 4).map (fun i => (i.zero, i.size, i.bytes)) = some (some (.bool false), 1, 1) := by kernel_rfl
theorem SlAt.bool1 {w : World} {b : Nat} {x : Bool} (h0 : w.cell? ⟨b, 0, none⟩ = some (.bool x)) : BoolsAt w (some ⟨b, 0, none⟩) [x] := by
  refine .inr ⟨b, 0, rfl, World.block_lt_of_cell? w _ h0, fun i y hy j hj => ?_⟩
  cases i with
  | zero =>
    obtain rfl : x = y := by simpa using hy
    obtain rfl : j = 0 := by omega
    exact h0
  | succ i => simp at hy

theorem bool_cell {w : World} {p : Option Addr} {xs : List Bool} {i : Nat} {x : Bool} (h : BoolsAt w p xs) (hi : xs[i]? = some x) : ∃ b off, p = some ⟨b, off, none⟩ ∧ b < w.heap.size ∧ w.cell? ⟨b, off + i, none⟩ = some (.bool x) := by
  rcases h with rfl | ⟨b, off, hp, hb, hc⟩
  · simp at hi
  · exact ⟨b, off, hp, hb, by simpa [bEnc] using hc i x hi 0 (by omega)⟩

end Go.Proofs.Ytadilppdlbhjnaa
