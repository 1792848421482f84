/- Texts N23, N24, N25, PlainO in one. -/
import Derived.Test.YtadilppdlbhjnaaN18
import Derived.Laws.IdiomCopy
import Derived.Lib.SliceRun
import Derived.Test.YtadilppdlbhjnaaGI
namespace Go.Proofs.Ytadilppdlbhjnaa
set_option linter.unusedSimpArgs false
set_option linter.unusedVariables false
open Go.RowKit

end Go.Proofs.Ytadilppdlbhjnaa

namespace Go.Proofs.Ytadilppdlbhjnaa
set_option linter.unusedSimpArgs false
set_option linter.unusedVariables false
open Go.RowKit

/-- the cells of a row of two-cell elements -/
def RowC (w : World) (b off : Nat) (F : List Cell) : Prop := ∀ i x, F[i]? = some x → w.cell? ⟨b, off + i * 2, none⟩ = some (.int .i64 x.rank) ∧ w.cell? ⟨b, off + i * 2 + 1, none⟩ = some (.int .i64 x.ref)
def FreeC (w : World) (b off n : Nat) : Prop := ∀ j, j < n * 2 → w.frozen? ⟨b, off + j, none⟩ = false
theorem RowC.up {w w' : World} {b off : Nat} {F : List Cell} (h : RowC w b off F) (hB : Below w.heap.size w w') : RowC w' b off F := fun i x hx =>
  ⟨oldcell hB (h i x hx).1 (World.block_lt_of_cell? _ _ (h i x hx).1), oldcell hB (h i x hx).2 (World.block_lt_of_cell? _ _ (h i x hx).2)⟩
theorem free_up {w w' : World} {b o : Nat} (h : w.frozen? ⟨b, o, none⟩ = false) (hb : b < w.heap.size) (hB : Below w.heap.size w w') : w'.frozen? ⟨b, o, none⟩ = false := (KeepX.of_below (X := []) hB).free h hb (by simp)
theorem FreeC.up {w w' : World} {b off n : Nat} (h : FreeC w b off n) (hb : b < w.heap.size) (hB : Below w.heap.size w w') : FreeC w' b off n := fun j hj => free_up (h j hj) hb hB
theorem FreeC.set {w : World} {b off n : Nat} (h : FreeC w b off n) (a : Addr) (v : Value) : FreeC (w.setCell a v) b off n := fun j hj => by simpa using h j hj
theorem sc_ne {w : World} {b o1 o2 : Nat} {v : Value} (h : o1 ≠ o2) : (w.setCell ⟨b, o1, none⟩ v).cell? ⟨b, o2, none⟩ = w.cell? ⟨b, o2, none⟩ :=
  World.cell?_setCell_other w ⟨b, o1, none⟩ ⟨b, o2, none⟩ v (by intro e; exact h (congrArg Addr.off e))
theorem RowC.set {w : World} {b off : Nat} {F : List Cell} (h : RowC w b off F) {i : Nat} (hi : i < F.length) (y : Cell) : RowC ((w.setCell ⟨b, off + i * 2, none⟩ (.int .i64 y.rank)).setCell ⟨b, off + i * 2 + 1, none⟩ (.int .i64 y.ref)) b off (F.set i y) := by
  intro t x hx
  have hF := h i F[i] (List.getElem?_eq_getElem hi)
  by_cases e : t = i
  · subst e
    rw [List.getElem?_set_self hi] at hx; cases hx
    have h1 : (w.setCell ⟨b, off + t * 2, none⟩ (.int .i64 y.rank)).cell? ⟨b, off + t * 2 + 1, none⟩ = some (.int .i64 F[t].ref) := by rw [sc_ne (by omega)]; exact hF.2
    exact ⟨by rw [sc_ne (by omega), World.cell?_setCell_same _ _ _ hF.1], by rw [World.cell?_setCell_same _ _ _ h1]⟩
  · rw [List.getElem?_set_ne (by omega)] at hx
    have hx' := h t x hx
    exact ⟨by rw [sc_ne (by omega), sc_ne (by omega)]; exact hx'.1, by rw [sc_ne (by omega), sc_ne (by omega)]; exact hx'.2⟩
end Go.Proofs.Ytadilppdlbhjnaa

namespace Go.Proofs.Ytadilppdlbhjnaa
set_option linter.unusedSimpArgs false
set_option linter.unusedVariables false
open Go.RowKit

end Go.Proofs.Ytadilppdlbhjnaa

namespace Go.Proofs.Ytadilppdlbhjnaa
set_option linter.unusedSimpArgs false
set_option linter.unusedVariables false

end Go.Proofs.Ytadilppdlbhjnaa
