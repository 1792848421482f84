/- What arguments read as: a slice of bools, with its nil. -/
import Derived.Test.YtanlecgpnknhoaaOpen
namespace Go.Proofs.Ytanlecgpnknhoaa
set_option linter.unusedSimpArgs false
set_option linter.unusedVariables false
open Go.ChangeShapes Go.WideShapes Go.ChangeAt Go.RowKit Go.Deep
theorem open_valsn {H : Type} {enc : TypeId × Value → H} {w : World} {base b0 : Nat} {r : Reach} {spare : Nat → Bool} {held : Bool} {v : Value} {d : DataW H} {ps : List MemPlace}
    (hval : Value.okWide Try.prog w r b0 26 v) (h : DataW.Trod enc Try.prog w base spare held 26 v d ps) :
    ∃ (l : List Bool) (p : Option Addr) (cap : Nat), v = .slice p l.length cap ∧ l.length ≤ maxLen ∧ BoolsAt w p l ∧ (p = none → cap = 0) := by
  obtain ⟨l, p, cap, h1, h2, h3, h4, h5, _⟩ := open_sl (α := Bool) (E := 1) (by decide) (en := bEnc) (R := fun _ => True) Try.underlying26 bool_cellsOf (fun n cs y hc ht => by
    obtain ⟨b, rfl, _⟩ := DataW.trod_bool Try.underlying4 ht
    exact ⟨b, trivial, fun j hj => by obtain rfl : j = 0 := by omega
                                      rfl⟩) (okWide_slice Try.underlying26 hval) h
  exact ⟨l, p, cap, h1, Nat.le_trans h2 h3, h5, h4⟩
end Go.Proofs.Ytanlecgpnknhoaa
