import Derived.Test.YtadilppdlbhjnaaN11
import Derived.Test.YtadilppdlbhjnaaGE
namespace Go.Proofs.Ytadilppdlbhjnaa
set_option linter.unusedSimpArgs false
set_option linter.unusedVariables false
open Go.RowKit
theorem RetMF.eq {w w' : World} {p : Option Addr} {ar : Int} {m m' : List Cell} {e : Ending} (h : RetMF w p ar m e w') (he : m = m') : RetMF w p ar m' e w' := he ▸ h
def LAt (w : World) (p : Option Addr) (l : List Int) : Prop := IntsAt w p l
theorem LAt.up {w w' : World} {p : Option Addr} {l : List Int} (h : LAt w p l) (hB : Below w.heap.size w w') : LAt w' p l := SlAt.mono h hB
theorem LAt.box {w : World} {p q : Option Addr} {l : List Int} {b n c : Nat} (h : LAt w p l) (hc : w.cell? ⟨b, 0, none⟩ = some (.slice q n c)) (v : Value) : LAt (w.setCell ⟨b, 0, none⟩ v) p l := SlAt.setBox h hc (fun _ _ e => by cases e) v
end Go.Proofs.Ytadilppdlbhjnaa
