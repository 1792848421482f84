import Derived.Test.YtadilppdlbhjnaaBase
import Derived.Maps.OwnOps
import Derived.Maps.OwnSet
namespace Go.Proofs.Ytadilppdlbhjnaa
set_option linter.unusedSimpArgs false
set_option linter.unusedVariables false
open Go.RowKit
def gv (k a b : Int) : Value := .agg #[.int .i64 k, .int .i64 a, .int .i64 b]
def MapIs (w : World) (b : Nat) (gs : List Gate) : Prop :=
 ∃ es clock, w.heap[b]? = some (.map es clock) ∧ es.toList.map (fun e => (e.key, e.val)) = gs.map (fun g => (gv g.k g.a g.b, Value.bool true))
end Go.Proofs.Ytadilppdlbhjnaa
