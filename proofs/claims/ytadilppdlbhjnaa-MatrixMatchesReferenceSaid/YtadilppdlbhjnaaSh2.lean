import Derived.Shelf.SlSortCmp.SmallK
import Derived.Ground.SlsfProg
import Derived.Test.YtadilppdlbhjnaaProg
namespace Go.Proofs
open Go.Shelf
end Go.Proofs
