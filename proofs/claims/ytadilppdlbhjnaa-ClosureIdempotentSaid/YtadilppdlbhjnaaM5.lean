/- Walks of layers 14, 15: the reference's Same; Const. -/
import Derived.Test.YtadilppdlbhjnaaM4
namespace Go.Proofs.Ytadilppdlbhjnaa
set_option linter.unusedSimpArgs false
set_option linter.unusedVariables false
open Go.RowKit

theorem cell_held : Try.prog.stoodInHeld 76 = false := by kernel_rfl
@[go_sem] theorem cell_neq_self (a b : Int) (w : World) : (binOp .neq 76 (.agg #[.int .i64 a, .int .i64 b]) (.agg #[.int .i64 a, .int .i64 b])).run Try.prog w = .ok (.bool false) w := by
  have h1 := cell_held
  simp [binOp, Op.equal, Op.maxDepth, go_sem, h1]

end Go.Proofs.Ytadilppdlbhjnaa
