/-
  Pairs of patterns against themselves. Conditions: those that each theorem names.
-/
import Derived.Test.YtcimfccjcikemaaIvC
import Derived.Test.YtcimfccjcikemaaRefL
import Derived.Test.YtcimfccjcikemaaRefM
import Derived.Deep.DeepCutAuto
import Derived.Deep.RegionHeld3
import Derived.Test.YtcimfccjcikemaaSteady
namespace Go.Proofs.Ytcimfccjcikemaa
open Go.RowKit Nm Rn
set_option maxRecDepth 100000
set_option linter.unusedVariables false
set_option linter.unusedSimpArgs false

theorem neqI_self (a b : Int) (w : World) : (binOp .neq 24 (.agg #[.int .u64 a, .int .u64 b]) (.agg #[.int .u64 a, .int .u64 b])).run Try.prog w = .ok (.bool false) w := by
  go_simp <;> simp
theorem eqI_self (a b : Int) (w : World) : (binOp .eql 24 (.agg #[.int .u64 a, .int .u64 b]) (.agg #[.int .u64 a, .int .u64 b])).run Try.prog w = .ok (.bool true) w := by
  rw [eqI]; simp
end Go.Proofs.Ytcimfccjcikemaa
