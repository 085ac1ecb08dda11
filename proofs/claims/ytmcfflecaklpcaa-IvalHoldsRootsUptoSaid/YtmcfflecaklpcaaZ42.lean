/-
  The document's ratios: their zero and their size. Conditions: those that each theorem names.
-/
import Derived.Test.YtmcfflecaklpcaaZ09
import Derived.Test.YtmcfflecaklpcaaZ01
namespace Go.Proofs.Ytmcfflecaklpcaa
open Go.RowKit Nm
set_option maxRecDepth 100000
set_option linter.unusedVariables false
set_option linter.unusedSimpArgs false

theorem nw_mul2 (a b : Nat) : nw (a * b) ≤ nw a + nw b := by
  have h1 := lt_pow_nw a
  have h2 := lt_pow_nw b
  refine (nw_le_iff _ _).2 ?_
  rw [Nat.pow_add]
  exact Nat.mul_lt_mul'' h1 h2
theorem zero_rat (w : World) : (zeroValue 35).run Try.prog w = .ok (.agg #[.bool false, .slice none 0 0, .slice none 0 0]) w := by kernel_rfl
theorem agg_rat (w : World) : (isAgg 35).run Try.prog w = .ok true w := by kernel_rfl
theorem size_rat (w : World) : (sizeOf 35).run Try.prog w = .ok 3 w := by kernel_rfl

end Go.Proofs.Ytmcfflecaklpcaa
