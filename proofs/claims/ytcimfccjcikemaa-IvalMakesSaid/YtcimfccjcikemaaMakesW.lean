/-
  The walk of the law IvalMakes: it answers true. Conditions: those that each theorem names.
-/
import Derived.Test.YtcimfccjcikemaaMakesW1
import Derived.Test.YtcimfccjcikemaaMakesW2
import Derived.Test.YtcimfccjcikemaaMakesW3
import Derived.Test.YtcimfccjcikemaaMakesW4
import Derived.Test.YtcimfccjcikemaaIvC
import Derived.Test.YtcimfccjcikemaaRefL
import Derived.Test.YtcimfccjcikemaaRefM
import Derived.Deep.DeepCutAuto
import Derived.Deep.RegionHeld3
import Derived.Test.YtcimfccjcikemaaSteady
namespace Go.Proofs.Ytcimfccjcikemaa
open Go.RowKit Nm Rn
set_option maxRecDepth 100000
set_option linter.unusedVariables false
set_option linter.unusedSimpArgs false

theorem makes_walk (lo hi : Nat) (w : World) (hl : lo < 18446744073709551616) (hh : hi < 18446744073709551616) :
    Calls Try.prog 3 #[.agg #[.int .u64 (lo : Int), .int .u64 (hi : Int)]] w fun e w' => e = .returned (.bool true) ∧ Ext w w' := by
  have h1 := fun w => inew_any lo hi w hl hh
  have h2 := fun w => new6_any lo hi w hl hh
  have h3 := fun w => ipoint_any lo w hl
  have h4 := fun w => new6_any lo lo w hl hl
  have e1 : newE lo hi = if sndB lo hi then 0 else 1 := rfl
  have e2 : newE lo lo = if sndB lo lo then 0 else 1 := rfl
  rw [e1] at h1
  rw [e2] at h3
  cases hV : sndB lo hi <;> cases hW : sndB lo lo <;> rw [hV] at h1 h2 <;> rw [hW] at h3 h4
  · exact makes_ff lo hi _ _ _ _ w h1 h2 h3 h4
  · exact makes_ft lo hi _ _ _ _ w h1 h2 h3 h4
  · exact makes_tf lo hi _ _ _ _ w h1 h2 h3 h4
  · exact makes_tt lo hi _ _ _ _ w h1 h2 h3 h4
end Go.Proofs.Ytcimfccjcikemaa
