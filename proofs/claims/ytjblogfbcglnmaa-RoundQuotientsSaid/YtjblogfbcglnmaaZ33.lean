/-
  The walk through RoundQuotients. Conditions: those that each theorem names.
-/
import Derived.Test.YtjblogfbcglnmaaZ07
import Derived.Test.YtjblogfbcglnmaaZ31
import Derived.Test.YtjblogfbcglnmaaZ32
namespace Go.Proofs.Ytjblogfbcglnmaa
open Go.RowKit Nm Rn
set_option maxRecDepth 100000
set_option linter.unusedVariables false
set_option linter.unusedSimpArgs false

set_option maxHeartbeats 1000000 in
theorem quotients_walk (d : Int) (x y : Nat) (w : World) (hx : x < 18446744073709551616) (hy : y < 18446744073709551616) :
    Calls Try.prog 11 #[.int .i64 d, .int .u64 (x : Int), .int .u64 (y : Int)] w fun e w' => e = .returned (.bool true) ∧ Ext w w' := by
  have HA := Lib.hid (fun w => rdiv_any d x y w hx hy)
  have HB := Lib.hid (fun w => div3_any d x y w hx hy)
  have HL := Lib.hid (fun r w h => lbits_any r w h)
  obtain ⟨V, hV⟩ : ∃ V, V = divR d x y := ⟨_, rfl⟩
  rw [← hV] at HA HB
  clear hV hx hy
  go_enter Try.func11, Try.ntmps11
  go_wp2_with (go_at_call 18; refine (fl_any _ _).mono ?_; rintro e w' ⟨rfl, rfl⟩)
  refine (HA.out _).mono ?_
  rintro e w1 ⟨r, rfl, hr, hc, hE⟩
  go_wp2_with fail
  refine (HL.out r _ hr).mono ?_
  rintro e w2 ⟨rfl, rfl⟩
  rw [hc]
  clear hc hr
  go_wp2_with fail
  refine (HB.out _).mono ?_
  rintro e w3 ⟨rfl, hE3⟩
  go_wp2
  go_ret
  exact ⟨by simp, hE.trans hE3⟩
end Go.Proofs.Ytjblogfbcglnmaa
