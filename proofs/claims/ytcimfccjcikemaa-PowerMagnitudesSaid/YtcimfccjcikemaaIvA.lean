/-
  The contracts of the program's intervals, first part: how two ends are read, made, found valid. Conditions: those that each theorem names.
-/
import Derived.Test.YtcimfccjcikemaaRefK
import Derived.Deep.RegionWith
namespace Go.Proofs.Ytcimfccjcikemaa
open Go.RowKit Nm Rn
set_option maxRecDepth 100000
set_option linter.unusedVariables false
set_option linter.unusedSimpArgs false

/-- Comparisons of floats, in the walk's own form. -/
theorem fo_lt {x y : Nat} (hx : x < 18446744073709551616) (hy : y < 18446744073709551616) : (FloatKind.f64.format.order x y == some .lt) = ltB x y := order_lt hx hy
theorem fo_eq {x y : Nat} (hx : x < 18446744073709551616) (hy : y < 18446744073709551616) : (FloatKind.f64.format.order x y == some .eq) = eqB x y := order_eqv hx hy
theorem fo_gt {x y : Nat} (hx : x < 18446744073709551616) (hy : y < 18446744073709551616) : (FloatKind.f64.format.order x y == some .gt) = ltB y x := order_gt hx hy
theorem fo_le {x y : Nat} (hx : x < 18446744073709551616) (hy : y < 18446744073709551616) : (FloatKind.f64.format.order x y == some .lt || FloatKind.f64.format.order x y == some .eq) = leB x y := order_le hx hy
theorem fo_ge {x y : Nat} (hx : x < 18446744073709551616) (hy : y < 18446744073709551616) : (FloatKind.f64.format.order x y == some .gt || FloatKind.f64.format.order x y == some .eq) = leB y x := order_ge hx hy
theorem infR_lt : infR < 18446744073709551616 := by rw [infR_val]; omega
theorem minf_lt : minf < 18446744073709551616 := by rw [minf_val]; omega

set_option maxHeartbeats 400000 in
theorem iplain_any (b : Nat) (w : World) (h : b < 18446744073709551616) :
    Calls Try.prog 53 #[.float .f64 b] w fun e w' => e = .returned (.float .f64 (pl b)) ∧ w = w' := by
  have hq := fo_eq h (show 0 < 18446744073709551616 by omega)
  rw [eq0 h] at hq
  by_cases h0 : b = 0 ∨ b = 9223372036854775808
  · rw [decide_eq_true h0] at hq
    have HF : Hid (0 = pl b) := Lib.hid (by unfold pl; rcases h0 with h0 | h0 <;> subst h0 <;> rfl)
    clear h0 h
    go_enter Try.func53, Try.ntmps53
    go_wp2
    go_ret
    exact ⟨ret_float HF.out, rfl⟩
  · rw [decide_eq_false h0] at hq
    have HF : Hid (b = pl b) := Lib.hid (by unfold pl; rw [if_neg (fun h => h0 (.inr h))])
    clear h0 h
    go_enter Try.func53, Try.ntmps53
    go_wp2
    go_ret
    exact ⟨ret_float HF.out, rfl⟩

set_option maxHeartbeats 400000 in
theorem inf_p (w : World) : Calls Try.prog 58 #[.int .i64 1] w fun e w' => e = .returned (.float .f64 infR) ∧ w = w' := by
  go_enter Try.func58, Try.ntmps58
  go_wp2
  go_ret
  exact ⟨rfl, rfl⟩
set_option maxHeartbeats 400000 in
theorem inf_m (w : World) : Calls Try.prog 58 #[.int .i64 (-1)] w fun e w' => e = .returned (.float .f64 minf) ∧ w = w' := by
  go_enter Try.func58, Try.ntmps58
  go_wp2
  go_ret
  exact ⟨rfl, rfl⟩

set_option maxHeartbeats 1000000 in
theorem isound_any (lo hi : Nat) (w : World) (hl : lo < 18446744073709551616) (hh : hi < 18446744073709551616) :
    Calls Try.prog 52 #[.float .f64 lo, .float .f64 hi] w fun e w' => e = .returned (.bool (sndB lo hi)) ∧ w = w' := by
  have h1 := fo_lt hl hh
  have h1' := fo_eq hl hh
  have h12 := fo_le hl hh
  rw [h1, h1'] at h12
  have h2 := fo_lt hl infR_lt
  have h3 := fo_gt hh minf_lt
  have hF : sndB lo hi = (leB lo hi && ltB lo infR && ltB minf hi) := rfl
  obtain ⟨a, ha⟩ : ∃ a, a = ltB lo hi := ⟨_, rfl⟩
  obtain ⟨a', ha'⟩ : ∃ a', a' = eqB lo hi := ⟨_, rfl⟩
  obtain ⟨b, hb⟩ : ∃ b, b = ltB lo infR := ⟨_, rfl⟩
  obtain ⟨c, hc⟩ : ∃ c, c = ltB minf hi := ⟨_, rfl⟩
  rw [← h12, ← ha, ← ha', ← hb, ← hc] at hF
  rw [← ha] at h1
  rw [← ha'] at h1'
  rw [← hb] at h2
  rw [← hc] at h3
  have HF := Lib.hid hF
  clear h12 hF ha ha' hb hc hl hh
  cases a <;> cases a' <;> cases b <;> cases c
  all_goals
    go_enter Try.func52, Try.ntmps52
    go_wp2_with (first | (go_at_call 58; ((with_reducible refine (inf_p _).mono ?_); rintro e w' ⟨rfl, rfl⟩)) | (go_at_call 58; ((with_reducible refine (inf_m _).mono ?_); rintro e w' ⟨rfl, rfl⟩)))
    go_ret
    exact ⟨ret_bool (by rw [HF.out]; rfl), rfl⟩
end Go.Proofs.Ytcimfccjcikemaa
