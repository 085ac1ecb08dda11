/-
  Plain: the number of a pattern, rounded, is the pattern; numbers of patterns stand to each other as the patterns do. Conditions: those that each theorem names.
-/
import Derived.Test.YtcimfccjcikemaaRat
import Derived.Test.YtcimfccjcikemaaIv
set_option linter.unusedVariables false

namespace Go.Proofs.Ytcimfccjcikemaa.Rn
open Nm

theorem two_pow_s (k : Nat) : 2 ^ (k + 1) = 2 * 2 ^ k := by rw [Nat.pow_succ, Nat.mul_comm]
theorem K75_74 : K75 = 2 * K74 := by
  obtain ⟨k, hk⟩ : ∃ k : Nat, k = 1074 := ⟨_, rfl⟩
  rw [K75_def, K74_def, show (1075 : Nat) = k + 1 by omega, ← hk, two_pow_s]

theorem zr_fb (b : Nat) : zr (fbN b) (fbD b) = 4 * rv (mg b) := by
  have h := fb_val b
  rw [zr_eq, show (4 * rv (mg b)) = 2 * (2 * rv (mg b)) by omega]
  refine (zq_eq (fbD_pos b)).2 ?_
  rw [K75_74, show fbN b * (2 * K74) = 2 * (fbN b * K74) by rw [Nat.mul_left_comm], h, Nat.mul_assoc]

theorem rr_rung (d : Int) (neg : Bool) {k : Nat} (hk : k < infR) : rr d neg (4 * rv k) = k := by
  unfold rr away
  rw [show 4 * rv k / 4 = rv k by omega, rung_rv, if_pos rfl]
  split
  · exact Nat.min_eq_left (by omega)
  · simp only [Bool.false_eq_true, if_false]
    exact Nat.min_eq_left (by omega)

theorem rnd_rung (d : Int) (neg : Bool) {k : Nat} (hk : k < infR) : rnd d neg (4 * rv k) = pat neg k := by unfold rnd; rw [rr_rung d neg hk]

theorem pl_pat {b : Nat} (hb : b < 18446744073709551616) : pat (sg b && decide (mg b ≠ 0)) (mg b) = pl b := by
  unfold pat pl sg mg
  by_cases h1 : b = 9223372036854775808
  · subst h1; rfl
  · rw [if_neg h1]
    by_cases h2 : b % 9223372036854775808 = 0
    · rw [if_pos h2]; omega
    · rw [if_neg h2]
      by_cases h3 : 9223372036854775808 ≤ b
      · simp [h2, h3]; omega
      · simp [h3]; omega

theorem rnd_bits (d : Int) {b : Nat} (hb : b < 18446744073709551616) (hf : mg b < infR) : rnd d (sg b && decide (mg b ≠ 0)) (zr (fbN b) (fbD b)) = pl b := by
  rw [zr_fb, rnd_rung d _ hf, pl_pat hb]

/-- The sign of a - b. -/
def cmpI (a b : Int) : Int := if a < b then -1 else if b < a then 1 else 0
theorem cmpI_mul {a b : Int} {p : Int} (hp : 0 < p) : cmpI (a * p) (b * p) = cmpI a b := by
  unfold cmpI
  by_cases h1 : a < b
  · rw [if_pos h1, if_pos (Int.mul_lt_mul_of_pos_right h1 hp)]
  · have h1' := Int.mul_le_mul_of_nonneg_right (show b ≤ a by omega) (show 0 ≤ p by omega)
    rw [if_neg h1, if_neg (by omega)]
    by_cases h2 : b < a
    · rw [if_pos h2, if_pos (Int.mul_lt_mul_of_pos_right h2 hp)]
    · have h2' := Int.mul_le_mul_of_nonneg_right (show a ≤ b by omega) (show 0 ≤ p by omega)
      rw [if_neg h2, if_neg (by omega)]
/-- A ratio's numerator with its sign. -/
def sn (neg : Bool) (n : Nat) : Int := if neg then -(n : Int) else (n : Int)
/-- How two ratios stand to each other. -/
def rc (neg : Bool) (n m : Nat) (neg' : Bool) (n' m' : Nat) : Int := cmpI (sn neg n * m') (sn neg' n' * m)

theorem sn_mul (neg : Bool) (n k : Nat) : sn neg n * (k : Int) = sn neg (n * k) := by
  unfold sn; cases neg <;> simp [Int.neg_mul]

theorem sv_sn (b : Nat) : sv b = sn (sg b && decide (mg b ≠ 0)) (rv (mg b)) := by
  unfold sv sn
  cases h : sg b
  · simp
  · by_cases h0 : mg b = 0
    · simp [h0, rv_zero]
    · simp [h0]

theorem fb_sv (b : Nat) : sn (sg b && decide (mg b ≠ 0)) (fbN b) * (K74 : Int) = sv b * (fbD b : Int) := by
  rw [sv_sn, sn_mul, sn_mul, fb_val]

theorem rc_bits (x y : Nat) : rc (sg x && decide (mg x ≠ 0)) (fbN x) (fbD x) (sg y && decide (mg y ≠ 0)) (fbN y) (fbD y) = cmpI (key x) (key y) := by
  unfold rc
  have hk : (0 : Int) < (K74 : Int) := by have := K74_pos; omega
  have hx : (0 : Int) < (fbD x : Int) := by have := fbD_pos x; omega
  have hy : (0 : Int) < (fbD y : Int) := by have := fbD_pos y; omega
  have e1 : sn (sg x && decide (mg x ≠ 0)) (fbN x) * (fbD y : Int) * (K74 : Int) = sv x * ((fbD x : Int) * (fbD y : Int)) := by
    rw [Int.mul_right_comm, fb_sv, Int.mul_assoc]
  have e2 : sn (sg y && decide (mg y ≠ 0)) (fbN y) * (fbD x : Int) * (K74 : Int) = sv y * ((fbD x : Int) * (fbD y : Int)) := by
    rw [Int.mul_right_comm, fb_sv, Int.mul_assoc, Int.mul_comm (fbD y : Int)]
  rw [← cmpI_mul hk, e1, e2, cmpI_mul (Int.mul_pos hx hy)]
  obtain ⟨h1, h2⟩ := rv_key x y
  obtain ⟨h3, h4⟩ := rv_key y x
  unfold cmpI
  simp only [h1, h3]
end Go.Proofs.Ytcimfccjcikemaa.Rn
