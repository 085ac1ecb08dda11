/-
  Plain: patterns with the sign turned; the negative of an interval. Conditions: those that each theorem names.
-/
import Derived.Test.YtcimfccjcikemaaEnd
set_option linter.unusedVariables false

namespace Go.Proofs.Ytcimfccjcikemaa.Rn
open Nm

/-- The sign turned. -/
def ng (b : Nat) : Nat := if sg b then b - 9223372036854775808 else b + 9223372036854775808
theorem ng_lt {b : Nat} (h : b < 18446744073709551616) : ng b < 18446744073709551616 := by
  unfold ng sg; split <;> rename_i h1
  · have := of_decide_eq_true h1; omega
  · have := of_decide_eq_false (Bool.eq_false_iff.2 h1); omega
theorem mg_ng {b : Nat} (h : b < 18446744073709551616) : mg (ng b) = mg b := by
  unfold ng mg sg; split <;> rename_i h1
  · have := of_decide_eq_true h1; omega
  · have := of_decide_eq_false (Bool.eq_false_iff.2 h1); omega
theorem sg_ng {b : Nat} (h : b < 18446744073709551616) : sg (ng b) = !sg b := by
  unfold ng
  by_cases h1 : 9223372036854775808 ≤ b
  · have e : sg b = true := decide_eq_true h1
    rw [e, if_pos rfl]; unfold sg; exact decide_eq_false (by omega)
  · have e : sg b = false := decide_eq_false h1
    rw [e, if_neg (by simp)]; unfold sg; exact decide_eq_true (by omega)
theorem sv_ng {b : Nat} (h : b < 18446744073709551616) : sv (ng b) = -sv b := by
  unfold sv; rw [sg_ng h, mg_ng h]; cases sg b <;> simp
theorem key_ng {b : Nat} (h : b < 18446744073709551616) : key (ng b) = -key b := by
  unfold key; rw [sg_ng h, mg_ng h]; cases sg b <;> simp
theorem ng_xor {b : Nat} (h : b < 18446744073709551616) : b ^^^ 9223372036854775808 = ng b := by
  have e : (9223372036854775808 : Nat) = 2 ^ 63 := by rfl
  unfold ng
  refine Nat.eq_of_testBit_eq fun i => ?_
  rw [Nat.testBit_xor, e, Nat.testBit_two_pow]
  by_cases h1 : sg b = true
  · rw [if_pos h1]
    have h2 := of_decide_eq_true h1
    have e2 : b = 2 ^ 63 + (b - 2 ^ 63) := by omega
    by_cases hi : 63 = i
    · subst hi
      have : (b - 2 ^ 63).testBit 63 = false := Nat.testBit_lt_two_pow (by omega)
      rw [this]
      have : b.testBit 63 = true := by rw [e2, Nat.testBit_two_pow_add_eq, this]; rfl
      rw [this]; simp
    · rw [show decide (63 = i) = false from decide_eq_false hi, Bool.xor_false]
      rcases Nat.lt_or_ge i 63 with h3 | h3
      · conv => lhs; rw [e2]
        exact Nat.testBit_two_pow_add_gt h3 _
      · rw [Nat.testBit_lt_two_pow (Nat.lt_of_lt_of_le h (Nat.pow_le_pow_right (n := 2) (by omega) (show 64 ≤ i by omega)))]
        rw [Nat.testBit_lt_two_pow (Nat.lt_of_lt_of_le (show b - 2 ^ 63 < 2 ^ 64 by omega) (Nat.pow_le_pow_right (by omega) (show 64 ≤ i by omega)))]
  · rw [if_neg h1]
    have h2 := of_decide_eq_false (Bool.eq_false_iff.2 h1)
    rw [Nat.add_comm b]
    by_cases hi : 63 = i
    · subst hi
      rw [Nat.testBit_two_pow_add_eq]
      simp
    · rw [show decide (63 = i) = false from decide_eq_false hi, Bool.xor_false]
      rcases Nat.lt_or_ge i 63 with h3 | h3
      · exact (Nat.testBit_two_pow_add_gt h3 _).symm
      · rw [Nat.testBit_lt_two_pow (Nat.lt_of_lt_of_le h (Nat.pow_le_pow_right (n := 2) (by omega) (show 64 ≤ i by omega)))]
        rw [Nat.testBit_lt_two_pow (Nat.lt_of_lt_of_le (show 2 ^ 63 + b < 2 ^ 64 by omega) (Nat.pow_le_pow_right (by omega) (show 64 ≤ i by omega)))]

/-- The ends of an interval's negative. -/
def ngLo (lo hi : Nat) : Nat := if rdLo lo hi = infR ∧ rdHi lo hi = minf then infR else pl (ng (rdHi lo hi))
def ngHi (lo hi : Nat) : Nat := if rdLo lo hi = infR ∧ rdHi lo hi = minf then minf else pl (ng (rdLo lo hi))

theorem mg_fin {b : Nat} (h : b < 18446744073709551616) (hn : isNaN b = false) (h1 : b ≠ infR) (h2 : b ≠ minf) : mg b < infR := by
  have h3 : ¬ (infR < mg b) := of_decide_eq_false hn
  have e1 := infR_val
  have e2 := minf_val
  unfold mg at h3 ⊢
  omega
theorem fb_ng {b : Nat} (h : b < 18446744073709551616) : fbN (ng b) = fbN b ∧ fbD (ng b) = fbD b := by
  have e := mg_ng h
  unfold mg at e
  have e1 : ng b % 4503599627370496 = b % 4503599627370496 := by omega
  have e2 : ng b / 4503599627370496 % 2048 = b / 4503599627370496 % 2048 := by omega
  unfold fbN fbD fbSig fbExp
  rw [e1, e2]
  exact ⟨rfl, rfl⟩
theorem rnd_ng (d : Int) {b : Nat} (h : b < 18446744073709551616) (hf : mg b < infR) : rnd d (!(sg b && decide (mg b ≠ 0)) && decide (fbN b ≠ 0)) (zr (fbN b) (fbD b)) = pl (ng b) := by
  have h1 := rnd_bits d (ng_lt h) (by rw [mg_ng h]; exact hf)
  rw [sg_ng h, mg_ng h, (fb_ng h).1, (fb_ng h).2] at h1
  rw [← h1]
  congr 1
  have e : decide (fbN b ≠ 0) = decide (mg b ≠ 0) := decide_eq_decide.2 (not_congr (fbN_zero b))
  rw [e]
  cases sg b <;> cases decide (mg b ≠ 0) <;> rfl
theorem rd_ends {lo hi : Nat} (hl : lo < 18446744073709551616) (hh : hi < 18446744073709551616) (h : ¬ (rdLo lo hi = infR ∧ rdHi lo hi = minf)) :
    rdLo lo hi < 18446744073709551616 ∧ rdHi lo hi < 18446744073709551616 ∧ isNaN (rdLo lo hi) = false ∧ isNaN (rdHi lo hi) = false ∧ rdLo lo hi ≠ infR ∧ rdHi lo hi ≠ minf ∧ sndB lo hi = true ∧ key (rdLo lo hi) ≤ key (rdHi lo hi) := by
  cases hs : sndB lo hi
  · exact absurd (by unfold rdLo rdHi; rw [hs]; exact ⟨rfl, rfl⟩) h
  · have hn := snd_nan hs
    have e1 : rdLo lo hi = pl lo := by unfold rdLo; rw [hs]; rfl
    have e2 : rdHi lo hi = pl hi := by unfold rdHi; rw [hs]; rfl
    have hs' := hs
    unfold sndB ltB leB at hs'
    simp only [Bool.and_eq_true, decide_eq_true_eq] at hs'
    have k1 := hs'.1.2.2
    have k2 := hs'.2.2
    have k3 := hs'.1.1.2
    have i1 := infR_val
    have i2 := minf_val
    have kp : ∀ b, key (pl b) = key b := by
      intro b
      unfold pl
      split
      · rename_i hb; subst hb; rfl
      · rfl
    have np : ∀ b, isNaN b = false → isNaN (pl b) = false := by
      intro b hb
      unfold pl
      split
      · rfl
      · exact hb
    rw [e1, e2]
    refine ⟨pl_lt hl, pl_lt hh, np _ hn.1, np _ hn.2, fun hx => ?_, fun hx => ?_, rfl, by rw [kp, kp]; exact k3⟩
    · have := kp lo; rw [hx] at this; omega
    · have := kp hi; rw [hx] at this; omega
end Go.Proofs.Ytcimfccjcikemaa.Rn
