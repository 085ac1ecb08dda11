/-
  Plain: patterns of binary64 in their order; the ends of intervals. Conditions: those that each theorem names.
-/
import Derived.Test.YtcimfccjcikemaaFlo
set_option linter.unusedVariables false

namespace Go.Proofs.Ytcimfccjcikemaa.Rn

def minf : Nat := 18442240474082181120
theorem minf_val : minf = 18442240474082181120 := rfl

def ltB (x y : Nat) : Bool := !isNaN x && !isNaN y && decide (key x < key y)
def eqB (x y : Nat) : Bool := !isNaN x && !isNaN y && decide (key x = key y)
def leB (x y : Nat) : Bool := !isNaN x && !isNaN y && decide (key x ≤ key y)

theorem order_lt {x y : Nat} (hx : x < 18446744073709551616) (hy : y < 18446744073709551616) : (Ieee.double.order x y == some .lt) = ltB x y := by
  rw [order_eq hx hy]
  unfold ord ltB isNaN
  by_cases h1 : infR < mg x
  · simp [h1]
  · by_cases h2 : infR < mg y
    · simp [h2]
    · rw [if_neg (by omega)]
      by_cases h3 : key x < key y
      · simp [h1, h2, h3]
      · by_cases h4 : key x = key y
        · simp [h1, h2, h4]
        · simp [h1, h2, h3, h4]
theorem order_eqv {x y : Nat} (hx : x < 18446744073709551616) (hy : y < 18446744073709551616) : (Ieee.double.order x y == some .eq) = eqB x y := by
  rw [order_eq hx hy]
  unfold ord eqB isNaN
  by_cases h1 : infR < mg x
  · simp [h1]
  · by_cases h2 : infR < mg y
    · simp [h2]
    · rw [if_neg (by omega)]
      by_cases h3 : key x < key y
      · have h4 : ¬ key x = key y := by omega
        simp [h1, h2, h3, h4]
      · by_cases h4 : key x = key y
        · simp [h1, h2, h4]
        · simp [h1, h2, h3, h4]
theorem order_gt {x y : Nat} (hx : x < 18446744073709551616) (hy : y < 18446744073709551616) : (Ieee.double.order x y == some .gt) = ltB y x := by
  rw [order_eq hx hy]
  unfold ord ltB isNaN
  by_cases h1 : infR < mg x
  · simp [h1]
  · by_cases h2 : infR < mg y
    · simp [h2]
    · rw [if_neg (by omega)]
      by_cases h3 : key x < key y
      · have h4 : ¬ key y < key x := by omega
        simp [h1, h2, h3, h4]
      · by_cases h4 : key x = key y
        · simp [h1, h2, h4]
        · have h5 : key y < key x := by omega
          simp [h1, h2, h3, h4, h5]
theorem order_le {x y : Nat} (hx : x < 18446744073709551616) (hy : y < 18446744073709551616) : (Ieee.double.order x y == some .lt || Ieee.double.order x y == some .eq) = leB x y := by
  rw [order_lt hx hy, order_eqv hx hy]
  unfold ltB eqB leB
  cases isNaN x <;> cases isNaN y <;> simp
  by_cases h : key x ≤ key y
  · rcases Int.lt_or_eq_of_le h with h1 | h1
    · simp [h1]; omega
    · simp [h1]
  · have h1 : ¬ key x < key y := by omega
    have h2 : ¬ key x = key y := by omega
    simp [h, h1, h2]
theorem order_ge {x y : Nat} (hx : x < 18446744073709551616) (hy : y < 18446744073709551616) : (Ieee.double.order x y == some .gt || Ieee.double.order x y == some .eq) = leB y x := by
  rw [order_gt hx hy, order_eqv hx hy]
  unfold ltB eqB leB
  cases isNaN x <;> cases isNaN y <;> simp
  by_cases h : key y ≤ key x
  · rcases Int.lt_or_eq_of_le h with h1 | h1
    · simp [h1]; omega
    · simp [h1]
  · have h1 : ¬ key y < key x := by omega
    have h2 : ¬ key x = key y := by omega
    simp [h, h1, h2]

/-- -0 as 0; what is no number stays. -/
def pl (b : Nat) : Nat := if b = 9223372036854775808 then 0 else b
/-- -0 as 0; what is no number as the one. -/
def plN (b : Nat) : Nat := if b = 9223372036854775808 then 0 else if isNaN b then 9221120237041090561 else b
theorem pl_lt {b : Nat} (h : b < 18446744073709551616) : pl b < 18446744073709551616 := by unfold pl; split <;> omega
theorem plN_lt {b : Nat} (h : b < 18446744073709551616) : plN b < 18446744073709551616 := by unfold plN; split <;> first | omega | (split <;> omega)
theorem plN_of {b : Nat} (h : isNaN b = false) : plN b = pl b := by unfold plN pl; rw [h]; simp
theorem eq0 {b : Nat} (h : b < 18446744073709551616) : eqB b 0 = decide (b = 0 ∨ b = 9223372036854775808) := by
  have h1 : key 0 = 0 := rfl
  have h2 : isNaN 0 = false := rfl
  unfold eqB
  rw [h1, h2]
  unfold isNaN key sg mg
  rw [infR_val]
  by_cases h3 : b = 0 ∨ b = 9223372036854775808
  · rw [decide_eq_true h3]
    rcases h3 with rfl | rfl <;> rfl
  · rw [decide_eq_false h3]
    by_cases h4 : 9223372036854775808 ≤ b
    · simp [h4]; omega
    · simp [h4]; omega

/-- The document's key. -/
def rkey (b : Nat) : Nat := if 9223372036854775808 ≤ plN b then 18446744073709551615 - plN b else plN b + 9223372036854775808
theorem rkey_key {b : Nat} (h : b < 18446744073709551616) (hn : isNaN b = false) : (rkey b : Int) = 9223372036854775808 + key b - (if key b < 0 then 1 else 0) := by
  unfold rkey
  rw [plN_of hn]
  unfold pl key sg mg
  by_cases h1 : b = 9223372036854775808
  · subst h1; rfl
  · rw [if_neg h1]
    by_cases h2 : 9223372036854775808 ≤ b
    · rw [if_pos h2]; simp [h2]; split <;> omega
    · rw [if_neg h2]; simp [h2]; split <;> omega
def aboveB (x y : Nat) : Bool := !isNaN x && !isNaN y && decide (rkey y < rkey x)
theorem above_lt {x y : Nat} (hx : x < 18446744073709551616) (hy : y < 18446744073709551616) : aboveB x y = ltB y x := by
  unfold aboveB ltB
  cases h1 : isNaN x
  · cases h2 : isNaN y
    · have e1 := rkey_key hx h1
      have e2 := rkey_key hy h2
      simp only [Bool.not_false, Bool.and_true, Bool.true_and]
      refine decide_eq_decide.2 ?_
      split at e1 <;> split at e2 <;> omega
    · simp
  · simp
/-- Two ends make an interval that is not empty: the program's test. -/
def sndB (lo hi : Nat) : Bool := leB lo hi && ltB lo infR && ltB minf hi
/-- .. the document's. -/
def sndR (lo hi : Nat) : Bool := !(isNaN lo || isNaN hi || aboveB lo hi) && (decide (lo ≠ infR) && decide (hi ≠ minf))
theorem key_inf : key infR = 9218868437227405312 := rfl
theorem key_minf : key minf = -9218868437227405312 := rfl
theorem nan_inf : isNaN infR = false := rfl
theorem nan_minf : isNaN minf = false := rfl
theorem key_le {b : Nat} (hn : isNaN b = false) : key b ≤ 9218868437227405312 ∧ -9218868437227405312 ≤ key b := by
  unfold isNaN at hn
  have := of_decide_eq_false hn
  rw [infR_val] at this
  unfold key
  split <;> omega
theorem key_eq_inf {b : Nat} (h : b < 18446744073709551616) (hn : isNaN b = false) : key b = 9218868437227405312 ↔ b = infR := by
  rw [infR_val]
  unfold key sg mg
  by_cases h2 : 9223372036854775808 ≤ b
  · simp [h2]; omega
  · simp [h2]; omega
theorem key_eq_minf {b : Nat} (h : b < 18446744073709551616) (hn : isNaN b = false) : key b = -9218868437227405312 ↔ b = minf := by
  rw [minf_val]
  unfold key sg mg
  by_cases h2 : 9223372036854775808 ≤ b
  · simp [h2]; omega
  · simp [h2]; omega
theorem snd_eq {lo hi : Nat} (hl : lo < 18446744073709551616) (hh : hi < 18446744073709551616) : sndB lo hi = sndR lo hi := by
  unfold sndB sndR
  rw [above_lt hl hh]
  unfold leB ltB
  rw [key_inf, key_minf, nan_inf, nan_minf]
  cases h1 : isNaN lo
  · cases h2 : isNaN hi
    · have a1 := key_le h1
      have a2 := key_le h2
      have e1 := key_eq_inf hl h1
      have e2 := key_eq_minf hh h2
      rw [Bool.eq_iff_iff]
      simp
      omega
    · simp
  · simp
/-- How two ends are read. -/
def rdLo (lo hi : Nat) : Nat := if sndB lo hi then pl lo else infR
def rdHi (lo hi : Nat) : Nat := if sndB lo hi then pl hi else minf
theorem snd_nan {lo hi : Nat} (h : sndB lo hi = true) : isNaN lo = false ∧ isNaN hi = false := by
  unfold sndB leB at h
  revert h
  cases isNaN lo <;> cases isNaN hi <;> simp
end Go.Proofs.Ytcimfccjcikemaa.Rn
