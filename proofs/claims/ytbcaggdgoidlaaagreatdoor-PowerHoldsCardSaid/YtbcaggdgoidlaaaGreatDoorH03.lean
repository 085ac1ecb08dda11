/-
 Rounding of a ratio, step by step as a program does it; patterns and their ratios.
 Plain arithmetic: no program is in sight. Conditions: none but those that each theorem names.
-/
import Derived.Test.YtbcaggdgoidlaaaGreatDoorH01
import Derived.Test.YtbcaggdgoidlaaaGreatDoorH02
set_option linter.unusedVariables false
set_option linter.unusedSimpArgs false
namespace Go.Proofs.YtbcaggdgoidlaaaGreatDoor.Rn
open Nm
theorem K75_pow : K75 = 2 ^ 1075 := K75_def
def K1024 : Nat := 2 ^ 1024
theorem K1024_def : K1024 = 2 ^ 1024 := by
 unfold K1024
 exact Eq.refl _
attribute [irreducible] K1024
theorem over_gen {n m u t q : Nat} (hm : 0 < m) (he : u + 53 = t + q) (h : m * 2 ^ t ≤ n) : u * 4503599627370496 + 4503599627370496 ≤ rung (zq (n * 2 ^ q) m / 4) := by
 rw [le_rung_iff, rv_form u 4503599627370496 (by omega) (fun _ => Nat.le_refl _)]
 have hz := (zq_le (N := n * 2 ^ q) (T := 2 * (4503599627370496 * 2 ^ u)) hm).2 (by
   have e : 2 * (4503599627370496 * 2 ^ u) = 2 ^ (t + q) := by
     have e52 : 4503599627370496 = 2 ^ 52 := rfl
     rw [e52, ← Nat.pow_add, ← Nat.pow_succ']
     congr 1
     omega
   rw [e, Nat.pow_add, Nat.mul_right_comm, Nat.mul_comm (2 ^ t) m]
   exact Nat.mul_le_mul_right _ h)
 generalize zq (n * 2 ^ q) m = Z at *
 generalize 4503599627370496 * 2 ^ u = T at *
 omega
theorem rr_over {n m : Nat} (hm : 0 < m) (h : m * K1024 ≤ n) (d : Int) (neg : Bool) :
   rr d neg (zr n m) = if (d = 1 ∧ neg = true) ∨ (d = -1 ∧ neg = false) then infR - 1 else infR := by
 have hr : infR ≤ rung (zr n m / 4) := by
   rw [zr_eq, K75_pow]
   rw [K1024_def] at h
   have h1 := over_gen (u := 2046) hm (show 2046 + 53 = 1024 + 1075 by omega) h
   have e : infR = 2046 * 4503599627370496 + 4503599627370496 := by rw [infR_val]
   rw [e]
   exact h1
 clear h
 unfold rr
 generalize rung (zr n m / 4) = k at *
 split
 · omega
 · cases away d neg (zr n m) <;> simp <;> omega
def expo (n m : Nat) : Int := if m * 2 ^ ((bl n : Int) - bl m).toNat ≤ n * 2 ^ (-((bl n : Int) - bl m)).toNat then (bl n : Int) - bl m else (bl n : Int) - bl m - 1
theorem expo_lo {n m : Nat} (hn : n ≠ 0) (hm : m ≠ 0) : m * 2 ^ (expo n m).toNat ≤ n * 2 ^ (-(expo n m)).toNat := by
 unfold expo
 split
 · assumption
 · -- the number of bits alone gives the half
   have h1 := pow_le_of_bl hn
   have h2 := lt_pow_bl m
   have hb1 := bl_pos hn
   have hb2 := bl_pos hm
   generalize bl n = a at *
   generalize bl m = b at *
   have e1 : m * 2 ^ ((a : Int) - b - 1).toNat ≤ 2 ^ b * 2 ^ ((a : Int) - b - 1).toNat := Nat.mul_le_mul_right _ (by omega)
   have e2 : 2 ^ (a - 1) * 2 ^ (-((a : Int) - b - 1)).toNat ≤ n * 2 ^ (-((a : Int) - b - 1)).toNat := Nat.mul_le_mul_right _ h1
   rw [← Nat.pow_add] at e1 e2
   have e3 : b + ((a : Int) - b - 1).toNat = a - 1 + (-((a : Int) - b - 1)).toNat := by omega
   rw [e3] at e1
   omega
theorem rr_min {u s b : Nat} (hb : b ≤ 1) (hu : u ≤ 2045) (hs : s < 9007199254740992) : min (u * 4503599627370496 + s + b) infR = u * 4503599627370496 + (s + b) := by
 have hinf : infR = 9218868437227405312 := infR_val
 rw [hinf]; omega
theorem rr_min' {u s : Nat} (hu : u ≤ 2045) (hs : s < 9007199254740992) : min (u * 4503599627370496 + s) (infR - 1) = u * 4503599627370496 + (s + 0) := by
 have hinf : infR = 9218868437227405312 := infR_val
 rw [hinf]; omega
def fbSig (b : Nat) : Nat := if b / 4503599627370496 % 2048 = 0 then b % 4503599627370496 else b % 4503599627370496 + 4503599627370496
def fbExp (b : Nat) : Int := (if b / 4503599627370496 % 2048 = 0 then 0 else (b / 4503599627370496 % 2048 : Nat) - 1 : Int) - 1074
def fbN (b : Nat) : Nat := fracN (fbSig b) 1 (fbExp b)
def fbD (b : Nat) : Nat := fracD (fbSig b) 1 (fbExp b)
def K74 : Nat := 2 ^ 1074
theorem K74_def : K74 = 2 ^ 1074 := by
 unfold K74
 exact Eq.refl _
theorem K74_pos : 0 < K74 := by
 rw [K74_def]
 exact two_pow_pos 1074
attribute [irreducible] K74
theorem fb_rv (b : Nat) : rv (mg b) = fbSig b * 2 ^ (fbExp b + 1074).toNat := by
 unfold fbSig fbExp
 have hm : mg b = b / 4503599627370496 % 2048 * 4503599627370496 + b % 4503599627370496 := by unfold mg; omega
 rw [hm]
 by_cases h : b / 4503599627370496 % 2048 = 0
 · simp only [h, if_true]
   rw [rv_small (by omega)]
   simp
 · simp only [h, if_false]
   have e : b / 4503599627370496 % 2048 * 4503599627370496 + b % 4503599627370496 = (b / 4503599627370496 % 2048 - 1) * 4503599627370496 + (b % 4503599627370496 + 4503599627370496) := by omega
   rw [e, rv_form _ _ (by omega) (fun _ => by omega)]
   congr 2
   omega
theorem fbSig_lt (b : Nat) : fbSig b < 9007199254740992 := by unfold fbSig; split <;> omega
theorem fbSig_zero (b : Nat) : fbSig b = 0 ↔ mg b = 0 := by
 unfold fbSig mg
 split <;> omega
theorem fbExp_lo (b : Nat) : -1074 ≤ fbExp b := by unfold fbExp; split <;> omega
theorem fbExp_hi (b : Nat) : fbExp b ≤ 972 := by unfold fbExp; split <;> omega
theorem fbN_zero (b : Nat) : fbN b = 0 ↔ mg b = 0 := by
 unfold fbN
 rw [fracN_eq_zero, fbSig_zero]
theorem fbD_pos (b : Nat) : 0 < fbD b := fracD_pos _ (by omega)
theorem fb_gen (s : Nat) (e : Int) (p q : Nat) (h : (p : Int) - q = e) : fracN s 1 e * 2 ^ q = s * 2 ^ p * fracD s 1 e := by
 have := frac_val (n := s) (d := 1) h
 rwa [Nat.one_mul] at this
theorem fb_val (b : Nat) : fbN b * K74 = rv (mg b) * fbD b := by
 have h := fb_gen (fbSig b) (fbExp b) (fbExp b + 1074).toNat 1074 (by have := fbExp_lo b; omega)
 rw [K74_def, fb_rv]
 unfold fbN fbD
 exact h
theorem nw_of_bits {x k m : Nat} (h : x < 2 ^ k) (hk : k ≤ 32 * m) : nw x ≤ m := by
 refine (nw_le_iff _ _).2 ?_
 rw [pow32]
 exact Nat.lt_of_lt_of_le h (Nat.pow_le_pow_right (by omega) hk)
theorem fbN_bits (b : Nat) : nw (fbN b) ≤ 40 := by
 have h1 := fracN_le (fbSig b) 1 (fbExp b)
 have h2 := fbSig_lt b
 have h3 := fbExp_hi b
 have h4 : tz (fbSig b) ≤ 53 := by
   by_cases h0 : fbSig b = 0
   · rw [h0, tz_zero]; omega
   · have a := tz_lt h0
     have c := (bl_le_iff (fbSig b) 53).2 h2
     omega
 unfold fbN
 generalize fracN (fbSig b) 1 (fbExp b) = x at *
 have h5 : fbSig b * 2 ^ ((fbExp b).toNat + tz (fbSig b)) < 2 ^ 53 * 2 ^ ((fbExp b).toNat + tz (fbSig b)) := Nat.mul_lt_mul_of_pos_right h2 (two_pow_pos _)
 rw [← Nat.pow_add] at h5
 exact nw_of_bits (Nat.lt_of_le_of_lt h1 h5) (by omega)
theorem tz_one : tz 1 = 0 := rfl
theorem fbD_bits (b : Nat) : nw (fbD b) ≤ 40 := by
 have h3 := fbExp_lo b
 unfold fbD fracD
 split
 · exact nw_of_bits (k := 1) (by omega) (by omega)
 · rw [tz_one, Nat.pow_zero, Nat.div_one, Nat.one_mul]
   generalize hq : (-(fbExp b + (tz (fbSig b) : Nat) - (0 : Nat))).toNat = q
   exact nw_of_bits (k := q + 1) (Nat.pow_lt_pow_right (by omega) (by omega)) (by omega)
theorem over_le {n m : Nat} (hn : n ≠ 0) (hm : m ≠ 0) (h : 1023 < expo n m) : m * K1024 ≤ n := by
 have h1 := expo_lo hn hm
 rw [show (-(expo n m)).toNat = 0 by omega, Nat.pow_zero, Nat.mul_one] at h1
 obtain ⟨x, hx⟩ : ∃ x, (expo n m).toNat = 1024 + x := ⟨(expo n m).toNat - 1024, by omega⟩
 rw [hx, Nat.pow_add, ← K1024_def] at h1
 exact Nat.le_trans (Nat.mul_le_mul_left _ (Nat.le_mul_of_pos_right _ (two_pow_pos x))) h1
def twB (d : Int) (neg : Bool) : Bool := decide ((d = 1 ∧ neg = true) ∨ (d = -1 ∧ neg = false))
theorem rnd_over {n m : Nat} (hn : n ≠ 0) (hm : m ≠ 0) (h : 1023 < expo n m) (d : Int) (neg : Bool) : rnd d neg (zr n m) = pat neg (if twB d neg then infR - 1 else infR) := by
 unfold rnd twB
 rw [rr_over (by omega) (over_le hn hm h)]
 simp
end Go.Proofs.YtbcaggdgoidlaaaGreatDoor.Rn

namespace Go.Proofs.YtbcaggdgoidlaaaGreatDoor.Rn
def minf : Nat := 18442240474082181120
theorem minf_val : minf = 18442240474082181120 := rfl
def ltB (x y : Nat) : Bool := !isNaN x && !isNaN y && decide (key x < key y)
def eqB (x y : Nat) : Bool := !isNaN x && !isNaN y && decide (key x = key y)
def leB (x y : Nat) : Bool := !isNaN x && !isNaN y && decide (key x ≤ key y)
theorem order_lt {x y : Nat} (hx : x < 18446744073709551616) (hy : y < 18446744073709551616) : (Ieee.double.order x y == some .lt) = ltB x y := by
 rw [order_eq hx hy]
 unfold ord ltB isNaN
 by_cases h1 : infR < mg x
 · simp [h1]
 · by_cases h2 : infR < mg y
   · simp [h2]
   · rw [if_neg (by omega)]
     by_cases h3 : key x < key y
     · simp [h1, h2, h3]
     · by_cases h4 : key x = key y
       · simp [h1, h2, h4]
       · simp [h1, h2, h3, h4]
theorem order_eqv {x y : Nat} (hx : x < 18446744073709551616) (hy : y < 18446744073709551616) : (Ieee.double.order x y == some .eq) = eqB x y := by
 rw [order_eq hx hy]
 unfold ord eqB isNaN
 by_cases h1 : infR < mg x
 · simp [h1]
 · by_cases h2 : infR < mg y
   · simp [h2]
   · rw [if_neg (by omega)]
     by_cases h3 : key x < key y
     · have h4 : ¬ key x = key y := by omega
       simp [h1, h2, h3, h4]
     · by_cases h4 : key x = key y
       · simp [h1, h2, h4]
       · simp [h1, h2, h3, h4]
theorem order_gt {x y : Nat} (hx : x < 18446744073709551616) (hy : y < 18446744073709551616) : (Ieee.double.order x y == some .gt) = ltB y x := by
 rw [order_eq hx hy]
 unfold ord ltB isNaN
 by_cases h1 : infR < mg x
 · simp [h1]
 · by_cases h2 : infR < mg y
   · simp [h2]
   · rw [if_neg (by omega)]
     by_cases h3 : key x < key y
     · have h4 : ¬ key y < key x := by omega
       simp [h1, h2, h3, h4]
     · by_cases h4 : key x = key y
       · simp [h1, h2, h4]
       · have h5 : key y < key x := by omega
         simp [h1, h2, h3, h4, h5]
theorem order_le {x y : Nat} (hx : x < 18446744073709551616) (hy : y < 18446744073709551616) : (Ieee.double.order x y == some .lt || Ieee.double.order x y == some .eq) = leB x y := by
 rw [order_lt hx hy, order_eqv hx hy]
 unfold ltB eqB leB
 cases isNaN x <;> cases isNaN y <;> simp
 by_cases h : key x ≤ key y
 · rcases Int.lt_or_eq_of_le h with h1 | h1
   · simp [h1]; omega
   · simp [h1]
 · have h1 : ¬ key x < key y := by omega
   have h2 : ¬ key x = key y := by omega
   simp [h, h1, h2]
theorem order_ge {x y : Nat} (hx : x < 18446744073709551616) (hy : y < 18446744073709551616) : (Ieee.double.order x y == some .gt || Ieee.double.order x y == some .eq) = leB y x := by
 rw [order_gt hx hy, order_eqv hx hy]
 unfold ltB eqB leB
 cases isNaN x <;> cases isNaN y <;> simp
 by_cases h : key y ≤ key x
 · rcases Int.lt_or_eq_of_le h with h1 | h1
   · simp [h1]; omega
   · simp [h1]
 · have h1 : ¬ key y < key x := by omega
   have h2 : ¬ key x = key y := by omega
   simp [h, h1, h2]
def pl (b : Nat) : Nat := if b = 9223372036854775808 then 0 else b
def plN (b : Nat) : Nat := if b = 9223372036854775808 then 0 else if isNaN b then 9221120237041090561 else b
theorem pl_lt {b : Nat} (h : b < 18446744073709551616) : pl b < 18446744073709551616 := by unfold pl; split <;> omega
theorem plN_lt {b : Nat} (h : b < 18446744073709551616) : plN b < 18446744073709551616 := by unfold plN; split <;> first | omega | (split <;> omega)
theorem plN_of {b : Nat} (h : isNaN b = false) : plN b = pl b := by unfold plN pl; rw [h]; simp
theorem eq0 {b : Nat} (h : b < 18446744073709551616) : eqB b 0 = decide (b = 0 ∨ b = 9223372036854775808) := by
 have h1 : key 0 = 0 := rfl
 have h2 : isNaN 0 = false := rfl
 unfold eqB
 rw [h1, h2]
 unfold isNaN key sg mg
 rw [infR_val]
 by_cases h3 : b = 0 ∨ b = 9223372036854775808
 · rw [decide_eq_true h3]
   rcases h3 with rfl | rfl <;> rfl
 · rw [decide_eq_false h3]
   by_cases h4 : 9223372036854775808 ≤ b
   · simp [h4]; omega
   · simp [h4]; omega
def rkey (b : Nat) : Nat := if 9223372036854775808 ≤ plN b then 18446744073709551615 - plN b else plN b + 9223372036854775808
theorem rkey_key {b : Nat} (h : b < 18446744073709551616) (hn : isNaN b = false) : (rkey b : Int) = 9223372036854775808 + key b - (if key b < 0 then 1 else 0) := by
 unfold rkey
 rw [plN_of hn]
 unfold pl key sg mg
 by_cases h1 : b = 9223372036854775808
 · subst h1; rfl
 · rw [if_neg h1]
   by_cases h2 : 9223372036854775808 ≤ b
   · rw [if_pos h2]; simp [h2]; split <;> omega
   · rw [if_neg h2]; simp [h2]; split <;> omega
def aboveB (x y : Nat) : Bool := !isNaN x && !isNaN y && decide (rkey y < rkey x)
theorem above_lt {x y : Nat} (hx : x < 18446744073709551616) (hy : y < 18446744073709551616) : aboveB x y = ltB y x := by
 unfold aboveB ltB
 cases h1 : isNaN x
 · cases h2 : isNaN y
   · have e1 := rkey_key hx h1
     have e2 := rkey_key hy h2
     simp only [Bool.not_false, Bool.and_true, Bool.true_and]
     refine decide_eq_decide.2 ?_
     split at e1 <;> split at e2 <;> omega
   · simp
 · simp
def sndB (lo hi : Nat) : Bool := leB lo hi && ltB lo infR && ltB minf hi
def sndR (lo hi : Nat) : Bool := !(isNaN lo || isNaN hi || aboveB lo hi) && (decide (lo ≠ infR) && decide (hi ≠ minf))
theorem key_inf : key infR = 9218868437227405312 := rfl
theorem key_minf : key minf = -9218868437227405312 := rfl
theorem nan_inf : isNaN infR = false := rfl
theorem nan_minf : isNaN minf = false := rfl
theorem key_le {b : Nat} (hn : isNaN b = false) : key b ≤ 9218868437227405312 ∧ -9218868437227405312 ≤ key b := by
 unfold isNaN at hn
 have := of_decide_eq_false hn
 rw [infR_val] at this
 unfold key
 split <;> omega
theorem key_eq_inf {b : Nat} (h : b < 18446744073709551616) (hn : isNaN b = false) : key b = 9218868437227405312 ↔ b = infR := by
 rw [infR_val]
 unfold key sg mg
 by_cases h2 : 9223372036854775808 ≤ b
 · simp [h2]; omega
 · simp [h2]; omega
theorem key_eq_minf {b : Nat} (h : b < 18446744073709551616) (hn : isNaN b = false) : key b = -9218868437227405312 ↔ b = minf := by
 rw [minf_val]
 unfold key sg mg
 by_cases h2 : 9223372036854775808 ≤ b
 · simp [h2]; omega
 · simp [h2]; omega
theorem snd_eq {lo hi : Nat} (hl : lo < 18446744073709551616) (hh : hi < 18446744073709551616) : sndB lo hi = sndR lo hi := by
 unfold sndB sndR
 rw [above_lt hl hh]
 unfold leB ltB
 rw [key_inf, key_minf, nan_inf, nan_minf]
 cases h1 : isNaN lo
 · cases h2 : isNaN hi
   · have a1 := key_le h1
     have a2 := key_le h2
     have e1 := key_eq_inf hl h1
     have e2 := key_eq_minf hh h2
     rw [Bool.eq_iff_iff]
     simp
     omega
   · simp
 · simp
def rdLo (lo hi : Nat) : Nat := if sndB lo hi then pl lo else infR
def rdHi (lo hi : Nat) : Nat := if sndB lo hi then pl hi else minf
theorem snd_nan {lo hi : Nat} (h : sndB lo hi = true) : isNaN lo = false ∧ isNaN hi = false := by
 unfold sndB leB at h
 revert h
 cases isNaN lo <;> cases isNaN hi <;> simp
end Go.Proofs.YtbcaggdgoidlaaaGreatDoor.Rn

namespace Go.Proofs.YtbcaggdgoidlaaaGreatDoor.Rn
open Nm
theorem two_pow_s (k : Nat) : 2 ^ (k + 1) = 2 * 2 ^ k := by rw [Nat.pow_succ, Nat.mul_comm]
theorem K75_74 : K75 = 2 * K74 := by
 obtain ⟨k, hk⟩ : ∃ k : Nat, k = 1074 := ⟨_, rfl⟩
 rw [K75_def, K74_def, show (1075 : Nat) = k + 1 by omega, ← hk, two_pow_s]
def cmpI (a b : Int) : Int := if a < b then -1 else if b < a then 1 else 0
theorem cmpI_mul {a b : Int} {p : Int} (hp : 0 < p) : cmpI (a * p) (b * p) = cmpI a b := by
 unfold cmpI
 by_cases h1 : a < b
 · rw [if_pos h1, if_pos (Int.mul_lt_mul_of_pos_right h1 hp)]
 · have h1' := Int.mul_le_mul_of_nonneg_right (show b ≤ a by omega) (show 0 ≤ p by omega)
   rw [if_neg h1, if_neg (by omega)]
   by_cases h2 : b < a
   · rw [if_pos h2, if_pos (Int.mul_lt_mul_of_pos_right h2 hp)]
   · have h2' := Int.mul_le_mul_of_nonneg_right (show a ≤ b by omega) (show 0 ≤ p by omega)
     rw [if_neg h2, if_neg (by omega)]
def sn (neg : Bool) (n : Nat) : Int := if neg then -(n : Int) else (n : Int)
def rc (neg : Bool) (n m : Nat) (neg' : Bool) (n' m' : Nat) : Int := cmpI (sn neg n * m') (sn neg' n' * m)
theorem sn_mul (neg : Bool) (n k : Nat) : sn neg n * (k : Int) = sn neg (n * k) := by
 unfold sn; cases neg <;> simp [Int.neg_mul]
theorem sv_sn (b : Nat) : sv b = sn (sg b && decide (mg b ≠ 0)) (rv (mg b)) := by
 unfold sv sn
 cases h : sg b
 · simp
 · by_cases h0 : mg b = 0
   · simp [h0, rv_zero]
   · simp [h0]
theorem fb_sv (b : Nat) : sn (sg b && decide (mg b ≠ 0)) (fbN b) * (K74 : Int) = sv b * (fbD b : Int) := by
 rw [sv_sn, sn_mul, sn_mul, fb_val]
theorem rc_bits (x y : Nat) : rc (sg x && decide (mg x ≠ 0)) (fbN x) (fbD x) (sg y && decide (mg y ≠ 0)) (fbN y) (fbD y) = cmpI (key x) (key y) := by
 unfold rc
 have hk : (0 : Int) < (K74 : Int) := by have := K74_pos; omega
 have hx : (0 : Int) < (fbD x : Int) := by have := fbD_pos x; omega
 have hy : (0 : Int) < (fbD y : Int) := by have := fbD_pos y; omega
 have e1 : sn (sg x && decide (mg x ≠ 0)) (fbN x) * (fbD y : Int) * (K74 : Int) = sv x * ((fbD x : Int) * (fbD y : Int)) := by
   rw [Int.mul_right_comm, fb_sv, Int.mul_assoc]
 have e2 : sn (sg y && decide (mg y ≠ 0)) (fbN y) * (fbD x : Int) * (K74 : Int) = sv y * ((fbD x : Int) * (fbD y : Int)) := by
   rw [Int.mul_right_comm, fb_sv, Int.mul_assoc, Int.mul_comm (fbD y : Int)]
 rw [← cmpI_mul hk, e1, e2, cmpI_mul (Int.mul_pos hx hy)]
 obtain ⟨h1, h2⟩ := rv_key x y
 obtain ⟨h3, h4⟩ := rv_key y x
 unfold cmpI
 simp only [h1, h3]
end Go.Proofs.YtbcaggdgoidlaaaGreatDoor.Rn

namespace Go.Proofs.YtbcaggdgoidlaaaGreatDoor.Rn
open Nm
def ng (b : Nat) : Nat := if sg b then b - 9223372036854775808 else b + 9223372036854775808
theorem ng_lt {b : Nat} (h : b < 18446744073709551616) : ng b < 18446744073709551616 := by
 unfold ng sg; split <;> rename_i h1
 · have := of_decide_eq_true h1; omega
 · have := of_decide_eq_false (Bool.eq_false_iff.2 h1); omega
theorem mg_ng {b : Nat} (h : b < 18446744073709551616) : mg (ng b) = mg b := by
 unfold ng mg sg; split <;> rename_i h1
 · have := of_decide_eq_true h1; omega
 · have := of_decide_eq_false (Bool.eq_false_iff.2 h1); omega
theorem sg_ng {b : Nat} (h : b < 18446744073709551616) : sg (ng b) = !sg b := by
 unfold ng
 by_cases h1 : 9223372036854775808 ≤ b
 · have e : sg b = true := decide_eq_true h1
   rw [e, if_pos rfl]; unfold sg; exact decide_eq_false (by omega)
 · have e : sg b = false := decide_eq_false h1
   rw [e, if_neg (by simp)]; unfold sg; exact decide_eq_true (by omega)
theorem sv_ng {b : Nat} (h : b < 18446744073709551616) : sv (ng b) = -sv b := by
 unfold sv; rw [sg_ng h, mg_ng h]; cases sg b <;> simp
theorem key_ng {b : Nat} (h : b < 18446744073709551616) : key (ng b) = -key b := by
 unfold key; rw [sg_ng h, mg_ng h]; cases sg b <;> simp
theorem ng_xor {b : Nat} (h : b < 18446744073709551616) : b ^^^ 9223372036854775808 = ng b := by
 have e : (9223372036854775808 : Nat) = 2 ^ 63 := by rfl
 unfold ng
 refine Nat.eq_of_testBit_eq fun i => ?_
 rw [Nat.testBit_xor, e, Nat.testBit_two_pow]
 by_cases h1 : sg b = true
 · rw [if_pos h1]
   have h2 := of_decide_eq_true h1
   have e2 : b = 2 ^ 63 + (b - 2 ^ 63) := by omega
   by_cases hi : 63 = i
   · subst hi
     have : (b - 2 ^ 63).testBit 63 = false := Nat.testBit_lt_two_pow (by omega)
     rw [this]
     have : b.testBit 63 = true := by rw [e2, Nat.testBit_two_pow_add_eq, this]; rfl
     rw [this]; simp
   · rw [show decide (63 = i) = false from decide_eq_false hi, Bool.xor_false]
     rcases Nat.lt_or_ge i 63 with h3 | h3
     · conv => lhs; rw [e2]
       exact Nat.testBit_two_pow_add_gt h3 _
     · rw [Nat.testBit_lt_two_pow (Nat.lt_of_lt_of_le h (Nat.pow_le_pow_right (n := 2) (by omega) (show 64 ≤ i by omega)))]
       rw [Nat.testBit_lt_two_pow (Nat.lt_of_lt_of_le (show b - 2 ^ 63 < 2 ^ 64 by omega) (Nat.pow_le_pow_right (by omega) (show 64 ≤ i by omega)))]
 · rw [if_neg h1]
   have h2 := of_decide_eq_false (Bool.eq_false_iff.2 h1)
   rw [Nat.add_comm b]
   by_cases hi : 63 = i
   · subst hi
     rw [Nat.testBit_two_pow_add_eq]
     simp
   · rw [show decide (63 = i) = false from decide_eq_false hi, Bool.xor_false]
     rcases Nat.lt_or_ge i 63 with h3 | h3
     · exact (Nat.testBit_two_pow_add_gt h3 _).symm
     · rw [Nat.testBit_lt_two_pow (Nat.lt_of_lt_of_le h (Nat.pow_le_pow_right (n := 2) (by omega) (show 64 ≤ i by omega)))]
       rw [Nat.testBit_lt_two_pow (Nat.lt_of_lt_of_le (show 2 ^ 63 + b < 2 ^ 64 by omega) (Nat.pow_le_pow_right (by omega) (show 64 ≤ i by omega)))]
def ngLo (lo hi : Nat) : Nat := if rdLo lo hi = infR ∧ rdHi lo hi = minf then infR else pl (ng (rdHi lo hi))
def ngHi (lo hi : Nat) : Nat := if rdLo lo hi = infR ∧ rdHi lo hi = minf then minf else pl (ng (rdLo lo hi))
theorem rd_ends {lo hi : Nat} (hl : lo < 18446744073709551616) (hh : hi < 18446744073709551616) (h : ¬ (rdLo lo hi = infR ∧ rdHi lo hi = minf)) :
   rdLo lo hi < 18446744073709551616 ∧ rdHi lo hi < 18446744073709551616 ∧ isNaN (rdLo lo hi) = false ∧ isNaN (rdHi lo hi) = false ∧ rdLo lo hi ≠ infR ∧ rdHi lo hi ≠ minf ∧ sndB lo hi = true ∧ key (rdLo lo hi) ≤ key (rdHi lo hi) := by
 cases hs : sndB lo hi
 · exact absurd (by unfold rdLo rdHi; rw [hs]; exact ⟨rfl, rfl⟩) h
 · have hn := snd_nan hs
   have e1 : rdLo lo hi = pl lo := by unfold rdLo; rw [hs]; rfl
   have e2 : rdHi lo hi = pl hi := by unfold rdHi; rw [hs]; rfl
   have hs' := hs
   unfold sndB ltB leB at hs'
   simp only [Bool.and_eq_true, decide_eq_true_eq] at hs'
   have k1 := hs'.1.2.2
   have k2 := hs'.2.2
   have k3 := hs'.1.1.2
   have i1 := infR_val
   have i2 := minf_val
   have kp : ∀ b, key (pl b) = key b := by
     intro b
     unfold pl
     split
     · rename_i hb; subst hb; rfl
     · rfl
   have np : ∀ b, isNaN b = false → isNaN (pl b) = false := by
     intro b hb
     unfold pl
     split
     · rfl
     · exact hb
   rw [e1, e2]
   refine ⟨pl_lt hl, pl_lt hh, np _ hn.1, np _ hn.2, fun hx => ?_, fun hx => ?_, rfl, by rw [kp, kp]; exact k3⟩
   · have := kp lo; rw [hx] at this; omega
   · have := kp hi; rw [hx] at this; omega
end Go.Proofs.YtbcaggdgoidlaaaGreatDoor.Rn
