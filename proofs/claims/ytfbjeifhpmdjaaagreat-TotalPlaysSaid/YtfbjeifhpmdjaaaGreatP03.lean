/-
  Rounding of a ratio, step by step as a program does it; patterns and their ratios.
  Plain arithmetic: no program is in sight. Conditions: none but those that each theorem names.
-/
import Derived.Test.YtfbjeifhpmdjaaaGreatP01
import Derived.Test.YtfbjeifhpmdjaaaGreatP02
set_option linter.unusedVariables false
set_option linter.unusedSimpArgs false
namespace Go.Proofs.YtfbjeifhpmdjaaaGreat.Rn
open Nm

theorem K75_pow : K75 = 2 ^ 1075 := K75_def

/-- N by m, cut at place u: s, and what is left over. -/
theorem zq_rung {n m a b s u q : Nat} (hm : 0 < m) (hab : u + 1 + a = q + b) (hs : s < 9007199254740992) (hu : u ≠ 0 → 4503599627370496 ≤ s)
    (h1 : s * (m * 2 ^ b) ≤ n * 2 ^ a) (h2 : n * 2 ^ a < (s + 1) * (m * 2 ^ b)) :
    rung (zq (n * 2 ^ q) m / 4) = u * 4503599627370496 + s ∧ rv (rung (zq (n * 2 ^ q) m / 4)) = s * 2 ^ u ∧ rv (rung (zq (n * 2 ^ q) m / 4) + 1) = s * 2 ^ u + 2 ^ u := by
  refine rung_Z hs hu ?_ ?_
  · have := (zq_le (N := n * 2 ^ q) (T := s * 2 ^ (u + 1)) hm).2 (by
      rw [Nat.mul_right_comm]
      exact (scale_le (a := a) (b := b) hab).2 (by rw [Nat.mul_assoc]; exact h1))
    rw [mul_pow_succ] at this
    omega
  · have := (zq_lt (N := n * 2 ^ q) (T := (s + 1) * 2 ^ (u + 1)) hm).2 (by
      rw [Nat.mul_right_comm]
      exact (scale_lt (a := a) (b := b) hab).2 (by rw [Nat.mul_assoc]; exact h2))
    rw [mul_pow_succ] at this
    omega

theorem zq_exact' {n m a b s u q : Nat} (hm : 0 < m) (hab : u + 1 + a = q + b) : zq (n * 2 ^ q) m = 4 * (s * 2 ^ u) ↔ n * 2 ^ a = s * (m * 2 ^ b) := by
  have h0 := zq_eq (N := n * 2 ^ q) (T := s * 2 ^ (u + 1)) hm
  have h3 := scale_eq (s := s * m) (m := n) (p := u + 1) (q := q) (a := a) (b := b) hab
  have e : s * 2 ^ (u + 1) * m = s * m * 2 ^ (u + 1) := Nat.mul_right_comm _ _ _
  rw [e] at h0
  rw [Nat.mul_assoc s m (2 ^ b)] at h3
  rw [show 4 * (s * 2 ^ u) = 2 * (s * 2 ^ (u + 1)) by rw [mul_pow_succ]; omega, h0]
  constructor
  · intro h; exact ((h3.1 h.symm)).symm
  · intro h; exact (h3.2 h.symm).symm

theorem zq_mid_lt {n m a b s u q : Nat} (hm : 0 < m) (hab : u + 1 + a = q + b) : 2 * (s * 2 ^ u + (s * 2 ^ u + 2 ^ u)) < zq (n * 2 ^ q) m ↔ (2 * s + 1) * (m * 2 ^ b) < 2 * (n * 2 ^ a) := by
  have h0 := zq_gt (N := n * 2 ^ q) (T := (2 * s + 1) * 2 ^ u) hm
  have h3 := scale_lt (s := n) (m := (2 * s + 1) * m) (q := u) (p := q) (a := b) (b := a + 1) (by omega)
  have e1 : 2 * (s * 2 ^ u + (s * 2 ^ u + 2 ^ u)) = 2 * ((2 * s + 1) * 2 ^ u) := by
    rw [Nat.add_mul, Nat.mul_assoc 2]; omega
  have e2 : (2 * s + 1) * 2 ^ u * m = (2 * s + 1) * m * 2 ^ u := Nat.mul_right_comm _ _ _
  rw [e1, h0, e2, h3, mul_pow_succ, Nat.mul_assoc]

theorem zq_mid_eq {n m a b s u q : Nat} (hm : 0 < m) (hab : u + 1 + a = q + b) : zq (n * 2 ^ q) m = 2 * (s * 2 ^ u + (s * 2 ^ u + 2 ^ u)) ↔ 2 * (n * 2 ^ a) = (2 * s + 1) * (m * 2 ^ b) := by
  have h0 := zq_eq (N := n * 2 ^ q) (T := (2 * s + 1) * 2 ^ u) hm
  have h3 := scale_eq (s := n) (m := (2 * s + 1) * m) (q := u) (p := q) (a := b) (b := a + 1) (by omega)
  have e1 : 2 * (s * 2 ^ u + (s * 2 ^ u + 2 ^ u)) = 2 * ((2 * s + 1) * 2 ^ u) := by
    rw [Nat.add_mul, Nat.mul_assoc 2]; omega
  have e2 : (2 * s + 1) * 2 ^ u * m = (2 * s + 1) * m * 2 ^ u := Nat.mul_right_comm _ _ _
  rw [e1, h0, e2, h3, mul_pow_succ, Nat.mul_assoc]

/-- Rounding of n by m, where it lies between s and s + 1 of place u: what is left over decides. -/
theorem rr_ratio {n m a b s u : Nat} (hm : 0 < m) (hab : u + 1 + a = 1075 + b) (hs : s < 9007199254740992) (hu : u ≠ 0 → 4503599627370496 ≤ s)
    (h1 : s * (m * 2 ^ b) ≤ n * 2 ^ a) (h2 : n * 2 ^ a < (s + 1) * (m * 2 ^ b)) (d : Int) (neg up : Bool)
    (hup : up = if n * 2 ^ a = s * (m * 2 ^ b) then false else if d = 1 then !neg else if d = -1 then neg else
      decide ((2 * s + 1) * (m * 2 ^ b) < 2 * (n * 2 ^ a)) || (decide (2 * (n * 2 ^ a) = (2 * s + 1) * (m * 2 ^ b)) && decide (s % 2 = 1))) :
    rr d neg (zr n m) = if (d = 1 ∧ neg = true) ∨ (d = -1 ∧ neg = false) then min (u * 4503599627370496 + s) (infR - 1) else min (u * 4503599627370496 + s + up.toNat) infR := by
  rw [zr_eq, K75_pow]
  obtain ⟨r1, r2, r3⟩ := zq_rung hm hab hs hu h1 h2
  have hodd : (u * 4503599627370496 + s) % 2 = s % 2 := by omega
  have x1 := zq_exact' (n := n) (s := s) hm hab
  have x2 := zq_mid_lt (n := n) (s := s) hm hab
  have x3 := zq_mid_eq (n := n) (s := s) hm hab
  generalize zq (n * 2 ^ 1075) m = Z at *
  have haw : away d neg Z = up := by
    unfold away
    rw [hup, r2, r3, r1, hodd]
    simp only [x1, x2, x3]
  unfold rr
  rw [haw, r1]
  split
  · rfl
  · cases up <;> simp

/-- 2^1024. -/
def K1024 : Nat := 2 ^ 1024
theorem K1024_def : K1024 = 2 ^ 1024 := by
  unfold K1024
  exact Eq.refl _
attribute [irreducible] K1024

theorem over_gen {n m u t q : Nat} (hm : 0 < m) (he : u + 53 = t + q) (h : m * 2 ^ t ≤ n) : u * 4503599627370496 + 4503599627370496 ≤ rung (zq (n * 2 ^ q) m / 4) := by
  rw [le_rung_iff, rv_form u 4503599627370496 (by omega) (fun _ => Nat.le_refl _)]
  have hz := (zq_le (N := n * 2 ^ q) (T := 2 * (4503599627370496 * 2 ^ u)) hm).2 (by
    have e : 2 * (4503599627370496 * 2 ^ u) = 2 ^ (t + q) := by
      have e52 : 4503599627370496 = 2 ^ 52 := rfl
      rw [e52, ← Nat.pow_add, ← Nat.pow_succ']
      congr 1
      omega
    rw [e, Nat.pow_add, Nat.mul_right_comm, Nat.mul_comm (2 ^ t) m]
    exact Nat.mul_le_mul_right _ h)
  generalize zq (n * 2 ^ q) m = Z at *
  generalize 4503599627370496 * 2 ^ u = T at *
  omega

/-- Something too great. -/
theorem rr_over {n m : Nat} (hm : 0 < m) (h : m * K1024 ≤ n) (d : Int) (neg : Bool) :
    rr d neg (zr n m) = if (d = 1 ∧ neg = true) ∨ (d = -1 ∧ neg = false) then infR - 1 else infR := by
  have hr : infR ≤ rung (zr n m / 4) := by
    rw [zr_eq, K75_pow]
    rw [K1024_def] at h
    have h1 := over_gen (u := 2046) hm (show 2046 + 53 = 1024 + 1075 by omega) h
    have e : infR = 2046 * 4503599627370496 + 4503599627370496 := by rw [infR_val]
    rw [e]
    exact h1
  clear h
  unfold rr
  generalize rung (zr n m / 4) = k at *
  split
  · omega
  · cases away d neg (zr n m) <;> simp <;> omega

/-- The exponent of a ratio: 2^f is at most it, 2^(f + 1) is more. -/
def expo (n m : Nat) : Int := if m * 2 ^ ((bl n : Int) - bl m).toNat ≤ n * 2 ^ (-((bl n : Int) - bl m)).toNat then (bl n : Int) - bl m else (bl n : Int) - bl m - 1

theorem expo_lo {n m : Nat} (hn : n ≠ 0) (hm : m ≠ 0) : m * 2 ^ (expo n m).toNat ≤ n * 2 ^ (-(expo n m)).toNat := by
  unfold expo
  split
  · assumption
  · -- the number of bits alone gives the half
    have h1 := pow_le_of_bl hn
    have h2 := lt_pow_bl m
    have hb1 := bl_pos hn
    have hb2 := bl_pos hm
    generalize bl n = a at *
    generalize bl m = b at *
    have e1 : m * 2 ^ ((a : Int) - b - 1).toNat ≤ 2 ^ b * 2 ^ ((a : Int) - b - 1).toNat := Nat.mul_le_mul_right _ (by omega)
    have e2 : 2 ^ (a - 1) * 2 ^ (-((a : Int) - b - 1)).toNat ≤ n * 2 ^ (-((a : Int) - b - 1)).toNat := Nat.mul_le_mul_right _ h1
    rw [← Nat.pow_add] at e1 e2
    have e3 : b + ((a : Int) - b - 1).toNat = a - 1 + (-((a : Int) - b - 1)).toNat := by omega
    rw [e3] at e1
    omega

theorem expo_hi {n m : Nat} (hn : n ≠ 0) (hm : m ≠ 0) : n * 2 ^ (-(expo n m)).toNat < m * 2 ^ (expo n m).toNat * 2 := by
  unfold expo
  split
  · have h1 := lt_pow_bl n
    have h2 := pow_le_of_bl hm
    have hb1 := bl_pos hn
    have hb2 := bl_pos hm
    generalize bl n = a at *
    generalize bl m = b at *
    have e1 : n * 2 ^ (-((a : Int) - b)).toNat < 2 ^ a * 2 ^ (-((a : Int) - b)).toNat := Nat.mul_lt_mul_of_pos_right h1 (two_pow_pos _)
    have e2 : 2 ^ (b - 1) * 2 ^ ((a : Int) - b).toNat ≤ m * 2 ^ ((a : Int) - b).toNat := Nat.mul_le_mul_right _ h2
    rw [← Nat.pow_add] at e1 e2
    have e3 : a + (-((a : Int) - b)).toNat = b - 1 + ((a : Int) - b).toNat + 1 := by omega
    rw [e3, Nat.pow_succ] at e1
    omega
  · rename_i h
    generalize (bl n : Int) - bl m = f at *
    rcases Int.lt_or_le f 1 with hf | hf
    · have e1 : (f - 1).toNat = 0 := by omega
      have e2 : f.toNat = 0 ∨ f.toNat = 0 := by omega
      have e3 : (-(f - 1)).toNat = (-f).toNat + 1 := by omega
      have e4 : f.toNat = 0 := by omega
      rw [e1, e3, Nat.pow_zero, Nat.mul_one, Nat.pow_succ, ← Nat.mul_assoc]
      rw [e4, Nat.pow_zero, Nat.mul_one] at h
      omega
    · have e1 : f.toNat = (f - 1).toNat + 1 := by omega
      have e2 : (-(f - 1)).toNat = 0 := by omega
      have e3 : (-f).toNat = 0 := by omega
      rw [e2, Nat.pow_zero, Nat.mul_one]
      rw [e1, e3, Nat.pow_zero, Nat.mul_one, Nat.pow_succ, ← Nat.mul_assoc] at h
      omega

/-- The exponent of the last place. -/
def lastE (n m : Nat) : Int := max (expo n m - 52) (-1074)

/-- The step that a rounding takes away from 0, out of what is left over. -/
def upB (d : Int) (neg : Bool) (w r m' : Nat) : Bool :=
  if r = 0 then false else if d = 1 then !neg else if d = -1 then neg else decide (m' < 2 * r) || (decide (2 * r = m') && decide (w % 2 = 1))

theorem rounded_lt {n m : Nat} {f e : Int} (he : f - 52 ≤ e) (hm : 0 < m) (h2 : n * 2 ^ (-f).toNat < m * 2 ^ f.toNat * 2) :
    n * 2 ^ (-e).toNat < 9007199254740992 * (m * 2 ^ e.toNat) := by
  have e53 : 9007199254740992 = 2 ^ 53 := rfl
  rw [e53, Nat.mul_comm (2 ^ 53), Nat.mul_assoc, ← Nat.pow_add]
  rw [Nat.mul_assoc, ← Nat.pow_succ] at h2
  have h3 : n * 2 ^ (-f).toNat < m * 2 ^ (f.toNat + 1 + (e + 52 - f).toNat) :=
    Nat.lt_of_lt_of_le h2 (Nat.mul_le_mul_left _ (Nat.pow_le_pow_right (by omega) (by omega)))
  exact (scale_lt (s := m) (m := n) (p := e.toNat + 53) (q := (-e).toNat) (a := (-f).toNat) (b := f.toNat + 1 + (e + 52 - f).toNat) (by omega)).2 h3

theorem rounded_ge {n m : Nat} {f : Int} (h1 : m * 2 ^ f.toNat ≤ n * 2 ^ (-f).toNat) :
    4503599627370496 * (m * 2 ^ (f - 52).toNat) ≤ n * 2 ^ (-(f - 52)).toNat := by
  have e : 4503599627370496 = 2 ^ 52 := rfl
  rw [e, Nat.mul_comm (2 ^ 52), Nat.mul_assoc, ← Nat.pow_add]
  exact (scale_le (s := m) (m := n) (p := (f - 52).toNat + 52) (q := (-(f - 52)).toNat) (a := (-f).toNat) (b := f.toNat) (by omega)).2 h1

theorem rounded_w {n m : Nat} (hn : n ≠ 0) (hm : m ≠ 0) : n * 2 ^ (-(lastE n m)).toNat / (m * 2 ^ (lastE n m).toNat) < 9007199254740992 ∧
    ((lastE n m + 1074).toNat ≠ 0 → 4503599627370496 ≤ n * 2 ^ (-(lastE n m)).toNat / (m * 2 ^ (lastE n m).toNat)) := by
  have hpos : 0 < m * 2 ^ (lastE n m).toNat := Nat.mul_pos (by omega) (two_pow_pos _)
  constructor
  · exact (Nat.div_lt_iff_lt_mul hpos).2 (rounded_lt (f := expo n m) (by unfold lastE; omega) (by omega) (expo_hi hn hm))
  · intro hne
    have he : lastE n m = expo n m - 52 := by unfold lastE at *; omega
    rw [he] at hpos ⊢
    exact (Nat.le_div_iff_mul_le hpos).2 (rounded_ge (expo_lo hn hm))

theorem rr_min {u s b : Nat} (hb : b ≤ 1) (hu : u ≤ 2045) (hs : s < 9007199254740992) : min (u * 4503599627370496 + s + b) infR = u * 4503599627370496 + (s + b) := by
  have hinf : infR = 9218868437227405312 := infR_val
  rw [hinf]; omega
theorem rr_min' {u s : Nat} (hu : u ≤ 2045) (hs : s < 9007199254740992) : min (u * 4503599627370496 + s) (infR - 1) = u * 4503599627370496 + (s + 0) := by
  have hinf : infR = 9218868437227405312 := infR_val
  rw [hinf]; omega

/-- The rung of a ratio that is not too great. -/
theorem rr_fin {n m : Nat} (hn : n ≠ 0) (hm : m ≠ 0) (hf : expo n m ≤ 1023) (d : Int) (neg : Bool) {w r m' : Nat} (hm' : m' = m * 2 ^ (lastE n m).toNat)
    (hw : w = n * 2 ^ (-(lastE n m)).toNat / m') (hr : r = n * 2 ^ (-(lastE n m)).toNat % m') :
    rr d neg (zr n m) = (lastE n m + 1074).toNat * 4503599627370496 + (w + (upB d neg w r m').toNat) := by
  obtain ⟨hw1, hw2⟩ := rounded_w hn hm
  rw [← hm', ← hw] at hw1 hw2
  have hdm := Nat.div_add_mod (n * 2 ^ (-(lastE n m)).toNat) m'
  have hpm : 0 < m' := by rw [hm']; exact Nat.mul_pos (by omega) (two_pow_pos _)
  have hrm : r < m' := by rw [hr]; exact Nat.mod_lt _ hpm
  rw [← hw, ← hr, Nat.mul_comm] at hdm
  have hle : lastE n m ≤ 971 := by unfold lastE; omega
  have hge : -1074 ≤ lastE n m := by unfold lastE; omega
  have key := rr_ratio (n := n) (m := m) (a := (-(lastE n m)).toNat) (b := (lastE n m).toNat) (s := w) (u := (lastE n m + 1074).toNat) (by omega) (by omega) hw1 hw2
    (by rw [← hm']; omega) (by rw [← hm', Nat.add_mul, Nat.one_mul]; omega) d neg (upB d neg w r m') (by
      rw [← hm', ← hdm]
      unfold upB
      have c1 : w * m' + r = w * m' ↔ r = 0 := by omega
      have c2 : (2 * w + 1) * m' < 2 * (w * m' + r) ↔ m' < 2 * r := by
        rw [Nat.add_mul, Nat.one_mul, Nat.mul_assoc]; omega
      have c3 : 2 * (w * m' + r) = (2 * w + 1) * m' ↔ 2 * r = m' := by
        rw [Nat.add_mul, Nat.one_mul, Nat.mul_assoc]; omega
      simp only [c1, c2, c3])
  have hu : (lastE n m + 1074).toNat ≤ 2045 := by omega
  rw [key]
  clear key hdm hw hr hm' hrm hpm
  split
  · rename_i hd
    have hup : upB d neg w r m' = false := by
      unfold upB
      rcases hd with ⟨h1, h2⟩ | ⟨h1, h2⟩
      · subst h1; subst h2; simp
      · subst h1; subst h2; simp
    rw [hup]
    exact rr_min' hu hw1
  · exact rr_min (by cases upB d neg w r m' <;> simp) hu hw1

/-- Significand and exponent of a pattern. -/
def fbSig (b : Nat) : Nat := if b / 4503599627370496 % 2048 = 0 then b % 4503599627370496 else b % 4503599627370496 + 4503599627370496
def fbExp (b : Nat) : Int := (if b / 4503599627370496 % 2048 = 0 then 0 else (b / 4503599627370496 % 2048 : Nat) - 1 : Int) - 1074
def fbN (b : Nat) : Nat := fracN (fbSig b) 1 (fbExp b)
def fbD (b : Nat) : Nat := fracD (fbSig b) 1 (fbExp b)

/-- 2^1074. -/
def K74 : Nat := 2 ^ 1074
theorem K74_def : K74 = 2 ^ 1074 := by
  unfold K74
  exact Eq.refl _
theorem K74_pos : 0 < K74 := by
  rw [K74_def]
  exact two_pow_pos 1074
attribute [irreducible] K74

theorem fb_rv (b : Nat) : rv (mg b) = fbSig b * 2 ^ (fbExp b + 1074).toNat := by
  unfold fbSig fbExp
  have hm : mg b = b / 4503599627370496 % 2048 * 4503599627370496 + b % 4503599627370496 := by unfold mg; omega
  rw [hm]
  by_cases h : b / 4503599627370496 % 2048 = 0
  · simp only [h, if_true]
    rw [rv_small (by omega)]
    simp
  · simp only [h, if_false]
    have e : b / 4503599627370496 % 2048 * 4503599627370496 + b % 4503599627370496 = (b / 4503599627370496 % 2048 - 1) * 4503599627370496 + (b % 4503599627370496 + 4503599627370496) := by omega
    rw [e, rv_form _ _ (by omega) (fun _ => by omega)]
    congr 2
    omega

theorem fbSig_lt (b : Nat) : fbSig b < 9007199254740992 := by unfold fbSig; split <;> omega
theorem fbSig_zero (b : Nat) : fbSig b = 0 ↔ mg b = 0 := by
  unfold fbSig mg
  split <;> omega
theorem fbExp_lo (b : Nat) : -1074 ≤ fbExp b := by unfold fbExp; split <;> omega
theorem fbExp_hi (b : Nat) : fbExp b ≤ 972 := by unfold fbExp; split <;> omega
theorem fbN_zero (b : Nat) : fbN b = 0 ↔ mg b = 0 := by
  unfold fbN
  rw [fracN_eq_zero, fbSig_zero]
theorem fbD_pos (b : Nat) : 0 < fbD b := fracD_pos _ (by omega)

theorem fb_gen (s : Nat) (e : Int) (p q : Nat) (h : (p : Int) - q = e) : fracN s 1 e * 2 ^ q = s * 2 ^ p * fracD s 1 e := by
  have := frac_val (n := s) (d := 1) h
  rwa [Nat.one_mul] at this

/-- What a pattern stands for. -/
theorem fb_val (b : Nat) : fbN b * K74 = rv (mg b) * fbD b := by
  have h := fb_gen (fbSig b) (fbExp b) (fbExp b + 1074).toNat 1074 (by have := fbExp_lo b; omega)
  rw [K74_def, fb_rv]
  unfold fbN fbD
  exact h

theorem nw_of_bits {x k m : Nat} (h : x < 2 ^ k) (hk : k ≤ 32 * m) : nw x ≤ m := by
  refine (nw_le_iff _ _).2 ?_
  rw [pow32]
  exact Nat.lt_of_lt_of_le h (Nat.pow_le_pow_right (by omega) hk)

theorem fbN_bits (b : Nat) : nw (fbN b) ≤ 40 := by
  have h1 := fracN_le (fbSig b) 1 (fbExp b)
  have h2 := fbSig_lt b
  have h3 := fbExp_hi b
  have h4 : tz (fbSig b) ≤ 53 := by
    by_cases h0 : fbSig b = 0
    · rw [h0, tz_zero]; omega
    · have a := tz_lt h0
      have c := (bl_le_iff (fbSig b) 53).2 h2
      omega
  unfold fbN
  generalize fracN (fbSig b) 1 (fbExp b) = x at *
  have h5 : fbSig b * 2 ^ ((fbExp b).toNat + tz (fbSig b)) < 2 ^ 53 * 2 ^ ((fbExp b).toNat + tz (fbSig b)) := Nat.mul_lt_mul_of_pos_right h2 (two_pow_pos _)
  rw [← Nat.pow_add] at h5
  exact nw_of_bits (Nat.lt_of_le_of_lt h1 h5) (by omega)

theorem tz_one : tz 1 = 0 := rfl

theorem fbD_bits (b : Nat) : nw (fbD b) ≤ 40 := by
  have h3 := fbExp_lo b
  unfold fbD fracD
  split
  · exact nw_of_bits (k := 1) (by omega) (by omega)
  · rw [tz_one, Nat.pow_zero, Nat.div_one, Nat.one_mul]
    generalize hq : (-(fbExp b + (tz (fbSig b) : Nat) - (0 : Nat))).toNat = q
    exact nw_of_bits (k := q + 1) (Nat.pow_lt_pow_right (by omega) (by omega)) (by omega)

/-- Is the exponent one less than the numbers of bits say? -/
def cB (n m : Nat) : Bool := !decide (m * 2 ^ ((bl n : Int) - bl m).toNat ≤ n * 2 ^ (-((bl n : Int) - bl m)).toNat)
theorem expo_cB (n m : Nat) : expo n m = if cB n m then (bl n : Int) - bl m - 1 else (bl n : Int) - bl m := by
  unfold expo cB
  by_cases h : m * 2 ^ ((bl n : Int) - bl m).toNat ≤ n * 2 ^ (-((bl n : Int) - bl m)).toNat
  · rw [if_pos h, decide_eq_true h]; rfl
  · rw [if_neg h, decide_eq_false h]; rfl
theorem not_dec {p q : Prop} [Decidable p] [Decidable q] (h : ¬ p ↔ q) : (!decide p) = decide q := by
  by_cases hp : p
  · rw [decide_eq_true hp, decide_eq_false (fun hq => h.2 hq hp)]; rfl
  · rw [decide_eq_false hp, decide_eq_true (h.1 hp)]; rfl
theorem cB_pos {n m F : Nat} (h : (bl n : Int) - bl m = F) : cB n m = decide (n < m * 2 ^ F) := by
  unfold cB
  rw [h, show (-(F : Int)).toNat = 0 by omega, Int.toNat_natCast, Nat.pow_zero, Nat.mul_one]
  exact not_dec Nat.not_le
theorem cB_neg {n m F : Nat} (h : -((bl n : Int) - bl m) = F) : cB n m = decide (n * 2 ^ F < m) := by
  unfold cB
  rw [h, show ((bl n : Int) - bl m).toNat = 0 by omega, Int.toNat_natCast, Nat.pow_zero, Nat.mul_one]
  exact not_dec Nat.not_le

theorem over_le {n m : Nat} (hn : n ≠ 0) (hm : m ≠ 0) (h : 1023 < expo n m) : m * K1024 ≤ n := by
  have h1 := expo_lo hn hm
  rw [show (-(expo n m)).toNat = 0 by omega, Nat.pow_zero, Nat.mul_one] at h1
  obtain ⟨x, hx⟩ : ∃ x, (expo n m).toNat = 1024 + x := ⟨(expo n m).toNat - 1024, by omega⟩
  rw [hx, Nat.pow_add, ← K1024_def] at h1
  exact Nat.le_trans (Nat.mul_le_mul_left _ (Nat.le_mul_of_pos_right _ (two_pow_pos x))) h1

/-- The rounding's direction is toward 0. -/
def twB (d : Int) (neg : Bool) : Bool := decide ((d = 1 ∧ neg = true) ∨ (d = -1 ∧ neg = false))

theorem rnd_over {n m : Nat} (hn : n ≠ 0) (hm : m ≠ 0) (h : 1023 < expo n m) (d : Int) (neg : Bool) : rnd d neg (zr n m) = pat neg (if twB d neg then infR - 1 else infR) := by
  unfold rnd twB
  rw [rr_over (by omega) (over_le hn hm h)]
  simp

theorem rung_sig {s u : Nat} (hs : s ≤ 9007199254740992) (hu : u ≠ 0 → 4503599627370496 ≤ s) : rung (s * 2 ^ u) = u * 4503599627370496 + s := by
  rw [← rv_form u s hs hu, rung_rv]

theorem nw_shift {a n : Nat} (s : Nat) (h : nw a ≤ n) : nw (a * 2 ^ s) ≤ n + (s / 32 + 1) := by
  have h1 := (nw_le_iff a n).1 h
  rw [pow32] at h1
  refine nw_of_bits (k := 32 * n + s) ?_ (by omega)
  rw [Nat.pow_add]
  exact Nat.mul_lt_mul_of_pos_right h1 (two_pow_pos s)

/-- The pattern of a ratio that is not too great. -/
theorem rnd_fin {n m : Nat} (hn : n ≠ 0) (hm : m ≠ 0) (hf : expo n m ≤ 1023) (d : Int) (neg : Bool) {w r m' s : Nat} (hm' : m' = m * 2 ^ (lastE n m).toNat)
    (hw : w = n * 2 ^ (-(lastE n m)).toNat / m') (hr : r = n * 2 ^ (-(lastE n m)).toNat % m') (hs : s = w + (upB d neg w r m').toNat) :
    w < 9007199254740992 ∧ s ≤ 9007199254740992 ∧ rnd d neg (zr n m) = pat neg ((lastE n m + 1074).toNat * 4503599627370496 + s) ∧ rung (s * 2 ^ (lastE n m + 1074).toNat) = (lastE n m + 1074).toNat * 4503599627370496 + s := by
  obtain ⟨h1, h2⟩ := rounded_w hn hm
  rw [← hm', ← hw] at h1 h2
  have hb : (upB d neg w r m').toNat ≤ 1 := by cases upB d neg w r m' <;> simp
  refine ⟨h1, by omega, ?_, rung_sig (by omega) (fun h => by have := h2 h; omega)⟩
  unfold rnd
  rw [rr_fin hn hm hf d neg hm' hw hr, hs]

end Go.Proofs.YtfbjeifhpmdjaaaGreat.Rn

/-
  Plain: patterns of binary64 in their order; the ends of intervals. Conditions: those that each theorem names.
-/
set_option linter.unusedVariables false

namespace Go.Proofs.YtfbjeifhpmdjaaaGreat.Rn

def minf : Nat := 18442240474082181120
theorem minf_val : minf = 18442240474082181120 := rfl

def ltB (x y : Nat) : Bool := !isNaN x && !isNaN y && decide (key x < key y)
def eqB (x y : Nat) : Bool := !isNaN x && !isNaN y && decide (key x = key y)
def leB (x y : Nat) : Bool := !isNaN x && !isNaN y && decide (key x ≤ key y)

theorem order_lt {x y : Nat} (hx : x < 18446744073709551616) (hy : y < 18446744073709551616) : (Ieee.double.order x y == some .lt) = ltB x y := by
  rw [order_eq hx hy]
  unfold ord ltB isNaN
  by_cases h1 : infR < mg x
  · simp [h1]
  · by_cases h2 : infR < mg y
    · simp [h2]
    · rw [if_neg (by omega)]
      by_cases h3 : key x < key y
      · simp [h1, h2, h3]
      · by_cases h4 : key x = key y
        · simp [h1, h2, h4]
        · simp [h1, h2, h3, h4]
theorem order_eqv {x y : Nat} (hx : x < 18446744073709551616) (hy : y < 18446744073709551616) : (Ieee.double.order x y == some .eq) = eqB x y := by
  rw [order_eq hx hy]
  unfold ord eqB isNaN
  by_cases h1 : infR < mg x
  · simp [h1]
  · by_cases h2 : infR < mg y
    · simp [h2]
    · rw [if_neg (by omega)]
      by_cases h3 : key x < key y
      · have h4 : ¬ key x = key y := by omega
        simp [h1, h2, h3, h4]
      · by_cases h4 : key x = key y
        · simp [h1, h2, h4]
        · simp [h1, h2, h3, h4]
theorem order_gt {x y : Nat} (hx : x < 18446744073709551616) (hy : y < 18446744073709551616) : (Ieee.double.order x y == some .gt) = ltB y x := by
  rw [order_eq hx hy]
  unfold ord ltB isNaN
  by_cases h1 : infR < mg x
  · simp [h1]
  · by_cases h2 : infR < mg y
    · simp [h2]
    · rw [if_neg (by omega)]
      by_cases h3 : key x < key y
      · have h4 : ¬ key y < key x := by omega
        simp [h1, h2, h3, h4]
      · by_cases h4 : key x = key y
        · simp [h1, h2, h4]
        · have h5 : key y < key x := by omega
          simp [h1, h2, h3, h4, h5]
theorem order_le {x y : Nat} (hx : x < 18446744073709551616) (hy : y < 18446744073709551616) : (Ieee.double.order x y == some .lt || Ieee.double.order x y == some .eq) = leB x y := by
  rw [order_lt hx hy, order_eqv hx hy]
  unfold ltB eqB leB
  cases isNaN x <;> cases isNaN y <;> simp
  by_cases h : key x ≤ key y
  · rcases Int.lt_or_eq_of_le h with h1 | h1
    · simp [h1]; omega
    · simp [h1]
  · have h1 : ¬ key x < key y := by omega
    have h2 : ¬ key x = key y := by omega
    simp [h, h1, h2]
theorem order_ge {x y : Nat} (hx : x < 18446744073709551616) (hy : y < 18446744073709551616) : (Ieee.double.order x y == some .gt || Ieee.double.order x y == some .eq) = leB y x := by
  rw [order_gt hx hy, order_eqv hx hy]
  unfold ltB eqB leB
  cases isNaN x <;> cases isNaN y <;> simp
  by_cases h : key y ≤ key x
  · rcases Int.lt_or_eq_of_le h with h1 | h1
    · simp [h1]; omega
    · simp [h1]
  · have h1 : ¬ key y < key x := by omega
    have h2 : ¬ key x = key y := by omega
    simp [h, h1, h2]

/-- -0 as 0; what is no number stays. -/
def pl (b : Nat) : Nat := if b = 9223372036854775808 then 0 else b
/-- -0 as 0; what is no number as the one. -/
def plN (b : Nat) : Nat := if b = 9223372036854775808 then 0 else if isNaN b then 9221120237041090561 else b
theorem pl_lt {b : Nat} (h : b < 18446744073709551616) : pl b < 18446744073709551616 := by unfold pl; split <;> omega
theorem plN_lt {b : Nat} (h : b < 18446744073709551616) : plN b < 18446744073709551616 := by unfold plN; split <;> first | omega | (split <;> omega)
theorem plN_of {b : Nat} (h : isNaN b = false) : plN b = pl b := by unfold plN pl; rw [h]; simp
theorem eq0 {b : Nat} (h : b < 18446744073709551616) : eqB b 0 = decide (b = 0 ∨ b = 9223372036854775808) := by
  have h1 : key 0 = 0 := rfl
  have h2 : isNaN 0 = false := rfl
  unfold eqB
  rw [h1, h2]
  unfold isNaN key sg mg
  rw [infR_val]
  by_cases h3 : b = 0 ∨ b = 9223372036854775808
  · rw [decide_eq_true h3]
    rcases h3 with rfl | rfl <;> rfl
  · rw [decide_eq_false h3]
    by_cases h4 : 9223372036854775808 ≤ b
    · simp [h4]; omega
    · simp [h4]; omega

/-- The document's key. -/
def rkey (b : Nat) : Nat := if 9223372036854775808 ≤ plN b then 18446744073709551615 - plN b else plN b + 9223372036854775808
theorem rkey_key {b : Nat} (h : b < 18446744073709551616) (hn : isNaN b = false) : (rkey b : Int) = 9223372036854775808 + key b - (if key b < 0 then 1 else 0) := by
  unfold rkey
  rw [plN_of hn]
  unfold pl key sg mg
  by_cases h1 : b = 9223372036854775808
  · subst h1; rfl
  · rw [if_neg h1]
    by_cases h2 : 9223372036854775808 ≤ b
    · rw [if_pos h2]; simp [h2]; split <;> omega
    · rw [if_neg h2]; simp [h2]; split <;> omega
def aboveB (x y : Nat) : Bool := !isNaN x && !isNaN y && decide (rkey y < rkey x)
theorem above_lt {x y : Nat} (hx : x < 18446744073709551616) (hy : y < 18446744073709551616) : aboveB x y = ltB y x := by
  unfold aboveB ltB
  cases h1 : isNaN x
  · cases h2 : isNaN y
    · have e1 := rkey_key hx h1
      have e2 := rkey_key hy h2
      simp only [Bool.not_false, Bool.and_true, Bool.true_and]
      refine decide_eq_decide.2 ?_
      split at e1 <;> split at e2 <;> omega
    · simp
  · simp
/-- Two ends make an interval that is not empty: the program's test. -/
def sndB (lo hi : Nat) : Bool := leB lo hi && ltB lo infR && ltB minf hi
/-- .. the document's. -/
def sndR (lo hi : Nat) : Bool := !(isNaN lo || isNaN hi || aboveB lo hi) && (decide (lo ≠ infR) && decide (hi ≠ minf))
theorem key_inf : key infR = 9218868437227405312 := rfl
theorem key_minf : key minf = -9218868437227405312 := rfl
theorem nan_inf : isNaN infR = false := rfl
theorem nan_minf : isNaN minf = false := rfl
theorem key_le {b : Nat} (hn : isNaN b = false) : key b ≤ 9218868437227405312 ∧ -9218868437227405312 ≤ key b := by
  unfold isNaN at hn
  have := of_decide_eq_false hn
  rw [infR_val] at this
  unfold key
  split <;> omega
theorem key_eq_inf {b : Nat} (h : b < 18446744073709551616) (hn : isNaN b = false) : key b = 9218868437227405312 ↔ b = infR := by
  rw [infR_val]
  unfold key sg mg
  by_cases h2 : 9223372036854775808 ≤ b
  · simp [h2]; omega
  · simp [h2]; omega
theorem key_eq_minf {b : Nat} (h : b < 18446744073709551616) (hn : isNaN b = false) : key b = -9218868437227405312 ↔ b = minf := by
  rw [minf_val]
  unfold key sg mg
  by_cases h2 : 9223372036854775808 ≤ b
  · simp [h2]; omega
  · simp [h2]; omega
theorem snd_eq {lo hi : Nat} (hl : lo < 18446744073709551616) (hh : hi < 18446744073709551616) : sndB lo hi = sndR lo hi := by
  unfold sndB sndR
  rw [above_lt hl hh]
  unfold leB ltB
  rw [key_inf, key_minf, nan_inf, nan_minf]
  cases h1 : isNaN lo
  · cases h2 : isNaN hi
    · have a1 := key_le h1
      have a2 := key_le h2
      have e1 := key_eq_inf hl h1
      have e2 := key_eq_minf hh h2
      rw [Bool.eq_iff_iff]
      simp
      omega
    · simp
  · simp
/-- How two ends are read. -/
def rdLo (lo hi : Nat) : Nat := if sndB lo hi then pl lo else infR
def rdHi (lo hi : Nat) : Nat := if sndB lo hi then pl hi else minf
theorem snd_nan {lo hi : Nat} (h : sndB lo hi = true) : isNaN lo = false ∧ isNaN hi = false := by
  unfold sndB leB at h
  revert h
  cases isNaN lo <;> cases isNaN hi <;> simp
end Go.Proofs.YtfbjeifhpmdjaaaGreat.Rn

/-
  Plain: the number of a pattern, rounded, is the pattern; numbers of patterns stand to each other as the patterns do. Conditions: those that each theorem names.
-/
set_option linter.unusedVariables false

namespace Go.Proofs.YtfbjeifhpmdjaaaGreat.Rn
open Nm

theorem two_pow_s (k : Nat) : 2 ^ (k + 1) = 2 * 2 ^ k := by rw [Nat.pow_succ, Nat.mul_comm]
theorem K75_74 : K75 = 2 * K74 := by
  obtain ⟨k, hk⟩ : ∃ k : Nat, k = 1074 := ⟨_, rfl⟩
  rw [K75_def, K74_def, show (1075 : Nat) = k + 1 by omega, ← hk, two_pow_s]

theorem zr_fb (b : Nat) : zr (fbN b) (fbD b) = 4 * rv (mg b) := by
  have h := fb_val b
  rw [zr_eq, show (4 * rv (mg b)) = 2 * (2 * rv (mg b)) by omega]
  refine (zq_eq (fbD_pos b)).2 ?_
  rw [K75_74, show fbN b * (2 * K74) = 2 * (fbN b * K74) by rw [Nat.mul_left_comm], h, Nat.mul_assoc]

theorem rr_rung (d : Int) (neg : Bool) {k : Nat} (hk : k < infR) : rr d neg (4 * rv k) = k := by
  unfold rr away
  rw [show 4 * rv k / 4 = rv k by omega, rung_rv, if_pos rfl]
  split
  · exact Nat.min_eq_left (by omega)
  · simp only [Bool.false_eq_true, if_false]
    exact Nat.min_eq_left (by omega)

theorem rnd_rung (d : Int) (neg : Bool) {k : Nat} (hk : k < infR) : rnd d neg (4 * rv k) = pat neg k := by unfold rnd; rw [rr_rung d neg hk]

theorem pl_pat {b : Nat} (hb : b < 18446744073709551616) : pat (sg b && decide (mg b ≠ 0)) (mg b) = pl b := by
  unfold pat pl sg mg
  by_cases h1 : b = 9223372036854775808
  · subst h1; rfl
  · rw [if_neg h1]
    by_cases h2 : b % 9223372036854775808 = 0
    · rw [if_pos h2]; omega
    · rw [if_neg h2]
      by_cases h3 : 9223372036854775808 ≤ b
      · simp [h2, h3]; omega
      · simp [h3]; omega

theorem rnd_bits (d : Int) {b : Nat} (hb : b < 18446744073709551616) (hf : mg b < infR) : rnd d (sg b && decide (mg b ≠ 0)) (zr (fbN b) (fbD b)) = pl b := by
  rw [zr_fb, rnd_rung d _ hf, pl_pat hb]

/-- The sign of a - b. -/
def cmpI (a b : Int) : Int := if a < b then -1 else if b < a then 1 else 0
theorem cmpI_mul {a b : Int} {p : Int} (hp : 0 < p) : cmpI (a * p) (b * p) = cmpI a b := by
  unfold cmpI
  by_cases h1 : a < b
  · rw [if_pos h1, if_pos (Int.mul_lt_mul_of_pos_right h1 hp)]
  · have h1' := Int.mul_le_mul_of_nonneg_right (show b ≤ a by omega) (show 0 ≤ p by omega)
    rw [if_neg h1, if_neg (by omega)]
    by_cases h2 : b < a
    · rw [if_pos h2, if_pos (Int.mul_lt_mul_of_pos_right h2 hp)]
    · have h2' := Int.mul_le_mul_of_nonneg_right (show a ≤ b by omega) (show 0 ≤ p by omega)
      rw [if_neg h2, if_neg (by omega)]
/-- A ratio's numerator with its sign. -/
def sn (neg : Bool) (n : Nat) : Int := if neg then -(n : Int) else (n : Int)
/-- How two ratios stand to each other. -/
def rc (neg : Bool) (n m : Nat) (neg' : Bool) (n' m' : Nat) : Int := cmpI (sn neg n * m') (sn neg' n' * m)

theorem sn_mul (neg : Bool) (n k : Nat) : sn neg n * (k : Int) = sn neg (n * k) := by
  unfold sn; cases neg <;> simp [Int.neg_mul]

theorem sv_sn (b : Nat) : sv b = sn (sg b && decide (mg b ≠ 0)) (rv (mg b)) := by
  unfold sv sn
  cases h : sg b
  · simp
  · by_cases h0 : mg b = 0
    · simp [h0, rv_zero]
    · simp [h0]

theorem fb_sv (b : Nat) : sn (sg b && decide (mg b ≠ 0)) (fbN b) * (K74 : Int) = sv b * (fbD b : Int) := by
  rw [sv_sn, sn_mul, sn_mul, fb_val]

theorem rc_bits (x y : Nat) : rc (sg x && decide (mg x ≠ 0)) (fbN x) (fbD x) (sg y && decide (mg y ≠ 0)) (fbN y) (fbD y) = cmpI (key x) (key y) := by
  unfold rc
  have hk : (0 : Int) < (K74 : Int) := by have := K74_pos; omega
  have hx : (0 : Int) < (fbD x : Int) := by have := fbD_pos x; omega
  have hy : (0 : Int) < (fbD y : Int) := by have := fbD_pos y; omega
  have e1 : sn (sg x && decide (mg x ≠ 0)) (fbN x) * (fbD y : Int) * (K74 : Int) = sv x * ((fbD x : Int) * (fbD y : Int)) := by
    rw [Int.mul_right_comm, fb_sv, Int.mul_assoc]
  have e2 : sn (sg y && decide (mg y ≠ 0)) (fbN y) * (fbD x : Int) * (K74 : Int) = sv y * ((fbD x : Int) * (fbD y : Int)) := by
    rw [Int.mul_right_comm, fb_sv, Int.mul_assoc, Int.mul_comm (fbD y : Int)]
  rw [← cmpI_mul hk, e1, e2, cmpI_mul (Int.mul_pos hx hy)]
  obtain ⟨h1, h2⟩ := rv_key x y
  obtain ⟨h3, h4⟩ := rv_key y x
  unfold cmpI
  simp only [h1, h3]
end Go.Proofs.YtfbjeifhpmdjaaaGreat.Rn
