/-
  The model's floats against the plain rounding: what a pattern reads as, what nearest, sum and product write.
  Plain arithmetic over the model's own words for floats: no program is in sight. Conditions: none but those that each theorem names.
-/
import Ieee.Arith
import Derived.Test.YtcimfccjcikemaaRnd
set_option linter.unusedVariables false
set_option linter.unusedSimpArgs false
namespace Go.Proofs.Ytcimfccjcikemaa.Rn

theorem mul_pow_succ (s u : Nat) : s * 2 ^ (u + 1) = 2 * (s * 2 ^ u) := by
  rw [Nat.pow_succ, ← Nat.mul_assoc, Nat.mul_comm]

theorem div_bounds (n : Nat) {g : Nat} (hg : 0 < g) : n / g * g ≤ n ∧ n < (n / g + 1) * g := by
  have h := Nat.div_add_mod n g
  have hl := Nat.mod_lt n hg
  rw [Nat.mul_comm] at h
  rw [Nat.add_mul, Nat.one_mul]
  omega

theorem scale_le {s m p q a b : Nat} (h : p + a = q + b) : s * 2 ^ p ≤ m * 2 ^ q ↔ s * 2 ^ b ≤ m * 2 ^ a := by
  rcases Nat.le_total b p with hb | hb
  · obtain ⟨c, rfl⟩ := Nat.exists_eq_add_of_le hb
    have e : q = a + c := by omega
    subst e
    rw [Nat.pow_add, Nat.pow_add, ← Nat.mul_assoc, ← Nat.mul_assoc]
    exact Nat.mul_le_mul_right_iff (two_pow_pos c)
  · obtain ⟨c, rfl⟩ := Nat.exists_eq_add_of_le hb
    have e : a = q + c := by omega
    subst e
    rw [Nat.pow_add, Nat.pow_add, ← Nat.mul_assoc, ← Nat.mul_assoc]
    exact (Nat.mul_le_mul_right_iff (two_pow_pos c)).symm

theorem scale_eq {s m p q a b : Nat} (h : p + a = q + b) : s * 2 ^ p = m * 2 ^ q ↔ s * 2 ^ b = m * 2 ^ a := by
  have h1 := scale_le (s := s) (m := m) h
  have h2 := scale_le (s := m) (m := s) (p := q) (q := p) (a := b) (b := a) (by omega)
  omega

theorem scale_lt {s m p q a b : Nat} (h : p + a = q + b) : m * 2 ^ q < s * 2 ^ p ↔ m * 2 ^ a < s * 2 ^ b := by
  have h1 := scale_le (s := s) (m := m) h
  omega

/-- Z of mag times 2^place. -/
def zd (mag : Nat) (place : Int) : Nat := zq (mag * 2 ^ (place + 1075).toNat) (2 ^ (-(place + 1075)).toNat)

/-- What Z is, by any powers that fit. -/
theorem zd_of {mag : Nat} {place : Int} {A B : Nat} (h : (A : Int) - B = place + 1075) : zd mag place = zq (mag * 2 ^ A) (2 ^ B) := by
  unfold zd
  refine zq_congr (two_pow_pos _) (two_pow_pos _) ?_
  rw [Nat.mul_assoc, Nat.mul_assoc, ← Nat.pow_add, ← Nat.pow_add]
  congr 2
  omega

theorem zq_one (N : Nat) : zq N 1 = 2 * N := by simp [zq, Nat.mod_one]

theorem zd_units {mag : Nat} {place : Int} {S : Nat} (h : -1074 ≤ place) (hS : S = mag * 2 ^ (place + 1074).toNat) : zd mag place = 4 * S := by
  rw [zd_of (A := (place + 1074).toNat + 1) (B := 0) (by omega), Nat.pow_zero, zq_one, hS, mul_pow_succ]
  omega

theorem zd_zero (place : Int) : zd 0 place = 0 := by simp [zd, zq]

/-- mag times 2^place, cut at place L: s, of place u = L + 1074. -/
theorem zd_rung {mag : Nat} {place L : Int} {a b s u : Nat} (hu0 : (u : Int) = L + 1074) (hab : (a : Int) - b = place - L)
    (hs : s < 9007199254740992) (hu : u ≠ 0 → 4503599627370496 ≤ s) (h1 : s * 2 ^ b ≤ mag * 2 ^ a) (h2 : mag * 2 ^ a < (s + 1) * 2 ^ b) :
    rung (zd mag place / 4) = u * 4503599627370496 + s ∧ rv (rung (zd mag place / 4)) = s * 2 ^ u ∧ rv (rung (zd mag place / 4) + 1) = s * 2 ^ u + 2 ^ u := by
  unfold zd
  have hp := two_pow_pos (-(place + 1075)).toNat
  refine rung_Z hs hu ?_ ?_
  · have := (zq_le (N := mag * 2 ^ (place + 1075).toNat) (T := s * 2 ^ (u + 1)) hp).2 (by
      rw [Nat.mul_assoc, ← Nat.pow_add]
      exact (scale_le (a := a) (b := b) (by omega)).2 h1)
    rw [mul_pow_succ] at this
    omega
  · have := (zq_lt (N := mag * 2 ^ (place + 1075).toNat) (T := (s + 1) * 2 ^ (u + 1)) hp).2 (by
      rw [Nat.mul_assoc, ← Nat.pow_add]
      exact (scale_lt (a := a) (b := b) (by omega)).2 h2)
    rw [mul_pow_succ] at this
    omega

/-- Where it lies against s, and against the middle of s and s + 1. -/
theorem zd_exact {mag : Nat} {place L : Int} {a b s u : Nat} (hu0 : (u : Int) = L + 1074) (hab : (a : Int) - b = place - L) :
    zd mag place = 4 * (s * 2 ^ u) ↔ mag * 2 ^ a = s * 2 ^ b := by
  unfold zd
  have hp := two_pow_pos (-(place + 1075)).toNat
  have h0 := zq_eq (N := mag * 2 ^ (place + 1075).toNat) (T := s * 2 ^ (u + 1)) hp
  have h : zq (mag * 2 ^ (place + 1075).toNat) (2 ^ (-(place + 1075)).toNat) = 2 * (2 * (s * 2 ^ u)) ↔ mag * 2 ^ (place + 1075).toNat = s * 2 ^ (u + 1 + (-(place + 1075)).toNat) := by
    rw [← mul_pow_succ, h0, Nat.mul_assoc, ← Nat.pow_add]
  have h3 := scale_eq (s := s) (m := mag) (p := u + 1 + (-(place + 1075)).toNat) (q := (place + 1075).toNat) (a := a) (b := b) (by omega)
  constructor
  · intro e
    exact (h3.1 (h.1 (by omega)).symm).symm
  · intro e
    have := h.2 (h3.2 e.symm).symm
    omega

theorem zd_mid_lt {mag : Nat} {place L : Int} {a b s u : Nat} (hu0 : (u : Int) = L + 1074) (hab : (a : Int) - b = place - L) :
    2 * (s * 2 ^ u + (s * 2 ^ u + 2 ^ u)) < zd mag place ↔ (2 * s + 1) * 2 ^ b < 2 * (mag * 2 ^ a) := by
  unfold zd
  have hp := two_pow_pos (-(place + 1075)).toNat
  have h := zq_gt (N := mag * 2 ^ (place + 1075).toNat) (T := (2 * s + 1) * 2 ^ u) hp
  rw [Nat.mul_assoc, ← Nat.pow_add] at h
  have h3 := scale_lt (s := mag) (m := 2 * s + 1) (q := u + (-(place + 1075)).toNat) (p := (place + 1075).toNat) (a := b) (b := a + 1) (by omega)
  have e1 : 2 * (s * 2 ^ u + (s * 2 ^ u + 2 ^ u)) = 2 * ((2 * s + 1) * 2 ^ u) := by
    rw [Nat.add_mul, Nat.mul_assoc 2]; omega
  have e2 : mag * 2 ^ (a + 1) = 2 * (mag * 2 ^ a) := by rw [Nat.pow_succ, ← Nat.mul_assoc]; omega
  rw [e1, h, h3, e2]

theorem zd_mid_eq {mag : Nat} {place L : Int} {a b s u : Nat} (hu0 : (u : Int) = L + 1074) (hab : (a : Int) - b = place - L) :
    zd mag place = 2 * (s * 2 ^ u + (s * 2 ^ u + 2 ^ u)) ↔ 2 * (mag * 2 ^ a) = (2 * s + 1) * 2 ^ b := by
  unfold zd
  have hp := two_pow_pos (-(place + 1075)).toNat
  have h := zq_eq (N := mag * 2 ^ (place + 1075).toNat) (T := (2 * s + 1) * 2 ^ u) hp
  rw [Nat.mul_assoc, ← Nat.pow_add] at h
  have h3 := scale_eq (s := mag) (m := 2 * s + 1) (q := u + (-(place + 1075)).toNat) (p := (place + 1075).toNat) (a := b) (b := a + 1) (by omega)
  have e1 : 2 * (s * 2 ^ u + (s * 2 ^ u + 2 ^ u)) = 2 * ((2 * s + 1) * 2 ^ u) := by
    rw [Nat.add_mul, Nat.mul_assoc 2]; omega
  have e2 : mag * 2 ^ (a + 1) = 2 * (mag * 2 ^ a) := by rw [Nat.pow_succ, ← Nat.mul_assoc]; omega
  rw [e1, h, h3, e2]

/-- Rounding, where the number lies between s and s + 1 of place u: what is left over decides. -/
theorem rr_form {mag : Nat} {place L : Int} {a b s u : Nat} (hu0 : (u : Int) = L + 1074) (hab : (a : Int) - b = place - L)
    (hs : s < 9007199254740992) (hu : u ≠ 0 → 4503599627370496 ≤ s) (h1 : s * 2 ^ b ≤ mag * 2 ^ a) (h2 : mag * 2 ^ a < (s + 1) * 2 ^ b) (d : Int) (neg up : Bool)
    (hup : up = if mag * 2 ^ a = s * 2 ^ b then false else if d = 1 then !neg else if d = -1 then neg else
      decide ((2 * s + 1) * 2 ^ b < 2 * (mag * 2 ^ a)) || (decide (2 * (mag * 2 ^ a) = (2 * s + 1) * 2 ^ b) && decide (s % 2 = 1))) :
    rr d neg (zd mag place) = if (d = 1 ∧ neg = true) ∨ (d = -1 ∧ neg = false) then min (u * 4503599627370496 + s) (infR - 1) else min (u * 4503599627370496 + s + up.toNat) infR := by
  obtain ⟨r1, r2, r3⟩ := zd_rung hu0 hab hs hu h1 h2
  have hodd : (u * 4503599627370496 + s) % 2 = s % 2 := by omega
  have haw : away d neg (zd mag place) = up := by
    unfold away
    rw [hup, r2, r3, r1, hodd]
    simp only [zd_exact hu0 hab, zd_mid_lt hu0 hab, zd_mid_eq hu0 hab]
  unfold rr
  rw [haw, r1]
  split
  · rfl
  · cases up <;> simp

theorem log2_bounds {n : Nat} (h : n ≠ 0) : 2 ^ n.log2 ≤ n ∧ n < 2 ^ (n.log2 + 1) := (Nat.log2_eq_iff h).1 rfl

/-- The model's cut to the even neighbour. -/
theorem cut_even (neg : Bool) (n drop : Nat) :
    Ieee.Toward.even.cut neg n drop = n / 2 ^ drop + (decide ((2 * (n / 2 ^ drop) + 1) * 2 ^ drop < 2 * n) || (decide (2 * n = (2 * (n / 2 ^ drop) + 1) * 2 ^ drop) && decide (n / 2 ^ drop % 2 = 1))).toNat := by
  have key : ∀ g : Nat, 0 < g → (n / g + (decide (g < 2 * (n % g)) || (g == 2 * (n % g) && n / g % 2 == 1)).toNat) =
      n / g + (decide ((2 * (n / g) + 1) * g < 2 * n) || (decide (2 * n = (2 * (n / g) + 1) * g) && decide (n / g % 2 = 1))).toNat := by
    intro g hg
    have h := Nat.div_add_mod n g
    have e : (2 * (n / g) + 1) * g = 2 * (g * (n / g)) + g := by
      rw [Nat.add_mul, Nat.mul_assoc, Nat.mul_comm (n / g) g]; omega
    congr 2
    rw [e]
    generalize n % g = r at *
    generalize g * (n / g) = t at *
    have e1 : decide (g < 2 * r) = decide (2 * t + g < 2 * n) := decide_eq_decide.2 (by omega)
    have e2 : (g == 2 * r) = decide (2 * n = 2 * t + g) := by
      rw [Bool.eq_iff_iff]; simp; omega
    have e3 : (n / g % 2 == 1) = decide (n / g % 2 = 1) := by
      rw [Bool.eq_iff_iff]; simp
    rw [e1, e2, e3]
  have hu : Ieee.Toward.even.cut neg n drop = n / (1 <<< min drop (n.log2 + 2)) + (decide (1 <<< min drop (n.log2 + 2) < 2 * (n % (1 <<< min drop (n.log2 + 2)))) || (1 <<< min drop (n.log2 + 2) == 2 * (n % (1 <<< min drop (n.log2 + 2))) && n / (1 <<< min drop (n.log2 + 2)) % 2 == 1)).toNat := rfl
  rw [hu, Nat.one_shiftLeft]
  by_cases hd : drop ≤ n.log2 + 2
  · rw [Nat.min_eq_left hd]
    exact key _ (two_pow_pos _)
  · rw [Nat.min_eq_right (by omega), key _ (two_pow_pos _)]
    have hn : n < 2 ^ (n.log2 + 1) := by
      by_cases h0 : n = 0
      · subst h0; exact two_pow_pos _
      · exact (log2_bounds h0).2
    have h1 : 2 ^ (n.log2 + 2) = 2 * 2 ^ (n.log2 + 1) := by rw [Nat.pow_succ 2 (n.log2 + 1)]; omega
    have h2 : 2 ^ (n.log2 + 2) ≤ 2 ^ drop := Nat.pow_le_pow_right (by omega) (by omega)
    rw [Nat.div_eq_of_lt (show n < 2 ^ (n.log2 + 2) by omega), Nat.div_eq_of_lt (show n < 2 ^ drop by omega)]
    simp only [Nat.mul_zero, Nat.zero_add, Nat.one_mul]
    have d1 : decide (2 ^ (n.log2 + 2) < 2 * n) = false := decide_eq_false (by omega)
    have d2 : decide (2 ^ drop < 2 * n) = false := decide_eq_false (by omega)
    rw [d1, d2]
    simp

/-- The model's nearest is the plain rounding. -/
theorem nearest_eq (neg : Bool) (mag : Nat) (place : Int) : Ieee.double.nearest neg mag place = Ieee.double.word neg (rr 0 neg (zd mag place)) := by
  by_cases h0 : mag = 0
  · subst h0
    rw [zd_zero, rr_zero]
    simp [Ieee.Format.nearest]
  · have hu : Ieee.double.nearest neg mag place = Ieee.double.word neg (min ((max (place + mag.log2 - 52) (-1074) - -1074).toNat * 4503599627370496 + Ieee.Toward.even.cut neg (mag <<< (place - max (place + mag.log2 - 52) (-1074)).toNat) (max (place + mag.log2 - 52) (-1074) - place).toNat) infR) := by
      unfold Ieee.Format.nearest
      rw [if_neg h0]
      rfl
    rw [hu]
    congr 1
    obtain ⟨l1, l2⟩ := log2_bounds h0
    generalize hL : max (place + mag.log2 - 52) (-1074) = L
    generalize hl : mag.log2 = l at *
    have hL1 : -1074 ≤ L := by omega
    have hL2 : place + l - 52 ≤ L := by omega
    have hL3 : L = place + l - 52 ∨ (L = -1074 ∧ place + l - 52 ≤ -1074) := by omega
    clear hL hu
    generalize ha : (place - L).toNat = a
    generalize hb : (L - place).toNat = b
    have hab : (a : Int) - b = place - L := by omega
    rw [Nat.shiftLeft_eq, cut_even]
    generalize hs : mag * 2 ^ a / 2 ^ b = s
    have hpb := two_pow_pos b
    have hpa := two_pow_pos a
    obtain ⟨h1, h2⟩ := div_bounds (mag * 2 ^ a) hpb
    rw [hs] at h1 h2
    -- s has 53 bits at the most
    have hs1 : s < 9007199254740992 := by
      have hx : mag * 2 ^ a < 2 ^ (53 + b) := by
        have : mag * 2 ^ a < 2 ^ (l + 1) * 2 ^ a := Nat.mul_lt_mul_of_pos_right l2 hpa
        rw [← Nat.pow_add] at this
        exact Nat.lt_of_lt_of_le this (Nat.pow_le_pow_right (by omega) (by omega))
      rw [Nat.pow_add] at hx
      rw [← hs]
      exact (Nat.div_lt_iff_lt_mul hpb).2 hx
    have hu1 : (L - -1074).toNat ≠ 0 → 4503599627370496 ≤ s := by
      intro hne
      have hLe : L = place + l - 52 := by omega
      have hx : 2 ^ (52 + b) ≤ mag * 2 ^ a := by
        have : 2 ^ l * 2 ^ a ≤ mag * 2 ^ a := Nat.mul_le_mul_right _ l1
        rw [← Nat.pow_add] at this
        exact Nat.le_trans (Nat.pow_le_pow_right (by omega) (by omega)) this
      rw [Nat.pow_add] at hx
      rw [← hs]
      exact (Nat.le_div_iff_mul_le hpb).2 hx
    have hr := rr_form (mag := mag) (place := place) (L := L) (a := a) (b := b) (s := s) (u := (L - -1074).toNat) (by omega) hab hs1 hu1 h1 h2 0 neg _ rfl
    rw [hr]
    simp only [show ¬ ((0 : Int) = 1) by omega, show ¬ ((0 : Int) = -1) by omega, false_and, or_self, if_false]
    rw [Nat.add_assoc]
    congr 3
    by_cases he : mag * 2 ^ a = s * 2 ^ b
    · rw [if_pos he, he]
      have hn1 : ¬ ((2 * s + 1) * 2 ^ b < 2 * (s * 2 ^ b)) := by rw [Nat.add_mul, Nat.mul_assoc]; omega
      have hn2 : ¬ (2 * (s * 2 ^ b) = (2 * s + 1) * 2 ^ b) := by rw [Nat.add_mul, Nat.mul_assoc]; omega
      rw [decide_eq_false hn1, decide_eq_false hn2]
      simp
    · rw [if_neg he]

end Go.Proofs.Ytcimfccjcikemaa.Rn
