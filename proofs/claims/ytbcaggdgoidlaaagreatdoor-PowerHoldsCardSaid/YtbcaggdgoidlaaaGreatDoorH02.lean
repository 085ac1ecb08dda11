/-
 Rounding to binary64, in plain naturals: the rungs, their numbers, and the rung to which a number is rounded in a direction.
 Plain arithmetic: no program is in sight. Conditions: none but those that each theorem names.
-/
import Ieee.Arith
set_option linter.unusedVariables false
set_option linter.unusedSimpArgs false
namespace Go.Proofs.YtbcaggdgoidlaaaGreatDoor.Rn
def rv (k : Nat) : Nat := if k < 4503599627370496 then k else (4503599627370496 + k % 4503599627370496) * 2 ^ (k / 4503599627370496 - 1)
def ulp (k : Nat) : Nat := 2 ^ (k / 4503599627370496 - 1)
theorem rv_small {k : Nat} (h : k ≤ 9007199254740992) : rv k = k := by
 unfold rv
 split
 · rfl
 · rename_i hk
   by_cases e : k = 9007199254740992
   · subst e; rfl
   · have h1 : k / 4503599627370496 = 1 := by omega
     rw [h1]
     simp only [Nat.sub_self, Nat.pow_zero, Nat.mul_one]
     omega
theorem rv_form (u s : Nat) (hs : s ≤ 9007199254740992) (hu : u ≠ 0 → 4503599627370496 ≤ s) : rv (u * 4503599627370496 + s) = s * 2 ^ u := by
 by_cases h0 : u = 0
 · subst h0
   simp only [Nat.zero_mul, Nat.zero_add, Nat.pow_zero, Nat.mul_one]
   exact rv_small hs
 · have h1 := hu h0
   unfold rv
   rw [if_neg (by omega)]
   by_cases e : s = 9007199254740992
   · subst e
     have a : (u * 4503599627370496 + 9007199254740992) / 4503599627370496 = u + 2 := by omega
     have b : (u * 4503599627370496 + 9007199254740992) % 4503599627370496 = 0 := by omega
     rw [a, b, show u + 2 - 1 = u + 1 by omega, Nat.pow_succ]
     omega
   · have a : (u * 4503599627370496 + s) / 4503599627370496 = u + 1 := by omega
     have b : (u * 4503599627370496 + s) % 4503599627370496 = s - 4503599627370496 := by omega
     rw [a, b, show u + 1 - 1 = u by omega, show 4503599627370496 + (s - 4503599627370496) = s by omega]
theorem ulp_form (u s : Nat) (hs : s < 9007199254740992) (hu : u ≠ 0 → 4503599627370496 ≤ s) : ulp (u * 4503599627370496 + s) = 2 ^ u := by
 unfold ulp
 by_cases h0 : u = 0
 · subst h0
   have : (0 * 4503599627370496 + s) / 4503599627370496 - 1 = 0 := by omega
   rw [this]
 · have h1 := hu h0
   have a : (u * 4503599627370496 + s) / 4503599627370496 = u + 1 := by omega
   rw [a, show u + 1 - 1 = u by omega]
theorem form (k : Nat) : ∃ u s, k = u * 4503599627370496 + s ∧ s < 9007199254740992 ∧ (u ≠ 0 → 4503599627370496 ≤ s) := by
 by_cases h : k < 9007199254740992
 · exact ⟨0, k, by omega, h, fun h => absurd rfl h⟩
 · exact ⟨k / 4503599627370496 - 1, 4503599627370496 + k % 4503599627370496, by omega, by omega, fun _ => by omega⟩
theorem two_pow_pos (u : Nat) : 0 < 2 ^ u := Nat.pow_pos (by omega)
theorem rv_succ (k : Nat) : rv (k + 1) = rv k + ulp k := by
 obtain ⟨u, s, rfl, hs, hu⟩ := form k
 rw [rv_form u s (by omega) hu, ulp_form u s hs hu, Nat.add_assoc, rv_form u (s + 1) (by omega) (fun h => by have := hu h; omega), Nat.add_mul, Nat.one_mul]
theorem ulp_pos (k : Nat) : 0 < ulp k := two_pow_pos _
theorem rv_lt_succ (k : Nat) : rv k < rv (k + 1) := by
 have := rv_succ k
 have := ulp_pos k
 omega
theorem rv_lt {a b : Nat} (h : a < b) : rv a < rv b := by
 induction b with
 | zero => omega
 | succ b ih =>
   have h1 := rv_lt_succ b
   by_cases e : a = b
   · subst e; exact h1
   · have := ih (by omega)
     omega
theorem rv_le {a b : Nat} (h : a ≤ b) : rv a ≤ rv b := by
 by_cases e : a = b
 · subst e; exact Nat.le_refl _
 · have := rv_lt (show a < b by omega)
   omega
theorem rv_lt_iff {a b : Nat} : rv a < rv b ↔ a < b := by
 constructor
 · intro h
   rcases Nat.lt_or_ge a b with h1 | h1
   · exact h1
   · have := rv_le h1; omega
 · exact rv_lt
theorem rv_le_iff {a b : Nat} : rv a ≤ rv b ↔ a ≤ b := by
 constructor
 · intro h
   rcases Nat.lt_or_ge b a with h1 | h1
   · have := rv_lt h1; omega
   · exact h1
 · exact rv_le
theorem rv_inj {a b : Nat} (h : rv a = rv b) : a = b := by
 have h1 := rv_le_iff.1 (Nat.le_of_eq h)
 have h2 := rv_le_iff.1 (Nat.le_of_eq h.symm)
 omega
theorem rv_zero : rv 0 = 0 := rfl
theorem rv_eq_zero {k : Nat} : rv k = 0 ↔ k = 0 := ⟨fun h => rv_inj (h.trans rv_zero.symm), fun h => by subst h; rfl⟩
def rung (Q : Nat) : Nat := if Q < 9007199254740992 then Q else (Q.log2 - 52) * 4503599627370496 + Q / 2 ^ (Q.log2 - 52)
theorem rung_form {Q u s : Nat} (hs : s < 9007199254740992) (hu : u ≠ 0 → 4503599627370496 ≤ s) (h1 : s * 2 ^ u ≤ Q) (h2 : Q < (s + 1) * 2 ^ u) :
   rung Q = u * 4503599627370496 + s := by
 unfold rung
 by_cases h0 : u = 0
 · subst h0
   simp only [Nat.pow_zero, Nat.mul_one] at h1 h2
   rw [if_pos (by omega)]
   omega
 · have h3 := hu h0
   have hp := two_pow_pos u
   have h4 : 4503599627370496 * 2 ^ u ≤ Q := Nat.le_trans (Nat.mul_le_mul_right _ h3) h1
   have h5 : Q < 9007199254740992 * 2 ^ u := Nat.lt_of_lt_of_le h2 (Nat.mul_le_mul_right _ (by omega))
   have hu1 : 2 ≤ 2 ^ u := by
     have := Nat.pow_le_pow_right (n := 2) (by omega) (show 1 ≤ u by omega)
     simpa using this
   have hQ : Q ≠ 0 := by omega
   have hl : Q.log2 = u + 52 := by
     refine (Nat.log2_eq_iff hQ).2 ⟨?_, ?_⟩
     · rw [Nat.pow_add, Nat.mul_comm]; exact h4
     · rw [show u + 52 + 1 = u + 53 by omega, Nat.pow_add, Nat.mul_comm]; exact h5
   rw [if_neg (by omega), hl, show u + 52 - 52 = u by omega]
   have : Q / 2 ^ u = s := by
     refine Nat.div_eq_of_lt_le h1 h2
   rw [this]
theorem rung_of_rv (k : Nat) {Q : Nat} (h1 : rv k ≤ Q) (h2 : Q < rv (k + 1)) : rung Q = k := by
 obtain ⟨u, s, rfl, hs, hu⟩ := form k
 rw [rv_form u s (by omega) hu] at h1
 rw [Nat.add_assoc, rv_form u (s + 1) (by omega) (fun h => by have := hu h; omega)] at h2
 exact rung_form hs hu h1 h2
theorem exists_rung (Q : Nat) : ∃ k, rv k ≤ Q ∧ Q < rv (k + 1) := by
 induction Q with
 | zero => exact ⟨0, by simp [rv_zero], by rw [rv_small (by omega)]; omega⟩
 | succ Q ih =>
   obtain ⟨k, h1, h2⟩ := ih
   by_cases h : Q + 1 < rv (k + 1)
   · exact ⟨k, by omega, h⟩
   · have := rv_lt_succ (k + 1)
     exact ⟨k + 1, by omega, by omega⟩
theorem rung_spec (Q : Nat) : rv (rung Q) ≤ Q ∧ Q < rv (rung Q + 1) := by
 obtain ⟨k, h1, h2⟩ := exists_rung Q
 rw [rung_of_rv k h1 h2]
 exact ⟨h1, h2⟩
theorem le_rung_iff {k Q : Nat} : k ≤ rung Q ↔ rv k ≤ Q := by
 have h := rung_spec Q
 constructor
 · intro hk
   have := rv_le hk
   omega
 · intro hk
   have : rv k < rv (rung Q + 1) := by omega
   have := rv_lt_iff.1 this
   omega
theorem rung_mono {a b : Nat} (h : a ≤ b) : rung a ≤ rung b := le_rung_iff.2 (Nat.le_trans (rung_spec a).1 h)
theorem rung_rv (k : Nat) : rung (rv k) = k := rung_of_rv k (Nat.le_refl _) (rv_lt_succ k)
def infR : Nat := 9218868437227405312
def away (d : Int) (neg : Bool) (Z : Nat) : Bool :=
 if Z = 4 * rv (rung (Z / 4)) then false
 else if d = 1 then !neg
 else if d = -1 then neg
 else decide (2 * (rv (rung (Z / 4)) + rv (rung (Z / 4) + 1)) < Z) || (decide (Z = 2 * (rv (rung (Z / 4)) + rv (rung (Z / 4) + 1))) && decide (rung (Z / 4) % 2 = 1))
def rr (d : Int) (neg : Bool) (Z : Nat) : Nat :=
 if (d = 1 ∧ neg = true) ∨ (d = -1 ∧ neg = false) then min (rung (Z / 4)) (infR - 1)
 else min (if away d neg Z then rung (Z / 4) + 1 else rung (Z / 4)) infR
def pat (neg : Bool) (r : Nat) : Nat := if r = 0 then 0 else if neg then 9223372036854775808 + r else r
def rnd (d : Int) (neg : Bool) (Z : Nat) : Nat := pat neg (rr d neg Z)
def zq (N m : Nat) : Nat := 2 * (N / m) + (if N % m = 0 then 0 else 1)
def K75 : Nat := 2 ^ 1075
theorem K75_def : K75 = 2 ^ 1075 := by
 unfold K75
 exact Eq.refl _
attribute [irreducible] K75
def zr (n m : Nat) : Nat := zq (n * K75) m
theorem zr_eq (n m : Nat) : zr n m = zq (n * K75) m := rfl
theorem zq_le {N m T : Nat} (hm : 0 < m) : 2 * T ≤ zq N m ↔ T * m ≤ N := by
 unfold zq
 have h := Nat.div_add_mod N m
 have hl := Nat.mod_lt N hm
 rw [← Nat.le_div_iff_mul_le hm]
 split <;> omega
theorem zq_eq {N m T : Nat} (hm : 0 < m) : zq N m = 2 * T ↔ N = T * m := by
 unfold zq
 have h := Nat.div_add_mod N m
 constructor
 · intro e
   split at e
   · rename_i h0
     have : N / m = T := by omega
     rw [← h, this, h0, Nat.mul_comm]; rfl
   · omega
 · intro e
   subst e
   rw [Nat.mul_mod_left, Nat.mul_div_cancel _ hm]
   simp
theorem zq_lt {N m T : Nat} (hm : 0 < m) : zq N m < 2 * T ↔ N < T * m := by
 have := zq_le (N := N) (T := T) hm
 omega
theorem zq_gt {N m T : Nat} (hm : 0 < m) : 2 * T < zq N m ↔ T * m < N := by
 have h1 := zq_le (N := N) (T := T) hm
 have h2 := zq_eq (N := N) (T := T) hm
 constructor
 · intro h
   have h3 := h1.1 (by omega)
   have h4 : N ≠ T * m := fun e => by have := h2.2 e; omega
   omega
 · intro h
   have h3 := h1.2 (by omega)
   have h4 : zq N m ≠ 2 * T := fun e => by have := h2.1 e; omega
   omega
theorem zq_mono {N m N' m' : Nat} (hm : 0 < m) (hm' : 0 < m') (h : N * m' ≤ N' * m) : zq N m ≤ zq N' m' := by
 -- every even number below, and the odd one between
 rcases Nat.lt_or_ge (zq N' m') (zq N m) with hlt | hge
 · exfalso
   by_cases hev : zq N m % 2 = 0
   · have e1 : zq N m = 2 * (zq N m / 2) := by omega
     have h1 := (zq_eq hm).1 e1
     have h2 : zq N' m' < 2 * (zq N m / 2) := by omega
     have h3 := (zq_lt hm').1 h2
     generalize zq N m / 2 = T at *
     have h4 : N' * m < T * m' * m := Nat.mul_lt_mul_of_pos_right h3 hm
     rw [h1] at h
     rw [Nat.mul_right_comm] at h4
     omega
   · have e1 : zq N m = 2 * (zq N m / 2) + 1 := by omega
     have h1 : 2 * (zq N m / 2) < zq N m := by omega
     have h1 := (zq_gt hm).1 h1
     have h2 : ¬ 2 * (zq N m / 2) < zq N' m' := by omega
     have h3 : ¬ _ := fun hh => h2 ((zq_gt hm').2 hh)
     generalize zq N m / 2 = T at *
     have h4 : N' * m ≤ T * m' * m := Nat.mul_le_mul_right _ (by omega)
     have h5 : T * m * m' < N * m' := Nat.mul_lt_mul_of_pos_right h1 hm'
     rw [Nat.mul_right_comm] at h5
     omega
 · exact hge
theorem zq_congr {N m N' m' : Nat} (hm : 0 < m) (hm' : 0 < m') (h : N * m' = N' * m) : zq N m = zq N' m' :=
 Nat.le_antisymm (zq_mono hm hm' (Nat.le_of_eq h)) (zq_mono hm' hm (Nat.le_of_eq h.symm))
theorem zr_mono {n m n' m' : Nat} (hm : 0 < m) (hm' : 0 < m') (h : n * m' ≤ n' * m) : zr n m ≤ zr n' m' := by
 rw [zr_eq, zr_eq]
 refine zq_mono hm hm' ?_
 rw [Nat.mul_right_comm, Nat.mul_right_comm n']
 exact Nat.mul_le_mul_right _ h
theorem zr_congr {n m n' m' : Nat} (hm : 0 < m) (hm' : 0 < m') (h : n * m' = n' * m) : zr n m = zr n' m' :=
 Nat.le_antisymm (zr_mono hm hm' (Nat.le_of_eq h)) (zr_mono hm' hm (Nat.le_of_eq h.symm))
theorem rung_Z {Z u s : Nat} (hs : s < 9007199254740992) (hu : u ≠ 0 → 4503599627370496 ≤ s) (h1 : 4 * (s * 2 ^ u) ≤ Z) (h2 : Z < 4 * ((s + 1) * 2 ^ u)) :
   rung (Z / 4) = u * 4503599627370496 + s ∧ rv (rung (Z / 4)) = s * 2 ^ u ∧ rv (rung (Z / 4) + 1) = s * 2 ^ u + 2 ^ u := by
 have hr : rung (Z / 4) = u * 4503599627370496 + s := rung_form hs hu (by omega) (by omega)
 rw [hr, rv_succ, rv_form u s (by omega) hu, ulp_form u s hs hu]
 exact ⟨rfl, rfl, rfl⟩
theorem zr_zero (m : Nat) : zr 0 m = 0 := by simp [zr, zq]
theorem rung_zero : rung 0 = 0 := by simp [rung]
theorem rr_zero (d : Int) (neg : Bool) : rr d neg 0 = 0 := by
 simp [rr, rung_zero, away, rv_zero]
theorem rnd_zero (d : Int) (neg : Bool) : rnd d neg 0 = 0 := by
 simp [rnd, rr_zero, pat]
end Go.Proofs.YtbcaggdgoidlaaaGreatDoor.Rn

namespace Go.Proofs.YtbcaggdgoidlaaaGreatDoor.Rn
theorem mul_pow_succ (s u : Nat) : s * 2 ^ (u + 1) = 2 * (s * 2 ^ u) := by
 rw [Nat.pow_succ, ← Nat.mul_assoc, Nat.mul_comm]
theorem div_bounds (n : Nat) {g : Nat} (hg : 0 < g) : n / g * g ≤ n ∧ n < (n / g + 1) * g := by
 have h := Nat.div_add_mod n g
 have hl := Nat.mod_lt n hg
 rw [Nat.mul_comm] at h
 rw [Nat.add_mul, Nat.one_mul]
 omega
theorem scale_le {s m p q a b : Nat} (h : p + a = q + b) : s * 2 ^ p ≤ m * 2 ^ q ↔ s * 2 ^ b ≤ m * 2 ^ a := by
 rcases Nat.le_total b p with hb | hb
 · obtain ⟨c, rfl⟩ := Nat.exists_eq_add_of_le hb
   have e : q = a + c := by omega
   subst e
   rw [Nat.pow_add, Nat.pow_add, ← Nat.mul_assoc, ← Nat.mul_assoc]
   exact Nat.mul_le_mul_right_iff (two_pow_pos c)
 · obtain ⟨c, rfl⟩ := Nat.exists_eq_add_of_le hb
   have e : a = q + c := by omega
   subst e
   rw [Nat.pow_add, Nat.pow_add, ← Nat.mul_assoc, ← Nat.mul_assoc]
   exact (Nat.mul_le_mul_right_iff (two_pow_pos c)).symm
theorem scale_eq {s m p q a b : Nat} (h : p + a = q + b) : s * 2 ^ p = m * 2 ^ q ↔ s * 2 ^ b = m * 2 ^ a := by
 have h1 := scale_le (s := s) (m := m) h
 have h2 := scale_le (s := m) (m := s) (p := q) (q := p) (a := b) (b := a) (by omega)
 omega
theorem scale_lt {s m p q a b : Nat} (h : p + a = q + b) : m * 2 ^ q < s * 2 ^ p ↔ m * 2 ^ a < s * 2 ^ b := by
 have h1 := scale_le (s := s) (m := m) h
 omega
def zd (mag : Nat) (place : Int) : Nat := zq (mag * 2 ^ (place + 1075).toNat) (2 ^ (-(place + 1075)).toNat)
theorem zd_of {mag : Nat} {place : Int} {A B : Nat} (h : (A : Int) - B = place + 1075) : zd mag place = zq (mag * 2 ^ A) (2 ^ B) := by
 unfold zd
 refine zq_congr (two_pow_pos _) (two_pow_pos _) ?_
 rw [Nat.mul_assoc, Nat.mul_assoc, ← Nat.pow_add, ← Nat.pow_add]
 congr 2
 omega
theorem zq_one (N : Nat) : zq N 1 = 2 * N := by simp [zq, Nat.mod_one]
theorem zd_units {mag : Nat} {place : Int} {S : Nat} (h : -1074 ≤ place) (hS : S = mag * 2 ^ (place + 1074).toNat) : zd mag place = 4 * S := by
 rw [zd_of (A := (place + 1074).toNat + 1) (B := 0) (by omega), Nat.pow_zero, zq_one, hS, mul_pow_succ]
 omega
theorem zd_zero (place : Int) : zd 0 place = 0 := by simp [zd, zq]
theorem zd_rung {mag : Nat} {place L : Int} {a b s u : Nat} (hu0 : (u : Int) = L + 1074) (hab : (a : Int) - b = place - L)
   (hs : s < 9007199254740992) (hu : u ≠ 0 → 4503599627370496 ≤ s) (h1 : s * 2 ^ b ≤ mag * 2 ^ a) (h2 : mag * 2 ^ a < (s + 1) * 2 ^ b) :
   rung (zd mag place / 4) = u * 4503599627370496 + s ∧ rv (rung (zd mag place / 4)) = s * 2 ^ u ∧ rv (rung (zd mag place / 4) + 1) = s * 2 ^ u + 2 ^ u := by
 unfold zd
 have hp := two_pow_pos (-(place + 1075)).toNat
 refine rung_Z hs hu ?_ ?_
 · have := (zq_le (N := mag * 2 ^ (place + 1075).toNat) (T := s * 2 ^ (u + 1)) hp).2 (by
     rw [Nat.mul_assoc, ← Nat.pow_add]
     exact (scale_le (a := a) (b := b) (by omega)).2 h1)
   rw [mul_pow_succ] at this
   omega
 · have := (zq_lt (N := mag * 2 ^ (place + 1075).toNat) (T := (s + 1) * 2 ^ (u + 1)) hp).2 (by
     rw [Nat.mul_assoc, ← Nat.pow_add]
     exact (scale_lt (a := a) (b := b) (by omega)).2 h2)
   rw [mul_pow_succ] at this
   omega
theorem zd_exact {mag : Nat} {place L : Int} {a b s u : Nat} (hu0 : (u : Int) = L + 1074) (hab : (a : Int) - b = place - L) :
   zd mag place = 4 * (s * 2 ^ u) ↔ mag * 2 ^ a = s * 2 ^ b := by
 unfold zd
 have hp := two_pow_pos (-(place + 1075)).toNat
 have h0 := zq_eq (N := mag * 2 ^ (place + 1075).toNat) (T := s * 2 ^ (u + 1)) hp
 have h : zq (mag * 2 ^ (place + 1075).toNat) (2 ^ (-(place + 1075)).toNat) = 2 * (2 * (s * 2 ^ u)) ↔ mag * 2 ^ (place + 1075).toNat = s * 2 ^ (u + 1 + (-(place + 1075)).toNat) := by
   rw [← mul_pow_succ, h0, Nat.mul_assoc, ← Nat.pow_add]
 have h3 := scale_eq (s := s) (m := mag) (p := u + 1 + (-(place + 1075)).toNat) (q := (place + 1075).toNat) (a := a) (b := b) (by omega)
 constructor
 · intro e
   exact (h3.1 (h.1 (by omega)).symm).symm
 · intro e
   have := h.2 (h3.2 e.symm).symm
   omega
theorem zd_mid_lt {mag : Nat} {place L : Int} {a b s u : Nat} (hu0 : (u : Int) = L + 1074) (hab : (a : Int) - b = place - L) :
   2 * (s * 2 ^ u + (s * 2 ^ u + 2 ^ u)) < zd mag place ↔ (2 * s + 1) * 2 ^ b < 2 * (mag * 2 ^ a) := by
 unfold zd
 have hp := two_pow_pos (-(place + 1075)).toNat
 have h := zq_gt (N := mag * 2 ^ (place + 1075).toNat) (T := (2 * s + 1) * 2 ^ u) hp
 rw [Nat.mul_assoc, ← Nat.pow_add] at h
 have h3 := scale_lt (s := mag) (m := 2 * s + 1) (q := u + (-(place + 1075)).toNat) (p := (place + 1075).toNat) (a := b) (b := a + 1) (by omega)
 have e1 : 2 * (s * 2 ^ u + (s * 2 ^ u + 2 ^ u)) = 2 * ((2 * s + 1) * 2 ^ u) := by
   rw [Nat.add_mul, Nat.mul_assoc 2]; omega
 have e2 : mag * 2 ^ (a + 1) = 2 * (mag * 2 ^ a) := by rw [Nat.pow_succ, ← Nat.mul_assoc]; omega
 rw [e1, h, h3, e2]
theorem zd_mid_eq {mag : Nat} {place L : Int} {a b s u : Nat} (hu0 : (u : Int) = L + 1074) (hab : (a : Int) - b = place - L) :
   zd mag place = 2 * (s * 2 ^ u + (s * 2 ^ u + 2 ^ u)) ↔ 2 * (mag * 2 ^ a) = (2 * s + 1) * 2 ^ b := by
 unfold zd
 have hp := two_pow_pos (-(place + 1075)).toNat
 have h := zq_eq (N := mag * 2 ^ (place + 1075).toNat) (T := (2 * s + 1) * 2 ^ u) hp
 rw [Nat.mul_assoc, ← Nat.pow_add] at h
 have h3 := scale_eq (s := mag) (m := 2 * s + 1) (q := u + (-(place + 1075)).toNat) (p := (place + 1075).toNat) (a := b) (b := a + 1) (by omega)
 have e1 : 2 * (s * 2 ^ u + (s * 2 ^ u + 2 ^ u)) = 2 * ((2 * s + 1) * 2 ^ u) := by
   rw [Nat.add_mul, Nat.mul_assoc 2]; omega
 have e2 : mag * 2 ^ (a + 1) = 2 * (mag * 2 ^ a) := by rw [Nat.pow_succ, ← Nat.mul_assoc]; omega
 rw [e1, h, h3, e2]
theorem rr_form {mag : Nat} {place L : Int} {a b s u : Nat} (hu0 : (u : Int) = L + 1074) (hab : (a : Int) - b = place - L)
   (hs : s < 9007199254740992) (hu : u ≠ 0 → 4503599627370496 ≤ s) (h1 : s * 2 ^ b ≤ mag * 2 ^ a) (h2 : mag * 2 ^ a < (s + 1) * 2 ^ b) (d : Int) (neg up : Bool)
   (hup : up = if mag * 2 ^ a = s * 2 ^ b then false else if d = 1 then !neg else if d = -1 then neg else
     decide ((2 * s + 1) * 2 ^ b < 2 * (mag * 2 ^ a)) || (decide (2 * (mag * 2 ^ a) = (2 * s + 1) * 2 ^ b) && decide (s % 2 = 1))) :
   rr d neg (zd mag place) = if (d = 1 ∧ neg = true) ∨ (d = -1 ∧ neg = false) then min (u * 4503599627370496 + s) (infR - 1) else min (u * 4503599627370496 + s + up.toNat) infR := by
 obtain ⟨r1, r2, r3⟩ := zd_rung hu0 hab hs hu h1 h2
 have hodd : (u * 4503599627370496 + s) % 2 = s % 2 := by omega
 have haw : away d neg (zd mag place) = up := by
   unfold away
   rw [hup, r2, r3, r1, hodd]
   simp only [zd_exact hu0 hab, zd_mid_lt hu0 hab, zd_mid_eq hu0 hab]
 unfold rr
 rw [haw, r1]
 split
 · rfl
 · cases up <;> simp
theorem log2_bounds {n : Nat} (h : n ≠ 0) : 2 ^ n.log2 ≤ n ∧ n < 2 ^ (n.log2 + 1) := (Nat.log2_eq_iff h).1 rfl
theorem cut_even (neg : Bool) (n drop : Nat) :
   Ieee.Toward.even.cut neg n drop = n / 2 ^ drop + (decide ((2 * (n / 2 ^ drop) + 1) * 2 ^ drop < 2 * n) || (decide (2 * n = (2 * (n / 2 ^ drop) + 1) * 2 ^ drop) && decide (n / 2 ^ drop % 2 = 1))).toNat := by
 have key : ∀ g : Nat, 0 < g → (n / g + (decide (g < 2 * (n % g)) || (g == 2 * (n % g) && n / g % 2 == 1)).toNat) =
     n / g + (decide ((2 * (n / g) + 1) * g < 2 * n) || (decide (2 * n = (2 * (n / g) + 1) * g) && decide (n / g % 2 = 1))).toNat := by
   intro g hg
   have h := Nat.div_add_mod n g
   have e : (2 * (n / g) + 1) * g = 2 * (g * (n / g)) + g := by
     rw [Nat.add_mul, Nat.mul_assoc, Nat.mul_comm (n / g) g]; omega
   congr 2
   rw [e]
   generalize n % g = r at *
   generalize g * (n / g) = t at *
   have e1 : decide (g < 2 * r) = decide (2 * t + g < 2 * n) := decide_eq_decide.2 (by omega)
   have e2 : (g == 2 * r) = decide (2 * n = 2 * t + g) := by
     rw [Bool.eq_iff_iff]; simp; omega
   have e3 : (n / g % 2 == 1) = decide (n / g % 2 = 1) := by
     rw [Bool.eq_iff_iff]; simp
   rw [e1, e2, e3]
 have hu : Ieee.Toward.even.cut neg n drop = n / (1 <<< min drop (n.log2 + 2)) + (decide (1 <<< min drop (n.log2 + 2) < 2 * (n % (1 <<< min drop (n.log2 + 2)))) || (1 <<< min drop (n.log2 + 2) == 2 * (n % (1 <<< min drop (n.log2 + 2))) && n / (1 <<< min drop (n.log2 + 2)) % 2 == 1)).toNat := rfl
 rw [hu, Nat.one_shiftLeft]
 by_cases hd : drop ≤ n.log2 + 2
 · rw [Nat.min_eq_left hd]
   exact key _ (two_pow_pos _)
 · rw [Nat.min_eq_right (by omega), key _ (two_pow_pos _)]
   have hn : n < 2 ^ (n.log2 + 1) := by
     by_cases h0 : n = 0
     · subst h0; exact two_pow_pos _
     · exact (log2_bounds h0).2
   have h1 : 2 ^ (n.log2 + 2) = 2 * 2 ^ (n.log2 + 1) := by rw [Nat.pow_succ 2 (n.log2 + 1)]; omega
   have h2 : 2 ^ (n.log2 + 2) ≤ 2 ^ drop := Nat.pow_le_pow_right (by omega) (by omega)
   rw [Nat.div_eq_of_lt (show n < 2 ^ (n.log2 + 2) by omega), Nat.div_eq_of_lt (show n < 2 ^ drop by omega)]
   simp only [Nat.mul_zero, Nat.zero_add, Nat.one_mul]
   have d1 : decide (2 ^ (n.log2 + 2) < 2 * n) = false := decide_eq_false (by omega)
   have d2 : decide (2 ^ drop < 2 * n) = false := decide_eq_false (by omega)
   rw [d1, d2]
   simp
theorem nearest_eq (neg : Bool) (mag : Nat) (place : Int) : Ieee.double.nearest neg mag place = Ieee.double.word neg (rr 0 neg (zd mag place)) := by
 by_cases h0 : mag = 0
 · subst h0
   rw [zd_zero, rr_zero]
   simp [Ieee.Format.nearest]
 · have hu : Ieee.double.nearest neg mag place = Ieee.double.word neg (min ((max (place + mag.log2 - 52) (-1074) - -1074).toNat * 4503599627370496 + Ieee.Toward.even.cut neg (mag <<< (place - max (place + mag.log2 - 52) (-1074)).toNat) (max (place + mag.log2 - 52) (-1074) - place).toNat) infR) := by
     unfold Ieee.Format.nearest
     rw [if_neg h0]
     rfl
   rw [hu]
   congr 1
   obtain ⟨l1, l2⟩ := log2_bounds h0
   generalize hL : max (place + mag.log2 - 52) (-1074) = L
   generalize hl : mag.log2 = l at *
   have hL1 : -1074 ≤ L := by omega
   have hL2 : place + l - 52 ≤ L := by omega
   have hL3 : L = place + l - 52 ∨ (L = -1074 ∧ place + l - 52 ≤ -1074) := by omega
   clear hL hu
   generalize ha : (place - L).toNat = a
   generalize hb : (L - place).toNat = b
   have hab : (a : Int) - b = place - L := by omega
   rw [Nat.shiftLeft_eq, cut_even]
   generalize hs : mag * 2 ^ a / 2 ^ b = s
   have hpb := two_pow_pos b
   have hpa := two_pow_pos a
   obtain ⟨h1, h2⟩ := div_bounds (mag * 2 ^ a) hpb
   rw [hs] at h1 h2
   -- s has 53 bits at the most
   have hs1 : s < 9007199254740992 := by
     have hx : mag * 2 ^ a < 2 ^ (53 + b) := by
       have : mag * 2 ^ a < 2 ^ (l + 1) * 2 ^ a := Nat.mul_lt_mul_of_pos_right l2 hpa
       rw [← Nat.pow_add] at this
       exact Nat.lt_of_lt_of_le this (Nat.pow_le_pow_right (by omega) (by omega))
     rw [Nat.pow_add] at hx
     rw [← hs]
     exact (Nat.div_lt_iff_lt_mul hpb).2 hx
   have hu1 : (L - -1074).toNat ≠ 0 → 4503599627370496 ≤ s := by
     intro hne
     have hLe : L = place + l - 52 := by omega
     have hx : 2 ^ (52 + b) ≤ mag * 2 ^ a := by
       have : 2 ^ l * 2 ^ a ≤ mag * 2 ^ a := Nat.mul_le_mul_right _ l1
       rw [← Nat.pow_add] at this
       exact Nat.le_trans (Nat.pow_le_pow_right (by omega) (by omega)) this
     rw [Nat.pow_add] at hx
     rw [← hs]
     exact (Nat.le_div_iff_mul_le hpb).2 hx
   have hr := rr_form (mag := mag) (place := place) (L := L) (a := a) (b := b) (s := s) (u := (L - -1074).toNat) (by omega) hab hs1 hu1 h1 h2 0 neg _ rfl
   rw [hr]
   simp only [show ¬ ((0 : Int) = 1) by omega, show ¬ ((0 : Int) = -1) by omega, false_and, or_self, if_false]
   rw [Nat.add_assoc]
   congr 3
   by_cases he : mag * 2 ^ a = s * 2 ^ b
   · rw [if_pos he, he]
     have hn1 : ¬ ((2 * s + 1) * 2 ^ b < 2 * (s * 2 ^ b)) := by rw [Nat.add_mul, Nat.mul_assoc]; omega
     have hn2 : ¬ (2 * (s * 2 ^ b) = (2 * s + 1) * 2 ^ b) := by rw [Nat.add_mul, Nat.mul_assoc]; omega
     rw [decide_eq_false hn1, decide_eq_false hn2]
     simp
   · rw [if_neg he]
end Go.Proofs.YtbcaggdgoidlaaaGreatDoor.Rn

namespace Go.Proofs.YtbcaggdgoidlaaaGreatDoor.Rn
def sg (b : Nat) : Bool := decide (9223372036854775808 ≤ b)
def mg (b : Nat) : Nat := b % 9223372036854775808
def sv (b : Nat) : Int := if sg b then -(rv (mg b) : Int) else (rv (mg b) : Int)
def key (b : Nat) : Int := if sg b then -(mg b : Int) else (mg b : Int)
def isNaN (b : Nat) : Bool := decide (infR < mg b)
def isInf (b : Nat) : Bool := decide (mg b = infR)
theorem infR_val : infR = 9218868437227405312 := rfl
theorem mg_lt (b : Nat) : mg b < 9223372036854775808 := Nat.mod_lt _ (by omega)
theorem split_pat {b : Nat} (hb : b < 18446744073709551616) : b = if sg b then 9223372036854775808 + mg b else mg b := by
 unfold sg mg
 split <;> rename_i h <;> simp at h <;> omega
theorem word_eq (neg : Bool) (r : Nat) : Ieee.double.word neg r = if neg then 9223372036854775808 + r else r := rfl
theorem sg_word {neg : Bool} {r : Nat} (hr : r < 9223372036854775808) : sg (Ieee.double.word neg r) = neg := by
 rw [word_eq]; unfold sg
 cases neg <;> simp <;> omega
theorem mg_word {neg : Bool} {r : Nat} (hr : r < 9223372036854775808) : mg (Ieee.double.word neg r) = r := by
 rw [word_eq]; unfold mg
 cases neg <;> simp <;> omega
theorem word_lt {neg : Bool} {r : Nat} (hr : r < 9223372036854775808) : Ieee.double.word neg r < 18446744073709551616 := by
 rw [word_eq]
 cases neg <;> simp <;> omega
theorem rr_le (d : Int) (neg : Bool) (Z : Nat) : rr d neg Z ≤ infR := by
 unfold rr infR
 split <;> omega
theorem rr_lt (d : Int) (neg : Bool) (Z : Nat) : rr d neg Z < 9223372036854775808 := by
 have := rr_le d neg Z
 unfold infR at this
 omega
theorem rr_near (neg neg' : Bool) (Z : Nat) : rr 0 neg Z = rr 0 neg' Z := by
 simp [rr, away]
def near (Z : Nat) : Nat := rr 0 false Z
theorem near_eq (neg : Bool) (Z : Nat) : rr 0 neg Z = near Z := rr_near _ _ _
theorem sg_bit {b : Nat} (hb : b < 18446744073709551616) : (b / Ieee.double.signWeight % 2 == 1) = sg b := by
 have e : Ieee.double.signWeight = 9223372036854775808 := rfl
 rw [e, Bool.eq_iff_iff]
 unfold sg
 simp
 omega
theorem read_fin {b : Nat} (hb : b < 18446744073709551616) (h : mg b < infR) :
   ∃ m e, Ieee.double.read b = .number (sg b) m e ∧ -1074 ≤ e ∧ m * 2 ^ (e + 1074).toNat = rv (mg b) := by
 have e : Ieee.double.signWeight = 9223372036854775808 := rfl
 have e1 : Ieee.double.binade = 4503599627370496 := rfl
 have e2 : Ieee.double.infRung = 9218868437227405312 := rfl
 have e3 : Ieee.double.leastPlace = -1074 := rfl
 unfold Ieee.Format.read
 simp only [sg_bit hb]
 rw [e, e1, e2, e3]
 have hm : b % 9223372036854775808 = mg b := rfl
 rw [hm]
 unfold infR at h
 generalize mg b = r at *
 by_cases h1 : r < 4503599627370496
 · rw [if_pos h1]
   exact ⟨r, -1074, rfl, by omega, by simp [rv, h1]⟩
 · rw [if_neg h1, if_pos h]
   refine ⟨_, _, rfl, by omega, ?_⟩
   unfold rv
   rw [if_neg h1]
   congr 2
   omega
theorem read_inf {b : Nat} (hb : b < 18446744073709551616) (h : mg b = infR) : Ieee.double.read b = .infinity (sg b) := by
 have e : Ieee.double.signWeight = 9223372036854775808 := rfl
 have e1 : Ieee.double.binade = 4503599627370496 := rfl
 have e2 : Ieee.double.infRung = 9218868437227405312 := rfl
 unfold Ieee.Format.read
 simp only [sg_bit hb]
 rw [e, e1, e2]
 have hm : b % 9223372036854775808 = mg b := rfl
 rw [hm, h]
 rfl
theorem read_nan {b : Nat} (hb : b < 18446744073709551616) (h : infR < mg b) : Ieee.double.read b = .nan (sg b) (mg b - infR) := by
 have e : Ieee.double.signWeight = 9223372036854775808 := rfl
 have e1 : Ieee.double.binade = 4503599627370496 := rfl
 have e2 : Ieee.double.infRung = 9218868437227405312 := rfl
 unfold Ieee.Format.read
 simp only [sg_bit hb]
 rw [e, e1, e2]
 have hm : b % 9223372036854775808 = mg b := rfl
 rw [hm]
 unfold infR at *
 rw [if_neg (by omega), if_neg (by omega), if_neg (by omega)]
theorem signed_mul (neg : Bool) (m up c : Nat) : Ieee.signed neg m up * (2 ^ c : Nat) = if neg then -((m * 2 ^ (up + c) : Nat) : Int) else ((m * 2 ^ (up + c) : Nat) : Int) := by
 unfold Ieee.signed
 rw [Nat.shiftLeft_eq, Nat.pow_add, ← Nat.mul_assoc]
 cases neg
 · simp
 · simp only [if_true, Int.neg_mul, Int.natCast_mul]
theorem signed_units {b m : Nat} {e base : Int} (he : -1074 ≤ base) (hbe : base ≤ e) (hv : m * 2 ^ (e + 1074).toNat = rv (mg b)) :
   Ieee.signed (sg b) m (e - base).toNat * (2 ^ (base + 1074).toNat : Nat) = sv b := by
 rw [signed_mul, show (e - base).toNat + (base + 1074).toNat = (e + 1074).toNat by omega, hv]
 rfl
def sumPat (neg : Bool) (S : Int) : Nat := if S = 0 then Ieee.double.word neg 0 else Ieee.double.word (decide (S < 0)) (near (4 * S.natAbs))
theorem add_fin {x y : Nat} (hx : x < 18446744073709551616) (hy : y < 18446744073709551616) (fx : mg x < infR) (fy : mg y < infR) :
   Ieee.double.add x y = some (sumPat (sg x && sg y) (sv x + sv y)) := by
 obtain ⟨m, i, e1, hi, v1⟩ := read_fin hx fx
 obtain ⟨n, j, e2, hj, v2⟩ := read_fin hy fy
 unfold Ieee.Format.add
 rw [e1, e2]
 simp only [Ieee.Datum.sum, Option.map_some]
 congr 1
 have s1 := signed_units (b := x) (m := m) (e := i) (base := min i j) (by omega) (by omega) v1
 have s2 := signed_units (b := y) (m := n) (e := j) (base := min i j) (by omega) (by omega) v2
 generalize hT : Ieee.signed (sg x) m (i - min i j).toNat + Ieee.signed (sg y) n (j - min i j).toNat = T
 have hS : T * (2 ^ (min i j + 1074).toNat : Nat) = sv x + sv y := by
   rw [← hT, Int.add_mul, s1, s2]
 have hp : 0 < 2 ^ (min i j + 1074).toNat := two_pow_pos _
 generalize hP : 2 ^ (min i j + 1074).toNat = p at *
 have hz : T = 0 ↔ sv x + sv y = 0 := by
   rw [← hS]
   constructor
   · intro h; rw [h, Int.zero_mul]
   · intro h
     rcases Int.mul_eq_zero.1 h with h | h
     · exact h
     · omega
 have hneg : T < 0 ↔ sv x + sv y < 0 := by
   rw [← hS]
   constructor
   · intro h
     exact Int.mul_neg_of_neg_of_pos h (by omega)
   · intro h
     rcases Int.lt_or_le T 0 with h' | h'
     · exact h'
     · have := Int.mul_nonneg h' (show (0 : Int) ≤ (p : Int) by omega)
       omega
 unfold sumPat Ieee.Format.write
 simp only
 rw [nearest_eq, near_eq]
 have hza : zd T.natAbs (min i j) = 4 * (sv x + sv y).natAbs := by
   rw [zd_units (S := (sv x + sv y).natAbs) (by omega)]
   rw [← hS, Int.natAbs_mul, Int.natAbs_natCast, hP]
 rw [hza]
 by_cases h0 : sv x + sv y = 0
 · rw [if_pos (hz.2 h0), if_pos h0, h0]
   rfl
 · rw [if_neg (fun h => h0 (hz.1 h)), if_neg h0]
   congr 1
   exact decide_eq_decide.2 hneg
theorem mul_fin {x y : Nat} (hx : x < 18446744073709551616) (hy : y < 18446744073709551616) (fx : mg x < infR) (fy : mg y < infR) :
   Ieee.double.mul x y = some (Ieee.double.word (sg x ^^ sg y) (near (zq (rv (mg x) * rv (mg y)) (2 ^ 1073)))) := by
 obtain ⟨m, i, e1, hi, v1⟩ := read_fin hx fx
 obtain ⟨n, j, e2, hj, v2⟩ := read_fin hy fy
 unfold Ieee.Format.mul
 rw [e1, e2]
 simp only [Ieee.Datum.product, Option.map_some]
 congr 1
 unfold Ieee.Format.write
 simp only
 rw [nearest_eq, near_eq]
 congr 2
 rw [zd_of (A := (i + 1074).toNat + (j + 1074).toNat) (B := 1073) (by omega), Nat.pow_add, ← v1, ← v2]
 congr 1
 rw [Nat.mul_mul_mul_comm]
theorem rv_key (b : Nat) : ∀ c, (sv b < sv c ↔ key b < key c) ∧ (sv b = sv c ↔ key b = key c) := by
 intro c
 unfold sv key
 have h1 := rv_lt_iff (a := mg b) (b := mg c)
 have h2 := rv_lt_iff (a := mg c) (b := mg b)
 have h3 : rv (mg b) = 0 ↔ mg b = 0 := rv_eq_zero
 have h4 : rv (mg c) = 0 ↔ mg c = 0 := rv_eq_zero
 have h5 : rv (mg b) = rv (mg c) ↔ mg b = mg c := ⟨rv_inj, fun h => by rw [h]⟩
 split <;> split <;> constructor <;> omega
theorem compare_int (a b : Int) : compare a b = if a < b then .lt else if a = b then .eq else .gt := rfl
def ord (x y : Nat) : Option Ordering := if infR < mg x ∨ infR < mg y then none else some (if key x < key y then .lt else if key x = key y then .eq else .gt)
theorem compare_pos {a b : Int} {p : Nat} (hp : 0 < p) : compare a b = compare (a * (p : Int)) (b * (p : Int)) := by
 rw [compare_int, compare_int]
 have h1 : a * (p : Int) < b * (p : Int) ↔ a < b := Int.mul_lt_mul_right (by omega)
 have h2 : a * (p : Int) = b * (p : Int) ↔ a = b := Int.mul_eq_mul_right_iff (by omega)
 simp only [h1, h2]
theorem order_eq {x y : Nat} (hx : x < 18446744073709551616) (hy : y < 18446744073709551616) : Ieee.double.order x y = ord x y := by
 unfold Ieee.Format.order ord
 rcases Nat.lt_trichotomy (mg x) infR with fx | fx | fx
 · obtain ⟨m, i, e1, hi, v1⟩ := read_fin hx fx
   rcases Nat.lt_trichotomy (mg y) infR with fy | fy | fy
   · obtain ⟨n, j, e2, hj, v2⟩ := read_fin hy fy
     rw [e1, e2, if_neg (by omega)]
     simp only [Ieee.Datum.order]
     have s1 := signed_units (b := x) (m := m) (e := i) (base := min i j) (by omega) (by omega) v1
     have s2 := signed_units (b := y) (m := n) (e := j) (base := min i j) (by omega) (by omega) v2
     rw [compare_pos (two_pow_pos (min i j + 1074).toNat), s1, s2, compare_int]
     obtain ⟨k1, k2⟩ := rv_key x y
     simp only [k1, k2]
   · rw [e1, read_inf hy fy, if_neg (by omega)]
     simp only [Ieee.Datum.order]
     congr 1
     unfold key
     rw [fy]
     cases sg x <;> cases sg y <;> simp <;> (try split) <;> (try split) <;> (first | rfl | omega)
   · rw [e1, read_nan hy fy, if_pos (Or.inr fy)]
     rfl
 · rcases Nat.lt_trichotomy (mg y) infR with fy | fy | fy
   · obtain ⟨n, j, e2, hj, v2⟩ := read_fin hy fy
     rw [read_inf hx fx, e2, if_neg (by omega)]
     simp only [Ieee.Datum.order]
     congr 1
     unfold key
     rw [fx]
     cases sg x <;> cases sg y <;> simp <;> (try split) <;> (try split) <;> (first | rfl | omega)
   · rw [read_inf hx fx, read_inf hy fy, if_neg (by omega)]
     simp only [Ieee.Datum.order]
     unfold key
     rw [fx, fy]
     cases sg x <;> cases sg y <;> rfl
   · rw [read_inf hx fx, read_nan hy fy, if_pos (Or.inr fy)]
     rfl
 · rw [read_nan hx fx, if_pos (Or.inl fx)]
   rfl
end Go.Proofs.YtbcaggdgoidlaaaGreatDoor.Rn
