/-
  Rounding to binary64, in plain naturals: the rungs, their numbers, and the rung to which a number is rounded in a direction.
  Plain arithmetic: no program is in sight. Conditions: none but those that each theorem names.
-/
set_option linter.unusedVariables false
set_option linter.unusedSimpArgs false
namespace Go.Proofs.Ytcimfccjcikemaa.Rn

/-- The number of a rung, in units of 2^-1074; no end above. -/
def rv (k : Nat) : Nat := if k < 4503599627370496 then k else (4503599627370496 + k % 4503599627370496) * 2 ^ (k / 4503599627370496 - 1)

/-- From a rung to the next one. -/
def ulp (k : Nat) : Nat := 2 ^ (k / 4503599627370496 - 1)

theorem rv_small {k : Nat} (h : k ≤ 9007199254740992) : rv k = k := by
  unfold rv
  split
  · rfl
  · rename_i hk
    by_cases e : k = 9007199254740992
    · subst e; rfl
    · have h1 : k / 4503599627370496 = 1 := by omega
      rw [h1]
      simp only [Nat.sub_self, Nat.pow_zero, Nat.mul_one]
      omega

theorem rv_form (u s : Nat) (hs : s ≤ 9007199254740992) (hu : u ≠ 0 → 4503599627370496 ≤ s) : rv (u * 4503599627370496 + s) = s * 2 ^ u := by
  by_cases h0 : u = 0
  · subst h0
    simp only [Nat.zero_mul, Nat.zero_add, Nat.pow_zero, Nat.mul_one]
    exact rv_small hs
  · have h1 := hu h0
    unfold rv
    rw [if_neg (by omega)]
    by_cases e : s = 9007199254740992
    · subst e
      have a : (u * 4503599627370496 + 9007199254740992) / 4503599627370496 = u + 2 := by omega
      have b : (u * 4503599627370496 + 9007199254740992) % 4503599627370496 = 0 := by omega
      rw [a, b, show u + 2 - 1 = u + 1 by omega, Nat.pow_succ]
      omega
    · have a : (u * 4503599627370496 + s) / 4503599627370496 = u + 1 := by omega
      have b : (u * 4503599627370496 + s) % 4503599627370496 = s - 4503599627370496 := by omega
      rw [a, b, show u + 1 - 1 = u by omega, show 4503599627370496 + (s - 4503599627370496) = s by omega]

theorem ulp_form (u s : Nat) (hs : s < 9007199254740992) (hu : u ≠ 0 → 4503599627370496 ≤ s) : ulp (u * 4503599627370496 + s) = 2 ^ u := by
  unfold ulp
  by_cases h0 : u = 0
  · subst h0
    have : (0 * 4503599627370496 + s) / 4503599627370496 - 1 = 0 := by omega
    rw [this]
  · have h1 := hu h0
    have a : (u * 4503599627370496 + s) / 4503599627370496 = u + 1 := by omega
    rw [a, show u + 1 - 1 = u by omega]

/-- Every rung has a form. -/
theorem form (k : Nat) : ∃ u s, k = u * 4503599627370496 + s ∧ s < 9007199254740992 ∧ (u ≠ 0 → 4503599627370496 ≤ s) := by
  by_cases h : k < 9007199254740992
  · exact ⟨0, k, by omega, h, fun h => absurd rfl h⟩
  · exact ⟨k / 4503599627370496 - 1, 4503599627370496 + k % 4503599627370496, by omega, by omega, fun _ => by omega⟩

theorem two_pow_pos (u : Nat) : 0 < 2 ^ u := Nat.pow_pos (by omega)

theorem rv_succ (k : Nat) : rv (k + 1) = rv k + ulp k := by
  obtain ⟨u, s, rfl, hs, hu⟩ := form k
  rw [rv_form u s (by omega) hu, ulp_form u s hs hu, Nat.add_assoc, rv_form u (s + 1) (by omega) (fun h => by have := hu h; omega), Nat.add_mul, Nat.one_mul]

theorem ulp_pos (k : Nat) : 0 < ulp k := two_pow_pos _

theorem rv_lt_succ (k : Nat) : rv k < rv (k + 1) := by
  have := rv_succ k
  have := ulp_pos k
  omega

theorem rv_lt {a b : Nat} (h : a < b) : rv a < rv b := by
  induction b with
  | zero => omega
  | succ b ih =>
    have h1 := rv_lt_succ b
    by_cases e : a = b
    · subst e; exact h1
    · have := ih (by omega)
      omega

theorem rv_le {a b : Nat} (h : a ≤ b) : rv a ≤ rv b := by
  by_cases e : a = b
  · subst e; exact Nat.le_refl _
  · have := rv_lt (show a < b by omega)
    omega

theorem rv_lt_iff {a b : Nat} : rv a < rv b ↔ a < b := by
  constructor
  · intro h
    rcases Nat.lt_or_ge a b with h1 | h1
    · exact h1
    · have := rv_le h1; omega
  · exact rv_lt

theorem rv_le_iff {a b : Nat} : rv a ≤ rv b ↔ a ≤ b := by
  constructor
  · intro h
    rcases Nat.lt_or_ge b a with h1 | h1
    · have := rv_lt h1; omega
    · exact h1
  · exact rv_le

theorem rv_inj {a b : Nat} (h : rv a = rv b) : a = b := by
  have h1 := rv_le_iff.1 (Nat.le_of_eq h)
  have h2 := rv_le_iff.1 (Nat.le_of_eq h.symm)
  omega

theorem rv_zero : rv 0 = 0 := rfl
theorem rv_eq_zero {k : Nat} : rv k = 0 ↔ k = 0 := ⟨fun h => rv_inj (h.trans rv_zero.symm), fun h => by subst h; rfl⟩

/-- The greatest rung whose number is at most Q. -/
def rung (Q : Nat) : Nat := if Q < 9007199254740992 then Q else (Q.log2 - 52) * 4503599627370496 + Q / 2 ^ (Q.log2 - 52)

theorem rung_form {Q u s : Nat} (hs : s < 9007199254740992) (hu : u ≠ 0 → 4503599627370496 ≤ s) (h1 : s * 2 ^ u ≤ Q) (h2 : Q < (s + 1) * 2 ^ u) :
    rung Q = u * 4503599627370496 + s := by
  unfold rung
  by_cases h0 : u = 0
  · subst h0
    simp only [Nat.pow_zero, Nat.mul_one] at h1 h2
    rw [if_pos (by omega)]
    omega
  · have h3 := hu h0
    have hp := two_pow_pos u
    have h4 : 4503599627370496 * 2 ^ u ≤ Q := Nat.le_trans (Nat.mul_le_mul_right _ h3) h1
    have h5 : Q < 9007199254740992 * 2 ^ u := Nat.lt_of_lt_of_le h2 (Nat.mul_le_mul_right _ (by omega))
    have hu1 : 2 ≤ 2 ^ u := by
      have := Nat.pow_le_pow_right (n := 2) (by omega) (show 1 ≤ u by omega)
      simpa using this
    have hQ : Q ≠ 0 := by omega
    have hl : Q.log2 = u + 52 := by
      refine (Nat.log2_eq_iff hQ).2 ⟨?_, ?_⟩
      · rw [Nat.pow_add, Nat.mul_comm]; exact h4
      · rw [show u + 52 + 1 = u + 53 by omega, Nat.pow_add, Nat.mul_comm]; exact h5
    rw [if_neg (by omega), hl, show u + 52 - 52 = u by omega]
    have : Q / 2 ^ u = s := by
      refine Nat.div_eq_of_lt_le h1 h2
    rw [this]

theorem rung_of_rv (k : Nat) {Q : Nat} (h1 : rv k ≤ Q) (h2 : Q < rv (k + 1)) : rung Q = k := by
  obtain ⟨u, s, rfl, hs, hu⟩ := form k
  rw [rv_form u s (by omega) hu] at h1
  rw [Nat.add_assoc, rv_form u (s + 1) (by omega) (fun h => by have := hu h; omega)] at h2
  exact rung_form hs hu h1 h2

theorem exists_rung (Q : Nat) : ∃ k, rv k ≤ Q ∧ Q < rv (k + 1) := by
  induction Q with
  | zero => exact ⟨0, by simp [rv_zero], by rw [rv_small (by omega)]; omega⟩
  | succ Q ih =>
    obtain ⟨k, h1, h2⟩ := ih
    by_cases h : Q + 1 < rv (k + 1)
    · exact ⟨k, by omega, h⟩
    · have := rv_lt_succ (k + 1)
      exact ⟨k + 1, by omega, by omega⟩

theorem rung_spec (Q : Nat) : rv (rung Q) ≤ Q ∧ Q < rv (rung Q + 1) := by
  obtain ⟨k, h1, h2⟩ := exists_rung Q
  rw [rung_of_rv k h1 h2]
  exact ⟨h1, h2⟩

theorem le_rung_iff {k Q : Nat} : k ≤ rung Q ↔ rv k ≤ Q := by
  have h := rung_spec Q
  constructor
  · intro hk
    have := rv_le hk
    omega
  · intro hk
    have : rv k < rv (rung Q + 1) := by omega
    have := rv_lt_iff.1 this
    omega

theorem rung_mono {a b : Nat} (h : a ≤ b) : rung a ≤ rung b := le_rung_iff.2 (Nat.le_trans (rung_spec a).1 h)
theorem rung_rv (k : Nat) : rung (rv k) = k := rung_of_rv k (Nat.le_refl _) (rv_lt_succ k)

/-- +Inf, as a rung. -/
def infR : Nat := 9218868437227405312

/-- Is the number that Z tells of rounded away from 0? Z: twice the whole part of the number in units of 2^-1075, and 1 more where something is left. -/
def away (d : Int) (neg : Bool) (Z : Nat) : Bool :=
  if Z = 4 * rv (rung (Z / 4)) then false
  else if d = 1 then !neg
  else if d = -1 then neg
  else decide (2 * (rv (rung (Z / 4)) + rv (rung (Z / 4) + 1)) < Z) || (decide (Z = 2 * (rv (rung (Z / 4)) + rv (rung (Z / 4) + 1))) && decide (rung (Z / 4) % 2 = 1))

/-- The rung to which it is rounded. -/
def rr (d : Int) (neg : Bool) (Z : Nat) : Nat :=
  if (d = 1 ∧ neg = true) ∨ (d = -1 ∧ neg = false) then min (rung (Z / 4)) (infR - 1)
  else min (if away d neg Z then rung (Z / 4) + 1 else rung (Z / 4)) infR

/-- The pattern of a rung with a sign; -0 is 0. -/
def pat (neg : Bool) (r : Nat) : Nat := if r = 0 then 0 else if neg then 9223372036854775808 + r else r

/-- The pattern of the number, rounded. -/
def rnd (d : Int) (neg : Bool) (Z : Nat) : Nat := pat neg (rr d neg Z)

/-- What a Z has to be: of a number N by m, in units of 2^-1075. -/
def zq (N m : Nat) : Nat := 2 * (N / m) + (if N % m = 0 then 0 else 1)

/-- 2^1075. -/
def K75 : Nat := 2 ^ 1075
theorem K75_pos : 0 < K75 := by
  unfold K75
  exact two_pow_pos 1075
theorem K75_def : K75 = 2 ^ 1075 := by
  unfold K75
  exact Eq.refl _
attribute [irreducible] K75

/-- Z of a ratio. -/
def zr (n m : Nat) : Nat := zq (n * K75) m

theorem zr_eq (n m : Nat) : zr n m = zq (n * K75) m := rfl

theorem zq_le {N m T : Nat} (hm : 0 < m) : 2 * T ≤ zq N m ↔ T * m ≤ N := by
  unfold zq
  have h := Nat.div_add_mod N m
  have hl := Nat.mod_lt N hm
  rw [← Nat.le_div_iff_mul_le hm]
  split <;> omega

theorem zq_eq {N m T : Nat} (hm : 0 < m) : zq N m = 2 * T ↔ N = T * m := by
  unfold zq
  have h := Nat.div_add_mod N m
  constructor
  · intro e
    split at e
    · rename_i h0
      have : N / m = T := by omega
      rw [← h, this, h0, Nat.mul_comm]; rfl
    · omega
  · intro e
    subst e
    rw [Nat.mul_mod_left, Nat.mul_div_cancel _ hm]
    simp

theorem zq_lt {N m T : Nat} (hm : 0 < m) : zq N m < 2 * T ↔ N < T * m := by
  have := zq_le (N := N) (T := T) hm
  omega

theorem zq_gt {N m T : Nat} (hm : 0 < m) : 2 * T < zq N m ↔ T * m < N := by
  have h1 := zq_le (N := N) (T := T) hm
  have h2 := zq_eq (N := N) (T := T) hm
  constructor
  · intro h
    have h3 := h1.1 (by omega)
    have h4 : N ≠ T * m := fun e => by have := h2.2 e; omega
    omega
  · intro h
    have h3 := h1.2 (by omega)
    have h4 : zq N m ≠ 2 * T := fun e => by have := h2.1 e; omega
    omega

theorem zq_mono {N m N' m' : Nat} (hm : 0 < m) (hm' : 0 < m') (h : N * m' ≤ N' * m) : zq N m ≤ zq N' m' := by
  -- every even number below, and the odd one between
  rcases Nat.lt_or_ge (zq N' m') (zq N m) with hlt | hge
  · exfalso
    by_cases hev : zq N m % 2 = 0
    · have e1 : zq N m = 2 * (zq N m / 2) := by omega
      have h1 := (zq_eq hm).1 e1
      have h2 : zq N' m' < 2 * (zq N m / 2) := by omega
      have h3 := (zq_lt hm').1 h2
      generalize zq N m / 2 = T at *
      have h4 : N' * m < T * m' * m := Nat.mul_lt_mul_of_pos_right h3 hm
      rw [h1] at h
      rw [Nat.mul_right_comm] at h4
      omega
    · have e1 : zq N m = 2 * (zq N m / 2) + 1 := by omega
      have h1 : 2 * (zq N m / 2) < zq N m := by omega
      have h1 := (zq_gt hm).1 h1
      have h2 : ¬ 2 * (zq N m / 2) < zq N' m' := by omega
      have h3 : ¬ _ := fun hh => h2 ((zq_gt hm').2 hh)
      generalize zq N m / 2 = T at *
      have h4 : N' * m ≤ T * m' * m := Nat.mul_le_mul_right _ (by omega)
      have h5 : T * m * m' < N * m' := Nat.mul_lt_mul_of_pos_right h1 hm'
      rw [Nat.mul_right_comm] at h5
      omega
  · exact hge

theorem zq_congr {N m N' m' : Nat} (hm : 0 < m) (hm' : 0 < m') (h : N * m' = N' * m) : zq N m = zq N' m' :=
  Nat.le_antisymm (zq_mono hm hm' (Nat.le_of_eq h)) (zq_mono hm' hm (Nat.le_of_eq h.symm))

theorem zr_mono {n m n' m' : Nat} (hm : 0 < m) (hm' : 0 < m') (h : n * m' ≤ n' * m) : zr n m ≤ zr n' m' := by
  rw [zr_eq, zr_eq]
  refine zq_mono hm hm' ?_
  rw [Nat.mul_right_comm, Nat.mul_right_comm n']
  exact Nat.mul_le_mul_right _ h

theorem zr_congr {n m n' m' : Nat} (hm : 0 < m) (hm' : 0 < m') (h : n * m' = n' * m) : zr n m = zr n' m' :=
  Nat.le_antisymm (zr_mono hm hm' (Nat.le_of_eq h)) (zr_mono hm' hm (Nat.le_of_eq h.symm))

/-- Z, where the number lies between two neighbours s and s + 1 of place u. -/
theorem rung_Z {Z u s : Nat} (hs : s < 9007199254740992) (hu : u ≠ 0 → 4503599627370496 ≤ s) (h1 : 4 * (s * 2 ^ u) ≤ Z) (h2 : Z < 4 * ((s + 1) * 2 ^ u)) :
    rung (Z / 4) = u * 4503599627370496 + s ∧ rv (rung (Z / 4)) = s * 2 ^ u ∧ rv (rung (Z / 4) + 1) = s * 2 ^ u + 2 ^ u := by
  have hr : rung (Z / 4) = u * 4503599627370496 + s := rung_form hs hu (by omega) (by omega)
  rw [hr, rv_succ, rv_form u s (by omega) hu, ulp_form u s hs hu]
  exact ⟨rfl, rfl, rfl⟩

theorem zr_zero (m : Nat) : zr 0 m = 0 := by simp [zr, zq]
theorem rung_zero : rung 0 = 0 := by simp [rung]

theorem rr_zero (d : Int) (neg : Bool) : rr d neg 0 = 0 := by
  simp [rr, rung_zero, away, rv_zero]

theorem rnd_zero (d : Int) (neg : Bool) : rnd d neg 0 = 0 := by
  simp [rnd, rr_zero, pat]

end Go.Proofs.Ytcimfccjcikemaa.Rn
