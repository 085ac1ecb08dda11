/-
  Plain: the nearest number of 53 bits to a whole number. Conditions: those that each theorem names.
-/
import Derived.Test.YtfbjeifhpmdjaaaGreatP03
set_option linter.unusedVariables false

namespace Go.Proofs.YtfbjeifhpmdjaaaGreat.Rn

/-- The nearest rung, without a greatest one. -/
def nr (Q : Nat) : Nat := if away 0 false (4 * Q) then rung Q + 1 else rung Q
theorem near_nr (Q : Nat) : near (4 * Q) = min (nr Q) infR := by
  unfold near rr nr
  rw [show 4 * Q / 4 = Q by omega, if_neg (by omega)]

/-- The exponent of the last place. -/
def ex (Q : Nat) : Nat := rung Q / 4503599627370496 - 1

theorem ex_form (Q : Nat) : ∃ s, rung Q = ex Q * 4503599627370496 + s ∧ s < 9007199254740992 ∧ (ex Q ≠ 0 → 4503599627370496 ≤ s) := by
  obtain ⟨u, s, h1, h2, h3⟩ := form (rung Q)
  have e : ex Q = u := by
    unfold ex
    by_cases h0 : u = 0
    · subst h0; omega
    · have := h3 h0; omega
  rw [e]
  exact ⟨s, h1, h2, h3⟩
theorem ulp_ex (Q : Nat) : ulp (rung Q) = 2 ^ ex Q := rfl
theorem rv_dvd (k : Nat) : ∃ s, rv k = s * 2 ^ (k / 4503599627370496 - 1) ∧ rv (k + 1) = (s + 1) * 2 ^ (k / 4503599627370496 - 1) ∧ s < 9007199254740992 ∧ (k / 4503599627370496 - 1 ≠ 0 → 4503599627370496 ≤ s) := by
  obtain ⟨u, s, h1, h2, h3⟩ := form k
  have e : k / 4503599627370496 - 1 = u := by
    by_cases h0 : u = 0
    · subst h0; omega
    · have := h3 h0; omega
  rw [e, h1]
  refine ⟨s, rv_form u s (by omega) h3, ?_, h2, h3⟩
  rw [rv_succ, rv_form u s (by omega) h3, ulp_form u s h2 h3, Nat.add_mul, Nat.one_mul]
theorem ex_spec (Q : Nat) : ∃ s, rv (rung Q) = s * 2 ^ ex Q ∧ rv (rung Q + 1) = (s + 1) * 2 ^ ex Q ∧ s < 9007199254740992 ∧ (ex Q ≠ 0 → 4503599627370496 ≤ s) := rv_dvd (rung Q)
theorem ex_hi (Q : Nat) : Q < 9007199254740992 * 2 ^ ex Q := by
  obtain ⟨s, h1, h2, h3, h4⟩ := ex_spec Q
  have h5 := (rung_spec Q).2
  rw [h2] at h5
  exact Nat.lt_of_lt_of_le h5 (Nat.mul_le_mul_right _ (by omega))
theorem ex_lo {Q : Nat} (h : ex Q ≠ 0) : 4503599627370496 * 2 ^ ex Q ≤ Q := by
  obtain ⟨s, h1, h2, h3, h4⟩ := ex_spec Q
  have h5 := (rung_spec Q).1
  rw [h1] at h5
  exact Nat.le_trans (Nat.mul_le_mul_right _ (h4 h)) h5
theorem ex_mono {P Q : Nat} (h : P ≤ Q) : ex P ≤ ex Q := by
  have := rung_mono h
  unfold ex
  omega
theorem pow_mono {a b : Nat} (h : a ≤ b) : 2 ^ a ≤ 2 ^ b := Nat.pow_le_pow_right (by omega) h
theorem ex_le {Q u : Nat} (h : Q < 9007199254740992 * 2 ^ u) : ex Q ≤ u := by
  rcases Nat.lt_or_ge u (ex Q) with h1 | h1
  · exfalso
    have h2 := ex_lo (Q := Q) (by omega)
    have h3 := pow_mono (show u + 1 ≤ ex Q by omega)
    rw [two_pow_s] at h3
    omega
  · exact h1
theorem ex_gt {Q u : Nat} (h : 9007199254740992 * 2 ^ u ≤ Q) : u < ex Q := by
  rcases Nat.lt_or_ge u (ex Q) with h1 | h1
  · exact h1
  · exfalso
    have h2 := ex_hi Q
    have h3 := pow_mono h1
    have := Nat.mul_le_mul_left 9007199254740992 h3
    omega

/-- Is it a number of 53 bits? -/
def Rp (Q : Nat) : Prop := ∃ k, rv k = Q
theorem Rp.zero : Rp 0 := ⟨0, rv_zero⟩
theorem Rp.mk {m : Nat} (u : Nat) (hm : m ≤ 9007199254740992) : Rp (m * 2 ^ u) := by
  induction u generalizing m with
  | zero => exact ⟨m, by rw [rv_small hm, Nat.pow_zero, Nat.mul_one]⟩
  | succ u ih =>
    by_cases h : m < 4503599627370496
    · have := ih (m := 2 * m) (by omega)
      rwa [Nat.mul_comm 2 m, Nat.mul_assoc, ← two_pow_s] at this
    · exact ⟨_, rv_form (u + 1) m hm (fun _ => by omega)⟩
theorem Rp.rung {Q : Nat} (h : Rp Q) : rv (rung Q) = Q := by
  obtain ⟨k, rfl⟩ := h
  rw [rung_rv]
theorem Rp.dvd {Q : Nat} (h : Rp Q) : 2 ^ ex Q ∣ Q := by
  obtain ⟨s, h1, -⟩ := ex_spec Q
  rw [h.rung] at h1
  exact ⟨s, by rw [Nat.mul_comm]; exact h1⟩
theorem pow_dvd {a b : Nat} (h : a ≤ b) : 2 ^ a ∣ 2 ^ b := Nat.pow_dvd_pow 2 h
theorem Rp.dvd_of {P Q : Nat} (hQ : Rp Q) (h : P ≤ Q) : 2 ^ ex P ∣ Q := Nat.dvd_trans (pow_dvd (ex_mono h)) hQ.dvd
theorem Rp.of_dvd {Q u : Nat} (h : 2 ^ u ∣ Q) (hq : Q ≤ 9007199254740992 * 2 ^ u) : Rp Q := by
  obtain ⟨m, rfl⟩ := h
  rw [Nat.mul_comm]
  refine Rp.mk u ?_
  rw [Nat.mul_comm] at hq
  exact Nat.le_of_mul_le_mul_right hq (two_pow_pos u)

theorem nr_cases (Q : Nat) : (nr Q = rung Q ∧ 2 * Q ≤ rv (rung Q) + rv (rung Q + 1)) ∨ (nr Q = rung Q + 1 ∧ rv (rung Q) + rv (rung Q + 1) ≤ 2 * Q) := by
  unfold nr away
  have h := rung_spec Q
  rw [show 4 * Q / 4 = Q by omega]
  by_cases h1 : 4 * Q = 4 * rv (rung Q)
  · rw [if_pos h1]
    exact .inl ⟨rfl, by omega⟩
  · rw [if_neg h1, if_neg (show ¬ (0 : Int) = 1 by omega), if_neg (show ¬ (0 : Int) = -1 by omega)]
    by_cases h2 : 2 * (rv (rung Q) + rv (rung Q + 1)) < 4 * Q
    · rw [decide_eq_true h2]
      exact .inr ⟨rfl, by omega⟩
    · rw [decide_eq_false h2]
      by_cases h3 : 4 * Q = 2 * (rv (rung Q) + rv (rung Q + 1))
      · rw [decide_eq_true h3]
        by_cases h4 : rung Q % 2 = 1
        · rw [decide_eq_true h4]; exact .inr ⟨rfl, by omega⟩
        · rw [decide_eq_false h4]; exact .inl ⟨rfl, by omega⟩
      · rw [decide_eq_false h3]
        exact .inl ⟨rfl, by omega⟩
theorem nr_rv (k : Nat) : nr (rv k) = k := by
  unfold nr away
  rw [show 4 * rv k / 4 = rv k by omega, rung_rv, if_pos rfl]
  rfl
theorem nr_mono {P Q : Nat} (h : P ≤ Q) : nr P ≤ nr Q := by
  have hr := rung_mono h
  rcases nr_cases P with ⟨h1, h2⟩ | ⟨h1, h2⟩
  · rcases nr_cases Q with ⟨h3, h4⟩ | ⟨h3, h4⟩ <;> omega
  · rcases nr_cases Q with ⟨h3, h4⟩ | ⟨h3, h4⟩
    · rcases Nat.lt_or_ge (rung P) (rung Q) with h5 | h5
      · omega
      · -- the same rung, P above the middle, Q not above it
        have e : rung P = rung Q := by omega
        rw [e] at h2
        have e2 : P = Q := by omega
        rw [e2]; omega
    · omega

/-- The nearest number of 53 bits to a whole number, with its sign. -/
def rn (S : Int) : Int := if S < 0 then -(rv (nr S.natAbs) : Int) else (rv (nr S.natAbs) : Int)
def RpZ (S : Int) : Prop := Rp S.natAbs
theorem RpZ.neg {S : Int} (h : RpZ S) : RpZ (-S) := by unfold RpZ; rw [Int.natAbs_neg]; exact h
theorem RpZ.zero : RpZ 0 := Rp.zero
theorem rn_zero : rn 0 = 0 := by
  have h := nr_rv 0
  rw [rv_zero] at h
  unfold rn
  simp [h, rv_zero]
theorem rn_neg (S : Int) : rn (-S) = -rn S := by
  rcases Int.lt_trichotomy S 0 with h | h | h
  · unfold rn; rw [if_neg (by omega), if_pos h, Int.natAbs_neg]; omega
  · subst h; rw [Int.neg_zero, rn_zero]; rfl
  · unfold rn; rw [if_pos (by omega), if_neg (by omega), Int.natAbs_neg]
theorem rn_nat (Q : Nat) : rn (Q : Int) = (rv (nr Q) : Int) := by
  unfold rn; rw [if_neg (by omega), Int.natAbs_natCast]
theorem rn_abs (S : Int) : (rn S).natAbs = rv (nr S.natAbs) := by
  unfold rn; split <;> omega
theorem rn_rp (S : Int) : RpZ (rn S) := by unfold RpZ; rw [rn_abs]; exact ⟨_, rfl⟩
/-- What is said of a whole number that is not below 0, and of its negative, is said of each. -/
theorem by_sign {C : Int → Prop} (h1 : ∀ Q : Nat, C Q) (h2 : ∀ S, C S → C (-S)) (S : Int) : C S := by
  obtain ⟨n, rfl | rfl⟩ := Int.eq_nat_or_neg S
  · exact h1 n
  · exact h2 _ (h1 n)
theorem rn_of {S : Int} (h : RpZ S) : rn S = S := by
  revert h
  refine by_sign (C := fun S => RpZ S → rn S = S) (fun Q h => ?_) (fun S ih h => ?_) S
  · obtain ⟨k, hk⟩ := h
    rw [Int.natAbs_natCast] at hk
    rw [rn_nat, ← hk, nr_rv]
  · rw [rn_neg, ih (by have := h.neg; rwa [Int.neg_neg] at this)]
/-- No number of 53 bits is nearer. -/
theorem nr_near (Q k : Nat) : ((rv (nr Q) : Int) - Q).natAbs ≤ ((rv k : Int) - Q).natAbs := by
  have h := rung_spec Q
  have h5 : k ≤ rung Q ∨ rung Q + 1 ≤ k := by omega
  rcases h5 with h5 | h5
  · have h6 := rv_le h5
    rcases nr_cases Q with ⟨h3, h4⟩ | ⟨h3, h4⟩ <;> rw [h3] <;> omega
  · have h6 := rv_le h5
    rcases nr_cases Q with ⟨h3, h4⟩ | ⟨h3, h4⟩ <;> rw [h3] <;> omega
theorem rn_near (S : Int) {g : Int} (hg : RpZ g) : (rn S - S).natAbs ≤ (g - S).natAbs := by
  revert g
  refine by_sign (C := fun S => ∀ {g : Int}, RpZ g → (rn S - S).natAbs ≤ (g - S).natAbs) (fun Q g hg => ?_) (fun S ih g hg => ?_) S
  · rw [rn_nat]
    obtain ⟨k, hk⟩ := hg
    rcases Int.lt_or_le g 0 with h | h
    · have := nr_near Q 0
      rw [rv_zero] at this
      omega
    · have := nr_near Q k
      omega
  · rw [rn_neg]
    have := ih hg.neg
    omega
theorem nr_err {Q u : Nat} (h : Q < 9007199254740992 * 2 ^ u) : 2 * ((rv (nr Q) : Int) - Q).natAbs ≤ 2 ^ u := by
  have h1 := pow_mono (ex_le h)
  have h2 := rung_spec Q
  have h3 : rv (rung Q + 1) = rv (rung Q) + 2 ^ ex Q := by rw [rv_succ, ulp_ex]
  rcases nr_cases Q with ⟨h4, h5⟩ | ⟨h4, h5⟩ <;> rw [h4] <;> omega
theorem rn_err {S : Int} {u : Nat} (h : S.natAbs < 9007199254740992 * 2 ^ u) : 2 * (rn S - S).natAbs ≤ 2 ^ u := by
  revert h
  refine by_sign (C := fun S => S.natAbs < 9007199254740992 * 2 ^ u → 2 * (rn S - S).natAbs ≤ 2 ^ u) (fun Q h => ?_) (fun S ih h => ?_) S
  · rw [rn_nat]; exact nr_err (by rwa [Int.natAbs_natCast] at h)
  · rw [rn_neg]
    rw [Int.natAbs_neg] at h
    have := ih h
    omega
theorem rn_dvd_ex (Q : Nat) : 2 ^ ex Q ∣ rv (nr Q) := by
  obtain ⟨s, h1, h2, -⟩ := ex_spec Q
  rcases nr_cases Q with ⟨h3, -⟩ | ⟨h3, -⟩
  · rw [h3, h1]; exact Nat.dvd_mul_left _ _
  · rw [h3, h2]; exact Nat.dvd_mul_left _ _
theorem nr_dvd {Q u : Nat} (h : 2 ^ u ∣ Q) : 2 ^ u ∣ rv (nr Q) := by
  by_cases h1 : Q < 9007199254740992 * 2 ^ u
  · obtain ⟨k, hk⟩ := Rp.of_dvd h (by omega)
    rw [← hk, nr_rv, hk]; exact h
  · have h2 := ex_gt (Q := Q) (u := u) (by omega)
    exact Nat.dvd_trans (pow_dvd (by omega)) (rn_dvd_ex Q)
/-- 2^u goes into S. -/
def Dv (u : Nat) (S : Int) : Prop := 2 ^ u ∣ S.natAbs
theorem Dv.iff {u : Nat} {S : Int} : Dv u S ↔ ((2 ^ u : Nat) : Int) ∣ S := Int.ofNat_dvd_left.symm
theorem Dv.neg {u : Nat} {S : Int} (h : Dv u S) : Dv u (-S) := by unfold Dv; rw [Int.natAbs_neg]; exact h
theorem Dv.add {u : Nat} {S T : Int} (h : Dv u S) (k : Dv u T) : Dv u (S + T) := Dv.iff.2 (Int.dvd_add (Dv.iff.1 h) (Dv.iff.1 k))
theorem Dv.sub {u : Nat} {S T : Int} (h : Dv u S) (k : Dv u T) : Dv u (S - T) := by rw [Int.sub_eq_add_neg]; exact h.add k.neg
theorem Dv.mono {u v : Nat} {S : Int} (h : Dv v S) (k : u ≤ v) : Dv u S := Nat.dvd_trans (pow_dvd k) h
theorem Dv.rn {u : Nat} {S : Int} (h : Dv u S) : Dv u (rn S) := by unfold Dv; rw [rn_abs]; exact nr_dvd h
theorem Dv.rp {u : Nat} {S : Int} (h : Dv u S) (hq : S.natAbs ≤ 9007199254740992 * 2 ^ u) : RpZ S := Rp.of_dvd h hq
theorem RpZ.dv {S : Int} (h : RpZ S) {P : Nat} (hP : P ≤ S.natAbs) : Dv (ex P) S := Rp.dvd_of h hP
/-- A multiple of 2^u that is below 2^53 2^u and half a place more is at most that. -/
theorem Dv.le {u : Nat} {S : Int} (h : Dv u S) {M : Nat} (hM : S.natAbs < (M + 1) * 2 ^ u) : S.natAbs ≤ M * 2 ^ u := by
  obtain ⟨m, hm⟩ := h
  rw [hm] at hM ⊢
  rw [Nat.mul_comm] at hM ⊢
  have := Nat.lt_of_mul_lt_mul_right hM
  exact Nat.mul_le_mul_right _ (by omega)

/-- What a sum's rounding loses is a number of 53 bits. -/
theorem err_rp' {a b : Int} (ha : RpZ a) (hb : RpZ b) (hba : b.natAbs ≤ a.natAbs) : RpZ (a + b - rn (a + b)) := by
  have h1 : Dv (ex b.natAbs) b := hb.dv (Nat.le_refl _)
  have h2 : Dv (ex b.natAbs) a := ha.dv hba
  have h3 := rn_near (a + b) ha
  have h4 := ex_hi b.natAbs
  exact ((h2.add h1).sub (h2.add h1).rn).rp (by omega)
theorem err_rp {a b : Int} (ha : RpZ a) (hb : RpZ b) : RpZ (a + b - rn (a + b)) := by
  rcases Nat.le_total b.natAbs a.natAbs with h | h
  · exact err_rp' ha hb h
  · rw [Int.add_comm]; exact err_rp' hb ha h

/-- The greater term's part of a rounded sum goes off exactly. -/
theorem fast_rp {a b : Int} (ha : RpZ a) (hb : RpZ b) (hba : b.natAbs ≤ a.natAbs) : RpZ (rn (a + b) - a) := by
  obtain ⟨S, hS⟩ : ∃ S, S = a + b := ⟨_, rfl⟩
  rw [← hS]
  by_cases hx : RpZ S
  · rw [rn_of hx, hS, show a + b - a = b by omega]; exact hb
  · obtain ⟨u, hu⟩ : ∃ u, u = ex S.natAbs := ⟨_, rfl⟩
    have h1 := ex_hi S.natAbs
    rw [← hu] at h1
    have h2 := rn_err h1
    have h3 : Dv u (rn S) := by unfold Dv; rw [rn_abs, hu]; exact rn_dvd_ex _
    have h4 : Dv (ex a.natAbs) a := ha.dv (Nat.le_refl _)
    have h5 := ex_hi a.natAbs
    rcases Nat.lt_or_ge u (ex a.natAbs) with h6 | h6
    · have h7 : Dv u (rn S - a) := h3.sub (h4.mono (by omega))
      rcases Nat.lt_or_ge b.natAbs (9007199254740992 * 2 ^ u) with h8 | h8
      · refine h7.rp (h7.le ?_)
        rw [Nat.add_mul]
        omega
      · exfalso
        refine hx ?_
        have h9 := ex_gt h8
        have h10 : Dv (u + 1) S := by
          rw [hS]
          exact (h4.mono (by omega)).add ((hb.dv (Nat.le_refl _)).mono (by omega))
        refine h10.rp ?_
        rw [two_pow_s]
        omega
    · have h7 : Dv (ex a.natAbs) (rn S - a) := (h3.mono h6).sub h4
      refine h7.rp ?_
      have h8 : S.natAbs < 9007199254740992 * 2 ^ (ex a.natAbs + 1) := by rw [two_pow_s]; omega
      have h9 := rn_err h8
      rw [two_pow_s] at h9
      -- b is a multiple of nothing here; the bound is on the whole
      have h10 := h4.le (M := 9007199254740991) (by omega)
      omega

/-- Two numbers, one not above the double of the other: their difference is one. -/
theorem sterbenz {x y : Nat} (hx : Rp x) (hy : Rp y) (h1 : y ≤ x) (h2 : x ≤ 2 * y) : Rp (x - y) := by
  have h3 := hy.dvd
  have h4 := hx.dvd_of h1
  have h5 := ex_hi y
  exact Rp.of_dvd (Nat.dvd_sub h4 h3) (by omega)
theorem sterbZ {b t : Int} (hb : RpZ b) (ht : RpZ t) (h : 2 * (b - t).natAbs ≤ b.natAbs) : RpZ (b - t) := by
  unfold RpZ at *
  rcases Nat.le_total t.natAbs b.natAbs with h1 | h1
  · have := sterbenz hb ht h1 (by omega)
    rwa [show (b - t).natAbs = b.natAbs - t.natAbs by omega]
  · have := sterbenz ht hb h1 (by omega)
    rwa [show (b - t).natAbs = t.natAbs - b.natAbs by omega]

theorem rn_ge {S g : Int} (hg : RpZ g) (h : g.natAbs ≤ S.natAbs) : g.natAbs ≤ (rn S).natAbs := by
  obtain ⟨k, hk⟩ := hg
  rw [rn_abs, ← hk]
  have := nr_mono h
  rw [← hk, nr_rv] at this
  exact rv_le this

/-- Knuth: the six sums give what the first one lost, exactly. -/
theorem two_sum {a b s t u p q : Int} (ha : RpZ a) (hb : RpZ b) (hs : s = rn (a + b)) (ht : t = rn (s - a)) (hu : u = rn (s - t)) (hp : p = rn (a - u)) (hq : q = rn (b - t)) :
    rn (p + q) = a + b - s := by
  have herr : RpZ (a + b - s) := by rw [hs]; exact err_rp ha hb
  have hsr : RpZ s := by rw [hs]; exact rn_rp _
  -- where the first difference is exact, all goes through
  have easy : RpZ (s - a) → rn (p + q) = a + b - s := fun h => by
    have e1 : t = s - a := by rw [ht, rn_of h]
    have e2 : u = a := by rw [hu, e1, show s - (s - a) = a by omega, rn_of ha]
    have e3 : p = 0 := by rw [hp, e2, Int.sub_self, rn_zero]
    have e4 : q = a + b - s := by rw [hq, e1, show b - (s - a) = a + b - s by omega, rn_of herr]
    rw [e3, e4, Int.zero_add, rn_of herr]
  rcases Nat.le_total b.natAbs a.natAbs with h | h
  · exact easy (by rw [hs]; exact fast_rp ha hb h)
  · by_cases hex : RpZ (a + b)
    · refine easy ?_
      rw [hs, rn_of hex, show a + b - a = b by omega]; exact hb
    · -- the first term is not above the sum
      have has : a.natAbs ≤ s.natAbs := by
        rcases Nat.lt_or_ge (a + b).natAbs a.natAbs with h1 | h1
        · exfalso
          refine hex ?_
          have := sterbenz hb ha h (by omega)
          unfold RpZ
          rwa [show (a + b).natAbs = b.natAbs - a.natAbs by omega]
        · rw [hs]; exact rn_ge ha h1
      have e1 : RpZ (t - s) := by
        have := fast_rp hsr ha.neg (by rw [Int.natAbs_neg]; exact has)
        rwa [← Int.sub_eq_add_neg, ← ht] at this
      have e2 : u = s - t := by
        rw [hu]
        refine rn_of ?_
        have := e1.neg
        rwa [Int.neg_sub] at this
      have e3 : p = a - s + t := by
        rw [hp, e2, show a - (s - t) = a - s + t by omega]
        refine rn_of ?_
        have := (err_rp hsr ha.neg).neg
        rw [← Int.sub_eq_add_neg, ← ht] at this
        rwa [show -(s - a - t) = a - s + t by omega] at this
      have e4 : q = b - t := by
        rw [hq]
        refine rn_of (sterbZ hb (by rw [ht]; exact rn_rp _) ?_)
        -- t is within two errors of b, and these are small beside b
        obtain ⟨v, hv⟩ : ∃ v, v = ex (a + b).natAbs := ⟨_, rfl⟩
        have h1 := ex_hi (a + b).natAbs
        rw [← hv] at h1
        have h2 := rn_err h1
        rw [← hs] at h2
        have h3 := rn_near (s - a) hb
        rw [← ht] at h3
        have h4 : v ≠ 0 := by
          intro h0
          refine hex ?_
          rw [h0, Nat.pow_zero] at h1
          have : Dv 0 (a + b) := by unfold Dv; rw [Nat.pow_zero]; exact Nat.one_dvd _
          exact this.rp (by rw [Nat.pow_zero]; omega)
        have h5 := ex_lo (Q := (a + b).natAbs) (by rw [← hv]; exact h4)
        rw [← hv] at h5
        have := two_pow_pos v
        omega
      rw [e3, e4, show a - s + t + (b - t) = a + b - s by omega, rn_of herr]
end Go.Proofs.YtfbjeifhpmdjaaaGreat.Rn

/-
  Plain: what the nearest number and the sign of what it lacks tell of the number rounded in a direction. Conditions: those that each theorem names.
-/
set_option linter.unusedVariables false

namespace Go.Proofs.YtfbjeifhpmdjaaaGreat.Rn

/-- The pattern of a signed rung; there is no -0. -/
def kp (k : Int) : Nat := pat (decide (k < 0)) k.natAbs
theorem kp_pat (neg : Bool) (r : Nat) : pat neg r = kp (if neg then -(r : Int) else (r : Int)) := by
  unfold kp pat
  cases neg
  · rw [show (if false = true then -(r : Int) else (r : Int)) = (r : Int) from rfl, Int.natAbs_natCast, decide_eq_false (by omega)]
  · rw [show (if true = true then -(r : Int) else (r : Int)) = -(r : Int) from rfl, Int.natAbs_neg, Int.natAbs_natCast]
    by_cases h : r = 0
    · rw [if_pos h, if_pos h]
    · rw [if_neg h, if_neg h, decide_eq_true (by omega)]
theorem kp_key {b : Nat} (h : b < 18446744073709551616) : kp (key b) = pl b := by
  unfold kp pat key pl sg mg
  by_cases h1 : 9223372036854775808 ≤ b
  · simp only [h1, decide_true, if_true]
    by_cases h2 : b = 9223372036854775808
    · subst h2; rfl
    · rw [if_neg (by omega), if_neg h2, if_pos (by simp; omega)]; omega
  · simp only [h1, decide_false, Bool.false_eq_true, if_false]
    rw [if_neg (show ¬ b = 9223372036854775808 by omega), if_neg (show ¬ decide (((b % 9223372036854775808 : Nat) : Int) < 0) = true by simp; omega), Int.natAbs_natCast]
    split <;> omega
/-- The step that the direction asks for. -/
def adj (d e : Int) : Int := if d = -1 ∧ e < 0 then -1 else if d = 1 ∧ 0 < e then 1 else 0

theorem near_lt (Z : Nat) (hZ : Z ≤ 4 * rv (infR - 2)) : near Z < infR ∧ rung (Z / 4) < infR - 1 ∧ (near Z = rung (Z / 4) ∨ near Z = rung (Z / 4) + 1) := by
  have h1 : rung (Z / 4) ≤ infR - 2 := by
    have := rung_mono (show Z / 4 ≤ rv (infR - 2) by omega)
    rwa [rung_rv] at this
  have h2 := infR_val
  have h3 : near Z = rung (Z / 4) ∨ near Z = rung (Z / 4) + 1 := by
    unfold near rr
    rw [if_neg (by omega)]
    split
    · right; omega
    · left; omega
  omega

theorem rr_nudge (d : Int) (neg : Bool) {Z : Nat} (hZ : Z ≤ 4 * rv (infR - 2)) :
    rr d neg Z = if (d = 1 ∧ neg = false ∨ d = -1 ∧ neg = true) ∧ 4 * rv (near Z) < Z then near Z + 1 else if (d = 1 ∧ neg = true ∨ d = -1 ∧ neg = false) ∧ Z < 4 * rv (near Z) then near Z - 1 else near Z := by
  obtain ⟨h1, h2, h3⟩ := near_lt Z hZ
  have h4 := rung_spec (Z / 4)
  have h5 := infR_val
  have hn : ¬ d = 1 → ¬ d = -1 → rr d neg Z = near Z := fun a b => by
    have haw : away d neg Z = away 0 false Z := by
      unfold away
      rw [if_neg a, if_neg b, if_neg (show ¬ (0 : Int) = 1 by omega), if_neg (show ¬ (0 : Int) = -1 by omega)]
    unfold near rr
    rw [haw, if_neg (show ¬ ((d = 1 ∧ neg = true) ∨ (d = -1 ∧ neg = false)) by rintro (⟨h, -⟩ | ⟨h, -⟩); exact a h; exact b h), if_neg (show ¬ (((0 : Int) = 1 ∧ false = true) ∨ ((0 : Int) = -1 ∧ false = false)) by omega)]
  by_cases hd1 : d = 1
  · subst hd1
    cases neg
    · -- up
      have e1 : rr 1 false Z = if Z = 4 * rv (rung (Z / 4)) then rung (Z / 4) else rung (Z / 4) + 1 := by
        unfold rr away
        rw [if_neg (by simp)]
        by_cases h6 : Z = 4 * rv (rung (Z / 4))
        · rw [if_pos h6, if_pos h6, if_neg (by simp), Nat.min_eq_left (by omega)]
        · rw [if_neg h6, if_neg h6, if_pos rfl, if_pos (by simp), Nat.min_eq_left (by omega)]
      rw [e1]
      rw [if_neg (show ¬ ((((1 : Int) = 1 ∧ false = true) ∨ ((1 : Int) = -1 ∧ false = false)) ∧ Z < 4 * rv (near Z)) by simp)]
      simp only [and_self, true_or, true_and]
      rcases h3 with h3 | h3
      · rw [h3]
        by_cases h6 : Z = 4 * rv (rung (Z / 4))
        · rw [if_pos h6, if_neg (by omega)]
        · rw [if_neg h6, if_pos (by omega)]
      · rw [h3]
        have h7 : Z ≠ 4 * rv (rung (Z / 4)) := by
          intro h6
          unfold near rr away at h3
          rw [if_neg (by omega), if_pos h6] at h3
          simp at h3
          omega
        rw [if_neg h7, if_neg (by omega)]
    · -- toward 0
      have e1 : rr 1 true Z = rung (Z / 4) := by
        unfold rr
        rw [if_pos (by simp), Nat.min_eq_left (by omega)]
      rw [e1]
      rw [if_neg (show ¬ ((((1 : Int) = 1 ∧ true = false) ∨ ((1 : Int) = -1 ∧ true = true)) ∧ 4 * rv (near Z) < Z) by simp)]
      simp only [and_self, true_or, true_and]
      rcases h3 with h3 | h3
      · rw [h3, if_neg (by omega)]
      · rw [h3, if_pos (by omega)]; omega
  · by_cases hd2 : d = -1
    · subst hd2
      cases neg
      · have e1 : rr (-1) false Z = rung (Z / 4) := by
          unfold rr
          rw [if_pos (by simp), Nat.min_eq_left (by omega)]
        rw [e1]
        rw [if_neg (show ¬ ((((-1 : Int) = 1 ∧ false = false) ∨ ((-1 : Int) = -1 ∧ false = true)) ∧ 4 * rv (near Z) < Z) by simp)]
        simp only [and_self, or_true, true_and]
        rcases h3 with h3 | h3
        · rw [h3, if_neg (by omega)]
        · rw [h3, if_pos (by omega)]; omega
      · have e1 : rr (-1) true Z = if Z = 4 * rv (rung (Z / 4)) then rung (Z / 4) else rung (Z / 4) + 1 := by
          unfold rr away
          rw [if_neg (by simp)]
          by_cases h6 : Z = 4 * rv (rung (Z / 4))
          · rw [if_pos h6, if_pos h6, if_neg (by simp), Nat.min_eq_left (by omega)]
          · rw [if_neg h6, if_neg h6, if_neg (show ¬ (-1 : Int) = 1 by omega), if_pos rfl, if_pos (by simp), Nat.min_eq_left (by omega)]
        rw [e1]
        rw [if_neg (show ¬ ((((-1 : Int) = 1 ∧ true = true) ∨ ((-1 : Int) = -1 ∧ true = false)) ∧ Z < 4 * rv (near Z)) by simp)]
        simp only [and_self, or_true, true_and]
        rcases h3 with h3 | h3
        · rw [h3]
          by_cases h6 : Z = 4 * rv (rung (Z / 4))
          · rw [if_pos h6, if_neg (by omega)]
          · rw [if_neg h6, if_pos (by omega)]
        · rw [h3]
          have h7 : Z ≠ 4 * rv (rung (Z / 4)) := by
            intro h6
            unfold near rr away at h3
            rw [if_neg (by omega), if_pos h6] at h3
            simp at h3
            omega
          rw [if_neg h7, if_neg (by omega)]
    · rw [hn hd1 hd2, if_neg (by rintro ⟨a, -⟩; rcases a with ⟨a, -⟩ | ⟨a, -⟩; exact hd1 a; exact hd2 a), if_neg (by rintro ⟨a, -⟩; rcases a with ⟨a, -⟩ | ⟨a, -⟩; exact hd1 a; exact hd2 a)]

/-- The nearest number, and a step where the direction and the sign of what it lacks ask for one. -/
theorem rnd_nudge (d : Int) (neg : Bool) {Z : Nat} (hZ : Z ≤ 4 * rv (infR - 2)) {K e : Int} (hK : K = if neg then -(near Z : Int) else (near Z : Int))
    (hp : 0 < e ↔ if neg then Z < 4 * rv (near Z) else 4 * rv (near Z) < Z) (hm : e < 0 ↔ if neg then 4 * rv (near Z) < Z else Z < 4 * rv (near Z)) :
    rnd d neg Z = kp (K + adj d e) := by
  have h0 : Z < 4 * rv (near Z) → near Z ≠ 0 := fun h h1 => by rw [h1, rv_zero] at h; omega
  unfold rnd
  rw [kp_pat]
  congr 1
  rw [rr_nudge d neg hZ, hK]
  unfold adj
  cases neg
  · simp only [Bool.false_eq_true, if_false, and_true, and_false, or_false, false_or] at hp hm ⊢
    by_cases h1 : d = 1
    · subst h1
      rw [if_neg (show ¬ ((1 : Int) = -1 ∧ e < 0) by omega)]
      by_cases h2 : 4 * rv (near Z) < Z
      · rw [if_pos ⟨rfl, h2⟩, if_pos ⟨rfl, hp.2 h2⟩]; omega
      · rw [if_neg (fun h => h2 h.2), if_neg (fun h => by omega), if_neg (fun h => h2 (hp.1 h.2))]; omega
    · by_cases h3 : d = -1
      · subst h3
        rw [if_neg (fun h => h1 h.1)]
        by_cases h2 : Z < 4 * rv (near Z)
        · have := h0 h2
          rw [if_pos ⟨rfl, h2⟩, if_pos ⟨rfl, hm.2 h2⟩]; omega
        · rw [if_neg (fun h => h2 h.2), if_neg (fun h => h2 (hm.1 h.2)), if_neg (fun h => by omega)]; omega
      · rw [if_neg (fun h => h1 h.1), if_neg (fun h => h3 h.1), if_neg (fun h => h3 h.1), if_neg (fun h => h1 h.1)]; omega
  · simp only [if_true, and_true, and_false, or_false, false_or, Bool.true_eq_false] at hp hm ⊢
    by_cases h1 : d = 1
    · subst h1
      rw [if_neg (show ¬ ((1 : Int) = -1 ∧ e < 0) by omega), if_neg (show ¬ ((1 : Int) = -1 ∧ 4 * rv (near Z) < Z) by omega)]
      by_cases h2 : Z < 4 * rv (near Z)
      · have := h0 h2
        rw [if_pos ⟨rfl, h2⟩, if_pos ⟨rfl, hp.2 h2⟩]; omega
      · rw [if_neg (fun h => h2 h.2), if_neg (fun h => h2 (hp.1 h.2))]; omega
    · by_cases h3 : d = -1
      · subst h3
        by_cases h2 : 4 * rv (near Z) < Z
        · rw [if_pos ⟨rfl, h2⟩, if_pos ⟨rfl, hm.2 h2⟩]; omega
        · rw [if_neg (fun h => h2 h.2), if_neg (fun h => h1 h.1), if_neg (fun h => h2 (hm.1 h.2)), if_neg (fun h => by omega)]; omega
      · rw [if_neg (fun h => h3 h.1), if_neg (fun h => h1 h.1), if_neg (fun h => h3 h.1), if_neg (fun h => h1 h.1)]; omega
end Go.Proofs.YtfbjeifhpmdjaaaGreat.Rn

/-
  Plain: a product's parts, and what its nearest number lacks (Veltkamp, Dekker). Conditions: those that each theorem names.
-/
set_option linter.unusedVariables false

namespace Go.Proofs.YtfbjeifhpmdjaaaGreat.Rn

theorem pow_add_ (a b : Nat) : 2 ^ (a + b) = 2 ^ a * 2 ^ b := Nat.pow_add 2 a b
theorem p26 (u : Nat) : 2 ^ (26 + u) = 67108864 * 2 ^ u := by rw [pow_add_]
theorem p27 (u : Nat) : 2 ^ (27 + u) = 134217728 * 2 ^ u := by rw [pow_add_]
theorem p28 (u : Nat) : 2 ^ (28 + u) = 268435456 * 2 ^ u := by rw [pow_add_]

theorem Dv.mk (u : Nat) (k : Int) : Dv u (k * ((2 ^ u : Nat) : Int)) := Dv.iff.2 (Int.dvd_mul_left _ _)
theorem Dv.get {u : Nat} {S : Int} (h : Dv u S) : ∃ k : Int, S = k * ((2 ^ u : Nat) : Int) := by
  obtain ⟨k, hk⟩ := Dv.iff.1 h
  exact ⟨k, by rw [hk, Int.mul_comm]⟩
theorem rn_dv {S : Int} {u : Nat} (h : 9007199254740992 * 2 ^ u ≤ S.natAbs) : Dv (u + 1) (rn S) := by
  unfold Dv
  rw [rn_abs]
  exact Nat.dvd_trans (pow_dvd (ex_gt h)) (rn_dvd_ex _)

/-- What the cutting of a number by 2^27 + 1 gives. -/
structure Halves (u : Nat) (x h l : Int) : Prop where
  sum : h + l = x
  dvh : Dv (27 + u) h
  dvl : Dv u l
  lel : l.natAbs ≤ 67108864 * 2 ^ u
  leh : h.natAbs ≤ 9007199254740992 * 2 ^ u

theorem halves_nat {Q u : Nat} (h1 : 4503599627370496 * 2 ^ u ≤ Q) (h2 : Q < 9007199254740992 * 2 ^ u) (h3 : 2 ^ u ∣ Q) {t v h l : Int} (ht : t = rn (134217729 * (Q : Int))) (hv : v = rn (t - Q)) (hh : h = rn (t - v)) (hl : l = rn (Q - h)) :
    Halves u Q h l := by
  obtain ⟨A, hA⟩ : ∃ A, A = 2 ^ u := ⟨_, rfl⟩
  have hA0 : 0 < A := by rw [hA]; exact two_pow_pos u
  have h3' := h3
  obtain ⟨m, hm⟩ := h3
  have q26 := p26 u
  have q27 := p27 u
  have q28 := p28 u
  rw [← hA] at h1 h2 hm q26 q27 q28
  have hm' : m = 4503599627370496 ∨ 4503599627370497 ≤ m := by
    rcases Nat.lt_or_ge m 4503599627370496 with h | h
    · exfalso
      have := Nat.mul_lt_mul_of_pos_left h hA0
      omega
    · omega
  have hQhi : Q + A ≤ 9007199254740992 * A := by
    have : m < 9007199254740992 := by
      rcases Nat.lt_or_ge m 9007199254740992 with h | h
      · exact h
      · have := Nat.mul_le_mul_left A h; omega
    have := Nat.mul_le_mul_left A (show m + 1 ≤ 9007199254740992 by omega)
    rw [Nat.mul_add] at this
    omega
  have hQlo : Q = 4503599627370496 * A ∨ 4503599627370497 * A ≤ Q := by
    rcases hm' with h | h
    · left; rw [hm, h, Nat.mul_comm]
    · right; have := Nat.mul_le_mul_left A h; rw [hm]; omega
  clear hm' hm
  have hCQ : (134217729 * (Q : Int)).natAbs = 134217729 * Q := by omega
  -- t
  have ht1 : Dv (27 + u) t ∧ (2 * (t - 134217729 * (Q : Int)).natAbs ≤ 134217728 * A ∨ 1208925819614629174706176 * A ≤ 134217729 * Q ∧ 2 * (t - 134217729 * (Q : Int)).natAbs ≤ 268435456 * A) ∧ (Q = 4503599627370496 * A → t = 134217729 * (Q : Int)) := by
    refine ⟨?_, ?_, ?_⟩
    · rw [ht]
      have := rn_dv (S := 134217729 * (Q : Int)) (u := 26 + u) (by rw [hCQ, q26]; omega)
      rwa [show 26 + u + 1 = 27 + u by omega] at this
    · rcases Nat.lt_or_ge (134217729 * Q) (1208925819614629174706176 * A) with h | h
      · left
        have := rn_err (S := 134217729 * (Q : Int)) (u := 27 + u) (by rw [hCQ, q27]; omega)
        rwa [← ht, q27] at this
      · right
        refine ⟨h, ?_⟩
        have := rn_err (S := 134217729 * (Q : Int)) (u := 28 + u) (by rw [hCQ, q28]; omega)
        rwa [← ht, q28] at this
    · intro h
      rw [ht]
      refine rn_of ?_
      unfold RpZ
      rw [hCQ, h, show 134217729 * (4503599627370496 * A) = 4503599660924928 * 2 ^ (27 + u) by rw [q27]; omega]
      exact Rp.mk _ (by omega)
  obtain ⟨ht2, ht3, ht4⟩ := ht1
  -- v
  have hW1 : 604462909807314587353088 * A ≤ (t - Q).natAbs := by
    rcases hQlo with h | h
    · have := ht4 h; omega
    · rcases ht3 with h4 | ⟨h4, h5⟩ <;> omega
  have hW2 : (t - Q).natAbs ≤ 1208925819614629174706176 * A ∧ 0 < t - Q := by
    rcases ht3 with h4 | ⟨h4, h5⟩ <;> omega
  have hv1 : Dv (27 + u) v := by
    rw [hv]
    have := rn_dv (S := t - Q) (u := 26 + u) (by rw [q26]; omega)
    rwa [show 26 + u + 1 = 27 + u by omega] at this
  have hv2 : 2 * (v - (t - Q)).natAbs ≤ 134217728 * A := by
    rcases Nat.lt_or_ge (t - Q).natAbs (1208925819614629174706176 * A) with h | h
    · have := rn_err (S := t - Q) (u := 27 + u) (by rw [q27]; omega)
      rwa [← hv, q27] at this
    · have : RpZ (t - Q) := by
        unfold RpZ
        rw [show (t - Q).natAbs = 9007199254740992 * 2 ^ (27 + u) by rw [q27]; omega]
        exact Rp.mk _ (by omega)
      rw [hv, rn_of this, Int.sub_self]
      simp
  -- h
  have hh1 : Dv (27 + u) (t - v) := ht2.sub hv1
  have hh2 : (t - v).natAbs ≤ 9007199254740992 * A := by
    have := hh1.le (M := 67108864) (by rw [q27]; omega)
    rw [q27] at this
    omega
  have hh3 : h = t - v := by
    rw [hh]
    exact rn_of (hh1.rp (by rw [q27]; omega))
  have hQd : Dv u (Q : Int) := by
    unfold Dv
    rw [Int.natAbs_natCast]
    exact h3'
  have hl1 : Dv u ((Q : Int) - h) := hQd.sub (by rw [hh3]; exact hh1.mono (by omega))
  have hl2 : ((Q : Int) - h).natAbs ≤ 67108864 * A := by rw [hh3]; omega
  have hl3 : l = Q - h := by
    rw [hl]
    exact rn_of (hl1.rp (by rw [← hA]; omega))
  exact ⟨by rw [hl3]; omega, by rw [hh3]; exact hh1, by rw [hl3]; exact hl1, by rw [hl3, ← hA]; exact hl2, by rw [hh3, ← hA]; exact hh2⟩

theorem halves_spec {x : Int} (hx : RpZ x) {u : Nat} (hu : u = ex x.natAbs) (h0 : 4503599627370496 * 2 ^ u ≤ x.natAbs) {t v h l : Int} (ht : t = rn (134217729 * x)) (hv : v = rn (t - x)) (hh : h = rn (t - v)) (hl : l = rn (x - h)) :
    Halves u x h l := by
  have h2 := ex_hi x.natAbs
  rw [← hu] at h2
  have h3 := hx.dv (Nat.le_refl _)
  rw [← hu] at h3
  rcases Int.lt_or_le x 0 with hneg | hpos
  · obtain ⟨Q, hQ⟩ : ∃ Q : Nat, x = -(Q : Int) := ⟨x.natAbs, by omega⟩
    subst hQ
    rw [Int.natAbs_neg, Int.natAbs_natCast] at h0 h2
    unfold Dv at h3
    rw [Int.natAbs_neg, Int.natAbs_natCast] at h3
    have e1 : -t = rn (134217729 * (Q : Int)) := by rw [ht, ← rn_neg]; congr 1; omega
    have e2 : -v = rn (-t - Q) := by rw [hv, ← rn_neg]; congr 1; omega
    have e3 : -h = rn (-t - -v) := by rw [hh, ← rn_neg]; congr 1; omega
    have e4 : -l = rn ((Q : Int) - -h) := by rw [hl, ← rn_neg]; congr 1; omega
    have := halves_nat h0 h2 h3 e1 e2 e3 e4
    refine ⟨by have := this.sum; omega, ?_, ?_, ?_, ?_⟩
    · have := this.dvh.neg; rwa [Int.neg_neg] at this
    · have := this.dvl.neg; rwa [Int.neg_neg] at this
    · have := this.lel; rwa [Int.natAbs_neg] at this
    · have := this.leh; rwa [Int.natAbs_neg] at this
  · obtain ⟨Q, hQ⟩ : ∃ Q : Nat, x = (Q : Int) := ⟨x.natAbs, by omega⟩
    subst hQ
    rw [Int.natAbs_natCast] at h0 h2
    unfold Dv at h3
    rw [Int.natAbs_natCast] at h3
    exact halves_nat h0 h2 h3 ht hv hh hl

theorem Dv.mul {u v : Nat} {S T : Int} (h : Dv u S) (k : Dv v T) : Dv (u + v) (S * T) := by
  unfold Dv at *
  rw [Int.natAbs_mul, pow_add_]
  exact Nat.mul_dvd_mul h k
theorem abs_mul_le {S T : Int} {a b : Nat} (h : S.natAbs ≤ a) (k : T.natAbs ≤ b) : (S * T).natAbs ≤ a * b := by
  rw [Int.natAbs_mul]; exact Nat.mul_le_mul h k
/-- Divided by a power of 2 that goes into it. -/
theorem Dv.div {u c : Nat} {S : Int} (h : Dv (u + c) S) {q : Int} (hq : q * ((2 ^ c : Nat) : Int) = S) : Dv u q := by
  obtain ⟨k, hk⟩ := Dv.get h
  have hc : ((2 ^ c : Nat) : Int) ≠ 0 := by have := two_pow_pos c; omega
  rw [pow_add_, Int.natCast_mul, ← Int.mul_assoc, ← hq] at hk
  have := Int.eq_of_mul_eq_mul_right hc hk
  rw [this]
  exact Dv.mk u k
theorem abs_div_le {c M : Nat} {q S : Int} (hq : q * ((2 ^ c : Nat) : Int) = S) (h : S.natAbs ≤ M * 2 ^ c) : q.natAbs ≤ M := by
  rw [← hq, Int.natAbs_mul, Int.natAbs_natCast] at h
  exact Nat.le_of_mul_le_mul_right h (two_pow_pos c)

/-- Two numbers cut in two, in units in which the product of their last places is 2^k: what the nearest number to the product lacks of it. a, b, c, g: the products of the parts, as they are. -/
theorem dekker {k : Nat} {a b c g p q e1 e2 e3 r : Int} (ha : Dv (54 + k) a) (hb : Dv (27 + k) b) (hc : Dv (27 + k) c) (hg : Dv k g)
    (lb : b.natAbs ≤ 604462909807314587353088 * 2 ^ k) (lc : c.natAbs ≤ 604462909807314587353088 * 2 ^ k) (lg : g.natAbs ≤ 4503599627370496 * 2 ^ k)
    (hq : q = a + b + c + g) (hq1 : 20282409603651670423947251286016 * 2 ^ k ≤ q.natAbs) (hq2 : q.natAbs < 81129638414606681695789005144064 * 2 ^ k) (hp : p = rn q)
    (he1 : e1 = rn (a - p)) (he2 : e2 = rn (e1 + b)) (he3 : e3 = rn (e2 + c)) (hr : r = rn (e3 + g)) : r = q - p ∧ RpZ (q - p) := by
  obtain ⟨A, hA⟩ : ∃ A, A = 2 ^ k := ⟨_, rfl⟩
  have hA0 : 0 < A := by rw [hA]; exact two_pow_pos k
  have x27 := p27 k
  have x51 : 2 ^ (51 + k) = 2251799813685248 * A := by rw [pow_add_, ← hA]
  have x52 : 2 ^ (52 + k) = 4503599627370496 * A := by rw [pow_add_, ← hA]
  have x53 : 2 ^ (53 + k) = 9007199254740992 * A := by rw [pow_add_, ← hA]
  rw [← hA] at lb lc lg hq1 hq2 x27
  have dp : Dv (52 + k) p := by
    rw [hp]
    have := rn_dv (S := q) (u := 51 + k) (by rw [x51]; omega)
    rwa [show 51 + k + 1 = 52 + k by omega] at this
  have lp : 2 * (p - q).natAbs ≤ 9007199254740992 * A := by
    have := rn_err (S := q) (u := 53 + k) (by rw [x53]; omega)
    rwa [← hp, x53] at this
  have d1 : Dv (52 + k) (a - p) := (ha.mono (by omega)).sub dp
  have f1 : e1 = a - p := by rw [he1]; exact rn_of (d1.rp (by rw [x52]; omega))
  have d2 : Dv (27 + k) (e1 + b) := by rw [f1]; exact (d1.mono (by omega)).add hb
  have f2 : e2 = e1 + b := by rw [he2]; exact rn_of (d2.rp (by rw [x27]; omega))
  have d3 : Dv (27 + k) (e2 + c) := by rw [f2]; exact d2.add hc
  have f3 : e3 = e2 + c := by rw [he3]; exact rn_of (d3.rp (by rw [x27]; omega))
  have d4 : Dv k (e3 + g) := by rw [f3]; exact (d3.mono (by omega)).add hg
  have d5 : RpZ (e3 + g) := d4.rp (by rw [← hA]; omega)
  have f4 : e3 + g = q - p := by omega
  exact ⟨by rw [hr, rn_of d5, f4], by rw [← f4]; exact d5⟩
end Go.Proofs.YtfbjeifhpmdjaaaGreat.Rn
