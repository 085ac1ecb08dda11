/-
  Plain: what the nearest number and the sign of what it lacks tell of the number rounded in a direction. Conditions: those that each theorem names.
-/
import Derived.Test.YtfbjeifhpmdjaaaZ07
import Derived.Test.YtfbjeifhpmdjaaaZ04
set_option linter.unusedVariables false

namespace Go.Proofs.Ytfbjeifhpmdjaaa.Rn

/-- The pattern of a signed rung; there is no -0. -/
def kp (k : Int) : Nat := pat (decide (k < 0)) k.natAbs
theorem kp_pat (neg : Bool) (r : Nat) : pat neg r = kp (if neg then -(r : Int) else (r : Int)) := by
  unfold kp pat
  cases neg
  · rw [show (if false = true then -(r : Int) else (r : Int)) = (r : Int) from rfl, Int.natAbs_natCast, decide_eq_false (by omega)]
  · rw [show (if true = true then -(r : Int) else (r : Int)) = -(r : Int) from rfl, Int.natAbs_neg, Int.natAbs_natCast]
    by_cases h : r = 0
    · rw [if_pos h, if_pos h]
    · rw [if_neg h, if_neg h, decide_eq_true (by omega)]
theorem kp_key {b : Nat} (h : b < 18446744073709551616) : kp (key b) = pl b := by
  unfold kp pat key pl sg mg
  by_cases h1 : 9223372036854775808 ≤ b
  · simp only [h1, decide_true, if_true]
    by_cases h2 : b = 9223372036854775808
    · subst h2; rfl
    · rw [if_neg (by omega), if_neg h2, if_pos (by simp; omega)]; omega
  · simp only [h1, decide_false, Bool.false_eq_true, if_false]
    rw [if_neg (show ¬ b = 9223372036854775808 by omega), if_neg (show ¬ decide (((b % 9223372036854775808 : Nat) : Int) < 0) = true by simp; omega), Int.natAbs_natCast]
    split <;> omega
/-- The step that the direction asks for. -/
def adj (d e : Int) : Int := if d = -1 ∧ e < 0 then -1 else if d = 1 ∧ 0 < e then 1 else 0

theorem near_lt (Z : Nat) (hZ : Z ≤ 4 * rv (infR - 2)) : near Z < infR ∧ rung (Z / 4) < infR - 1 ∧ (near Z = rung (Z / 4) ∨ near Z = rung (Z / 4) + 1) := by
  have h1 : rung (Z / 4) ≤ infR - 2 := by
    have := rung_mono (show Z / 4 ≤ rv (infR - 2) by omega)
    rwa [rung_rv] at this
  have h2 := infR_val
  have h3 : near Z = rung (Z / 4) ∨ near Z = rung (Z / 4) + 1 := by
    unfold near rr
    rw [if_neg (by omega)]
    split
    · right; omega
    · left; omega
  omega

theorem rr_nudge (d : Int) (neg : Bool) {Z : Nat} (hZ : Z ≤ 4 * rv (infR - 2)) :
    rr d neg Z = if (d = 1 ∧ neg = false ∨ d = -1 ∧ neg = true) ∧ 4 * rv (near Z) < Z then near Z + 1 else if (d = 1 ∧ neg = true ∨ d = -1 ∧ neg = false) ∧ Z < 4 * rv (near Z) then near Z - 1 else near Z := by
  obtain ⟨h1, h2, h3⟩ := near_lt Z hZ
  have h4 := rung_spec (Z / 4)
  have h5 := infR_val
  have hn : ¬ d = 1 → ¬ d = -1 → rr d neg Z = near Z := fun a b => by
    have haw : away d neg Z = away 0 false Z := by
      unfold away
      rw [if_neg a, if_neg b, if_neg (show ¬ (0 : Int) = 1 by omega), if_neg (show ¬ (0 : Int) = -1 by omega)]
    unfold near rr
    rw [haw, if_neg (show ¬ ((d = 1 ∧ neg = true) ∨ (d = -1 ∧ neg = false)) by rintro (⟨h, -⟩ | ⟨h, -⟩); exact a h; exact b h), if_neg (show ¬ (((0 : Int) = 1 ∧ false = true) ∨ ((0 : Int) = -1 ∧ false = false)) by omega)]
  by_cases hd1 : d = 1
  · subst hd1
    cases neg
    · -- up
      have e1 : rr 1 false Z = if Z = 4 * rv (rung (Z / 4)) then rung (Z / 4) else rung (Z / 4) + 1 := by
        unfold rr away
        rw [if_neg (by simp)]
        by_cases h6 : Z = 4 * rv (rung (Z / 4))
        · rw [if_pos h6, if_pos h6, if_neg (by simp), Nat.min_eq_left (by omega)]
        · rw [if_neg h6, if_neg h6, if_pos rfl, if_pos (by simp), Nat.min_eq_left (by omega)]
      rw [e1]
      rw [if_neg (show ¬ ((((1 : Int) = 1 ∧ false = true) ∨ ((1 : Int) = -1 ∧ false = false)) ∧ Z < 4 * rv (near Z)) by simp)]
      simp only [and_self, true_or, true_and]
      rcases h3 with h3 | h3
      · rw [h3]
        by_cases h6 : Z = 4 * rv (rung (Z / 4))
        · rw [if_pos h6, if_neg (by omega)]
        · rw [if_neg h6, if_pos (by omega)]
      · rw [h3]
        have h7 : Z ≠ 4 * rv (rung (Z / 4)) := by
          intro h6
          unfold near rr away at h3
          rw [if_neg (by omega), if_pos h6] at h3
          simp at h3
          omega
        rw [if_neg h7, if_neg (by omega)]
    · -- toward 0
      have e1 : rr 1 true Z = rung (Z / 4) := by
        unfold rr
        rw [if_pos (by simp), Nat.min_eq_left (by omega)]
      rw [e1]
      rw [if_neg (show ¬ ((((1 : Int) = 1 ∧ true = false) ∨ ((1 : Int) = -1 ∧ true = true)) ∧ 4 * rv (near Z) < Z) by simp)]
      simp only [and_self, true_or, true_and]
      rcases h3 with h3 | h3
      · rw [h3, if_neg (by omega)]
      · rw [h3, if_pos (by omega)]; omega
  · by_cases hd2 : d = -1
    · subst hd2
      cases neg
      · have e1 : rr (-1) false Z = rung (Z / 4) := by
          unfold rr
          rw [if_pos (by simp), Nat.min_eq_left (by omega)]
        rw [e1]
        rw [if_neg (show ¬ ((((-1 : Int) = 1 ∧ false = false) ∨ ((-1 : Int) = -1 ∧ false = true)) ∧ 4 * rv (near Z) < Z) by simp)]
        simp only [and_self, or_true, true_and]
        rcases h3 with h3 | h3
        · rw [h3, if_neg (by omega)]
        · rw [h3, if_pos (by omega)]; omega
      · have e1 : rr (-1) true Z = if Z = 4 * rv (rung (Z / 4)) then rung (Z / 4) else rung (Z / 4) + 1 := by
          unfold rr away
          rw [if_neg (by simp)]
          by_cases h6 : Z = 4 * rv (rung (Z / 4))
          · rw [if_pos h6, if_pos h6, if_neg (by simp), Nat.min_eq_left (by omega)]
          · rw [if_neg h6, if_neg h6, if_neg (show ¬ (-1 : Int) = 1 by omega), if_pos rfl, if_pos (by simp), Nat.min_eq_left (by omega)]
        rw [e1]
        rw [if_neg (show ¬ ((((-1 : Int) = 1 ∧ true = true) ∨ ((-1 : Int) = -1 ∧ true = false)) ∧ Z < 4 * rv (near Z)) by simp)]
        simp only [and_self, or_true, true_and]
        rcases h3 with h3 | h3
        · rw [h3]
          by_cases h6 : Z = 4 * rv (rung (Z / 4))
          · rw [if_pos h6, if_neg (by omega)]
          · rw [if_neg h6, if_pos (by omega)]
        · rw [h3]
          have h7 : Z ≠ 4 * rv (rung (Z / 4)) := by
            intro h6
            unfold near rr away at h3
            rw [if_neg (by omega), if_pos h6] at h3
            simp at h3
            omega
          rw [if_neg h7, if_neg (by omega)]
    · rw [hn hd1 hd2, if_neg (by rintro ⟨a, -⟩; rcases a with ⟨a, -⟩ | ⟨a, -⟩; exact hd1 a; exact hd2 a), if_neg (by rintro ⟨a, -⟩; rcases a with ⟨a, -⟩ | ⟨a, -⟩; exact hd1 a; exact hd2 a)]

/-- The nearest number, and a step where the direction and the sign of what it lacks ask for one. -/
theorem rnd_nudge (d : Int) (neg : Bool) {Z : Nat} (hZ : Z ≤ 4 * rv (infR - 2)) {K e : Int} (hK : K = if neg then -(near Z : Int) else (near Z : Int))
    (hp : 0 < e ↔ if neg then Z < 4 * rv (near Z) else 4 * rv (near Z) < Z) (hm : e < 0 ↔ if neg then 4 * rv (near Z) < Z else Z < 4 * rv (near Z)) :
    rnd d neg Z = kp (K + adj d e) := by
  have h0 : Z < 4 * rv (near Z) → near Z ≠ 0 := fun h h1 => by rw [h1, rv_zero] at h; omega
  unfold rnd
  rw [kp_pat]
  congr 1
  rw [rr_nudge d neg hZ, hK]
  unfold adj
  cases neg
  · simp only [Bool.false_eq_true, if_false, and_true, and_false, or_false, false_or] at hp hm ⊢
    by_cases h1 : d = 1
    · subst h1
      rw [if_neg (show ¬ ((1 : Int) = -1 ∧ e < 0) by omega)]
      by_cases h2 : 4 * rv (near Z) < Z
      · rw [if_pos ⟨rfl, h2⟩, if_pos ⟨rfl, hp.2 h2⟩]; omega
      · rw [if_neg (fun h => h2 h.2), if_neg (fun h => by omega), if_neg (fun h => h2 (hp.1 h.2))]; omega
    · by_cases h3 : d = -1
      · subst h3
        rw [if_neg (fun h => h1 h.1)]
        by_cases h2 : Z < 4 * rv (near Z)
        · have := h0 h2
          rw [if_pos ⟨rfl, h2⟩, if_pos ⟨rfl, hm.2 h2⟩]; omega
        · rw [if_neg (fun h => h2 h.2), if_neg (fun h => h2 (hm.1 h.2)), if_neg (fun h => by omega)]; omega
      · rw [if_neg (fun h => h1 h.1), if_neg (fun h => h3 h.1), if_neg (fun h => h3 h.1), if_neg (fun h => h1 h.1)]; omega
  · simp only [if_true, and_true, and_false, or_false, false_or, Bool.true_eq_false] at hp hm ⊢
    by_cases h1 : d = 1
    · subst h1
      rw [if_neg (show ¬ ((1 : Int) = -1 ∧ e < 0) by omega), if_neg (show ¬ ((1 : Int) = -1 ∧ 4 * rv (near Z) < Z) by omega)]
      by_cases h2 : Z < 4 * rv (near Z)
      · have := h0 h2
        rw [if_pos ⟨rfl, h2⟩, if_pos ⟨rfl, hp.2 h2⟩]; omega
      · rw [if_neg (fun h => h2 h.2), if_neg (fun h => h2 (hp.1 h.2))]; omega
    · by_cases h3 : d = -1
      · subst h3
        by_cases h2 : 4 * rv (near Z) < Z
        · rw [if_pos ⟨rfl, h2⟩, if_pos ⟨rfl, hm.2 h2⟩]; omega
        · rw [if_neg (fun h => h2 h.2), if_neg (fun h => h1 h.1), if_neg (fun h => h2 (hm.1 h.2)), if_neg (fun h => by omega)]; omega
      · rw [if_neg (fun h => h3 h.1), if_neg (fun h => h1 h.1), if_neg (fun h => h3 h.1), if_neg (fun h => h1 h.1)]; omega
end Go.Proofs.Ytfbjeifhpmdjaaa.Rn

/-
  Plain: a product's parts, and what its nearest number lacks (Veltkamp, Dekker). Conditions: those that each theorem names.
-/
set_option linter.unusedVariables false

namespace Go.Proofs.Ytfbjeifhpmdjaaa.Rn

theorem pow_add_ (a b : Nat) : 2 ^ (a + b) = 2 ^ a * 2 ^ b := Nat.pow_add 2 a b
theorem p26 (u : Nat) : 2 ^ (26 + u) = 67108864 * 2 ^ u := by rw [pow_add_]
theorem p27 (u : Nat) : 2 ^ (27 + u) = 134217728 * 2 ^ u := by rw [pow_add_]
theorem p28 (u : Nat) : 2 ^ (28 + u) = 268435456 * 2 ^ u := by rw [pow_add_]

theorem Dv.mk (u : Nat) (k : Int) : Dv u (k * ((2 ^ u : Nat) : Int)) := Dv.iff.2 (Int.dvd_mul_left _ _)
theorem Dv.get {u : Nat} {S : Int} (h : Dv u S) : ∃ k : Int, S = k * ((2 ^ u : Nat) : Int) := by
  obtain ⟨k, hk⟩ := Dv.iff.1 h
  exact ⟨k, by rw [hk, Int.mul_comm]⟩
theorem rn_dv {S : Int} {u : Nat} (h : 9007199254740992 * 2 ^ u ≤ S.natAbs) : Dv (u + 1) (rn S) := by
  unfold Dv
  rw [rn_abs]
  exact Nat.dvd_trans (pow_dvd (ex_gt h)) (rn_dvd_ex _)

/-- What the cutting of a number by 2^27 + 1 gives. -/
structure Halves (u : Nat) (x h l : Int) : Prop where
  sum : h + l = x
  dvh : Dv (27 + u) h
  dvl : Dv u l
  lel : l.natAbs ≤ 67108864 * 2 ^ u
  leh : h.natAbs ≤ 9007199254740992 * 2 ^ u

theorem halves_nat {Q u : Nat} (h1 : 4503599627370496 * 2 ^ u ≤ Q) (h2 : Q < 9007199254740992 * 2 ^ u) (h3 : 2 ^ u ∣ Q) {t v h l : Int} (ht : t = rn (134217729 * (Q : Int))) (hv : v = rn (t - Q)) (hh : h = rn (t - v)) (hl : l = rn (Q - h)) :
    Halves u Q h l := by
  obtain ⟨A, hA⟩ : ∃ A, A = 2 ^ u := ⟨_, rfl⟩
  have hA0 : 0 < A := by rw [hA]; exact two_pow_pos u
  have h3' := h3
  obtain ⟨m, hm⟩ := h3
  have q26 := p26 u
  have q27 := p27 u
  have q28 := p28 u
  rw [← hA] at h1 h2 hm q26 q27 q28
  have hm' : m = 4503599627370496 ∨ 4503599627370497 ≤ m := by
    rcases Nat.lt_or_ge m 4503599627370496 with h | h
    · exfalso
      have := Nat.mul_lt_mul_of_pos_left h hA0
      omega
    · omega
  have hQhi : Q + A ≤ 9007199254740992 * A := by
    have : m < 9007199254740992 := by
      rcases Nat.lt_or_ge m 9007199254740992 with h | h
      · exact h
      · have := Nat.mul_le_mul_left A h; omega
    have := Nat.mul_le_mul_left A (show m + 1 ≤ 9007199254740992 by omega)
    rw [Nat.mul_add] at this
    omega
  have hQlo : Q = 4503599627370496 * A ∨ 4503599627370497 * A ≤ Q := by
    rcases hm' with h | h
    · left; rw [hm, h, Nat.mul_comm]
    · right; have := Nat.mul_le_mul_left A h; rw [hm]; omega
  clear hm' hm
  have hCQ : (134217729 * (Q : Int)).natAbs = 134217729 * Q := by omega
  -- t
  have ht1 : Dv (27 + u) t ∧ (2 * (t - 134217729 * (Q : Int)).natAbs ≤ 134217728 * A ∨ 1208925819614629174706176 * A ≤ 134217729 * Q ∧ 2 * (t - 134217729 * (Q : Int)).natAbs ≤ 268435456 * A) ∧ (Q = 4503599627370496 * A → t = 134217729 * (Q : Int)) := by
    refine ⟨?_, ?_, ?_⟩
    · rw [ht]
      have := rn_dv (S := 134217729 * (Q : Int)) (u := 26 + u) (by rw [hCQ, q26]; omega)
      rwa [show 26 + u + 1 = 27 + u by omega] at this
    · rcases Nat.lt_or_ge (134217729 * Q) (1208925819614629174706176 * A) with h | h
      · left
        have := rn_err (S := 134217729 * (Q : Int)) (u := 27 + u) (by rw [hCQ, q27]; omega)
        rwa [← ht, q27] at this
      · right
        refine ⟨h, ?_⟩
        have := rn_err (S := 134217729 * (Q : Int)) (u := 28 + u) (by rw [hCQ, q28]; omega)
        rwa [← ht, q28] at this
    · intro h
      rw [ht]
      refine rn_of ?_
      unfold RpZ
      rw [hCQ, h, show 134217729 * (4503599627370496 * A) = 4503599660924928 * 2 ^ (27 + u) by rw [q27]; omega]
      exact Rp.mk _ (by omega)
  obtain ⟨ht2, ht3, ht4⟩ := ht1
  -- v
  have hW1 : 604462909807314587353088 * A ≤ (t - Q).natAbs := by
    rcases hQlo with h | h
    · have := ht4 h; omega
    · rcases ht3 with h4 | ⟨h4, h5⟩ <;> omega
  have hW2 : (t - Q).natAbs ≤ 1208925819614629174706176 * A ∧ 0 < t - Q := by
    rcases ht3 with h4 | ⟨h4, h5⟩ <;> omega
  have hv1 : Dv (27 + u) v := by
    rw [hv]
    have := rn_dv (S := t - Q) (u := 26 + u) (by rw [q26]; omega)
    rwa [show 26 + u + 1 = 27 + u by omega] at this
  have hv2 : 2 * (v - (t - Q)).natAbs ≤ 134217728 * A := by
    rcases Nat.lt_or_ge (t - Q).natAbs (1208925819614629174706176 * A) with h | h
    · have := rn_err (S := t - Q) (u := 27 + u) (by rw [q27]; omega)
      rwa [← hv, q27] at this
    · have : RpZ (t - Q) := by
        unfold RpZ
        rw [show (t - Q).natAbs = 9007199254740992 * 2 ^ (27 + u) by rw [q27]; omega]
        exact Rp.mk _ (by omega)
      rw [hv, rn_of this, Int.sub_self]
      simp
  -- h
  have hh1 : Dv (27 + u) (t - v) := ht2.sub hv1
  have hh2 : (t - v).natAbs ≤ 9007199254740992 * A := by
    have := hh1.le (M := 67108864) (by rw [q27]; omega)
    rw [q27] at this
    omega
  have hh3 : h = t - v := by
    rw [hh]
    exact rn_of (hh1.rp (by rw [q27]; omega))
  have hQd : Dv u (Q : Int) := by
    unfold Dv
    rw [Int.natAbs_natCast]
    exact h3'
  have hl1 : Dv u ((Q : Int) - h) := hQd.sub (by rw [hh3]; exact hh1.mono (by omega))
  have hl2 : ((Q : Int) - h).natAbs ≤ 67108864 * A := by rw [hh3]; omega
  have hl3 : l = Q - h := by
    rw [hl]
    exact rn_of (hl1.rp (by rw [← hA]; omega))
  exact ⟨by rw [hl3]; omega, by rw [hh3]; exact hh1, by rw [hl3]; exact hl1, by rw [hl3, ← hA]; exact hl2, by rw [hh3, ← hA]; exact hh2⟩

theorem halves_spec {x : Int} (hx : RpZ x) {u : Nat} (hu : u = ex x.natAbs) (h0 : 4503599627370496 * 2 ^ u ≤ x.natAbs) {t v h l : Int} (ht : t = rn (134217729 * x)) (hv : v = rn (t - x)) (hh : h = rn (t - v)) (hl : l = rn (x - h)) :
    Halves u x h l := by
  have h2 := ex_hi x.natAbs
  rw [← hu] at h2
  have h3 := hx.dv (Nat.le_refl _)
  rw [← hu] at h3
  rcases Int.lt_or_le x 0 with hneg | hpos
  · obtain ⟨Q, hQ⟩ : ∃ Q : Nat, x = -(Q : Int) := ⟨x.natAbs, by omega⟩
    subst hQ
    rw [Int.natAbs_neg, Int.natAbs_natCast] at h0 h2
    unfold Dv at h3
    rw [Int.natAbs_neg, Int.natAbs_natCast] at h3
    have e1 : -t = rn (134217729 * (Q : Int)) := by rw [ht, ← rn_neg]; congr 1; omega
    have e2 : -v = rn (-t - Q) := by rw [hv, ← rn_neg]; congr 1; omega
    have e3 : -h = rn (-t - -v) := by rw [hh, ← rn_neg]; congr 1; omega
    have e4 : -l = rn ((Q : Int) - -h) := by rw [hl, ← rn_neg]; congr 1; omega
    have := halves_nat h0 h2 h3 e1 e2 e3 e4
    refine ⟨by have := this.sum; omega, ?_, ?_, ?_, ?_⟩
    · have := this.dvh.neg; rwa [Int.neg_neg] at this
    · have := this.dvl.neg; rwa [Int.neg_neg] at this
    · have := this.lel; rwa [Int.natAbs_neg] at this
    · have := this.leh; rwa [Int.natAbs_neg] at this
  · obtain ⟨Q, hQ⟩ : ∃ Q : Nat, x = (Q : Int) := ⟨x.natAbs, by omega⟩
    subst hQ
    rw [Int.natAbs_natCast] at h0 h2
    unfold Dv at h3
    rw [Int.natAbs_natCast] at h3
    exact halves_nat h0 h2 h3 ht hv hh hl

theorem Dv.mul {u v : Nat} {S T : Int} (h : Dv u S) (k : Dv v T) : Dv (u + v) (S * T) := by
  unfold Dv at *
  rw [Int.natAbs_mul, pow_add_]
  exact Nat.mul_dvd_mul h k
theorem abs_mul_le {S T : Int} {a b : Nat} (h : S.natAbs ≤ a) (k : T.natAbs ≤ b) : (S * T).natAbs ≤ a * b := by
  rw [Int.natAbs_mul]; exact Nat.mul_le_mul h k
/-- Divided by a power of 2 that goes into it. -/
theorem Dv.div {u c : Nat} {S : Int} (h : Dv (u + c) S) {q : Int} (hq : q * ((2 ^ c : Nat) : Int) = S) : Dv u q := by
  obtain ⟨k, hk⟩ := Dv.get h
  have hc : ((2 ^ c : Nat) : Int) ≠ 0 := by have := two_pow_pos c; omega
  rw [pow_add_, Int.natCast_mul, ← Int.mul_assoc, ← hq] at hk
  have := Int.eq_of_mul_eq_mul_right hc hk
  rw [this]
  exact Dv.mk u k
theorem abs_div_le {c M : Nat} {q S : Int} (hq : q * ((2 ^ c : Nat) : Int) = S) (h : S.natAbs ≤ M * 2 ^ c) : q.natAbs ≤ M := by
  rw [← hq, Int.natAbs_mul, Int.natAbs_natCast] at h
  exact Nat.le_of_mul_le_mul_right h (two_pow_pos c)

/-- Two numbers cut in two, in units in which the product of their last places is 2^k: what the nearest number to the product lacks of it. a, b, c, g: the products of the parts, as they are. -/
theorem dekker {k : Nat} {a b c g p q e1 e2 e3 r : Int} (ha : Dv (54 + k) a) (hb : Dv (27 + k) b) (hc : Dv (27 + k) c) (hg : Dv k g)
    (lb : b.natAbs ≤ 604462909807314587353088 * 2 ^ k) (lc : c.natAbs ≤ 604462909807314587353088 * 2 ^ k) (lg : g.natAbs ≤ 4503599627370496 * 2 ^ k)
    (hq : q = a + b + c + g) (hq1 : 20282409603651670423947251286016 * 2 ^ k ≤ q.natAbs) (hq2 : q.natAbs < 81129638414606681695789005144064 * 2 ^ k) (hp : p = rn q)
    (he1 : e1 = rn (a - p)) (he2 : e2 = rn (e1 + b)) (he3 : e3 = rn (e2 + c)) (hr : r = rn (e3 + g)) : r = q - p ∧ RpZ (q - p) := by
  obtain ⟨A, hA⟩ : ∃ A, A = 2 ^ k := ⟨_, rfl⟩
  have hA0 : 0 < A := by rw [hA]; exact two_pow_pos k
  have x27 := p27 k
  have x51 : 2 ^ (51 + k) = 2251799813685248 * A := by rw [pow_add_, ← hA]
  have x52 : 2 ^ (52 + k) = 4503599627370496 * A := by rw [pow_add_, ← hA]
  have x53 : 2 ^ (53 + k) = 9007199254740992 * A := by rw [pow_add_, ← hA]
  rw [← hA] at lb lc lg hq1 hq2 x27
  have dp : Dv (52 + k) p := by
    rw [hp]
    have := rn_dv (S := q) (u := 51 + k) (by rw [x51]; omega)
    rwa [show 51 + k + 1 = 52 + k by omega] at this
  have lp : 2 * (p - q).natAbs ≤ 9007199254740992 * A := by
    have := rn_err (S := q) (u := 53 + k) (by rw [x53]; omega)
    rwa [← hp, x53] at this
  have d1 : Dv (52 + k) (a - p) := (ha.mono (by omega)).sub dp
  have f1 : e1 = a - p := by rw [he1]; exact rn_of (d1.rp (by rw [x52]; omega))
  have d2 : Dv (27 + k) (e1 + b) := by rw [f1]; exact (d1.mono (by omega)).add hb
  have f2 : e2 = e1 + b := by rw [he2]; exact rn_of (d2.rp (by rw [x27]; omega))
  have d3 : Dv (27 + k) (e2 + c) := by rw [f2]; exact d2.add hc
  have f3 : e3 = e2 + c := by rw [he3]; exact rn_of (d3.rp (by rw [x27]; omega))
  have d4 : Dv k (e3 + g) := by rw [f3]; exact (d3.mono (by omega)).add hg
  have d5 : RpZ (e3 + g) := d4.rp (by rw [← hA]; omega)
  have f4 : e3 + g = q - p := by omega
  exact ⟨by rw [hr, rn_of d5, f4], by rw [← f4]; exact d5⟩
end Go.Proofs.Ytfbjeifhpmdjaaa.Rn

/-
  Plain: patterns with the sign turned; the negative of an interval. Conditions: those that each theorem names.
-/
set_option linter.unusedVariables false

namespace Go.Proofs.Ytfbjeifhpmdjaaa.Rn
open Nm

/-- The sign turned. -/
def ng (b : Nat) : Nat := if sg b then b - 9223372036854775808 else b + 9223372036854775808
theorem ng_lt {b : Nat} (h : b < 18446744073709551616) : ng b < 18446744073709551616 := by
  unfold ng sg; split <;> rename_i h1
  · have := of_decide_eq_true h1; omega
  · have := of_decide_eq_false (Bool.eq_false_iff.2 h1); omega
theorem mg_ng {b : Nat} (h : b < 18446744073709551616) : mg (ng b) = mg b := by
  unfold ng mg sg; split <;> rename_i h1
  · have := of_decide_eq_true h1; omega
  · have := of_decide_eq_false (Bool.eq_false_iff.2 h1); omega
theorem sg_ng {b : Nat} (h : b < 18446744073709551616) : sg (ng b) = !sg b := by
  unfold ng
  by_cases h1 : 9223372036854775808 ≤ b
  · have e : sg b = true := decide_eq_true h1
    rw [e, if_pos rfl]; unfold sg; exact decide_eq_false (by omega)
  · have e : sg b = false := decide_eq_false h1
    rw [e, if_neg (by simp)]; unfold sg; exact decide_eq_true (by omega)
theorem sv_ng {b : Nat} (h : b < 18446744073709551616) : sv (ng b) = -sv b := by
  unfold sv; rw [sg_ng h, mg_ng h]; cases sg b <;> simp
theorem key_ng {b : Nat} (h : b < 18446744073709551616) : key (ng b) = -key b := by
  unfold key; rw [sg_ng h, mg_ng h]; cases sg b <;> simp
theorem ng_xor {b : Nat} (h : b < 18446744073709551616) : b ^^^ 9223372036854775808 = ng b := by
  have e : (9223372036854775808 : Nat) = 2 ^ 63 := by rfl
  unfold ng
  refine Nat.eq_of_testBit_eq fun i => ?_
  rw [Nat.testBit_xor, e, Nat.testBit_two_pow]
  by_cases h1 : sg b = true
  · rw [if_pos h1]
    have h2 := of_decide_eq_true h1
    have e2 : b = 2 ^ 63 + (b - 2 ^ 63) := by omega
    by_cases hi : 63 = i
    · subst hi
      have : (b - 2 ^ 63).testBit 63 = false := Nat.testBit_lt_two_pow (by omega)
      rw [this]
      have : b.testBit 63 = true := by rw [e2, Nat.testBit_two_pow_add_eq, this]; rfl
      rw [this]; simp
    · rw [show decide (63 = i) = false from decide_eq_false hi, Bool.xor_false]
      rcases Nat.lt_or_ge i 63 with h3 | h3
      · conv => lhs; rw [e2]
        exact Nat.testBit_two_pow_add_gt h3 _
      · rw [Nat.testBit_lt_two_pow (Nat.lt_of_lt_of_le h (Nat.pow_le_pow_right (n := 2) (by omega) (show 64 ≤ i by omega)))]
        rw [Nat.testBit_lt_two_pow (Nat.lt_of_lt_of_le (show b - 2 ^ 63 < 2 ^ 64 by omega) (Nat.pow_le_pow_right (by omega) (show 64 ≤ i by omega)))]
  · rw [if_neg h1]
    have h2 := of_decide_eq_false (Bool.eq_false_iff.2 h1)
    rw [Nat.add_comm b]
    by_cases hi : 63 = i
    · subst hi
      rw [Nat.testBit_two_pow_add_eq]
      simp
    · rw [show decide (63 = i) = false from decide_eq_false hi, Bool.xor_false]
      rcases Nat.lt_or_ge i 63 with h3 | h3
      · exact (Nat.testBit_two_pow_add_gt h3 _).symm
      · rw [Nat.testBit_lt_two_pow (Nat.lt_of_lt_of_le h (Nat.pow_le_pow_right (n := 2) (by omega) (show 64 ≤ i by omega)))]
        rw [Nat.testBit_lt_two_pow (Nat.lt_of_lt_of_le (show 2 ^ 63 + b < 2 ^ 64 by omega) (Nat.pow_le_pow_right (by omega) (show 64 ≤ i by omega)))]

/-- The ends of an interval's negative. -/
def ngLo (lo hi : Nat) : Nat := if rdLo lo hi = infR ∧ rdHi lo hi = minf then infR else pl (ng (rdHi lo hi))
def ngHi (lo hi : Nat) : Nat := if rdLo lo hi = infR ∧ rdHi lo hi = minf then minf else pl (ng (rdLo lo hi))

theorem mg_fin {b : Nat} (h : b < 18446744073709551616) (hn : isNaN b = false) (h1 : b ≠ infR) (h2 : b ≠ minf) : mg b < infR := by
  have h3 : ¬ (infR < mg b) := of_decide_eq_false hn
  have e1 := infR_val
  have e2 := minf_val
  unfold mg at h3 ⊢
  omega
theorem fb_ng {b : Nat} (h : b < 18446744073709551616) : fbN (ng b) = fbN b ∧ fbD (ng b) = fbD b := by
  have e := mg_ng h
  unfold mg at e
  have e1 : ng b % 4503599627370496 = b % 4503599627370496 := by omega
  have e2 : ng b / 4503599627370496 % 2048 = b / 4503599627370496 % 2048 := by omega
  unfold fbN fbD fbSig fbExp
  rw [e1, e2]
  exact ⟨rfl, rfl⟩
theorem rnd_ng (d : Int) {b : Nat} (h : b < 18446744073709551616) (hf : mg b < infR) : rnd d (!(sg b && decide (mg b ≠ 0)) && decide (fbN b ≠ 0)) (zr (fbN b) (fbD b)) = pl (ng b) := by
  have h1 := rnd_bits d (ng_lt h) (by rw [mg_ng h]; exact hf)
  rw [sg_ng h, mg_ng h, (fb_ng h).1, (fb_ng h).2] at h1
  rw [← h1]
  congr 1
  have e : decide (fbN b ≠ 0) = decide (mg b ≠ 0) := decide_eq_decide.2 (not_congr (fbN_zero b))
  rw [e]
  cases sg b <;> cases decide (mg b ≠ 0) <;> rfl
theorem rd_ends {lo hi : Nat} (hl : lo < 18446744073709551616) (hh : hi < 18446744073709551616) (h : ¬ (rdLo lo hi = infR ∧ rdHi lo hi = minf)) :
    rdLo lo hi < 18446744073709551616 ∧ rdHi lo hi < 18446744073709551616 ∧ isNaN (rdLo lo hi) = false ∧ isNaN (rdHi lo hi) = false ∧ rdLo lo hi ≠ infR ∧ rdHi lo hi ≠ minf ∧ sndB lo hi = true ∧ key (rdLo lo hi) ≤ key (rdHi lo hi) := by
  cases hs : sndB lo hi
  · exact absurd (by unfold rdLo rdHi; rw [hs]; exact ⟨rfl, rfl⟩) h
  · have hn := snd_nan hs
    have e1 : rdLo lo hi = pl lo := by unfold rdLo; rw [hs]; rfl
    have e2 : rdHi lo hi = pl hi := by unfold rdHi; rw [hs]; rfl
    have hs' := hs
    unfold sndB ltB leB at hs'
    simp only [Bool.and_eq_true, decide_eq_true_eq] at hs'
    have k1 := hs'.1.2.2
    have k2 := hs'.2.2
    have k3 := hs'.1.1.2
    have i1 := infR_val
    have i2 := minf_val
    have kp : ∀ b, key (pl b) = key b := by
      intro b
      unfold pl
      split
      · rename_i hb; subst hb; rfl
      · rfl
    have np : ∀ b, isNaN b = false → isNaN (pl b) = false := by
      intro b hb
      unfold pl
      split
      · rfl
      · exact hb
    rw [e1, e2]
    refine ⟨pl_lt hl, pl_lt hh, np _ hn.1, np _ hn.2, fun hx => ?_, fun hx => ?_, rfl, by rw [kp, kp]; exact k3⟩
    · have := kp lo; rw [hx] at this; omega
    · have := kp hi; rw [hx] at this; omega
end Go.Proofs.Ytfbjeifhpmdjaaa.Rn

/-
  Plain: finite patterns by the whole number that they stand for, in units of 2^-1074: what +, -, * give. Conditions: those that each theorem names.
-/
set_option linter.unusedVariables false

namespace Go.Proofs.Ytfbjeifhpmdjaaa.Rn

/-- A pattern that stands for S times 2^-1074. -/
structure Fl (b : Nat) (S : Int) : Prop where
  lt : b < 18446744073709551616
  fin : mg b < infR
  val : sv b = S

theorem Fl.of {b : Nat} (h : b < 18446744073709551616) (hf : mg b < infR) : Fl b (sv b) := ⟨h, hf, rfl⟩
theorem sv_abs (b : Nat) : (sv b).natAbs = rv (mg b) := by unfold sv; split <;> omega
theorem Fl.abs {b : Nat} {S : Int} (h : Fl b S) : S.natAbs = rv (mg b) := by rw [← h.val, sv_abs]
theorem Fl.rp {b : Nat} {S : Int} (h : Fl b S) : RpZ S := by unfold RpZ; rw [h.abs]; exact ⟨_, rfl⟩
theorem Fl.nan {b : Nat} {S : Int} (h : Fl b S) : isNaN b = false := by unfold isNaN; exact decide_eq_false (by have := h.fin; omega)
theorem Fl.lt_iff {x y : Nat} {S T : Int} (h : Fl x S) (k : Fl y T) : key x < key y ↔ S < T := by rw [← h.val, ← k.val]; exact (rv_key x y).1.symm
theorem Fl.le_iff {x y : Nat} {S T : Int} (h : Fl x S) (k : Fl y T) : key x ≤ key y ↔ S ≤ T := by
  have := k.lt_iff h
  omega
theorem Fl.eq_iff {x y : Nat} {S T : Int} (h : Fl x S) (k : Fl y T) : key x = key y ↔ S = T := by rw [← h.val, ← k.val]; exact (rv_key x y).2.symm
theorem Fl.ltB {x y : Nat} {S T : Int} (h : Fl x S) (k : Fl y T) : ltB x y = decide (S < T) := by
  unfold Rn.ltB; rw [h.nan, k.nan]; simp only [Bool.not_false, Bool.true_and]; exact decide_eq_decide.2 (h.lt_iff k)
theorem Fl.leB {x y : Nat} {S T : Int} (h : Fl x S) (k : Fl y T) : leB x y = decide (S ≤ T) := by
  unfold Rn.leB; rw [h.nan, k.nan]; simp only [Bool.not_false, Bool.true_and]; exact decide_eq_decide.2 (h.le_iff k)
theorem Fl.eqB {x y : Nat} {S T : Int} (h : Fl x S) (k : Fl y T) : eqB x y = decide (S = T) := by
  unfold Rn.eqB; rw [h.nan, k.nan]; simp only [Bool.not_false, Bool.true_and]; exact decide_eq_decide.2 (h.eq_iff k)

theorem near_lt' (Z : Nat) : near Z < 9223372036854775808 := rr_lt 0 false Z

theorem sv_word {neg : Bool} {r : Nat} (hr : r < 9223372036854775808) : sv (Ieee.double.word neg r) = if neg then -(rv r : Int) else (rv r : Int) := by
  unfold sv
  rw [sg_word hr, mg_word hr]

/-- A word is the pattern of the rounded sum. -/
theorem Fl.word {neg : Bool} {S : Int} (hn : S ≠ 0 → neg = decide (S < 0)) (hS : nr S.natAbs < infR) : Fl (Ieee.double.word neg (near (4 * S.natAbs))) (rn S) := by
  have e : near (4 * S.natAbs) = nr S.natAbs := by rw [near_nr]; exact Nat.min_eq_left (by omega)
  have h1 := near_lt' (4 * S.natAbs)
  refine ⟨word_lt h1, by rw [mg_word h1, e]; exact hS, ?_⟩
  rw [sv_word h1, e]
  unfold rn
  by_cases h0 : S = 0
  · subst h0
    have := nr_rv 0
    rw [rv_zero] at this
    rw [show (0 : Int).natAbs = 0 from rfl, this, rv_zero]
    cases neg <;> rfl
  · rw [hn h0]
    by_cases h : S < 0
    · rw [decide_eq_true h, if_pos rfl, if_pos h]
    · rw [decide_eq_false h, if_neg (by simp), if_neg h]

theorem Fl.sum {neg : Bool} {S : Int} (hS : nr S.natAbs < infR) : Fl (sumPat neg S) (rn S) := by
  unfold sumPat
  by_cases h0 : S = 0
  · subst h0
    rw [if_pos rfl]
    have := Fl.word (neg := neg) (S := 0) (fun h => absurd rfl h) hS
    have e : near (4 * (0 : Int).natAbs) = 0 := rr_zero 0 false
    rwa [e] at this
  · rw [if_neg h0]
    exact Fl.word (fun _ => rfl) hS

theorem Fl.add {x y : Nat} {S T : Int} (h : Fl x S) (k : Fl y T) (hS : nr (S + T).natAbs < infR) : ∃ r, Ieee.double.add x y = some r ∧ Fl r (rn (S + T)) := by
  refine ⟨_, add_fin h.lt k.lt h.fin k.fin, ?_⟩
  rw [h.val, k.val]
  exact Fl.sum hS

theorem Fl.neg {b : Nat} {S : Int} (h : Fl b S) : Fl (ng b) (-S) := ⟨ng_lt h.lt, by rw [mg_ng h.lt]; exact h.fin, by rw [sv_ng h.lt, h.val]⟩
theorem read_ng {b : Nat} (h : b < 18446744073709551616) : Ieee.double.read (ng b) = (Ieee.double.read b).opposite := by
  have e : Ieee.double.signWeight = 9223372036854775808 := rfl
  have e1 : (ng b) % 9223372036854775808 = b % 9223372036854775808 := mg_ng h
  unfold Ieee.Format.read
  simp only [sg_bit h, sg_bit (ng_lt h), sg_ng h]
  rw [e, e1]
  by_cases c1 : b % 9223372036854775808 < Ieee.double.binade
  · rw [if_pos c1, if_pos c1]; rfl
  · rw [if_neg c1, if_neg c1]
    by_cases c2 : b % 9223372036854775808 < Ieee.double.infRung
    · rw [if_pos c2, if_pos c2]; rfl
    · rw [if_neg c2, if_neg c2]
      by_cases c3 : b % 9223372036854775808 = Ieee.double.infRung
      · rw [if_pos c3, if_pos c3]; rfl
      · rw [if_neg c3, if_neg c3]; rfl
theorem sub_add {x y : Nat} (hy : y < 18446744073709551616) : Ieee.double.sub x y = Ieee.double.add x (ng y) := by
  unfold Ieee.Format.sub Ieee.Format.add
  rw [read_ng hy]
theorem Fl.sub {x y : Nat} {S T : Int} (h : Fl x S) (k : Fl y T) (hS : nr (S - T).natAbs < infR) : ∃ r, Ieee.double.sub x y = some r ∧ Fl r (rn (S - T)) := by
  rw [sub_add k.lt, Int.sub_eq_add_neg]
  exact h.add k.neg (by rwa [← Int.sub_eq_add_neg])

theorem zq_mul_pow {q c : Nat} : zq (q * 2 ^ (c + 1)) (2 ^ c) = 4 * q := by
  rw [show 4 * q = 2 * (2 * q) by omega]
  refine (zq_eq (two_pow_pos c)).2 ?_
  rw [two_pow_s, Nat.mul_left_comm, Nat.mul_assoc]
theorem Fl.mul {x y : Nat} {S T q : Int} (h : Fl x S) (k : Fl y T) (hq : q * ((2 ^ 1074 : Nat) : Int) = S * T) (hS : nr q.natAbs < infR) : ∃ r, Ieee.double.mul x y = some r ∧ Fl r (rn q) := by
  obtain ⟨c, hc⟩ : ∃ c : Nat, c = 1073 := ⟨_, rfl⟩
  have hm := mul_fin h.lt k.lt h.fin k.fin
  rw [show (1074 : Nat) = c + 1 by omega] at hq
  rw [← hc] at hm
  have e : rv (mg x) * rv (mg y) = q.natAbs * 2 ^ (c + 1) := by
    rw [← h.abs, ← k.abs, ← Int.natAbs_mul, ← hq, Int.natAbs_mul, Int.natAbs_natCast]
  rw [e, zq_mul_pow] at hm
  refine ⟨_, hm, Fl.word (fun h0 => ?_) hS⟩
  have hp : (0 : Int) < ((2 ^ (c + 1) : Nat) : Int) := by have := two_pow_pos (c + 1); omega
  have hx : S = if sg x then -(rv (mg x) : Int) else (rv (mg x) : Int) := h.val.symm
  have hy : T = if sg y then -(rv (mg y) : Int) else (rv (mg y) : Int) := k.val.symm
  have h1 : S * T ≠ 0 := by rw [← hq]; exact Int.mul_ne_zero h0 (by omega)
  have h2 : rv (mg x) ≠ 0 := fun h3 => h1 (by rw [hx, h3]; cases sg x <;> simp)
  have h3 : rv (mg y) ≠ 0 := fun h3 => h1 (by rw [hy, h3]; cases sg y <;> simp)
  have h4 : (0 : Int) < (rv (mg x) : Int) * (rv (mg y) : Int) := Int.mul_pos (by omega) (by omega)
  have h5 : q < 0 ↔ S * T < 0 := by
    rw [← hq]
    constructor
    · intro h6; exact Int.mul_neg_of_neg_of_pos h6 hp
    · intro h6
      rcases Int.lt_or_le q 0 with h7 | h7
      · exact h7
      · have := Int.mul_nonneg h7 (show (0 : Int) ≤ ((2 ^ (c + 1) : Nat) : Int) by omega); omega
  rw [show decide (q < 0) = decide (S * T < 0) from decide_eq_decide.2 h5]
  rw [hx, hy]
  cases sg x <;> cases sg y <;> simp [Int.neg_mul, Int.mul_neg] <;> omega
end Go.Proofs.Ytfbjeifhpmdjaaa.Rn
