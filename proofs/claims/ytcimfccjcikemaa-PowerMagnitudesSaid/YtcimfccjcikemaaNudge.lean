/-
  Plain: what the nearest number and the sign of what it lacks tell of the number rounded in a direction. Conditions: those that each theorem names.
-/
import Derived.Test.YtcimfccjcikemaaNear
set_option linter.unusedVariables false

namespace Go.Proofs.Ytcimfccjcikemaa.Rn

/-- The pattern of a signed rung; there is no -0. -/
def kp (k : Int) : Nat := pat (decide (k < 0)) k.natAbs
theorem kp_pat (neg : Bool) (r : Nat) : pat neg r = kp (if neg then -(r : Int) else (r : Int)) := by
  unfold kp pat
  cases neg
  · rw [show (if false = true then -(r : Int) else (r : Int)) = (r : Int) from rfl, Int.natAbs_natCast, decide_eq_false (by omega)]
  · rw [show (if true = true then -(r : Int) else (r : Int)) = -(r : Int) from rfl, Int.natAbs_neg, Int.natAbs_natCast]
    by_cases h : r = 0
    · rw [if_pos h, if_pos h]
    · rw [if_neg h, if_neg h, decide_eq_true (by omega)]
theorem kp_key {b : Nat} (h : b < 18446744073709551616) : kp (key b) = pl b := by
  unfold kp pat key pl sg mg
  by_cases h1 : 9223372036854775808 ≤ b
  · simp only [h1, decide_true, if_true]
    by_cases h2 : b = 9223372036854775808
    · subst h2; rfl
    · rw [if_neg (by omega), if_neg h2, if_pos (by simp; omega)]; omega
  · simp only [h1, decide_false, Bool.false_eq_true, if_false]
    rw [if_neg (show ¬ b = 9223372036854775808 by omega), if_neg (show ¬ decide (((b % 9223372036854775808 : Nat) : Int) < 0) = true by simp; omega), Int.natAbs_natCast]
    split <;> omega
/-- The step that the direction asks for. -/
def adj (d e : Int) : Int := if d = -1 ∧ e < 0 then -1 else if d = 1 ∧ 0 < e then 1 else 0

theorem near_lt (Z : Nat) (hZ : Z ≤ 4 * rv (infR - 2)) : near Z < infR ∧ rung (Z / 4) < infR - 1 ∧ (near Z = rung (Z / 4) ∨ near Z = rung (Z / 4) + 1) := by
  have h1 : rung (Z / 4) ≤ infR - 2 := by
    have := rung_mono (show Z / 4 ≤ rv (infR - 2) by omega)
    rwa [rung_rv] at this
  have h2 := infR_val
  have h3 : near Z = rung (Z / 4) ∨ near Z = rung (Z / 4) + 1 := by
    unfold near rr
    rw [if_neg (by omega)]
    split
    · right; omega
    · left; omega
  omega

theorem rr_nudge (d : Int) (neg : Bool) {Z : Nat} (hZ : Z ≤ 4 * rv (infR - 2)) :
    rr d neg Z = if (d = 1 ∧ neg = false ∨ d = -1 ∧ neg = true) ∧ 4 * rv (near Z) < Z then near Z + 1 else if (d = 1 ∧ neg = true ∨ d = -1 ∧ neg = false) ∧ Z < 4 * rv (near Z) then near Z - 1 else near Z := by
  obtain ⟨h1, h2, h3⟩ := near_lt Z hZ
  have h4 := rung_spec (Z / 4)
  have h5 := infR_val
  have hn : ¬ d = 1 → ¬ d = -1 → rr d neg Z = near Z := fun a b => by
    have haw : away d neg Z = away 0 false Z := by
      unfold away
      rw [if_neg a, if_neg b, if_neg (show ¬ (0 : Int) = 1 by omega), if_neg (show ¬ (0 : Int) = -1 by omega)]
    unfold near rr
    rw [haw, if_neg (show ¬ ((d = 1 ∧ neg = true) ∨ (d = -1 ∧ neg = false)) by rintro (⟨h, -⟩ | ⟨h, -⟩); exact a h; exact b h), if_neg (show ¬ (((0 : Int) = 1 ∧ false = true) ∨ ((0 : Int) = -1 ∧ false = false)) by omega)]
  by_cases hd1 : d = 1
  · subst hd1
    cases neg
    · -- up
      have e1 : rr 1 false Z = if Z = 4 * rv (rung (Z / 4)) then rung (Z / 4) else rung (Z / 4) + 1 := by
        unfold rr away
        rw [if_neg (by simp)]
        by_cases h6 : Z = 4 * rv (rung (Z / 4))
        · rw [if_pos h6, if_pos h6, if_neg (by simp), Nat.min_eq_left (by omega)]
        · rw [if_neg h6, if_neg h6, if_pos rfl, if_pos (by simp), Nat.min_eq_left (by omega)]
      rw [e1]
      rw [if_neg (show ¬ ((((1 : Int) = 1 ∧ false = true) ∨ ((1 : Int) = -1 ∧ false = false)) ∧ Z < 4 * rv (near Z)) by simp)]
      simp only [and_self, true_or, true_and]
      rcases h3 with h3 | h3
      · rw [h3]
        by_cases h6 : Z = 4 * rv (rung (Z / 4))
        · rw [if_pos h6, if_neg (by omega)]
        · rw [if_neg h6, if_pos (by omega)]
      · rw [h3]
        have h7 : Z ≠ 4 * rv (rung (Z / 4)) := by
          intro h6
          unfold near rr away at h3
          rw [if_neg (by omega), if_pos h6] at h3
          simp at h3
          omega
        rw [if_neg h7, if_neg (by omega)]
    · -- toward 0
      have e1 : rr 1 true Z = rung (Z / 4) := by
        unfold rr
        rw [if_pos (by simp), Nat.min_eq_left (by omega)]
      rw [e1]
      rw [if_neg (show ¬ ((((1 : Int) = 1 ∧ true = false) ∨ ((1 : Int) = -1 ∧ true = true)) ∧ 4 * rv (near Z) < Z) by simp)]
      simp only [and_self, true_or, true_and]
      rcases h3 with h3 | h3
      · rw [h3, if_neg (by omega)]
      · rw [h3, if_pos (by omega)]; omega
  · by_cases hd2 : d = -1
    · subst hd2
      cases neg
      · have e1 : rr (-1) false Z = rung (Z / 4) := by
          unfold rr
          rw [if_pos (by simp), Nat.min_eq_left (by omega)]
        rw [e1]
        rw [if_neg (show ¬ ((((-1 : Int) = 1 ∧ false = false) ∨ ((-1 : Int) = -1 ∧ false = true)) ∧ 4 * rv (near Z) < Z) by simp)]
        simp only [and_self, or_true, true_and]
        rcases h3 with h3 | h3
        · rw [h3, if_neg (by omega)]
        · rw [h3, if_pos (by omega)]; omega
      · have e1 : rr (-1) true Z = if Z = 4 * rv (rung (Z / 4)) then rung (Z / 4) else rung (Z / 4) + 1 := by
          unfold rr away
          rw [if_neg (by simp)]
          by_cases h6 : Z = 4 * rv (rung (Z / 4))
          · rw [if_pos h6, if_pos h6, if_neg (by simp), Nat.min_eq_left (by omega)]
          · rw [if_neg h6, if_neg h6, if_neg (show ¬ (-1 : Int) = 1 by omega), if_pos rfl, if_pos (by simp), Nat.min_eq_left (by omega)]
        rw [e1]
        rw [if_neg (show ¬ ((((-1 : Int) = 1 ∧ true = true) ∨ ((-1 : Int) = -1 ∧ true = false)) ∧ Z < 4 * rv (near Z)) by simp)]
        simp only [and_self, or_true, true_and]
        rcases h3 with h3 | h3
        · rw [h3]
          by_cases h6 : Z = 4 * rv (rung (Z / 4))
          · rw [if_pos h6, if_neg (by omega)]
          · rw [if_neg h6, if_pos (by omega)]
        · rw [h3]
          have h7 : Z ≠ 4 * rv (rung (Z / 4)) := by
            intro h6
            unfold near rr away at h3
            rw [if_neg (by omega), if_pos h6] at h3
            simp at h3
            omega
          rw [if_neg h7, if_neg (by omega)]
    · rw [hn hd1 hd2, if_neg (by rintro ⟨a, -⟩; rcases a with ⟨a, -⟩ | ⟨a, -⟩; exact hd1 a; exact hd2 a), if_neg (by rintro ⟨a, -⟩; rcases a with ⟨a, -⟩ | ⟨a, -⟩; exact hd1 a; exact hd2 a)]

/-- The nearest number, and a step where the direction and the sign of what it lacks ask for one. -/
theorem rnd_nudge (d : Int) (neg : Bool) {Z : Nat} (hZ : Z ≤ 4 * rv (infR - 2)) {K e : Int} (hK : K = if neg then -(near Z : Int) else (near Z : Int))
    (hp : 0 < e ↔ if neg then Z < 4 * rv (near Z) else 4 * rv (near Z) < Z) (hm : e < 0 ↔ if neg then 4 * rv (near Z) < Z else Z < 4 * rv (near Z)) :
    rnd d neg Z = kp (K + adj d e) := by
  have h0 : Z < 4 * rv (near Z) → near Z ≠ 0 := fun h h1 => by rw [h1, rv_zero] at h; omega
  unfold rnd
  rw [kp_pat]
  congr 1
  rw [rr_nudge d neg hZ, hK]
  unfold adj
  cases neg
  · simp only [Bool.false_eq_true, if_false, and_true, and_false, or_false, false_or] at hp hm ⊢
    by_cases h1 : d = 1
    · subst h1
      rw [if_neg (show ¬ ((1 : Int) = -1 ∧ e < 0) by omega)]
      by_cases h2 : 4 * rv (near Z) < Z
      · rw [if_pos ⟨rfl, h2⟩, if_pos ⟨rfl, hp.2 h2⟩]; omega
      · rw [if_neg (fun h => h2 h.2), if_neg (fun h => by omega), if_neg (fun h => h2 (hp.1 h.2))]; omega
    · by_cases h3 : d = -1
      · subst h3
        rw [if_neg (fun h => h1 h.1)]
        by_cases h2 : Z < 4 * rv (near Z)
        · have := h0 h2
          rw [if_pos ⟨rfl, h2⟩, if_pos ⟨rfl, hm.2 h2⟩]; omega
        · rw [if_neg (fun h => h2 h.2), if_neg (fun h => h2 (hm.1 h.2)), if_neg (fun h => by omega)]; omega
      · rw [if_neg (fun h => h1 h.1), if_neg (fun h => h3 h.1), if_neg (fun h => h3 h.1), if_neg (fun h => h1 h.1)]; omega
  · simp only [if_true, and_true, and_false, or_false, false_or, Bool.true_eq_false] at hp hm ⊢
    by_cases h1 : d = 1
    · subst h1
      rw [if_neg (show ¬ ((1 : Int) = -1 ∧ e < 0) by omega), if_neg (show ¬ ((1 : Int) = -1 ∧ 4 * rv (near Z) < Z) by omega)]
      by_cases h2 : Z < 4 * rv (near Z)
      · have := h0 h2
        rw [if_pos ⟨rfl, h2⟩, if_pos ⟨rfl, hp.2 h2⟩]; omega
      · rw [if_neg (fun h => h2 h.2), if_neg (fun h => h2 (hp.1 h.2))]; omega
    · by_cases h3 : d = -1
      · subst h3
        by_cases h2 : 4 * rv (near Z) < Z
        · rw [if_pos ⟨rfl, h2⟩, if_pos ⟨rfl, hm.2 h2⟩]; omega
        · rw [if_neg (fun h => h2 h.2), if_neg (fun h => h1 h.1), if_neg (fun h => h2 (hm.1 h.2)), if_neg (fun h => by omega)]; omega
      · rw [if_neg (fun h => h3 h.1), if_neg (fun h => h1 h.1), if_neg (fun h => h3 h.1), if_neg (fun h => h1 h.1)]; omega
end Go.Proofs.Ytcimfccjcikemaa.Rn
