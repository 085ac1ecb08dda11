/-
  Plain: roots rounded down and up lie about the root. Conditions: those that each theorem names.
-/
import Derived.Test.YtmcfflecaklpcaaZ34
set_option linter.unusedVariables false
set_option linter.unusedSimpArgs false
namespace Go.Proofs.Ytmcfflecaklpcaa.Rn
open Nm

theorem nroot_ex {n : Nat} (hn : 1 ≤ n) : ∀ P : Nat, ∃ W, W ^ n ≤ P ∧ P < (W + 1) ^ n
  | 0 => ⟨0, by rw [Nat.zero_pow (by omega)]; omega, by rw [Nat.zero_add, Nat.one_pow]; omega⟩
  | P + 1 => by
    obtain ⟨W, h1, h2⟩ := nroot_ex hn P
    rcases Nat.lt_or_ge (P + 1) ((W + 1) ^ n) with h | h
    · exact ⟨W, by omega, h⟩
    · have h3 : (W + 1) ^ n < (W + 1 + 1) ^ n := Nat.pow_lt_pow_left (by omega) (by omega)
      exact ⟨W + 1, h, by omega⟩
theorem pw_le_iff {n W P r : Nat} (h1 : W ^ n ≤ P) (h2 : P < (W + 1) ^ n) : r ^ n ≤ P ↔ r ≤ W := by
  constructor
  · intro h
    rcases Nat.lt_or_ge W r with h3 | h3
    · have := Nat.pow_le_pow_left (show W + 1 ≤ r from h3) n; omega
    · exact h3
  · intro h
    have := Nat.pow_le_pow_left h n; omega
theorem pw_lt_iff {n W P r : Nat} (hn : n ≠ 0) (h1 : W ^ n ≤ P) (h2 : P < (W + 1) ^ n) : r ^ n < P ↔ r < W ∨ (r = W ∧ W ^ n ≠ P) := by
  constructor
  · intro h
    have := (pw_le_iff h1 h2).1 (Nat.le_of_lt h)
    by_cases h3 : r = W
    · subst h3; exact .inr ⟨rfl, by omega⟩
    · exact .inl (by omega)
  · rintro (h | ⟨rfl, h⟩)
    · have h3 : r ^ n < W ^ n := Nat.pow_lt_pow_left h hn
      omega
    · omega

/-- The Z of a root, to the last unit. -/
theorem root_z {X n : Nat} (hX : 0 < X) (hn : 1 ≤ n) : ∃ Z, (∀ r, 4 * r ≤ Z ↔ r ^ n ≤ X * K74 ^ (n - 1)) ∧ (∀ r, 4 * r < Z ↔ r ^ n < X * K74 ^ (n - 1)) ∧ ∀ d, rootV d false X K74 n = rnd d false Z := by
  obtain ⟨P, hP⟩ : ∃ P, P = X * K74 ^ (n - 1) := ⟨_, rfl⟩
  obtain ⟨W, w1, w2⟩ := nroot_ex hn P
  obtain ⟨o, ho⟩ : ∃ o, o = decide (W ^ n ≠ P) := ⟨_, rfl⟩
  obtain ⟨m, hm⟩ : ∃ m, n = m + 1 := ⟨n - 1, by omega⟩
  subst hm
  rw [Nat.add_sub_cancel] at hP ⊢
  have hat : RootAt X K74 (m + 1) 1074 W o := by
    obtain ⟨c, hc, hK⟩ : ∃ c : Nat, c = 1074 ∧ K74 = 2 ^ c := ⟨1074, rfl, K74_def⟩
    have e1 : X * 2 ^ (c * (m + 1)) = P * K74 := by rw [hP, Nat.mul_assoc, ← Nat.pow_succ, hK, ← Nat.pow_mul]
    have e2 : ∀ R : Nat, R ^ (m + 1) * (K74 * 2 ^ 0) = R ^ (m + 1) * K74 := fun R => by rw [Nat.pow_zero, Nat.mul_one]
    refine ⟨c * (m + 1), 0, by rw [hc]; omega, ?_, ?_, ?_⟩
    · rw [e1, e2]; exact Nat.mul_le_mul_right _ w1
    · rw [e1, e2]; exact Nat.mul_lt_mul_of_pos_right w2 K74_pos
    · rw [e1, e2, ho]
      refine decide_eq_decide.2 (not_congr ⟨fun h => by rw [h], fun h => Nat.eq_of_mul_eq_mul_right K74_pos h⟩)
  have hbl : o = true → 55 ≤ bl W := by
    intro ht
    rw [ho] at ht
    have ht := of_decide_eq_true ht
    rcases Nat.lt_or_ge (bl W) 55 with h | h
    · exfalso
      have h1 := lt_pow_bl W
      have h2 : 2 ^ bl W ≤ 2 ^ 54 := Nat.pow_le_pow_right (by omega) (by omega)
      have h3 := Nat.pow_le_pow_left (show W + 1 ≤ 2 ^ 54 by omega) (m + 1)
      by_cases hm0 : m = 0
      · subst hm0
        rw [Nat.zero_add, Nat.pow_one] at w1 w2 ht
        omega
      · have h4 : P ≥ K74 ^ m := by rw [hP]; exact Nat.le_mul_of_pos_left _ hX
        have h5 : ((2 : Nat) ^ 54) ^ (m + 1) ≤ K74 ^ m := by
          obtain ⟨c, hc, hK⟩ : ∃ c : Nat, c = 1074 ∧ K74 = 2 ^ c := ⟨1074, rfl, K74_def⟩
          rw [hK, ← Nat.pow_mul, ← Nat.pow_mul]
          refine Nat.pow_le_pow_right (by omega) ?_
          rw [hc]
          omega
        omega
    · exact h
  have hv := fun d => hat.val (by omega) K74_pos hbl d false
  have hz : zd (2 * W + o.toNat) (-1074 - 1) = 2 * (2 * W + o.toNat) := by
    rw [zd_of (A := 0) (B := 0) (by omega), Nat.pow_zero, Nat.mul_one, zq_one]
  refine ⟨2 * (2 * W + o.toNat), fun r => ?_, fun r => ?_, fun d => by rw [← hv d, hz]⟩
  · rw [← hP, pw_le_iff w1 w2]
    have : o.toNat ≤ 1 := by cases o <;> simp
    omega
  · rw [← hP, pw_lt_iff (by omega) w1 w2]
    by_cases h : W ^ (m + 1) ≠ P
    · rw [ho, decide_eq_true h]; simp [h]; omega
    · rw [ho, decide_eq_false h]; simp [h]; omega

theorem root_tight {X n : Nat} (hX : 0 < X) (hn : 1 ≤ n) (hM : X ≤ rv (infR - 1)) :
    rootV (-1) false X K74 n ≤ infR - 1 ∧ rootV 1 false X K74 n ≤ infR - 1 ∧
      ((rootV (-1) false X K74 n = rootV 1 false X K74 n ∧ rv (rootV (-1) false X K74 n) ^ n = X * K74 ^ (n - 1)) ∨
       (rootV (-1) false X K74 n + 1 = rootV 1 false X K74 n ∧ rv (rootV (-1) false X K74 n) ^ n < X * K74 ^ (n - 1) ∧ X * K74 ^ (n - 1) < rv (rootV 1 false X K74 n) ^ n)) := by
  obtain ⟨Z, z1, z2, z3⟩ := root_z hX hn
  rw [z3, z3]
  have hi := infR_val
  have hmax : Z ≤ 4 * rv (infR - 1) := by
    rcases Nat.lt_or_ge (4 * rv (infR - 1)) Z with h | h
    · exfalso
      have h1 := (z2 _).1 h
      have hk : K74 ≤ rv (infR - 1) := by
        have h2 := cap_rv
        have h3 := K74_Kg
        have h4 : rv (infR - 2) ≤ rv (infR - 1) := rv_le (by omega)
        omega
      have h5 : X * K74 ^ (n - 1) ≤ rv (infR - 1) * rv (infR - 1) ^ (n - 1) := Nat.mul_le_mul hM (Nat.pow_le_pow_left hk _)
      rw [← Nat.pow_succ', Nat.succ_eq_add_one, Nat.sub_add_cancel hn] at h5
      omega
    · exact h
  obtain ⟨f, hf⟩ : ∃ f, f = rung (Z / 4) := ⟨_, rfl⟩
  obtain ⟨w1, w2⟩ := rung_spec (Z / 4)
  have hfm : f ≤ infR - 1 := by
    have := rung_mono (show Z / 4 ≤ rv (infR - 1) by omega)
    rw [rung_rv] at this
    omega
  have hlo : rnd (-1) false Z = f := by
    unfold rnd rr
    rw [if_pos (.inr ⟨rfl, rfl⟩), ← hf, Nat.min_eq_left hfm]
    unfold pat
    split
    · omega
    · rfl
  have hhi : rnd 1 false Z = if Z = 4 * rv f then f else f + 1 := by
    unfold rnd rr
    rw [if_neg (by simp)]
    unfold away
    rw [← hf]
    by_cases he : Z = 4 * rv f
    · rw [if_pos he, if_pos he, if_neg (by simp), Nat.min_eq_left (by omega)]
      unfold pat
      split
      · omega
      · rfl
    · rw [if_neg he, if_neg he, if_pos rfl, if_pos (by simp), Nat.min_eq_left (by omega)]
      unfold pat
      split
      · omega
      · rfl
  rw [← hf] at w1 w2
  rw [hlo, hhi]
  by_cases he : Z = 4 * rv f
  · rw [if_pos he]
    refine ⟨hfm, hfm, .inl ⟨rfl, ?_⟩⟩
    have h1 := (z1 (rv f)).1 (by omega)
    have h2 : ¬ rv f ^ n < X * K74 ^ (n - 1) := fun h => by have := (z2 (rv f)).2 h; omega
    omega
  · rw [if_neg he]
    have hf1 : f ≠ infR - 1 := fun e => by
      rw [e] at w1 he
      omega
    refine ⟨hfm, by omega, .inr ⟨rfl, (z2 _).1 (by omega), ?_⟩⟩
    rcases Nat.lt_or_ge (X * K74 ^ (n - 1)) (rv (f + 1) ^ n) with h | h
    · exact h
    · have := (z1 _).2 h; omega
end Go.Proofs.Ytmcfflecaklpcaa.Rn
