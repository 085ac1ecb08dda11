/-
  Plain: Newton's steps towards the n-th root of a natural, from above. Conditions: those that each theorem names.
-/
import Derived.Test.YtadijoeeaineaaaDoorT24
set_option linter.unusedVariables false
set_option linter.unusedSimpArgs false
namespace Go.Proofs.YtadijoeeaineaaaDoor.Rn
open Nm

theorem swap_le (x z X Z : Nat) (h : (x ≤ z ∧ X ≤ Z) ∨ (z ≤ x ∧ Z ≤ X)) : x * Z + z * X ≤ z * Z + x * X := by
  rcases h with ⟨h1, h2⟩ | ⟨h1, h2⟩
  · obtain ⟨a, rfl⟩ : ∃ a, z = x + a := ⟨z - x, by omega⟩
    obtain ⟨b, rfl⟩ : ∃ b, Z = X + b := ⟨Z - X, by omega⟩
    simp only [Nat.mul_add, Nat.add_mul]
    omega
  · obtain ⟨a, rfl⟩ : ∃ a, x = z + a := ⟨x - z, by omega⟩
    obtain ⟨b, rfl⟩ : ∃ b, X = Z + b := ⟨X - Z, by omega⟩
    simp only [Nat.mul_add, Nat.add_mul]
    omega

/-- The mean of n numbers is not below their geometric mean (here: z, and n - 1 times x). -/
theorem means (x z : Nat) : ∀ n : Nat, (n + 1) * (z * x ^ n) ≤ z ^ (n + 1) + n * x ^ (n + 1)
  | 0 => by simp
  | n + 1 => by
    have ih := means x z n
    have h1 : x * ((n + 1) * (z * x ^ n)) ≤ x * (z ^ (n + 1) + n * x ^ (n + 1)) := Nat.mul_le_mul_left x ih
    have e1 : x * ((n + 1) * (z * x ^ n)) = (n + 1) * (z * x ^ (n + 1)) := by
      rw [Nat.pow_succ]; simp only [Nat.mul_assoc, Nat.mul_comm, Nat.mul_left_comm]
    have e2 : x * (z ^ (n + 1) + n * x ^ (n + 1)) = x * z ^ (n + 1) + n * x ^ (n + 1 + 1) := by
      rw [Nat.mul_add, Nat.pow_succ x (n + 1)]; congr 1; simp only [Nat.mul_assoc, Nat.mul_comm, Nat.mul_left_comm]
    have e3 : (n + 1 + 1) * (z * x ^ (n + 1)) = (n + 1) * (z * x ^ (n + 1)) + z * x ^ (n + 1) := by rw [Nat.add_mul (n + 1) 1, Nat.one_mul]
    have e4 : (n + 1) * x ^ (n + 1 + 1) = n * x ^ (n + 1 + 1) + x * x ^ (n + 1) := by rw [Nat.add_mul, Nat.one_mul, Nat.pow_succ' (n := n + 1)]
    have h2 := swap_le x z (x ^ (n + 1)) (z ^ (n + 1)) (by
      rcases Nat.le_total x z with h | h
      · exact .inl ⟨h, Nat.pow_le_pow_left h _⟩
      · exact .inr ⟨h, Nat.pow_le_pow_left h _⟩)
    rw [e3, e4, Nat.pow_succ' (n := n + 1) (m := z)] 
    rw [e1, e2] at h1
    omega

/-- How far it is: x is at least the root. -/
structure WhRel (V n X x : Nat) : Prop where
  top : ∀ z, z ^ n ≤ V → z ≤ x
  x1 : 1 ≤ x
  xX : x ≤ X
/-- A Newton step. -/
def newt (V n x : Nat) : Nat := (x * (n - 1) + V / x ^ (n - 1)) / n
theorem newt_top {V n x z : Nat} (hn : 1 ≤ n) (hx : 1 ≤ x) (hz : z ^ n ≤ V) : z ≤ newt V n x := by
  obtain ⟨m, rfl⟩ : ∃ m, n = m + 1 := ⟨n - 1, by omega⟩
  unfold newt
  rw [Nat.add_sub_cancel, Nat.le_div_iff_mul_le (by omega)]
  have hP : 0 < x ^ m := Nat.pow_pos (by omega)
  have hm := means x z m
  rcases Nat.lt_or_ge (x * m) (z * (m + 1)) with h | h
  · obtain ⟨d, hd⟩ : ∃ d, z * (m + 1) = x * m + d := ⟨z * (m + 1) - x * m, by omega⟩
    have e1 : (m + 1) * (z * x ^ m) = x * m * x ^ m + d * x ^ m := by
      rw [← Nat.mul_assoc, Nat.mul_comm (m + 1) z, hd, Nat.add_mul]
    have e2 : m * x ^ (m + 1) = x * m * x ^ m := by rw [Nat.pow_succ']; simp only [Nat.mul_assoc, Nat.mul_comm, Nat.mul_left_comm]
    rw [e1, e2] at hm
    have h3 : d * x ^ m ≤ V := by omega
    have h4 : d ≤ V / x ^ m := (Nat.le_div_iff_mul_le hP).2 h3
    omega
  · exact Nat.le_trans h (Nat.le_add_right _ _)
theorem WhRel.next {V n X x : Nat} (h : WhRel V n X x) (hn : 1 ≤ n) (hV : 1 ≤ V) (hlt : newt V n x < x) : WhRel V n X (newt V n x) :=
  ⟨fun z hz => newt_top hn h.x1 hz, newt_top hn h.x1 (by rw [Nat.one_pow]; exact hV), by have := h.xX; omega⟩
theorem WhRel.done {V n X x : Nat} (h : WhRel V n X x) (hn : 1 ≤ n) (hle : x ≤ newt V n x) : x ^ n ≤ V ∧ V < (x + 1) ^ n := by
  refine ⟨?_, ?_⟩
  · obtain ⟨m, rfl⟩ : ∃ m, n = m + 1 := ⟨n - 1, by omega⟩
    unfold newt at hle
    rw [Nat.add_sub_cancel, Nat.le_div_iff_mul_le (by omega)] at hle
    have hP : 0 < x ^ m := Nat.pow_pos (by have := h.x1; omega)
    have h1 : x ≤ V / x ^ m := by rw [Nat.mul_add, Nat.mul_one] at hle; omega
    rw [Nat.le_div_iff_mul_le hP] at h1
    rw [Nat.pow_succ']
    exact h1
  · rcases Nat.lt_or_ge V ((x + 1) ^ n) with h1 | h1
    · exact h1
    · have := h.top _ h1
      omega
theorem WhRel.of {V n x : Nat} (hn : n ≠ 0) (hV : 1 ≤ V) (h : V < (x + 1) ^ n) : WhRel V n x x := by
  have ht : ∀ z, z ^ n ≤ V → z ≤ x := fun z hz => by
    rcases Nat.lt_or_ge x z with h1 | h1
    · have := Nat.pow_le_pow_left (show x + 1 ≤ z by omega) n
      omega
    · exact h1
  exact ⟨ht, ht 1 (by rw [Nat.one_pow]; exact hV), Nat.le_refl _⟩

/-- The bits of a root. -/
theorem root_bl {r n b : Nat} (hn : 1 ≤ n) (h : r ^ n ≤ b) (hr : 1 ≤ r) : n * bl r ≤ bl b + n := by
  have h1 := pow_le_of_bl (n := r) (by omega)
  obtain ⟨q, hq⟩ : ∃ q, bl r = q + 1 := ⟨bl r - 1, by have := bl_pos (n := r) (by omega); omega⟩
  rw [hq, Nat.add_sub_cancel] at h1
  have h2 : 2 ^ (q * n) ≤ r ^ n := by rw [Nat.pow_mul]; exact Nat.pow_le_pow_left h1 n
  have h3 := lt_pow_bl b
  have h4 : q * n < bl b := (Nat.pow_lt_pow_iff_right (a := 2) (by omega)).1 (by omega)
  rw [hq, Nat.mul_add, Nat.mul_one, Nat.mul_comm]
  omega

theorem bl_up {k x : Nat} (h : 2 ^ k ≤ x) : bl (x / 2 ^ k) + k = bl x := by
  have hp := two_pow_pos k
  have h0 : x / 2 ^ k ≠ 0 := by
    have := (Nat.le_div_iff_mul_le hp).2 (show 1 * 2 ^ k ≤ x by omega)
    omega
  have h1 : bl (x / 2 ^ k * 2 ^ k) ≤ bl x := bl_mono (Nat.div_mul_le_self x (2 ^ k))
  rw [bl_mul_pow k h0] at h1
  have h2 : bl x ≤ bl (x / 2 ^ k) + k := by
    rw [bl_le_iff, Nat.pow_add]
    exact (Nat.div_lt_iff_lt_mul hp).1 (lt_pow_bl _)
  omega

/-- From where it starts: few bits. -/
theorem wh_small {V n : Nat} (hn : 2 ≤ n) (hV : 1 ≤ V) (h : (bl V / n) / 2 < 2) : WhRel V n 32 32 ∧ n * bl 32 ≤ bl V + 6 * n := by
  refine ⟨WhRel.of (by omega) hV ?_, ?_⟩
  · have h1 : bl V < 4 * n := by
      have h2 : bl V / n < 4 := by omega
      rwa [Nat.div_lt_iff_lt_mul (by omega)] at h2
    have h3 := lt_pow_bl V
    have h4 : 2 ^ bl V ≤ 2 ^ (4 * n) := Nat.pow_le_pow_right (by omega) (by omega)
    rw [Nat.pow_mul] at h4
    have h5 : (2 ^ 4) ^ n ≤ (32 + 1) ^ n := Nat.pow_le_pow_left (by omega) n
    omega
  · rw [show bl 32 = 6 by decide +kernel]; omega
/-- From where it starts: the root of the upper bits. -/
theorem wh_big {V n h r : Nat} (hn : 2 ≤ n) (hV : 1 ≤ V) (hh : h = (bl V / n) / 2) (h2 : 2 ≤ h) (h3 : r ^ n ≤ V / 2 ^ (h * n)) (h4 : V / 2 ^ (h * n) < (r + 1) ^ n) :
    WhRel V n ((r + 1) * 2 ^ h) ((r + 1) * 2 ^ h) ∧ n * bl ((r + 1) * 2 ^ h) ≤ bl V + 6 * n := by
  have hp := two_pow_pos (h * n)
  have hle : h * n * 2 ≤ bl V := by
    have := Nat.div_mul_le_self (bl V / n) 2
    have h5 := Nat.div_mul_le_self (bl V) n
    rw [← hh] at this
    have h6 : h * 2 * n ≤ bl V / n * n := Nat.mul_le_mul_right n this
    have h7 : h * n * 2 = h * 2 * n := Nat.mul_right_comm _ _ _
    omega
  have hVlt : V < ((r + 1) * 2 ^ h) ^ n := by
    rw [Nat.mul_pow, ← Nat.pow_mul]
    rwa [Nat.div_lt_iff_lt_mul hp] at h4
  refine ⟨WhRel.of (by omega) hV ?_, ?_⟩
  · exact Nat.lt_of_lt_of_le hVlt (Nat.pow_le_pow_left (by omega) n)
  · have hb := bl_up (k := h * n) (x := V) (by
      have h1 := pow_le_of_bl (n := V) (by omega)
      have h2 := bl_pos (n := V) (by omega)
      exact Nat.le_trans (Nat.pow_le_pow_right (by omega) (by omega)) h1)
    have hb1 : bl ((r + 1) * 2 ^ h) ≤ bl r + 1 + h := by
      rw [bl_mul_pow h (by omega)]
      have := bl_le_iff (n := r + 1) (k := bl r + 1) |>.2 (by have := lt_pow_bl r; rw [Nat.pow_succ]; omega)
      omega
    have h8 : n * bl ((r + 1) * 2 ^ h) ≤ n * (bl r + 1 + h) := Nat.mul_le_mul_left n hb1
    rw [Nat.mul_add, Nat.mul_add, Nat.mul_one, Nat.mul_comm n h] at h8
    by_cases hr : r = 0
    · subst hr
      rw [bl_zero] at h8
      omega
    · have h9 := root_bl (by omega) h3 (by omega)
      omega
/-- The upper bits are some, and fewer. -/
theorem wh_less {V n h : Nat} (hn : 2 ≤ n) (hV : 1 ≤ V) (hh : h = (bl V / n) / 2) (h2 : 2 ≤ h) : 1 ≤ V / 2 ^ (h * n) ∧ bl (V / 2 ^ (h * n)) < bl V ∧ h * n ≤ bl V ∧ h ≤ bl V := by
  have hle : h * n * 2 ≤ bl V := by
    have := Nat.div_mul_le_self (bl V / n) 2
    have h5 := Nat.div_mul_le_self (bl V) n
    rw [← hh] at this
    have h6 : h * 2 * n ≤ bl V / n * n := Nat.mul_le_mul_right n this
    have h7 : h * n * 2 = h * 2 * n := Nat.mul_right_comm _ _ _
    omega
  have hb := bl_up (k := h * n) (x := V) (by
    have h1 := pow_le_of_bl (n := V) (by omega)
    have h2 := bl_pos (n := V) (by omega)
    exact Nat.le_trans (Nat.pow_le_pow_right (by omega) (by omega)) h1)
  have hb0 := bl_pos (n := V) (by omega)
  have h1 : 2 * 2 ≤ h * n := Nat.mul_le_mul h2 hn
  have h3 : h * 1 ≤ h * n := Nat.mul_le_mul_left h (by omega)
  refine ⟨?_, by omega, by omega, by omega⟩
  rcases Nat.eq_zero_or_pos (V / 2 ^ (h * n)) with h0 | h0
  · exfalso; rw [h0, bl_zero] at hb; omega
  · exact h0
end Go.Proofs.YtadijoeeaineaaaDoor.Rn

/-
  Plain: the program's root: how far it shifts, and what it finds. Conditions: those that each theorem names.
-/
set_option linter.unusedVariables false
set_option linter.unusedSimpArgs false
namespace Go.Proofs.YtadijoeeaineaaaDoor.Rn
open Nm

theorem root_at {V k X N r : Nat} {e x : Int} (h1 : r ^ N ≤ V * 2 ^ k) (h2 : V * 2 ^ k < (r + 1) ^ N) (he : (N : Int) * e = x - k) (hX : (X : Int) = x + 1074) :
    RootAt (V * 2 ^ X) K74 N (-e) r (decide (r ^ N ≠ V * 2 ^ k)) := by
  obtain ⟨T, hT, hK⟩ : ∃ T : Nat, T = 1074 ∧ K74 = 2 ^ T := ⟨1074, rfl, K74_def⟩
  rw [hK]
  have e1 : V * 2 ^ X * 2 ^ (k + T) = V * 2 ^ k * (2 ^ T * 2 ^ X) := by rw [Nat.pow_add]; simp only [Nat.mul_assoc, Nat.mul_comm, Nat.mul_left_comm]
  have hp : 0 < 2 ^ T * 2 ^ X := Nat.mul_pos (two_pow_pos T) (two_pow_pos X)
  refine ⟨k + T, X, ?_, ?_, ?_, ?_⟩
  · rw [Int.mul_neg, he]; push_cast; omega
  · rw [e1]; exact Nat.mul_le_mul_right _ h1
  · rw [e1]; exact Nat.mul_lt_mul_of_pos_right h2 hp
  · rw [e1]
    refine decide_eq_decide.2 (not_congr ⟨fun h => by rw [h], fun h => Nat.eq_of_mul_eq_mul_right hp h⟩)

/-- How far it shifts. -/
theorem shift_at (x : Int) (k0 : Nat) {N : Nat} (hN : 1 ≤ N) : ∃ kE : Nat, ∃ e : Int, k0 ≤ kE ∧ kE < k0 + N ∧ (N : Int) * e = x - kE ∧ (x - kE).tmod N = 0 ∧ (x - kE).tdiv N = e ∧ ∀ k : Nat, k0 ≤ k → k < kE → (x - (k : Int)).tmod N ≠ 0 := by
  have hN' : (0 : Int) < N := by omega
  have h1 := Int.emod_nonneg (x - k0) (show (N : Int) ≠ 0 by omega)
  have h2 := Int.emod_lt_of_pos (x - k0) hN'
  have h3 := Int.mul_ediv_add_emod (x - k0) N
  obtain ⟨E, hE⟩ : ∃ E : Nat, (E : Int) = (x - k0) % N := ⟨((x - k0) % N).toNat, by omega⟩
  rw [← hE] at h1 h2 h3
  obtain ⟨e, he⟩ : ∃ e, e = (x - k0) / (N : Int) := ⟨_, rfl⟩
  rw [← he] at h3
  have hx : x - ((k0 + E : Nat) : Int) = N * e := by push_cast; omega
  refine ⟨k0 + E, e, by omega, by omega, hx.symm, ?_, ?_, fun k hk1 hk2 h => ?_⟩
  · rw [hx]; exact Int.mul_tmod_right _ _
  · rw [hx]; exact Int.mul_tdiv_cancel_left _ (by omega)
  · have hd := Int.dvd_of_tmod_eq_zero h
    have hd2 : (N : Int) ∣ (x - (k : Int)) - N * e := Int.dvd_sub hd (Int.dvd_mul_right _ _)
    have hpos : 0 < (x - (k : Int)) - N * e := by rw [← hx]; push_cast; omega
    have := Int.le_of_dvd hpos hd2
    rw [← hx] at this
    push_cast at this
    omega

theorem root_long {V k N r : Nat} (hV : 1 ≤ V) (hN : 1 ≤ N) (hk : 58 * N ≤ bl V + k) (h2 : V * 2 ^ k < (r + 1) ^ N) : 55 ≤ bl r := by
  rcases Nat.lt_or_ge (bl r) 55 with h | h
  · exfalso
    have h3 := lt_pow_bl r
    have h4 : 2 ^ bl r ≤ 2 ^ 54 := Nat.pow_le_pow_right (by omega) (by omega)
    have h5 : (r + 1) ^ N ≤ (2 ^ 54) ^ N := Nat.pow_le_pow_left (by omega) N
    rw [← Nat.pow_mul] at h5
    have h6 := pow_le_of_bl (n := V * 2 ^ k) (Nat.ne_of_gt (Nat.mul_pos hV (two_pow_pos k)))
    rw [bl_mul_pow k (by omega)] at h6
    have h7 : 2 ^ (54 * N) ≤ 2 ^ (bl V + k - 1) := Nat.pow_le_pow_right (by omega) (by omega)
    omega
  · exact h
end Go.Proofs.YtadijoeeaineaaaDoor.Rn

/-
  Plain: the model's square root, and the root rounded in a direction. Conditions: those that each theorem names.
-/
set_option linter.unusedVariables false
set_option linter.unusedSimpArgs false
namespace Go.Proofs.YtadijoeeaineaaaDoor.Rn
open Nm

theorem rootFrom_spec (n : Nat) : ∀ todo r : Nat, r * r ≤ n → n < (r + 2 ^ todo) * (r + 2 ^ todo) →
    Ieee.Datum.rootFrom n todo r * Ieee.Datum.rootFrom n todo r ≤ n ∧ n < (Ieee.Datum.rootFrom n todo r + 1) * (Ieee.Datum.rootFrom n todo r + 1)
  | 0, r, h1, h2 => by
    unfold Ieee.Datum.rootFrom
    rw [Nat.pow_zero] at h2
    exact ⟨h1, h2⟩
  | todo + 1, r, h1, h2 => by
    unfold Ieee.Datum.rootFrom
    simp only [Nat.one_shiftLeft]
    have e : r + 2 ^ (todo + 1) = r + 2 ^ todo + 2 ^ todo := by rw [Nat.pow_succ]; omega
    split
    · rename_i h
      exact rootFrom_spec n todo _ h (by rw [← e]; exact h2)
    · rename_i h
      exact rootFrom_spec n todo _ h1 (by omega)
theorem isqrt_spec {n : Nat} (hn : n ≠ 0) : Ieee.Datum.rootFrom n (n.log2 / 2 + 1) 0 * Ieee.Datum.rootFrom n (n.log2 / 2 + 1) 0 ≤ n ∧ n < (Ieee.Datum.rootFrom n (n.log2 / 2 + 1) 0 + 1) * (Ieee.Datum.rootFrom n (n.log2 / 2 + 1) 0 + 1) := by
  refine rootFrom_spec n _ 0 (by omega) ?_
  rw [Nat.zero_add, ← Nat.pow_add]
  have h := (log2_bounds hn).2
  exact Nat.lt_of_lt_of_le h (Nat.pow_le_pow_right (by omega) (by omega))

theorem sq_le_iff {W P r : Nat} (h1 : W * W ≤ P) (h2 : P < (W + 1) * (W + 1)) : r * r ≤ P ↔ r ≤ W := by
  constructor
  · intro h
    rcases Nat.lt_or_ge W r with h3 | h3
    · have := Nat.mul_le_mul (show W + 1 ≤ r from h3) (show W + 1 ≤ r from h3); omega
    · exact h3
  · intro h
    have := Nat.mul_le_mul h h; omega
theorem sq_lt_iff {W P r : Nat} (h1 : W * W ≤ P) (h2 : P < (W + 1) * (W + 1)) : r * r < P ↔ r < W ∨ (r = W ∧ W * W ≠ P) := by
  constructor
  · intro h
    have := (sq_le_iff h1 h2).1 (Nat.le_of_lt h)
    by_cases h3 : r = W
    · subst h3; exact .inr ⟨rfl, by omega⟩
    · exact .inl (by omega)
  · rintro (h | ⟨rfl, h⟩)
    · have h3 : r * r < W * W := Nat.mul_self_lt_mul_self h
      omega
    · omega

/-- The Z of a square root, to the last unit. -/
theorem sqrt_z {X : Nat} (hX : 0 < X) : ∃ Z, (∀ r, 4 * r ≤ Z ↔ r * r ≤ X * K74) ∧ (∀ r, 4 * r < Z ↔ r * r < X * K74) ∧ ∀ d, rootV d false X K74 2 = rnd d false Z := by
  obtain ⟨P, hP⟩ : ∃ P, P = X * K74 := ⟨_, rfl⟩
  have hP0 : P ≠ 0 := by rw [hP]; exact Nat.ne_of_gt (Nat.mul_pos hX K74_pos)
  obtain ⟨W, hW⟩ : ∃ W, W = Ieee.Datum.rootFrom P (P.log2 / 2 + 1) 0 := ⟨_, rfl⟩
  obtain ⟨w1, w2⟩ := isqrt_spec hP0
  rw [← hW] at w1 w2
  obtain ⟨o, ho⟩ : ∃ o, o = decide (W * W ≠ P) := ⟨_, rfl⟩
  have hat : RootAt X K74 2 1074 W o := by
    obtain ⟨c, hc, hK⟩ : ∃ c : Nat, c = 1074 ∧ K74 = 2 ^ c := ⟨1074, rfl, K74_def⟩
    have e1 : X * 2 ^ (c + c) = P * K74 := by rw [hP, hK, Nat.pow_add, Nat.mul_assoc]
    have e2 : ∀ R : Nat, R ^ 2 * (K74 * 2 ^ 0) = R * R * K74 := fun R => by rw [Nat.pow_succ, Nat.pow_one, Nat.pow_zero, Nat.mul_one]
    refine ⟨c + c, 0, by push_cast; omega, ?_, ?_, ?_⟩
    · rw [e1, e2]; exact Nat.mul_le_mul_right _ w1
    · rw [e1, e2]; exact Nat.mul_lt_mul_of_pos_right w2 K74_pos
    · rw [e1, e2, ho]
      refine decide_eq_decide.2 (not_congr ⟨fun h => by rw [h], fun h => Nat.eq_of_mul_eq_mul_right K74_pos h⟩)
  have hbl : 55 ≤ bl W := by
    rcases Nat.lt_or_ge (bl W) 55 with h | h
    · exfalso
      have h1 := lt_pow_bl W
      have h2 : 2 ^ bl W ≤ 2 ^ 54 := Nat.pow_le_pow_right (by omega) (by omega)
      have h3 := Nat.mul_le_mul (show W + 1 ≤ 2 ^ 54 by omega) (show W + 1 ≤ 2 ^ 54 by omega)
      have h4 : P ≥ K74 := by rw [hP]; exact Nat.le_mul_of_pos_left _ hX
      have h5 : (2 : Nat) ^ 54 * 2 ^ 54 ≤ K74 := by
        obtain ⟨c, hc, hK⟩ : ∃ c : Nat, c = 1074 ∧ K74 = 2 ^ c := ⟨1074, rfl, K74_def⟩
        rw [hK, ← Nat.pow_add]; exact Nat.pow_le_pow_right (by omega) (by omega)
      omega
    · exact h
  have hv := fun d => hat.val (by omega) K74_pos (fun _ => hbl) d false
  have hz : zd (2 * W + o.toNat) (-1074 - 1) = 2 * (2 * W + o.toNat) := by
    rw [zd_of (A := 0) (B := 0) (by omega), Nat.pow_zero, Nat.mul_one, zq_one]
  refine ⟨2 * (2 * W + o.toNat), fun r => ?_, fun r => ?_, fun d => by rw [← hv d, hz]⟩
  · rw [← hP, sq_le_iff w1 w2]
    have : o.toNat ≤ 1 := by cases o <;> simp
    omega
  · rw [← hP, sq_lt_iff w1 w2]
    by_cases h : W * W ≠ P
    · rw [ho, decide_eq_true h]; simp [h]; omega
    · rw [ho, decide_eq_false h]; simp [h]; omega

/-- The model's square root is the nearest. -/
theorem sqrt_fin {x : Nat} (hx : x < 18446744073709551616) (fx : mg x < infR) (hs : sg x = false) (h0 : mg x ≠ 0) :
    ∃ Z, Ieee.double.sqrt x = some (Ieee.double.word false (near Z)) ∧ (∀ r, 4 * r ≤ Z ↔ r * r ≤ rv (mg x) * K74) ∧ (∀ r, 4 * r < Z ↔ r * r < rv (mg x) * K74) ∧ ∀ d, rootV d false (rv (mg x)) K74 2 = rnd d false Z := by
  have hX : 0 < rv (mg x) := Nat.pos_of_ne_zero fun e => h0 (rv_eq_zero.1 e)
  obtain ⟨Z, z1, z2, z3⟩ := sqrt_z hX
  refine ⟨Z, ?_, z1, z2, z3⟩
  obtain ⟨m, i, e1, hi, v1⟩ := read_fin hx fx
  have hm : m ≠ 0 := by
    intro h
    rw [h, Nat.zero_mul] at v1
    omega
  unfold Ieee.Format.sqrt
  rw [e1, hs]
  simp only [Ieee.Datum.root, if_neg hm, Bool.false_eq_true, if_false, Option.map_some]
  congr 1
  unfold Ieee.Format.write
  simp only
  rw [nearest_eq, near_eq]
  congr 1
  have e3 : Ieee.double.fractionBits + 2 = 54 := rfl
  rw [e3]
  obtain ⟨m1, hm1⟩ : ∃ m1, m1 = 2 * 54 - m.log2 := ⟨_, rfl⟩
  rw [← hm1]
  obtain ⟨more, hmore⟩ : ∃ more, more = m1 + ((i - m1) % 2).toNat := ⟨_, rfl⟩
  rw [← hmore, Nat.shiftLeft_eq]
  have hn0 : m * 2 ^ more ≠ 0 := Nat.ne_of_gt (Nat.mul_pos (by omega) (two_pow_pos _))
  obtain ⟨w1, w2⟩ := isqrt_spec hn0
  obtain ⟨W, hW⟩ : ∃ W, W = Ieee.Datum.rootFrom (m * 2 ^ more) ((m * 2 ^ more).log2 / 2 + 1) 0 := ⟨_, rfl⟩
  rw [← hW] at w1 w2 ⊢
  have heven : (i - more) % 2 = 0 := by rw [hmore]; omega
  obtain ⟨e, he⟩ : ∃ e, e = (i - (more : Int)) / 2 := ⟨_, rfl⟩
  rw [← he]
  obtain ⟨U, hU⟩ : ∃ U : Nat, U = (i + 1074).toNat := ⟨_, rfl⟩
  rw [← hU] at v1
  have sq : ∀ R : Nat, R ^ 2 = R * R := fun R => by rw [Nat.pow_succ, Nat.pow_one]
  have hat := root_at (V := m) (k := more) (X := U) (N := 2) (r := W) (e := e) (x := i) (by rw [sq]; exact w1) (by rw [sq]; exact w2) (by omega) (by omega)
  rw [v1, sq] at hat
  have hb : 55 ≤ bl W := by
    rcases Nat.lt_or_ge (bl W) 55 with h | h
    · exfalso
      have h1 := lt_pow_bl W
      have h2 : 2 ^ bl W ≤ 2 ^ 54 := Nat.pow_le_pow_right (by omega) (by omega)
      have h3 := Nat.mul_le_mul (show W + 1 ≤ 2 ^ 54 by omega) (show W + 1 ≤ 2 ^ 54 by omega)
      have h4 := (log2_bounds hm).1
      have h5 : 2 ^ m.log2 * 2 ^ more ≤ m * 2 ^ more := Nat.mul_le_mul_right _ h4
      rw [← Nat.pow_add] at h5 h3
      have h6 : (2 : Nat) ^ (54 + 54) ≤ 2 ^ (m.log2 + more) := Nat.pow_le_pow_right (by omega) (by omega)
      omega
    · exact h
  have hv := hat.val (by omega) K74_pos (fun _ => hb) 0 false
  rw [z3 0] at hv
  have hmk : (W * W != m * 2 ^ more) = decide (W * W ≠ m * 2 ^ more) := by
    by_cases h : W * W = m * 2 ^ more
    · rw [h]; simp
    · rw [decide_eq_true h]; simpa using h
  rw [hmk]
  have hp : ∀ z, rnd 0 false z = near z := fun z => by
    unfold rnd pat near
    split
    · rename_i h; exact h.symm
    · rfl
  rw [hp, hp, Int.neg_neg] at hv
  exact hv
end Go.Proofs.YtadijoeeaineaaaDoor.Rn

/-
  Plain: the quick road of a square root answers the number rounded in the direction. Conditions: those that each theorem names.
-/
set_option linter.unusedVariables false
set_option linter.unusedSimpArgs false
namespace Go.Proofs.YtadijoeeaineaaaDoor.Rn
open Nm

theorem Ks_K74 : 4 * Ks ≤ K74 := by
  obtain ⟨c, hc, hK⟩ : ∃ c : Nat, c = 1074 ∧ K74 = 2 ^ c := ⟨1074, rfl, K74_def⟩
  obtain ⟨a, ha, hK2⟩ : ∃ a : Nat, a = 174 ∧ Ks = 2 ^ a := ⟨174, rfl, Ks_def⟩
  rw [hK, hK2, show 4 * 2 ^ a = 2 ^ (a + 2) by rw [Nat.pow_add]; omega]
  exact Nat.pow_le_pow_right (by omega) (by omega)
theorem K74_Kg : 4 * K74 ≤ Kg := by
  obtain ⟨c, hc, hK⟩ : ∃ c : Nat, c = 1074 ∧ K74 = 2 ^ c := ⟨1074, rfl, K74_def⟩
  obtain ⟨a, ha, hK2⟩ : ∃ a : Nat, a = 1974 ∧ Kg = 2 ^ a := ⟨1974, rfl, Kg_def⟩
  rw [hK, hK2, show 4 * 2 ^ c = 2 ^ (c + 2) by rw [Nat.pow_add]; omega]
  exact Nat.pow_le_pow_right (by omega) (by omega)

/-- The root lies in the middle. -/
theorem sqrt_mid {x s : Nat} {X : Int} (hx : Fl x X) (mx : Mid X) (h0 : 0 < X) (hs : Ieee.double.sqrt x = some s) :
    ∃ Z f A, s = near Z ∧ mg s < infR ∧ s < 9223372036854775808 ∧ Z ≤ 4 * rv (infR - 2) ∧ Mid (sv s) ∧ rv f ≤ rv s ∧ rv s ≤ rv f + A ∧ 4503599627370496 * A ≤ rv f ∧ rv f * rv f ≤ rv (mg x) * K74 ∧ rv (mg x) * K74 < (rv f + A) * (rv f + A) ∧
      (∀ r, 4 * r ≤ Z ↔ r * r ≤ rv (mg x) * K74) ∧ (∀ r, 4 * r < Z ↔ r * r < rv (mg x) * K74) ∧ ∀ d, rootV d false (rv (mg x)) K74 2 = rnd d false Z := by
  have hxa := hx.abs
  have hX0 : 0 < rv (mg x) := by omega
  have hmx : mg x ≠ 0 := fun h => by rw [h, rv_zero] at hX0; omega
  have hsg : sg x = false := by
    cases h : sg x
    · rfl
    · have := hx.val
      unfold sv at this
      rw [h, if_pos rfl] at this
      omega
  obtain ⟨Z, e, z1, z2, z3⟩ := sqrt_fin hx.lt hx.fin hsg hmx
  rw [e] at hs
  injection hs with hs
  have hnl := near_lt' Z
  have hms : mg s = near Z := by rw [← hs, mg_word hnl]
  have hss : sg s = false := by rw [← hs, sg_word hnl]
  have hsl : s < 18446744073709551616 := by rw [← hs]; exact word_lt hnl
  have hsn : s = near Z := by
    have h1 := of_decide_eq_false (p := 9223372036854775808 ≤ s) hss
    unfold mg at hms
    omega
  have k1 := Ks_K74
  have k2 := K74_Kg
  have m1 := mx.1
  have m2 := mx.2
  rw [hxa] at m1 m2
  obtain ⟨Xn, hXn⟩ : ∃ Xn, Xn = rv (mg x) := ⟨_, rfl⟩
  rw [← hXn] at m1 m2 z1 z2 z3 hX0 ⊢
  have hZ1 : Z < 4 * Kg := by
    rcases Nat.lt_or_ge Z (4 * Kg) with h | h
    · exact h
    · exfalso
      have h1 := (z1 Kg).1 h
      have h2 : Xn * K74 ≤ Kg * K74 := Nat.mul_le_mul_right _ (by omega)
      have h3 : Kg * (4 * K74) ≤ Kg * Kg := Nat.mul_le_mul_left _ k2
      have h4 : Kg * (4 * K74) = 4 * (Kg * K74) := Nat.mul_left_comm _ _ _
      have h5 : 0 < Kg * K74 := Nat.mul_pos (by omega) K74_pos
      omega
  have hZ2 : Z ≤ 4 * rv (infR - 2) := by have := cap_rv; omega
  obtain ⟨n1, n2, n3⟩ := near_lt Z hZ2
  obtain ⟨f, hf⟩ : ∃ f, f = rung (Z / 4) := ⟨_, rfl⟩
  obtain ⟨w1, w2⟩ := rung_spec (Z / 4)
  rw [← hf] at w1 w2 n3
  have y1 : rv f * rv f ≤ Xn * K74 := (z1 _).1 (by omega)
  have y2 : Xn * K74 < rv (f + 1) * rv (f + 1) := by
    rcases Nat.lt_or_ge (Xn * K74) (rv (f + 1) * rv (f + 1)) with h | h
    · exact h
    · have := (z1 _).2 h; omega
  obtain ⟨sf, g1, g2, g3, g4⟩ := rv_dvd f
  obtain ⟨v, hv⟩ : ∃ v, v = f / 4503599627370496 - 1 := ⟨_, rfl⟩
  rw [← hv] at g1 g2 g4
  have hu2 : rv (f + 1) = rv f + 2 ^ v := by rw [g2, g1, Nat.add_mul, Nat.one_mul]
  have hKs : 9007199254740992 ≤ Ks := by
    obtain ⟨a, ha, hK2⟩ : ∃ a : Nat, a = 174 ∧ Ks = 2 ^ a := ⟨174, rfl, Ks_def⟩
    rw [hK2, show (9007199254740992 : Nat) = 2 ^ 53 by decide]
    exact Nat.pow_le_pow_right (by omega) (by omega)
  -- not small
  have hlo : Ks < rv f := by
    rcases Nat.lt_or_ge Ks (rv f) with h | h
    · exact h
    · exfalso
      have h1 : rv (f + 1) ≤ 2 * Ks := by
        by_cases h2 : v = 0
        · rw [h2, Nat.pow_zero] at hu2; omega
        · have h3 := Nat.mul_le_mul_right (2 ^ v) (g4 h2)
          rw [← g1] at h3
          omega
      have h4 := Nat.mul_le_mul h1 h1
      have h5 : Ks * (4 * Ks) ≤ Xn * K74 := Nat.mul_le_mul (by omega) k1
      have h6 : 2 * Ks * (2 * Ks) = Ks * (4 * Ks) := by
        rw [show 4 * Ks = 2 * (2 * Ks) by omega]; ac_rfl
      omega
  have hv0 : v ≠ 0 := by
    intro h
    rw [h, Nat.pow_zero] at g1 g2
    omega
  have hA : 4503599627370496 * 2 ^ v ≤ rv f := by rw [g1]; exact Nat.mul_le_mul_right _ (g4 hv0)
  -- not great
  have hhi : rv (f + 1) < Kg := by
    rcases Nat.lt_or_ge (rv (f + 1)) Kg with h | h
    · exact h
    · exfalso
      have h1 : Kg ≤ 2 * rv f := by omega
      have h2 : Kg * Kg ≤ 2 * rv f * (2 * rv f) := Nat.mul_le_mul h1 h1
      have h3 : 2 * rv f * (2 * rv f) = 4 * (rv f * rv f) := by
        rw [show (4 : Nat) = 2 * 2 from rfl]; ac_rfl
      have h4 : Kg * (4 * K74) ≤ Kg * Kg := Nat.mul_le_mul_left _ k2
      have h5 : Kg * (4 * K74) = 4 * (Kg * K74) := Nat.mul_left_comm _ _ _
      have h6 : Xn * K74 < Kg * K74 := Nat.mul_lt_mul_of_pos_right m2 K74_pos
      omega
  have r1 : rv f ≤ rv s := rv_le (by omega)
  have r2 : rv s ≤ rv (f + 1) := rv_le (by omega)
  have hab : (sv s).natAbs = rv s := by rw [sv_abs, hms, hsn]
  refine ⟨Z, f, 2 ^ v, hsn, by rw [hms]; exact n1, by omega, hZ2, ⟨by omega, by omega⟩, r1, by omega, hA, y1, by rw [← hu2]; exact y2, z1, z2, z3⟩

set_option maxHeartbeats 4000000 in
theorem sqrt_quick {x s p : Nat} {X : Int} (hx : Fl x X) (mx : Mid X) (h0 : 0 < X) (hs : Ieee.double.sqrt x = some s) (hp : Ieee.double.mul s s = some p) (fp : mg p < infR) (mp : Mid (sv p)) :
    ∃ m a b M E, MissedOps s s p m ∧ Ieee.double.sub x p = some a ∧ Ieee.double.sub a m = some b ∧ Fl m M ∧ Fl b E ∧ ∀ d, rootV d false (rv (mg x)) K74 2 = kp (key s + adj d E) := by
  obtain ⟨Z, f, A, hsn, fs, hsl, hZ, ms, r1, r2, hA, y1, y2, z1, z2, z3⟩ := sqrt_mid hx mx h0 hs
  have hF : Fl s (sv s) := Fl.of (by omega) fs
  have hsv : sv s = (rv s : Int) := by
    unfold sv sg mg
    rw [decide_eq_false (by omega), if_neg (by simp), Nat.mod_eq_of_lt hsl]
  obtain ⟨r, m, hr, hr0, hrg, om, fpr, fm, -⟩ := mul_quick hF hF ms ms hp fp mp
  have hK := K74_pos
  rw [K74_i, hsv] at hr
  have hrp : 0 < r := by
    rcases Int.lt_or_le 0 r with h | h
    · exact h
    · exfalso
      have h1 : r < 0 := by omega
      have h2 : r * (K74 : Int) < 0 := Int.mul_neg_of_neg_of_pos h1 (by omega)
      have h3 : (0 : Int) ≤ (rv s : Int) * (rv s : Int) := Int.mul_nonneg (by omega) (by omega)
      omega
  obtain ⟨rn', hrn⟩ : ∃ k : Nat, r = (k : Int) := ⟨r.toNat, by omega⟩
  have hrv : rn' * K74 = rv s * rv s := by
    rw [hrn] at hr
    have h1 : ((rn' * K74 : Nat) : Int) = ((rv s * rv s : Nat) : Int) := by push_cast; exact hr
    omega
  obtain ⟨Xn, hXn⟩ : ∃ Xn, Xn = rv (mg x) := ⟨_, rfl⟩
  have hxa := hx.abs
  rw [← hXn] at y1 y2 z1 z2 z3 hxa ⊢
  have hXe : X = (Xn : Int) := by omega
  obtain ⟨F, hFd⟩ : ∃ F, F = rv f := ⟨_, rfl⟩
  rw [← hFd] at r1 r2 hA y1 y2
  have q0 : (F + A) * (F + A) ≤ F * F + 3 * (F * A) := by
    have e : (F + A) * (F + A) = F * F + 2 * (F * A) + A * A := by
      rw [Nat.add_mul, Nat.mul_add, Nat.mul_add, Nat.mul_comm A F]; omega
    have : A * A ≤ F * A := Nat.mul_le_mul_right _ (by omega)
    omega
  have q1 : 4503599627370496 * (F * A) ≤ F * F := by
    rw [Nat.mul_left_comm]; exact Nat.mul_le_mul_left _ hA
  have q2 : F * F ≤ rn' * K74 := by rw [hrv]; exact Nat.mul_le_mul r1 r1
  have q3 : rn' * K74 ≤ (F + A) * (F + A) := by rw [hrv]; exact Nat.mul_le_mul r2 r2
  have c1 : 4503599627370496 * rn' ≤ 4503599627370499 * Xn := by
    have : (4503599627370496 * rn') * K74 ≤ (4503599627370499 * Xn) * K74 := by rw [Nat.mul_assoc, Nat.mul_assoc]; omega
    exact Nat.le_of_mul_le_mul_right this hK
  have c2 : 4503599627370496 * Xn ≤ 4503599627370499 * rn' := by
    have : (4503599627370496 * Xn) * K74 ≤ (4503599627370499 * rn') * K74 := by rw [Nat.mul_assoc, Nat.mul_assoc]; omega
    exact Nat.le_of_mul_le_mul_right this hK
  clear q0 q1 q2 q3
  have hPr : 9007199254740992 * (rn r - r).natAbs ≤ r.natAbs := by
    have h1 := ex_hi r.natAbs
    have h2 := rn_err h1
    by_cases h3 : ex r.natAbs = 0
    · rw [h3, Nat.pow_zero] at h2; omega
    · have h4 := ex_lo h3
      omega
  have hrep : RpZ (X - rn r) := sterbZ hx.rp (rn_rp _) (by omega)
  have bX := mx.2
  obtain ⟨a, oa, fa⟩ := hx.sub fpr (nr_cap (by omega))
  rw [rn_of hrep] at fa
  obtain ⟨b, ob, fb⟩ := fa.sub fm (nr_cap (by omega))
  rw [show X - rn r - (r - rn r) = X - r by omega] at fb
  refine ⟨m, a, b, _, _, om, oa, ob, fm, fb, fun d => ?_⟩
  obtain ⟨p1, p2⟩ := rn_pos (S := X - r)
  rw [z3 d]
  have t1 : 4 * rv (near Z) < Z ↔ rn' < Xn := by
    rw [z2, ← hsn, ← hrv]
    exact ⟨fun h => Nat.lt_of_mul_lt_mul_right h, fun h => Nat.mul_lt_mul_of_pos_right h hK⟩
  have t2 : Z < 4 * rv (near Z) ↔ Xn < rn' := by
    have h1 : 4 * rv (near Z) ≤ Z ↔ rn' ≤ Xn := by
      rw [z1, ← hsn, ← hrv]
      exact ⟨fun h => Nat.le_of_mul_le_mul_right h hK, fun h => Nat.mul_le_mul_right _ h⟩
    omega
  refine rnd_nudge d false hZ (K := key s) ?_ ?_ ?_
  · rw [if_neg (by simp), ← hsn]
    unfold key sg mg
    rw [decide_eq_false (by omega), if_neg (by simp), Nat.mod_eq_of_lt hsl]
  · rw [if_neg (by simp), t1, p1]; omega
  · rw [if_neg (by simp), t2, p2]; omega
end Go.Proofs.YtadijoeeaineaaaDoor.Rn
