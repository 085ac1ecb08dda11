/-
  Plain: how the document finds a root: its scale, its bits from the highest down. Conditions: those that each theorem names.
-/
import Derived.Test.YtadijoeeaineaaaDoorZ33
set_option linter.unusedVariables false
set_option linter.unusedSimpArgs false
namespace Go.Proofs.YtadijoeeaineaaaDoor.Rn
open Nm

theorem tdiv_abs (a : Int) (n : Nat) : (a.tdiv n).natAbs ≤ a.natAbs := by
  rw [Int.natAbs_tdiv]
  exact Nat.div_le_self _ _
theorem tdiv_bd {a b : Int} {n : Nat} (h1 : -b ≤ a) (h2 : a ≤ b) : -b ≤ a.tdiv n ∧ a.tdiv n ≤ b := by
  have := tdiv_abs a n
  omega
/-- One step of the search for a scale. -/
theorem ks_step {a : Int} {n : Nat} (hn : 1 ≤ n) : (0 ≤ a → (a + n * (60 - a.tdiv n)).tdiv n = 60) ∧ 59 ≤ (a + n * (60 - a.tdiv n)).tdiv n ∧ (a + n * (60 - a.tdiv n)).tdiv n ≤ 60 ∧ 0 ≤ a + n * (60 - a.tdiv n) := by
  have hn' : (0 : Int) < n := by omega
  have h1 := Int.mul_tdiv_add_tmod a n
  have h2 := Int.tmod_lt_of_pos a hn'
  have h3 : -(n : Int) < a.tmod n := by
    have := Int.tmod_lt_of_pos (-a) hn'
    rw [Int.neg_tmod] at this
    omega
  obtain ⟨r, hr⟩ : ∃ r, r = a.tmod n := ⟨_, rfl⟩
  have h4 : 0 ≤ a → 0 ≤ r := fun h => by rw [hr]; exact Int.tmod_nonneg _ h
  rw [← hr] at h1 h2 h3
  have e : a + n * (60 - a.tdiv n) = 60 * n + r := by
    rw [Int.mul_sub]; omega
  rw [e]
  have hp : 0 ≤ 60 * (n : Int) + r := by omega
  rw [Int.tdiv_eq_ediv_of_nonneg hp, Int.add_comm, Int.add_mul_ediv_right _ _ (by omega)]
  have hd : -1 ≤ r / (n : Int) ∧ r / (n : Int) ≤ 0 := by
    constructor
    · rw [Int.le_ediv_iff_mul_le hn']; omega
    · have : r / (n : Int) < 1 := by rw [Int.ediv_lt_iff_lt_mul hn']; omega
      omega
  refine ⟨fun h => ?_, by omega, by omega, by omega⟩
  have := h4 h
  have h0 : r / (n : Int) = 0 := Int.ediv_eq_zero_of_lt this h2
  omega
theorem ks_end {a : Int} {n : Nat} (hn : 1 ≤ n) (h1 : ¬ a.tdiv n < 59) (h2 : ¬ 61 < a.tdiv n) : 59 * (n : Int) ≤ a ∧ a < 62 * n := by
  have hn' : (0 : Int) < n := by omega
  have hp : 0 ≤ a := by
    rcases Int.lt_or_le a 0 with h | h
    · exfalso
      have : a.tdiv n ≤ 0 := by
        have h5 := Int.mul_tdiv_add_tmod a n
        rcases Int.lt_or_le 0 (a.tdiv n) with h6 | h6
        · have h7 : (n : Int) * 1 ≤ n * a.tdiv n := Int.mul_le_mul_of_nonneg_left (by omega) (by omega)
          have h8 := Int.tmod_lt_of_pos (-a) hn'
          rw [Int.neg_tmod] at h8
          omega
        · exact h6
      omega
    · exact h
  rw [Int.tdiv_eq_ediv_of_nonneg hp] at h1 h2
  constructor
  · have := (Int.le_ediv_iff_mul_le (c := (n : Int)) (a := 59) (b := a) hn').1 (by omega)
    omega
  · have := (Int.ediv_lt_iff_lt_mul (c := (n : Int)) (a := a) (b := 62) hn').1 (by omega)
    omega

/-- The scales that are tried. -/
structure KS (f : Int) (n : Nat) (q0 k1 q1 k2 q2 m1 m2 : Int) : Prop where
  e0 : (f + n * 60).tdiv n = q0
  p1 : n * k1 = m1
  e1 : (f + m1).tdiv n = q1
  p2 : n * k2 = m2
  e2 : (f + m2).tdiv n = q2
  c1 : (61 < q0 ∧ k1 = 60 - (q0 - 60)) ∨ (¬ 61 < q0 ∧ k1 = 60)
  n1 : ¬ 61 < q1
  c2 : (q1 < 59 ∧ k2 = k1 + (60 - q1)) ∨ (¬ q1 < 59 ∧ k2 = k1)
  n2 : ¬ q2 < 59
  lo : 59 * (n : Int) ≤ f + m2
  hi : f + m2 < 62 * (n : Int)
  b0 : -70000 ≤ q0 ∧ q0 ≤ 70000
  b1 : -70000 ≤ q1 ∧ q1 ≤ 70000
  b2 : -70000 ≤ q2 ∧ q2 ≤ 70000
  d1 : -140000 ≤ k1 ∧ k1 ≤ 140000
  d2 : -300000 ≤ k2 ∧ k2 ≤ 300000
  r1 : -70000 ≤ m1 ∧ m1 ≤ 70000
  r2 : -70000 ≤ m2 ∧ m2 ≤ 70000
theorem ks_any {f : Int} {n : Nat} (h1 : 1 ≤ n) (h2 : n ≤ 1024) (f1 : -3000 ≤ f) (f2 : f ≤ 3000) : ∃ q0 k1 q1 k2 q2 m1 m2, KS f n q0 k1 q1 k2 q2 m1 m2 := by
  obtain ⟨q0, e0⟩ : ∃ q0, (f + n * 60).tdiv n = q0 := ⟨_, rfl⟩
  have b0 := tdiv_bd (a := f + n * 60) (b := 70000) (n := n) (by omega) (by omega)
  rw [e0] at b0
  have hs0 := ks_step (a := f + n * 60) h1
  rw [e0] at hs0
  have x0 : f + (n : Int) * 60 + n * (60 - q0) = f + n * (60 + (60 - q0)) := by rw [Int.mul_add]; omega
  rw [x0] at hs0
  by_cases c1 : 61 < q0
  · have hz : 0 ≤ f + (n : Int) * 60 := by
      rcases Int.lt_or_le (f + (n : Int) * 60) 0 with h | h
      · exfalso
        have : (f + (n : Int) * 60).tdiv n ≤ 0 := by
          have h3 : f + (n : Int) * 60 = -(-(f + n * 60)) := by omega
          rw [h3, Int.neg_tdiv]
          have := Int.tdiv_nonneg (a := -(f + (n : Int) * 60)) (b := n) (by omega) (by omega)
          omega
        omega
      · exact h
    have hq := hs0.1 hz
    have hk : (60 : Int) + (60 - q0) = 60 - (q0 - 60) := by omega
    rw [hk] at hs0 hq
    obtain ⟨m1, p1⟩ : ∃ m1, (n : Int) * (60 - (q0 - 60)) = m1 := ⟨_, rfl⟩
    rw [p1] at hs0 hq
    have hend := ks_end (a := f + m1) h1 (by omega) (by omega)
    exact ⟨q0, 60 - (q0 - 60), 60, 60 - (q0 - 60), 60, m1, m1, e0, p1, hq, p1, hq, .inl ⟨c1, rfl⟩, by omega, .inr ⟨by omega, rfl⟩, by omega, hend.1, hend.2, b0, by omega, by omega, by omega, by omega, by omega, by omega⟩
  · by_cases c2 : q0 < 59
    · obtain ⟨m2, p2⟩ : ∃ m2, (n : Int) * (60 + (60 - q0)) = m2 := ⟨_, rfl⟩
      rw [p2] at hs0
      obtain ⟨q2, e2⟩ : ∃ q2, (f + m2).tdiv n = q2 := ⟨_, rfl⟩
      rw [e2] at hs0
      have hend := ks_end (a := f + m2) h1 (by rw [e2]; omega) (by rw [e2]; omega)
      exact ⟨q0, 60, q0, 60 + (60 - q0), q2, n * 60, m2, e0, rfl, e0, p2, e2, .inr ⟨c1, rfl⟩, c1, .inl ⟨c2, rfl⟩, by omega, hend.1, hend.2, b0, b0, by omega, by omega, by omega, by omega, by omega⟩
    · have hend := ks_end (a := f + n * 60) h1 (by rw [e0]; omega) (by rw [e0]; omega)
      exact ⟨q0, 60, q0, 60, q0, n * 60, n * 60, e0, rfl, e0, rfl, e0, .inr ⟨c1, rfl⟩, c1, .inr ⟨c2, rfl⟩, c2, hend.1, hend.2, b0, b0, b0, by omega, by omega, by omega, by omega⟩

/-- The bits of the root that are found: those above bit j. -/
structure RtRel (n big j r : Nat) : Prop where
  low : r % 2 ^ j = 0
  lt : r + 2 ^ j ≤ 9223372036854775808
  le : r ^ n ≤ big
  gt : big < (r + 2 ^ j) ^ n
theorem RtRel.start {n big : Nat} (hn : n ≠ 0) (h : big < (2 ^ 63) ^ n) : RtRel n big 63 0 := ⟨Nat.zero_mod _, by omega, by rw [Nat.zero_pow (by omega)]; omega, by rw [Nat.zero_add]; exact h⟩
theorem RtRel.yes {n big i r : Nat} (h : RtRel n big (i + 1) r) (hle : (r + 2 ^ i) ^ n ≤ big) : RtRel n big i (r + 2 ^ i) := by
  have hl := h.lt
  have hg := h.gt
  have hlow := h.low
  rw [Nat.pow_succ] at hl hg hlow
  have e : r + 2 ^ i * 2 = r + 2 ^ i + 2 ^ i := by omega
  rw [e] at hl hg
  refine ⟨?_, hl, hle, hg⟩
  have h1 : r % 2 ^ i = 0 := by
    have := Nat.dvd_of_mod_eq_zero hlow
    exact Nat.mod_eq_zero_of_dvd (Nat.dvd_trans (Nat.dvd_mul_right _ _) this)
  rw [Nat.add_mod_right, h1]
theorem RtRel.no {n big i r : Nat} (h : RtRel n big (i + 1) r) (hgt : big < (r + 2 ^ i) ^ n) : RtRel n big i r := by
  have hl := h.lt
  have hlow := h.low
  rw [Nat.pow_succ] at hl hlow
  refine ⟨?_, by omega, h.le, hgt⟩
  have := Nat.dvd_of_mod_eq_zero hlow
  exact Nat.mod_eq_zero_of_dvd (Nat.dvd_trans (Nat.dvd_mul_right _ _) this)
theorem RtRel.far {n big i r : Nat} (hn : n ≠ 0) (h : bl big ≤ n * i) : big < (r + 2 ^ i) ^ n := by
  have h1 := lt_pow_bl big
  have h2 : 2 ^ bl big ≤ 2 ^ (n * i) := Nat.pow_le_pow_right (by omega) h
  have h3 : 2 ^ (n * i) = (2 ^ i) ^ n := by rw [Nat.mul_comm, Nat.pow_mul]
  have h4 : (2 ^ i) ^ n ≤ (r + 2 ^ i) ^ n := Nat.pow_le_pow_left (by omega) n
  omega
theorem RtRel.done {n big r : Nat} (h : RtRel n big 0 r) : r ^ n ≤ big ∧ big < (r + 1) ^ n := ⟨h.le, by have := h.gt; rwa [Nat.pow_zero] at this⟩
theorem RtRel.or_ {n big i r : Nat} (h : RtRel n big (i + 1) r) : r ||| 2 ^ i = r + 2 ^ i ∧ r + 2 ^ i < 9223372036854775808 := by
  have hl := h.lt
  have hp := two_pow_pos i
  rw [Nat.pow_succ] at hl
  refine ⟨?_, by omega⟩
  have hd := Nat.div_add_mod r (2 ^ (i + 1))
  rw [h.low, Nat.add_zero] at hd
  have := Nat.two_pow_add_eq_or_of_lt (i := i + 1) (b := 2 ^ i) (Nat.pow_lt_pow_right (by omega) (by omega)) (r / 2 ^ (i + 1))
  rw [hd] at this
  exact this.symm

/-- What the document's search ends in. -/
theorem root_end {N D n A B r : Nat} {k m : Int} (hn : 1 ≤ n) (hN : N ≠ 0) (hD : D ≠ 0) (hm : (n : Int) * k = m) (hAB : (A : Int) - B = m) (hlo : 59 * (n : Int) ≤ (bl N : Int) - bl D + m) (h1 : r ^ n ≤ N * 2 ^ A / (D * 2 ^ B)) (h2 : N * 2 ^ A / (D * 2 ^ B) < (r + 1) ^ n) :
    RootAt N D n k r (decide (r ^ n * (D * 2 ^ B) ≠ N * 2 ^ A)) ∧ 55 ≤ bl r := by
  have hE : 0 < D * 2 ^ B := Nat.mul_pos (by omega) (two_pow_pos B)
  have a1 := (Nat.le_div_iff_mul_le hE).1 h1
  have a2 := (Nat.div_lt_iff_lt_mul hE).1 h2
  refine ⟨⟨A, B, by omega, a1, a2, rfl⟩, ?_⟩
  rcases Nat.lt_or_ge (bl r) 55 with h | h
  · exfalso
    have b1 : r + 1 ≤ 2 ^ 54 := (bl_le_iff r 54).1 (by omega)
    have b2 : (r + 1) ^ n ≤ (2 ^ 54) ^ n := Nat.pow_le_pow_left b1 n
    rw [← Nat.pow_mul] at b2
    have b3 := lt_pow_bl D
    have b4 := pow_le_of_bl hN
    have bN := bl_pos hN
    have b5 : (r + 1) ^ n * (D * 2 ^ B) ≤ 2 ^ (54 * n) * (2 ^ bl D * 2 ^ B) := Nat.mul_le_mul b2 (Nat.mul_le_mul_right _ (by omega))
    rw [← Nat.pow_add, ← Nat.pow_add] at b5
    have b6 : 2 ^ (bl N - 1) * 2 ^ A ≤ N * 2 ^ A := Nat.mul_le_mul_right _ b4
    rw [← Nat.pow_add] at b6
    have b7 : 2 ^ (54 * n + (bl D + B)) ≤ 2 ^ (bl N - 1 + A) := Nat.pow_le_pow_right (by omega) (by omega)
    omega
  · exact h
theorem root_big {N D n A B : Nat} {m : Int} (hn : 1 ≤ n) (hD : D ≠ 0) (hAB : (A : Int) - B = m) (hhi : (bl N : Int) - bl D + m < 62 * (n : Int)) : N * 2 ^ A / (D * 2 ^ B) < (2 ^ 63) ^ n := by
  have hE : 0 < D * 2 ^ B := Nat.mul_pos (by omega) (two_pow_pos B)
  rw [Nat.div_lt_iff_lt_mul hE]
  have b3 := lt_pow_bl N
  have b4 := pow_le_of_bl hD
  have bD := bl_pos hD
  have b5 : N * 2 ^ A < 2 ^ bl N * 2 ^ A := Nat.mul_lt_mul_of_pos_right b3 (two_pow_pos A)
  rw [← Nat.pow_add] at b5
  have b6 : (2 ^ 63) ^ n * (2 ^ (bl D - 1) * 2 ^ B) ≤ (2 ^ 63) ^ n * (D * 2 ^ B) := Nat.mul_le_mul_left _ (Nat.mul_le_mul_right _ b4)
  rw [← Nat.pow_mul, ← Nat.pow_add, ← Nat.pow_add] at b6
  have b7 : 2 ^ (bl N + A) ≤ 2 ^ (63 * n + (bl D - 1 + B)) := Nat.pow_le_pow_right (by omega) (by omega)
  rw [← Nat.pow_mul]
  omega
theorem zr_frac1 (V : Nat) (e : Int) : zr (fracN V 1 e) (fracD V 1 e) = zd V e := by
  have h1 := frac_val (n := V) (d := 1) (e := e) (p := e.toNat) (q := (-e).toNat) (by omega)
  rw [Nat.one_mul] at h1
  rw [zd_zr]
  exact zr_congr (fracD_pos _ (by omega)) (Nat.two_pow_pos _) h1
end Go.Proofs.YtadijoeeaineaaaDoor.Rn

/-
  Plain: Newton's steps towards the n-th root of a natural, from above. Conditions: those that each theorem names.
-/
set_option linter.unusedVariables false
set_option linter.unusedSimpArgs false
namespace Go.Proofs.YtadijoeeaineaaaDoor.Rn
open Nm

theorem swap_le (x z X Z : Nat) (h : (x ≤ z ∧ X ≤ Z) ∨ (z ≤ x ∧ Z ≤ X)) : x * Z + z * X ≤ z * Z + x * X := by
  rcases h with ⟨h1, h2⟩ | ⟨h1, h2⟩
  · obtain ⟨a, rfl⟩ : ∃ a, z = x + a := ⟨z - x, by omega⟩
    obtain ⟨b, rfl⟩ : ∃ b, Z = X + b := ⟨Z - X, by omega⟩
    simp only [Nat.mul_add, Nat.add_mul]
    omega
  · obtain ⟨a, rfl⟩ : ∃ a, x = z + a := ⟨x - z, by omega⟩
    obtain ⟨b, rfl⟩ : ∃ b, X = Z + b := ⟨X - Z, by omega⟩
    simp only [Nat.mul_add, Nat.add_mul]
    omega

/-- The mean of n numbers is not below their geometric mean (here: z, and n - 1 times x). -/
theorem means (x z : Nat) : ∀ n : Nat, (n + 1) * (z * x ^ n) ≤ z ^ (n + 1) + n * x ^ (n + 1)
  | 0 => by simp
  | n + 1 => by
    have ih := means x z n
    have h1 : x * ((n + 1) * (z * x ^ n)) ≤ x * (z ^ (n + 1) + n * x ^ (n + 1)) := Nat.mul_le_mul_left x ih
    have e1 : x * ((n + 1) * (z * x ^ n)) = (n + 1) * (z * x ^ (n + 1)) := by
      rw [Nat.pow_succ]; simp only [Nat.mul_assoc, Nat.mul_comm, Nat.mul_left_comm]
    have e2 : x * (z ^ (n + 1) + n * x ^ (n + 1)) = x * z ^ (n + 1) + n * x ^ (n + 1 + 1) := by
      rw [Nat.mul_add, Nat.pow_succ x (n + 1)]; congr 1; simp only [Nat.mul_assoc, Nat.mul_comm, Nat.mul_left_comm]
    have e3 : (n + 1 + 1) * (z * x ^ (n + 1)) = (n + 1) * (z * x ^ (n + 1)) + z * x ^ (n + 1) := by rw [Nat.add_mul (n + 1) 1, Nat.one_mul]
    have e4 : (n + 1) * x ^ (n + 1 + 1) = n * x ^ (n + 1 + 1) + x * x ^ (n + 1) := by rw [Nat.add_mul, Nat.one_mul, Nat.pow_succ' (n := n + 1)]
    have h2 := swap_le x z (x ^ (n + 1)) (z ^ (n + 1)) (by
      rcases Nat.le_total x z with h | h
      · exact .inl ⟨h, Nat.pow_le_pow_left h _⟩
      · exact .inr ⟨h, Nat.pow_le_pow_left h _⟩)
    rw [e3, e4, Nat.pow_succ' (n := n + 1) (m := z)] 
    rw [e1, e2] at h1
    omega

/-- How far it is: x is at least the root. -/
structure WhRel (V n X x : Nat) : Prop where
  top : ∀ z, z ^ n ≤ V → z ≤ x
  x1 : 1 ≤ x
  xX : x ≤ X
/-- A Newton step. -/
def newt (V n x : Nat) : Nat := (x * (n - 1) + V / x ^ (n - 1)) / n
theorem newt_top {V n x z : Nat} (hn : 1 ≤ n) (hx : 1 ≤ x) (hz : z ^ n ≤ V) : z ≤ newt V n x := by
  obtain ⟨m, rfl⟩ : ∃ m, n = m + 1 := ⟨n - 1, by omega⟩
  unfold newt
  rw [Nat.add_sub_cancel, Nat.le_div_iff_mul_le (by omega)]
  have hP : 0 < x ^ m := Nat.pow_pos (by omega)
  have hm := means x z m
  rcases Nat.lt_or_ge (x * m) (z * (m + 1)) with h | h
  · obtain ⟨d, hd⟩ : ∃ d, z * (m + 1) = x * m + d := ⟨z * (m + 1) - x * m, by omega⟩
    have e1 : (m + 1) * (z * x ^ m) = x * m * x ^ m + d * x ^ m := by
      rw [← Nat.mul_assoc, Nat.mul_comm (m + 1) z, hd, Nat.add_mul]
    have e2 : m * x ^ (m + 1) = x * m * x ^ m := by rw [Nat.pow_succ']; simp only [Nat.mul_assoc, Nat.mul_comm, Nat.mul_left_comm]
    rw [e1, e2] at hm
    have h3 : d * x ^ m ≤ V := by omega
    have h4 : d ≤ V / x ^ m := (Nat.le_div_iff_mul_le hP).2 h3
    omega
  · exact Nat.le_trans h (Nat.le_add_right _ _)
theorem WhRel.next {V n X x : Nat} (h : WhRel V n X x) (hn : 1 ≤ n) (hV : 1 ≤ V) (hlt : newt V n x < x) : WhRel V n X (newt V n x) :=
  ⟨fun z hz => newt_top hn h.x1 hz, newt_top hn h.x1 (by rw [Nat.one_pow]; exact hV), by have := h.xX; omega⟩
theorem WhRel.done {V n X x : Nat} (h : WhRel V n X x) (hn : 1 ≤ n) (hle : x ≤ newt V n x) : x ^ n ≤ V ∧ V < (x + 1) ^ n := by
  refine ⟨?_, ?_⟩
  · obtain ⟨m, rfl⟩ : ∃ m, n = m + 1 := ⟨n - 1, by omega⟩
    unfold newt at hle
    rw [Nat.add_sub_cancel, Nat.le_div_iff_mul_le (by omega)] at hle
    have hP : 0 < x ^ m := Nat.pow_pos (by have := h.x1; omega)
    have h1 : x ≤ V / x ^ m := by rw [Nat.mul_add, Nat.mul_one] at hle; omega
    rw [Nat.le_div_iff_mul_le hP] at h1
    rw [Nat.pow_succ']
    exact h1
  · rcases Nat.lt_or_ge V ((x + 1) ^ n) with h1 | h1
    · exact h1
    · have := h.top _ h1
      omega
theorem WhRel.of {V n x : Nat} (hn : n ≠ 0) (hV : 1 ≤ V) (h : V < (x + 1) ^ n) : WhRel V n x x := by
  have ht : ∀ z, z ^ n ≤ V → z ≤ x := fun z hz => by
    rcases Nat.lt_or_ge x z with h1 | h1
    · have := Nat.pow_le_pow_left (show x + 1 ≤ z by omega) n
      omega
    · exact h1
  exact ⟨ht, ht 1 (by rw [Nat.one_pow]; exact hV), Nat.le_refl _⟩

/-- The bits of a root. -/
theorem root_bl {r n b : Nat} (hn : 1 ≤ n) (h : r ^ n ≤ b) (hr : 1 ≤ r) : n * bl r ≤ bl b + n := by
  have h1 := pow_le_of_bl (n := r) (by omega)
  obtain ⟨q, hq⟩ : ∃ q, bl r = q + 1 := ⟨bl r - 1, by have := bl_pos (n := r) (by omega); omega⟩
  rw [hq, Nat.add_sub_cancel] at h1
  have h2 : 2 ^ (q * n) ≤ r ^ n := by rw [Nat.pow_mul]; exact Nat.pow_le_pow_left h1 n
  have h3 := lt_pow_bl b
  have h4 : q * n < bl b := (Nat.pow_lt_pow_iff_right (a := 2) (by omega)).1 (by omega)
  rw [hq, Nat.mul_add, Nat.mul_one, Nat.mul_comm]
  omega

theorem bl_up {k x : Nat} (h : 2 ^ k ≤ x) : bl (x / 2 ^ k) + k = bl x := by
  have hp := two_pow_pos k
  have h0 : x / 2 ^ k ≠ 0 := by
    have := (Nat.le_div_iff_mul_le hp).2 (show 1 * 2 ^ k ≤ x by omega)
    omega
  have h1 : bl (x / 2 ^ k * 2 ^ k) ≤ bl x := bl_mono (Nat.div_mul_le_self x (2 ^ k))
  rw [bl_mul_pow k h0] at h1
  have h2 : bl x ≤ bl (x / 2 ^ k) + k := by
    rw [bl_le_iff, Nat.pow_add]
    exact (Nat.div_lt_iff_lt_mul hp).1 (lt_pow_bl _)
  omega

/-- From where it starts: few bits. -/
theorem wh_small {V n : Nat} (hn : 2 ≤ n) (hV : 1 ≤ V) (h : (bl V / n) / 2 < 2) : WhRel V n 32 32 ∧ n * bl 32 ≤ bl V + 6 * n := by
  refine ⟨WhRel.of (by omega) hV ?_, ?_⟩
  · have h1 : bl V < 4 * n := by
      have h2 : bl V / n < 4 := by omega
      rwa [Nat.div_lt_iff_lt_mul (by omega)] at h2
    have h3 := lt_pow_bl V
    have h4 : 2 ^ bl V ≤ 2 ^ (4 * n) := Nat.pow_le_pow_right (by omega) (by omega)
    rw [Nat.pow_mul] at h4
    have h5 : (2 ^ 4) ^ n ≤ (32 + 1) ^ n := Nat.pow_le_pow_left (by omega) n
    omega
  · rw [show bl 32 = 6 by decide +kernel]; omega
/-- From where it starts: the root of the upper bits. -/
theorem wh_big {V n h r : Nat} (hn : 2 ≤ n) (hV : 1 ≤ V) (hh : h = (bl V / n) / 2) (h2 : 2 ≤ h) (h3 : r ^ n ≤ V / 2 ^ (h * n)) (h4 : V / 2 ^ (h * n) < (r + 1) ^ n) :
    WhRel V n ((r + 1) * 2 ^ h) ((r + 1) * 2 ^ h) ∧ n * bl ((r + 1) * 2 ^ h) ≤ bl V + 6 * n := by
  have hp := two_pow_pos (h * n)
  have hle : h * n * 2 ≤ bl V := by
    have := Nat.div_mul_le_self (bl V / n) 2
    have h5 := Nat.div_mul_le_self (bl V) n
    rw [← hh] at this
    have h6 : h * 2 * n ≤ bl V / n * n := Nat.mul_le_mul_right n this
    have h7 : h * n * 2 = h * 2 * n := Nat.mul_right_comm _ _ _
    omega
  have hVlt : V < ((r + 1) * 2 ^ h) ^ n := by
    rw [Nat.mul_pow, ← Nat.pow_mul]
    rwa [Nat.div_lt_iff_lt_mul hp] at h4
  refine ⟨WhRel.of (by omega) hV ?_, ?_⟩
  · exact Nat.lt_of_lt_of_le hVlt (Nat.pow_le_pow_left (by omega) n)
  · have hb := bl_up (k := h * n) (x := V) (by
      have h1 := pow_le_of_bl (n := V) (by omega)
      have h2 := bl_pos (n := V) (by omega)
      exact Nat.le_trans (Nat.pow_le_pow_right (by omega) (by omega)) h1)
    have hb1 : bl ((r + 1) * 2 ^ h) ≤ bl r + 1 + h := by
      rw [bl_mul_pow h (by omega)]
      have := bl_le_iff (n := r + 1) (k := bl r + 1) |>.2 (by have := lt_pow_bl r; rw [Nat.pow_succ]; omega)
      omega
    have h8 : n * bl ((r + 1) * 2 ^ h) ≤ n * (bl r + 1 + h) := Nat.mul_le_mul_left n hb1
    rw [Nat.mul_add, Nat.mul_add, Nat.mul_one, Nat.mul_comm n h] at h8
    by_cases hr : r = 0
    · subst hr
      rw [bl_zero] at h8
      omega
    · have h9 := root_bl (by omega) h3 (by omega)
      omega
/-- The upper bits are some, and fewer. -/
theorem wh_less {V n h : Nat} (hn : 2 ≤ n) (hV : 1 ≤ V) (hh : h = (bl V / n) / 2) (h2 : 2 ≤ h) : 1 ≤ V / 2 ^ (h * n) ∧ bl (V / 2 ^ (h * n)) < bl V ∧ h * n ≤ bl V ∧ h ≤ bl V := by
  have hle : h * n * 2 ≤ bl V := by
    have := Nat.div_mul_le_self (bl V / n) 2
    have h5 := Nat.div_mul_le_self (bl V) n
    rw [← hh] at this
    have h6 : h * 2 * n ≤ bl V / n * n := Nat.mul_le_mul_right n this
    have h7 : h * n * 2 = h * 2 * n := Nat.mul_right_comm _ _ _
    omega
  have hb := bl_up (k := h * n) (x := V) (by
    have h1 := pow_le_of_bl (n := V) (by omega)
    have h2 := bl_pos (n := V) (by omega)
    exact Nat.le_trans (Nat.pow_le_pow_right (by omega) (by omega)) h1)
  have hb0 := bl_pos (n := V) (by omega)
  have h1 : 2 * 2 ≤ h * n := Nat.mul_le_mul h2 hn
  have h3 : h * 1 ≤ h * n := Nat.mul_le_mul_left h (by omega)
  refine ⟨?_, by omega, by omega, by omega⟩
  rcases Nat.eq_zero_or_pos (V / 2 ^ (h * n)) with h0 | h0
  · exfalso; rw [h0, bl_zero] at hb; omega
  · exact h0
end Go.Proofs.YtadijoeeaineaaaDoor.Rn
