/-
  Plain: one number T / 2^2148, rounded: what the quick roads, the exact roads and the document's ratios make of it; what +, * answer where an operand is no number. Conditions: those that each theorem names.
-/
import Derived.Test.YtfbjeifhpmdjaaaZ09
import Derived.Test.YtfbjeifhpmdjaaaZ04
set_option linter.unusedVariables false
set_option linter.unusedSimpArgs false
namespace Go.Proofs.Ytfbjeifhpmdjaaa.Rn
open Nm

/-- T / 2^2148, rounded. -/
def rT (d : Int) (T : Int) : Nat := rnd d (decide (T < 0)) (zq T.natAbs (2 ^ 1073))
theorem rT_zero (d : Int) : rT d 0 = 0 := by
  unfold rT
  have : zq (0 : Int).natAbs (2 ^ 1073) = 0 := by
    show zq 0 (2 ^ 1073) = 0
    generalize 2 ^ 1073 = c
    simp [zq]
  rw [this, rnd_zero]
theorem sn_abs (neg : Bool) (n : Nat) : (sn neg n).natAbs = n := by unfold sn; cases neg <;> simp
theorem sn_neg {neg : Bool} {n : Nat} (h : n ≠ 0) : decide (sn neg n < 0) = neg := by
  unfold sn; cases neg
  · simp
  · simp; omega

/-- The key: N / D with its sign is T / 2^2148. -/
theorem rT_gen {d : Int} {neg : Bool} {N A B Z : Nat} {T : Int} (hA : 0 < A) (hB : 0 < B) (h : sn neg N * (A : Int) = T * (B : Int)) (hZ : N * A = T.natAbs * B → N = 0 ∧ Z = 0 ∨ Z = zq T.natAbs (2 ^ 1073)) : rnd d neg Z = rT d T := by
  have h1 : N * A = T.natAbs * B := by
    have := congrArg Int.natAbs h
    rw [Int.natAbs_mul, Int.natAbs_mul, sn_abs, Int.natAbs_natCast, Int.natAbs_natCast] at this
    exact this
  rcases Nat.eq_zero_or_pos N with h0 | h0
  · have hT : T = 0 := by
      rw [h0, Nat.zero_mul] at h1
      rcases Nat.mul_eq_zero.1 h1.symm with h2 | h2
      · omega
      · omega
    rcases hZ h1 with ⟨-, hz⟩ | hz
    · rw [hz, rnd_zero, hT, rT_zero]
    · have := rT_zero d
      unfold rT at this
      rw [hT] at hz ⊢
      rw [hz, rT_zero]
      have e : zq (0 : Int).natAbs (2 ^ 1073) = 0 := by
        show zq 0 (2 ^ 1073) = 0
        generalize 2 ^ 1073 = c
        simp [zq]
      rw [e, rnd_zero]
  · rcases hZ h1 with ⟨hz, -⟩ | hz
    · omega
    · unfold rT
      rw [hz]
      congr 1
      rw [← sn_neg (neg := neg) (n := N) (by omega)]
      refine decide_eq_decide.2 ?_
      have hA' : (0 : Int) < A := by omega
      have hB' : (0 : Int) < B := by omega
      constructor
      · intro hs
        have := Int.mul_neg_of_neg_of_pos hs hA'
        rw [h] at this
        rcases Int.lt_or_le T 0 with h3 | h3
        · exact h3
        · have := Int.mul_nonneg h3 (Int.le_of_lt hB'); omega
      · intro hs
        have := Int.mul_neg_of_neg_of_pos hs hB'
        rw [← h] at this
        rcases Int.lt_or_le (sn neg N) 0 with h3 | h3
        · exact h3
        · have := Int.mul_nonneg h3 (Int.le_of_lt hA'); omega

theorem K75_1073 : K75 * 2 ^ 1073 = K74 * K74 := by
  obtain ⟨c, hc⟩ : ∃ c, c = 1073 := ⟨_, rfl⟩
  rw [K75_def, K74_def, show 1075 = c + 2 by omega, show 1074 = c + 1 by omega, ← hc, ← pow_add_, ← pow_add_]
  congr 1; omega
/-- The document's ratio. -/
theorem rT_rat {d : Int} {neg : Bool} {N D : Nat} {T : Int} (hD : 0 < D) (h : sn neg N * ((K74 * K74 : Nat) : Int) = T * (D : Int)) : rnd d neg (zr N D) = rT d T := by
  refine rT_gen (Nat.mul_pos K74_pos K74_pos) hD h fun h1 => .inr ?_
  rw [zr_eq]
  refine zq_congr hD (two_pow_pos 1073) ?_
  rw [Nat.mul_assoc, K75_1073]
  exact h1
/-- A natural times a power of 2. -/
theorem rT_dy {d : Int} {neg : Bool} {V A B : Nat} {e T : Int} (hAB : (A : Int) - B = e + 2148) (h : sn neg V * ((2 ^ A : Nat) : Int) = T * ((2 ^ B : Nat) : Int)) : rnd d neg (zd (2 * V) (e - 1)) = rT d T := by
  refine rT_gen (two_pow_pos A) (two_pow_pos B) h fun h1 => .inr ?_
  obtain ⟨c, hc⟩ : ∃ c, c = 1073 := ⟨_, rfl⟩
  rw [← hc, zd_of (A := A) (B := B + (c + 1)) (by omega)]
  refine zq_congr (two_pow_pos _) (two_pow_pos _) ?_
  rw [pow_add_, two_pow_s c, Nat.mul_assoc, Nat.mul_assoc, show 2 * (V * (2 ^ A * 2 ^ c)) = 2 * (V * 2 ^ A * 2 ^ c) by rw [Nat.mul_assoc], h1, Nat.mul_assoc, Nat.mul_left_comm 2, Nat.mul_left_comm 2]
/-- A whole number of units. -/
theorem rT_units (d : Int) (S : Int) : rT d (S * (K74 : Int)) = rnd d (decide (S < 0)) (4 * S.natAbs) := by
  unfold rT
  rw [K74_def]
  obtain ⟨c, hc⟩ : ∃ c, c = 1073 := ⟨_, rfl⟩
  have e : (1074 : Nat) = c + 1 := by omega
  rw [← hc, e, Int.natAbs_mul, Int.natAbs_natCast, zq_mul_pow]
  congr 1
  refine decide_eq_decide.2 ?_
  have hp : (0 : Int) < ((2 ^ (c + 1) : Nat) : Int) := by have := two_pow_pos (c + 1); omega
  constructor
  · intro h
    rcases Int.lt_or_le S 0 with h3 | h3
    · exact h3
    · have := Int.mul_nonneg h3 (Int.le_of_lt hp); omega
  · intro h; exact Int.mul_neg_of_neg_of_pos h hp

/-- A part's number. -/
theorem part_sv (b : Nat) : sn (sg b) (fbSig b) * ((2 ^ (fbExp b + 1074).toNat : Nat) : Int) = sv b := by
  rw [sn_mul, ← fb_rv]
  rfl
end Go.Proofs.Ytfbjeifhpmdjaaa.Rn

/-
  Plain: what Mul, Add and their kin answer, as patterns; +, * where an operand is no number. Conditions: those that each theorem names.
-/
set_option linter.unusedVariables false
set_option linter.unusedSimpArgs false
namespace Go.Proofs.Ytfbjeifhpmdjaaa.Rn
open Nm

def NaNc : Nat := 9221120237041090561
theorem NaNc_val : NaNc = 9221120237041090561 := rfl
/-- Every NaN told as the one. -/
def cn (b : Nat) : Nat := if isNaN b then NaNc else b
def infP (s : Bool) : Nat := if s then minf else infR
/-- What Mul answers. -/
def mulR (d : Int) (x y : Nat) : Nat :=
  if isNaN x || isNaN y then NaNc
  else if isInf x || isInf y then (if mg x = 0 ∨ mg y = 0 then NaNc else infP (sg x != sg y))
  else rT d (sv x * sv y)
/-- What Add answers. -/
def addR (d : Int) (x y : Nat) : Nat :=
  if isNaN x || isNaN y then NaNc
  else if isInf x && isInf y && decide (x ≠ y) then NaNc
  else if isInf x then x
  else if isInf y then y
  else rT d ((sv x + sv y) * (K74 : Int))

theorem sn_bne (a b : Bool) (m n : Nat) : sn (a != b) (m * n) = sn a m * sn b n := by
  unfold sn
  cases a <;> cases b <;> simp [Int.neg_mul, Int.mul_neg]
theorem sn_dec (neg : Bool) (n m : Nat) (h : m = 0 ↔ n = 0) : sn (neg && decide (m ≠ 0)) n = sn neg n := by
  unfold sn
  by_cases h0 : n = 0
  · simp [h0]
  · have : m ≠ 0 := fun hm => h0 (h.1 hm)
    simp [this]
/-- The document's ratio, reduced. -/
theorem sn_frac {neg : Bool} {n d : Nat} {e : Int} {p q : Nat} (hpq : (p : Int) - q = e) : sn (neg && decide (n ≠ 0)) (fracN n d e) * ((d * 2 ^ q : Nat) : Int) = sn neg n * ((2 ^ p * fracD n d e : Nat) : Int) := by
  have h1 := frac_val (n := n) (d := d) hpq
  have h2 : sn (neg && decide (n ≠ 0)) (fracN n d e) = sn neg (fracN n d e) := sn_dec neg _ _ (fracN_eq_zero (d := d) (e := e)).symm
  rw [h2, sn_mul, sn_mul, h1, Nat.mul_assoc]

theorem part_mul (x y : Nat) : sn (sg x != sg y) (fbSig x * fbSig y) * ((2 ^ ((fbExp x + 1074).toNat + (fbExp y + 1074).toNat) : Nat) : Int) = sv x * sv y := by
  rw [sn_bne, pow_add_, ← part_sv x, ← part_sv y]
  push_cast
  rw [Int.mul_assoc, Int.mul_assoc, Int.mul_left_comm (sn (sg y) (fbSig y))]
/-- The exact product. -/
theorem mul_exact (d : Int) (x y : Nat) : rnd d (sg x != sg y) (zd (2 * (fbSig x * fbSig y)) (fbExp x + fbExp y - 1)) = rT d (sv x * sv y) := by
  have h1 := fbExp_lo x
  have h2 := fbExp_lo y
  refine rT_dy (A := (fbExp x + 1074).toNat + (fbExp y + 1074).toNat) (B := 0) (by omega) ?_
  rw [part_mul]; simp
/-- The document's product. -/
theorem mul_ref (d : Int) (x y : Nat) {n m : Bool} (hn : n = (sg x && decide (mg x ≠ 0))) (hm : m = (sg y && decide (mg y ≠ 0))) :
    rnd d ((n != m) && decide (fbN x * fbN y ≠ 0)) (zr (fracN (fbN x * fbN y) (fbD x * fbD y) 0) (fracD (fbN x * fbN y) (fbD x * fbD y) 0)) = rT d (sv x * sv y) := by
  have hp : 0 < fbD x * fbD y := Nat.mul_pos (fbD_pos x) (fbD_pos y)
  refine rT_rat (fracD_pos _ (by omega)) ?_
  have h1 := sn_frac (neg := n != m) (n := fbN x * fbN y) (d := fbD x * fbD y) (e := 0) (p := 0) (q := 0) rfl
  rw [sn_bne] at h1
  have h2 := fb_sv x
  have h3 := fb_sv y
  rw [← hn] at h2
  rw [← hm] at h3
  obtain ⟨F, hF⟩ : ∃ F, F = sn ((n != m) && decide (fbN x * fbN y ≠ 0)) (fracN (fbN x * fbN y) (fbD x * fbD y) 0) := ⟨_, rfl⟩
  obtain ⟨G, hG⟩ : ∃ G, G = fracD (fbN x * fbN y) (fbD x * fbD y) 0 := ⟨_, rfl⟩
  rw [← hF, ← hG] at h1 ⊢
  obtain ⟨a, ha⟩ : ∃ a, a = sn n (fbN x) := ⟨_, rfl⟩
  obtain ⟨b, hb⟩ : ∃ b, b = sn m (fbN y) := ⟨_, rfl⟩
  rw [← ha, ← hb] at h1
  rw [← ha] at h2
  rw [← hb] at h3
  have hpi : (0 : Int) < ((fbD x * fbD y : Nat) : Int) := by omega
  refine Int.eq_of_mul_eq_mul_right (Int.ne_of_gt hpi) ?_
  have e1 : ((fbD x * fbD y * 2 ^ 0 : Nat) : Int) = ((fbD x * fbD y : Nat) : Int) := by simp
  have e2 : ((2 ^ 0 * G : Nat) : Int) = (G : Int) := by simp
  rw [e1, e2] at h1
  have e3 : F * ((K74 * K74 : Nat) : Int) * ((fbD x * fbD y : Nat) : Int) = (a * K74) * (b * K74) * G := by
    rw [Int.mul_right_comm, h1]
    push_cast
    simp only [Int.mul_assoc, Int.mul_comm, Int.mul_left_comm]
  rw [e3, h2, h3]
  push_cast
  simp only [Int.mul_assoc, Int.mul_comm, Int.mul_left_comm]

theorem write_inf (s : Bool) : Ieee.double.write (.infinity s) = infP s := by cases s <;> rfl
theorem isInf_iff (b : Nat) : isInf b = true ↔ mg b = infR := by unfold isInf; exact decide_eq_true_iff
theorem isNaN_iff (b : Nat) : isNaN b = true ↔ infR < mg b := by unfold isNaN; exact decide_eq_true_iff
/-- The three kinds of patterns. -/
theorem kind (b : Nat) : (isNaN b = true ∧ isInf b = false ∧ infR < mg b) ∨ (isNaN b = false ∧ isInf b = true ∧ mg b = infR) ∨ (isNaN b = false ∧ isInf b = false ∧ mg b < infR) := by
  unfold isNaN isInf
  rcases Nat.lt_trichotomy (mg b) infR with h | h | h
  · right; right; exact ⟨decide_eq_false (by omega), decide_eq_false (by omega), h⟩
  · right; left; exact ⟨decide_eq_false (by omega), decide_eq_true h, h⟩
  · left; exact ⟨decide_eq_true h, decide_eq_false (by omega), h⟩

/-- A product with an operand that is no number. -/
theorem mul_odd {x y : Nat} (hx : x < 18446744073709551616) (hy : y < 18446744073709551616) (h : (isNaN x || isInf x || (isNaN y || isInf y)) = true) :
    (Ieee.double.mul x y = none ∧ ∀ d, mulR d x y = NaNc) ∨ ∃ s, Ieee.double.mul x y = some (infP s) ∧ ∀ d, mulR d x y = infP s := by
  unfold mulR Ieee.Format.mul
  have z : ∀ {b m : Nat} {e : Int}, m * 2 ^ (e + 1074).toNat = rv (mg b) → (m = 0 ↔ mg b = 0) := by
    intro b m e h
    constructor
    · intro hm; rw [hm, Nat.zero_mul] at h; exact rv_eq_zero.1 h.symm
    · intro hm; rw [hm, rv_zero] at h; rcases Nat.mul_eq_zero.1 h with h2 | h2; exact h2; have := two_pow_pos (e + 1074).toNat; omega
  rcases kind x with ⟨n1, i1, k1⟩ | ⟨n1, i1, k1⟩ | ⟨n1, i1, k1⟩
  · left
    rw [read_nan hx k1, n1]
    exact ⟨rfl, fun d => rfl⟩
  · rcases kind y with ⟨n2, i2, k2⟩ | ⟨n2, i2, k2⟩ | ⟨n2, i2, k2⟩
    · left
      rw [read_nan hy k2, read_inf hx k1, n2, n1]
      exact ⟨rfl, fun d => rfl⟩
    · right
      refine ⟨sg x ^^ sg y, ?_, fun d => ?_⟩
      · rw [read_inf hy k2, read_inf hx k1]
        show some (Ieee.double.write _) = _
        rw [write_inf]
      · rw [n1, n2, i1, i2, k1, k2]
        show (if infR = 0 ∨ infR = 0 then NaNc else infP (sg x != sg y)) = _
        rw [infR_val, if_neg (by omega)]
    · obtain ⟨m, e, hr, -, hv⟩ := read_fin hy k2
      rw [hr, read_inf hx k1, n1, n2, i1, i2, k1]
      by_cases h0 : mg y = 0
      · left
        have hm := (z hv).2 h0
        subst hm
        refine ⟨rfl, fun d => ?_⟩
        show (if infR = 0 ∨ mg y = 0 then NaNc else infP (sg x != sg y)) = _
        rw [if_pos (.inr h0)]
      · right
        have hm : m ≠ 0 := fun h => h0 ((z hv).1 h)
        refine ⟨sg x ^^ sg y, ?_, fun d => ?_⟩
        · show Option.map _ (if m = 0 then none else some _) = _
          rw [if_neg hm]
          show some (Ieee.double.write _) = _
          rw [write_inf]
        · show (if infR = 0 ∨ mg y = 0 then NaNc else infP (sg x != sg y)) = _
          rw [infR_val, if_neg (by omega)]
  · rcases kind y with ⟨n2, i2, k2⟩ | ⟨n2, i2, k2⟩ | ⟨n2, i2, k2⟩
    · left
      obtain ⟨m, e, hr, -, hv⟩ := read_fin hx k1
      rw [read_nan hy k2, hr, n2, n1]
      exact ⟨rfl, fun d => rfl⟩
    · obtain ⟨m, e, hr, -, hv⟩ := read_fin hx k1
      rw [hr, read_inf hy k2, n1, n2, i1, i2, k2]
      by_cases h0 : mg x = 0
      · left
        have hm := (z hv).2 h0
        subst hm
        refine ⟨rfl, fun d => ?_⟩
        show (if mg x = 0 ∨ infR = 0 then NaNc else infP (sg x != sg y)) = _
        rw [if_pos (.inl h0)]
      · right
        have hm : m ≠ 0 := fun h => h0 ((z hv).1 h)
        refine ⟨sg x ^^ sg y, ?_, fun d => ?_⟩
        · show Option.map _ (if m = 0 then none else some _) = _
          rw [if_neg hm]
          show some (Ieee.double.write (.infinity (sg y ^^ sg x))) = _
          rw [write_inf, Bool.xor_comm]
        · show (if mg x = 0 ∨ infR = 0 then NaNc else infP (sg x != sg y)) = _
          rw [infR_val, if_neg (by omega)]
    · rw [n1, n2, i1, i2] at h
      cases h
end Go.Proofs.Ytfbjeifhpmdjaaa.Rn

/-
  Plain: what Add answers, by its roads; + where an operand is no number. Conditions: those that each theorem names.
-/
set_option linter.unusedVariables false
set_option linter.unusedSimpArgs false
namespace Go.Proofs.Ytfbjeifhpmdjaaa
open Nm Rn
/-- The sign and the size of a sum of P and Q with signs. -/
def aNeg (n m : Bool) (P Q : Nat) : Bool := if n = m then n else if Q ≤ P then n else m
def aMag (n m : Bool) (P Q : Nat) : Nat := if n = m then P + Q else if Q ≤ P then P - Q else Q - P
theorem sn_sum (n m : Bool) (P Q : Nat) : sn (aNeg n m P Q) (aMag n m P Q) = sn n P + sn m Q := by
  unfold aNeg aMag
  by_cases h : n = m
  · rw [if_pos h, if_pos h, h]
    unfold sn
    cases m
    · simp
    · simp only [if_true]; omega
  · rw [if_neg h, if_neg h]
    by_cases hle : Q ≤ P
    · rw [if_pos hle, if_pos hle]
      unfold sn
      cases n <;> cases m
      · exact absurd rfl h
      · simp only [if_true, Bool.false_eq_true, if_false]; omega
      · simp only [if_true, Bool.false_eq_true, if_false]; omega
      · exact absurd rfl h
    · rw [if_neg hle, if_neg hle]
      unfold sn
      cases n <;> cases m
      · exact absurd rfl h
      · simp only [if_true, Bool.false_eq_true, if_false]; omega
      · simp only [if_true, Bool.false_eq_true, if_false]; omega
      · exact absurd rfl h
end Go.Proofs.Ytfbjeifhpmdjaaa
namespace Go.Proofs.Ytfbjeifhpmdjaaa.Rn
open Nm
/-- The document's sum. -/
theorem add_ref (d : Int) (x y : Nat) {n m : Bool} (hn : n = (sg x && decide (mg x ≠ 0))) (hm : m = (sg y && decide (mg y ≠ 0))) :
    rnd d (aNeg n m (fbN x * fbD y) (fbN y * fbD x) && decide (aMag n m (fbN x * fbD y) (fbN y * fbD x) ≠ 0)) (zr (fracN (aMag n m (fbN x * fbD y) (fbN y * fbD x)) (fbD x * fbD y) 0) (fracD (aMag n m (fbN x * fbD y) (fbN y * fbD x)) (fbD x * fbD y) 0)) = rT d ((sv x + sv y) * (K74 : Int)) := by
  have hp : 0 < fbD x * fbD y := Nat.mul_pos (fbD_pos x) (fbD_pos y)
  obtain ⟨X, hX⟩ : ∃ X, X = aMag n m (fbN x * fbD y) (fbN y * fbD x) := ⟨_, rfl⟩
  obtain ⟨z, hz⟩ : ∃ z, z = aNeg n m (fbN x * fbD y) (fbN y * fbD x) := ⟨_, rfl⟩
  have hs := sn_sum n m (fbN x * fbD y) (fbN y * fbD x)
  rw [← hX, ← hz] at hs ⊢
  have h1 := sn_frac (neg := z) (n := X) (d := fbD x * fbD y) (e := 0) (p := 0) (q := 0) rfl
  rw [hs, ← sn_mul, ← sn_mul] at h1
  have h2 := fb_sv x
  have h3 := fb_sv y
  rw [← hn] at h2
  rw [← hm] at h3
  refine rT_rat (fracD_pos _ (by omega)) ?_
  obtain ⟨F, hF⟩ : ∃ F, F = sn (z && decide (X ≠ 0)) (fracN X (fbD x * fbD y) 0) := ⟨_, rfl⟩
  obtain ⟨G, hG⟩ : ∃ G, G = fracD X (fbD x * fbD y) 0 := ⟨_, rfl⟩
  rw [← hF, ← hG] at h1 ⊢
  obtain ⟨a, ha⟩ : ∃ a, a = sn n (fbN x) := ⟨_, rfl⟩
  obtain ⟨b, hb⟩ : ∃ b, b = sn m (fbN y) := ⟨_, rfl⟩
  rw [← ha, ← hb] at h1
  rw [← ha] at h2
  rw [← hb] at h3
  have hpi : (0 : Int) < ((fbD x * fbD y : Nat) : Int) := by omega
  refine Int.eq_of_mul_eq_mul_right (Int.ne_of_gt hpi) ?_
  have e1 : ((fbD x * fbD y * 2 ^ 0 : Nat) : Int) = ((fbD x * fbD y : Nat) : Int) := by simp
  have e2 : ((2 ^ 0 * G : Nat) : Int) = (G : Int) := by simp
  rw [e1, e2] at h1
  have e3 : F * ((K74 * K74 : Nat) : Int) * ((fbD x * fbD y : Nat) : Int) = (a * K74) * (fbD y) * K74 * G + (b * K74) * (fbD x) * K74 * G := by
    rw [Int.mul_right_comm, h1, Int.add_mul, Int.add_mul]
    push_cast
    simp only [Int.mul_assoc, Int.mul_comm, Int.mul_left_comm]
  rw [e3, h2, h3, Int.add_mul, Int.add_mul, Int.add_mul]
  push_cast
  simp only [Int.mul_assoc, Int.mul_comm, Int.mul_left_comm]

/-- A whole number of units 2^-2148. -/
def un (neg : Bool) (V : Nat) (e : Int) : Int := sn neg V * ((2 ^ (e + 2148).toNat : Nat) : Int)
theorem part_un (b : Nat) : un (sg b) (fbSig b) (fbExp b) = sv b * (K74 : Int) := by
  unfold un
  have h := fbExp_lo b
  obtain ⟨c, hc⟩ : ∃ c, c = 1074 := ⟨_, rfl⟩
  have e : (fbExp b + 2148).toNat = (fbExp b + 1074).toNat + c := by omega
  have hK : ((K74 : Nat) : Int) = ((2 ^ c : Nat) : Int) := by rw [hc, K74_def]
  rw [e, ← part_sv, Int.mul_assoc, hK, pow_add_]
  push_cast
  rfl
/-- The exact road's answer. -/
theorem un_exact (d : Int) {neg : Bool} {V : Nat} {e T : Int} (he : -2148 ≤ e) (h : un neg V e = T) : rnd d neg (zd (2 * V) (e - 1)) = rT d T := by
  unfold un at h
  refine rT_dy (A := (e + 2148).toNat) (B := 0) (by omega) ?_
  rw [h]; simp

theorem inf_cases {b : Nat} (hb : b < 18446744073709551616) (h : mg b = infR) : b = infP (sg b) := by
  have := split_pat hb
  rw [h] at this
  unfold infP
  cases hs : sg b
  · rw [hs] at this; simpa using this
  · rw [hs] at this
    rw [infR_val] at this
    rw [minf_val, if_pos rfl]
    simpa using this
/-- A sum with an operand that is no number. -/
theorem add_odd {x y : Nat} (hx : x < 18446744073709551616) (hy : y < 18446744073709551616) (h : (isNaN x || isInf x || (isNaN y || isInf y)) = true) :
    (Ieee.double.add x y = none ∧ ∀ d, addR d x y = NaNc) ∨ ∃ s, Ieee.double.add x y = some (infP s) ∧ ∀ d, addR d x y = infP s := by
  unfold addR Ieee.Format.add
  rcases kind x with ⟨n1, i1, k1⟩ | ⟨n1, i1, k1⟩ | ⟨n1, i1, k1⟩
  · left
    rw [read_nan hx k1, n1]
    exact ⟨rfl, fun d => rfl⟩
  · rcases kind y with ⟨n2, i2, k2⟩ | ⟨n2, i2, k2⟩ | ⟨n2, i2, k2⟩
    · left
      rw [read_nan hy k2, read_inf hx k1, n2, n1]
      exact ⟨rfl, fun d => rfl⟩
    · rw [read_inf hy k2, read_inf hx k1, n1, n2, i1, i2]
      have ex := inf_cases hx k1
      have ey := inf_cases hy k2
      by_cases hs : sg x = sg y
      · right
        have hxy : x = y := by rw [ex, ey, hs]
        refine ⟨sg x, ?_, fun d => ?_⟩
        · show Option.map _ (if sg x = sg y then some _ else none) = _
          rw [if_pos hs]
          show some (Ieee.double.write _) = _
          rw [write_inf]
        · rw [decide_eq_false (show ¬ x ≠ y from fun h => h hxy)]
          exact ex
      · left
        have hxy : x ≠ y := fun h => hs (by rw [h])
        refine ⟨?_, fun d => ?_⟩
        · show Option.map _ (if sg x = sg y then some _ else none) = _
          rw [if_neg hs]; rfl
        · rw [decide_eq_true hxy]; rfl
    · right
      obtain ⟨m, e, hr, -, hv⟩ := read_fin hy k2
      rw [hr, read_inf hx k1, n1, n2, i1, i2]
      refine ⟨sg x, ?_, fun d => inf_cases hx k1⟩
      show some (Ieee.double.write _) = _
      rw [write_inf]
  · rcases kind y with ⟨n2, i2, k2⟩ | ⟨n2, i2, k2⟩ | ⟨n2, i2, k2⟩
    · left
      obtain ⟨m, e, hr, -, hv⟩ := read_fin hx k1
      rw [read_nan hy k2, hr, n2, n1]
      exact ⟨rfl, fun d => rfl⟩
    · right
      obtain ⟨m, e, hr, -, hv⟩ := read_fin hx k1
      rw [hr, read_inf hy k2, n1, n2, i1, i2]
      refine ⟨sg y, ?_, fun d => inf_cases hy k2⟩
      show some (Ieee.double.write _) = _
      rw [write_inf]
    · rw [n1, n2, i1, i2] at h
      cases h
end Go.Proofs.Ytfbjeifhpmdjaaa.Rn

/-
  Plain: what is left behind 54 digits only has to be told from nothing; quotients. Conditions: those that each theorem names.
-/
set_option linter.unusedVariables false

namespace Go.Proofs.Ytfbjeifhpmdjaaa.Rn

/-- What the rounding asks of a Z. -/
def Asks (T : Nat) : Prop := ∃ k, T = 2 * rv k ∨ T = rv k + rv (k + 1)
theorem rr_same {Z Z' : Nat} (h : ∀ T, Asks T → ((2 * T ≤ Z ↔ 2 * T ≤ Z') ∧ (Z = 2 * T ↔ Z' = 2 * T))) (d : Int) (neg : Bool) : rr d neg Z = rr d neg Z' := by
  have hr : rung (Z / 4) = rung (Z' / 4) := by
    have h1 : ∀ k, k ≤ rung (Z / 4) ↔ k ≤ rung (Z' / 4) := fun k => by
      rw [le_rung_iff, le_rung_iff]
      have := (h (2 * rv k) ⟨k, .inl rfl⟩).1
      omega
    have a := (h1 (rung (Z / 4))).1 (Nat.le_refl _)
    have b := (h1 (rung (Z' / 4))).2 (Nat.le_refl _)
    omega
  have ha : away d neg Z = away d neg Z' := by
    unfold away
    rw [hr]
    obtain ⟨h1, h2⟩ := h (2 * rv (rung (Z' / 4))) ⟨_, .inl rfl⟩
    obtain ⟨h3, h4⟩ := h (rv (rung (Z' / 4)) + rv (rung (Z' / 4) + 1)) ⟨_, .inr rfl⟩
    have e1 : (Z = 4 * rv (rung (Z' / 4))) ↔ (Z' = 4 * rv (rung (Z' / 4))) := by omega
    have e2 : decide (2 * (rv (rung (Z' / 4)) + rv (rung (Z' / 4) + 1)) < Z) = decide (2 * (rv (rung (Z' / 4)) + rv (rung (Z' / 4) + 1)) < Z') := decide_eq_decide.2 (by omega)
    have e3 : decide (Z = 2 * (rv (rung (Z' / 4)) + rv (rung (Z' / 4) + 1))) = decide (Z' = 2 * (rv (rung (Z' / 4)) + rv (rung (Z' / 4) + 1))) := decide_eq_decide.2 (by omega)
    rw [e2, e3]
    by_cases h5 : Z = 4 * rv (rung (Z' / 4))
    · rw [if_pos h5, if_pos (e1.1 h5)]
    · rw [if_neg h5, if_neg (fun h6 => h5 (e1.2 h6))]
  unfold rr
  rw [hr, ha]

theorem asks_dvd {T a b : Nat} (hT : Asks T) (h : 9007199254740992 * 2 ^ a < T * 2 ^ b) : 2 ^ a ∣ T * 2 ^ b := by
  obtain ⟨k, hk⟩ := hT
  obtain ⟨s, h1, h2, h3, -⟩ := rv_dvd k
  generalize k / 4503599627370496 - 1 = v at *
  have key : ∀ {m c : Nat}, m < 9007199254740992 → T * 2 ^ b = m * 2 ^ c → 2 ^ a ∣ T * 2 ^ b := by
    intro m c hm e
    rw [e] at h ⊢
    rcases Nat.lt_or_ge c a with h4 | h4
    · exfalso
      have h5 := pow_mono (Nat.le_of_lt h4)
      have := Nat.mul_le_mul (Nat.le_of_lt hm) h5
      omega
    · exact Nat.dvd_mul_left_of_dvd (pow_dvd h4) _
  rcases hk with hk | hk
  · refine key (m := s) (c := v + 1 + b) h3 ?_
    rw [hk, h1, pow_add_ (v + 1) b, two_pow_s]
    ac_rfl
  · have e : T * 2 ^ b = (2 * s + 1) * 2 ^ (v + b) := by
      rw [hk, h1, h2, pow_add_, ← Nat.mul_assoc, ← Nat.add_mul]
      congr 2
      omega
    rw [e] at h ⊢
    rcases Nat.lt_or_ge (v + b) a with h4 | h4
    · exfalso
      have h5 := pow_mono (show v + b + 1 ≤ a by omega)
      rw [two_pow_s] at h5
      have : (2 * s + 1) * 2 ^ (v + b) ≤ 18014398509481984 * 2 ^ (v + b) := Nat.mul_le_mul_right _ (by omega)
      omega
    · exact Nat.dvd_mul_left_of_dvd (pow_dvd h4) _

/-- Nothing that the rounding asks lies strictly between two neighbours of 54 digits. -/
theorem between {Q a b T : Nat} (hQ : 9007199254740992 ≤ Q) (hT : Asks T) (h1 : Q * 2 ^ a < T * 2 ^ b) (h2 : T * 2 ^ b < (Q + 1) * 2 ^ a) : False := by
  have h3 := asks_dvd (a := a) (b := b) hT (Nat.lt_of_le_of_lt (Nat.mul_le_mul_right _ hQ) h1)
  obtain ⟨m, hm⟩ := h3
  rw [hm, Nat.mul_comm _ (2 ^ a)] at h1 h2
  have := Nat.lt_of_mul_lt_mul_left h1
  have := Nat.lt_of_mul_lt_mul_left h2
  omega

/-- How N by M stands to T times 2^b by 2^a, where nothing asked lies between. -/
theorem floor_le {N M Q a b T : Nat} (hM : 0 < M) (hQ : Q = N / M) (hQ1 : 9007199254740992 ≤ Q) (hT : Asks T) :
    (T * (M * 2 ^ b) ≤ N * 2 ^ a ↔ T * 2 ^ b ≤ Q * 2 ^ a) ∧ (N * 2 ^ a = T * (M * 2 ^ b) ↔ N % M = 0 ∧ Q * 2 ^ a = T * 2 ^ b) := by
  have h0 := Nat.div_add_mod N M
  have hl := Nat.mod_lt N hM
  rw [← hQ] at h0
  have hp := two_pow_pos a
  have e0 : T * (M * 2 ^ b) = M * (T * 2 ^ b) := by rw [Nat.mul_left_comm]
  have e1 : N * 2 ^ a = M * (Q * 2 ^ a) + N % M * 2 ^ a := by
    conv => lhs; rw [← h0]
    rw [Nat.add_mul, Nat.mul_assoc]
  have e2 : N % M * 2 ^ a < M * 2 ^ a := Nat.mul_lt_mul_of_pos_right hl hp
  have e3 : M * ((Q + 1) * 2 ^ a) = M * (Q * 2 ^ a) + M * 2 ^ a := by rw [Nat.add_mul, Nat.one_mul, Nat.mul_add]
  rw [e0, e1]
  rcases Nat.lt_or_ge (Q * 2 ^ a) (T * 2 ^ b) with h1 | h1
  · rcases Nat.lt_or_ge (T * 2 ^ b) ((Q + 1) * 2 ^ a) with h2 | h2
    · exact (between hQ1 hT h1 h2).elim
    · have h3 := Nat.mul_le_mul_left M h2
      rw [e3] at h3
      constructor
      · constructor <;> intro <;> omega
      · constructor
        · intro; omega
        · rintro ⟨-, h4⟩; omega
  · have h3 := Nat.mul_le_mul_left M h1
    constructor
    · constructor <;> intro <;> omega
    · constructor
      · intro h4
        have h5 : N % M * 2 ^ a = 0 := by omega
        have h6 : N % M = 0 := by
          rcases Nat.mul_eq_zero.1 h5 with h | h
          · exact h
          · omega
        have h7 : M * (Q * 2 ^ a) = M * (T * 2 ^ b) := by omega
        exact ⟨h6, Nat.eq_of_mul_eq_mul_left hM h7⟩
      · rintro ⟨h4, h5⟩
        rw [h4, h5]; omega

theorem rr_floor {N M N' M' a b : Nat} (hM : 0 < M) (hM' : 0 < M') (hQ : N / M = N' / M') (hQ1 : 9007199254740992 ≤ N / M) (hx : N % M = 0 ↔ N' % M' = 0) (d : Int) (neg : Bool) :
    rr d neg (zq (N * 2 ^ a) (M * 2 ^ b)) = rr d neg (zq (N' * 2 ^ a) (M' * 2 ^ b)) := by
  refine rr_same (fun T hT => ?_) d neg
  have hb := two_pow_pos b
  rw [zq_le (Nat.mul_pos hM hb), zq_le (Nat.mul_pos hM' hb), zq_eq (Nat.mul_pos hM hb), zq_eq (Nat.mul_pos hM' hb)]
  obtain ⟨h1, h2⟩ := floor_le (a := a) (b := b) hM rfl hQ1 hT
  obtain ⟨h3, h4⟩ := floor_le (a := a) (b := b) hM' hQ (by omega) hT
  rw [h1, h2, h3, h4, hx]
  exact ⟨Iff.rfl, Iff.rfl⟩

theorem zq_floor {N M : Nat} (hM : 0 < M) : zq N M / 2 = N / M ∧ (zq N M % 2 = 0 ↔ N % M = 0) := by
  unfold zq
  split <;> rename_i h
  · constructor
    · omega
    · constructor
      · intro; exact h
      · intro; omega
  · constructor
    · omega
    · constructor
      · intro; omega
      · intro h1; exact absurd h1 h

/-- A quotient of finite patterns. -/
theorem div_fin {x y : Nat} (hx : x < 18446744073709551616) (hy : y < 18446744073709551616) (fx : mg x < infR) (fy : mg y < infR) (hy0 : mg y ≠ 0) :
    Ieee.double.div x y = some (Ieee.double.word (sg x ^^ sg y) (near (zq (rv (mg x) * K75) (rv (mg y))))) := by
  obtain ⟨m, i, e1, hi, v1⟩ := read_fin hx fx
  obtain ⟨n, j, e2, hj, v2⟩ := read_fin hy fy
  have hn : n ≠ 0 := by
    intro h
    rw [h, Nat.zero_mul] at v2
    exact hy0 (rv_eq_zero.1 v2.symm)
  unfold Ieee.Format.div
  rw [e1, e2]
  simp only [Ieee.Datum.quotient, if_neg hn, Option.map_some]
  congr 1
  unfold Ieee.Format.write
  simp only
  rw [nearest_eq, near_eq]
  congr 1
  have e3 : Ieee.double.fractionBits + 2 = 54 := rfl
  rw [e3]
  generalize hmore : 54 + n.log2 - m.log2 = more
  have hmag : 2 * (m <<< more / n) + (m <<< more % n != 0).toNat = zq (m * 2 ^ more) n := by
    rw [Nat.shiftLeft_eq]
    unfold zq
    by_cases h : m * 2 ^ more % n = 0
    · rw [h]; rfl
    · rw [if_neg h, show (m * 2 ^ more % n != 0) = true by simpa using h]; rfl
  rw [hmag]
  -- both sides over powers of 2
  obtain ⟨c, hc⟩ : ∃ c : Nat, c = 1075 := ⟨_, rfl⟩
  have hK : K75 = 2 ^ c := by rw [hc]; exact K75_def
  by_cases hm : m = 0
  · have h1 : rv (mg x) = 0 := by rw [← v1, hm, Nat.zero_mul]
    rw [h1, hm, Nat.zero_mul, Nat.zero_mul]
    have z0 : ∀ M, zq 0 M = 0 := fun M => by simp [zq]
    rw [z0, z0, zd_zero]
  · have hfl : 9007199254740992 ≤ m * 2 ^ more / n := by
      rw [Nat.le_div_iff_mul_le (by omega)]
      obtain ⟨a1, a2⟩ := log2_bounds hm
      obtain ⟨b1, b2⟩ := log2_bounds hn
      have e5 : (9007199254740992 : Nat) = 2 ^ 53 := by decide
      rw [e5]
      have h2 : 2 ^ 53 * n ≤ 2 ^ 53 * 2 ^ (n.log2 + 1) := Nat.mul_le_mul_left _ (by omega)
      have h3 : 2 ^ m.log2 * 2 ^ more ≤ m * 2 ^ more := Nat.mul_le_mul_right _ a1
      rw [← pow_add_] at h2 h3
      have h4 := pow_mono (show 53 + (n.log2 + 1) ≤ m.log2 + more by omega)
      omega
    obtain ⟨f1, f2⟩ := zq_floor (N := m * 2 ^ more) (M := n) (by omega)
    -- places
    obtain ⟨A, B, hAB⟩ : ∃ A B : Nat, (A : Int) - B = i - j - more - 1 + 1075 := by
      refine ⟨(i + 1074).toNat + 1075, (j + 1074).toNat + more + 1, ?_⟩
      omega
    rw [zd_of hAB]
    show near _ = near _
    unfold near
    have h5 := rr_floor (N := m * 2 ^ more) (M := n) (N' := zq (m * 2 ^ more) n) (M' := 2) (a := A + 1) (b := B + 1 - 1) (by omega) (by omega) (by omega) hfl (by rw [f2]) 0 false
    rw [show zq (zq (m * 2 ^ more) n * 2 ^ (A + 1)) (2 * 2 ^ (B + 1 - 1)) = zq (zq (m * 2 ^ more) n * 2 ^ A) (2 ^ B) from zq_congr (Nat.mul_pos (by omega) (two_pow_pos _)) (two_pow_pos _) (by
      rw [show B + 1 - 1 = B by omega, two_pow_s]
      ac_rfl)] at h5
    rw [← h5]
    congr 1
    refine zq_congr (Nat.mul_pos (by omega) (two_pow_pos _)) (by rw [← v2]; exact Nat.mul_pos (by omega) (two_pow_pos _)) ?_
    rw [← v1, ← v2, hK, show B + 1 - 1 = B by omega]
    have e6 : more + (A + 1) + (j + 1074).toNat = (i + 1074).toNat + c + B := by omega
    have e7 : 2 ^ more * 2 ^ (A + 1) * 2 ^ (j + 1074).toNat = 2 ^ (i + 1074).toNat * 2 ^ c * 2 ^ B := by
      rw [← pow_add_, ← pow_add_, ← pow_add_, ← pow_add_, e6]
    calc m * 2 ^ more * 2 ^ (A + 1) * (n * 2 ^ (j + 1074).toNat) = m * n * (2 ^ more * 2 ^ (A + 1) * 2 ^ (j + 1074).toNat) := by ac_rfl
      _ = m * n * (2 ^ (i + 1074).toNat * 2 ^ c * 2 ^ B) := by rw [e7]
      _ = m * 2 ^ (i + 1074).toNat * 2 ^ c * (n * 2 ^ B) := by ac_rfl
end Go.Proofs.Ytfbjeifhpmdjaaa.Rn
