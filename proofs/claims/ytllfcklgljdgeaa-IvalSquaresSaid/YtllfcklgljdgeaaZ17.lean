/-
  Plain: what Mul, Add and their kin answer, as patterns; +, * where an operand is no number. Conditions: those that each theorem names.
-/
import Derived.Test.YtllfcklgljdgeaaZ16
set_option linter.unusedVariables false
set_option linter.unusedSimpArgs false
namespace Go.Proofs.Ytllfcklgljdgeaa.Rn
open Nm

def NaNc : Nat := 9221120237041090561
theorem NaNc_val : NaNc = 9221120237041090561 := rfl
/-- Every NaN told as the one. -/
def cn (b : Nat) : Nat := if isNaN b then NaNc else b
def infP (s : Bool) : Nat := if s then minf else infR
/-- What Mul answers. -/
def mulR (d : Int) (x y : Nat) : Nat :=
  if isNaN x || isNaN y then NaNc
  else if isInf x || isInf y then (if mg x = 0 ∨ mg y = 0 then NaNc else infP (sg x != sg y))
  else rT d (sv x * sv y)
/-- What Add answers. -/
def addR (d : Int) (x y : Nat) : Nat :=
  if isNaN x || isNaN y then NaNc
  else if isInf x && isInf y && decide (x ≠ y) then NaNc
  else if isInf x then x
  else if isInf y then y
  else rT d ((sv x + sv y) * (K74 : Int))

theorem sn_bne (a b : Bool) (m n : Nat) : sn (a != b) (m * n) = sn a m * sn b n := by
  unfold sn
  cases a <;> cases b <;> simp [Int.neg_mul, Int.mul_neg]
theorem sn_dec (neg : Bool) (n m : Nat) (h : m = 0 ↔ n = 0) : sn (neg && decide (m ≠ 0)) n = sn neg n := by
  unfold sn
  by_cases h0 : n = 0
  · simp [h0]
  · have : m ≠ 0 := fun hm => h0 (h.1 hm)
    simp [this]
/-- The document's ratio, reduced. -/
theorem sn_frac {neg : Bool} {n d : Nat} {e : Int} {p q : Nat} (hpq : (p : Int) - q = e) : sn (neg && decide (n ≠ 0)) (fracN n d e) * ((d * 2 ^ q : Nat) : Int) = sn neg n * ((2 ^ p * fracD n d e : Nat) : Int) := by
  have h1 := frac_val (n := n) (d := d) hpq
  have h2 : sn (neg && decide (n ≠ 0)) (fracN n d e) = sn neg (fracN n d e) := sn_dec neg _ _ (fracN_eq_zero (d := d) (e := e)).symm
  rw [h2, sn_mul, sn_mul, h1, Nat.mul_assoc]

theorem part_mul (x y : Nat) : sn (sg x != sg y) (fbSig x * fbSig y) * ((2 ^ ((fbExp x + 1074).toNat + (fbExp y + 1074).toNat) : Nat) : Int) = sv x * sv y := by
  rw [sn_bne, pow_add_, ← part_sv x, ← part_sv y]
  push_cast
  rw [Int.mul_assoc, Int.mul_assoc, Int.mul_left_comm (sn (sg y) (fbSig y))]
/-- The exact product. -/
theorem mul_exact (d : Int) (x y : Nat) : rnd d (sg x != sg y) (zd (2 * (fbSig x * fbSig y)) (fbExp x + fbExp y - 1)) = rT d (sv x * sv y) := by
  have h1 := fbExp_lo x
  have h2 := fbExp_lo y
  refine rT_dy (A := (fbExp x + 1074).toNat + (fbExp y + 1074).toNat) (B := 0) (by omega) ?_
  rw [part_mul]; simp
/-- The document's product. -/
theorem mul_ref (d : Int) (x y : Nat) {n m : Bool} (hn : n = (sg x && decide (mg x ≠ 0))) (hm : m = (sg y && decide (mg y ≠ 0))) :
    rnd d ((n != m) && decide (fbN x * fbN y ≠ 0)) (zr (fracN (fbN x * fbN y) (fbD x * fbD y) 0) (fracD (fbN x * fbN y) (fbD x * fbD y) 0)) = rT d (sv x * sv y) := by
  have hp : 0 < fbD x * fbD y := Nat.mul_pos (fbD_pos x) (fbD_pos y)
  refine rT_rat (fracD_pos _ (by omega)) ?_
  have h1 := sn_frac (neg := n != m) (n := fbN x * fbN y) (d := fbD x * fbD y) (e := 0) (p := 0) (q := 0) rfl
  rw [sn_bne] at h1
  have h2 := fb_sv x
  have h3 := fb_sv y
  rw [← hn] at h2
  rw [← hm] at h3
  obtain ⟨F, hF⟩ : ∃ F, F = sn ((n != m) && decide (fbN x * fbN y ≠ 0)) (fracN (fbN x * fbN y) (fbD x * fbD y) 0) := ⟨_, rfl⟩
  obtain ⟨G, hG⟩ : ∃ G, G = fracD (fbN x * fbN y) (fbD x * fbD y) 0 := ⟨_, rfl⟩
  rw [← hF, ← hG] at h1 ⊢
  obtain ⟨a, ha⟩ : ∃ a, a = sn n (fbN x) := ⟨_, rfl⟩
  obtain ⟨b, hb⟩ : ∃ b, b = sn m (fbN y) := ⟨_, rfl⟩
  rw [← ha, ← hb] at h1
  rw [← ha] at h2
  rw [← hb] at h3
  have hpi : (0 : Int) < ((fbD x * fbD y : Nat) : Int) := by omega
  refine Int.eq_of_mul_eq_mul_right (Int.ne_of_gt hpi) ?_
  have e1 : ((fbD x * fbD y * 2 ^ 0 : Nat) : Int) = ((fbD x * fbD y : Nat) : Int) := by simp
  have e2 : ((2 ^ 0 * G : Nat) : Int) = (G : Int) := by simp
  rw [e1, e2] at h1
  have e3 : F * ((K74 * K74 : Nat) : Int) * ((fbD x * fbD y : Nat) : Int) = (a * K74) * (b * K74) * G := by
    rw [Int.mul_right_comm, h1]
    push_cast
    simp only [Int.mul_assoc, Int.mul_comm, Int.mul_left_comm]
  rw [e3, h2, h3]
  push_cast
  simp only [Int.mul_assoc, Int.mul_comm, Int.mul_left_comm]

theorem write_inf (s : Bool) : Ieee.double.write (.infinity s) = infP s := by cases s <;> rfl
theorem isInf_iff (b : Nat) : isInf b = true ↔ mg b = infR := by unfold isInf; exact decide_eq_true_iff
theorem isNaN_iff (b : Nat) : isNaN b = true ↔ infR < mg b := by unfold isNaN; exact decide_eq_true_iff
/-- The three kinds of patterns. -/
theorem kind (b : Nat) : (isNaN b = true ∧ isInf b = false ∧ infR < mg b) ∨ (isNaN b = false ∧ isInf b = true ∧ mg b = infR) ∨ (isNaN b = false ∧ isInf b = false ∧ mg b < infR) := by
  unfold isNaN isInf
  rcases Nat.lt_trichotomy (mg b) infR with h | h | h
  · right; right; exact ⟨decide_eq_false (by omega), decide_eq_false (by omega), h⟩
  · right; left; exact ⟨decide_eq_false (by omega), decide_eq_true h, h⟩
  · left; exact ⟨decide_eq_true h, decide_eq_false (by omega), h⟩

/-- A product with an operand that is no number. -/
theorem mul_odd {x y : Nat} (hx : x < 18446744073709551616) (hy : y < 18446744073709551616) (h : (isNaN x || isInf x || (isNaN y || isInf y)) = true) :
    (Ieee.double.mul x y = none ∧ ∀ d, mulR d x y = NaNc) ∨ ∃ s, Ieee.double.mul x y = some (infP s) ∧ ∀ d, mulR d x y = infP s := by
  unfold mulR Ieee.Format.mul
  have z : ∀ {b m : Nat} {e : Int}, m * 2 ^ (e + 1074).toNat = rv (mg b) → (m = 0 ↔ mg b = 0) := by
    intro b m e h
    constructor
    · intro hm; rw [hm, Nat.zero_mul] at h; exact rv_eq_zero.1 h.symm
    · intro hm; rw [hm, rv_zero] at h; rcases Nat.mul_eq_zero.1 h with h2 | h2; exact h2; have := two_pow_pos (e + 1074).toNat; omega
  rcases kind x with ⟨n1, i1, k1⟩ | ⟨n1, i1, k1⟩ | ⟨n1, i1, k1⟩
  · left
    rw [read_nan hx k1, n1]
    exact ⟨rfl, fun d => rfl⟩
  · rcases kind y with ⟨n2, i2, k2⟩ | ⟨n2, i2, k2⟩ | ⟨n2, i2, k2⟩
    · left
      rw [read_nan hy k2, read_inf hx k1, n2, n1]
      exact ⟨rfl, fun d => rfl⟩
    · right
      refine ⟨sg x ^^ sg y, ?_, fun d => ?_⟩
      · rw [read_inf hy k2, read_inf hx k1]
        show some (Ieee.double.write _) = _
        rw [write_inf]
      · rw [n1, n2, i1, i2, k1, k2]
        show (if infR = 0 ∨ infR = 0 then NaNc else infP (sg x != sg y)) = _
        rw [infR_val, if_neg (by omega)]
    · obtain ⟨m, e, hr, -, hv⟩ := read_fin hy k2
      rw [hr, read_inf hx k1, n1, n2, i1, i2, k1]
      by_cases h0 : mg y = 0
      · left
        have hm := (z hv).2 h0
        subst hm
        refine ⟨rfl, fun d => ?_⟩
        show (if infR = 0 ∨ mg y = 0 then NaNc else infP (sg x != sg y)) = _
        rw [if_pos (.inr h0)]
      · right
        have hm : m ≠ 0 := fun h => h0 ((z hv).1 h)
        refine ⟨sg x ^^ sg y, ?_, fun d => ?_⟩
        · show Option.map _ (if m = 0 then none else some _) = _
          rw [if_neg hm]
          show some (Ieee.double.write _) = _
          rw [write_inf]
        · show (if infR = 0 ∨ mg y = 0 then NaNc else infP (sg x != sg y)) = _
          rw [infR_val, if_neg (by omega)]
  · rcases kind y with ⟨n2, i2, k2⟩ | ⟨n2, i2, k2⟩ | ⟨n2, i2, k2⟩
    · left
      obtain ⟨m, e, hr, -, hv⟩ := read_fin hx k1
      rw [read_nan hy k2, hr, n2, n1]
      exact ⟨rfl, fun d => rfl⟩
    · obtain ⟨m, e, hr, -, hv⟩ := read_fin hx k1
      rw [hr, read_inf hy k2, n1, n2, i1, i2, k2]
      by_cases h0 : mg x = 0
      · left
        have hm := (z hv).2 h0
        subst hm
        refine ⟨rfl, fun d => ?_⟩
        show (if mg x = 0 ∨ infR = 0 then NaNc else infP (sg x != sg y)) = _
        rw [if_pos (.inl h0)]
      · right
        have hm : m ≠ 0 := fun h => h0 ((z hv).1 h)
        refine ⟨sg x ^^ sg y, ?_, fun d => ?_⟩
        · show Option.map _ (if m = 0 then none else some _) = _
          rw [if_neg hm]
          show some (Ieee.double.write (.infinity (sg y ^^ sg x))) = _
          rw [write_inf, Bool.xor_comm]
        · show (if mg x = 0 ∨ infR = 0 then NaNc else infP (sg x != sg y)) = _
          rw [infR_val, if_neg (by omega)]
    · rw [n1, n2, i1, i2] at h
      cases h
end Go.Proofs.Ytllfcklgljdgeaa.Rn

/-
  Plain: what is left behind 54 digits only has to be told from nothing; quotients. Conditions: those that each theorem names.
-/
set_option linter.unusedVariables false

namespace Go.Proofs.Ytllfcklgljdgeaa.Rn

/-- What the rounding asks of a Z. -/
def Asks (T : Nat) : Prop := ∃ k, T = 2 * rv k ∨ T = rv k + rv (k + 1)
theorem rr_same {Z Z' : Nat} (h : ∀ T, Asks T → ((2 * T ≤ Z ↔ 2 * T ≤ Z') ∧ (Z = 2 * T ↔ Z' = 2 * T))) (d : Int) (neg : Bool) : rr d neg Z = rr d neg Z' := by
  have hr : rung (Z / 4) = rung (Z' / 4) := by
    have h1 : ∀ k, k ≤ rung (Z / 4) ↔ k ≤ rung (Z' / 4) := fun k => by
      rw [le_rung_iff, le_rung_iff]
      have := (h (2 * rv k) ⟨k, .inl rfl⟩).1
      omega
    have a := (h1 (rung (Z / 4))).1 (Nat.le_refl _)
    have b := (h1 (rung (Z' / 4))).2 (Nat.le_refl _)
    omega
  have ha : away d neg Z = away d neg Z' := by
    unfold away
    rw [hr]
    obtain ⟨h1, h2⟩ := h (2 * rv (rung (Z' / 4))) ⟨_, .inl rfl⟩
    obtain ⟨h3, h4⟩ := h (rv (rung (Z' / 4)) + rv (rung (Z' / 4) + 1)) ⟨_, .inr rfl⟩
    have e1 : (Z = 4 * rv (rung (Z' / 4))) ↔ (Z' = 4 * rv (rung (Z' / 4))) := by omega
    have e2 : decide (2 * (rv (rung (Z' / 4)) + rv (rung (Z' / 4) + 1)) < Z) = decide (2 * (rv (rung (Z' / 4)) + rv (rung (Z' / 4) + 1)) < Z') := decide_eq_decide.2 (by omega)
    have e3 : decide (Z = 2 * (rv (rung (Z' / 4)) + rv (rung (Z' / 4) + 1))) = decide (Z' = 2 * (rv (rung (Z' / 4)) + rv (rung (Z' / 4) + 1))) := decide_eq_decide.2 (by omega)
    rw [e2, e3]
    by_cases h5 : Z = 4 * rv (rung (Z' / 4))
    · rw [if_pos h5, if_pos (e1.1 h5)]
    · rw [if_neg h5, if_neg (fun h6 => h5 (e1.2 h6))]
  unfold rr
  rw [hr, ha]

theorem asks_dvd {T a b : Nat} (hT : Asks T) (h : 9007199254740992 * 2 ^ a < T * 2 ^ b) : 2 ^ a ∣ T * 2 ^ b := by
  obtain ⟨k, hk⟩ := hT
  obtain ⟨s, h1, h2, h3, -⟩ := rv_dvd k
  generalize k / 4503599627370496 - 1 = v at *
  have key : ∀ {m c : Nat}, m < 9007199254740992 → T * 2 ^ b = m * 2 ^ c → 2 ^ a ∣ T * 2 ^ b := by
    intro m c hm e
    rw [e] at h ⊢
    rcases Nat.lt_or_ge c a with h4 | h4
    · exfalso
      have h5 := pow_mono (Nat.le_of_lt h4)
      have := Nat.mul_le_mul (Nat.le_of_lt hm) h5
      omega
    · exact Nat.dvd_mul_left_of_dvd (pow_dvd h4) _
  rcases hk with hk | hk
  · refine key (m := s) (c := v + 1 + b) h3 ?_
    rw [hk, h1, pow_add_ (v + 1) b, two_pow_s]
    ac_rfl
  · have e : T * 2 ^ b = (2 * s + 1) * 2 ^ (v + b) := by
      rw [hk, h1, h2, pow_add_, ← Nat.mul_assoc, ← Nat.add_mul]
      congr 2
      omega
    rw [e] at h ⊢
    rcases Nat.lt_or_ge (v + b) a with h4 | h4
    · exfalso
      have h5 := pow_mono (show v + b + 1 ≤ a by omega)
      rw [two_pow_s] at h5
      have : (2 * s + 1) * 2 ^ (v + b) ≤ 18014398509481984 * 2 ^ (v + b) := Nat.mul_le_mul_right _ (by omega)
      omega
    · exact Nat.dvd_mul_left_of_dvd (pow_dvd h4) _

/-- Nothing that the rounding asks lies strictly between two neighbours of 54 digits. -/
theorem between {Q a b T : Nat} (hQ : 9007199254740992 ≤ Q) (hT : Asks T) (h1 : Q * 2 ^ a < T * 2 ^ b) (h2 : T * 2 ^ b < (Q + 1) * 2 ^ a) : False := by
  have h3 := asks_dvd (a := a) (b := b) hT (Nat.lt_of_le_of_lt (Nat.mul_le_mul_right _ hQ) h1)
  obtain ⟨m, hm⟩ := h3
  rw [hm, Nat.mul_comm _ (2 ^ a)] at h1 h2
  have := Nat.lt_of_mul_lt_mul_left h1
  have := Nat.lt_of_mul_lt_mul_left h2
  omega

/-- How N by M stands to T times 2^b by 2^a, where nothing asked lies between. -/
theorem floor_le {N M Q a b T : Nat} (hM : 0 < M) (hQ : Q = N / M) (hQ1 : 9007199254740992 ≤ Q) (hT : Asks T) :
    (T * (M * 2 ^ b) ≤ N * 2 ^ a ↔ T * 2 ^ b ≤ Q * 2 ^ a) ∧ (N * 2 ^ a = T * (M * 2 ^ b) ↔ N % M = 0 ∧ Q * 2 ^ a = T * 2 ^ b) := by
  have h0 := Nat.div_add_mod N M
  have hl := Nat.mod_lt N hM
  rw [← hQ] at h0
  have hp := two_pow_pos a
  have e0 : T * (M * 2 ^ b) = M * (T * 2 ^ b) := by rw [Nat.mul_left_comm]
  have e1 : N * 2 ^ a = M * (Q * 2 ^ a) + N % M * 2 ^ a := by
    conv => lhs; rw [← h0]
    rw [Nat.add_mul, Nat.mul_assoc]
  have e2 : N % M * 2 ^ a < M * 2 ^ a := Nat.mul_lt_mul_of_pos_right hl hp
  have e3 : M * ((Q + 1) * 2 ^ a) = M * (Q * 2 ^ a) + M * 2 ^ a := by rw [Nat.add_mul, Nat.one_mul, Nat.mul_add]
  rw [e0, e1]
  rcases Nat.lt_or_ge (Q * 2 ^ a) (T * 2 ^ b) with h1 | h1
  · rcases Nat.lt_or_ge (T * 2 ^ b) ((Q + 1) * 2 ^ a) with h2 | h2
    · exact (between hQ1 hT h1 h2).elim
    · have h3 := Nat.mul_le_mul_left M h2
      rw [e3] at h3
      constructor
      · constructor <;> intro <;> omega
      · constructor
        · intro; omega
        · rintro ⟨-, h4⟩; omega
  · have h3 := Nat.mul_le_mul_left M h1
    constructor
    · constructor <;> intro <;> omega
    · constructor
      · intro h4
        have h5 : N % M * 2 ^ a = 0 := by omega
        have h6 : N % M = 0 := by
          rcases Nat.mul_eq_zero.1 h5 with h | h
          · exact h
          · omega
        have h7 : M * (Q * 2 ^ a) = M * (T * 2 ^ b) := by omega
        exact ⟨h6, Nat.eq_of_mul_eq_mul_left hM h7⟩
      · rintro ⟨h4, h5⟩
        rw [h4, h5]; omega

theorem rr_floor {N M N' M' a b : Nat} (hM : 0 < M) (hM' : 0 < M') (hQ : N / M = N' / M') (hQ1 : 9007199254740992 ≤ N / M) (hx : N % M = 0 ↔ N' % M' = 0) (d : Int) (neg : Bool) :
    rr d neg (zq (N * 2 ^ a) (M * 2 ^ b)) = rr d neg (zq (N' * 2 ^ a) (M' * 2 ^ b)) := by
  refine rr_same (fun T hT => ?_) d neg
  have hb := two_pow_pos b
  rw [zq_le (Nat.mul_pos hM hb), zq_le (Nat.mul_pos hM' hb), zq_eq (Nat.mul_pos hM hb), zq_eq (Nat.mul_pos hM' hb)]
  obtain ⟨h1, h2⟩ := floor_le (a := a) (b := b) hM rfl hQ1 hT
  obtain ⟨h3, h4⟩ := floor_le (a := a) (b := b) hM' hQ (by omega) hT
  rw [h1, h2, h3, h4, hx]
  exact ⟨Iff.rfl, Iff.rfl⟩

theorem zq_floor {N M : Nat} (hM : 0 < M) : zq N M / 2 = N / M ∧ (zq N M % 2 = 0 ↔ N % M = 0) := by
  unfold zq
  split <;> rename_i h
  · constructor
    · omega
    · constructor
      · intro; exact h
      · intro; omega
  · constructor
    · omega
    · constructor
      · intro; omega
      · intro h1; exact absurd h1 h

/-- A quotient of finite patterns. -/
theorem div_fin {x y : Nat} (hx : x < 18446744073709551616) (hy : y < 18446744073709551616) (fx : mg x < infR) (fy : mg y < infR) (hy0 : mg y ≠ 0) :
    Ieee.double.div x y = some (Ieee.double.word (sg x ^^ sg y) (near (zq (rv (mg x) * K75) (rv (mg y))))) := by
  obtain ⟨m, i, e1, hi, v1⟩ := read_fin hx fx
  obtain ⟨n, j, e2, hj, v2⟩ := read_fin hy fy
  have hn : n ≠ 0 := by
    intro h
    rw [h, Nat.zero_mul] at v2
    exact hy0 (rv_eq_zero.1 v2.symm)
  unfold Ieee.Format.div
  rw [e1, e2]
  simp only [Ieee.Datum.quotient, if_neg hn, Option.map_some]
  congr 1
  unfold Ieee.Format.write
  simp only
  rw [nearest_eq, near_eq]
  congr 1
  have e3 : Ieee.double.fractionBits + 2 = 54 := rfl
  rw [e3]
  generalize hmore : 54 + n.log2 - m.log2 = more
  have hmag : 2 * (m <<< more / n) + (m <<< more % n != 0).toNat = zq (m * 2 ^ more) n := by
    rw [Nat.shiftLeft_eq]
    unfold zq
    by_cases h : m * 2 ^ more % n = 0
    · rw [h]; rfl
    · rw [if_neg h, show (m * 2 ^ more % n != 0) = true by simpa using h]; rfl
  rw [hmag]
  -- both sides over powers of 2
  obtain ⟨c, hc⟩ : ∃ c : Nat, c = 1075 := ⟨_, rfl⟩
  have hK : K75 = 2 ^ c := by rw [hc]; exact K75_def
  by_cases hm : m = 0
  · have h1 : rv (mg x) = 0 := by rw [← v1, hm, Nat.zero_mul]
    rw [h1, hm, Nat.zero_mul, Nat.zero_mul]
    have z0 : ∀ M, zq 0 M = 0 := fun M => by simp [zq]
    rw [z0, z0, zd_zero]
  · have hfl : 9007199254740992 ≤ m * 2 ^ more / n := by
      rw [Nat.le_div_iff_mul_le (by omega)]
      obtain ⟨a1, a2⟩ := log2_bounds hm
      obtain ⟨b1, b2⟩ := log2_bounds hn
      have e5 : (9007199254740992 : Nat) = 2 ^ 53 := by decide
      rw [e5]
      have h2 : 2 ^ 53 * n ≤ 2 ^ 53 * 2 ^ (n.log2 + 1) := Nat.mul_le_mul_left _ (by omega)
      have h3 : 2 ^ m.log2 * 2 ^ more ≤ m * 2 ^ more := Nat.mul_le_mul_right _ a1
      rw [← pow_add_] at h2 h3
      have h4 := pow_mono (show 53 + (n.log2 + 1) ≤ m.log2 + more by omega)
      omega
    obtain ⟨f1, f2⟩ := zq_floor (N := m * 2 ^ more) (M := n) (by omega)
    -- places
    obtain ⟨A, B, hAB⟩ : ∃ A B : Nat, (A : Int) - B = i - j - more - 1 + 1075 := by
      refine ⟨(i + 1074).toNat + 1075, (j + 1074).toNat + more + 1, ?_⟩
      omega
    rw [zd_of hAB]
    show near _ = near _
    unfold near
    have h5 := rr_floor (N := m * 2 ^ more) (M := n) (N' := zq (m * 2 ^ more) n) (M' := 2) (a := A + 1) (b := B + 1 - 1) (by omega) (by omega) (by omega) hfl (by rw [f2]) 0 false
    rw [show zq (zq (m * 2 ^ more) n * 2 ^ (A + 1)) (2 * 2 ^ (B + 1 - 1)) = zq (zq (m * 2 ^ more) n * 2 ^ A) (2 ^ B) from zq_congr (Nat.mul_pos (by omega) (two_pow_pos _)) (two_pow_pos _) (by
      rw [show B + 1 - 1 = B by omega, two_pow_s]
      ac_rfl)] at h5
    rw [← h5]
    congr 1
    refine zq_congr (Nat.mul_pos (by omega) (two_pow_pos _)) (by rw [← v2]; exact Nat.mul_pos (by omega) (two_pow_pos _)) ?_
    rw [← v1, ← v2, hK, show B + 1 - 1 = B by omega]
    have e6 : more + (A + 1) + (j + 1074).toNat = (i + 1074).toNat + c + B := by omega
    have e7 : 2 ^ more * 2 ^ (A + 1) * 2 ^ (j + 1074).toNat = 2 ^ (i + 1074).toNat * 2 ^ c * 2 ^ B := by
      rw [← pow_add_, ← pow_add_, ← pow_add_, ← pow_add_, e6]
    calc m * 2 ^ more * 2 ^ (A + 1) * (n * 2 ^ (j + 1074).toNat) = m * n * (2 ^ more * 2 ^ (A + 1) * 2 ^ (j + 1074).toNat) := by ac_rfl
      _ = m * n * (2 ^ (i + 1074).toNat * 2 ^ c * 2 ^ B) := by rw [e7]
      _ = m * 2 ^ (i + 1074).toNat * 2 ^ c * (n * 2 ^ B) := by ac_rfl
end Go.Proofs.Ytllfcklgljdgeaa.Rn

/-
  Plain: the quick road of a quotient answers the number rounded in the direction. Conditions: those that each theorem names.
-/
set_option linter.unusedVariables false

namespace Go.Proofs.Ytllfcklgljdgeaa.Rn

theorem cap_rv : 1099511627776 * Kg ≤ rv (infR - 2) := by
  obtain ⟨c, hc⟩ : ∃ c : Nat, c = 1974 := ⟨_, rfl⟩
  rw [Kg_def, ← hc]
  have e : 1099511627776 * 2 ^ c = rv ((c + 40 - 52) * 4503599627370496 + 4503599627370496) := by
    rw [rv_form (c + 40 - 52) 4503599627370496 (by omega) (fun _ => Nat.le_refl _)]
    have : 2 ^ (c + 40) = 2 ^ (c + 40 - 52) * 2 ^ 52 := by rw [← pow_add_]; congr 1; omega
    rw [pow_add_] at this
    have e1 : (2 : Nat) ^ 40 = 1099511627776 := by decide
    have e2 : (2 : Nat) ^ 52 = 4503599627370496 := by decide
    rw [e1, e2] at this
    omega
  rw [e]
  exact rv_le (by rw [infR_val]; omega)

theorem K74_i : ((2 ^ 1074 : Nat) : Int) = (K74 : Int) := congrArg Int.ofNat K74_def.symm

/-- What a Z of a quotient asks. -/
theorem zd_le {X Y r : Nat} (hY : 0 < Y) : 4 * r ≤ zq (X * K75) Y ↔ r * Y ≤ X * K74 := by
  rw [show 4 * r = 2 * (2 * r) by omega, zq_le hY, K75_74]
  have e1 : 2 * r * Y = 2 * (r * Y) := Nat.mul_assoc _ _ _
  have e2 : X * (2 * K74) = 2 * (X * K74) := Nat.mul_left_comm _ _ _
  omega
theorem zd_gt {X Y r : Nat} (hY : 0 < Y) : 4 * r < zq (X * K75) Y ↔ r * Y < X * K74 := by
  rw [show 4 * r = 2 * (2 * r) by omega, zq_gt hY, K75_74]
  have e1 : 2 * r * Y = 2 * (r * Y) := Nat.mul_assoc _ _ _
  have e2 : X * (2 * K74) = 2 * (X * K74) := Nat.mul_left_comm _ _ _
  omega

theorem rn_pos {S : Int} : (0 < rn S ↔ 0 < S) ∧ (rn S < 0 ↔ S < 0) := by
  have h1 : S ≠ 0 → (1 : Int).natAbs ≤ (rn S).natAbs := fun h => rn_ge (g := 1) ⟨1, by decide⟩ (by omega)
  have h2 : S = 0 → rn S = 0 := fun h => by rw [h, rn_zero]
  have h3 : S < 0 → rn S ≤ 0 := fun h => by unfold rn; rw [if_pos h]; omega
  have h4 : ¬ S < 0 → 0 ≤ rn S := fun h => by unfold rn; rw [if_neg h]; omega
  omega

set_option maxHeartbeats 4000000 in
theorem div_quick {x y s p : Nat} {X Y : Int} (hx : Fl x X) (hy : Fl y Y) (mx : Mid X) (my : Mid Y) (hs : Ieee.double.div x y = some s) (fs : mg s < infR) (ms : Mid (sv s)) (hp : Ieee.double.mul s y = some p) (fp : mg p < infR) (mp : Mid (sv p)) :
    ∃ m a b M E, MissedOps s y p m ∧ Ieee.double.sub x p = some a ∧ Ieee.double.sub a m = some b ∧ Fl m M ∧ Fl b E ∧ ∀ d, rnd d (sg x ^^ sg y) (zq (rv (mg x) * K75) (rv (mg y))) = kp (key s + adj d (if Y < 0 then -E else E)) := by
  have hY0 : 0 < rv (mg y) := by have := my.1; have := hy.abs; omega
  have hX0 : 0 < rv (mg x) := by have := mx.1; have := hx.abs; omega
  have hmy : mg y ≠ 0 := fun h => by rw [h, rv_zero] at hY0; omega
  have hdiv := div_fin hx.lt hy.lt hx.fin hy.fin hmy
  rw [hdiv] at hs
  injection hs with hs
  obtain ⟨Z, hZ⟩ : ∃ Z, Z = zq (rv (mg x) * K75) (rv (mg y)) := ⟨_, rfl⟩
  rw [← hZ] at hs ⊢
  have hnl := near_lt' Z
  have hms : mg s = near Z := by rw [← hs, mg_word hnl]
  have hss : sg s = (sg x ^^ sg y) := by rw [← hs, sg_word hnl]
  have hsl : s < 18446744073709551616 := by rw [← hs]; exact word_lt hnl
  have hF : Fl s (sv s) := Fl.of hsl fs
  have hQ := sv_abs s
  obtain ⟨r, m, hr, hr0, hrg, om, fpr, fm, -⟩ := mul_quick hF hy ms my hp fp mp
  -- sizes
  clear hdiv
  have hbig : Z < 4 * (4 * Kg) := by
    rcases Nat.lt_or_ge Z (4 * (4 * Kg)) with h | h
    · exact h
    · exfalso
      obtain ⟨j, hj⟩ := rp_Kg (m := 4) (by omega)
      have h0 := nr_cap (P := 4 * Kg) (by omega)
      rw [← hj, nr_rv] at h0
      have h1 := near_lo (Z := Z) (k := j) (by omega) (by omega)
      have h2 := rv_le h1
      rw [← hms, hj, ← hQ] at h2
      have := ms.2
      omega
  have n3 : near Z = rung (Z / 4) ∨ near Z = rung (Z / 4) + 1 := (near_lt Z (by have := cap_rv; omega)).2.2
  obtain ⟨f, hf⟩ : ∃ f, f = rung (Z / 4) := ⟨_, rfl⟩
  rw [← hf] at n3
  obtain ⟨w1, w2⟩ := rung_spec (Z / 4)
  rw [← hf] at w1 w2
  have z1 : rv f * rv (mg y) ≤ rv (mg x) * K74 := (zd_le hY0).1 (by rw [← hZ]; omega)
  have z2 : rv (mg x) * K74 < rv (f + 1) * rv (mg y) := by
    rcases Nat.lt_or_ge (rv (mg x) * K74) (rv (f + 1) * rv (mg y)) with h | h
    · exact h
    · have := (zd_le hY0).2 h; rw [← hZ] at this; omega
  have hrv : r.natAbs * K74 = rv (mg s) * rv (mg y) := by
    have := congrArg Int.natAbs hr
    rw [Int.natAbs_mul, Int.natAbs_mul, K74_i, Int.natAbs_natCast, hy.abs, hQ] at this
    exact this
  obtain ⟨sf, g1, g2, g3, g4⟩ := rv_dvd f
  obtain ⟨v, hv⟩ : ∃ v, v = f / 4503599627370496 - 1 := ⟨_, rfl⟩
  rw [← hv] at g1 g2 g4
  have hKs : 18014398509481984 * 2 ^ 0 ≤ Ks := by
    obtain ⟨c, hc⟩ : ∃ c : Nat, c = 120 := ⟨_, rfl⟩
    have e : (2 : Nat) ^ 174 = 2 ^ 54 * 2 ^ c := by rw [hc, ← pow_add_]
    rw [Ks_def, e]
    have := two_pow_pos c
    have e1 : (2 : Nat) ^ 54 = 18014398509481984 := by decide
    rw [e1, Nat.pow_zero]
    omega
  rw [Nat.pow_zero, Nat.mul_one] at hKs
  have hs1 := ms.1
  rw [hQ] at hs1
  have hsle : rv (mg s) ≤ rv (f + 1) := rv_le (by omega)
  have hv0 : v ≠ 0 := by
    intro h
    rw [h, Nat.pow_zero] at g2
    omega
  have hu1 : 4503599627370496 * 2 ^ v ≤ rv f := by rw [g1]; exact Nat.mul_le_mul_right _ (g4 hv0)
  have hu2 : rv (f + 1) = rv f + 2 ^ v := by rw [g2, g1, Nat.add_mul, Nat.one_mul]
  obtain ⟨A, hA⟩ : ∃ A, A = 2 ^ v := ⟨_, rfl⟩
  rw [← hA] at hu1 hu2
  clear g1 g2 g3 g4 hA
  -- r beside X
  have hYm : 4503599627370496 * (A * rv (mg y)) ≤ rv f * rv (mg y) := by rw [← Nat.mul_assoc]; exact Nat.mul_le_mul_right _ hu1
  have hs3 : rv f ≤ rv (mg s) := rv_le (by omega)
  have hK := K74_pos
  have b1 : r.natAbs * K74 ≤ rv f * rv (mg y) + A * rv (mg y) := by
    rw [hrv, ← Nat.add_mul, ← hu2]; exact Nat.mul_le_mul_right _ hsle
  have b2 : rv f * rv (mg y) ≤ r.natAbs * K74 := by rw [hrv]; exact Nat.mul_le_mul_right _ hs3
  rw [hu2, Nat.add_mul] at z2
  have c1 : 4503599627370496 * r.natAbs ≤ 4503599627370497 * rv (mg x) := by
    have : (4503599627370496 * r.natAbs) * K74 ≤ (4503599627370497 * rv (mg x)) * K74 := by rw [Nat.mul_assoc, Nat.mul_assoc]; omega
    exact Nat.le_of_mul_le_mul_right this hK
  have c2 : 4503599627370495 * rv (mg x) ≤ 4503599627370496 * r.natAbs := by
    have : (4503599627370495 * rv (mg x)) * K74 ≤ (4503599627370496 * r.natAbs) * K74 := by rw [Nat.mul_assoc, Nat.mul_assoc]; omega
    exact Nat.le_of_mul_le_mul_right this hK
  clear b1 b2 hYm
  -- the signs
  have hXs := sv_sn x
  have hYs := sv_sn y
  have hSs := sv_sn s
  have hx' := hx.abs
  have hy' := hy.abs
  have sgX : (X < 0 ↔ sg x = true) := by
    rw [← hx.val]; unfold sv; cases sg x <;> simp <;> omega
  have sgY : (Y < 0 ↔ sg y = true) := by
    rw [← hy.val]; unfold sv; cases sg y <;> simp <;> omega
  have sgS : (sv s < 0 ↔ sg s = true) := by
    unfold sv; cases sg s <;> simp <;> omega
  have hsr : (r < 0 ↔ X < 0) := by
    have hp : (0 : Int) < (K74 : Int) := by omega
    rw [K74_i] at hr
    have e1 : r < 0 ↔ sv s * Y < 0 := by
      rw [← hr]
      constructor
      · intro h; exact Int.mul_neg_of_neg_of_pos h hp
      · intro h
        rcases Int.lt_or_le r 0 with h' | h'
        · exact h'
        · have := Int.mul_nonneg h' (show (0 : Int) ≤ (K74 : Int) by omega); omega
    rw [e1, sgX]
    rw [hss] at sgS
    have t1 : sv s ≠ 0 := by omega
    have t2 : Y ≠ 0 := by omega
    rcases Int.lt_or_lt_of_ne t1 with a | a <;> rcases Int.lt_or_lt_of_ne t2 with b | b
    · have := Int.mul_pos_of_neg_of_neg a b
      have h1 := sgS.1 a; have h2 := sgY.1 b
      rw [h2] at h1
      cases h3 : sg x
      · exact ⟨fun h => by omega, fun h => by cases h⟩
      · rw [h3] at h1; cases h1
    · have := Int.mul_neg_of_neg_of_pos a b
      have h1 := sgS.1 a
      have h2 : sg y = false := by cases h : sg y; rfl; have := sgY.2 h; omega
      rw [h2] at h1
      cases h3 : sg x
      · rw [h3] at h1; cases h1
      · exact ⟨fun _ => rfl, fun _ => by omega⟩
    · have := Int.mul_neg_of_pos_of_neg a b
      have h1 : ¬ (sg x ^^ sg y) = true := fun h => by have := sgS.2 h; omega
      have h2 := sgY.1 b
      rw [h2] at h1
      cases h3 : sg x
      · rw [h3] at h1; exact absurd rfl h1
      · exact ⟨fun _ => rfl, fun _ => by omega⟩
    · have := Int.mul_pos a b
      have h1 : ¬ (sg x ^^ sg y) = true := fun h => by have := sgS.2 h; omega
      have h2 : sg y = false := by cases h : sg y; rfl; have := sgY.2 h; omega
      rw [h2] at h1
      cases h3 : sg x
      · exact ⟨fun h => by omega, fun h => by cases h⟩
      · rw [h3] at h1; exact absurd rfl h1
  -- x less the nearest product is exact
  have hPr : 9007199254740992 * (rn r - r).natAbs ≤ r.natAbs := by
    have h1 := ex_hi r.natAbs
    have h2 := rn_err h1
    by_cases h3 : ex r.natAbs = 0
    · rw [h3, Nat.pow_zero] at h2; omega
    · have h4 := ex_lo h3
      omega
  have hrep : RpZ (X - rn r) := sterbZ hx.rp (rn_rp _) (by omega)
  have bX := mx.2
  obtain ⟨a, oa, fa⟩ := hx.sub fpr (nr_cap (by omega))
  rw [rn_of hrep] at fa
  obtain ⟨b, ob, fb⟩ := fa.sub fm (nr_cap (by omega))
  rw [show X - rn r - (r - rn r) = X - r by omega] at fb
  refine ⟨m, a, b, _, _, om, oa, ob, fm, fb, fun d => ?_⟩
  obtain ⟨q1, q2⟩ := rn_pos (S := X - r)
  -- the nearest one beside the quotient
  have t1 : 4 * rv (near Z) < Z ↔ r.natAbs < rv (mg x) := by
    rw [← hms]
    conv => lhs; rw [hZ]
    rw [zd_gt hY0, ← hrv]
    exact ⟨fun h => Nat.lt_of_mul_lt_mul_right h, fun h => Nat.mul_lt_mul_of_pos_right h hK⟩
  have t2 : Z < 4 * rv (near Z) ↔ rv (mg x) < r.natAbs := by
    have h1 : 4 * rv (near Z) ≤ Z ↔ r.natAbs ≤ rv (mg x) := by
      rw [← hms]
      conv => lhs; rw [hZ]
      rw [zd_le hY0, ← hrv]
      exact ⟨fun h => Nat.le_of_mul_le_mul_right h hK, fun h => Nat.mul_le_mul_right _ h⟩
    omega
  refine rnd_nudge d (sg x ^^ sg y) (by have := cap_rv; omega) (K := key s) ?_ ?_ ?_
  · unfold key; rw [hss, hms]
  · rw [t1, t2]
    cases h3 : sg x <;> cases h4 : sg y <;> rw [h3] at sgX <;> rw [h4] at sgY <;> simp only [Bool.false_xor, Bool.true_xor, Bool.not_false, Bool.not_true, Bool.false_eq_true, if_true, if_false, iff_false, iff_true] at sgX sgY ⊢
    · rw [if_neg sgY]; omega
    · rw [if_pos sgY]; omega
    · rw [if_neg sgY]; omega
    · rw [if_pos sgY]; omega
  · rw [t1, t2]
    cases h3 : sg x <;> cases h4 : sg y <;> rw [h3] at sgX <;> rw [h4] at sgY <;> simp only [Bool.false_xor, Bool.true_xor, Bool.not_false, Bool.not_true, Bool.false_eq_true, if_true, if_false, iff_false, iff_true] at sgX sgY ⊢
    · rw [if_neg sgY]; omega
    · rw [if_pos sgY]; omega
    · rw [if_neg sgY]; omega
    · rw [if_pos sgY]; omega
end Go.Proofs.Ytllfcklgljdgeaa.Rn
