/-
  Plain: a natural times a power of 2, and a little more, cut to 55 bits and rounded out of the last two. Conditions: those that each theorem names.
-/
import Derived.Test.YtfbjeifhpmdjaaaGreatP03
import Derived.Test.YtfbjeifhpmdjaaaGreatP05
set_option linter.unusedVariables false
set_option linter.unusedSimpArgs false
namespace Go.Proofs.YtfbjeifhpmdjaaaGreat.Rn
open Go.Proofs.YtfbjeifhpmdjaaaGreat.Nm

/-- The step away from 0, out of the last two bits. -/
def upO (d : Int) (neg : Bool) (s r : Nat) : Bool := if r = 0 then false else if d = 1 then !neg else if d = -1 then neg else (decide (r = 3) || (decide (r = 2) && decide (s % 2 = 1)))

/-- W, its last bit set where something was cut off. -/
def stick (W : Nat) (f : Bool) : Nat := if f && W % 2 == 0 then W + 1 else W
theorem stick_div (W : Nat) (f : Bool) : stick W f / 4 = W / 4 := by
  unfold stick
  split
  · rename_i h
    simp at h
    omega
  · rfl
theorem stick_mod (W : Nat) (f : Bool) : stick W f % 4 = if f then (if W % 4 < 2 then 1 else 3) else W % 4 := by
  unfold stick
  cases f
  · simp
  · simp only [Bool.true_and, if_true]
    by_cases h : W % 2 = 0
    · rw [if_pos (by simpa using h)]; split <;> omega
    · rw [if_neg (by simpa using h)]; split <;> omega
theorem or_one (W : Nat) : W ||| 1 = stick W true := by
  unfold stick
  by_cases h : W % 2 = 0
  · rw [if_pos (by simpa using h)]
    have := Nat.two_pow_add_eq_or_of_lt (i := 1) (b := 1) (by omega) (W / 2)
    have e : 2 ^ 1 * (W / 2) = W := by omega
    rw [e] at this
    exact this.symm
  · rw [if_neg (by simpa using h)]
    have := Nat.two_pow_add_eq_or_of_lt (i := 1) (b := 1) (by omega) (W / 2)
    have e : 2 ^ 1 * (W / 2) + 1 = W := by omega
    rw [e] at this
    rw [this, Nat.or_assoc, Nat.or_self]

theorem rr_parts {mag a b G W t u : Nat} {place L : Int} (hu0 : (u : Int) = L + 1074) (hab : (a : Int) - b = place - L) (hG : 2 ^ b = 4 * G) (hx : mag * 2 ^ a = W * G + t) (ht : t < G)
    (hs : W / 4 < 9007199254740992) (hu : u ≠ 0 → 4503599627370496 ≤ W / 4) (huu : u ≤ 2045) (d : Int) (neg : Bool) {v : Nat} (hv : v = stick W (decide (t ≠ 0))) :
    rnd d neg (zd mag place) = pat neg (u * 4503599627370496 + (v / 4 + (upO d neg (v / 4) (v % 4)).toNat)) := by
  have hd : v / 4 = W / 4 := by rw [hv, stick_div]
  have hm : v % 4 = if t ≠ 0 then (if W % 4 < 2 then 1 else 3) else W % 4 := by rw [hv, stick_mod]; simp only [decide_eq_true_eq]
  obtain ⟨s, hse⟩ : ∃ s, s = W / 4 := ⟨_, rfl⟩
  obtain ⟨r, hre⟩ : ∃ r, r = W % 4 := ⟨_, rfl⟩
  rw [← hse] at hs hu hd
  rw [← hre] at hm
  have hr4 : r < 4 := by omega
  have hW : W * G = s * (4 * G) + r * G := by
    have : W = s * 4 + r := by omega
    rw [this, Nat.add_mul, Nat.mul_assoc]
  rw [hW, Nat.add_assoc] at hx
  rw [hd]
  have e0 : r * G + t < 4 * G := by
    have : r * G ≤ 3 * G := Nat.mul_le_mul_right _ (by omega)
    omega
  have hup : upO d neg s (v % 4) = if mag * 2 ^ a = s * 2 ^ b then false else if d = 1 then !neg else if d = -1 then neg else
      decide ((2 * s + 1) * 2 ^ b < 2 * (mag * 2 ^ a)) || (decide (2 * (mag * 2 ^ a) = (2 * s + 1) * 2 ^ b) && decide (s % 2 = 1)) := by
    rw [hG, hx]
    unfold upO
    have c1 : v % 4 = 0 ↔ s * (4 * G) + (r * G + t) = s * (4 * G) := by
      rw [hm]
      constructor
      · intro h
        by_cases h0 : t ≠ 0
        · rw [if_pos h0] at h; split at h <;> omega
        · rw [if_neg h0] at h
          have : t = 0 := Decidable.not_not.1 h0
          rw [this, h]; simp
      · intro h
        have h1 : r * G + t = 0 := by omega
        have h2 : t = 0 := by omega
        have h3 : r * G = 0 := by omega
        rw [if_neg (by omega)]
        rcases Nat.mul_eq_zero.1 h3 with h4 | h4
        · exact h4
        · omega
    have e1 : (2 * s + 1) * (4 * G) = 2 * (s * (4 * G)) + 4 * G := by rw [Nat.add_mul, Nat.mul_assoc]; omega
    have e2 : 2 * (s * (4 * G) + (r * G + t)) = 2 * (s * (4 * G)) + 2 * (r * G + t) := by omega
    have hrG : r = 0 ∧ r * G = 0 ∨ r = 1 ∧ r * G = G ∨ r = 2 ∧ r * G = 2 * G ∨ r = 3 ∧ r * G = 3 * G := by
      have : r = 0 ∨ r = 1 ∨ r = 2 ∨ r = 3 := by omega
      rcases this with h | h | h | h <;> subst h <;> simp
    have c3 : v % 4 = 3 ↔ (2 * s + 1) * (4 * G) < 2 * (s * (4 * G) + (r * G + t)) := by
      rw [hm, e1, e2]
      rcases hrG with ⟨h1, h2⟩ | ⟨h1, h2⟩ | ⟨h1, h2⟩ | ⟨h1, h2⟩ <;> rw [h2, h1] <;> by_cases h0 : t = 0 <;> simp [h0] <;> omega
    have c2 : v % 4 = 2 ↔ 2 * (s * (4 * G) + (r * G + t)) = (2 * s + 1) * (4 * G) := by
      rw [hm, e1, e2]
      rcases hrG with ⟨h1, h2⟩ | ⟨h1, h2⟩ | ⟨h1, h2⟩ | ⟨h1, h2⟩ <;> rw [h2, h1] <;> by_cases h0 : t = 0 <;> simp [h0] <;> omega
    simp only [c1, c2, c3]
  have hlo : s * 2 ^ b ≤ mag * 2 ^ a := by rw [hG, hx]; omega
  have hhi : mag * 2 ^ a < (s + 1) * 2 ^ b := by rw [hG, hx, Nat.add_mul]; omega
  have hf := rr_form hu0 hab hs hu hlo hhi d neg _ hup
  unfold rnd
  rw [hf]
  have hb1 : (upO d neg s (v % 4)).toNat ≤ 1 := by cases upO d neg s (v % 4) <;> simp
  split
  · rename_i htw
    have : upO d neg s (v % 4) = false := by
      unfold upO
      rcases htw with ⟨h1, h2⟩ | ⟨h1, h2⟩
      · rw [h1, h2]; split <;> simp
      · rw [h1, h2]; split <;> simp
    rw [this, rr_min' huu hs]; rfl
  · rw [rr_min hb1 huu hs]

/-- Z of mag times 2^place, as a ratio's. -/
theorem zd_zr (mag : Nat) (place : Int) : zd mag place = zr (mag * 2 ^ place.toNat) (2 ^ (-place).toNat) := by
  rw [zr_eq, K75_pow]
  obtain ⟨c, hc⟩ : ∃ c, c = 1075 := ⟨_, rfl⟩
  rw [← hc, zd_of (A := place.toNat + c) (B := (-place).toNat) (by omega), Nat.mul_assoc, ← Nat.pow_add]

/-- Something too great. -/
theorem rnd_big {V m : Nat} {exp : Int} (hV : V ≠ 0) (h : 1023 < (bl V : Int) - 1 + exp) (d : Int) (neg : Bool) : rnd d neg (zd (2 * V + m) (exp - 1)) = pat neg (if twB d neg then infR - 1 else infR) := by
  unfold rnd twB
  rw [zd_zr, rr_over (two_pow_pos _) ?_]
  · simp
  · have h1 := pow_le_of_bl hV
    have hb := bl_pos hV
    have h2 : 2 ^ (bl V) ≤ 2 * V + m := by
      have : 2 ^ (bl V) = 2 * 2 ^ (bl V - 1) := by rw [← Nat.pow_succ']; congr 1; omega
      omega
    obtain ⟨c, hc⟩ : ∃ c, c = 1024 := ⟨_, rfl⟩
    have hK : K1024 = 2 ^ c := by rw [hc]; exact K1024_def
    rw [hK, ← Nat.pow_add]
    refine Nat.le_trans ?_ (Nat.mul_le_mul_right _ h2)
    rw [← Nat.pow_add]
    exact Nat.pow_le_pow_right (by omega) (by omega)

/-- The word that is cut out, and what stands beside it. -/
def ofW (V : Nat) (cut : Int) : Nat := if 0 < cut then V / 2 ^ cut.toNat else V * 2 ^ (-cut).toNat
def ofF (V : Nat) (cut : Int) (more : Bool) : Bool := (decide (0 < cut) && decide (V % 2 ^ cut.toNat ≠ 0)) || more
def ofE (V : Nat) (exp : Int) : Int := max ((bl V : Int) - 53 + exp) (-1074)

theorem ofW_lt {V : Nat} {exp cut : Int} (hV : V ≠ 0) (hc : cut = ofE V exp - 2 - exp) : ofW V cut < 36028797018963968 ∧ (ofE V exp ≠ -1074 → 18014398509481984 ≤ ofW V cut) ∧ (cut ≤ 0 → bl V + (-cut).toNat ≤ 55) := by
  have h1 := pow_le_of_bl hV
  have h2 := lt_pow_bl V
  have hb := bl_pos hV
  unfold ofE at hc ⊢
  unfold ofW
  have e55 : (36028797018963968 : Nat) = 2 ^ 55 := rfl
  have e54 : (18014398509481984 : Nat) = 2 ^ 54 := rfl
  by_cases hcut : 0 < cut
  · rw [if_pos hcut]
    obtain ⟨c, hcc⟩ : ∃ c : Nat, cut = c := ⟨cut.toNat, by omega⟩
    rw [hcc, Int.toNat_natCast]
    refine ⟨?_, fun hne => ?_, fun h => by omega⟩
    · rw [Nat.div_lt_iff_lt_mul (two_pow_pos c), e55, ← Nat.pow_add]
      exact Nat.lt_of_lt_of_le h2 (Nat.pow_le_pow_right (by omega) (by omega))
    · rw [Nat.le_div_iff_mul_le (two_pow_pos c), e54, ← Nat.pow_add]
      exact Nat.le_trans (Nat.pow_le_pow_right (by omega) (by omega)) h1
  · rw [if_neg hcut]
    obtain ⟨c, hcc⟩ : ∃ c : Nat, -cut = c := ⟨(-cut).toNat, by omega⟩
    rw [hcc, Int.toNat_natCast]
    refine ⟨?_, fun hne => ?_, fun h => by omega⟩
    · have : V * 2 ^ c < 2 ^ bl V * 2 ^ c := Nat.mul_lt_mul_of_pos_right h2 (two_pow_pos c)
      rw [← Nat.pow_add] at this
      rw [e55]
      exact Nat.lt_of_lt_of_le this (Nat.pow_le_pow_right (by omega) (by omega))
    · have : 2 ^ (bl V - 1) * 2 ^ c ≤ V * 2 ^ c := Nat.mul_le_mul_right _ h1
      rw [← Nat.pow_add] at this
      rw [e54]
      exact Nat.le_trans (Nat.pow_le_pow_right (by omega) (by omega)) this

/-- What 'of' works out. -/
theorem rnd_ofW {V : Nat} {exp cut : Int} {more : Bool} (hV : V ≠ 0) (hm : more = true → 55 ≤ bl V) (hc : cut = ofE V exp - 2 - exp) (hf : (bl V : Int) - 1 + exp ≤ 1023) (d : Int) (neg : Bool) {v u : Nat} (hv : v = stick (ofW V cut) (ofF V cut more)) (hu : (u : Int) = ofE V exp + 1074) :
    rnd d neg (zd (2 * V + more.toNat) (exp - 1)) = pat neg (u * 4503599627370496 + (v / 4 + (upO d neg (v / 4) (v % 4)).toNat)) ∧ u ≤ 2045 ∧ v / 4 + (upO d neg (v / 4) (v % 4)).toNat ≤ 9007199254740992 ∧ (u ≠ 0 → 4503599627370496 ≤ v / 4 + (upO d neg (v / 4) (v % 4)).toNat) := by
  obtain ⟨w1, w2, w3⟩ := ofW_lt hV hc
  have hu45 : u ≤ 2045 := by unfold ofE at hu; omega
  have hb1 : ∀ s r, (upO d neg s r).toNat ≤ 1 := fun s r => by cases upO d neg s r <;> simp
  have hsd : v / 4 = ofW V cut / 4 := by rw [hv, stick_div]
  have hu2 : u ≠ 0 → 4503599627370496 ≤ ofW V cut / 4 := fun h => by have := w2 (by omega); omega
  refine ⟨?_, hu45, by have := hb1 (v / 4) (v % 4); omega, fun h => by have := hu2 h; omega⟩
  by_cases hcut : 0 < cut
  · obtain ⟨c, hcc⟩ : ∃ c : Nat, cut = c := ⟨cut.toNat, by omega⟩
    have hWe : ofW V cut = V / 2 ^ c := by unfold ofW; rw [if_pos hcut, hcc, Int.toNat_natCast]
    have hFe : ofF V cut more = decide (2 * (V % 2 ^ c) + more.toNat ≠ 0) := by
      unfold ofF
      rw [decide_eq_true hcut, Bool.true_and, hcc, Int.toNat_natCast]
      cases more
      · simp only [Bool.or_false, Bool.toNat_false, Nat.add_zero]
        exact decide_eq_decide.2 (by omega)
      · rw [Bool.or_true]; symm; exact decide_eq_true (by simp)
    have hlt := Nat.mod_lt V (two_pow_pos c)
    have hdm := Nat.div_add_mod V (2 ^ c)
    have hm1 : more.toNat ≤ 1 := by cases more <;> simp
    refine rr_parts (a := 0) (b := c + 3) (G := 2 * 2 ^ c) (W := ofW V cut) (t := 2 * (V % 2 ^ c) + more.toNat) (L := ofE V exp) hu (by omega) ?_ ?_ (by omega) (by omega) hu2 hu45 d neg (by rw [hv, hFe])
    · rw [Nat.pow_add, show (2 ^ 3 : Nat) = 8 from rfl]; omega
    · rw [hWe, Nat.pow_zero, Nat.mul_one]
      have e1 : V / 2 ^ c * (2 * 2 ^ c) = 2 * (2 ^ c * (V / 2 ^ c)) := by
        simp only [Nat.mul_assoc, Nat.mul_comm, Nat.mul_left_comm]
      rw [e1]
      omega
  · obtain ⟨c, hcc⟩ : ∃ c : Nat, -cut = c := ⟨(-cut).toNat, by omega⟩
    have hWe : ofW V cut = V * 2 ^ c := by unfold ofW; rw [if_neg hcut, hcc, Int.toNat_natCast]
    have hFe : ofF V cut more = decide (more.toNat ≠ 0) := by
      unfold ofF
      rw [decide_eq_false hcut, Bool.false_and, Bool.false_or]
      cases more <;> rfl
    refine rr_parts (a := c) (b := 3) (G := 2) (W := ofW V cut) (t := more.toNat) (L := ofE V exp) hu (by omega) (by omega) ?_ (by cases more <;> simp) (by omega) hu2 hu45 d neg (by rw [hv, hFe])
    rw [hWe, Nat.add_mul]
    have e2 : more.toNat * 2 ^ c = more.toNat := by
      cases hmo : more
      · simp
      · have h55 := hm hmo
        have := w3 (by omega)
        have hc0 : c = 0 := by omega
        rw [hc0]; simp
    rw [e2, Nat.mul_assoc, Nat.mul_comm 2]
end Go.Proofs.YtfbjeifhpmdjaaaGreat.Rn

/-
  Plain: one number T / 2^2148, rounded: what the quick roads, the exact roads and the document's ratios make of it; what +, * answer where an operand is no number. Conditions: those that each theorem names.
-/
set_option linter.unusedVariables false
set_option linter.unusedSimpArgs false
namespace Go.Proofs.YtfbjeifhpmdjaaaGreat.Rn
open Nm

/-- T / 2^2148, rounded. -/
def rT (d : Int) (T : Int) : Nat := rnd d (decide (T < 0)) (zq T.natAbs (2 ^ 1073))
theorem rT_zero (d : Int) : rT d 0 = 0 := by
  unfold rT
  have : zq (0 : Int).natAbs (2 ^ 1073) = 0 := by
    show zq 0 (2 ^ 1073) = 0
    generalize 2 ^ 1073 = c
    simp [zq]
  rw [this, rnd_zero]
theorem sn_abs (neg : Bool) (n : Nat) : (sn neg n).natAbs = n := by unfold sn; cases neg <;> simp
theorem sn_neg {neg : Bool} {n : Nat} (h : n ≠ 0) : decide (sn neg n < 0) = neg := by
  unfold sn; cases neg
  · simp
  · simp; omega

/-- The key: N / D with its sign is T / 2^2148. -/
theorem rT_gen {d : Int} {neg : Bool} {N A B Z : Nat} {T : Int} (hA : 0 < A) (hB : 0 < B) (h : sn neg N * (A : Int) = T * (B : Int)) (hZ : N * A = T.natAbs * B → N = 0 ∧ Z = 0 ∨ Z = zq T.natAbs (2 ^ 1073)) : rnd d neg Z = rT d T := by
  have h1 : N * A = T.natAbs * B := by
    have := congrArg Int.natAbs h
    rw [Int.natAbs_mul, Int.natAbs_mul, sn_abs, Int.natAbs_natCast, Int.natAbs_natCast] at this
    exact this
  rcases Nat.eq_zero_or_pos N with h0 | h0
  · have hT : T = 0 := by
      rw [h0, Nat.zero_mul] at h1
      rcases Nat.mul_eq_zero.1 h1.symm with h2 | h2
      · omega
      · omega
    rcases hZ h1 with ⟨-, hz⟩ | hz
    · rw [hz, rnd_zero, hT, rT_zero]
    · have := rT_zero d
      unfold rT at this
      rw [hT] at hz ⊢
      rw [hz, rT_zero]
      have e : zq (0 : Int).natAbs (2 ^ 1073) = 0 := by
        show zq 0 (2 ^ 1073) = 0
        generalize 2 ^ 1073 = c
        simp [zq]
      rw [e, rnd_zero]
  · rcases hZ h1 with ⟨hz, -⟩ | hz
    · omega
    · unfold rT
      rw [hz]
      congr 1
      rw [← sn_neg (neg := neg) (n := N) (by omega)]
      refine decide_eq_decide.2 ?_
      have hA' : (0 : Int) < A := by omega
      have hB' : (0 : Int) < B := by omega
      constructor
      · intro hs
        have := Int.mul_neg_of_neg_of_pos hs hA'
        rw [h] at this
        rcases Int.lt_or_le T 0 with h3 | h3
        · exact h3
        · have := Int.mul_nonneg h3 (Int.le_of_lt hB'); omega
      · intro hs
        have := Int.mul_neg_of_neg_of_pos hs hB'
        rw [← h] at this
        rcases Int.lt_or_le (sn neg N) 0 with h3 | h3
        · exact h3
        · have := Int.mul_nonneg h3 (Int.le_of_lt hA'); omega

theorem K75_1073 : K75 * 2 ^ 1073 = K74 * K74 := by
  obtain ⟨c, hc⟩ : ∃ c, c = 1073 := ⟨_, rfl⟩
  rw [K75_def, K74_def, show 1075 = c + 2 by omega, show 1074 = c + 1 by omega, ← hc, ← pow_add_, ← pow_add_]
  congr 1; omega
/-- The document's ratio. -/
theorem rT_rat {d : Int} {neg : Bool} {N D : Nat} {T : Int} (hD : 0 < D) (h : sn neg N * ((K74 * K74 : Nat) : Int) = T * (D : Int)) : rnd d neg (zr N D) = rT d T := by
  refine rT_gen (Nat.mul_pos K74_pos K74_pos) hD h fun h1 => .inr ?_
  rw [zr_eq]
  refine zq_congr hD (two_pow_pos 1073) ?_
  rw [Nat.mul_assoc, K75_1073]
  exact h1
/-- A natural times a power of 2. -/
theorem rT_dy {d : Int} {neg : Bool} {V A B : Nat} {e T : Int} (hAB : (A : Int) - B = e + 2148) (h : sn neg V * ((2 ^ A : Nat) : Int) = T * ((2 ^ B : Nat) : Int)) : rnd d neg (zd (2 * V) (e - 1)) = rT d T := by
  refine rT_gen (two_pow_pos A) (two_pow_pos B) h fun h1 => .inr ?_
  obtain ⟨c, hc⟩ : ∃ c, c = 1073 := ⟨_, rfl⟩
  rw [← hc, zd_of (A := A) (B := B + (c + 1)) (by omega)]
  refine zq_congr (two_pow_pos _) (two_pow_pos _) ?_
  rw [pow_add_, two_pow_s c, Nat.mul_assoc, Nat.mul_assoc, show 2 * (V * (2 ^ A * 2 ^ c)) = 2 * (V * 2 ^ A * 2 ^ c) by rw [Nat.mul_assoc], h1, Nat.mul_assoc, Nat.mul_left_comm 2, Nat.mul_left_comm 2]
/-- A whole number of units. -/
theorem rT_units (d : Int) (S : Int) : rT d (S * (K74 : Int)) = rnd d (decide (S < 0)) (4 * S.natAbs) := by
  unfold rT
  rw [K74_def]
  obtain ⟨c, hc⟩ : ∃ c, c = 1073 := ⟨_, rfl⟩
  have e : (1074 : Nat) = c + 1 := by omega
  rw [← hc, e, Int.natAbs_mul, Int.natAbs_natCast, zq_mul_pow]
  congr 1
  refine decide_eq_decide.2 ?_
  have hp : (0 : Int) < ((2 ^ (c + 1) : Nat) : Int) := by have := two_pow_pos (c + 1); omega
  constructor
  · intro h
    rcases Int.lt_or_le S 0 with h3 | h3
    · exact h3
    · have := Int.mul_nonneg h3 (Int.le_of_lt hp); omega
  · intro h; exact Int.mul_neg_of_neg_of_pos h hp

/-- A part's number. -/
theorem part_sv (b : Nat) : sn (sg b) (fbSig b) * ((2 ^ (fbExp b + 1074).toNat : Nat) : Int) = sv b := by
  rw [sn_mul, ← fb_rv]
  rfl
end Go.Proofs.YtfbjeifhpmdjaaaGreat.Rn

/-
  Plain: what Mul, Add and their kin answer, as patterns; +, * where an operand is no number. Conditions: those that each theorem names.
-/
set_option linter.unusedVariables false
set_option linter.unusedSimpArgs false
namespace Go.Proofs.YtfbjeifhpmdjaaaGreat.Rn
open Nm

def NaNc : Nat := 9221120237041090561
theorem NaNc_val : NaNc = 9221120237041090561 := rfl
/-- Every NaN told as the one. -/
def cn (b : Nat) : Nat := if isNaN b then NaNc else b
def infP (s : Bool) : Nat := if s then minf else infR
/-- What Mul answers. -/
def mulR (d : Int) (x y : Nat) : Nat :=
  if isNaN x || isNaN y then NaNc
  else if isInf x || isInf y then (if mg x = 0 ∨ mg y = 0 then NaNc else infP (sg x != sg y))
  else rT d (sv x * sv y)
/-- What Add answers. -/
def addR (d : Int) (x y : Nat) : Nat :=
  if isNaN x || isNaN y then NaNc
  else if isInf x && isInf y && decide (x ≠ y) then NaNc
  else if isInf x then x
  else if isInf y then y
  else rT d ((sv x + sv y) * (K74 : Int))

theorem sn_bne (a b : Bool) (m n : Nat) : sn (a != b) (m * n) = sn a m * sn b n := by
  unfold sn
  cases a <;> cases b <;> simp [Int.neg_mul, Int.mul_neg]
theorem sn_dec (neg : Bool) (n m : Nat) (h : m = 0 ↔ n = 0) : sn (neg && decide (m ≠ 0)) n = sn neg n := by
  unfold sn
  by_cases h0 : n = 0
  · simp [h0]
  · have : m ≠ 0 := fun hm => h0 (h.1 hm)
    simp [this]
/-- The document's ratio, reduced. -/
theorem sn_frac {neg : Bool} {n d : Nat} {e : Int} {p q : Nat} (hpq : (p : Int) - q = e) : sn (neg && decide (n ≠ 0)) (fracN n d e) * ((d * 2 ^ q : Nat) : Int) = sn neg n * ((2 ^ p * fracD n d e : Nat) : Int) := by
  have h1 := frac_val (n := n) (d := d) hpq
  have h2 : sn (neg && decide (n ≠ 0)) (fracN n d e) = sn neg (fracN n d e) := sn_dec neg _ _ (fracN_eq_zero (d := d) (e := e)).symm
  rw [h2, sn_mul, sn_mul, h1, Nat.mul_assoc]

theorem part_mul (x y : Nat) : sn (sg x != sg y) (fbSig x * fbSig y) * ((2 ^ ((fbExp x + 1074).toNat + (fbExp y + 1074).toNat) : Nat) : Int) = sv x * sv y := by
  rw [sn_bne, pow_add_, ← part_sv x, ← part_sv y]
  push_cast
  rw [Int.mul_assoc, Int.mul_assoc, Int.mul_left_comm (sn (sg y) (fbSig y))]
/-- The exact product. -/
theorem mul_exact (d : Int) (x y : Nat) : rnd d (sg x != sg y) (zd (2 * (fbSig x * fbSig y)) (fbExp x + fbExp y - 1)) = rT d (sv x * sv y) := by
  have h1 := fbExp_lo x
  have h2 := fbExp_lo y
  refine rT_dy (A := (fbExp x + 1074).toNat + (fbExp y + 1074).toNat) (B := 0) (by omega) ?_
  rw [part_mul]; simp
/-- The document's product. -/
theorem mul_ref (d : Int) (x y : Nat) {n m : Bool} (hn : n = (sg x && decide (mg x ≠ 0))) (hm : m = (sg y && decide (mg y ≠ 0))) :
    rnd d ((n != m) && decide (fbN x * fbN y ≠ 0)) (zr (fracN (fbN x * fbN y) (fbD x * fbD y) 0) (fracD (fbN x * fbN y) (fbD x * fbD y) 0)) = rT d (sv x * sv y) := by
  have hp : 0 < fbD x * fbD y := Nat.mul_pos (fbD_pos x) (fbD_pos y)
  refine rT_rat (fracD_pos _ (by omega)) ?_
  have h1 := sn_frac (neg := n != m) (n := fbN x * fbN y) (d := fbD x * fbD y) (e := 0) (p := 0) (q := 0) rfl
  rw [sn_bne] at h1
  have h2 := fb_sv x
  have h3 := fb_sv y
  rw [← hn] at h2
  rw [← hm] at h3
  obtain ⟨F, hF⟩ : ∃ F, F = sn ((n != m) && decide (fbN x * fbN y ≠ 0)) (fracN (fbN x * fbN y) (fbD x * fbD y) 0) := ⟨_, rfl⟩
  obtain ⟨G, hG⟩ : ∃ G, G = fracD (fbN x * fbN y) (fbD x * fbD y) 0 := ⟨_, rfl⟩
  rw [← hF, ← hG] at h1 ⊢
  obtain ⟨a, ha⟩ : ∃ a, a = sn n (fbN x) := ⟨_, rfl⟩
  obtain ⟨b, hb⟩ : ∃ b, b = sn m (fbN y) := ⟨_, rfl⟩
  rw [← ha, ← hb] at h1
  rw [← ha] at h2
  rw [← hb] at h3
  have hpi : (0 : Int) < ((fbD x * fbD y : Nat) : Int) := by omega
  refine Int.eq_of_mul_eq_mul_right (Int.ne_of_gt hpi) ?_
  have e1 : ((fbD x * fbD y * 2 ^ 0 : Nat) : Int) = ((fbD x * fbD y : Nat) : Int) := by simp
  have e2 : ((2 ^ 0 * G : Nat) : Int) = (G : Int) := by simp
  rw [e1, e2] at h1
  have e3 : F * ((K74 * K74 : Nat) : Int) * ((fbD x * fbD y : Nat) : Int) = (a * K74) * (b * K74) * G := by
    rw [Int.mul_right_comm, h1]
    push_cast
    simp only [Int.mul_assoc, Int.mul_comm, Int.mul_left_comm]
  rw [e3, h2, h3]
  push_cast
  simp only [Int.mul_assoc, Int.mul_comm, Int.mul_left_comm]

theorem write_inf (s : Bool) : Ieee.double.write (.infinity s) = infP s := by cases s <;> rfl
theorem isInf_iff (b : Nat) : isInf b = true ↔ mg b = infR := by unfold isInf; exact decide_eq_true_iff
theorem isNaN_iff (b : Nat) : isNaN b = true ↔ infR < mg b := by unfold isNaN; exact decide_eq_true_iff
/-- The three kinds of patterns. -/
theorem kind (b : Nat) : (isNaN b = true ∧ isInf b = false ∧ infR < mg b) ∨ (isNaN b = false ∧ isInf b = true ∧ mg b = infR) ∨ (isNaN b = false ∧ isInf b = false ∧ mg b < infR) := by
  unfold isNaN isInf
  rcases Nat.lt_trichotomy (mg b) infR with h | h | h
  · right; right; exact ⟨decide_eq_false (by omega), decide_eq_false (by omega), h⟩
  · right; left; exact ⟨decide_eq_false (by omega), decide_eq_true h, h⟩
  · left; exact ⟨decide_eq_true h, decide_eq_false (by omega), h⟩

/-- A product with an operand that is no number. -/
theorem mul_odd {x y : Nat} (hx : x < 18446744073709551616) (hy : y < 18446744073709551616) (h : (isNaN x || isInf x || (isNaN y || isInf y)) = true) :
    (Ieee.double.mul x y = none ∧ ∀ d, mulR d x y = NaNc) ∨ ∃ s, Ieee.double.mul x y = some (infP s) ∧ ∀ d, mulR d x y = infP s := by
  unfold mulR Ieee.Format.mul
  have z : ∀ {b m : Nat} {e : Int}, m * 2 ^ (e + 1074).toNat = rv (mg b) → (m = 0 ↔ mg b = 0) := by
    intro b m e h
    constructor
    · intro hm; rw [hm, Nat.zero_mul] at h; exact rv_eq_zero.1 h.symm
    · intro hm; rw [hm, rv_zero] at h; rcases Nat.mul_eq_zero.1 h with h2 | h2; exact h2; have := two_pow_pos (e + 1074).toNat; omega
  rcases kind x with ⟨n1, i1, k1⟩ | ⟨n1, i1, k1⟩ | ⟨n1, i1, k1⟩
  · left
    rw [read_nan hx k1, n1]
    exact ⟨rfl, fun d => rfl⟩
  · rcases kind y with ⟨n2, i2, k2⟩ | ⟨n2, i2, k2⟩ | ⟨n2, i2, k2⟩
    · left
      rw [read_nan hy k2, read_inf hx k1, n2, n1]
      exact ⟨rfl, fun d => rfl⟩
    · right
      refine ⟨sg x ^^ sg y, ?_, fun d => ?_⟩
      · rw [read_inf hy k2, read_inf hx k1]
        show some (Ieee.double.write _) = _
        rw [write_inf]
      · rw [n1, n2, i1, i2, k1, k2]
        show (if infR = 0 ∨ infR = 0 then NaNc else infP (sg x != sg y)) = _
        rw [infR_val, if_neg (by omega)]
    · obtain ⟨m, e, hr, -, hv⟩ := read_fin hy k2
      rw [hr, read_inf hx k1, n1, n2, i1, i2, k1]
      by_cases h0 : mg y = 0
      · left
        have hm := (z hv).2 h0
        subst hm
        refine ⟨rfl, fun d => ?_⟩
        show (if infR = 0 ∨ mg y = 0 then NaNc else infP (sg x != sg y)) = _
        rw [if_pos (.inr h0)]
      · right
        have hm : m ≠ 0 := fun h => h0 ((z hv).1 h)
        refine ⟨sg x ^^ sg y, ?_, fun d => ?_⟩
        · show Option.map _ (if m = 0 then none else some _) = _
          rw [if_neg hm]
          show some (Ieee.double.write _) = _
          rw [write_inf]
        · show (if infR = 0 ∨ mg y = 0 then NaNc else infP (sg x != sg y)) = _
          rw [infR_val, if_neg (by omega)]
  · rcases kind y with ⟨n2, i2, k2⟩ | ⟨n2, i2, k2⟩ | ⟨n2, i2, k2⟩
    · left
      obtain ⟨m, e, hr, -, hv⟩ := read_fin hx k1
      rw [read_nan hy k2, hr, n2, n1]
      exact ⟨rfl, fun d => rfl⟩
    · obtain ⟨m, e, hr, -, hv⟩ := read_fin hx k1
      rw [hr, read_inf hy k2, n1, n2, i1, i2, k2]
      by_cases h0 : mg x = 0
      · left
        have hm := (z hv).2 h0
        subst hm
        refine ⟨rfl, fun d => ?_⟩
        show (if mg x = 0 ∨ infR = 0 then NaNc else infP (sg x != sg y)) = _
        rw [if_pos (.inl h0)]
      · right
        have hm : m ≠ 0 := fun h => h0 ((z hv).1 h)
        refine ⟨sg x ^^ sg y, ?_, fun d => ?_⟩
        · show Option.map _ (if m = 0 then none else some _) = _
          rw [if_neg hm]
          show some (Ieee.double.write (.infinity (sg y ^^ sg x))) = _
          rw [write_inf, Bool.xor_comm]
        · show (if mg x = 0 ∨ infR = 0 then NaNc else infP (sg x != sg y)) = _
          rw [infR_val, if_neg (by omega)]
    · rw [n1, n2, i1, i2] at h
      cases h
end Go.Proofs.YtfbjeifhpmdjaaaGreat.Rn

/-
  Plain: what Add answers, by its roads; + where an operand is no number. Conditions: those that each theorem names.
-/
set_option linter.unusedVariables false
set_option linter.unusedSimpArgs false
namespace Go.Proofs.YtfbjeifhpmdjaaaGreat
open Nm Rn
/-- The sign and the size of a sum of P and Q with signs. -/
def aNeg (n m : Bool) (P Q : Nat) : Bool := if n = m then n else if Q ≤ P then n else m
def aMag (n m : Bool) (P Q : Nat) : Nat := if n = m then P + Q else if Q ≤ P then P - Q else Q - P
theorem sn_sum (n m : Bool) (P Q : Nat) : sn (aNeg n m P Q) (aMag n m P Q) = sn n P + sn m Q := by
  unfold aNeg aMag
  by_cases h : n = m
  · rw [if_pos h, if_pos h, h]
    unfold sn
    cases m
    · simp
    · simp only [if_true]; omega
  · rw [if_neg h, if_neg h]
    by_cases hle : Q ≤ P
    · rw [if_pos hle, if_pos hle]
      unfold sn
      cases n <;> cases m
      · exact absurd rfl h
      · simp only [if_true, Bool.false_eq_true, if_false]; omega
      · simp only [if_true, Bool.false_eq_true, if_false]; omega
      · exact absurd rfl h
    · rw [if_neg hle, if_neg hle]
      unfold sn
      cases n <;> cases m
      · exact absurd rfl h
      · simp only [if_true, Bool.false_eq_true, if_false]; omega
      · simp only [if_true, Bool.false_eq_true, if_false]; omega
      · exact absurd rfl h
end Go.Proofs.YtfbjeifhpmdjaaaGreat
namespace Go.Proofs.YtfbjeifhpmdjaaaGreat.Rn
open Nm
/-- The document's sum. -/
theorem add_ref (d : Int) (x y : Nat) {n m : Bool} (hn : n = (sg x && decide (mg x ≠ 0))) (hm : m = (sg y && decide (mg y ≠ 0))) :
    rnd d (aNeg n m (fbN x * fbD y) (fbN y * fbD x) && decide (aMag n m (fbN x * fbD y) (fbN y * fbD x) ≠ 0)) (zr (fracN (aMag n m (fbN x * fbD y) (fbN y * fbD x)) (fbD x * fbD y) 0) (fracD (aMag n m (fbN x * fbD y) (fbN y * fbD x)) (fbD x * fbD y) 0)) = rT d ((sv x + sv y) * (K74 : Int)) := by
  have hp : 0 < fbD x * fbD y := Nat.mul_pos (fbD_pos x) (fbD_pos y)
  obtain ⟨X, hX⟩ : ∃ X, X = aMag n m (fbN x * fbD y) (fbN y * fbD x) := ⟨_, rfl⟩
  obtain ⟨z, hz⟩ : ∃ z, z = aNeg n m (fbN x * fbD y) (fbN y * fbD x) := ⟨_, rfl⟩
  have hs := sn_sum n m (fbN x * fbD y) (fbN y * fbD x)
  rw [← hX, ← hz] at hs ⊢
  have h1 := sn_frac (neg := z) (n := X) (d := fbD x * fbD y) (e := 0) (p := 0) (q := 0) rfl
  rw [hs, ← sn_mul, ← sn_mul] at h1
  have h2 := fb_sv x
  have h3 := fb_sv y
  rw [← hn] at h2
  rw [← hm] at h3
  refine rT_rat (fracD_pos _ (by omega)) ?_
  obtain ⟨F, hF⟩ : ∃ F, F = sn (z && decide (X ≠ 0)) (fracN X (fbD x * fbD y) 0) := ⟨_, rfl⟩
  obtain ⟨G, hG⟩ : ∃ G, G = fracD X (fbD x * fbD y) 0 := ⟨_, rfl⟩
  rw [← hF, ← hG] at h1 ⊢
  obtain ⟨a, ha⟩ : ∃ a, a = sn n (fbN x) := ⟨_, rfl⟩
  obtain ⟨b, hb⟩ : ∃ b, b = sn m (fbN y) := ⟨_, rfl⟩
  rw [← ha, ← hb] at h1
  rw [← ha] at h2
  rw [← hb] at h3
  have hpi : (0 : Int) < ((fbD x * fbD y : Nat) : Int) := by omega
  refine Int.eq_of_mul_eq_mul_right (Int.ne_of_gt hpi) ?_
  have e1 : ((fbD x * fbD y * 2 ^ 0 : Nat) : Int) = ((fbD x * fbD y : Nat) : Int) := by simp
  have e2 : ((2 ^ 0 * G : Nat) : Int) = (G : Int) := by simp
  rw [e1, e2] at h1
  have e3 : F * ((K74 * K74 : Nat) : Int) * ((fbD x * fbD y : Nat) : Int) = (a * K74) * (fbD y) * K74 * G + (b * K74) * (fbD x) * K74 * G := by
    rw [Int.mul_right_comm, h1, Int.add_mul, Int.add_mul]
    push_cast
    simp only [Int.mul_assoc, Int.mul_comm, Int.mul_left_comm]
  rw [e3, h2, h3, Int.add_mul, Int.add_mul, Int.add_mul]
  push_cast
  simp only [Int.mul_assoc, Int.mul_comm, Int.mul_left_comm]

/-- A whole number of units 2^-2148. -/
def un (neg : Bool) (V : Nat) (e : Int) : Int := sn neg V * ((2 ^ (e + 2148).toNat : Nat) : Int)
theorem part_un (b : Nat) : un (sg b) (fbSig b) (fbExp b) = sv b * (K74 : Int) := by
  unfold un
  have h := fbExp_lo b
  obtain ⟨c, hc⟩ : ∃ c, c = 1074 := ⟨_, rfl⟩
  have e : (fbExp b + 2148).toNat = (fbExp b + 1074).toNat + c := by omega
  have hK : ((K74 : Nat) : Int) = ((2 ^ c : Nat) : Int) := by rw [hc, K74_def]
  rw [e, ← part_sv, Int.mul_assoc, hK, pow_add_]
  push_cast
  rfl
/-- The exact road's answer. -/
theorem un_exact (d : Int) {neg : Bool} {V : Nat} {e T : Int} (he : -2148 ≤ e) (h : un neg V e = T) : rnd d neg (zd (2 * V) (e - 1)) = rT d T := by
  unfold un at h
  refine rT_dy (A := (e + 2148).toNat) (B := 0) (by omega) ?_
  rw [h]; simp

theorem inf_cases {b : Nat} (hb : b < 18446744073709551616) (h : mg b = infR) : b = infP (sg b) := by
  have := split_pat hb
  rw [h] at this
  unfold infP
  cases hs : sg b
  · rw [hs] at this; simpa using this
  · rw [hs] at this
    rw [infR_val] at this
    rw [minf_val, if_pos rfl]
    simpa using this
/-- A sum with an operand that is no number. -/
theorem add_odd {x y : Nat} (hx : x < 18446744073709551616) (hy : y < 18446744073709551616) (h : (isNaN x || isInf x || (isNaN y || isInf y)) = true) :
    (Ieee.double.add x y = none ∧ ∀ d, addR d x y = NaNc) ∨ ∃ s, Ieee.double.add x y = some (infP s) ∧ ∀ d, addR d x y = infP s := by
  unfold addR Ieee.Format.add
  rcases kind x with ⟨n1, i1, k1⟩ | ⟨n1, i1, k1⟩ | ⟨n1, i1, k1⟩
  · left
    rw [read_nan hx k1, n1]
    exact ⟨rfl, fun d => rfl⟩
  · rcases kind y with ⟨n2, i2, k2⟩ | ⟨n2, i2, k2⟩ | ⟨n2, i2, k2⟩
    · left
      rw [read_nan hy k2, read_inf hx k1, n2, n1]
      exact ⟨rfl, fun d => rfl⟩
    · rw [read_inf hy k2, read_inf hx k1, n1, n2, i1, i2]
      have ex := inf_cases hx k1
      have ey := inf_cases hy k2
      by_cases hs : sg x = sg y
      · right
        have hxy : x = y := by rw [ex, ey, hs]
        refine ⟨sg x, ?_, fun d => ?_⟩
        · show Option.map _ (if sg x = sg y then some _ else none) = _
          rw [if_pos hs]
          show some (Ieee.double.write _) = _
          rw [write_inf]
        · rw [decide_eq_false (show ¬ x ≠ y from fun h => h hxy)]
          exact ex
      · left
        have hxy : x ≠ y := fun h => hs (by rw [h])
        refine ⟨?_, fun d => ?_⟩
        · show Option.map _ (if sg x = sg y then some _ else none) = _
          rw [if_neg hs]; rfl
        · rw [decide_eq_true hxy]; rfl
    · right
      obtain ⟨m, e, hr, -, hv⟩ := read_fin hy k2
      rw [hr, read_inf hx k1, n1, n2, i1, i2]
      refine ⟨sg x, ?_, fun d => inf_cases hx k1⟩
      show some (Ieee.double.write _) = _
      rw [write_inf]
  · rcases kind y with ⟨n2, i2, k2⟩ | ⟨n2, i2, k2⟩ | ⟨n2, i2, k2⟩
    · left
      obtain ⟨m, e, hr, -, hv⟩ := read_fin hx k1
      rw [read_nan hy k2, hr, n2, n1]
      exact ⟨rfl, fun d => rfl⟩
    · right
      obtain ⟨m, e, hr, -, hv⟩ := read_fin hx k1
      rw [hr, read_inf hy k2, n1, n2, i1, i2]
      refine ⟨sg y, ?_, fun d => inf_cases hy k2⟩
      show some (Ieee.double.write _) = _
      rw [write_inf]
    · rw [n1, n2, i1, i2] at h
      cases h
end Go.Proofs.YtfbjeifhpmdjaaaGreat.Rn
