/-
  Plain: the quick road of a quotient answers the number rounded in the direction. Conditions: those that each theorem names.
-/
import Derived.Test.YtfbjeifhpmdjaaaZ10
import Derived.Test.YtfbjeifhpmdjaaaZ06
import Derived.Test.YtfbjeifhpmdjaaaZ02
set_option linter.unusedVariables false

namespace Go.Proofs.Ytfbjeifhpmdjaaa.Rn

theorem cap_rv : 1099511627776 * Kg ≤ rv (infR - 2) := by
  obtain ⟨c, hc⟩ : ∃ c : Nat, c = 1974 := ⟨_, rfl⟩
  rw [Kg_def, ← hc]
  have e : 1099511627776 * 2 ^ c = rv ((c + 40 - 52) * 4503599627370496 + 4503599627370496) := by
    rw [rv_form (c + 40 - 52) 4503599627370496 (by omega) (fun _ => Nat.le_refl _)]
    have : 2 ^ (c + 40) = 2 ^ (c + 40 - 52) * 2 ^ 52 := by rw [← pow_add_]; congr 1; omega
    rw [pow_add_] at this
    have e1 : (2 : Nat) ^ 40 = 1099511627776 := by decide
    have e2 : (2 : Nat) ^ 52 = 4503599627370496 := by decide
    rw [e1, e2] at this
    omega
  rw [e]
  exact rv_le (by rw [infR_val]; omega)

theorem K74_i : ((2 ^ 1074 : Nat) : Int) = (K74 : Int) := congrArg Int.ofNat K74_def.symm

/-- What a Z of a quotient asks. -/
theorem zd_le {X Y r : Nat} (hY : 0 < Y) : 4 * r ≤ zq (X * K75) Y ↔ r * Y ≤ X * K74 := by
  rw [show 4 * r = 2 * (2 * r) by omega, zq_le hY, K75_74]
  have e1 : 2 * r * Y = 2 * (r * Y) := Nat.mul_assoc _ _ _
  have e2 : X * (2 * K74) = 2 * (X * K74) := Nat.mul_left_comm _ _ _
  omega
theorem zd_gt {X Y r : Nat} (hY : 0 < Y) : 4 * r < zq (X * K75) Y ↔ r * Y < X * K74 := by
  rw [show 4 * r = 2 * (2 * r) by omega, zq_gt hY, K75_74]
  have e1 : 2 * r * Y = 2 * (r * Y) := Nat.mul_assoc _ _ _
  have e2 : X * (2 * K74) = 2 * (X * K74) := Nat.mul_left_comm _ _ _
  omega

theorem rn_pos {S : Int} : (0 < rn S ↔ 0 < S) ∧ (rn S < 0 ↔ S < 0) := by
  have h1 : S ≠ 0 → (1 : Int).natAbs ≤ (rn S).natAbs := fun h => rn_ge (g := 1) ⟨1, by decide⟩ (by omega)
  have h2 : S = 0 → rn S = 0 := fun h => by rw [h, rn_zero]
  have h3 : S < 0 → rn S ≤ 0 := fun h => by unfold rn; rw [if_pos h]; omega
  have h4 : ¬ S < 0 → 0 ≤ rn S := fun h => by unfold rn; rw [if_neg h]; omega
  omega

set_option maxHeartbeats 4000000 in
theorem div_quick {x y s p : Nat} {X Y : Int} (hx : Fl x X) (hy : Fl y Y) (mx : Mid X) (my : Mid Y) (hs : Ieee.double.div x y = some s) (fs : mg s < infR) (ms : Mid (sv s)) (hp : Ieee.double.mul s y = some p) (fp : mg p < infR) (mp : Mid (sv p)) :
    ∃ m a b M E, MissedOps s y p m ∧ Ieee.double.sub x p = some a ∧ Ieee.double.sub a m = some b ∧ Fl m M ∧ Fl b E ∧ ∀ d, rnd d (sg x ^^ sg y) (zq (rv (mg x) * K75) (rv (mg y))) = kp (key s + adj d (if Y < 0 then -E else E)) := by
  have hY0 : 0 < rv (mg y) := by have := my.1; have := hy.abs; omega
  have hX0 : 0 < rv (mg x) := by have := mx.1; have := hx.abs; omega
  have hmy : mg y ≠ 0 := fun h => by rw [h, rv_zero] at hY0; omega
  have hdiv := div_fin hx.lt hy.lt hx.fin hy.fin hmy
  rw [hdiv] at hs
  injection hs with hs
  obtain ⟨Z, hZ⟩ : ∃ Z, Z = zq (rv (mg x) * K75) (rv (mg y)) := ⟨_, rfl⟩
  rw [← hZ] at hs ⊢
  have hnl := near_lt' Z
  have hms : mg s = near Z := by rw [← hs, mg_word hnl]
  have hss : sg s = (sg x ^^ sg y) := by rw [← hs, sg_word hnl]
  have hsl : s < 18446744073709551616 := by rw [← hs]; exact word_lt hnl
  have hF : Fl s (sv s) := Fl.of hsl fs
  have hQ := sv_abs s
  obtain ⟨r, m, hr, hr0, hrg, om, fpr, fm, -⟩ := mul_quick hF hy ms my hp fp mp
  -- sizes
  clear hdiv
  have hbig : Z < 4 * (4 * Kg) := by
    rcases Nat.lt_or_ge Z (4 * (4 * Kg)) with h | h
    · exact h
    · exfalso
      obtain ⟨j, hj⟩ := rp_Kg (m := 4) (by omega)
      have h0 := nr_cap (P := 4 * Kg) (by omega)
      rw [← hj, nr_rv] at h0
      have h1 := near_lo (Z := Z) (k := j) (by omega) (by omega)
      have h2 := rv_le h1
      rw [← hms, hj, ← hQ] at h2
      have := ms.2
      omega
  have n3 : near Z = rung (Z / 4) ∨ near Z = rung (Z / 4) + 1 := (near_lt Z (by have := cap_rv; omega)).2.2
  obtain ⟨f, hf⟩ : ∃ f, f = rung (Z / 4) := ⟨_, rfl⟩
  rw [← hf] at n3
  obtain ⟨w1, w2⟩ := rung_spec (Z / 4)
  rw [← hf] at w1 w2
  have z1 : rv f * rv (mg y) ≤ rv (mg x) * K74 := (zd_le hY0).1 (by rw [← hZ]; omega)
  have z2 : rv (mg x) * K74 < rv (f + 1) * rv (mg y) := by
    rcases Nat.lt_or_ge (rv (mg x) * K74) (rv (f + 1) * rv (mg y)) with h | h
    · exact h
    · have := (zd_le hY0).2 h; rw [← hZ] at this; omega
  have hrv : r.natAbs * K74 = rv (mg s) * rv (mg y) := by
    have := congrArg Int.natAbs hr
    rw [Int.natAbs_mul, Int.natAbs_mul, K74_i, Int.natAbs_natCast, hy.abs, hQ] at this
    exact this
  obtain ⟨sf, g1, g2, g3, g4⟩ := rv_dvd f
  obtain ⟨v, hv⟩ : ∃ v, v = f / 4503599627370496 - 1 := ⟨_, rfl⟩
  rw [← hv] at g1 g2 g4
  have hKs : 18014398509481984 * 2 ^ 0 ≤ Ks := by
    obtain ⟨c, hc⟩ : ∃ c : Nat, c = 120 := ⟨_, rfl⟩
    have e : (2 : Nat) ^ 174 = 2 ^ 54 * 2 ^ c := by rw [hc, ← pow_add_]
    rw [Ks_def, e]
    have := two_pow_pos c
    have e1 : (2 : Nat) ^ 54 = 18014398509481984 := by decide
    rw [e1, Nat.pow_zero]
    omega
  rw [Nat.pow_zero, Nat.mul_one] at hKs
  have hs1 := ms.1
  rw [hQ] at hs1
  have hsle : rv (mg s) ≤ rv (f + 1) := rv_le (by omega)
  have hv0 : v ≠ 0 := by
    intro h
    rw [h, Nat.pow_zero] at g2
    omega
  have hu1 : 4503599627370496 * 2 ^ v ≤ rv f := by rw [g1]; exact Nat.mul_le_mul_right _ (g4 hv0)
  have hu2 : rv (f + 1) = rv f + 2 ^ v := by rw [g2, g1, Nat.add_mul, Nat.one_mul]
  obtain ⟨A, hA⟩ : ∃ A, A = 2 ^ v := ⟨_, rfl⟩
  rw [← hA] at hu1 hu2
  clear g1 g2 g3 g4 hA
  -- r beside X
  have hYm : 4503599627370496 * (A * rv (mg y)) ≤ rv f * rv (mg y) := by rw [← Nat.mul_assoc]; exact Nat.mul_le_mul_right _ hu1
  have hs3 : rv f ≤ rv (mg s) := rv_le (by omega)
  have hK := K74_pos
  have b1 : r.natAbs * K74 ≤ rv f * rv (mg y) + A * rv (mg y) := by
    rw [hrv, ← Nat.add_mul, ← hu2]; exact Nat.mul_le_mul_right _ hsle
  have b2 : rv f * rv (mg y) ≤ r.natAbs * K74 := by rw [hrv]; exact Nat.mul_le_mul_right _ hs3
  rw [hu2, Nat.add_mul] at z2
  have c1 : 4503599627370496 * r.natAbs ≤ 4503599627370497 * rv (mg x) := by
    have : (4503599627370496 * r.natAbs) * K74 ≤ (4503599627370497 * rv (mg x)) * K74 := by rw [Nat.mul_assoc, Nat.mul_assoc]; omega
    exact Nat.le_of_mul_le_mul_right this hK
  have c2 : 4503599627370495 * rv (mg x) ≤ 4503599627370496 * r.natAbs := by
    have : (4503599627370495 * rv (mg x)) * K74 ≤ (4503599627370496 * r.natAbs) * K74 := by rw [Nat.mul_assoc, Nat.mul_assoc]; omega
    exact Nat.le_of_mul_le_mul_right this hK
  clear b1 b2 hYm
  -- the signs
  have hXs := sv_sn x
  have hYs := sv_sn y
  have hSs := sv_sn s
  have hx' := hx.abs
  have hy' := hy.abs
  have sgX : (X < 0 ↔ sg x = true) := by
    rw [← hx.val]; unfold sv; cases sg x <;> simp <;> omega
  have sgY : (Y < 0 ↔ sg y = true) := by
    rw [← hy.val]; unfold sv; cases sg y <;> simp <;> omega
  have sgS : (sv s < 0 ↔ sg s = true) := by
    unfold sv; cases sg s <;> simp <;> omega
  have hsr : (r < 0 ↔ X < 0) := by
    have hp : (0 : Int) < (K74 : Int) := by omega
    rw [K74_i] at hr
    have e1 : r < 0 ↔ sv s * Y < 0 := by
      rw [← hr]
      constructor
      · intro h; exact Int.mul_neg_of_neg_of_pos h hp
      · intro h
        rcases Int.lt_or_le r 0 with h' | h'
        · exact h'
        · have := Int.mul_nonneg h' (show (0 : Int) ≤ (K74 : Int) by omega); omega
    rw [e1, sgX]
    rw [hss] at sgS
    have t1 : sv s ≠ 0 := by omega
    have t2 : Y ≠ 0 := by omega
    rcases Int.lt_or_lt_of_ne t1 with a | a <;> rcases Int.lt_or_lt_of_ne t2 with b | b
    · have := Int.mul_pos_of_neg_of_neg a b
      have h1 := sgS.1 a; have h2 := sgY.1 b
      rw [h2] at h1
      cases h3 : sg x
      · exact ⟨fun h => by omega, fun h => by cases h⟩
      · rw [h3] at h1; cases h1
    · have := Int.mul_neg_of_neg_of_pos a b
      have h1 := sgS.1 a
      have h2 : sg y = false := by cases h : sg y; rfl; have := sgY.2 h; omega
      rw [h2] at h1
      cases h3 : sg x
      · rw [h3] at h1; cases h1
      · exact ⟨fun _ => rfl, fun _ => by omega⟩
    · have := Int.mul_neg_of_pos_of_neg a b
      have h1 : ¬ (sg x ^^ sg y) = true := fun h => by have := sgS.2 h; omega
      have h2 := sgY.1 b
      rw [h2] at h1
      cases h3 : sg x
      · rw [h3] at h1; exact absurd rfl h1
      · exact ⟨fun _ => rfl, fun _ => by omega⟩
    · have := Int.mul_pos a b
      have h1 : ¬ (sg x ^^ sg y) = true := fun h => by have := sgS.2 h; omega
      have h2 : sg y = false := by cases h : sg y; rfl; have := sgY.2 h; omega
      rw [h2] at h1
      cases h3 : sg x
      · exact ⟨fun h => by omega, fun h => by cases h⟩
      · rw [h3] at h1; exact absurd rfl h1
  -- x less the nearest product is exact
  have hPr : 9007199254740992 * (rn r - r).natAbs ≤ r.natAbs := by
    have h1 := ex_hi r.natAbs
    have h2 := rn_err h1
    by_cases h3 : ex r.natAbs = 0
    · rw [h3, Nat.pow_zero] at h2; omega
    · have h4 := ex_lo h3
      omega
  have hrep : RpZ (X - rn r) := sterbZ hx.rp (rn_rp _) (by omega)
  have bX := mx.2
  obtain ⟨a, oa, fa⟩ := hx.sub fpr (nr_cap (by omega))
  rw [rn_of hrep] at fa
  obtain ⟨b, ob, fb⟩ := fa.sub fm (nr_cap (by omega))
  rw [show X - rn r - (r - rn r) = X - r by omega] at fb
  refine ⟨m, a, b, _, _, om, oa, ob, fm, fb, fun d => ?_⟩
  obtain ⟨q1, q2⟩ := rn_pos (S := X - r)
  -- the nearest one beside the quotient
  have t1 : 4 * rv (near Z) < Z ↔ r.natAbs < rv (mg x) := by
    rw [← hms]
    conv => lhs; rw [hZ]
    rw [zd_gt hY0, ← hrv]
    exact ⟨fun h => Nat.lt_of_mul_lt_mul_right h, fun h => Nat.mul_lt_mul_of_pos_right h hK⟩
  have t2 : Z < 4 * rv (near Z) ↔ rv (mg x) < r.natAbs := by
    have h1 : 4 * rv (near Z) ≤ Z ↔ r.natAbs ≤ rv (mg x) := by
      rw [← hms]
      conv => lhs; rw [hZ]
      rw [zd_le hY0, ← hrv]
      exact ⟨fun h => Nat.le_of_mul_le_mul_right h hK, fun h => Nat.mul_le_mul_right _ h⟩
    omega
  refine rnd_nudge d (sg x ^^ sg y) (by have := cap_rv; omega) (K := key s) ?_ ?_ ?_
  · unfold key; rw [hss, hms]
  · rw [t1, t2]
    cases h3 : sg x <;> cases h4 : sg y <;> rw [h3] at sgX <;> rw [h4] at sgY <;> simp only [Bool.false_xor, Bool.true_xor, Bool.not_false, Bool.not_true, Bool.false_eq_true, if_true, if_false, iff_false, iff_true] at sgX sgY ⊢
    · rw [if_neg sgY]; omega
    · rw [if_pos sgY]; omega
    · rw [if_neg sgY]; omega
    · rw [if_pos sgY]; omega
  · rw [t1, t2]
    cases h3 : sg x <;> cases h4 : sg y <;> rw [h3] at sgX <;> rw [h4] at sgY <;> simp only [Bool.false_xor, Bool.true_xor, Bool.not_false, Bool.not_true, Bool.false_eq_true, if_true, if_false, iff_false, iff_true] at sgX sgY ⊢
    · rw [if_neg sgY]; omega
    · rw [if_pos sgY]; omega
    · rw [if_neg sgY]; omega
    · rw [if_pos sgY]; omega
end Go.Proofs.Ytfbjeifhpmdjaaa.Rn

/-
  Plain: what FMA answers, by its roads. Conditions: those that each theorem names.
-/
set_option linter.unusedVariables false
set_option linter.unusedSimpArgs false
namespace Go.Proofs.Ytfbjeifhpmdjaaa.Rn
open Nm

def oddP (b : Nat) : Bool := isNaN b || isInf b
/-- What FMA answers. -/
def fmaR (d : Int) (x y z : Nat) : Nat :=
  if oddP x || oddP y then addR d (mulR d x y) z
  else if oddP z then cn z
  else rT d (sv x * sv y + sv z * (K74 : Int))

theorem add_nan {x y : Nat} (hx : x < 18446744073709551616) (h : isNaN x = true) : Ieee.double.add x y = none := by
  unfold Ieee.Format.add
  rw [read_nan hx ((isNaN_iff x).1 h)]
  rfl
theorem addR_nan (d : Int) {x y : Nat} (h : isNaN x = true) : addR d x y = NaNc := by
  unfold addR; rw [h]; rfl
theorem NaNc_nan : isNaN NaNc = true := rfl

theorem cast_swap (q K C : Nat) : (q : Int) * ((K * C : Nat) : Int) = ((K * q : Nat) : Int) * (C : Int) := by
  rw [← Int.natCast_mul, ← Int.natCast_mul, Nat.mul_left_comm, Nat.mul_assoc]
/-- A number's size times 2^-55, where the number is at least 2^-900: exactly. -/
theorem mul_55 {s : Nat} (hs : s < 18446744073709551616) (hf : mg s < infR) (h : Ks ≤ (sv s).natAbs) : ∃ m q : Nat, Ieee.double.mul (mg s) 4359484439294640128 = some m ∧ Fl m (q : Int) ∧ q * 36028797018963968 = (sv s).natAbs := by
  have hS := sv_abs s
  obtain ⟨c, hc⟩ : ∃ c : Nat, c = 1019 := ⟨_, rfl⟩
  have F0 : Fl (mg s) ((rv (mg s) : Nat) : Int) := by
    have hm : mg (mg s) = mg s := by unfold mg; omega
    have := Fl.of (b := mg s) (by have := mg_lt s; omega) (by rw [hm]; exact hf)
    have e : sv (mg s) = ((rv (mg s) : Nat) : Int) := by
      unfold sv
      rw [hm, show sg (mg s) = false by unfold sg; exact decide_eq_false (by have := mg_lt s; omega)]
      simp
    rwa [e] at this
  have F1 : Fl 4359484439294640128 ((2 ^ c : Nat) : Int) := by
    have hm : mg 4359484439294640128 = 4359484439294640128 := rfl
    have := Fl.of (b := 4359484439294640128) (by omega) (by rw [hm, infR_val]; omega)
    have e : sv 4359484439294640128 = ((2 ^ c : Nat) : Int) := by
      unfold sv
      rw [hm, show sg 4359484439294640128 = false from rfl]
      have h2 := rv_form (c - 52) 4503599627370496 (by omega) (fun _ => by omega)
      rw [show (c - 52) * 4503599627370496 + 4503599627370496 = 4359484439294640128 by omega] at h2
      rw [h2]
      have h3 : 4503599627370496 * 2 ^ (c - 52) = 2 ^ c := by
        rw [show c = 52 + (c - 52) by omega, Nat.pow_add]
        rw [show 52 + (c - 52) - 52 = c - 52 by omega]
      rw [h3]
      simp
    rwa [e] at this
  have hex : 55 ≤ ex Ks := by
    have : 54 < ex Ks := by
      refine ex_gt ?_
      obtain ⟨k, hk⟩ : ∃ k : Nat, k = 67 := ⟨_, rfl⟩
      rw [Ks_def, show 174 = 53 + 54 + k by omega, Nat.pow_add, Nat.pow_add]
      have := two_pow_pos k
      have e1 : (2 : Nat) ^ 53 = 9007199254740992 := by decide
      rw [e1]
      exact Nat.le_mul_of_pos_right _ this
    omega
  have hdv : 36028797018963968 ∣ rv (mg s) := by
    have h1 := F0.rp.dv (P := Ks) (by rw [Int.natAbs_natCast, ← hS]; exact h)
    have h2 := h1.mono hex
    unfold Dv at h2
    rwa [Int.natAbs_natCast] at h2
  obtain ⟨q, hq⟩ := hdv
  have hRq : RpZ (q : Int) := by
    have h1 := F0.rp
    unfold RpZ at h1 ⊢
    rw [Int.natAbs_natCast] at h1 ⊢
    have h2 := h1.dvd
    rw [hq] at h2
    obtain ⟨k, hk⟩ : ∃ k, ex (36028797018963968 * q) = 55 + k := by
      have h3 := ex_mono (P := Ks) (Q := 36028797018963968 * q) (by rw [← hq, ← hS]; exact h)
      exact ⟨ex (36028797018963968 * q) - 55, by omega⟩
    have h4 := ex_hi (36028797018963968 * q)
    rw [hk, Nat.pow_add, show (2 : Nat) ^ 55 = 36028797018963968 by decide] at h2 h4
    have h5 : 2 ^ k ∣ q := Nat.dvd_of_mul_dvd_mul_left (by omega) h2
    refine Rp.of_dvd h5 (Nat.le_of_lt ?_)
    rw [Nat.mul_left_comm] at h4
    exact Nat.lt_of_mul_lt_mul_left h4
  have hle : q ≤ rv (mg s) := by omega
  obtain ⟨m, hm, fm⟩ := F0.mul F1 (q := (q : Int)) (by
    have e0 : 2 ^ 1074 = 36028797018963968 * 2 ^ c := by
      rw [show (1074 : Nat) = 55 + c by omega, Nat.pow_add]
    have e : ((2 ^ 1074 : Nat) : Int) = ((36028797018963968 * 2 ^ c : Nat) : Int) := congrArg Int.ofNat e0
    rw [hq, e]
    generalize 2 ^ c = C
    exact cast_swap q 36028797018963968 C) (by
    rw [Int.natAbs_natCast]
    have h1 := nr_mono hle
    rw [nr_rv] at h1
    omega)
  rw [rn_of hRq] at fm
  exact ⟨m, q, hm, fm, by rw [hS, hq, Nat.mul_comm]⟩
end Go.Proofs.Ytfbjeifhpmdjaaa.Rn

/-
  Plain: what a sum has taken, and what its calls make of it. Conditions: those that each theorem names.
-/
namespace Go.Proofs.Ytfbjeifhpmdjaaa
open Nm Rn
set_option linter.unusedVariables false
set_option linter.unusedSimpArgs false

/-- What a sum has taken: its number, a whole number of 2^-2148; infinities, none; its terms. -/
structure Sm where
  T : Int
  p : Bool
  m : Bool
  n : Bool
  t : Nat
def Sm.cs (S : Sm) : List Value := sc (sw S.T) S.p S.m S.n S.t
def Sm.nil : Sm := ⟨0, false, false, false, 0⟩
def Sm.more (S : Sm) (k : Nat) : Sm := ⟨S.T, S.p, S.m, cntN S.n S.t k, cnt S.t k⟩
def Sm.lay (S : Sm) (X : Int) : Sm := ⟨S.T + X, S.p, S.m, S.n, S.t⟩
def Sm.add (S : Sm) (x : Nat) : Sm :=
  if isNaN x then ⟨S.T, S.p, S.m, true, cnt S.t 1⟩
  else if isInf x then (if sg x then ⟨S.T, S.p, true, cntN S.n S.t 1, cnt S.t 1⟩ else ⟨S.T, true, S.m, cntN S.n S.t 1, cnt S.t 1⟩)
  else (S.more 1).lay (sv x * (K74 : Int))
def Sm.mul (S : Sm) (x y : Nat) : Sm := if oddP x || oddP y then S.add (mulR 0 x y) else (S.more 1).lay (sv x * sv y)
def Sm.merge (S O : Sm) : Sm := ⟨S.T + O.T, S.p || O.p, S.m || O.m, cntN S.n S.t O.t || O.n, cnt S.t O.t⟩
def Sm.neg (S : Sm) : Sm := ⟨-S.T, S.m, S.p, S.n, S.t⟩
def Sm.state (S : Sm) : Int := stt S.p S.m S.n

theorem Sm.add_nan {S : Sm} {x y : Nat} (hx : isNaN x = true) (hy : isNaN y = true) : S.add x = S.add y := by unfold Sm.add; rw [hx, hy, if_pos rfl, if_pos rfl]
theorem Sm.add_t (S : Sm) (x : Nat) : (S.add x).t = cnt S.t 1 := by
  unfold Sm.add
  split
  · rfl
  · split
    · split <;> rfl
    · rfl
theorem Sm.mul_t (S : Sm) (x y : Nat) : (S.mul x y).t = cnt S.t 1 := by
  unfold Sm.mul
  split
  · exact Sm.add_t _ _
  · rfl

/-- Every cell is one. -/
theorem sc_one (ws : List Nat) (p m n : Bool) (t : Nat) : (sc ws p m n t).all Value.oneCell' = true := by
  rw [sc, List.all_append]
  have : (u64s ws).all Value.oneCell' = true := by
    induction ws with
    | nil => rfl
    | cons x xs ih => simp [u64s, Value.oneCell']
  rw [this]
  rfl
theorem spl_eq : ∀ (vs : List Value) (pre cs : List Value), cs.length = vs.length → spl (pre ++ cs) pre.length vs = pre ++ vs
  | [], pre, cs, h => by
    have : cs = [] := List.length_eq_zero_iff.1 (by simpa using h)
    rw [this]; rfl
  | v :: vs, pre, [], h => by simp at h
  | v :: vs, pre, c :: cs, h => by
    have e : (pre ++ c :: cs).set pre.length v = (pre ++ [v]) ++ cs := by
      rw [List.set_append_right _ _ (Nat.le_refl _), Nat.sub_self]
      simp
    rw [spl, e, show pre.length + 1 = (pre ++ [v]).length by simp, spl_eq vs (pre ++ [v]) cs (by simpa using h)]
    simp
/-- A box is written whole. -/
theorem spl_all {cs vs : List Value} (h : cs.length = vs.length) : spl cs 0 vs = vs := spl_eq vs [] cs h

/-- The place of a number's lowest bit. -/
theorem at_one (x : Nat) : ∃ i k : Nat, fbExp x + 2148 = ((64 * i + k : Nat) : Int) ∧ k < 64 ∧ i ≤ 63 := by
  have h1 := fbExp_lo x
  have h2 := fbExp_hi x
  exact ⟨(fbExp x + 2148).toNat / 64, (fbExp x + 2148).toNat % 64, by omega, by omega, by omega⟩
theorem at_two (x y : Nat) : ∃ i k : Nat, fbExp x + fbExp y + 2148 = ((64 * i + k : Nat) : Int) ∧ k < 64 ∧ i ≤ 63 := by
  have h1 := fbExp_lo x
  have h2 := fbExp_hi x
  have h3 := fbExp_lo y
  have h4 := fbExp_hi y
  exact ⟨(fbExp x + fbExp y + 2148).toNat / 64, (fbExp x + fbExp y + 2148).toNat % 64, by omega, by omega, by omega⟩
theorem lay_one {x i k : Nat} (h : fbExp x + 2148 = ((64 * i + k : Nat) : Int)) : sn (sg x) ((0 * 18446744073709551616 + fbSig x) * 2 ^ (64 * i + k)) = sv x * (K74 : Int) := by
  rw [← part_un]
  unfold un
  rw [Nat.zero_mul, Nat.zero_add, sn_mul, show (fbExp x + 2148).toNat = 64 * i + k by omega]
theorem lay_two {x y i k : Nat} (h : fbExp x + fbExp y + 2148 = ((64 * i + k : Nat) : Int)) : sn (sg x != sg y) ((fbSig x * fbSig y / 18446744073709551616 * 18446744073709551616 + fbSig x * fbSig y % 18446744073709551616) * 2 ^ (64 * i + k)) = sv x * sv y := by
  have h1 := fbExp_lo x
  have h3 := fbExp_lo y
  rw [← part_mul, sn_mul, Nat.div_add_mod', show (fbExp x + 1074).toNat + (fbExp y + 1074).toNat = 64 * i + k by omega]
end Go.Proofs.Ytfbjeifhpmdjaaa

/-
  The contracts of the reference's naturals, first part: words, Long. Conditions: those that each theorem names.
-/
namespace Go.Proofs.Ytfbjeifhpmdjaaa
open Go.RowKit Nm
set_option maxRecDepth 100000
set_option linter.unusedVariables false
set_option linter.unusedSimpArgs false

set_option maxHeartbeats 400000 in
theorem words_any (A : Option Addr) (n c : Nat) (xs : List Nat) (w : World) (h : Wds w A n c xs) (hn : n ≤ 35184372088832) :
    Calls Try.prog 69 #[.slice A n c] w fun e w' => e = .returned (.int .i64 (nw (nv xs) : Int)) ∧ w = w' := by
  have hlen := h.len
  go_enter Try.func69, Try.ntmps69
  go_wp2
  go_loop [3] (fun i => ∃ k : Nat, k ≤ n ∧ i = .int .i64 k ∧ ∀ j, (hj : j < xs.length) → k ≤ j → xs[j] = 0) (fun i => (intOf i).toNat)
  case atStart => exact ⟨n, Nat.le_refl _, rfl, fun j hj hk => by omega⟩
  case round =>
    obtain ⟨k, hk, rfl, hz⟩ := hrel
    have HZ := Lib.hid hz
    clear hz
    by_cases h0 : k = 0
    · subst h0
      go_wp2
      go_ret
      exact ⟨ret_int (by rw [(take_trim h.ws (Nat.zero_le _) HZ.out (fun k hk e => by omega)).2.1]; rfl), rfl⟩
    · obtain ⟨ad, hx, rfl, hb, hc⟩ := h.at_ (k := k - 1) (by omega)
      by_cases hx0 : xs[k - 1] = 0
      · go_wp2
        go_round
        case rel => exact ⟨k - 1, by omega, by go_num, fun j hj hkj => by
          by_cases e : j = k - 1
          · subst e; exact hx0
          · exact HZ.out j hj (by omega)⟩
        case measure => simp [intOf]; omega
      · go_wp2
        go_ret
        exact ⟨ret_int (by rw [(take_trim h.ws (by omega) HZ.out (fun j hj e => by
          have e : j = k - 1 := by omega
          subst e; exact hx0)).2.1]), rfl⟩

theorem info_u32 : (Try.prog.info? 83).map (fun i => (i.zero, i.size, i.bytes)) = some (some (.int .u32 0), 1, 4) := by kernel_rfl

/-- Block g is just the words L, none of them frozen. -/
def Row (w : World) (g : Nat) (L : List Nat) : Prop := w.heap[g]? = some (.cells (u32s L).toArray 83 (0, 0))

section
variable {w w' : World} {g : Nat} {L : List Nat}
theorem Row.lt (h : Row w g L) : g < w.heap.size := by
  rcases Nat.lt_or_ge g w.heap.size with hlt | hge
  · exact hlt
  · unfold Row at h; rw [Array.getElem?_eq_none hge] at h; cases h
theorem Row.cell (h : Row w g L) {i : Nat} (hi : i < L.length) : w.cell? ⟨g, i, none⟩ = some (.int .u32 (L[i] : Int)) := by
  unfold Row at h
  simp [World.cell?, h, u32s, hi]
theorem Row.frozen (h : Row w g L) (i : Nat) : w.frozen? ⟨g, i, none⟩ = false := by
  unfold Row at h
  simp [World.frozen?, h]
theorem Row.set_ (h : Row w g L) (i : Nat) (x : Nat) : Row (w.setCell ⟨g, i, none⟩ (.int .u32 (x : Int))) g (L.set i x) := by
  unfold Row at h ⊢
  simp [World.setCell, Array.getElem?_modify, h, u32s, List.map_set]
theorem Row.new (w : World) (L : List Nat) : Row (w.alloc (.cells (u32s L).toArray 83)) w.heap.size L := heap_alloc_new w _
theorem Row.drew (h : Row w g L) : Row w.drew g L := h
theorem Row.drewN (h : Row w g L) (n : Nat) : Row (w.drewN n) g L := h
theorem Row.ext (h : Row w g L) (hb : Ext w w') : Row w' g L := (Below.block hb g h.lt).trans h
theorem Row.alloc (h : Row w g L) (o : Obj) : Row (w.alloc o) g L := h.ext ((Ext.refl w).alloc o)
theorem Row.far (h : Row w g L) {p : Addr} (hp : g ≠ p.block) (u : Value) : Row (w.setCell p u) g L := (Below.heap_setCell w p u g hp).trans h
theorem Row.wds (h : Row w g L) (hL : Ws L) {n c : Nat} (hn : L.length = n) (hc : n ≤ c) (hm : c ≤ maxLen) : Wds w (some ⟨g, 0, none⟩) n c L :=
  ⟨hn, hc, hm, hL, fun _ => ⟨_, rfl, h.lt, fun k x hk => by
    have hk' : k < L.length := (List.getElem?_eq_some_iff.1 hk).1
    have := h.cell hk'
    rw [List.getElem?_eq_getElem hk'] at hk
    injection hk with hk
    rw [← hk, ← this]
    unfold Addr.add
    split
    · subst_vars; rfl
    · simp⟩⟩
theorem Row.own (h : Row w g L) {base n : Nat} (hb : base ≤ g) (hn : L.length = n) (hm : n ≤ maxLen) : w.ownsRow base 83 1 (.slice (some ⟨g, 0, none⟩) n n) n (u32s L) :=
  ⟨by rw [u32s_length]; omega, .inr ⟨g, n, _, rfl, hb, h, Nat.le_refl _, hm, by simp [u32s_length, hn], by simp [List.take_of_length_le, u32s_length, hn]⟩⟩
end

theorem cells_replicate (n : Nat) : madeCells (Value.int .u32 0).cells (n * 1) = (u32s (List.replicate n 0)).toArray := by
  apply Array.ext
  · simp [size_madeCells, u32s]
  · intro i h1 h2
    simp [madeCells, u32s, Value.cells, Nat.mod_one]

/-- make([]uint32, n). -/
theorem run_make32 (n : Nat) (hn : n ≤ 70368744177664) (w : World) :
    (Instr.makeSlice 41 (.int .i64 (n : Int)) (.int .i64 (n : Int))).run Try.prog w = .ok (.slice (some ⟨w.heap.size, 0, none⟩) n n) (w.alloc (.cells (u32s (List.replicate n 0)).toArray 83)) := by
  obtain ⟨i0, hi0, hz0, hz1, hz2⟩ := info_parts info_u32
  have hr := run_make (P := Try.prog) w 41 83 i0 (.int .u32 0) Try.underlying41 hi0 hz0 .i64 .i64 n n (by omega) (by omega) (by rw [hz2]; omega) (by omega)
  simp only [Int.toNat_natCast] at hr
  rw [hr, hz1, cells_replicate]

/-- One word more, onto a row of the call's own. -/
theorem wp_app32 {ops : Array Oper} {rest : List Oper} {o : Oper} {a : Act} {Q : Exit → Act → World → Prop} (hgd : o.guard = none) (s x : Operand)
    (ho : o.op = .call { callee := .builtin .append, args := #[s, x], argTypes := #[41, 41] })
    {w0 wr : World} {v : Value} {j : Nat} {acc : List Nat} (lo : Nat) {xv : Int} (hs : a.eval s = v) (hown : wr.ownsRow w0.heap.size 83 1 v j (u32s acc)) (hb : Ext w0 wr)
    (hx : a.eval x = .slice (some ⟨wr.heap.size, 0, none⟩) 1 1) (hxv : xv = (lo : Int)) (hj : j ≤ 35184372088000)
    (h : ∀ v' w1, w1.ownsRow w0.heap.size 83 1 v' (j + 1) (u32s (acc ++ [lo])) → Ext w0 w1 → wpList Try.prog ops Q rest (a.put o.dst v') w1) :
    wpList Try.prog ops Q (o :: rest) a (wr.alloc (.cells #[.int .u32 xv] 83)) := by
  obtain ⟨i0, hi0, hz0, hz1, hz2⟩ := info_parts info_u32
  subst hxv
  refine wpList_append_own _ hgd s x _ ho w0.heap.size 83 i0 (.int .u32 0) 1 4 Try.underlying41 hi0 hz0 hz1 hz2 rfl (by decide) _ _ _ hs (hown.alloc _) ⟨wr.heap.size, 0, none⟩ 1 1 [.int .u32 (lo : Int)] hx rfl (cell_one_new _ _ _) (by simp [Value.oneCell']) (by simp only [maxLen]; omega) (by omega) (by have := hb.size; simp; omega) ?_
  intro v' w1 hown' hgrow _
  rw [u32s_snoc] at hown'
  exact h v' w1 hown' ((hb.alloc _).grown hgrow fun q hq => (hown.lt q hq).1)

set_option maxHeartbeats 400000 in
theorem norm_any (A : Option Addr) (n c : Nat) (xs : List Nat) (w : World) (h : Wds w A n c xs) (hn : n ≤ 35184372088000) :
    Calls Try.prog 60 #[.slice A n c] w (RetW (nv xs) w) := by
  have hlen := h.len
  obtain ⟨i0, hi0, hz0, hz1, hz2⟩ := info_parts info_u32
  go_enter Try.func60, Try.ntmps60
  go_wp2
  go_loop [3] (fun i => ∃ k : Nat, k ≤ n ∧ i = .int .i64 k ∧ ∀ j, (hj : j < xs.length) → k ≤ j → xs[j] = 0) (fun i => (intOf i).toNat)
  case atStart => exact ⟨n, Nat.le_refl _, rfl, fun j hj hk => by omega⟩
  case round =>
    obtain ⟨k, hk, rfl, hz⟩ := hrel
    have HZ := Lib.hid hz
    clear hz
    by_cases hx0 : k ≠ 0 ∧ ∃ hx : k - 1 < xs.length, xs[k - 1] = 0
    · obtain ⟨h0, hx, hx0⟩ := hx0
      obtain ⟨ad, hx, rfl, hb, hc⟩ := h.at_ (k := k - 1) (by omega)
      go_wp2
      go_round
      case rel => exact ⟨k - 1, by omega, by go_num, fun j hj hkj => by
        by_cases e : j = k - 1
        · subst e; exact hx0
        · exact HZ.out j hj (by omega)⟩
      case measure => simp [intOf]; omega
    · have hT := take_trim h.ws (n := k) (by omega) HZ.out (fun j hj e => by
        intro hj0
        refine hx0 ⟨by omega, by omega, ?_⟩
        have e : k - 1 = j := by omega
        subst e; exact hj0)
      have HT := Lib.hid hT.1
      clear hT
      have hgo : k ≤ 0 ∨ ∃ ad, ∃ hx : k - 1 < xs.length, 0 < k ∧ A = some ad ∧ xs[k - 1] ≠ 0 ∧ w.cell? (ad.add (k - 1)) = some (.int .u32 (xs[k - 1] : Int)) := by
        by_cases h0 : k = 0
        · exact Or.inl (by omega)
        · obtain ⟨ad, hx, rfl, hb, hc⟩ := h.at_ (k := k - 1) (by omega)
          exact Or.inr ⟨ad, hx, by omega, rfl, fun e => hx0 ⟨h0, hx, e⟩, hc⟩
      clear hx0
      rcases hgo with hk0 | ⟨ad0, hx, hk0, rfl, hx0, hc⟩
      all_goals
        go_wp2
        go_loopw [4, 5] (fun v i wr => ∃ j : Nat, j ≤ k ∧ i = .int .i64 j ∧ wr.ownsRow w.heap.size 83 1 v j (u32s (xs.take j)) ∧ Ext w wr) (fun _ i _ => k - (intOf i).toNat)
        case atStart => exact ⟨0, Nat.zero_le _, rfl, World.ownsRow_nil _ _ _ _, Ext.refl _⟩
        case round =>
          obtain ⟨j, hj, rfl, hown, hb⟩ := hrel
          by_cases hlt : j < k
          · first
            | (exfalso; omega)
            | (obtain ⟨ad, hxj, hA, hbj, hcj⟩ := (h.ext hb).at_ (k := j) (by omega)
               have hrow : u32s (xs.take j) ++ [.int .u32 (xs[j] : Int)] = u32s (xs.take (j + 1)) := by
                 rw [u32s_snoc, List.take_succ_eq_append_getElem hxj]
               have HR := Lib.hid hrow
               clear hrow
               first | subst hA | (injection hA with hA; subst hA)
               go_wp2_with (at_builtin; refine wpList_append_own _ rfl (.tmp 25) (.tmp 30) _ rfl w.heap.size 83 i0 (.int .u32 0) 1 4 Try.underlying41 hi0 hz0 hz1 hz2 rfl (by decide) _ _ _ rfl (hown.alloc _) ⟨wr.heap.size, 0, none⟩ 1 1 [.int .u32 (xs[j] : Int)] rfl rfl (cell_one_new _ _ _) (by simp [Value.oneCell']) (by simp only [maxLen]; omega) (by omega) (by have := hb.size; simp; omega) ?_; intro v' w1 hown' hgrow _)
               go_roundw
               case rel => exact ⟨j + 1, by omega, by go_num, by rw [← HR.out]; exact hown', (hb.alloc _).grown hgrow fun q hq => (hown.lt q hq).1⟩
               case measure => simp [intOf]; omega)
          · have e : j = k := by omega
            subst e
            obtain ⟨A', c', rfl, hW⟩ := Wds.of_own hown (h.ws.take j)
            go_wp2
            go_ret
            exact ⟨A', j, c', rfl, by rw [HT.out]; exact hW, hb⟩
end Go.Proofs.Ytfbjeifhpmdjaaa
