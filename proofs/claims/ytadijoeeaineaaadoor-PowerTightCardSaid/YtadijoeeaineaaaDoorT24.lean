/-
  Plain: the quick road of a quotient answers the number rounded in the direction. Conditions: those that each theorem names.
-/
import Derived.Test.YtadijoeeaineaaaDoorT23
import Derived.Test.YtadijoeeaineaaaDoorT17
set_option linter.unusedVariables false

namespace Go.Proofs.YtadijoeeaineaaaDoor.Rn

theorem cap_rv : 1099511627776 * Kg ≤ rv (infR - 2) := by
  obtain ⟨c, hc⟩ : ∃ c : Nat, c = 1974 := ⟨_, rfl⟩
  rw [Kg_def, ← hc]
  have e : 1099511627776 * 2 ^ c = rv ((c + 40 - 52) * 4503599627370496 + 4503599627370496) := by
    rw [rv_form (c + 40 - 52) 4503599627370496 (by omega) (fun _ => Nat.le_refl _)]
    have : 2 ^ (c + 40) = 2 ^ (c + 40 - 52) * 2 ^ 52 := by rw [← pow_add_]; congr 1; omega
    rw [pow_add_] at this
    have e1 : (2 : Nat) ^ 40 = 1099511627776 := by decide
    have e2 : (2 : Nat) ^ 52 = 4503599627370496 := by decide
    rw [e1, e2] at this
    omega
  rw [e]
  exact rv_le (by rw [infR_val]; omega)

theorem K74_i : ((2 ^ 1074 : Nat) : Int) = (K74 : Int) := congrArg Int.ofNat K74_def.symm

/-- What a Z of a quotient asks. -/
theorem zd_le {X Y r : Nat} (hY : 0 < Y) : 4 * r ≤ zq (X * K75) Y ↔ r * Y ≤ X * K74 := by
  rw [show 4 * r = 2 * (2 * r) by omega, zq_le hY, K75_74]
  have e1 : 2 * r * Y = 2 * (r * Y) := Nat.mul_assoc _ _ _
  have e2 : X * (2 * K74) = 2 * (X * K74) := Nat.mul_left_comm _ _ _
  omega
theorem zd_gt {X Y r : Nat} (hY : 0 < Y) : 4 * r < zq (X * K75) Y ↔ r * Y < X * K74 := by
  rw [show 4 * r = 2 * (2 * r) by omega, zq_gt hY, K75_74]
  have e1 : 2 * r * Y = 2 * (r * Y) := Nat.mul_assoc _ _ _
  have e2 : X * (2 * K74) = 2 * (X * K74) := Nat.mul_left_comm _ _ _
  omega

theorem rn_pos {S : Int} : (0 < rn S ↔ 0 < S) ∧ (rn S < 0 ↔ S < 0) := by
  have h1 : S ≠ 0 → (1 : Int).natAbs ≤ (rn S).natAbs := fun h => rn_ge (g := 1) ⟨1, by decide⟩ (by omega)
  have h2 : S = 0 → rn S = 0 := fun h => by rw [h, rn_zero]
  have h3 : S < 0 → rn S ≤ 0 := fun h => by unfold rn; rw [if_pos h]; omega
  have h4 : ¬ S < 0 → 0 ≤ rn S := fun h => by unfold rn; rw [if_neg h]; omega
  omega

set_option maxHeartbeats 4000000 in
theorem div_quick {x y s p : Nat} {X Y : Int} (hx : Fl x X) (hy : Fl y Y) (mx : Mid X) (my : Mid Y) (hs : Ieee.double.div x y = some s) (fs : mg s < infR) (ms : Mid (sv s)) (hp : Ieee.double.mul s y = some p) (fp : mg p < infR) (mp : Mid (sv p)) :
    ∃ m a b M E, MissedOps s y p m ∧ Ieee.double.sub x p = some a ∧ Ieee.double.sub a m = some b ∧ Fl m M ∧ Fl b E ∧ ∀ d, rnd d (sg x ^^ sg y) (zq (rv (mg x) * K75) (rv (mg y))) = kp (key s + adj d (if Y < 0 then -E else E)) := by
  have hY0 : 0 < rv (mg y) := by have := my.1; have := hy.abs; omega
  have hX0 : 0 < rv (mg x) := by have := mx.1; have := hx.abs; omega
  have hmy : mg y ≠ 0 := fun h => by rw [h, rv_zero] at hY0; omega
  have hdiv := div_fin hx.lt hy.lt hx.fin hy.fin hmy
  rw [hdiv] at hs
  injection hs with hs
  obtain ⟨Z, hZ⟩ : ∃ Z, Z = zq (rv (mg x) * K75) (rv (mg y)) := ⟨_, rfl⟩
  rw [← hZ] at hs ⊢
  have hnl := near_lt' Z
  have hms : mg s = near Z := by rw [← hs, mg_word hnl]
  have hss : sg s = (sg x ^^ sg y) := by rw [← hs, sg_word hnl]
  have hsl : s < 18446744073709551616 := by rw [← hs]; exact word_lt hnl
  have hF : Fl s (sv s) := Fl.of hsl fs
  have hQ := sv_abs s
  obtain ⟨r, m, hr, hr0, hrg, om, fpr, fm, -⟩ := mul_quick hF hy ms my hp fp mp
  -- sizes
  clear hdiv
  have hbig : Z < 4 * (4 * Kg) := by
    rcases Nat.lt_or_ge Z (4 * (4 * Kg)) with h | h
    · exact h
    · exfalso
      obtain ⟨j, hj⟩ := rp_Kg (m := 4) (by omega)
      have h0 := nr_cap (P := 4 * Kg) (by omega)
      rw [← hj, nr_rv] at h0
      have h1 := near_lo (Z := Z) (k := j) (by omega) (by omega)
      have h2 := rv_le h1
      rw [← hms, hj, ← hQ] at h2
      have := ms.2
      omega
  have n3 : near Z = rung (Z / 4) ∨ near Z = rung (Z / 4) + 1 := (near_lt Z (by have := cap_rv; omega)).2.2
  obtain ⟨f, hf⟩ : ∃ f, f = rung (Z / 4) := ⟨_, rfl⟩
  rw [← hf] at n3
  obtain ⟨w1, w2⟩ := rung_spec (Z / 4)
  rw [← hf] at w1 w2
  have z1 : rv f * rv (mg y) ≤ rv (mg x) * K74 := (zd_le hY0).1 (by rw [← hZ]; omega)
  have z2 : rv (mg x) * K74 < rv (f + 1) * rv (mg y) := by
    rcases Nat.lt_or_ge (rv (mg x) * K74) (rv (f + 1) * rv (mg y)) with h | h
    · exact h
    · have := (zd_le hY0).2 h; rw [← hZ] at this; omega
  have hrv : r.natAbs * K74 = rv (mg s) * rv (mg y) := by
    have := congrArg Int.natAbs hr
    rw [Int.natAbs_mul, Int.natAbs_mul, K74_i, Int.natAbs_natCast, hy.abs, hQ] at this
    exact this
  obtain ⟨sf, g1, g2, g3, g4⟩ := rv_dvd f
  obtain ⟨v, hv⟩ : ∃ v, v = f / 4503599627370496 - 1 := ⟨_, rfl⟩
  rw [← hv] at g1 g2 g4
  have hKs : 18014398509481984 * 2 ^ 0 ≤ Ks := by
    obtain ⟨c, hc⟩ : ∃ c : Nat, c = 120 := ⟨_, rfl⟩
    have e : (2 : Nat) ^ 174 = 2 ^ 54 * 2 ^ c := by rw [hc, ← pow_add_]
    rw [Ks_def, e]
    have := two_pow_pos c
    have e1 : (2 : Nat) ^ 54 = 18014398509481984 := by decide
    rw [e1, Nat.pow_zero]
    omega
  rw [Nat.pow_zero, Nat.mul_one] at hKs
  have hs1 := ms.1
  rw [hQ] at hs1
  have hsle : rv (mg s) ≤ rv (f + 1) := rv_le (by omega)
  have hv0 : v ≠ 0 := by
    intro h
    rw [h, Nat.pow_zero] at g2
    omega
  have hu1 : 4503599627370496 * 2 ^ v ≤ rv f := by rw [g1]; exact Nat.mul_le_mul_right _ (g4 hv0)
  have hu2 : rv (f + 1) = rv f + 2 ^ v := by rw [g2, g1, Nat.add_mul, Nat.one_mul]
  obtain ⟨A, hA⟩ : ∃ A, A = 2 ^ v := ⟨_, rfl⟩
  rw [← hA] at hu1 hu2
  clear g1 g2 g3 g4 hA
  -- r beside X
  have hYm : 4503599627370496 * (A * rv (mg y)) ≤ rv f * rv (mg y) := by rw [← Nat.mul_assoc]; exact Nat.mul_le_mul_right _ hu1
  have hs3 : rv f ≤ rv (mg s) := rv_le (by omega)
  have hK := K74_pos
  have b1 : r.natAbs * K74 ≤ rv f * rv (mg y) + A * rv (mg y) := by
    rw [hrv, ← Nat.add_mul, ← hu2]; exact Nat.mul_le_mul_right _ hsle
  have b2 : rv f * rv (mg y) ≤ r.natAbs * K74 := by rw [hrv]; exact Nat.mul_le_mul_right _ hs3
  rw [hu2, Nat.add_mul] at z2
  have c1 : 4503599627370496 * r.natAbs ≤ 4503599627370497 * rv (mg x) := by
    have : (4503599627370496 * r.natAbs) * K74 ≤ (4503599627370497 * rv (mg x)) * K74 := by rw [Nat.mul_assoc, Nat.mul_assoc]; omega
    exact Nat.le_of_mul_le_mul_right this hK
  have c2 : 4503599627370495 * rv (mg x) ≤ 4503599627370496 * r.natAbs := by
    have : (4503599627370495 * rv (mg x)) * K74 ≤ (4503599627370496 * r.natAbs) * K74 := by rw [Nat.mul_assoc, Nat.mul_assoc]; omega
    exact Nat.le_of_mul_le_mul_right this hK
  clear b1 b2 hYm
  -- the signs
  have hXs := sv_sn x
  have hYs := sv_sn y
  have hSs := sv_sn s
  have hx' := hx.abs
  have hy' := hy.abs
  have sgX : (X < 0 ↔ sg x = true) := by
    rw [← hx.val]; unfold sv; cases sg x <;> simp <;> omega
  have sgY : (Y < 0 ↔ sg y = true) := by
    rw [← hy.val]; unfold sv; cases sg y <;> simp <;> omega
  have sgS : (sv s < 0 ↔ sg s = true) := by
    unfold sv; cases sg s <;> simp <;> omega
  have hsr : (r < 0 ↔ X < 0) := by
    have hp : (0 : Int) < (K74 : Int) := by omega
    rw [K74_i] at hr
    have e1 : r < 0 ↔ sv s * Y < 0 := by
      rw [← hr]
      constructor
      · intro h; exact Int.mul_neg_of_neg_of_pos h hp
      · intro h
        rcases Int.lt_or_le r 0 with h' | h'
        · exact h'
        · have := Int.mul_nonneg h' (show (0 : Int) ≤ (K74 : Int) by omega); omega
    rw [e1, sgX]
    rw [hss] at sgS
    have t1 : sv s ≠ 0 := by omega
    have t2 : Y ≠ 0 := by omega
    rcases Int.lt_or_lt_of_ne t1 with a | a <;> rcases Int.lt_or_lt_of_ne t2 with b | b
    · have := Int.mul_pos_of_neg_of_neg a b
      have h1 := sgS.1 a; have h2 := sgY.1 b
      rw [h2] at h1
      cases h3 : sg x
      · exact ⟨fun h => by omega, fun h => by cases h⟩
      · rw [h3] at h1; cases h1
    · have := Int.mul_neg_of_neg_of_pos a b
      have h1 := sgS.1 a
      have h2 : sg y = false := by cases h : sg y; rfl; have := sgY.2 h; omega
      rw [h2] at h1
      cases h3 : sg x
      · rw [h3] at h1; cases h1
      · exact ⟨fun _ => rfl, fun _ => by omega⟩
    · have := Int.mul_neg_of_pos_of_neg a b
      have h1 : ¬ (sg x ^^ sg y) = true := fun h => by have := sgS.2 h; omega
      have h2 := sgY.1 b
      rw [h2] at h1
      cases h3 : sg x
      · rw [h3] at h1; exact absurd rfl h1
      · exact ⟨fun _ => rfl, fun _ => by omega⟩
    · have := Int.mul_pos a b
      have h1 : ¬ (sg x ^^ sg y) = true := fun h => by have := sgS.2 h; omega
      have h2 : sg y = false := by cases h : sg y; rfl; have := sgY.2 h; omega
      rw [h2] at h1
      cases h3 : sg x
      · exact ⟨fun h => by omega, fun h => by cases h⟩
      · rw [h3] at h1; exact absurd rfl h1
  -- x less the nearest product is exact
  have hPr : 9007199254740992 * (rn r - r).natAbs ≤ r.natAbs := by
    have h1 := ex_hi r.natAbs
    have h2 := rn_err h1
    by_cases h3 : ex r.natAbs = 0
    · rw [h3, Nat.pow_zero] at h2; omega
    · have h4 := ex_lo h3
      omega
  have hrep : RpZ (X - rn r) := sterbZ hx.rp (rn_rp _) (by omega)
  have bX := mx.2
  obtain ⟨a, oa, fa⟩ := hx.sub fpr (nr_cap (by omega))
  rw [rn_of hrep] at fa
  obtain ⟨b, ob, fb⟩ := fa.sub fm (nr_cap (by omega))
  rw [show X - rn r - (r - rn r) = X - r by omega] at fb
  refine ⟨m, a, b, _, _, om, oa, ob, fm, fb, fun d => ?_⟩
  obtain ⟨q1, q2⟩ := rn_pos (S := X - r)
  -- the nearest one beside the quotient
  have t1 : 4 * rv (near Z) < Z ↔ r.natAbs < rv (mg x) := by
    rw [← hms]
    conv => lhs; rw [hZ]
    rw [zd_gt hY0, ← hrv]
    exact ⟨fun h => Nat.lt_of_mul_lt_mul_right h, fun h => Nat.mul_lt_mul_of_pos_right h hK⟩
  have t2 : Z < 4 * rv (near Z) ↔ rv (mg x) < r.natAbs := by
    have h1 : 4 * rv (near Z) ≤ Z ↔ r.natAbs ≤ rv (mg x) := by
      rw [← hms]
      conv => lhs; rw [hZ]
      rw [zd_le hY0, ← hrv]
      exact ⟨fun h => Nat.le_of_mul_le_mul_right h hK, fun h => Nat.mul_le_mul_right _ h⟩
    omega
  refine rnd_nudge d (sg x ^^ sg y) (by have := cap_rv; omega) (K := key s) ?_ ?_ ?_
  · unfold key; rw [hss, hms]
  · rw [t1, t2]
    cases h3 : sg x <;> cases h4 : sg y <;> rw [h3] at sgX <;> rw [h4] at sgY <;> simp only [Bool.false_xor, Bool.true_xor, Bool.not_false, Bool.not_true, Bool.false_eq_true, if_true, if_false, iff_false, iff_true] at sgX sgY ⊢
    · rw [if_neg sgY]; omega
    · rw [if_pos sgY]; omega
    · rw [if_neg sgY]; omega
    · rw [if_pos sgY]; omega
  · rw [t1, t2]
    cases h3 : sg x <;> cases h4 : sg y <;> rw [h3] at sgX <;> rw [h4] at sgY <;> simp only [Bool.false_xor, Bool.true_xor, Bool.not_false, Bool.not_true, Bool.false_eq_true, if_true, if_false, iff_false, iff_true] at sgX sgY ⊢
    · rw [if_neg sgY]; omega
    · rw [if_pos sgY]; omega
    · rw [if_neg sgY]; omega
    · rw [if_pos sgY]; omega
end Go.Proofs.YtadijoeeaineaaaDoor.Rn

/-
  Plain: what Div answers; / where an operand is no number or nought. Conditions: those that each theorem names.
-/
set_option linter.unusedVariables false
set_option linter.unusedSimpArgs false
namespace Go.Proofs.YtadijoeeaineaaaDoor.Rn
open Nm

/-- What Div answers. -/
def divR (d : Int) (x y : Nat) : Nat :=
  if isNaN x || isNaN y || (isInf x && isInf y) || (decide (mg x = 0) && decide (mg y = 0)) then NaNc
  else if mg y = 0 then infP (sg x && decide (mg x ≠ 0))
  else if isInf x then infP (sg x != sg y)
  else if isInf y then 0
  else rnd d (sg x != sg y) (zq (rv (mg x) * K75) (rv (mg y)))

/-- The document's quotient. -/
theorem quo_ref (d : Int) (x y : Nat) (hy : mg y ≠ 0) {n m : Bool} (hn : n = (sg x && decide (mg x ≠ 0))) (hm : m = (sg y && decide (mg y ≠ 0))) :
    rnd d ((n != m) && decide (fbN x * fbD y ≠ 0)) (zr (fracN (fbN x * fbD y) (fbD x * fbN y) 0) (fracD (fbN x * fbD y) (fbD x * fbN y) 0)) = rnd d (sg x != sg y) (zq (rv (mg x) * K75) (rv (mg y))) := by
  have hNy : fbN y ≠ 0 := fun h => hy ((fbN_zero y).1 h)
  have hp : fbD x * fbN y ≠ 0 := by
    have := Nat.mul_pos (fbD_pos x) (show 0 < fbN y by omega)
    omega
  have hry : 0 < rv (mg y) := by
    rcases Nat.eq_zero_or_pos (rv (mg y)) with h | h
    · exact absurd (rv_eq_zero.1 h) hy
    · exact h
  have h1 := frac_val (n := fbN x * fbD y) (d := fbD x * fbN y) (e := 0) (p := 0) (q := 0) rfl
  rw [Nat.pow_zero, Nat.mul_one, Nat.mul_one] at h1
  have h2 := fb_val x
  have h3 := fb_val y
  have hz : zr (fracN (fbN x * fbD y) (fbD x * fbN y) 0) (fracD (fbN x * fbD y) (fbD x * fbN y) 0) = zq (rv (mg x) * K75) (rv (mg y)) := by
    have e1 : zq (rv (mg x) * K75) (rv (mg y)) = zr (rv (mg x)) (rv (mg y)) := rfl
    rw [e1]
    have e2 : zr (fracN (fbN x * fbD y) (fbD x * fbN y) 0) (fracD (fbN x * fbD y) (fbD x * fbN y) 0) = zr (fbN x * fbD y) (fbD x * fbN y) := zr_congr (fracD_pos _ hp) (by omega) h1
    rw [e2]
    refine zr_congr (by omega) hry ?_
    have hK := K74_pos
    have hD := fbD_pos y
    refine Nat.eq_of_mul_eq_mul_right (Nat.mul_pos hK hD) ?_
    have a1 : fbN x * fbD y * rv (mg y) * (K74 * fbD y) = (fbN x * K74) * (rv (mg y) * fbD y) * fbD y := by
      simp only [Nat.mul_assoc, Nat.mul_comm, Nat.mul_left_comm]
    have a2 : rv (mg x) * (fbD x * fbN y) * (K74 * fbD y) = (rv (mg x) * fbD x) * (fbN y * K74) * fbD y := by
      simp only [Nat.mul_assoc, Nat.mul_comm, Nat.mul_left_comm]
    rw [a1, a2, h2, h3]
  rw [hz]
  by_cases hx : mg x = 0
  · rw [hx, rv_zero, Nat.zero_mul]
    have : zq 0 (rv (mg y)) = 0 := by simp [zq]
    rw [this, rnd_zero, rnd_zero]
  · have hNx : fbN x ≠ 0 := fun h => hx ((fbN_zero x).1 h)
    have hpos := Nat.mul_pos (show 0 < fbN x by omega) (fbD_pos y)
    rw [hn, hm, decide_eq_true hx, decide_eq_true hy, decide_eq_true (show fbN x * fbD y ≠ 0 by omega), Bool.and_true, Bool.and_true, Bool.and_true]
end Go.Proofs.YtadijoeeaineaaaDoor.Rn

/-
  Plain: the n-th root of a ratio, cut behind some binary digits, with a mark for what was cut off: it rounds alike behind any number of digits that is great enough. Conditions: those that each theorem names.
-/
set_option linter.unusedVariables false
set_option linter.unusedSimpArgs false
namespace Go.Proofs.YtadijoeeaineaaaDoor.Rn
open Nm

/-- r is the n-th root of N / D times 2^k, cut; o tells whether something was cut off. -/
def RootAt (N D n : Nat) (k : Int) (r : Nat) (o : Bool) : Prop :=
  ∃ A B : Nat, (A : Int) - B = n * k ∧ r ^ n * (D * 2 ^ B) ≤ N * 2 ^ A ∧ N * 2 ^ A < (r + 1) ^ n * (D * 2 ^ B) ∧ o = decide (r ^ n * (D * 2 ^ B) ≠ N * 2 ^ A)

theorem RootAt.any {N D n : Nat} {k : Int} {r : Nat} {o : Bool} (h : RootAt N D n k r o) {A B : Nat} (hAB : (A : Int) - B = n * k) :
    r ^ n * (D * 2 ^ B) ≤ N * 2 ^ A ∧ N * 2 ^ A < (r + 1) ^ n * (D * 2 ^ B) ∧ o = decide (r ^ n * (D * 2 ^ B) ≠ N * 2 ^ A) := by
  obtain ⟨A', B', hAB', h1, h2, h3⟩ := h
  have hc : A + B' = A' + B := by omega
  have e1 : ∀ R : Nat, R * (D * 2 ^ B) * 2 ^ B' = R * (D * 2 ^ B') * 2 ^ B := fun R => by simp only [Nat.mul_assoc, Nat.mul_comm, Nat.mul_left_comm]
  have e2 : N * 2 ^ A * 2 ^ B' = N * 2 ^ A' * 2 ^ B := by rw [Nat.mul_assoc, Nat.mul_assoc, ← Nat.pow_add, ← Nat.pow_add, hc]
  have hB := two_pow_pos B
  have hB' := two_pow_pos B'
  refine ⟨?_, ?_, ?_⟩
  · refine Nat.le_of_mul_le_mul_right (c := 2 ^ B') ?_ hB'
    rw [e1, e2]
    exact Nat.mul_le_mul_right _ h1
  · refine Nat.lt_of_mul_lt_mul_right (a := 2 ^ B') ?_
    rw [e1, e2]
    exact Nat.mul_lt_mul_of_pos_right h2 hB
  · rw [h3]
    refine decide_eq_decide.2 (not_congr ?_)
    constructor
    · intro h
      refine Nat.eq_of_mul_eq_mul_right hB' ?_
      rw [e1, e2, h]
    · intro h
      refine Nat.eq_of_mul_eq_mul_right hB ?_
      rw [← e1, ← e2, h]

/-- The same ratio. -/
theorem RootAt.congr {N D N' D' n : Nat} {k : Int} {r : Nat} {o : Bool} (hD : 0 < D) (hD' : 0 < D') (he : N * D' = N' * D) (h : RootAt N D n k r o) : RootAt N' D' n k r o := by
  obtain ⟨A, B, hAB, h1, h2, h3⟩ := h
  have e1 : ∀ R : Nat, R * (D * 2 ^ B) * D' = R * (D' * 2 ^ B) * D := fun R => by simp only [Nat.mul_assoc, Nat.mul_comm, Nat.mul_left_comm]
  have e2 : N * 2 ^ A * D' = N' * 2 ^ A * D := by rw [Nat.mul_right_comm, he, Nat.mul_right_comm]
  refine ⟨A, B, hAB, ?_, ?_, ?_⟩
  · refine Nat.le_of_mul_le_mul_right (c := D) ?_ hD
    rw [← e1, ← e2]
    exact Nat.mul_le_mul_right _ h1
  · refine Nat.lt_of_mul_lt_mul_right (a := D) ?_
    rw [← e1, ← e2]
    exact Nat.mul_lt_mul_of_pos_right h2 hD'
  · rw [h3]
    refine decide_eq_decide.2 (not_congr ?_)
    constructor
    · intro h
      refine Nat.eq_of_mul_eq_mul_right hD ?_
      rw [← e1, ← e2, h]
    · intro h
      refine Nat.eq_of_mul_eq_mul_right hD' ?_
      rw [e1, e2, h]

theorem pow_lt_pow_ {a b n : Nat} (hn : n ≠ 0) (h : a < b) : a ^ n < b ^ n := Nat.pow_lt_pow_left h hn
theorem pow_le_pow_ {a b : Nat} (n : Nat) (h : a ≤ b) : a ^ n ≤ b ^ n := Nat.pow_le_pow_left h n

/-- Fewer digits. -/
theorem RootAt.less {N D n : Nat} {k : Int} {r1 r2 j : Nat} {o1 o2 : Bool} (hn : n ≠ 0) (hD : 0 < D) (h1 : RootAt N D n k r1 o1) (h2 : RootAt N D n (k + j) r2 o2) : r1 = r2 / 2 ^ j ∧ o1 = decide ((2 * r2 + o2.toNat) % 2 ^ (j + 1) ≠ 0) := by
  obtain ⟨A, B, hAB, a1, a2, a3⟩ := h1
  have hAB2 : ((A + n * j : Nat) : Int) - B = n * (k + j) := by rw [Int.mul_add]; push_cast; omega
  obtain ⟨b1, b2, b3⟩ := h2.any hAB2
  have hj := two_pow_pos j
  have hpn : 2 ^ (n * j) = (2 ^ j) ^ n := by rw [Nat.mul_comm, Nat.pow_mul]
  obtain ⟨E, hE⟩ : ∃ E, E = D * 2 ^ B := ⟨_, rfl⟩
  have hE0 : 0 < E := by rw [hE]; exact Nat.mul_pos hD (two_pow_pos B)
  obtain ⟨W, hW⟩ : ∃ W, W = N * 2 ^ A := ⟨_, rfl⟩
  obtain ⟨J, hJ⟩ : ∃ J, J = 2 ^ j := ⟨_, rfl⟩
  have hW2 : N * 2 ^ (A + n * j) = W * J ^ n := by rw [Nat.pow_add, ← Nat.mul_assoc, hW, hpn, hJ]
  rw [hW2, ← hE] at b1 b2 b3
  rw [← hE, ← hW] at a1 a2 a3
  rw [← hJ] at hj ⊢
  have hJn : 0 < J ^ n := Nat.pow_pos hj
  have c1 : r1 * J ≤ r2 := by
    rcases Nat.lt_or_ge r2 (r1 * J) with h | h
    · exfalso
      have := pow_le_pow_ n (show r2 + 1 ≤ r1 * J from h)
      rw [Nat.mul_pow] at this
      have h2 : (r2 + 1) ^ n * E ≤ r1 ^ n * J ^ n * E := Nat.mul_le_mul_right _ this
      have h3 : r1 ^ n * J ^ n * E = r1 ^ n * E * J ^ n := Nat.mul_right_comm _ _ _
      have h4 : r1 ^ n * E * J ^ n ≤ W * J ^ n := Nat.mul_le_mul_right _ a1
      omega
    · exact h
  have c2 : r2 < (r1 + 1) * J := by
    rcases Nat.lt_or_ge r2 ((r1 + 1) * J) with h | h
    · exact h
    · exfalso
      have := pow_le_pow_ n h
      rw [Nat.mul_pow] at this
      have h2 : (r1 + 1) ^ n * J ^ n * E ≤ r2 ^ n * E := Nat.mul_le_mul_right _ this
      have h3 : (r1 + 1) ^ n * J ^ n * E = (r1 + 1) ^ n * E * J ^ n := Nat.mul_right_comm _ _ _
      have h4 : W * J ^ n < (r1 + 1) ^ n * E * J ^ n := Nat.mul_lt_mul_of_pos_right a2 hJn
      omega
  have hdiv : r1 = r2 / J := by
    refine (Nat.div_eq_of_lt_le ?_ ?_).symm
    · exact c1
    · exact c2
  refine ⟨hdiv, ?_⟩
  rw [a3]
  refine decide_eq_decide.2 (not_congr ?_)
  rw [Nat.pow_succ, ← hJ]
  have hdm := Nat.div_add_mod r2 J
  rw [← hdiv] at hdm
  have hmod : (2 * r2 + o2.toNat) % (J * 2) = 2 * (r2 % J) + o2.toNat := by
    have ho : o2.toNat ≤ 1 := by cases o2 <;> simp
    have hlt := Nat.mod_lt r2 hj
    have : 2 * r2 + o2.toNat = (2 * (r2 % J) + o2.toNat) + r1 * (J * 2) := by
      have h5 : r1 * (J * 2) = 2 * (J * r1) := by simp only [Nat.mul_assoc, Nat.mul_comm, Nat.mul_left_comm]
      omega
    rw [this, Nat.add_mul_mod_self_right, Nat.mod_eq_of_lt (by omega)]
  rw [hmod]
  constructor
  · intro h
    have e : r1 ^ n * J ^ n * E = W * J ^ n := by rw [Nat.mul_right_comm, h]
    have hr2 : r2 = r1 * J := by
      rcases Nat.lt_or_ge (r1 * J) r2 with h6 | h6
      · exfalso
        have := pow_lt_pow_ hn h6
        rw [Nat.mul_pow] at this
        have h7 : r1 ^ n * J ^ n * E < r2 ^ n * E := Nat.mul_lt_mul_of_pos_right this hE0
        omega
      · omega
    have h0 : r2 % J = 0 := by rw [hr2, Nat.mul_mod_left]
    rw [h0, b3]
    have : ¬ (r2 ^ n * E ≠ W * J ^ n) := by rw [hr2, Nat.mul_pow, e]; simp
    rw [decide_eq_false this]; rfl
  · intro h
    have h0 : r2 % J = 0 := by omega
    have ho : o2 = false := by cases ho2 : o2 with | false => rfl | true => rw [ho2] at h; simp at h
    have hr2 : r2 = r1 * J := by rw [Nat.mul_comm]; omega
    rw [ho] at b3
    have b4 : r2 ^ n * E = W * J ^ n := by
      have := of_decide_eq_false b3.symm
      omega
    refine Nat.eq_of_mul_eq_mul_right hJn ?_
    rw [← b4, hr2, Nat.mul_pow, Nat.mul_right_comm]

/-- More digits round alike. -/
theorem RootAt.rnd_less {N D n : Nat} {k : Int} {r1 r2 j : Nat} {o1 o2 : Bool} (hn : n ≠ 0) (hD : 0 < D) (h1 : RootAt N D n k r1 o1) (h2 : RootAt N D n (k + j) r2 o2) (hb : o1 = true → 55 ≤ bl r1) (d : Int) (neg : Bool) :
    rnd d neg (zd (2 * r1 + o1.toNat) (-k - 1)) = rnd d neg (zd (2 * r2 + o2.toNat) (-(k + j) - 1)) := by
  obtain ⟨e1, e2⟩ := h1.less hn hD h2
  obtain ⟨P, hP⟩ : ∃ P : Nat, P = (-k + 1075).toNat := ⟨_, rfl⟩
  obtain ⟨Q, hQ⟩ : ∃ Q : Nat, Q = (-(-k + 1075)).toNat := ⟨_, rfl⟩
  have hPQ : (P : Int) - Q = -k + 1075 := by omega
  have hz : zd (2 * r2 + o2.toNat) (-(k + j) - 1) = zq ((2 * r2 + o2.toNat) * 2 ^ P) (2 ^ (j + 1) * 2 ^ Q) := by
    rw [zd_of (A := P) (B := j + 1 + Q) (by omega), Nat.pow_add]
  rw [hz]
  refine rnd_quo (X := 2 * r2 + o2.toNat) (Y := 2 ^ (j + 1)) (A := P) (B := Q) (two_pow_pos _) (Nat.mul_pos (two_pow_pos _) (two_pow_pos _)) ?_ e2 hb hPQ ?_ d neg
  · rw [e1, Nat.pow_succ, Nat.mul_comm (2 ^ j) 2, ← Nat.div_div_eq_div_mul]
    have ho : o2.toNat ≤ 1 := by cases o2 <;> simp
    rw [show (2 * r2 + o2.toNat) / 2 = r2 by omega]
  · rfl

theorem RootAt.alike {N D n : Nat} {k1 k2 : Int} {r1 r2 : Nat} {o1 o2 : Bool} (hn : n ≠ 0) (hD : 0 < D) (h1 : RootAt N D n k1 r1 o1) (h2 : RootAt N D n k2 r2 o2) (hb1 : o1 = true → 55 ≤ bl r1) (hb2 : o2 = true → 55 ≤ bl r2) (d : Int) (neg : Bool) :
    rnd d neg (zd (2 * r1 + o1.toNat) (-k1 - 1)) = rnd d neg (zd (2 * r2 + o2.toNat) (-k2 - 1)) := by
  rcases Int.le_total k1 k2 with h | h
  · obtain ⟨j, hj⟩ : ∃ j : Nat, k2 = k1 + j := ⟨(k2 - k1).toNat, by omega⟩
    subst hj
    exact h1.rnd_less hn hD h2 hb1 d neg
  · obtain ⟨j, hj⟩ : ∃ j : Nat, k1 = k2 + j := ⟨(k1 - k2).toNat, by omega⟩
    subst hj
    exact (h2.rnd_less hn hD h1 hb2 d neg).symm

/-- The n-th root of N / D, rounded. -/
noncomputable def rootV (d : Int) (neg : Bool) (N D n : Nat) : Nat :=
  open Classical in
  if h : ∃ V, ∃ k r o, RootAt N D n k r o ∧ (o = true → 55 ≤ bl r) ∧ V = rnd d neg (zd (2 * r + o.toNat) (-k - 1)) then Classical.choose h else 0
theorem RootAt.val {N D n : Nat} {k : Int} {r : Nat} {o : Bool} (h : RootAt N D n k r o) (hn : n ≠ 0) (hD : 0 < D) (hb : o = true → 55 ≤ bl r) (d : Int) (neg : Bool) : rnd d neg (zd (2 * r + o.toNat) (-k - 1)) = rootV d neg N D n := by
  have hex : ∃ V, ∃ k r o, RootAt N D n k r o ∧ (o = true → 55 ≤ bl r) ∧ V = rnd d neg (zd (2 * r + o.toNat) (-k - 1)) := ⟨_, k, r, o, h, hb, rfl⟩
  unfold rootV
  rw [dif_pos hex]
  obtain ⟨k', r', o', h', hb', he⟩ := Classical.choose_spec hex
  rw [he]
  exact h.alike hn hD h' hb hb' d neg

/-- What Root answers. -/
noncomputable def rootR (d : Int) (x : Nat) (n : Int) : Nat :=
  if isNaN x || decide (n < 1) || decide (1024 < n) || (decide (n % 2 = 0) && (sg x && decide (mg x ≠ 0))) then NaNc
  else if isInf x then x
  else if mg x = 0 then 0
  else rootV d (sg x) (rv (mg x)) K74 n.toNat
end Go.Proofs.YtadijoeeaineaaaDoor.Rn

/-
  Plain: how the document finds a root: its scale, its bits from the highest down. Conditions: those that each theorem names.
-/
set_option linter.unusedVariables false
set_option linter.unusedSimpArgs false
namespace Go.Proofs.YtadijoeeaineaaaDoor.Rn
open Nm

theorem tdiv_abs (a : Int) (n : Nat) : (a.tdiv n).natAbs ≤ a.natAbs := by
  rw [Int.natAbs_tdiv]
  exact Nat.div_le_self _ _
theorem tdiv_bd {a b : Int} {n : Nat} (h1 : -b ≤ a) (h2 : a ≤ b) : -b ≤ a.tdiv n ∧ a.tdiv n ≤ b := by
  have := tdiv_abs a n
  omega
/-- One step of the search for a scale. -/
theorem ks_step {a : Int} {n : Nat} (hn : 1 ≤ n) : (0 ≤ a → (a + n * (60 - a.tdiv n)).tdiv n = 60) ∧ 59 ≤ (a + n * (60 - a.tdiv n)).tdiv n ∧ (a + n * (60 - a.tdiv n)).tdiv n ≤ 60 ∧ 0 ≤ a + n * (60 - a.tdiv n) := by
  have hn' : (0 : Int) < n := by omega
  have h1 := Int.mul_tdiv_add_tmod a n
  have h2 := Int.tmod_lt_of_pos a hn'
  have h3 : -(n : Int) < a.tmod n := by
    have := Int.tmod_lt_of_pos (-a) hn'
    rw [Int.neg_tmod] at this
    omega
  obtain ⟨r, hr⟩ : ∃ r, r = a.tmod n := ⟨_, rfl⟩
  have h4 : 0 ≤ a → 0 ≤ r := fun h => by rw [hr]; exact Int.tmod_nonneg _ h
  rw [← hr] at h1 h2 h3
  have e : a + n * (60 - a.tdiv n) = 60 * n + r := by
    rw [Int.mul_sub]; omega
  rw [e]
  have hp : 0 ≤ 60 * (n : Int) + r := by omega
  rw [Int.tdiv_eq_ediv_of_nonneg hp, Int.add_comm, Int.add_mul_ediv_right _ _ (by omega)]
  have hd : -1 ≤ r / (n : Int) ∧ r / (n : Int) ≤ 0 := by
    constructor
    · rw [Int.le_ediv_iff_mul_le hn']; omega
    · have : r / (n : Int) < 1 := by rw [Int.ediv_lt_iff_lt_mul hn']; omega
      omega
  refine ⟨fun h => ?_, by omega, by omega, by omega⟩
  have := h4 h
  have h0 : r / (n : Int) = 0 := Int.ediv_eq_zero_of_lt this h2
  omega
theorem ks_end {a : Int} {n : Nat} (hn : 1 ≤ n) (h1 : ¬ a.tdiv n < 59) (h2 : ¬ 61 < a.tdiv n) : 59 * (n : Int) ≤ a ∧ a < 62 * n := by
  have hn' : (0 : Int) < n := by omega
  have hp : 0 ≤ a := by
    rcases Int.lt_or_le a 0 with h | h
    · exfalso
      have : a.tdiv n ≤ 0 := by
        have h5 := Int.mul_tdiv_add_tmod a n
        rcases Int.lt_or_le 0 (a.tdiv n) with h6 | h6
        · have h7 : (n : Int) * 1 ≤ n * a.tdiv n := Int.mul_le_mul_of_nonneg_left (by omega) (by omega)
          have h8 := Int.tmod_lt_of_pos (-a) hn'
          rw [Int.neg_tmod] at h8
          omega
        · exact h6
      omega
    · exact h
  rw [Int.tdiv_eq_ediv_of_nonneg hp] at h1 h2
  constructor
  · have := (Int.le_ediv_iff_mul_le (c := (n : Int)) (a := 59) (b := a) hn').1 (by omega)
    omega
  · have := (Int.ediv_lt_iff_lt_mul (c := (n : Int)) (a := a) (b := 62) hn').1 (by omega)
    omega

/-- The scales that are tried. -/
structure KS (f : Int) (n : Nat) (q0 k1 q1 k2 q2 m1 m2 : Int) : Prop where
  e0 : (f + n * 60).tdiv n = q0
  p1 : n * k1 = m1
  e1 : (f + m1).tdiv n = q1
  p2 : n * k2 = m2
  e2 : (f + m2).tdiv n = q2
  c1 : (61 < q0 ∧ k1 = 60 - (q0 - 60)) ∨ (¬ 61 < q0 ∧ k1 = 60)
  n1 : ¬ 61 < q1
  c2 : (q1 < 59 ∧ k2 = k1 + (60 - q1)) ∨ (¬ q1 < 59 ∧ k2 = k1)
  n2 : ¬ q2 < 59
  lo : 59 * (n : Int) ≤ f + m2
  hi : f + m2 < 62 * (n : Int)
  b0 : -70000 ≤ q0 ∧ q0 ≤ 70000
  b1 : -70000 ≤ q1 ∧ q1 ≤ 70000
  b2 : -70000 ≤ q2 ∧ q2 ≤ 70000
  d1 : -140000 ≤ k1 ∧ k1 ≤ 140000
  d2 : -300000 ≤ k2 ∧ k2 ≤ 300000
  r1 : -70000 ≤ m1 ∧ m1 ≤ 70000
  r2 : -70000 ≤ m2 ∧ m2 ≤ 70000
theorem ks_any {f : Int} {n : Nat} (h1 : 1 ≤ n) (h2 : n ≤ 1024) (f1 : -3000 ≤ f) (f2 : f ≤ 3000) : ∃ q0 k1 q1 k2 q2 m1 m2, KS f n q0 k1 q1 k2 q2 m1 m2 := by
  obtain ⟨q0, e0⟩ : ∃ q0, (f + n * 60).tdiv n = q0 := ⟨_, rfl⟩
  have b0 := tdiv_bd (a := f + n * 60) (b := 70000) (n := n) (by omega) (by omega)
  rw [e0] at b0
  have hs0 := ks_step (a := f + n * 60) h1
  rw [e0] at hs0
  have x0 : f + (n : Int) * 60 + n * (60 - q0) = f + n * (60 + (60 - q0)) := by rw [Int.mul_add]; omega
  rw [x0] at hs0
  by_cases c1 : 61 < q0
  · have hz : 0 ≤ f + (n : Int) * 60 := by
      rcases Int.lt_or_le (f + (n : Int) * 60) 0 with h | h
      · exfalso
        have : (f + (n : Int) * 60).tdiv n ≤ 0 := by
          have h3 : f + (n : Int) * 60 = -(-(f + n * 60)) := by omega
          rw [h3, Int.neg_tdiv]
          have := Int.tdiv_nonneg (a := -(f + (n : Int) * 60)) (b := n) (by omega) (by omega)
          omega
        omega
      · exact h
    have hq := hs0.1 hz
    have hk : (60 : Int) + (60 - q0) = 60 - (q0 - 60) := by omega
    rw [hk] at hs0 hq
    obtain ⟨m1, p1⟩ : ∃ m1, (n : Int) * (60 - (q0 - 60)) = m1 := ⟨_, rfl⟩
    rw [p1] at hs0 hq
    have hend := ks_end (a := f + m1) h1 (by omega) (by omega)
    exact ⟨q0, 60 - (q0 - 60), 60, 60 - (q0 - 60), 60, m1, m1, e0, p1, hq, p1, hq, .inl ⟨c1, rfl⟩, by omega, .inr ⟨by omega, rfl⟩, by omega, hend.1, hend.2, b0, by omega, by omega, by omega, by omega, by omega, by omega⟩
  · by_cases c2 : q0 < 59
    · obtain ⟨m2, p2⟩ : ∃ m2, (n : Int) * (60 + (60 - q0)) = m2 := ⟨_, rfl⟩
      rw [p2] at hs0
      obtain ⟨q2, e2⟩ : ∃ q2, (f + m2).tdiv n = q2 := ⟨_, rfl⟩
      rw [e2] at hs0
      have hend := ks_end (a := f + m2) h1 (by rw [e2]; omega) (by rw [e2]; omega)
      exact ⟨q0, 60, q0, 60 + (60 - q0), q2, n * 60, m2, e0, rfl, e0, p2, e2, .inr ⟨c1, rfl⟩, c1, .inl ⟨c2, rfl⟩, by omega, hend.1, hend.2, b0, b0, by omega, by omega, by omega, by omega, by omega⟩
    · have hend := ks_end (a := f + n * 60) h1 (by rw [e0]; omega) (by rw [e0]; omega)
      exact ⟨q0, 60, q0, 60, q0, n * 60, n * 60, e0, rfl, e0, rfl, e0, .inr ⟨c1, rfl⟩, c1, .inr ⟨c2, rfl⟩, c2, hend.1, hend.2, b0, b0, b0, by omega, by omega, by omega, by omega⟩

/-- The bits of the root that are found: those above bit j. -/
structure RtRel (n big j r : Nat) : Prop where
  low : r % 2 ^ j = 0
  lt : r + 2 ^ j ≤ 9223372036854775808
  le : r ^ n ≤ big
  gt : big < (r + 2 ^ j) ^ n
theorem RtRel.start {n big : Nat} (hn : n ≠ 0) (h : big < (2 ^ 63) ^ n) : RtRel n big 63 0 := ⟨Nat.zero_mod _, by omega, by rw [Nat.zero_pow (by omega)]; omega, by rw [Nat.zero_add]; exact h⟩
theorem RtRel.yes {n big i r : Nat} (h : RtRel n big (i + 1) r) (hle : (r + 2 ^ i) ^ n ≤ big) : RtRel n big i (r + 2 ^ i) := by
  have hl := h.lt
  have hg := h.gt
  have hlow := h.low
  rw [Nat.pow_succ] at hl hg hlow
  have e : r + 2 ^ i * 2 = r + 2 ^ i + 2 ^ i := by omega
  rw [e] at hl hg
  refine ⟨?_, hl, hle, hg⟩
  have h1 : r % 2 ^ i = 0 := by
    have := Nat.dvd_of_mod_eq_zero hlow
    exact Nat.mod_eq_zero_of_dvd (Nat.dvd_trans (Nat.dvd_mul_right _ _) this)
  rw [Nat.add_mod_right, h1]
theorem RtRel.no {n big i r : Nat} (h : RtRel n big (i + 1) r) (hgt : big < (r + 2 ^ i) ^ n) : RtRel n big i r := by
  have hl := h.lt
  have hlow := h.low
  rw [Nat.pow_succ] at hl hlow
  refine ⟨?_, by omega, h.le, hgt⟩
  have := Nat.dvd_of_mod_eq_zero hlow
  exact Nat.mod_eq_zero_of_dvd (Nat.dvd_trans (Nat.dvd_mul_right _ _) this)
theorem RtRel.far {n big i r : Nat} (hn : n ≠ 0) (h : bl big ≤ n * i) : big < (r + 2 ^ i) ^ n := by
  have h1 := lt_pow_bl big
  have h2 : 2 ^ bl big ≤ 2 ^ (n * i) := Nat.pow_le_pow_right (by omega) h
  have h3 : 2 ^ (n * i) = (2 ^ i) ^ n := by rw [Nat.mul_comm, Nat.pow_mul]
  have h4 : (2 ^ i) ^ n ≤ (r + 2 ^ i) ^ n := Nat.pow_le_pow_left (by omega) n
  omega
theorem RtRel.done {n big r : Nat} (h : RtRel n big 0 r) : r ^ n ≤ big ∧ big < (r + 1) ^ n := ⟨h.le, by have := h.gt; rwa [Nat.pow_zero] at this⟩
theorem RtRel.or_ {n big i r : Nat} (h : RtRel n big (i + 1) r) : r ||| 2 ^ i = r + 2 ^ i ∧ r + 2 ^ i < 9223372036854775808 := by
  have hl := h.lt
  have hp := two_pow_pos i
  rw [Nat.pow_succ] at hl
  refine ⟨?_, by omega⟩
  have hd := Nat.div_add_mod r (2 ^ (i + 1))
  rw [h.low, Nat.add_zero] at hd
  have := Nat.two_pow_add_eq_or_of_lt (i := i + 1) (b := 2 ^ i) (Nat.pow_lt_pow_right (by omega) (by omega)) (r / 2 ^ (i + 1))
  rw [hd] at this
  exact this.symm

/-- What the document's search ends in. -/
theorem root_end {N D n A B r : Nat} {k m : Int} (hn : 1 ≤ n) (hN : N ≠ 0) (hD : D ≠ 0) (hm : (n : Int) * k = m) (hAB : (A : Int) - B = m) (hlo : 59 * (n : Int) ≤ (bl N : Int) - bl D + m) (h1 : r ^ n ≤ N * 2 ^ A / (D * 2 ^ B)) (h2 : N * 2 ^ A / (D * 2 ^ B) < (r + 1) ^ n) :
    RootAt N D n k r (decide (r ^ n * (D * 2 ^ B) ≠ N * 2 ^ A)) ∧ 55 ≤ bl r := by
  have hE : 0 < D * 2 ^ B := Nat.mul_pos (by omega) (two_pow_pos B)
  have a1 := (Nat.le_div_iff_mul_le hE).1 h1
  have a2 := (Nat.div_lt_iff_lt_mul hE).1 h2
  refine ⟨⟨A, B, by omega, a1, a2, rfl⟩, ?_⟩
  rcases Nat.lt_or_ge (bl r) 55 with h | h
  · exfalso
    have b1 : r + 1 ≤ 2 ^ 54 := (bl_le_iff r 54).1 (by omega)
    have b2 : (r + 1) ^ n ≤ (2 ^ 54) ^ n := Nat.pow_le_pow_left b1 n
    rw [← Nat.pow_mul] at b2
    have b3 := lt_pow_bl D
    have b4 := pow_le_of_bl hN
    have bN := bl_pos hN
    have b5 : (r + 1) ^ n * (D * 2 ^ B) ≤ 2 ^ (54 * n) * (2 ^ bl D * 2 ^ B) := Nat.mul_le_mul b2 (Nat.mul_le_mul_right _ (by omega))
    rw [← Nat.pow_add, ← Nat.pow_add] at b5
    have b6 : 2 ^ (bl N - 1) * 2 ^ A ≤ N * 2 ^ A := Nat.mul_le_mul_right _ b4
    rw [← Nat.pow_add] at b6
    have b7 : 2 ^ (54 * n + (bl D + B)) ≤ 2 ^ (bl N - 1 + A) := Nat.pow_le_pow_right (by omega) (by omega)
    omega
  · exact h
theorem root_big {N D n A B : Nat} {m : Int} (hn : 1 ≤ n) (hD : D ≠ 0) (hAB : (A : Int) - B = m) (hhi : (bl N : Int) - bl D + m < 62 * (n : Int)) : N * 2 ^ A / (D * 2 ^ B) < (2 ^ 63) ^ n := by
  have hE : 0 < D * 2 ^ B := Nat.mul_pos (by omega) (two_pow_pos B)
  rw [Nat.div_lt_iff_lt_mul hE]
  have b3 := lt_pow_bl N
  have b4 := pow_le_of_bl hD
  have bD := bl_pos hD
  have b5 : N * 2 ^ A < 2 ^ bl N * 2 ^ A := Nat.mul_lt_mul_of_pos_right b3 (two_pow_pos A)
  rw [← Nat.pow_add] at b5
  have b6 : (2 ^ 63) ^ n * (2 ^ (bl D - 1) * 2 ^ B) ≤ (2 ^ 63) ^ n * (D * 2 ^ B) := Nat.mul_le_mul_left _ (Nat.mul_le_mul_right _ b4)
  rw [← Nat.pow_mul, ← Nat.pow_add, ← Nat.pow_add] at b6
  have b7 : 2 ^ (bl N + A) ≤ 2 ^ (63 * n + (bl D - 1 + B)) := Nat.pow_le_pow_right (by omega) (by omega)
  rw [← Nat.pow_mul]
  omega
theorem zr_frac1 (V : Nat) (e : Int) : zr (fracN V 1 e) (fracD V 1 e) = zd V e := by
  have h1 := frac_val (n := V) (d := 1) (e := e) (p := e.toNat) (q := (-e).toNat) (by omega)
  rw [Nat.one_mul] at h1
  rw [zd_zr]
  exact zr_congr (fracD_pos _ (by omega)) (Nat.two_pow_pos _) h1
end Go.Proofs.YtadijoeeaineaaaDoor.Rn
