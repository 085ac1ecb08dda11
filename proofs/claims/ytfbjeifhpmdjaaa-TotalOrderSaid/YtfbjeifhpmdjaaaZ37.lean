/-
  Plain: the model's square root, and the root rounded in a direction. Conditions: those that each theorem names.
-/
import Derived.Test.YtfbjeifhpmdjaaaZ36
import Derived.Test.YtfbjeifhpmdjaaaZ11
import Derived.Test.YtfbjeifhpmdjaaaZ10
import Derived.Test.YtfbjeifhpmdjaaaZ34
import Derived.Test.YtfbjeifhpmdjaaaZ27
set_option linter.unusedVariables false
set_option linter.unusedSimpArgs false
namespace Go.Proofs.Ytfbjeifhpmdjaaa.Rn
open Nm

theorem rootFrom_spec (n : Nat) : ∀ todo r : Nat, r * r ≤ n → n < (r + 2 ^ todo) * (r + 2 ^ todo) →
    Ieee.Datum.rootFrom n todo r * Ieee.Datum.rootFrom n todo r ≤ n ∧ n < (Ieee.Datum.rootFrom n todo r + 1) * (Ieee.Datum.rootFrom n todo r + 1)
  | 0, r, h1, h2 => by
    unfold Ieee.Datum.rootFrom
    rw [Nat.pow_zero] at h2
    exact ⟨h1, h2⟩
  | todo + 1, r, h1, h2 => by
    unfold Ieee.Datum.rootFrom
    simp only [Nat.one_shiftLeft]
    have e : r + 2 ^ (todo + 1) = r + 2 ^ todo + 2 ^ todo := by rw [Nat.pow_succ]; omega
    split
    · rename_i h
      exact rootFrom_spec n todo _ h (by rw [← e]; exact h2)
    · rename_i h
      exact rootFrom_spec n todo _ h1 (by omega)
theorem isqrt_spec {n : Nat} (hn : n ≠ 0) : Ieee.Datum.rootFrom n (n.log2 / 2 + 1) 0 * Ieee.Datum.rootFrom n (n.log2 / 2 + 1) 0 ≤ n ∧ n < (Ieee.Datum.rootFrom n (n.log2 / 2 + 1) 0 + 1) * (Ieee.Datum.rootFrom n (n.log2 / 2 + 1) 0 + 1) := by
  refine rootFrom_spec n _ 0 (by omega) ?_
  rw [Nat.zero_add, ← Nat.pow_add]
  have h := (log2_bounds hn).2
  exact Nat.lt_of_lt_of_le h (Nat.pow_le_pow_right (by omega) (by omega))

theorem sq_le_iff {W P r : Nat} (h1 : W * W ≤ P) (h2 : P < (W + 1) * (W + 1)) : r * r ≤ P ↔ r ≤ W := by
  constructor
  · intro h
    rcases Nat.lt_or_ge W r with h3 | h3
    · have := Nat.mul_le_mul (show W + 1 ≤ r from h3) (show W + 1 ≤ r from h3); omega
    · exact h3
  · intro h
    have := Nat.mul_le_mul h h; omega
theorem sq_lt_iff {W P r : Nat} (h1 : W * W ≤ P) (h2 : P < (W + 1) * (W + 1)) : r * r < P ↔ r < W ∨ (r = W ∧ W * W ≠ P) := by
  constructor
  · intro h
    have := (sq_le_iff h1 h2).1 (Nat.le_of_lt h)
    by_cases h3 : r = W
    · subst h3; exact .inr ⟨rfl, by omega⟩
    · exact .inl (by omega)
  · rintro (h | ⟨rfl, h⟩)
    · have h3 : r * r < W * W := Nat.mul_self_lt_mul_self h
      omega
    · omega

/-- The Z of a square root, to the last unit. -/
theorem sqrt_z {X : Nat} (hX : 0 < X) : ∃ Z, (∀ r, 4 * r ≤ Z ↔ r * r ≤ X * K74) ∧ (∀ r, 4 * r < Z ↔ r * r < X * K74) ∧ ∀ d, rootV d false X K74 2 = rnd d false Z := by
  obtain ⟨P, hP⟩ : ∃ P, P = X * K74 := ⟨_, rfl⟩
  have hP0 : P ≠ 0 := by rw [hP]; exact Nat.ne_of_gt (Nat.mul_pos hX K74_pos)
  obtain ⟨W, hW⟩ : ∃ W, W = Ieee.Datum.rootFrom P (P.log2 / 2 + 1) 0 := ⟨_, rfl⟩
  obtain ⟨w1, w2⟩ := isqrt_spec hP0
  rw [← hW] at w1 w2
  obtain ⟨o, ho⟩ : ∃ o, o = decide (W * W ≠ P) := ⟨_, rfl⟩
  have hat : RootAt X K74 2 1074 W o := by
    obtain ⟨c, hc, hK⟩ : ∃ c : Nat, c = 1074 ∧ K74 = 2 ^ c := ⟨1074, rfl, K74_def⟩
    have e1 : X * 2 ^ (c + c) = P * K74 := by rw [hP, hK, Nat.pow_add, Nat.mul_assoc]
    have e2 : ∀ R : Nat, R ^ 2 * (K74 * 2 ^ 0) = R * R * K74 := fun R => by rw [Nat.pow_succ, Nat.pow_one, Nat.pow_zero, Nat.mul_one]
    refine ⟨c + c, 0, by push_cast; omega, ?_, ?_, ?_⟩
    · rw [e1, e2]; exact Nat.mul_le_mul_right _ w1
    · rw [e1, e2]; exact Nat.mul_lt_mul_of_pos_right w2 K74_pos
    · rw [e1, e2, ho]
      refine decide_eq_decide.2 (not_congr ⟨fun h => by rw [h], fun h => Nat.eq_of_mul_eq_mul_right K74_pos h⟩)
  have hbl : 55 ≤ bl W := by
    rcases Nat.lt_or_ge (bl W) 55 with h | h
    · exfalso
      have h1 := lt_pow_bl W
      have h2 : 2 ^ bl W ≤ 2 ^ 54 := Nat.pow_le_pow_right (by omega) (by omega)
      have h3 := Nat.mul_le_mul (show W + 1 ≤ 2 ^ 54 by omega) (show W + 1 ≤ 2 ^ 54 by omega)
      have h4 : P ≥ K74 := by rw [hP]; exact Nat.le_mul_of_pos_left _ hX
      have h5 : (2 : Nat) ^ 54 * 2 ^ 54 ≤ K74 := by
        obtain ⟨c, hc, hK⟩ : ∃ c : Nat, c = 1074 ∧ K74 = 2 ^ c := ⟨1074, rfl, K74_def⟩
        rw [hK, ← Nat.pow_add]; exact Nat.pow_le_pow_right (by omega) (by omega)
      omega
    · exact h
  have hv := fun d => hat.val (by omega) K74_pos (fun _ => hbl) d false
  have hz : zd (2 * W + o.toNat) (-1074 - 1) = 2 * (2 * W + o.toNat) := by
    rw [zd_of (A := 0) (B := 0) (by omega), Nat.pow_zero, Nat.mul_one, zq_one]
  refine ⟨2 * (2 * W + o.toNat), fun r => ?_, fun r => ?_, fun d => by rw [← hv d, hz]⟩
  · rw [← hP, sq_le_iff w1 w2]
    have : o.toNat ≤ 1 := by cases o <;> simp
    omega
  · rw [← hP, sq_lt_iff w1 w2]
    by_cases h : W * W ≠ P
    · rw [ho, decide_eq_true h]; simp [h]; omega
    · rw [ho, decide_eq_false h]; simp [h]; omega

/-- The model's square root is the nearest. -/
theorem sqrt_fin {x : Nat} (hx : x < 18446744073709551616) (fx : mg x < infR) (hs : sg x = false) (h0 : mg x ≠ 0) :
    ∃ Z, Ieee.double.sqrt x = some (Ieee.double.word false (near Z)) ∧ (∀ r, 4 * r ≤ Z ↔ r * r ≤ rv (mg x) * K74) ∧ (∀ r, 4 * r < Z ↔ r * r < rv (mg x) * K74) ∧ ∀ d, rootV d false (rv (mg x)) K74 2 = rnd d false Z := by
  have hX : 0 < rv (mg x) := Nat.pos_of_ne_zero fun e => h0 (rv_eq_zero.1 e)
  obtain ⟨Z, z1, z2, z3⟩ := sqrt_z hX
  refine ⟨Z, ?_, z1, z2, z3⟩
  obtain ⟨m, i, e1, hi, v1⟩ := read_fin hx fx
  have hm : m ≠ 0 := by
    intro h
    rw [h, Nat.zero_mul] at v1
    omega
  unfold Ieee.Format.sqrt
  rw [e1, hs]
  simp only [Ieee.Datum.root, if_neg hm, Bool.false_eq_true, if_false, Option.map_some]
  congr 1
  unfold Ieee.Format.write
  simp only
  rw [nearest_eq, near_eq]
  congr 1
  have e3 : Ieee.double.fractionBits + 2 = 54 := rfl
  rw [e3]
  obtain ⟨m1, hm1⟩ : ∃ m1, m1 = 2 * 54 - m.log2 := ⟨_, rfl⟩
  rw [← hm1]
  obtain ⟨more, hmore⟩ : ∃ more, more = m1 + ((i - m1) % 2).toNat := ⟨_, rfl⟩
  rw [← hmore, Nat.shiftLeft_eq]
  have hn0 : m * 2 ^ more ≠ 0 := Nat.ne_of_gt (Nat.mul_pos (by omega) (two_pow_pos _))
  obtain ⟨w1, w2⟩ := isqrt_spec hn0
  obtain ⟨W, hW⟩ : ∃ W, W = Ieee.Datum.rootFrom (m * 2 ^ more) ((m * 2 ^ more).log2 / 2 + 1) 0 := ⟨_, rfl⟩
  rw [← hW] at w1 w2 ⊢
  have heven : (i - more) % 2 = 0 := by rw [hmore]; omega
  obtain ⟨e, he⟩ : ∃ e, e = (i - (more : Int)) / 2 := ⟨_, rfl⟩
  rw [← he]
  obtain ⟨U, hU⟩ : ∃ U : Nat, U = (i + 1074).toNat := ⟨_, rfl⟩
  rw [← hU] at v1
  have sq : ∀ R : Nat, R ^ 2 = R * R := fun R => by rw [Nat.pow_succ, Nat.pow_one]
  have hat := root_at (V := m) (k := more) (X := U) (N := 2) (r := W) (e := e) (x := i) (by rw [sq]; exact w1) (by rw [sq]; exact w2) (by omega) (by omega)
  rw [v1, sq] at hat
  have hb : 55 ≤ bl W := by
    rcases Nat.lt_or_ge (bl W) 55 with h | h
    · exfalso
      have h1 := lt_pow_bl W
      have h2 : 2 ^ bl W ≤ 2 ^ 54 := Nat.pow_le_pow_right (by omega) (by omega)
      have h3 := Nat.mul_le_mul (show W + 1 ≤ 2 ^ 54 by omega) (show W + 1 ≤ 2 ^ 54 by omega)
      have h4 := (log2_bounds hm).1
      have h5 : 2 ^ m.log2 * 2 ^ more ≤ m * 2 ^ more := Nat.mul_le_mul_right _ h4
      rw [← Nat.pow_add] at h5 h3
      have h6 : (2 : Nat) ^ (54 + 54) ≤ 2 ^ (m.log2 + more) := Nat.pow_le_pow_right (by omega) (by omega)
      omega
    · exact h
  have hv := hat.val (by omega) K74_pos (fun _ => hb) 0 false
  rw [z3 0] at hv
  have hmk : (W * W != m * 2 ^ more) = decide (W * W ≠ m * 2 ^ more) := by
    by_cases h : W * W = m * 2 ^ more
    · rw [h]; simp
    · rw [decide_eq_true h]; simpa using h
  rw [hmk]
  have hp : ∀ z, rnd 0 false z = near z := fun z => by
    unfold rnd pat near
    split
    · rename_i h; exact h.symm
    · rfl
  rw [hp, hp, Int.neg_neg] at hv
  exact hv
end Go.Proofs.Ytfbjeifhpmdjaaa.Rn

/-
  Plain: the quick road of a square root answers the number rounded in the direction. Conditions: those that each theorem names.
-/
set_option linter.unusedVariables false
set_option linter.unusedSimpArgs false
namespace Go.Proofs.Ytfbjeifhpmdjaaa.Rn
open Nm

theorem Ks_K74 : 4 * Ks ≤ K74 := by
  obtain ⟨c, hc, hK⟩ : ∃ c : Nat, c = 1074 ∧ K74 = 2 ^ c := ⟨1074, rfl, K74_def⟩
  obtain ⟨a, ha, hK2⟩ : ∃ a : Nat, a = 174 ∧ Ks = 2 ^ a := ⟨174, rfl, Ks_def⟩
  rw [hK, hK2, show 4 * 2 ^ a = 2 ^ (a + 2) by rw [Nat.pow_add]; omega]
  exact Nat.pow_le_pow_right (by omega) (by omega)
theorem K74_Kg : 4 * K74 ≤ Kg := by
  obtain ⟨c, hc, hK⟩ : ∃ c : Nat, c = 1074 ∧ K74 = 2 ^ c := ⟨1074, rfl, K74_def⟩
  obtain ⟨a, ha, hK2⟩ : ∃ a : Nat, a = 1974 ∧ Kg = 2 ^ a := ⟨1974, rfl, Kg_def⟩
  rw [hK, hK2, show 4 * 2 ^ c = 2 ^ (c + 2) by rw [Nat.pow_add]; omega]
  exact Nat.pow_le_pow_right (by omega) (by omega)

/-- The root lies in the middle. -/
theorem sqrt_mid {x s : Nat} {X : Int} (hx : Fl x X) (mx : Mid X) (h0 : 0 < X) (hs : Ieee.double.sqrt x = some s) :
    ∃ Z f A, s = near Z ∧ mg s < infR ∧ s < 9223372036854775808 ∧ Z ≤ 4 * rv (infR - 2) ∧ Mid (sv s) ∧ rv f ≤ rv s ∧ rv s ≤ rv f + A ∧ 4503599627370496 * A ≤ rv f ∧ rv f * rv f ≤ rv (mg x) * K74 ∧ rv (mg x) * K74 < (rv f + A) * (rv f + A) ∧
      (∀ r, 4 * r ≤ Z ↔ r * r ≤ rv (mg x) * K74) ∧ (∀ r, 4 * r < Z ↔ r * r < rv (mg x) * K74) ∧ ∀ d, rootV d false (rv (mg x)) K74 2 = rnd d false Z := by
  have hxa := hx.abs
  have hX0 : 0 < rv (mg x) := by omega
  have hmx : mg x ≠ 0 := fun h => by rw [h, rv_zero] at hX0; omega
  have hsg : sg x = false := by
    cases h : sg x
    · rfl
    · have := hx.val
      unfold sv at this
      rw [h, if_pos rfl] at this
      omega
  obtain ⟨Z, e, z1, z2, z3⟩ := sqrt_fin hx.lt hx.fin hsg hmx
  rw [e] at hs
  injection hs with hs
  have hnl := near_lt' Z
  have hms : mg s = near Z := by rw [← hs, mg_word hnl]
  have hss : sg s = false := by rw [← hs, sg_word hnl]
  have hsl : s < 18446744073709551616 := by rw [← hs]; exact word_lt hnl
  have hsn : s = near Z := by
    have h1 := of_decide_eq_false (p := 9223372036854775808 ≤ s) hss
    unfold mg at hms
    omega
  have k1 := Ks_K74
  have k2 := K74_Kg
  have m1 := mx.1
  have m2 := mx.2
  rw [hxa] at m1 m2
  obtain ⟨Xn, hXn⟩ : ∃ Xn, Xn = rv (mg x) := ⟨_, rfl⟩
  rw [← hXn] at m1 m2 z1 z2 z3 hX0 ⊢
  have hZ1 : Z < 4 * Kg := by
    rcases Nat.lt_or_ge Z (4 * Kg) with h | h
    · exact h
    · exfalso
      have h1 := (z1 Kg).1 h
      have h2 : Xn * K74 ≤ Kg * K74 := Nat.mul_le_mul_right _ (by omega)
      have h3 : Kg * (4 * K74) ≤ Kg * Kg := Nat.mul_le_mul_left _ k2
      have h4 : Kg * (4 * K74) = 4 * (Kg * K74) := Nat.mul_left_comm _ _ _
      have h5 : 0 < Kg * K74 := Nat.mul_pos (by omega) K74_pos
      omega
  have hZ2 : Z ≤ 4 * rv (infR - 2) := by have := cap_rv; omega
  obtain ⟨n1, n2, n3⟩ := near_lt Z hZ2
  obtain ⟨f, hf⟩ : ∃ f, f = rung (Z / 4) := ⟨_, rfl⟩
  obtain ⟨w1, w2⟩ := rung_spec (Z / 4)
  rw [← hf] at w1 w2 n3
  have y1 : rv f * rv f ≤ Xn * K74 := (z1 _).1 (by omega)
  have y2 : Xn * K74 < rv (f + 1) * rv (f + 1) := by
    rcases Nat.lt_or_ge (Xn * K74) (rv (f + 1) * rv (f + 1)) with h | h
    · exact h
    · have := (z1 _).2 h; omega
  obtain ⟨sf, g1, g2, g3, g4⟩ := rv_dvd f
  obtain ⟨v, hv⟩ : ∃ v, v = f / 4503599627370496 - 1 := ⟨_, rfl⟩
  rw [← hv] at g1 g2 g4
  have hu2 : rv (f + 1) = rv f + 2 ^ v := by rw [g2, g1, Nat.add_mul, Nat.one_mul]
  have hKs : 9007199254740992 ≤ Ks := by
    obtain ⟨a, ha, hK2⟩ : ∃ a : Nat, a = 174 ∧ Ks = 2 ^ a := ⟨174, rfl, Ks_def⟩
    rw [hK2, show (9007199254740992 : Nat) = 2 ^ 53 by decide]
    exact Nat.pow_le_pow_right (by omega) (by omega)
  -- not small
  have hlo : Ks < rv f := by
    rcases Nat.lt_or_ge Ks (rv f) with h | h
    · exact h
    · exfalso
      have h1 : rv (f + 1) ≤ 2 * Ks := by
        by_cases h2 : v = 0
        · rw [h2, Nat.pow_zero] at hu2; omega
        · have h3 := Nat.mul_le_mul_right (2 ^ v) (g4 h2)
          rw [← g1] at h3
          omega
      have h4 := Nat.mul_le_mul h1 h1
      have h5 : Ks * (4 * Ks) ≤ Xn * K74 := Nat.mul_le_mul (by omega) k1
      have h6 : 2 * Ks * (2 * Ks) = Ks * (4 * Ks) := by
        rw [show 4 * Ks = 2 * (2 * Ks) by omega]; ac_rfl
      omega
  have hv0 : v ≠ 0 := by
    intro h
    rw [h, Nat.pow_zero] at g1 g2
    omega
  have hA : 4503599627370496 * 2 ^ v ≤ rv f := by rw [g1]; exact Nat.mul_le_mul_right _ (g4 hv0)
  -- not great
  have hhi : rv (f + 1) < Kg := by
    rcases Nat.lt_or_ge (rv (f + 1)) Kg with h | h
    · exact h
    · exfalso
      have h1 : Kg ≤ 2 * rv f := by omega
      have h2 : Kg * Kg ≤ 2 * rv f * (2 * rv f) := Nat.mul_le_mul h1 h1
      have h3 : 2 * rv f * (2 * rv f) = 4 * (rv f * rv f) := by
        rw [show (4 : Nat) = 2 * 2 from rfl]; ac_rfl
      have h4 : Kg * (4 * K74) ≤ Kg * Kg := Nat.mul_le_mul_left _ k2
      have h5 : Kg * (4 * K74) = 4 * (Kg * K74) := Nat.mul_left_comm _ _ _
      have h6 : Xn * K74 < Kg * K74 := Nat.mul_lt_mul_of_pos_right m2 K74_pos
      omega
  have r1 : rv f ≤ rv s := rv_le (by omega)
  have r2 : rv s ≤ rv (f + 1) := rv_le (by omega)
  have hab : (sv s).natAbs = rv s := by rw [sv_abs, hms, hsn]
  refine ⟨Z, f, 2 ^ v, hsn, by rw [hms]; exact n1, by omega, hZ2, ⟨by omega, by omega⟩, r1, by omega, hA, y1, by rw [← hu2]; exact y2, z1, z2, z3⟩

set_option maxHeartbeats 4000000 in
theorem sqrt_quick {x s p : Nat} {X : Int} (hx : Fl x X) (mx : Mid X) (h0 : 0 < X) (hs : Ieee.double.sqrt x = some s) (hp : Ieee.double.mul s s = some p) (fp : mg p < infR) (mp : Mid (sv p)) :
    ∃ m a b M E, MissedOps s s p m ∧ Ieee.double.sub x p = some a ∧ Ieee.double.sub a m = some b ∧ Fl m M ∧ Fl b E ∧ ∀ d, rootV d false (rv (mg x)) K74 2 = kp (key s + adj d E) := by
  obtain ⟨Z, f, A, hsn, fs, hsl, hZ, ms, r1, r2, hA, y1, y2, z1, z2, z3⟩ := sqrt_mid hx mx h0 hs
  have hF : Fl s (sv s) := Fl.of (by omega) fs
  have hsv : sv s = (rv s : Int) := by
    unfold sv sg mg
    rw [decide_eq_false (by omega), if_neg (by simp), Nat.mod_eq_of_lt hsl]
  obtain ⟨r, m, hr, hr0, hrg, om, fpr, fm, -⟩ := mul_quick hF hF ms ms hp fp mp
  have hK := K74_pos
  rw [K74_i, hsv] at hr
  have hrp : 0 < r := by
    rcases Int.lt_or_le 0 r with h | h
    · exact h
    · exfalso
      have h1 : r < 0 := by omega
      have h2 : r * (K74 : Int) < 0 := Int.mul_neg_of_neg_of_pos h1 (by omega)
      have h3 : (0 : Int) ≤ (rv s : Int) * (rv s : Int) := Int.mul_nonneg (by omega) (by omega)
      omega
  obtain ⟨rn', hrn⟩ : ∃ k : Nat, r = (k : Int) := ⟨r.toNat, by omega⟩
  have hrv : rn' * K74 = rv s * rv s := by
    rw [hrn] at hr
    have h1 : ((rn' * K74 : Nat) : Int) = ((rv s * rv s : Nat) : Int) := by push_cast; exact hr
    omega
  obtain ⟨Xn, hXn⟩ : ∃ Xn, Xn = rv (mg x) := ⟨_, rfl⟩
  have hxa := hx.abs
  rw [← hXn] at y1 y2 z1 z2 z3 hxa ⊢
  have hXe : X = (Xn : Int) := by omega
  obtain ⟨F, hFd⟩ : ∃ F, F = rv f := ⟨_, rfl⟩
  rw [← hFd] at r1 r2 hA y1 y2
  have q0 : (F + A) * (F + A) ≤ F * F + 3 * (F * A) := by
    have e : (F + A) * (F + A) = F * F + 2 * (F * A) + A * A := by
      rw [Nat.add_mul, Nat.mul_add, Nat.mul_add, Nat.mul_comm A F]; omega
    have : A * A ≤ F * A := Nat.mul_le_mul_right _ (by omega)
    omega
  have q1 : 4503599627370496 * (F * A) ≤ F * F := by
    rw [Nat.mul_left_comm]; exact Nat.mul_le_mul_left _ hA
  have q2 : F * F ≤ rn' * K74 := by rw [hrv]; exact Nat.mul_le_mul r1 r1
  have q3 : rn' * K74 ≤ (F + A) * (F + A) := by rw [hrv]; exact Nat.mul_le_mul r2 r2
  have c1 : 4503599627370496 * rn' ≤ 4503599627370499 * Xn := by
    have : (4503599627370496 * rn') * K74 ≤ (4503599627370499 * Xn) * K74 := by rw [Nat.mul_assoc, Nat.mul_assoc]; omega
    exact Nat.le_of_mul_le_mul_right this hK
  have c2 : 4503599627370496 * Xn ≤ 4503599627370499 * rn' := by
    have : (4503599627370496 * Xn) * K74 ≤ (4503599627370499 * rn') * K74 := by rw [Nat.mul_assoc, Nat.mul_assoc]; omega
    exact Nat.le_of_mul_le_mul_right this hK
  clear q0 q1 q2 q3
  have hPr : 9007199254740992 * (rn r - r).natAbs ≤ r.natAbs := by
    have h1 := ex_hi r.natAbs
    have h2 := rn_err h1
    by_cases h3 : ex r.natAbs = 0
    · rw [h3, Nat.pow_zero] at h2; omega
    · have h4 := ex_lo h3
      omega
  have hrep : RpZ (X - rn r) := sterbZ hx.rp (rn_rp _) (by omega)
  have bX := mx.2
  obtain ⟨a, oa, fa⟩ := hx.sub fpr (nr_cap (by omega))
  rw [rn_of hrep] at fa
  obtain ⟨b, ob, fb⟩ := fa.sub fm (nr_cap (by omega))
  rw [show X - rn r - (r - rn r) = X - r by omega] at fb
  refine ⟨m, a, b, _, _, om, oa, ob, fm, fb, fun d => ?_⟩
  obtain ⟨p1, p2⟩ := rn_pos (S := X - r)
  rw [z3 d]
  have t1 : 4 * rv (near Z) < Z ↔ rn' < Xn := by
    rw [z2, ← hsn, ← hrv]
    exact ⟨fun h => Nat.lt_of_mul_lt_mul_right h, fun h => Nat.mul_lt_mul_of_pos_right h hK⟩
  have t2 : Z < 4 * rv (near Z) ↔ Xn < rn' := by
    have h1 : 4 * rv (near Z) ≤ Z ↔ rn' ≤ Xn := by
      rw [z1, ← hsn, ← hrv]
      exact ⟨fun h => Nat.le_of_mul_le_mul_right h hK, fun h => Nat.mul_le_mul_right _ h⟩
    omega
  refine rnd_nudge d false hZ (K := key s) ?_ ?_ ?_
  · rw [if_neg (by simp), ← hsn]
    unfold key sg mg
    rw [decide_eq_false (by omega), if_neg (by simp), Nat.mod_eq_of_lt hsl]
  · rw [if_neg (by simp), t1, p1]; omega
  · rw [if_neg (by simp), t2, p2]; omega
end Go.Proofs.Ytfbjeifhpmdjaaa.Rn

/-
  Plain: a number rounded down, up and to the nearest lies about the exact one as closely as it can. Conditions: those that each theorem names.
-/
set_option linter.unusedVariables false
set_option linter.unusedSimpArgs false
namespace Go.Proofs.Ytfbjeifhpmdjaaa.Rn
open Nm

theorem rv_inf : rv infR = 2 ^ 1024 * K74 := by
  obtain ⟨c, hc, hK⟩ : ∃ c : Nat, c = 1074 ∧ K74 = 2 ^ c := ⟨1074, rfl, K74_def⟩
  obtain ⟨b, hb⟩ : ∃ b : Nat, b = 1024 := ⟨_, rfl⟩
  rw [← hb, hK, ← Nat.pow_add, infR_val, show (9218868437227405312 : Nat) = (b + c - 52) * 4503599627370496 + 4503599627370496 by omega, rv_form (b + c - 52) 4503599627370496 (by omega) (fun _ => Nat.le_refl _), show (4503599627370496 : Nat) = 2 ^ 52 by decide, ← Nat.pow_add]
  congr 1
  omega

/-- A magnitude, rounded: toward 0, away from it, to the nearest. -/
theorem mag_cases (Z : Nat) :
    (∃ f, f < infR ∧ Z = 4 * rv f ∧ (∀ d neg, rr d neg Z = f)) ∨
    (∃ f n, f + 1 ≤ infR ∧ 4 * rv f < Z ∧ (f + 1 < infR → Z < 4 * rv (f + 1)) ∧ rr (-1) false Z = f ∧ rr 1 true Z = f ∧ rr 1 false Z = f + 1 ∧ rr (-1) true Z = f + 1 ∧ (∀ neg, rr 0 neg Z = n) ∧ (n = f ∨ n = f + 1) ∧
      (Z < 2 * (rv f + rv (f + 1)) → n = f) ∧ (2 * (rv f + rv (f + 1)) < Z → n = f + 1) ∧ (Z = 2 * (rv f + rv (f + 1)) → n % 2 = 0)) := by
  have hi := infR_val
  obtain ⟨w1, w2⟩ := rung_spec (Z / 4)
  obtain ⟨f, hf⟩ : ∃ f, f = rung (Z / 4) := ⟨_, rfl⟩
  have haw : ∀ d neg, away d neg Z = if Z = 4 * rv f then false else if d = 1 then !neg else if d = -1 then neg else decide (2 * (rv f + rv (f + 1)) < Z) || (decide (Z = 2 * (rv f + rv (f + 1))) && decide (f % 2 = 1)) := fun d neg => by unfold away; rw [← hf]
  have hrr : ∀ d neg, rr d neg Z = if (d = 1 ∧ neg = true) ∨ (d = -1 ∧ neg = false) then min f (infR - 1) else min (if away d neg Z then f + 1 else f) infR := fun d neg => by unfold rr; rw [← hf]
  rw [← hf] at w1 w2
  have hlt := rv_lt_succ f
  by_cases hex : Z = 4 * rv f
  · by_cases hfi : f < infR
    · refine .inl ⟨f, hfi, hex, fun d neg => ?_⟩
      rw [hrr, haw, if_pos hex]
      split
      · omega
      · simp; omega
    · right
      have hm : rv infR ≤ rv f := rv_le (by omega)
      have hm2 : rv (infR - 1) < rv infR := rv_lt (by omega)
      have hm3 : infR - 1 + 1 = infR := by omega
      refine ⟨infR - 1, infR, by omega, by omega, by omega, ?_, ?_, ?_, ?_, ?_, .inr hm3.symm, ?_, ?_, ?_⟩
      · rw [hrr, if_pos (.inr ⟨rfl, rfl⟩)]; omega
      · rw [hrr, if_pos (.inl ⟨rfl, rfl⟩)]; omega
      · rw [hrr, if_neg (by simp), haw, if_pos hex]; simp; omega
      · rw [hrr, if_neg (by simp), haw, if_pos hex]; simp; omega
      · intro neg; rw [hrr, if_neg (by simp), haw, if_pos hex]; simp; omega
      · rw [hm3]; omega
      · intro _; omega
      · rw [hm3]; omega
  · by_cases hfi : f < infR
    · right
      obtain ⟨n, hn⟩ : ∃ n, n = if (decide (2 * (rv f + rv (f + 1)) < Z) || (decide (Z = 2 * (rv f + rv (f + 1))) && decide (f % 2 = 1))) = true then f + 1 else f := ⟨_, rfl⟩
      have hnc : (2 * (rv f + rv (f + 1)) < Z ∧ n = f + 1) ∨ (Z < 2 * (rv f + rv (f + 1)) ∧ n = f) ∨ (Z = 2 * (rv f + rv (f + 1)) ∧ n = f + 1 ∧ f % 2 = 1) ∨ (Z = 2 * (rv f + rv (f + 1)) ∧ n = f ∧ f % 2 = 0) := by
        rcases Nat.lt_trichotomy (2 * (rv f + rv (f + 1))) Z with h | h | h
        · left; refine ⟨h, ?_⟩; rw [hn, decide_eq_true h, Bool.true_or, if_pos rfl]
        · by_cases hp : f % 2 = 1
          · right; right; left; refine ⟨h.symm, ?_, hp⟩; rw [hn, decide_eq_false (by omega), decide_eq_true h.symm, decide_eq_true hp]; rfl
          · right; right; right; refine ⟨h.symm, ?_, by omega⟩; rw [hn, decide_eq_false (by omega), decide_eq_true h.symm, decide_eq_false hp]; rfl
        · right; left; refine ⟨h, ?_⟩; rw [hn, decide_eq_false (by omega), decide_eq_false (show ¬ Z = _ by omega)]; rfl
      refine ⟨f, n, by omega, by omega, by omega, ?_, ?_, ?_, ?_, ?_, by omega, by omega, by omega, by omega⟩
      · rw [hrr, if_pos (.inr ⟨rfl, rfl⟩)]; omega
      · rw [hrr, if_pos (.inl ⟨rfl, rfl⟩)]; omega
      · rw [hrr, if_neg (by simp), haw, if_neg hex]; simp; omega
      · rw [hrr, if_neg (by simp), haw, if_neg hex]; simp; omega
      · intro neg
        rw [hrr, if_neg (by simp), haw, if_neg hex]
        simp only [show ¬((0 : Int) = 1) by omega, show ¬((0 : Int) = -1) by omega, if_false]
        rw [← hn]
        omega
    · right
      have hm : rv infR ≤ rv f := rv_le (by omega)
      have hm2 : rv (infR - 1) < rv infR := rv_lt (by omega)
      have hge : ∀ b : Bool, infR ≤ (if b = true then f + 1 else f) := fun b => by
        cases b
        · exact Nat.le_of_not_lt hfi
        · exact Nat.le_trans (Nat.le_of_not_lt hfi) (Nat.le_succ f)
      have hm3 : infR - 1 + 1 = infR := by omega
      refine ⟨infR - 1, infR, by omega, by omega, by omega, ?_, ?_, ?_, ?_, ?_, .inr hm3.symm, ?_, ?_, ?_⟩
      · rw [hrr, if_pos (.inr ⟨rfl, rfl⟩)]; omega
      · rw [hrr, if_pos (.inl ⟨rfl, rfl⟩)]; omega
      · rw [hrr, if_neg (by simp), hm3]; exact Nat.min_eq_right (hge _)
      · rw [hrr, if_neg (by simp), hm3]; exact Nat.min_eq_right (hge _)
      · intro neg; rw [hrr, if_neg (by simp)]; exact Nat.min_eq_right (hge _)
      · rw [hm3]; omega
      · intro _; omega
      · rw [hm3]; omega

/-- The next pattern. -/
def stepP (b : Nat) : Nat := if b = 9223372036854775809 ∨ b = 9223372036854775808 then 0 else if 9223372036854775808 < b then b - 1 else b + 1
/-- The number of an end, in units of 2^-1074: an infinity's is the next one beyond the greatest. -/
def endV (b : Nat) : Int := if sg b then -(rv (mg b) : Int) else (rv (mg b) : Int)

/-- What tight asks: T is the exact number times 2^1074 D; lo, hi and near stand about it. -/
structure Tg (T D : Int) (LO HI NE : Nat) : Prop where
  l1 : LO < 18446744073709551616
  h1 : HI < 18446744073709551616
  n1 : NE < 18446744073709551616
  l2 : mg LO ≤ infR
  h2 : mg HI ≤ infR
  l3 : LO ≠ infR
  h3 : HI ≠ minf
  l4 : LO ≠ 9223372036854775808
  h4 : HI ≠ 9223372036854775808
  or_ : (LO = HI ∧ NE = LO ∧ mg LO < infR ∧ endV LO * D = T) ∨
    (LO ≠ HI ∧ stepP LO = HI ∧ (NE = LO ∨ NE = HI) ∧ (mg LO < infR → endV LO * D < T) ∧ (mg HI < infR → T < endV HI * D) ∧
      (2 * T < (endV LO + endV HI) * D → NE = LO) ∧ ((endV LO + endV HI) * D < 2 * T → NE = HI) ∧ (2 * T = (endV LO + endV HI) * D → NE % 2 = 0))

set_option maxHeartbeats 2000000 in
theorem tg_of {s : Bool} {N D : Nat} (hD : 0 < D) (hs : N = 0 → s = false) :
    Tg (sn s N * (K74 : Int)) (D : Int) (rnd (-1) s (zr N D)) (rnd 1 s (zr N D)) (rnd 0 s (zr N D)) := by
  have hi := infR_val
  have hmi := minf_val
  obtain ⟨Z, hZ⟩ : ∃ Z, Z = zr N D := ⟨_, rfl⟩
  have zle : ∀ T, 2 * T ≤ Z ↔ T * D ≤ 2 * (N * K74) := fun T => by rw [hZ, zr_eq, zq_le hD, K75_74]; rw [show N * (2 * K74) = 2 * (N * K74) from Nat.mul_left_comm _ _ _]
  have zgt : ∀ T, 2 * T < Z ↔ T * D < 2 * (N * K74) := fun T => by rw [hZ, zr_eq, zq_gt hD, K75_74]; rw [show N * (2 * K74) = 2 * (N * K74) from Nat.mul_left_comm _ _ _]
  rw [← hZ]
  have hZ0 : s = true → Z ≠ 0 := fun h e => by
    have hN : N ≠ 0 := fun e2 => by rw [hs e2] at h; cases h
    have := (zgt 0).2 (by have := Nat.mul_pos (show 0 < N by omega) K74_pos; omega)
    omega
  obtain ⟨P, hP⟩ : ∃ P, P = N * K74 := ⟨_, rfl⟩
  have hT : sn s N * (K74 : Int) = if s then -(P : Int) else (P : Int) := by
    rw [sn_mul, ← hP]; rfl
  rw [hT]
  rw [← hP] at zle zgt
  have mgp : ∀ r, r ≤ infR → mg r = r := fun r h => by unfold mg; omega
  have sgp : ∀ r, r ≤ infR → sg r = false := fun r h => by unfold sg; exact decide_eq_false (by omega)
  have mgn : ∀ r, r ≤ infR → mg (9223372036854775808 + r) = r := fun r h => by unfold mg; omega
  have sgn : ∀ r, r ≤ infR → sg (9223372036854775808 + r) = true := fun r h => by unfold sg; exact decide_eq_true (by omega)
  have evp : ∀ r, r ≤ infR → endV r = (rv r : Int) := fun r h => by unfold endV; rw [sgp r h, mgp r h, if_neg (by simp)]
  have evn : ∀ r, r ≤ infR → endV (9223372036854775808 + r) = -(rv r : Int) := fun r h => by unfold endV; rw [sgn r h, mgn r h, if_pos rfl]
  have pp : ∀ r, pat false r = r := fun r => by unfold pat; split; omega; rfl
  have pn : ∀ r, r ≠ 0 → pat true r = 9223372036854775808 + r := fun r h => by unfold pat; rw [if_neg h, if_pos rfl]
  have p0 : pat true 0 = 0 := rfl
  have cast : ∀ a b : Nat, ((a : Int) * (D : Int) < 2 * (b : Int) ↔ a * D < 2 * b) := fun a b => by
    have : ((a * D : Nat) : Int) = (a : Int) * D := Int.natCast_mul a D
    omega
  rcases mag_cases Z with ⟨f, hf, hex, hrr⟩ | ⟨f, n, hf, z1, z2, r1, r2, r3, r4, r5, hn, n1, n2, n3⟩
  · have hPD : rv f * D = P := by
      have a1 := (zle (2 * rv f)).1 (by omega)
      have a2 : ¬ 2 * rv f * D < 2 * P := fun h => by have := (zgt (2 * rv f)).2 h; omega
      rw [Nat.mul_assoc] at a1 a2
      omega
    have hPDi : (rv f : Int) * (D : Int) = (P : Int) := by rw [← hPD]; exact (Int.natCast_mul _ _).symm
    unfold rnd
    rw [hrr, hrr, hrr]
    cases s
    · rw [pp, if_neg (by simp)]
      refine ⟨by omega, by omega, by omega, by rw [mgp f (by omega)]; omega, by rw [mgp f (by omega)]; omega, by omega, by omega, by omega, by omega, .inl ⟨rfl, rfl, by rw [mgp f (by omega)]; exact hf, ?_⟩⟩
      rw [evp f (by omega)]; exact hPDi
    · have hf0 : f ≠ 0 := fun e => by rw [e, rv_zero] at hex; exact hZ0 rfl hex
      rw [pn f hf0, if_pos rfl]
      refine ⟨by omega, by omega, by omega, by rw [mgn f (by omega)]; omega, by rw [mgn f (by omega)]; omega, by omega, by omega, by omega, by omega, .inl ⟨rfl, rfl, by rw [mgn f (by omega)]; exact hf, ?_⟩⟩
      rw [evn f (by omega), Int.neg_mul, hPDi]
  · have a1 : rv f * D < P := by
      have := (zgt (2 * rv f)).1 (by omega)
      rw [Nat.mul_assoc] at this
      omega
    have a2 : f + 1 < infR → P < rv (f + 1) * D := fun h => by
      have h1 : ¬ 2 * rv (f + 1) * D ≤ 2 * P := fun h2 => by
        have := (zle (2 * rv (f + 1))).2 h2
        have := z2 h
        omega
      rw [Nat.mul_assoc] at h1
      omega
    have a1i : (rv f : Int) * (D : Int) < (P : Int) := by rw [← Int.natCast_mul]; omega
    have a2i : f + 1 < infR → (P : Int) < (rv (f + 1) : Int) * (D : Int) := fun h => by have := a2 h; rw [← Int.natCast_mul]; omega
    obtain ⟨M, hM⟩ : ∃ M, M = rv f + rv (f + 1) := ⟨_, rfl⟩
    rw [← hM] at n1 n2 n3
    have hMi : (rv f : Int) + (rv (f + 1) : Int) = (M : Int) := by rw [hM]; push_cast; rfl
    have m1 : 2 * (P : Int) < (M : Int) * D → n = f := fun h => by
      rw [← Int.natCast_mul] at h
      refine n1 ?_
      rcases Nat.lt_or_ge Z (2 * M) with h2 | h2
      · exact h2
      · have := (zle M).1 h2; omega
    have m2 : (M : Int) * D < 2 * (P : Int) → n = f + 1 := fun h => by
      rw [← Int.natCast_mul] at h
      exact n2 ((zgt M).2 (by omega))
    have m3 : 2 * (P : Int) = (M : Int) * D → n % 2 = 0 := fun h => by
      rw [← Int.natCast_mul] at h
      refine n3 ?_
      have := (zle M).2 (by omega)
      have h2 : ¬ 2 * M < Z := fun h3 => by have := (zgt M).1 h3; omega
      omega
    unfold rnd
    cases s
    · rw [r1, r3, r5, pp, pp, pp, if_neg (by simp)]
      refine ⟨by omega, by omega, by omega, by rw [mgp f (by omega)]; omega, by rw [mgp (f + 1) hf]; omega, by omega, by omega, by omega, by omega, .inr ⟨by omega, ?_, hn, ?_, ?_, ?_, ?_, ?_⟩⟩
      · unfold stepP; rw [if_neg (by omega), if_neg (by omega)]
      · intro _; rw [evp f (by omega)]; exact a1i
      · rw [mgp (f + 1) hf, evp (f + 1) hf]; exact a2i
      · rw [evp f (by omega), evp (f + 1) hf, hMi]; exact m1
      · rw [evp f (by omega), evp (f + 1) hf, hMi]; exact m2
      · rw [evp f (by omega), evp (f + 1) hf, hMi]; exact m3
    · rw [r4, r2, r5, pn (f + 1) (by omega), if_pos rfl]
      have hMn : -(rv (f + 1) : Int) + -(rv f : Int) = -(M : Int) := by omega
      have b1 : -(P : Int) < -(rv f : Int) * D := by rw [Int.neg_mul]; omega
      have b2 : f + 1 < infR → -(rv (f + 1) : Int) * D < -(P : Int) := fun h => by have := a2i h; rw [Int.neg_mul]; omega
      have c1 : 2 * -(P : Int) < -(M : Int) * D → n = f + 1 := fun h => m2 (by rw [Int.neg_mul] at h; omega)
      have c2 : -(M : Int) * D < 2 * -(P : Int) → n = f := fun h => m1 (by rw [Int.neg_mul] at h; omega)
      have c3 : 2 * -(P : Int) = -(M : Int) * D → n % 2 = 0 := fun h => m3 (by rw [Int.neg_mul] at h; omega)
      by_cases hf0 : f = 0
      · subst hf0
        rw [p0]
        have hnn : n = 0 ∨ n = 1 := by omega
        have en : pat true n = if n = 0 then 0 else 9223372036854775809 := by
          rcases hnn with h | h
          · rw [h]; rfl
          · rw [h]; rfl
        have e0 : endV 0 = -(rv 0 : Int) := by rw [rv_zero]; decide
        rw [en]
        refine ⟨by omega, by omega, by split <;> omega, by rw [mgn (0 + 1) hf]; omega, by decide, by omega, by omega, by omega, by omega, .inr ⟨by omega, ?_, ?_, ?_, ?_, ?_, ?_, ?_⟩⟩
        · unfold stepP; rw [if_pos (.inl rfl)]
        · rcases hnn with h | h
          · right; rw [if_pos h]
          · left; rw [if_neg (by omega)]
        · rw [mgn (0 + 1) hf, evn (0 + 1) hf]; exact b2
        · intro _; rw [e0]; exact b1
        · rw [evn (0 + 1) hf, e0, hMn]; intro h; rw [c1 h]; rfl
        · rw [evn (0 + 1) hf, e0, hMn]; intro h; rw [c2 h]; rfl
        · rw [evn (0 + 1) hf, e0, hMn]; intro h
          have := c3 h
          rw [if_pos (by omega)]
      · rw [pn f hf0, pn n (by omega)]
        refine ⟨by omega, by omega, by omega, by rw [mgn (f + 1) hf]; omega, by rw [mgn f (by omega)]; omega, by omega, by omega, by omega, by omega, .inr ⟨by omega, ?_, by omega, ?_, ?_, ?_, ?_, ?_⟩⟩
        · unfold stepP; rw [if_neg (by omega), if_pos (by omega)]; omega
        · rw [mgn (f + 1) hf, evn (f + 1) hf]; exact b2
        · intro _; rw [evn f (by omega)]; exact b1
        · rw [evn (f + 1) hf, evn f (by omega), hMn]; intro h; rw [c1 h]
        · rw [evn (f + 1) hf, evn f (by omega), hMn]; intro h; rw [c2 h]
        · rw [evn (f + 1) hf, evn f (by omega), hMn]; intro h
          have := c3 h
          omega
end Go.Proofs.Ytfbjeifhpmdjaaa.Rn

/-
  Plain: terms that are taken beside the document's ratio of them; the sum by a number. Conditions: those that each theorem names.
-/
namespace Go.Proofs.Ytfbjeifhpmdjaaa
open Nm Rn
set_option linter.unusedVariables false
set_option linter.unusedSimpArgs false

theorem fracN_le4 (n d : Nat) : fracN n d 0 ≤ n := by
  unfold fracN
  split
  · omega
  · have h1 : ((0 : Int) + tz n - tz d).toNat ≤ tz n := by omega
    have h2 := Nat.pow_le_pow_right (n := 2) (by omega) h1
    have h3 := Nat.mul_le_mul_left (n / 2 ^ tz n) h2
    rwa [tz_div] at h3
theorem fracD_le4 {n d : Nat} (hd : d ≠ 0) : fracD n d 0 ≤ d := by
  unfold fracD
  split
  · omega
  · have h1 : (-((0 : Int) + tz n - tz d)).toNat ≤ tz d := by omega
    have h2 := Nat.pow_le_pow_right (n := 2) (by omega) h1
    have h3 := Nat.mul_le_mul_left (d / 2 ^ tz d) h2
    rwa [tz_div] at h3
section
variable {ts : List Tm}
def tgS (ts : List Tm) (i : Nat) : Sm := (ts.take i).foldl tkN Sm.nil
theorem tgS_ok (ht : ∀ q ∈ ts, q.1 < 18446744073709551616 ∧ q.2.1 < 18446744073709551616) (i : Nat) : (tgS ts i).Ok := fold_ok (fun S q => tkN_ok) _ _ Sm.Ok.nil (fun q hq => ht q (List.mem_of_mem_take hq))
theorem tgS_state {K : Nat} (hK : K ≤ 3000) : (tgS ts K).state = 0 := by
  have hl : (ts.take K).length ≤ 3000 := by rw [List.length_take]; omega
  obtain ⟨g1, g2, g3, g4, g5⟩ := fold_lay (f := tkN) (v := tval) (ts.take K) Sm.nil (fun S q _ => tkN_eq S q) rfl rfl rfl (by show 0 + _ ≤ _; omega)
  unfold Sm.state
  rw [show tgS ts K = (ts.take K).foldl tkN Sm.nil from rfl, g2, g3, g4]; rfl
theorem tgS_nw (ht : ∀ q ∈ ts, q.1 < 18446744073709551616 ∧ q.2.1 < 18446744073709551616) {K : Nat} (hK : K ≤ 3000) : nw (tgS ts K).T.natAbs ≤ 136 := nw_sum ((tgS_ok ht K).fit (tgS_state hK))
theorem tgS_next {i : Nat} {q : Tm} (h : ts[i]? = some q) : tgS ts (i + 1) = (tgS ts i).take (numP q.1) (numP q.2.1) q.2.2 := fold_next (f := tkN) h
theorem tgS_T {i : Nat} {q : Tm} (h : ts[i]? = some q) : (tgS ts (i + 1)).T = (tgS ts i).T + tval q := by
  have h1 : tgS ts (i + 1) = tkN (tgS ts i) q := fold_next (f := tkN) h
  rw [h1, tkN_eq]; rfl
end
theorem tval_nw (q : Tm) : nw (tval q).natAbs ≤ 136 := by
  have hb := BG_mm
  have hp := BG_pos
  refine nw_sum (Nat.lt_of_le_of_lt ?_ hb)
  have : (tval q).natAbs ≤ BG := by
    unfold tval
    split
    · exact two_le (numP_fin _) (numP_fin _)
    · exact one_le (numP_fin _)
  omega
theorem sgnZ_dr {T : Int} {s : Bool} {N D : Nat} (h : DR T s N D) : sgnZ s N = if T < 0 then -1 else if T = 0 then 0 else 1 := by
  have h1 := h.zero
  have h2 := h.sign
  unfold sgnZ
  by_cases h0 : N = 0
  · rw [if_pos h0, if_neg (by have := h1.1 h0; omega), if_pos (h1.1 h0)]
  · rw [if_neg h0, h2]
    have : T ≠ 0 := fun e => h0 (h1.2 e)
    by_cases hT : T < 0
    · rw [decide_eq_true hT, if_pos rfl, if_pos hT]
    · rw [decide_eq_false hT, if_neg (by simp), if_neg hT, if_neg this]
theorem tg_self {T : Int} {s : Bool} {N D : Nat} (h : DR T s N D) : Tg (sn s N * (K74 : Int)) (D : Int) (rT (-1) T) (rT 1 T) (rT 0 T) := by
  have := tg_of (s := s) (N := N) h.pos h.2.2
  rwa [h.rnd, h.rnd, h.rnd] at this
theorem quo_q {T : Int} {s : Bool} {N D m : Nat} (h : DR T s N D) (hm : 0 < m) (d : Int) :
    rnd d ((s != false) && decide (N * fracD m 1 0 ≠ 0)) (zr (fracN (N * fracD m 1 0) (D * fracN m 1 0) 0) (fracD (N * fracD m 1 0) (D * fracN m 1 0) 0)) = qT d T m := by
  have e1 : fracN m 1 0 = m * fracD m 1 0 := by
    have := frac_val (n := m) (d := 1) (p := 0) (q := 0) (e := 0) rfl
    simpa using this
  have hD := h.pos
  have hd := fracD_pos (n := m) (d := 1) 0 (by omega)
  have hN : 0 < fracN m 1 0 := by rw [e1]; exact Nat.mul_pos hm hd
  have hK := Nat.mul_pos K74_pos K74_pos
  have hQ := fracD_pos (n := N * fracD m 1 0) (d := D * fracN m 1 0) 0 (Nat.ne_of_gt (Nat.mul_pos hD hN))
  have e2 := frac_val (n := N * fracD m 1 0) (d := D * fracN m 1 0) (p := 0) (q := 0) (e := 0) rfl
  have e3 := h.abs
  unfold qT
  have hs : ((s != false) && decide (N * fracD m 1 0 ≠ 0)) = decide (T < 0) := by
    rw [h.sign]
    by_cases h0 : N = 0
    · have := h.zero.1 h0
      subst h0 this
      simp
    · have : N * fracD m 1 0 ≠ 0 := Nat.ne_of_gt (Nat.mul_pos (by omega) hd)
      rw [decide_eq_true this]
      simp
  rw [hs, zr_eq, zr_eq]
  congr 1
  refine zq_congr hQ (Nat.mul_pos hm hK) ?_
  generalize fracN (N * fracD m 1 0) (D * fracN m 1 0) 0 = NQ at *
  generalize fracD (N * fracD m 1 0) (D * fracN m 1 0) 0 = DQ at *
  rw [e1] at e2
  clear hs e1 hN
  generalize fracD m 1 0 = D' at *
  generalize K74 * K74 = K2 at *
  have h4 : NQ * (m * K2) = T.natAbs * DQ := by
    refine Nat.eq_of_mul_eq_mul_right (Nat.mul_pos hD hd) ?_
    calc NQ * (m * K2) * (D * D') = NQ * (D * (m * D') * 2 ^ 0) * K2 := by rw [Nat.pow_zero]; simp only [Nat.mul_one]; ac_rfl
      _ = N * D' * 2 ^ 0 * DQ * K2 := by rw [e2]
      _ = N * K2 * (DQ * D') := by rw [Nat.pow_zero, Nat.mul_one]; ac_rfl
      _ = T.natAbs * D * (DQ * D') := by rw [e3]
      _ = T.natAbs * DQ * (D * D') := by ac_rfl
  calc NQ * K75 * (m * K2) = NQ * (m * K2) * K75 := by ac_rfl
    _ = T.natAbs * DQ * K75 := by rw [h4]
    _ = T.natAbs * K75 * DQ := by ac_rfl
theorem tg_quo {T : Int} {s : Bool} {N D m : Nat} (h : DR T s N D) (hm : 0 < m) :
    Tg (sn ((s != false) && decide (N * fracD m 1 0 ≠ 0)) (fracN (N * fracD m 1 0) (D * fracN m 1 0) 0) * (K74 : Int)) ((fracD (N * fracD m 1 0) (D * fracN m 1 0) 0 : Nat) : Int) (qT (-1) T m) (qT 1 T m) (qT 0 T m) := by
  have hN : 0 < fracN m 1 0 := by
    rcases Nat.eq_zero_or_pos (fracN m 1 0) with h | h
    · have := fracN_eq_zero.1 h; omega
    · exact h
  have := tg_of (s := (s != false) && decide (N * fracD m 1 0 ≠ 0)) (N := fracN (N * fracD m 1 0) (D * fracN m 1 0) 0) (D := fracD (N * fracD m 1 0) (D * fracN m 1 0) 0) (fracD_pos _ (Nat.ne_of_gt (Nat.mul_pos h.pos hN))) (fun e => by rw [fracN_eq_zero.1 e]; simp)
  rwa [quo_q h hm, quo_q h hm, quo_q h hm] at this
/-- Sizes of the quotient. -/
theorem quo_size {T : Int} {s : Bool} {N D m : Nat} (h : DR T s N D) (hm : 0 < m) (hm2 : m < 9223372036854775808) (hT : nw T.natAbs ≤ 136) :
    nw N ≤ 136 ∧ nw D ≤ 68 ∧ nw (fracN m 1 0) ≤ 2 ∧ nw (fracD m 1 0) ≤ 1 ∧ nw (fracN (N * fracD m 1 0) (D * fracN m 1 0) 0) ≤ 300 ∧ nw (fracD (N * fracD m 1 0) (D * fracN m 1 0) 0) ≤ 300 ∧ 0 < D * fracN m 1 0 ∧ 0 < fracD (N * fracD m 1 0) (D * fracN m 1 0) 0 := by
  have a1 := h.nwN
  have a2 := h.nwD
  have a3 : nw (fracN m 1 0) ≤ 2 := Nat.le_trans (nw_mono (fracN_le4 m 1)) ((nw_le_iff m 2).2 (by omega))
  have a4 : nw (fracD m 1 0) ≤ 1 := Nat.le_trans (nw_mono (fracD_le4 (n := m) (d := 1) (by omega))) ((nw_le_iff 1 1).2 (by omega))
  have hN : 0 < fracN m 1 0 := by
    rcases Nat.eq_zero_or_pos (fracN m 1 0) with h | h
    · have := fracN_eq_zero.1 h; omega
    · exact h
  have hp := Nat.mul_pos h.pos hN
  have c1 := nw_mul2 N (fracD m 1 0)
  have c2 := nw_mul2 D (fracN m 1 0)
  have c3 := nw_mono (fracN_le4 (N * fracD m 1 0) (D * fracN m 1 0))
  have c4 := nw_mono (fracD_le4 (n := N * fracD m 1 0) (d := D * fracN m 1 0) (by omega))
  exact ⟨by omega, by omega, a3, a4, by omega, by omega, hp, fracD_pos _ (by omega)⟩
end Go.Proofs.Ytfbjeifhpmdjaaa
