/-
  Plain: whole numbers next to a number: what floor, ceil, trunc and the two kinds of rounding answer, as the model and as a ratio tells them. Conditions: those that each theorem names.
-/
import Derived.Test.YtadijoeeaineaaaDoorT03
import Derived.Test.YtadijoeeaineaaaDoorT02
import Derived.Test.YtadijoeeaineaaaDoorT09
import Derived.Test.YtadijoeeaineaaaDoorT07
import Derived.Test.YtadijoeeaineaaaDoorT06
set_option linter.unusedVariables false
set_option linter.unusedSimpArgs false
namespace Go.Proofs.YtadijoeeaineaaaDoor.Rn
open Nm

/-- Is one more taken? The kinds: 1 down, 2 up, 3 toward 0, 4 to the nearest, of two the even one, 5 of two the one away from 0. -/
def stMo (k : Nat) (s : Bool) (N D : Nat) : Bool :=
  if k = 1 then s && decide (N % D ≠ 0) else if k = 2 then !s && decide (N % D ≠ 0) else if k = 3 then false
  else decide (D < 2 * (N % D)) || (decide (2 * (N % D) = D) && (decide (k = 5) || decide (N / D % 2 = 1)))
/-- The size of the whole number. -/
def stQ (k : Nat) (s : Bool) (N D : Nat) : Nat := N / D + (stMo k s N D).toNat

theorem div_ratio {N D T K : Nat} (hD : 0 < D) (hK : 0 < K) (h : N * K = T * D) : N / D = T / K ∧ N % D * K = T % K * D := by
  have h1 := Nat.div_add_mod N D
  have h2 := Nat.mod_lt N hD
  have e : T / K = N / D := by
    rw [Nat.div_eq_iff hK]
    have a1 : N / D * K * D ≤ T * D := by
      rw [← h, Nat.mul_right_comm]
      exact Nat.mul_le_mul_right K (Nat.div_mul_le_self N D)
    have a2 : T * D < (N / D + 1) * K * D := by
      rw [← h, Nat.mul_right_comm]
      refine Nat.mul_lt_mul_of_pos_right ?_ hK
      rw [Nat.mul_comm D] at h1
      rw [Nat.add_mul, Nat.one_mul]
      omega
    have b1 := Nat.le_of_mul_le_mul_right a1 hD
    have b2 := Nat.lt_of_mul_lt_mul_right a2
    rw [Nat.add_mul, Nat.one_mul] at b2
    omega
  refine ⟨e.symm, ?_⟩
  have h3 := Nat.div_add_mod T K
  rw [e] at h3
  have h4 : (D * (N / D) + N % D) * K = (K * (N / D) + T % K) * D := by rw [h1, h3, h]
  rw [Nat.add_mul, Nat.add_mul] at h4
  have h5 : D * (N / D) * K = K * (N / D) * D := by ac_rfl
  omega
/-- The kinds ask for the ratio's value alone. -/
theorem stQ_ratio (k : Nat) (s : Bool) {N D T K : Nat} (hD : 0 < D) (hK : 0 < K) (h : N * K = T * D) : stQ k s N D = stQ k s T K := by
  obtain ⟨h1, h2⟩ := div_ratio hD hK h
  have z : N % D = 0 ↔ T % K = 0 := by
    constructor
    · intro e
      rw [e, Nat.zero_mul] at h2
      rcases Nat.mul_eq_zero.1 h2.symm with g | g
      · exact g
      · omega
    · intro e
      rw [e, Nat.zero_mul] at h2
      rcases Nat.mul_eq_zero.1 h2 with g | g
      · exact g
      · omega
  have e1 : 2 * (N % D) * K = 2 * (T % K) * D := by rw [Nat.mul_assoc, h2, Nat.mul_assoc]
  have e2 : D * K = K * D := Nat.mul_comm _ _
  have z1 : D < 2 * (N % D) ↔ K < 2 * (T % K) := by
    constructor
    · intro g
      have := Nat.mul_lt_mul_of_pos_right g hK
      rw [e1, e2] at this
      exact Nat.lt_of_mul_lt_mul_right this
    · intro g
      have := Nat.mul_lt_mul_of_pos_right g hD
      rw [← e1, ← e2] at this
      exact Nat.lt_of_mul_lt_mul_right this
  have z2 : 2 * (N % D) = D ↔ 2 * (T % K) = K := by
    constructor
    · intro g
      rw [g, e2] at e1
      exact (Nat.eq_of_mul_eq_mul_right hD e1).symm
    · intro g
      rw [g, ← e2] at e1
      exact Nat.eq_of_mul_eq_mul_right hK e1
  unfold stQ stMo
  simp only [h1, z1, z2, ne_eq, z]

/-- The model's cut. -/
theorem cut_gen {way : Ieee.Toward} {k : Nat} (hw : (way = .down ∧ k = 1) ∨ (way = .up ∧ k = 2) ∨ (way = .zero ∧ k = 3) ∨ (way = .even ∧ k = 4)) (neg : Bool) (n drop : Nat) :
    way.cut neg n drop = stQ k neg n (2 ^ drop) := by
  have hg : ∀ g : Nat, 0 < g → (n / g + (match way with
    | .even => decide (g < 2 * (n % g)) || (g == 2 * (n % g) && n / g % 2 == 1)
    | .down => neg && n % g != 0
    | .up => !neg && n % g != 0
    | .zero => false).toNat) = stQ k neg n g := by
    intro g _
    have e1 : (g == 2 * (n % g)) = decide (2 * (n % g) = g) := by rw [Bool.eq_iff_iff]; simp; omega
    have e2 : (n / g % 2 == 1) = decide (n / g % 2 = 1) := by rw [Bool.eq_iff_iff]; simp
    have e3 : (n % g != 0) = decide (n % g ≠ 0) := by rw [Bool.eq_iff_iff]; simp
    rcases hw with ⟨rfl, rfl⟩ | ⟨rfl, rfl⟩ | ⟨rfl, rfl⟩ | ⟨rfl, rfl⟩
    · unfold stQ stMo; simp only [e3]; simp
    · unfold stQ stMo; simp only [e3]; simp
    · unfold stQ stMo; simp
    · unfold stQ stMo; simp only [e1, e2]; simp
  have hu : way.cut neg n drop = n / (1 <<< min drop (n.log2 + 2)) + (match way with
    | .even => decide ((1 <<< min drop (n.log2 + 2)) < 2 * (n % (1 <<< min drop (n.log2 + 2)))) || ((1 <<< min drop (n.log2 + 2)) == 2 * (n % (1 <<< min drop (n.log2 + 2))) && n / (1 <<< min drop (n.log2 + 2)) % 2 == 1)
    | .down => neg && n % (1 <<< min drop (n.log2 + 2)) != 0
    | .up => !neg && n % (1 <<< min drop (n.log2 + 2)) != 0
    | .zero => false).toNat := by cases way <;> rfl
  rw [hu, Nat.one_shiftLeft]
  by_cases hd : drop ≤ n.log2 + 2
  · rw [Nat.min_eq_left hd]
    exact hg _ (two_pow_pos _)
  · rw [Nat.min_eq_right (by omega), hg _ (two_pow_pos _)]
    have hn : n < 2 ^ (n.log2 + 1) := by
      by_cases h0 : n = 0
      · subst h0; exact two_pow_pos _
      · exact (log2_bounds h0).2
    have h1 : 2 ^ (n.log2 + 2) = 2 * 2 ^ (n.log2 + 1) := by rw [Nat.pow_succ 2 (n.log2 + 1)]; omega
    have h2 : 2 ^ (n.log2 + 2) ≤ 2 ^ drop := Nat.pow_le_pow_right (by omega) (by omega)
    have a1 := Nat.div_eq_of_lt (show n < 2 ^ (n.log2 + 2) by omega)
    have a2 := Nat.div_eq_of_lt (show n < 2 ^ drop by omega)
    have a3 := Nat.mod_eq_of_lt (show n < 2 ^ (n.log2 + 2) by omega)
    have a4 := Nat.mod_eq_of_lt (show n < 2 ^ drop by omega)
    have c1 : decide (2 ^ (n.log2 + 2) < 2 * n) = false := decide_eq_false (by omega)
    have c2 : decide (2 ^ drop < 2 * n) = false := decide_eq_false (by omega)
    have c3 : decide (2 * n = 2 ^ (n.log2 + 2)) = false := decide_eq_false (by omega)
    have c4 : decide (2 * n = 2 ^ drop) = false := decide_eq_false (by omega)
    unfold stQ stMo
    rw [a1, a2, a3, a4, c1, c2, c3, c4]

/-- A whole number that is not too great has a pattern. -/
theorem whole_rv {q : Nat} (h : q ≤ 4503599627370496) : ∃ g, g < infR ∧ rv g = q * K74 := by
  by_cases h0 : q = 0
  · subst h0
    exact ⟨0, by decide, by rw [rv_zero, Nat.zero_mul]⟩
  · obtain ⟨l1, l2⟩ := log2_bounds h0
    have hl : q.log2 ≤ 52 := by
      rcases Nat.lt_or_ge 52 q.log2 with g | g
      · have : 2 ^ 53 ≤ 2 ^ q.log2 := Nat.pow_le_pow_right (by omega) (by omega)
        have e : (2 : Nat) ^ 53 = 9007199254740992 := by decide
        omega
      · exact g
    obtain ⟨a, ha⟩ : ∃ a, a = 52 - q.log2 := ⟨_, rfl⟩
    have e1 : 2 ^ q.log2 * 2 ^ a = 4503599627370496 := by rw [← Nat.pow_add, show q.log2 + a = 52 by omega]
    have s1 : 4503599627370496 ≤ q * 2 ^ a := by rw [← e1]; exact Nat.mul_le_mul_right _ l1
    have s2 : q * 2 ^ a < 9007199254740992 := by
      have : q * 2 ^ a < 2 ^ (q.log2 + 1) * 2 ^ a := Nat.mul_lt_mul_of_pos_right l2 (two_pow_pos a)
      rw [Nat.pow_succ, Nat.mul_right_comm, e1] at this
      omega
    obtain ⟨c, hc, hK⟩ : ∃ c : Nat, c = 1074 ∧ K74 = 2 ^ c := ⟨1074, rfl, K74_def⟩
    refine ⟨(c - a) * 4503599627370496 + q * 2 ^ a, ?_, ?_⟩
    · rw [show infR = 9218868437227405312 from rfl]; omega
    · rw [rv_form (c - a) (q * 2 ^ a) (by omega) (fun _ => s1), hK, Nat.mul_assoc, ← Nat.pow_add]
      congr 2
      omega
/-- So the whole number next to a number has one. -/
theorem whole_of {f : Nat} (hf : f < infR) (k : Nat) (s : Bool) : ∃ g, g < infR ∧ rv g = stQ k s (rv f) K74 * K74 := by
  have hK := K74_pos
  by_cases hr : rv f % K74 = 0
  · refine ⟨f, hf, ?_⟩
    have hm : stMo k s (rv f) K74 = false := by
      unfold stMo
      rw [hr]
      have c1 : decide (K74 < 2 * 0) = false := decide_eq_false (by omega)
      have c2 : decide (2 * 0 = K74) = false := decide_eq_false (by omega)
      rw [c1, c2]
      simp
    unfold stQ
    rw [hm]
    have := Nat.div_add_mod (rv f) K74
    rw [hr, Nat.mul_comm] at this
    simp only [Bool.toNat_false, Nat.add_zero]
    omega
  · refine whole_rv ?_
    have hq : stQ k s (rv f) K74 ≤ rv f / K74 + 1 := by
      unfold stQ
      have : (stMo k s (rv f) K74).toNat ≤ 1 := Bool.toNat_le _
      omega
    suffices rv f / K74 < 4503599627370496 by omega
    rw [Nat.div_lt_iff_lt_mul hK]
    obtain ⟨u, m, e, hm, hu⟩ := form f
    rw [e, rv_form u m (by omega) hu] at hr ⊢
    obtain ⟨c, hc, hK2⟩ : ∃ c : Nat, c = 1074 ∧ K74 = 2 ^ c := ⟨1074, rfl, K74_def⟩
    rw [hK2] at hr ⊢
    have huc : u < c := by
      rcases Nat.lt_or_ge u c with g | g
      · exact g
      · exfalso
        apply hr
        rw [show u = (u - c) + c by omega, Nat.pow_add, ← Nat.mul_assoc]
        exact Nat.mul_mod_left _ _
    have e2 : (2 : Nat) ^ c = 2 ^ (c - 1 - u) * 2 * 2 ^ u := by
      rw [← Nat.pow_succ, ← Nat.pow_add]
      congr 1
      omega
    rw [e2]
    have h1 : 1 ≤ 2 ^ (c - 1 - u) := two_pow_pos _
    have h2 : 4503599627370496 * (2 ^ (c - 1 - u) * 2 * 2 ^ u) = 9007199254740992 * 2 ^ u * 2 ^ (c - 1 - u) := by
      have e3 : (9007199254740992 : Nat) = 4503599627370496 * 2 := by decide
      rw [e3]
      ac_rfl
    rw [h2]
    refine Nat.lt_of_lt_of_le (Nat.mul_lt_mul_of_pos_right hm (two_pow_pos u)) ?_
    exact Nat.le_mul_of_pos_right _ h1

theorem rr_exact {d : Int} {neg : Bool} {g : Nat} (h : g < infR) : rr d neg (4 * rv g) = g := by
  have e : 4 * rv g / 4 = rv g := by omega
  have ha : away d neg (4 * rv g) = false := by
    unfold away
    rw [e, rung_rv, if_pos rfl]
  unfold rr
  rw [e, rung_rv, ha]
  split
  · omega
  · simp; omega
theorem zr_whole (q : Nat) : zr q 1 = 4 * (q * K74) := by
  rw [zr_eq, zq_one, K75_74]
  have : q * (2 * K74) = 2 * (q * K74) := Nat.mul_left_comm _ _ _
  omega
theorem zd_whole (q : Nat) : zd q 0 = 4 * (q * K74) := by
  obtain ⟨c, hc, hK⟩ : ∃ c : Nat, c = 1074 ∧ K74 = 2 ^ c := ⟨1074, rfl, K74_def⟩
  rw [zd_of (A := c + 1) (B := 0) (by omega), Nat.pow_zero, zq_one, hK, Nat.pow_succ]
  have : q * (2 ^ c * 2) = 2 * (q * 2 ^ c) := by rw [Nat.mul_comm (2 ^ c) 2, Nat.mul_left_comm]
  omega

/-- The magnitude's pattern of the whole number. -/
noncomputable def stR (k : Nat) (s : Bool) (f : Nat) : Nat := rung (stQ k s (rv f) K74 * K74)
theorem stR_spec {f : Nat} (hf : f < infR) (k : Nat) (s : Bool) : stR k s f < infR ∧ rv (stR k s f) = stQ k s (rv f) K74 * K74 := by
  obtain ⟨g, h1, h2⟩ := whole_of hf k s
  unfold stR
  rw [← h2, rung_rv]
  exact ⟨h1, rfl⟩
/-- What a step answers, of a pattern that is a number or an infinity. -/
noncomputable def stP (k : Nat) (x : Nat) : Nat := if mg x < infR then Ieee.double.word (sg x) (stR k (sg x) (mg x)) else x

/-- The model's whole number next to a pattern. -/
theorem integral_eq {way : Ieee.Toward} {k : Nat} (hw : (way = .down ∧ k = 1) ∨ (way = .up ∧ k = 2) ∨ (way = .zero ∧ k = 3) ∨ (way = .even ∧ k = 4)) {x : Nat} (hx : x < 18446744073709551616) (hn : isNaN x = false) :
    Ieee.double.write ((Ieee.double.read x).integral way) = stP k x := by
  have hi := infR_val
  unfold isNaN at hn
  have hn' := of_decide_eq_false hn
  unfold stP
  by_cases hf : mg x < infR
  · rw [if_pos hf]
    obtain ⟨m, e, hr, he, hv⟩ := read_fin hx hf
    rw [hr]
    have hcut : way.cut (sg x) (m <<< e.toNat) (-e).toNat = stQ k (sg x) (rv (mg x)) K74 := by
      rw [cut_gen hw, Nat.shiftLeft_eq]
      refine stQ_ratio k _ (two_pow_pos _) K74_pos ?_
      rw [← hv, K74_def]
      obtain ⟨c, hc⟩ : ∃ c : Nat, c = 1074 := ⟨_, rfl⟩
      rw [← hc]
      have : (e + 1074).toNat = (e + (c : Int)).toNat := by omega
      rw [this, Nat.mul_assoc, Nat.mul_assoc, ← Nat.pow_add, ← Nat.pow_add]
      congr 2
      omega
    show Ieee.double.nearest (sg x) (way.cut (sg x) (m <<< e.toNat) (-e).toNat) 0 = _
    rw [hcut, nearest_eq, zd_whole]
    obtain ⟨h1, h2⟩ := stR_spec hf k (sg x)
    rw [← h2, rr_exact h1]
  · rw [if_neg hf]
    have h1 : mg x = infR := by omega
    rw [read_inf hx h1]
    show Ieee.double.word (sg x) Ieee.double.infRung = x
    rw [word_eq, show Ieee.double.infRung = infR from rfl]
    have := split_pat hx
    rw [h1] at this
    exact this.symm
/-- What the document answers. -/
theorem rnd_whole (d : Int) (s : Bool) {f : Nat} (hf : f < infR) (k : Nat) : rnd d s (zr (stQ k s (rv f) K74) 1) = pat s (stR k s f) := by
  obtain ⟨h1, h2⟩ := stR_spec hf k s
  unfold rnd
  rw [zr_whole, ← h2, rr_exact h1]
end Go.Proofs.YtadijoeeaineaaaDoor.Rn

/-
  Plain: rounding to whole numbers away from 0, bit by bit. Conditions: those that each theorem names.
-/
set_option linter.unusedVariables false
set_option linter.unusedSimpArgs false
namespace Go.Proofs.YtadijoeeaineaaaDoor.Rn
open Nm

theorem p52 : (2 : Nat) ^ 52 = 4503599627370496 := by decide
theorem p53 : (2 : Nat) ^ 53 = 9007199254740992 := by decide
/-- What the bits' road answers of a magnitude's pattern. -/
def rAw (m : Nat) : Nat :=
  if m / 4503599627370496 < 1022 then 0 else if m / 4503599627370496 = 1022 then 4607182418800017408
  else if m / 4503599627370496 < 1075 then m + 2 ^ (1074 - m / 4503599627370496) - (m + 2 ^ (1074 - m / 4503599627370496)) % 2 ^ (1075 - m / 4503599627370496) else m
theorem st5 (s : Bool) (w p : Nat) (hp : 0 < p) : stQ 5 s w (2 * p) = (w + p) / (2 * p) := by
  have h1 := Nat.div_add_mod w (2 * p)
  have h2 := Nat.mod_lt w (show 0 < 2 * p by omega)
  unfold stQ stMo
  rw [if_neg (by omega), if_neg (by omega), if_neg (by omega), decide_eq_true (show (5 : Nat) = 5 from rfl), Bool.true_or, Bool.and_true]
  symm
  rw [Nat.div_eq_iff (by omega)]
  obtain ⟨q, hq⟩ : ∃ q, q = w / (2 * p) := ⟨_, rfl⟩
  obtain ⟨r, hr⟩ : ∃ r, r = w % (2 * p) := ⟨_, rfl⟩
  rw [← hq, ← hr] at h1 ⊢
  rw [← hr] at h2
  obtain ⟨P, hP⟩ : ∃ P, P = 2 * p * q := ⟨_, rfl⟩
  rw [← hP] at h1
  by_cases g : 2 * p ≤ 2 * r
  · have e : (decide (2 * p < 2 * r) || decide (2 * r = 2 * p)) = true := by
      rcases Nat.lt_or_eq_of_le g with g | g
      · rw [decide_eq_true g, Bool.true_or]
      · rw [decide_eq_true g.symm, Bool.or_true]
    rw [e]
    have e2 : (q + Bool.toNat true) * (2 * p) = P + 2 * p := by
      rw [hP, Bool.toNat_true, Nat.add_mul, Nat.one_mul, Nat.mul_comm q]
    rw [e2]
    omega
  · have e : (decide (2 * p < 2 * r) || decide (2 * r = 2 * p)) = false := by
      rw [decide_eq_false (by omega), decide_eq_false (by omega)]; rfl
    rw [e]
    have e2 : (q + Bool.toNat false) * (2 * p) = P := by
      rw [hP, Bool.toNat_false, Nat.add_zero, Nat.mul_comm q]
    rw [e2]
    omega
theorem rAw_eq {m : Nat} (hm : m < infR) (s : Bool) : rAw m = stR 5 s m := by
  have hi := infR_val
  have hK := K74_pos
  obtain ⟨h1, h2⟩ := stR_spec hm 5 s
  refine rv_inj ?_
  rw [h2]
  obtain ⟨E, hE⟩ : ∃ E, E = m / 4503599627370496 := ⟨_, rfl⟩
  unfold rAw
  rw [← hE]
  obtain ⟨h, hh, hK2⟩ : ∃ h : Nat, h = 1073 ∧ K74 = 2 * 2 ^ h := ⟨1073, rfl, by rw [K74_def]; obtain ⟨c, hc⟩ : ∃ c : Nat, c = 1073 := ⟨_, rfl⟩; rw [show 1074 = c + 1 by omega, show 1073 = c by omega, Nat.pow_succ, Nat.mul_comm]⟩
  have hp := two_pow_pos h
  rw [hK2, st5 s (rv m) (2 ^ h) hp]
  by_cases c1 : E < 1022
  · rw [if_pos c1, rv_zero]
    have hv : rv m < 2 ^ h := by
      unfold rv
      split
      · rename_i g
        have a : 2 ^ 52 ≤ 2 ^ h := Nat.pow_le_pow_right (by omega) (by omega)
        have e : (2 : Nat) ^ 52 = 4503599627370496 := by decide
        omega
      · rw [← hE]
        have a1 : (4503599627370496 + m % 4503599627370496) * 2 ^ (E - 1) < 2 ^ 53 * 2 ^ (E - 1) := Nat.mul_lt_mul_of_pos_right (by rw [p53]; omega) (two_pow_pos _)
        rw [← Nat.pow_add] at a1
        have a2 : 2 ^ (53 + (E - 1)) ≤ 2 ^ h := Nat.pow_le_pow_right (by omega) (by omega)
        omega
    rw [Nat.div_eq_of_lt (by omega), Nat.zero_mul]
  · rw [if_neg c1]
    have hrv : rv m = (4503599627370496 + m % 4503599627370496) * 2 ^ (E - 1) := by
      unfold rv
      rw [if_neg (by omega), ← hE]
    obtain ⟨w, hw⟩ : ∃ w, w = 4503599627370496 + m % 4503599627370496 := ⟨_, rfl⟩
    rw [← hw] at hrv
    have w1 : 4503599627370496 ≤ w := by omega
    have w2 : w < 9007199254740992 := by omega
    have hmw : m = (E - 1) * 4503599627370496 + w := by omega
    by_cases c2 : E = 1022
    · rw [if_pos c2]
      have e1 : rv 4607182418800017408 = 2 * 2 ^ h := by
        rw [show (4607182418800017408 : Nat) = (h - 51) * 4503599627370496 + 4503599627370496 by omega, rv_form (h - 51) 4503599627370496 (by omega) (fun _ => Nat.le_refl _), show (4503599627370496 : Nat) = 2 ^ 52 by decide, ← Nat.pow_add, show 52 + (h - 51) = h + 1 by omega, Nat.pow_succ, Nat.mul_comm]
      rw [e1]
      have b1 : 2 ^ h ≤ rv m := by
        rw [hrv]
        have : 2 ^ 52 * 2 ^ (E - 1) ≤ w * 2 ^ (E - 1) := Nat.mul_le_mul_right _ (by rw [p52]; omega)
        rw [← Nat.pow_add, show 52 + (E - 1) = h by omega] at this
        exact this
      have b2 : rv m < 2 * 2 ^ h := by
        rw [hrv]
        have : w * 2 ^ (E - 1) < 2 ^ 53 * 2 ^ (E - 1) := Nat.mul_lt_mul_of_pos_right (by rw [p53]; omega) (two_pow_pos _)
        rw [← Nat.pow_add, show 53 + (E - 1) = h + 1 by omega, Nat.pow_succ, Nat.mul_comm _ 2] at this
        exact this
      have b3 : (rv m + 2 ^ h) / (2 * 2 ^ h) = 1 := by
        rw [Nat.div_eq_iff (by omega)]
        omega
      rw [b3, Nat.one_mul]
    · rw [if_neg c2]
      by_cases c3 : E < 1075
      · rw [if_pos c3]
        obtain ⟨c, hc⟩ : ∃ c, c = 1074 - E := ⟨_, rfl⟩
        rw [← hc, show 1075 - E = c + 1 by omega]
        have hc51 : c ≤ 51 := by omega
        have hpc : 2 ^ h = 2 ^ c * 2 ^ (E - 1) := by rw [← Nat.pow_add]; congr 1; omega
        obtain ⟨u, hu⟩ : ∃ u, u = E - 1 := ⟨_, rfl⟩
        rw [← hu] at hrv hmw hpc
        have hup := two_pow_pos u
        have hcp := two_pow_pos c
        have e1 : (rv m + 2 ^ h) / (2 * 2 ^ h) = (w + 2 ^ c) / (2 * 2 ^ c) := by
          rw [hrv, hpc, ← Nat.add_mul, ← Nat.mul_assoc, Nat.mul_div_mul_right _ _ hup]
        rw [e1]
        have e2 : (2 : Nat) ^ (c + 1) = 2 * 2 ^ c := by rw [Nat.pow_succ, Nat.mul_comm]
        rw [e2]
        obtain ⟨p, hpp⟩ : ∃ p, p = 2 ^ c := ⟨_, rfl⟩
        rw [← hpp] at hpc hcp ⊢
        -- 2p divides 2^52
        obtain ⟨t, ht⟩ : ∃ t, 4503599627370496 = 2 * p * t := ⟨2 ^ (51 - c), by
          rw [hpp, Nat.mul_assoc, ← Nat.pow_add, show c + (51 - c) = 51 by omega]⟩
        have e3 : (m + p) % (2 * p) = (w + p) % (2 * p) := by
          rw [hmw, ht, Nat.add_assoc, show u * (2 * p * t) = 2 * p * (u * t) by ac_rfl, Nat.mul_add_mod]
        rw [e3]
        have d1 := Nat.div_add_mod (w + p) (2 * p)
        obtain ⟨q, hq⟩ : ∃ q, q = (w + p) / (2 * p) := ⟨_, rfl⟩
        rw [← hq] at d1 ⊢
        have e4 : m + p - (w + p) % (2 * p) = u * 4503599627370496 + 2 * p * q := by omega
        rw [e4]
        have q1 : 2 * p * q ≤ 9007199254740992 := by
          have z1 : q ≤ 2 * t := by
            rw [hq]
            have z2 : (w + p) < (2 * t + 1) * (2 * p) := by
              rw [Nat.add_mul, Nat.one_mul, show 2 * t * (2 * p) = 2 * (2 * p * t) by ac_rfl, ← ht]
              omega
            have := (Nat.div_lt_iff_lt_mul (show 0 < 2 * p by omega)).2 z2
            omega
          have := Nat.mul_le_mul_left (2 * p) z1
          rw [show 2 * p * (2 * t) = 2 * (2 * p * t) by ac_rfl, ← ht] at this
          omega
        have q2 : 4503599627370496 ≤ 2 * p * q := by
          have z1 : t ≤ q := by
            rw [hq]
            refine (Nat.le_div_iff_mul_le (show 0 < 2 * p by omega)).2 ?_
            rw [Nat.mul_comm, ← ht]
            omega
          have := Nat.mul_le_mul_left (2 * p) z1
          omega
        rw [rv_form u (2 * p * q) q1 (fun _ => q2), hpc]
        ac_rfl
      · rw [if_neg c3]
        obtain ⟨a, ha⟩ : ∃ a, E - 1 = a + (h + 1) := ⟨E - 1 - (h + 1), by omega⟩
        have e1 : rv m = w * 2 ^ a * (2 * 2 ^ h) := by
          rw [hrv, ha, Nat.pow_add, Nat.pow_succ, Nat.mul_comm (2 ^ h) 2]
          ac_rfl
        have e2 : (rv m + 2 ^ h) / (2 * 2 ^ h) = w * 2 ^ a := by
          rw [Nat.div_eq_iff (by omega), ← e1]
          omega
        rw [e2, ← e1]
end Go.Proofs.YtadijoeeaineaaaDoor.Rn

/-
  The contracts of the program's steps of one number: sign, floor, ceil, trunc, the nearest. Conditions: those that each theorem names.
-/
namespace Go.Proofs.YtadijoeeaineaaaDoor
open Go.RowKit Nm Rn
set_option maxRecDepth 100000
set_option linter.unusedVariables false
set_option linter.unusedSimpArgs false

theorem toInt_run {way : Ieee.Toward} {k : Nat} (hw : (way = .down ∧ k = 1) ∨ (way = .up ∧ k = 2) ∨ (way = .zero ∧ k = 3) ∨ (way = .even ∧ k = 4)) (nm : String) {x : Nat} (hx : x < 18446744073709551616) (hn : isNaN x = false) (P : Program) (w : World) :
    (Extern.MathFloor.toIntegral nm way #[.float .f64 x]).run P w = .ok (.float .f64 (stP k x)) w := by
  have h := integral_eq hw hx hn
  have hnn : ∀ s t, Ieee.double.read x ≠ .nan s t := by
    intro s t e
    unfold isNaN at hn
    have hn' := of_decide_eq_false hn
    by_cases hf : mg x < infR
    · obtain ⟨m, e2, hr, _, _⟩ := read_fin hx hf
      rw [hr] at e
      cases e
    · rw [read_inf hx (by omega)] at e
      cases e
  have e : Extern.MathFloor.toIntegral nm way #[.float .f64 x] = (match Ieee.double.read x with
    | .nan s t =>
      if FloatKind.f64.format.quiet t = t then pure (.float .f64 x) else do
      let kept ← choose (.extern "math.Floor,Ceil,Trunc,RoundToEven.signallingNaN kept" 2)
      pure (.float .f64 (if kept == 1 then x else FloatKind.f64.encode (.nan s (FloatKind.f64.format.quiet t))))
    | d => pure (.float .f64 (Ieee.double.write (d.integral way)))) := rfl
  rw [e]
  cases hr : Ieee.double.read x with
  | nan s t => exact absurd hr (hnn s t)
  | number s m i =>
    rw [hr] at h
    show (pure (Value.float .f64 (Ieee.double.write ((Ieee.Datum.number s m i).integral way))) : Sem Value).run P w = _
    rw [h]
    rfl
  | infinity s =>
    rw [hr] at h
    show (pure (Value.float .f64 (Ieee.double.write ((Ieee.Datum.infinity s).integral way))) : Sem Value).run P w = _
    rw [h]
    rfl

theorem callFloor {x : Nat} (hx : x < 18446744073709551616) (hn : isNaN x = false) (w : World) : (callFunc 144 #[.float .f64 x]).run Tryd.prog w = .ok (.value (.float .f64 (stP 1 x))) w := by
  have h : (callFunc 144 #[.float .f64 x]).run Tryd.prog w = ((Extern.MathFloor.toIntegral "math.archFloor" .down #[.float .f64 x]).run Tryd.prog w).andThen fun v w' => .ok (.value v) w' :=
    run_callFunc_extern Tryd.func144 (by kernel_rfl) (by kernel_rfl) (by kernel_rfl) (by kernel_rfl) _ w
  rw [h, toInt_run (.inl ⟨rfl, rfl⟩) _ hx hn]
  rfl
theorem callCeil {x : Nat} (hx : x < 18446744073709551616) (hn : isNaN x = false) (w : World) : (callFunc 146 #[.float .f64 x]).run Tryd.prog w = .ok (.value (.float .f64 (stP 2 x))) w := by
  have h : (callFunc 146 #[.float .f64 x]).run Tryd.prog w = ((Extern.MathFloor.toIntegral "math.archCeil" .up #[.float .f64 x]).run Tryd.prog w).andThen fun v w' => .ok (.value v) w' :=
    run_callFunc_extern Tryd.func146 (by kernel_rfl) (by kernel_rfl) (by kernel_rfl) (by kernel_rfl) _ w
  rw [h, toInt_run (.inr (.inl ⟨rfl, rfl⟩)) _ hx hn]
  rfl
theorem callTrunc {x : Nat} (hx : x < 18446744073709551616) (hn : isNaN x = false) (w : World) : (callFunc 148 #[.float .f64 x]).run Tryd.prog w = .ok (.value (.float .f64 (stP 3 x))) w := by
  have h : (callFunc 148 #[.float .f64 x]).run Tryd.prog w = ((Extern.MathFloor.toIntegral "math.archTrunc" .zero #[.float .f64 x]).run Tryd.prog w).andThen fun v w' => .ok (.value v) w' :=
    run_callFunc_extern Tryd.func148 (by kernel_rfl) (by kernel_rfl) (by kernel_rfl) (by kernel_rfl) _ w
  rw [h, toInt_run (.inr (.inr (.inl ⟨rfl, rfl⟩))) _ hx hn]
  rfl
theorem callEven {x : Nat} (hx : x < 18446744073709551616) (hn : isNaN x = false) (w : World) : (callFunc 109 #[.float .f64 x]).run Tryd.prog w = .ok (.value (.float .f64 (stP 4 x))) w := by
  have h : (callFunc 109 #[.float .f64 x]).run Tryd.prog w = ((Extern.MathFloor.toIntegral "math.RoundToEven" .even #[.float .f64 x]).run Tryd.prog w).andThen fun v w' => .ok (.value v) w' :=
    run_callFunc_extern Tryd.func109 (by kernel_rfl) (by kernel_rfl) (by kernel_rfl) (by kernel_rfl) _ w
  rw [h, toInt_run (.inr (.inr (.inr ⟨rfl, rfl⟩))) _ hx hn]
  rfl

set_option maxHeartbeats 400000 in
theorem mfloor_any {x : Nat} (hx : x < 18446744073709551616) (hn : isNaN x = false) (w : World) : Calls Tryd.prog 105 #[.float .f64 x] w fun e w' => e = .returned (.float .f64 (stP 1 x)) ∧ w = w' := by
  have hd := fun w => callFloor hx hn w
  obtain ⟨r, hr⟩ : ∃ r, r = stP 1 x := ⟨_, rfl⟩
  rw [← hr] at hd ⊢
  clear hr
  go_enter Tryd.func105, Tryd.ntmps105
  go_wp2
  go_ret
  exact ⟨rfl, rfl⟩
set_option maxHeartbeats 400000 in
theorem mceil_any {x : Nat} (hx : x < 18446744073709551616) (hn : isNaN x = false) (w : World) : Calls Tryd.prog 106 #[.float .f64 x] w fun e w' => e = .returned (.float .f64 (stP 2 x)) ∧ w = w' := by
  have hd := fun w => callCeil hx hn w
  obtain ⟨r, hr⟩ : ∃ r, r = stP 2 x := ⟨_, rfl⟩
  rw [← hr] at hd ⊢
  clear hr
  go_enter Tryd.func106, Tryd.ntmps106
  go_wp2
  go_ret
  exact ⟨rfl, rfl⟩
set_option maxHeartbeats 400000 in
theorem mtrunc_any {x : Nat} (hx : x < 18446744073709551616) (hn : isNaN x = false) (w : World) : Calls Tryd.prog 107 #[.float .f64 x] w fun e w' => e = .returned (.float .f64 (stP 3 x)) ∧ w = w' := by
  have hd := fun w => callTrunc hx hn w
  obtain ⟨r, hr⟩ : ∃ r, r = stP 3 x := ⟨_, rfl⟩
  rw [← hr] at hd ⊢
  clear hr
  go_enter Tryd.func107, Tryd.ntmps107
  go_wp2
  go_ret
  exact ⟨rfl, rfl⟩

/-- A number's sign, as a pattern. -/
def sgP (x : Nat) : Nat := if key x < 0 then 13830554455654793216 else if 0 < key x then 4607182418800017408 else 0
set_option maxHeartbeats 400000 in
theorem psign_any {x : Nat} (hx : x < 18446744073709551616) (hn : isNaN x = false) (w : World) : Calls Tryd.prog 103 #[.float .f64 x] w fun e w' => e = .returned (.float .f64 (sgP x)) ∧ w = w' := by
  have z0 : (0 : Nat) < 18446744073709551616 := by omega
  have n0 : isNaN 0 = false := rfl
  have k0 : key 0 = 0 := rfl
  have hl := fo_lt hx z0
  have hg := fo_gt hx z0
  unfold ltB at hl hg
  rw [hn, n0, k0] at hl hg
  simp only [Bool.not_false, Bool.true_and] at hl hg
  unfold sgP
  by_cases h1 : key x < 0
  · rw [if_pos h1]
    rw [decide_eq_true h1] at hl
    clear hg h1 hn
    go_enter Tryd.func103, Tryd.ntmps103
    go_wp2
    go_ret
    exact ⟨rfl, rfl⟩
  · rw [if_neg h1]
    rw [decide_eq_false h1] at hl
    by_cases h2 : 0 < key x
    · rw [if_pos h2]
      rw [decide_eq_true h2] at hg
      clear h1 h2 hn
      go_enter Tryd.func103, Tryd.ntmps103
      go_wp2
      go_ret
      exact ⟨rfl, rfl⟩
    · rw [if_neg h2]
      rw [decide_eq_false h2] at hg
      clear h1 h2 hn
      go_enter Tryd.func103, Tryd.ntmps103
      go_wp2
      go_ret
      exact ⟨rfl, rfl⟩
end Go.Proofs.YtadijoeeaineaaaDoor

/-
  The contract of math.Round. Conditions: those that each theorem names.
-/
namespace Go.Proofs.YtadijoeeaineaaaDoor
open Go.RowKit Nm Rn
set_option maxRecDepth 100000
set_option linter.unusedVariables false
set_option linter.unusedSimpArgs false

theorem and_sign (b : Nat) (h : b < 18446744073709551616) : bits .and .u64 (b : Int) 9223372036854775808 = ((if sg b then 9223372036854775808 else 0 : Nat) : Int) := by
  rw [show (9223372036854775808 : Int) = ((9223372036854775808 : Nat) : Int) from rfl, u64_and_nat _ _ h (by omega)]
  congr 1
  have e63 : (9223372036854775808 : Nat) = 2 ^ 63 := by decide
  have hb : b.testBit 63 = sg b := by
    rw [Nat.testBit_eq_decide_div_mod_eq]
    unfold sg
    refine decide_eq_decide.2 ?_
    rw [← e63]
    omega
  apply Nat.eq_of_testBit_eq
  intro i
  rw [Nat.testBit_and, e63, Nat.testBit_two_pow]
  by_cases hi : 63 = i
  · subst hi
    rw [hb]
    cases sg b
    · simp
    · simp
      decide
  · rw [decide_eq_false hi, Bool.and_false]
    cases sg b
    · simp
    · simp only [if_true]
      rw [Nat.testBit_two_pow, decide_eq_false hi]
theorem andNot_low (a c : Nat) (h : a < 18446744073709551616) (hc : c ≤ 63) : bits .andNot .u64 (a : Int) ((2 ^ c - 1 : Nat) : Int) = ((a - a % 2 ^ c : Nat) : Int) := by
  have h1 : 2 ^ c ≤ 2 ^ 63 := Nat.pow_le_pow_right (by omega) hc
  have h2 : (2 : Nat) ^ 63 = 9223372036854775808 := by decide
  have h3 : 0 < 2 ^ c := Nat.pow_pos (by omega)
  rw [u64_andNot_nat _ _ h (by omega)]
  congr 1
  have e : 18446744073709551615 - (2 ^ c - 1) = 2 ^ 64 - 1 - (2 ^ c - 1) := by
    rw [show (2 : Nat) ^ 64 = 18446744073709551616 by decide]
  have ha : a < 2 ^ 64 := by rw [show (2 : Nat) ^ 64 = 18446744073709551616 by decide]; exact h
  apply Nat.eq_of_testBit_eq
  intro i
  have h5 : a - a % 2 ^ c = 2 ^ c * (a / 2 ^ c) := by
    have := Nat.div_add_mod a (2 ^ c)
    omega
  have h4 : (18446744073709551615 - (2 ^ c - 1)).testBit i = (decide (i < 64) && !decide (i < c)) := by
    have := Nat.testBit_two_pow_sub_succ (n := 64) (x := 2 ^ c - 1) (by rw [show (2 : Nat) ^ 64 = 18446744073709551616 by decide]; omega) i
    rw [show 2 ^ c - 1 + 1 = 2 ^ c by omega] at this
    rw [show 18446744073709551615 - (2 ^ c - 1) = 2 ^ 64 - 2 ^ c by rw [show (2 : Nat) ^ 64 = 18446744073709551616 by decide]; omega, this, Nat.testBit_two_pow_sub_one]
  rw [Nat.testBit_and, h4, h5, Nat.testBit_two_pow_mul, Nat.testBit_div_two_pow]
  by_cases hi : i < c
  · rw [decide_eq_true hi, decide_eq_false (show ¬ c ≤ i by omega)]
    simp
  · rw [decide_eq_false hi, decide_eq_true (show c ≤ i by omega), show i - c + c = i by omega]
    by_cases h64 : i < 64
    · rw [decide_eq_true h64]; simp
    · rw [decide_eq_false h64]
      have : a.testBit i = false := Nat.testBit_lt_two_pow (Nat.lt_of_lt_of_le ha (Nat.pow_le_pow_right (by omega) (by omega)))
      rw [this]; simp

set_option maxHeartbeats 1000000 in
theorem mround_any {x : Nat} (hx : x < 18446744073709551616) (hn : isNaN x = false) (w : World) : Calls Tryd.prog 108 #[.float .f64 x] w fun e w' => e = .returned (.float .f64 (stP 5 x)) ∧ w = w' := by
  have hi := infR_val
  unfold isNaN at hn
  have hn' := of_decide_eq_false hn
  obtain ⟨E, hE⟩ : ∃ E, E = x / 4503599627370496 % 2048 := ⟨_, rfl⟩
  have g1 : bits .and .u64 ((x : Int) / 4503599627370496) 2047 = (E : Int) := by
    rw [show (x : Int) / 4503599627370496 = ((x / 4503599627370496 : Nat) : Int) by omega, show (2047 : Int) = ((2047 : Nat) : Int) from rfl, u64_and_nat _ _ (by omega) (by omega), show (2047 : Nat) = 2 ^ 11 - 1 by decide, Nat.and_two_pow_sub_one_eq_mod, hE]
  have g2 := and_sign x hx
  have hEm : mg x / 4503599627370496 = E := by unfold mg; omega
  have hEb : E ≤ 2047 := by omega
  obtain ⟨V, hV⟩ : ∃ V, V = stP 5 x := ⟨_, rfl⟩
  rw [← hV]
  have hVf : mg x < infR → V = Ieee.double.word (sg x) (rAw (mg x)) := fun h => by
    rw [hV]
    unfold stP
    rw [if_pos h, rAw_eq h (sg x)]
  have hxp := split_pat hx
  by_cases c1 : E < 1022
  · have e : V = if sg x then 9223372036854775808 else 0 := by
      rw [hVf (by unfold mg at hEm ⊢; omega), word_eq]
      unfold rAw
      rw [hEm, if_pos c1]
    rw [e]
    obtain ⟨T, hT⟩ : ∃ T : Nat, T = if sg x then 9223372036854775808 else 0 := ⟨_, rfl⟩
    rw [← hT] at g2 ⊢
    have d1 : decide ((E : Int) < 1023) = true := decide_eq_true (by omega)
    have d2 : ((E : Int) == 1022) = false := by rw [beq_eq_false_iff_ne]; omega
    clear hT e hV hVf hxp hEm hn hn' hE c1
    go_enter Tryd.func108, Tryd.ntmps108
    go_wp2
    go_ret
    exact ⟨rfl, rfl⟩
  · by_cases c2 : E = 1022
    · have e : V = if sg x then 13830554455654793216 else 4607182418800017408 := by
        rw [hVf (by unfold mg at hEm ⊢; omega), word_eq]
        unfold rAw
        rw [hEm, if_neg c1, if_pos c2]
      have g3 : bits .or .u64 ((if sg x then 9223372036854775808 else 0 : Nat) : Int) 4607182418800017408 = ((if sg x then 13830554455654793216 else 4607182418800017408 : Nat) : Int) := by
        cases sg x <;> decide
      rw [e]
      obtain ⟨T, hT⟩ : ∃ T : Nat, T = if sg x then 9223372036854775808 else 0 := ⟨_, rfl⟩
      obtain ⟨U, hU⟩ : ∃ U : Nat, U = if sg x then 13830554455654793216 else 4607182418800017408 := ⟨_, rfl⟩
      rw [← hT] at g2 g3
      rw [← hU] at g3 ⊢
      rw [c2] at g1
      clear hT hU e hV hVf hxp hEm hn hn' hE c1 c2
      go_enter Tryd.func108, Tryd.ntmps108
      go_wp2
      go_ret
      exact ⟨rfl, rfl⟩
    · by_cases c3 : E < 1075
      · obtain ⟨c, hc⟩ : ∃ c, c = 1074 - E := ⟨_, rfl⟩
        have hfin : mg x < infR := by unfold mg at hEm ⊢; omega
        have hp : (2251799813685248 : Int) / 2 ^ (51 - c) = ((2 ^ c : Nat) : Int) := by
          have : (2251799813685248 : Nat) / 2 ^ (51 - c) = 2 ^ c := by
            rw [show (2251799813685248 : Nat) = 2 ^ 51 by decide, Nat.pow_div (by omega) (by omega)]
            congr 1
            omega
          rw [← this, Int.natCast_ediv, Int.natCast_pow]
          rfl
        have hq : (4503599627370495 : Int) / 2 ^ (51 - c) = ((2 ^ (c + 1) - 1 : Nat) : Int) := by
          have : (4503599627370495 : Nat) / 2 ^ (51 - c) = 2 ^ (c + 1) - 1 := by
            have h1 : 2 ^ (c + 1) * 2 ^ (51 - c) = 4503599627370496 := by
              rw [← Nat.pow_add, show c + 1 + (51 - c) = 52 by omega]
            have h2 : 0 < 2 ^ (51 - c) := Nat.pow_pos (by omega)
            have h3 : 0 < 2 ^ (c + 1) := Nat.pow_pos (by omega)
            rw [Nat.div_eq_iff h2, Nat.sub_mul, h1]
            omega
          rw [← this, Int.natCast_ediv, Int.natCast_pow]
          rfl
        have hpb : 2 ^ c ≤ 2251799813685248 := by
          have := Nat.pow_le_pow_right (n := 2) (show 0 < 2 by omega) (show c ≤ 51 by omega)
          rwa [show (2 : Nat) ^ 51 = 2251799813685248 by decide] at this
        have e : V = x + 2 ^ c - (x + 2 ^ c) % 2 ^ (c + 1) := by
          rw [hVf hfin, word_eq]
          unfold rAw
          rw [hEm, if_neg c1, if_neg c2, if_pos c3, ← hc, show 1075 - E = c + 1 by omega]
          have hm : x = if sg x then 9223372036854775808 + mg x else mg x := hxp
          obtain ⟨t, ht⟩ : ∃ t, 9223372036854775808 = 2 ^ (c + 1) * t := ⟨2 ^ (62 - c), by rw [← Nat.pow_add, show c + 1 + (62 - c) = 63 by omega]⟩
          cases hs : sg x
          · rw [hs] at hm
            simp at hm
            rw [← hm]
            simp
          · rw [hs] at hm
            simp only [if_true] at hm ⊢
            obtain ⟨M, hM⟩ : ∃ M, M = mg x := ⟨_, rfl⟩
            rw [← hM] at hm ⊢
            have hle := Nat.mod_le (M + 2 ^ c) (2 ^ (c + 1))
            have e2 : (x + 2 ^ c) % 2 ^ (c + 1) = (M + 2 ^ c) % 2 ^ (c + 1) := by
              rw [hm, Nat.add_assoc, ht, Nat.mul_add_mod]
            rw [e2]
            omega
        rw [e]
        have hxb : x + 2 ^ c < 18446744073709551616 := by
          have : x < 18442240474082181120 := by unfold mg at hEm; omega
          omega
        have g4 := andNot_low (x + 2 ^ c) (c + 1) hxb (by omega)
        obtain ⟨P, hP⟩ : ∃ P, P = 2 ^ c := ⟨_, rfl⟩
        obtain ⟨Q, hQ⟩ : ∃ Q, Q = 2 ^ (c + 1) - 1 := ⟨_, rfl⟩
        obtain ⟨R, hR⟩ : ∃ R, R = x + 2 ^ c - (x + 2 ^ c) % 2 ^ (c + 1) := ⟨_, rfl⟩
        rw [← hR] at g4 ⊢
        rw [← hP] at hp hxb g4
        rw [← hQ] at hq g4
        have d1 : decide ((E : Int) < 1023) = false := decide_eq_false (by omega)
        have d2 : decide ((E : Int) < 1075) = true := decide_eq_true (by omega)
        have hcE : 51 - c = E - 1023 := by omega
        rw [hcE] at hp hq
        have hE2 : 1023 ≤ E := by omega
        have hE3 : E < 1075 := c3
        have g4' : bits .andNot .u64 ((x : Int) + (P : Int)) (Q : Int) = (R : Int) := by rw [← Int.natCast_add]; exact g4
        clear hP hQ hR e hV hVf hxp hEm hn hn' hE c1 c2 c3 g2 hpb hc hcE g4
        go_enter Tryd.func108, Tryd.ntmps108
        go_wp2
        go_ret
        exact ⟨rfl, rfl⟩
      · have e : V = x := by
          rw [hV]
          unfold stP
          by_cases hf : mg x < infR
          · rw [if_pos hf, ← rAw_eq hf (sg x), word_eq]
            unfold rAw
            rw [hEm, if_neg c1, if_neg c2, if_neg c3]
            exact hxp.symm
          · rw [if_neg hf]
        rw [e]
        have d1 : decide ((E : Int) < 1023) = false := decide_eq_false (by omega)
        have d2 : decide ((E : Int) < 1075) = false := decide_eq_false (by omega)
        clear e hV hVf hxp hEm hn hn' hE c1 c2 c3 g2
        go_enter Tryd.func108, Tryd.ntmps108
        go_wp2
        go_ret
        exact ⟨rfl, rfl⟩
end Go.Proofs.YtadijoeeaineaaaDoor
