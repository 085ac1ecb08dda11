/-
  Plain: whole numbers next to a number: what floor, ceil, trunc and the two kinds of rounding answer, as the model and as a ratio tells them. Conditions: those that each theorem names.
-/
import Derived.Test.YtadijoeeaineaaaGreatDoorW03
import Derived.Test.YtadijoeeaineaaaGreatDoorW02
import Derived.Test.YtadijoeeaineaaaGreatDoorRows
import Derived.Test.YtadijoeeaineaaaGreatDoorW01
import Derived.WalkKit
import Derived.WalkSpells
import Derived.WalkLawsBesides
import Derived.Below
import Derived.Laws.OwnMore
import Derived.Deep.AppendLies
import Derived.Deep.Draws
import Derived.Lib.Hide
import Derived.Laws.Externs
import Derived.Laws.DeepNot64
set_option linter.unusedVariables false
set_option linter.unusedSimpArgs false
namespace Go.Proofs.YtadijoeeaineaaaGreatDoor.Rn
open Nm

/-- Is one more taken? The kinds: 1 down, 2 up, 3 toward 0, 4 to the nearest, of two the even one, 5 of two the one away from 0. -/
def stMo (k : Nat) (s : Bool) (N D : Nat) : Bool :=
  if k = 1 then s && decide (N % D ≠ 0) else if k = 2 then !s && decide (N % D ≠ 0) else if k = 3 then false
  else decide (D < 2 * (N % D)) || (decide (2 * (N % D) = D) && (decide (k = 5) || decide (N / D % 2 = 1)))
/-- The size of the whole number. -/
def stQ (k : Nat) (s : Bool) (N D : Nat) : Nat := N / D + (stMo k s N D).toNat

theorem div_ratio {N D T K : Nat} (hD : 0 < D) (hK : 0 < K) (h : N * K = T * D) : N / D = T / K ∧ N % D * K = T % K * D := by
  have h1 := Nat.div_add_mod N D
  have h2 := Nat.mod_lt N hD
  have e : T / K = N / D := by
    rw [Nat.div_eq_iff hK]
    have a1 : N / D * K * D ≤ T * D := by
      rw [← h, Nat.mul_right_comm]
      exact Nat.mul_le_mul_right K (Nat.div_mul_le_self N D)
    have a2 : T * D < (N / D + 1) * K * D := by
      rw [← h, Nat.mul_right_comm]
      refine Nat.mul_lt_mul_of_pos_right ?_ hK
      rw [Nat.mul_comm D] at h1
      rw [Nat.add_mul, Nat.one_mul]
      omega
    have b1 := Nat.le_of_mul_le_mul_right a1 hD
    have b2 := Nat.lt_of_mul_lt_mul_right a2
    rw [Nat.add_mul, Nat.one_mul] at b2
    omega
  refine ⟨e.symm, ?_⟩
  have h3 := Nat.div_add_mod T K
  rw [e] at h3
  have h4 : (D * (N / D) + N % D) * K = (K * (N / D) + T % K) * D := by rw [h1, h3, h]
  rw [Nat.add_mul, Nat.add_mul] at h4
  have h5 : D * (N / D) * K = K * (N / D) * D := by ac_rfl
  omega
/-- The kinds ask for the ratio's value alone. -/
theorem stQ_ratio (k : Nat) (s : Bool) {N D T K : Nat} (hD : 0 < D) (hK : 0 < K) (h : N * K = T * D) : stQ k s N D = stQ k s T K := by
  obtain ⟨h1, h2⟩ := div_ratio hD hK h
  have z : N % D = 0 ↔ T % K = 0 := by
    constructor
    · intro e
      rw [e, Nat.zero_mul] at h2
      rcases Nat.mul_eq_zero.1 h2.symm with g | g
      · exact g
      · omega
    · intro e
      rw [e, Nat.zero_mul] at h2
      rcases Nat.mul_eq_zero.1 h2 with g | g
      · exact g
      · omega
  have e1 : 2 * (N % D) * K = 2 * (T % K) * D := by rw [Nat.mul_assoc, h2, Nat.mul_assoc]
  have e2 : D * K = K * D := Nat.mul_comm _ _
  have z1 : D < 2 * (N % D) ↔ K < 2 * (T % K) := by
    constructor
    · intro g
      have := Nat.mul_lt_mul_of_pos_right g hK
      rw [e1, e2] at this
      exact Nat.lt_of_mul_lt_mul_right this
    · intro g
      have := Nat.mul_lt_mul_of_pos_right g hD
      rw [← e1, ← e2] at this
      exact Nat.lt_of_mul_lt_mul_right this
  have z2 : 2 * (N % D) = D ↔ 2 * (T % K) = K := by
    constructor
    · intro g
      rw [g, e2] at e1
      exact (Nat.eq_of_mul_eq_mul_right hD e1).symm
    · intro g
      rw [g, ← e2] at e1
      exact Nat.eq_of_mul_eq_mul_right hK e1
  unfold stQ stMo
  simp only [h1, z1, z2, ne_eq, z]

/-- The model's cut. -/
theorem cut_gen {way : Ieee.Toward} {k : Nat} (hw : (way = .down ∧ k = 1) ∨ (way = .up ∧ k = 2) ∨ (way = .zero ∧ k = 3) ∨ (way = .even ∧ k = 4)) (neg : Bool) (n drop : Nat) :
    way.cut neg n drop = stQ k neg n (2 ^ drop) := by
  have hg : ∀ g : Nat, 0 < g → (n / g + (match way with
    | .even => decide (g < 2 * (n % g)) || (g == 2 * (n % g) && n / g % 2 == 1)
    | .down => neg && n % g != 0
    | .up => !neg && n % g != 0
    | .zero => false).toNat) = stQ k neg n g := by
    intro g _
    have e1 : (g == 2 * (n % g)) = decide (2 * (n % g) = g) := by rw [Bool.eq_iff_iff]; simp; omega
    have e2 : (n / g % 2 == 1) = decide (n / g % 2 = 1) := by rw [Bool.eq_iff_iff]; simp
    have e3 : (n % g != 0) = decide (n % g ≠ 0) := by rw [Bool.eq_iff_iff]; simp
    rcases hw with ⟨rfl, rfl⟩ | ⟨rfl, rfl⟩ | ⟨rfl, rfl⟩ | ⟨rfl, rfl⟩
    · unfold stQ stMo; simp only [e3]; simp
    · unfold stQ stMo; simp only [e3]; simp
    · unfold stQ stMo; simp
    · unfold stQ stMo; simp only [e1, e2]; simp
  have hu : way.cut neg n drop = n / (1 <<< min drop (n.log2 + 2)) + (match way with
    | .even => decide ((1 <<< min drop (n.log2 + 2)) < 2 * (n % (1 <<< min drop (n.log2 + 2)))) || ((1 <<< min drop (n.log2 + 2)) == 2 * (n % (1 <<< min drop (n.log2 + 2))) && n / (1 <<< min drop (n.log2 + 2)) % 2 == 1)
    | .down => neg && n % (1 <<< min drop (n.log2 + 2)) != 0
    | .up => !neg && n % (1 <<< min drop (n.log2 + 2)) != 0
    | .zero => false).toNat := by cases way <;> rfl
  rw [hu, Nat.one_shiftLeft]
  by_cases hd : drop ≤ n.log2 + 2
  · rw [Nat.min_eq_left hd]
    exact hg _ (two_pow_pos _)
  · rw [Nat.min_eq_right (by omega), hg _ (two_pow_pos _)]
    have hn : n < 2 ^ (n.log2 + 1) := by
      by_cases h0 : n = 0
      · subst h0; exact two_pow_pos _
      · exact (log2_bounds h0).2
    have h1 : 2 ^ (n.log2 + 2) = 2 * 2 ^ (n.log2 + 1) := by rw [Nat.pow_succ 2 (n.log2 + 1)]; omega
    have h2 : 2 ^ (n.log2 + 2) ≤ 2 ^ drop := Nat.pow_le_pow_right (by omega) (by omega)
    have a1 := Nat.div_eq_of_lt (show n < 2 ^ (n.log2 + 2) by omega)
    have a2 := Nat.div_eq_of_lt (show n < 2 ^ drop by omega)
    have a3 := Nat.mod_eq_of_lt (show n < 2 ^ (n.log2 + 2) by omega)
    have a4 := Nat.mod_eq_of_lt (show n < 2 ^ drop by omega)
    have c1 : decide (2 ^ (n.log2 + 2) < 2 * n) = false := decide_eq_false (by omega)
    have c2 : decide (2 ^ drop < 2 * n) = false := decide_eq_false (by omega)
    have c3 : decide (2 * n = 2 ^ (n.log2 + 2)) = false := decide_eq_false (by omega)
    have c4 : decide (2 * n = 2 ^ drop) = false := decide_eq_false (by omega)
    unfold stQ stMo
    rw [a1, a2, a3, a4, c1, c2, c3, c4]

/-- A whole number that is not too great has a pattern. -/
theorem whole_rv {q : Nat} (h : q ≤ 4503599627370496) : ∃ g, g < infR ∧ rv g = q * K74 := by
  by_cases h0 : q = 0
  · subst h0
    exact ⟨0, by decide, by rw [rv_zero, Nat.zero_mul]⟩
  · obtain ⟨l1, l2⟩ := log2_bounds h0
    have hl : q.log2 ≤ 52 := by
      rcases Nat.lt_or_ge 52 q.log2 with g | g
      · have : 2 ^ 53 ≤ 2 ^ q.log2 := Nat.pow_le_pow_right (by omega) (by omega)
        have e : (2 : Nat) ^ 53 = 9007199254740992 := by decide
        omega
      · exact g
    obtain ⟨a, ha⟩ : ∃ a, a = 52 - q.log2 := ⟨_, rfl⟩
    have e1 : 2 ^ q.log2 * 2 ^ a = 4503599627370496 := by rw [← Nat.pow_add, show q.log2 + a = 52 by omega]
    have s1 : 4503599627370496 ≤ q * 2 ^ a := by rw [← e1]; exact Nat.mul_le_mul_right _ l1
    have s2 : q * 2 ^ a < 9007199254740992 := by
      have : q * 2 ^ a < 2 ^ (q.log2 + 1) * 2 ^ a := Nat.mul_lt_mul_of_pos_right l2 (two_pow_pos a)
      rw [Nat.pow_succ, Nat.mul_right_comm, e1] at this
      omega
    obtain ⟨c, hc, hK⟩ : ∃ c : Nat, c = 1074 ∧ K74 = 2 ^ c := ⟨1074, rfl, K74_def⟩
    refine ⟨(c - a) * 4503599627370496 + q * 2 ^ a, ?_, ?_⟩
    · rw [show infR = 9218868437227405312 from rfl]; omega
    · rw [rv_form (c - a) (q * 2 ^ a) (by omega) (fun _ => s1), hK, Nat.mul_assoc, ← Nat.pow_add]
      congr 2
      omega
/-- So the whole number next to a number has one. -/
theorem whole_of {f : Nat} (hf : f < infR) (k : Nat) (s : Bool) : ∃ g, g < infR ∧ rv g = stQ k s (rv f) K74 * K74 := by
  have hK := K74_pos
  by_cases hr : rv f % K74 = 0
  · refine ⟨f, hf, ?_⟩
    have hm : stMo k s (rv f) K74 = false := by
      unfold stMo
      rw [hr]
      have c1 : decide (K74 < 2 * 0) = false := decide_eq_false (by omega)
      have c2 : decide (2 * 0 = K74) = false := decide_eq_false (by omega)
      rw [c1, c2]
      simp
    unfold stQ
    rw [hm]
    have := Nat.div_add_mod (rv f) K74
    rw [hr, Nat.mul_comm] at this
    simp only [Bool.toNat_false, Nat.add_zero]
    omega
  · refine whole_rv ?_
    have hq : stQ k s (rv f) K74 ≤ rv f / K74 + 1 := by
      unfold stQ
      have : (stMo k s (rv f) K74).toNat ≤ 1 := Bool.toNat_le _
      omega
    suffices rv f / K74 < 4503599627370496 by omega
    rw [Nat.div_lt_iff_lt_mul hK]
    obtain ⟨u, m, e, hm, hu⟩ := form f
    rw [e, rv_form u m (by omega) hu] at hr ⊢
    obtain ⟨c, hc, hK2⟩ : ∃ c : Nat, c = 1074 ∧ K74 = 2 ^ c := ⟨1074, rfl, K74_def⟩
    rw [hK2] at hr ⊢
    have huc : u < c := by
      rcases Nat.lt_or_ge u c with g | g
      · exact g
      · exfalso
        apply hr
        rw [show u = (u - c) + c by omega, Nat.pow_add, ← Nat.mul_assoc]
        exact Nat.mul_mod_left _ _
    have e2 : (2 : Nat) ^ c = 2 ^ (c - 1 - u) * 2 * 2 ^ u := by
      rw [← Nat.pow_succ, ← Nat.pow_add]
      congr 1
      omega
    rw [e2]
    have h1 : 1 ≤ 2 ^ (c - 1 - u) := two_pow_pos _
    have h2 : 4503599627370496 * (2 ^ (c - 1 - u) * 2 * 2 ^ u) = 9007199254740992 * 2 ^ u * 2 ^ (c - 1 - u) := by
      have e3 : (9007199254740992 : Nat) = 4503599627370496 * 2 := by decide
      rw [e3]
      ac_rfl
    rw [h2]
    refine Nat.lt_of_lt_of_le (Nat.mul_lt_mul_of_pos_right hm (two_pow_pos u)) ?_
    exact Nat.le_mul_of_pos_right _ h1

theorem rr_exact {d : Int} {neg : Bool} {g : Nat} (h : g < infR) : rr d neg (4 * rv g) = g := by
  have e : 4 * rv g / 4 = rv g := by omega
  have ha : away d neg (4 * rv g) = false := by
    unfold away
    rw [e, rung_rv, if_pos rfl]
  unfold rr
  rw [e, rung_rv, ha]
  split
  · omega
  · simp; omega
theorem zr_whole (q : Nat) : zr q 1 = 4 * (q * K74) := by
  rw [zr_eq, zq_one, K75_74]
  have : q * (2 * K74) = 2 * (q * K74) := Nat.mul_left_comm _ _ _
  omega
theorem zd_whole (q : Nat) : zd q 0 = 4 * (q * K74) := by
  obtain ⟨c, hc, hK⟩ : ∃ c : Nat, c = 1074 ∧ K74 = 2 ^ c := ⟨1074, rfl, K74_def⟩
  rw [zd_of (A := c + 1) (B := 0) (by omega), Nat.pow_zero, zq_one, hK, Nat.pow_succ]
  have : q * (2 ^ c * 2) = 2 * (q * 2 ^ c) := by rw [Nat.mul_comm (2 ^ c) 2, Nat.mul_left_comm]
  omega

/-- The magnitude's pattern of the whole number. -/
noncomputable def stR (k : Nat) (s : Bool) (f : Nat) : Nat := rung (stQ k s (rv f) K74 * K74)
theorem stR_spec {f : Nat} (hf : f < infR) (k : Nat) (s : Bool) : stR k s f < infR ∧ rv (stR k s f) = stQ k s (rv f) K74 * K74 := by
  obtain ⟨g, h1, h2⟩ := whole_of hf k s
  unfold stR
  rw [← h2, rung_rv]
  exact ⟨h1, rfl⟩
/-- What a step answers, of a pattern that is a number or an infinity. -/
noncomputable def stP (k : Nat) (x : Nat) : Nat := if mg x < infR then Ieee.double.word (sg x) (stR k (sg x) (mg x)) else x

/-- The model's whole number next to a pattern. -/
theorem integral_eq {way : Ieee.Toward} {k : Nat} (hw : (way = .down ∧ k = 1) ∨ (way = .up ∧ k = 2) ∨ (way = .zero ∧ k = 3) ∨ (way = .even ∧ k = 4)) {x : Nat} (hx : x < 18446744073709551616) (hn : isNaN x = false) :
    Ieee.double.write ((Ieee.double.read x).integral way) = stP k x := by
  have hi := infR_val
  unfold isNaN at hn
  have hn' := of_decide_eq_false hn
  unfold stP
  by_cases hf : mg x < infR
  · rw [if_pos hf]
    obtain ⟨m, e, hr, he, hv⟩ := read_fin hx hf
    rw [hr]
    have hcut : way.cut (sg x) (m <<< e.toNat) (-e).toNat = stQ k (sg x) (rv (mg x)) K74 := by
      rw [cut_gen hw, Nat.shiftLeft_eq]
      refine stQ_ratio k _ (two_pow_pos _) K74_pos ?_
      rw [← hv, K74_def]
      obtain ⟨c, hc⟩ : ∃ c : Nat, c = 1074 := ⟨_, rfl⟩
      rw [← hc]
      have : (e + 1074).toNat = (e + (c : Int)).toNat := by omega
      rw [this, Nat.mul_assoc, Nat.mul_assoc, ← Nat.pow_add, ← Nat.pow_add]
      congr 2
      omega
    show Ieee.double.nearest (sg x) (way.cut (sg x) (m <<< e.toNat) (-e).toNat) 0 = _
    rw [hcut, nearest_eq, zd_whole]
    obtain ⟨h1, h2⟩ := stR_spec hf k (sg x)
    rw [← h2, rr_exact h1]
  · rw [if_neg hf]
    have h1 : mg x = infR := by omega
    rw [read_inf hx h1]
    show Ieee.double.word (sg x) Ieee.double.infRung = x
    rw [word_eq, show Ieee.double.infRung = infR from rfl]
    have := split_pat hx
    rw [h1] at this
    exact this.symm
/-- What the document answers. -/
theorem rnd_whole (d : Int) (s : Bool) {f : Nat} (hf : f < infR) (k : Nat) : rnd d s (zr (stQ k s (rv f) K74) 1) = pat s (stR k s f) := by
  obtain ⟨h1, h2⟩ := stR_spec hf k s
  unfold rnd
  rw [zr_whole, ← h2, rr_exact h1]
end Go.Proofs.YtadijoeeaineaaaGreatDoor.Rn

/-
  Plain: rounding to whole numbers away from 0, bit by bit. Conditions: those that each theorem names.
-/
set_option linter.unusedVariables false
set_option linter.unusedSimpArgs false
namespace Go.Proofs.YtadijoeeaineaaaGreatDoor.Rn
open Nm

theorem p52 : (2 : Nat) ^ 52 = 4503599627370496 := by decide
theorem p53 : (2 : Nat) ^ 53 = 9007199254740992 := by decide
/-- What the bits' road answers of a magnitude's pattern. -/
def rAw (m : Nat) : Nat :=
  if m / 4503599627370496 < 1022 then 0 else if m / 4503599627370496 = 1022 then 4607182418800017408
  else if m / 4503599627370496 < 1075 then m + 2 ^ (1074 - m / 4503599627370496) - (m + 2 ^ (1074 - m / 4503599627370496)) % 2 ^ (1075 - m / 4503599627370496) else m
theorem st5 (s : Bool) (w p : Nat) (hp : 0 < p) : stQ 5 s w (2 * p) = (w + p) / (2 * p) := by
  have h1 := Nat.div_add_mod w (2 * p)
  have h2 := Nat.mod_lt w (show 0 < 2 * p by omega)
  unfold stQ stMo
  rw [if_neg (by omega), if_neg (by omega), if_neg (by omega), decide_eq_true (show (5 : Nat) = 5 from rfl), Bool.true_or, Bool.and_true]
  symm
  rw [Nat.div_eq_iff (by omega)]
  obtain ⟨q, hq⟩ : ∃ q, q = w / (2 * p) := ⟨_, rfl⟩
  obtain ⟨r, hr⟩ : ∃ r, r = w % (2 * p) := ⟨_, rfl⟩
  rw [← hq, ← hr] at h1 ⊢
  rw [← hr] at h2
  obtain ⟨P, hP⟩ : ∃ P, P = 2 * p * q := ⟨_, rfl⟩
  rw [← hP] at h1
  by_cases g : 2 * p ≤ 2 * r
  · have e : (decide (2 * p < 2 * r) || decide (2 * r = 2 * p)) = true := by
      rcases Nat.lt_or_eq_of_le g with g | g
      · rw [decide_eq_true g, Bool.true_or]
      · rw [decide_eq_true g.symm, Bool.or_true]
    rw [e]
    have e2 : (q + Bool.toNat true) * (2 * p) = P + 2 * p := by
      rw [hP, Bool.toNat_true, Nat.add_mul, Nat.one_mul, Nat.mul_comm q]
    rw [e2]
    omega
  · have e : (decide (2 * p < 2 * r) || decide (2 * r = 2 * p)) = false := by
      rw [decide_eq_false (by omega), decide_eq_false (by omega)]; rfl
    rw [e]
    have e2 : (q + Bool.toNat false) * (2 * p) = P := by
      rw [hP, Bool.toNat_false, Nat.add_zero, Nat.mul_comm q]
    rw [e2]
    omega
theorem rAw_eq {m : Nat} (hm : m < infR) (s : Bool) : rAw m = stR 5 s m := by
  have hi := infR_val
  have hK := K74_pos
  obtain ⟨h1, h2⟩ := stR_spec hm 5 s
  refine rv_inj ?_
  rw [h2]
  obtain ⟨E, hE⟩ : ∃ E, E = m / 4503599627370496 := ⟨_, rfl⟩
  unfold rAw
  rw [← hE]
  obtain ⟨h, hh, hK2⟩ : ∃ h : Nat, h = 1073 ∧ K74 = 2 * 2 ^ h := ⟨1073, rfl, by rw [K74_def]; obtain ⟨c, hc⟩ : ∃ c : Nat, c = 1073 := ⟨_, rfl⟩; rw [show 1074 = c + 1 by omega, show 1073 = c by omega, Nat.pow_succ, Nat.mul_comm]⟩
  have hp := two_pow_pos h
  rw [hK2, st5 s (rv m) (2 ^ h) hp]
  by_cases c1 : E < 1022
  · rw [if_pos c1, rv_zero]
    have hv : rv m < 2 ^ h := by
      unfold rv
      split
      · rename_i g
        have a : 2 ^ 52 ≤ 2 ^ h := Nat.pow_le_pow_right (by omega) (by omega)
        have e : (2 : Nat) ^ 52 = 4503599627370496 := by decide
        omega
      · rw [← hE]
        have a1 : (4503599627370496 + m % 4503599627370496) * 2 ^ (E - 1) < 2 ^ 53 * 2 ^ (E - 1) := Nat.mul_lt_mul_of_pos_right (by rw [p53]; omega) (two_pow_pos _)
        rw [← Nat.pow_add] at a1
        have a2 : 2 ^ (53 + (E - 1)) ≤ 2 ^ h := Nat.pow_le_pow_right (by omega) (by omega)
        omega
    rw [Nat.div_eq_of_lt (by omega), Nat.zero_mul]
  · rw [if_neg c1]
    have hrv : rv m = (4503599627370496 + m % 4503599627370496) * 2 ^ (E - 1) := by
      unfold rv
      rw [if_neg (by omega), ← hE]
    obtain ⟨w, hw⟩ : ∃ w, w = 4503599627370496 + m % 4503599627370496 := ⟨_, rfl⟩
    rw [← hw] at hrv
    have w1 : 4503599627370496 ≤ w := by omega
    have w2 : w < 9007199254740992 := by omega
    have hmw : m = (E - 1) * 4503599627370496 + w := by omega
    by_cases c2 : E = 1022
    · rw [if_pos c2]
      have e1 : rv 4607182418800017408 = 2 * 2 ^ h := by
        rw [show (4607182418800017408 : Nat) = (h - 51) * 4503599627370496 + 4503599627370496 by omega, rv_form (h - 51) 4503599627370496 (by omega) (fun _ => Nat.le_refl _), show (4503599627370496 : Nat) = 2 ^ 52 by decide, ← Nat.pow_add, show 52 + (h - 51) = h + 1 by omega, Nat.pow_succ, Nat.mul_comm]
      rw [e1]
      have b1 : 2 ^ h ≤ rv m := by
        rw [hrv]
        have : 2 ^ 52 * 2 ^ (E - 1) ≤ w * 2 ^ (E - 1) := Nat.mul_le_mul_right _ (by rw [p52]; omega)
        rw [← Nat.pow_add, show 52 + (E - 1) = h by omega] at this
        exact this
      have b2 : rv m < 2 * 2 ^ h := by
        rw [hrv]
        have : w * 2 ^ (E - 1) < 2 ^ 53 * 2 ^ (E - 1) := Nat.mul_lt_mul_of_pos_right (by rw [p53]; omega) (two_pow_pos _)
        rw [← Nat.pow_add, show 53 + (E - 1) = h + 1 by omega, Nat.pow_succ, Nat.mul_comm _ 2] at this
        exact this
      have b3 : (rv m + 2 ^ h) / (2 * 2 ^ h) = 1 := by
        rw [Nat.div_eq_iff (by omega)]
        omega
      rw [b3, Nat.one_mul]
    · rw [if_neg c2]
      by_cases c3 : E < 1075
      · rw [if_pos c3]
        obtain ⟨c, hc⟩ : ∃ c, c = 1074 - E := ⟨_, rfl⟩
        rw [← hc, show 1075 - E = c + 1 by omega]
        have hc51 : c ≤ 51 := by omega
        have hpc : 2 ^ h = 2 ^ c * 2 ^ (E - 1) := by rw [← Nat.pow_add]; congr 1; omega
        obtain ⟨u, hu⟩ : ∃ u, u = E - 1 := ⟨_, rfl⟩
        rw [← hu] at hrv hmw hpc
        have hup := two_pow_pos u
        have hcp := two_pow_pos c
        have e1 : (rv m + 2 ^ h) / (2 * 2 ^ h) = (w + 2 ^ c) / (2 * 2 ^ c) := by
          rw [hrv, hpc, ← Nat.add_mul, ← Nat.mul_assoc, Nat.mul_div_mul_right _ _ hup]
        rw [e1]
        have e2 : (2 : Nat) ^ (c + 1) = 2 * 2 ^ c := by rw [Nat.pow_succ, Nat.mul_comm]
        rw [e2]
        obtain ⟨p, hpp⟩ : ∃ p, p = 2 ^ c := ⟨_, rfl⟩
        rw [← hpp] at hpc hcp ⊢
        -- 2p divides 2^52
        obtain ⟨t, ht⟩ : ∃ t, 4503599627370496 = 2 * p * t := ⟨2 ^ (51 - c), by
          rw [hpp, Nat.mul_assoc, ← Nat.pow_add, show c + (51 - c) = 51 by omega]⟩
        have e3 : (m + p) % (2 * p) = (w + p) % (2 * p) := by
          rw [hmw, ht, Nat.add_assoc, show u * (2 * p * t) = 2 * p * (u * t) by ac_rfl, Nat.mul_add_mod]
        rw [e3]
        have d1 := Nat.div_add_mod (w + p) (2 * p)
        obtain ⟨q, hq⟩ : ∃ q, q = (w + p) / (2 * p) := ⟨_, rfl⟩
        rw [← hq] at d1 ⊢
        have e4 : m + p - (w + p) % (2 * p) = u * 4503599627370496 + 2 * p * q := by omega
        rw [e4]
        have q1 : 2 * p * q ≤ 9007199254740992 := by
          have z1 : q ≤ 2 * t := by
            rw [hq]
            have z2 : (w + p) < (2 * t + 1) * (2 * p) := by
              rw [Nat.add_mul, Nat.one_mul, show 2 * t * (2 * p) = 2 * (2 * p * t) by ac_rfl, ← ht]
              omega
            have := (Nat.div_lt_iff_lt_mul (show 0 < 2 * p by omega)).2 z2
            omega
          have := Nat.mul_le_mul_left (2 * p) z1
          rw [show 2 * p * (2 * t) = 2 * (2 * p * t) by ac_rfl, ← ht] at this
          omega
        have q2 : 4503599627370496 ≤ 2 * p * q := by
          have z1 : t ≤ q := by
            rw [hq]
            refine (Nat.le_div_iff_mul_le (show 0 < 2 * p by omega)).2 ?_
            rw [Nat.mul_comm, ← ht]
            omega
          have := Nat.mul_le_mul_left (2 * p) z1
          omega
        rw [rv_form u (2 * p * q) q1 (fun _ => q2), hpc]
        ac_rfl
      · rw [if_neg c3]
        obtain ⟨a, ha⟩ : ∃ a, E - 1 = a + (h + 1) := ⟨E - 1 - (h + 1), by omega⟩
        have e1 : rv m = w * 2 ^ a * (2 * 2 ^ h) := by
          rw [hrv, ha, Nat.pow_add, Nat.pow_succ, Nat.mul_comm (2 ^ h) 2]
          ac_rfl
        have e2 : (rv m + 2 ^ h) / (2 * 2 ^ h) = w * 2 ^ a := by
          rw [Nat.div_eq_iff (by omega), ← e1]
          omega
        rw [e2, ← e1]
end Go.Proofs.YtadijoeeaineaaaGreatDoor.Rn

/-
  Words for memory: a slice of uint32 that reads as a list of words; what keeps it. Conditions: none but those that each theorem names.
-/
namespace Go.Proofs.YtadijoeeaineaaaGreatDoor
open Go.RowKit Nm

theorem block_of_add (a : Addr) (n : Nat) : (a.add n).block = a.block := by unfold Addr.add; split <;> rfl
theorem add_of_add (a : Addr) (i j : Nat) : (a.add i).add j = a.add (i + j) := by
  unfold Addr.add
  by_cases hi : i = 0 <;> by_cases hj : j = 0 <;> simp [hi, hj, Nat.add_assoc]

/-- The slice '.slice A n c' of uint32 reads as the words xs. -/
def Wds (w : World) (A : Option Addr) (n c : Nat) (xs : List Nat) : Prop :=
  xs.length = n ∧ n ≤ c ∧ c ≤ maxLen ∧ Ws xs ∧ (0 < n → ∃ ad, A = some ad ∧ ad.block < w.heap.size ∧ ∀ (k x : Nat), xs[k]? = some x → w.cell? (ad.add k) = some (.int .u32 (x : Int)))

section
variable {w w' : World} {n c : Nat} {A : Option Addr} {xs : List Nat}
theorem Wds.len (h : Wds w A n c xs) : xs.length = n := h.1
theorem Wds.ws (h : Wds w A n c xs) : Ws xs := h.2.2.2.1
theorem Wds.lec (h : Wds w A n c xs) : n ≤ c := h.2.1
theorem Wds.cmax (h : Wds w A n c xs) : c ≤ maxLen := h.2.2.1
theorem Wds.at_ {k : Nat} (h : Wds w A n c xs) (hk : k < n) : ∃ ad, ∃ hx : k < xs.length, A = some ad ∧ ad.block < w.heap.size ∧ w.cell? (ad.add k) = some (.int .u32 (xs[k] : Int)) := by
  obtain ⟨ad, e, hb, hc⟩ := h.2.2.2.2 (by omega)
  have hl : k < xs.length := by have := h.1; omega
  exact ⟨ad, hl, e, hb, hc k _ (List.getElem?_eq_getElem hl)⟩
theorem Wds.keep (h : Wds w A n c xs) (hs : w.heap.size ≤ w'.heap.size) (hk : ∀ p : Addr, p.block < w.heap.size → w'.cell? p = w.cell? p) : Wds w' A n c xs :=
  ⟨h.1, h.2.1, h.2.2.1, h.2.2.2.1, fun hn => by
    obtain ⟨ad, e, hb, hc⟩ := h.2.2.2.2 hn
    exact ⟨ad, e, by omega, fun k x hu => (hk _ (by rw [block_of_add]; exact hb)).trans (hc k x hu)⟩⟩
theorem Wds.below (h : Wds w A n c xs) (hb : Below w.heap.size w w') : Wds w' A n c xs := h.keep hb.size fun _ hp => hb.cell hp
theorem Wds.drew (h : Wds w A n c xs) : Wds w.drew A n c xs := h
theorem Wds.drewN (h : Wds w A n c xs) (k : Nat) : Wds (w.drewN k) A n c xs := h
theorem Wds.alloc (h : Wds w A n c xs) (o : Obj) : Wds (w.alloc o) A n c xs := h.keep (by simp) fun p hp => World.cell?_alloc_lt w o p (by omega)
theorem Wds.nil_ (hc : c ≤ maxLen) : Wds w A 0 c [] := ⟨rfl, Nat.zero_le _, hc, Ws.nil, fun h => absurd h (by omega)⟩
end

/-- w' is w, but for new blocks and draws. -/
def Ext (w w' : World) : Prop := Below w.heap.size w w'
section
variable {w w' w'' : World}
theorem Ext.refl (w : World) : Ext w w := Below.refl _ _
theorem Ext.trans (h : Ext w w') (k : Ext w' w'') : Ext w w'' := Below.trans h (Below.mono k (Below.size h))
theorem Ext.size (h : Ext w w') : w.heap.size ≤ w'.heap.size := Below.size h
theorem Ext.drew (h : Ext w w') : Ext w w'.drew := Below.drew h
theorem Ext.drewN (h : Ext w w') (n : Nat) : Ext w (w'.drewN n) := by
  have hb : Below w.heap.size w w' := h
  exact ⟨hb.os, hb.tape, hb.output, hb.size, hb.block⟩
theorem Ext.alloc (h : Ext w w') (o : Obj) : Ext w (w'.alloc o) := Below.alloc h (Below.size h) o
theorem Ext.setCell (h : Ext w w') {p : Addr} (hp : w.heap.size ≤ p.block) (u : Value) : Ext w (w'.setCell p u) := Below.setCell h hp u
theorem Ext.cell (h : Ext w w') {p : Addr} (hp : p.block < w.heap.size) : w'.cell? p = w.cell? p := Below.cell h hp
theorem Ext.frozen (h : Ext w w') {p : Addr} (hp : p.block < w.heap.size) : w'.frozen? p = w.frozen? p := Below.frozen h hp
theorem Ext.grown (h : Ext w w') {row : Option Nat} (hg : w'.grownBy w'' row) (hr : ∀ k, row = some k → w.heap.size ≤ k) : Ext w w'' := Below.grown h hg (Below.size h) hr
theorem Wds.ext {n c : Nat} {A : Option Addr} {xs : List Nat} (h : Wds w A n c xs) (hb : Ext w w') : Wds w' A n c xs := h.below hb
theorem Wds.set_new {n c : Nat} {A : Option Addr} {xs : List Nat} {p : Addr} (h : Wds w A n c xs) (hx : Ext w w') (hp : w.heap.size ≤ p.block) (u : Value) : Wds (w'.setCell p u) A n c xs := h.ext (hx.setCell hp u)
end

/-- Words as cells. -/
def u32s (xs : List Nat) : List Value := xs.map fun (x : Nat) => Value.int .u32 (x : Int)
theorem u32s_length (xs : List Nat) : (u32s xs).length = xs.length := by simp [u32s]
theorem u32s_get {xs : List Nat} {k x : Nat} (h : xs[k]? = some x) : (u32s xs)[k]? = some (Value.int .u32 (x : Int)) := by
  simp [u32s, h]
theorem u32s_snoc (xs : List Nat) (x : Nat) : u32s xs ++ [Value.int .u32 (x : Int)] = u32s (xs ++ [x]) := by simp [u32s]
theorem u32s_nil : u32s [] = [] := rfl

/-- A row of the call's own reads as its words. -/
theorem Wds.of_own {w : World} {base : Nat} {e : TypeId} {v : Value} {n : Nat} {xs : List Nat} (h : w.ownsRow base e 1 v n (u32s xs)) (hw : Ws xs) :
    ∃ A c, v = .slice A n c ∧ Wds w A n c xs := by
  have hl : xs.length = n := by have := h.1; rw [u32s_length] at this; omega
  rcases h.2 with ⟨rfl, rfl⟩ | ⟨g, cap, cur, rfl, _, hh, hnc, hcm, _⟩
  · exact ⟨none, 0, rfl, hl, Nat.le_refl _, by unfold maxLen; omega, hw, fun h => absurd h (by omega)⟩
  · refine ⟨_, cap, rfl, hl, hnc, hcm, hw, fun _ => ⟨_, rfl, ?_, fun k x hx => h.cells (g := g) rfl k _ (u32s_get hx)⟩⟩
    rcases Nat.lt_or_ge g w.heap.size with hlt | hge
    · exact hlt
    · rw [Array.getElem?_eq_none hge] at hh; cases hh

/-- What is answered: a list of the words of V, in memory; what was there is as it was. -/
def RetW (V : Nat) (w : World) (e : Ending) (w' : World) : Prop := ∃ A n c, e = .returned (.slice A n c) ∧ Wds w' A n c (nd V) ∧ Ext w w'

theorem val_int {k : IntKind} {a b : Int} (h : a = b) : Value.int k a = Value.int k b := by rw [h]
theorem and_mask (v lo : Nat) (hv : v < 18446744073709551616) (h : lo = v % 4294967296) : bits .and .u64 (v : Int) 4294967295 = (lo : Int) := by
  rw [u64_and _ _ (by omega) (by omega) (by omega) (by omega)]
  rw [Int.toNat_natCast, show (4294967295 : Int).toNat = 4294967295 from rfl, nat_mask32, h]
theorem ret_int {k : IntKind} {a b : Int} (h : a = b) : Ending.returned (.int k a) = .returned (.int k b) := by rw [h]
theorem ret_bool {a b : Bool} (h : a = b) : Ending.returned (.bool a) = .returned (.bool b) := by rw [h]
theorem ret_float {k : FloatKind} {a b : Nat} (h : a = b) : Ending.returned (.float k a) = .returned (.float k b) := by rw [h]
end Go.Proofs.YtadijoeeaineaaaGreatDoor

/-
  What the library's functions without a body answer. Conditions: those that each theorem names.
-/
namespace Go.Proofs.YtadijoeeaineaaaGreatDoor
open Go.RowKit Nm Rn
set_option maxRecDepth 100000
set_option linter.unusedVariables false
set_option linter.unusedSimpArgs false

@[go_sem] theorem run_store_float (P : Program) (w : World) (a : Addr) (m : Mode) (k : FloatKind) (b : Nat) : (store a (.float k b) m).run P w = stored P w a (.float k b) m := run_store P w a _ m rfl

theorem callF64b (args : Array Value) (w : World) : (callFunc 21 args).run Tryz.prog w = ((Extern.MathFloatBits.float64bits args).run Tryz.prog w).andThen fun v w' => .ok (.value v) w' :=
  run_callFunc_extern Tryz.func21 (by kernel_rfl) (by kernel_rfl) (by kernel_rfl) (by kernel_rfl) args w
@[go_sem] theorem callF64b' (b : Nat) (w : World) : (callFunc 21 #[.float .f64 b]).run Tryz.prog w = .ok (.value (.int .u64 (b : Int))) w := by
  rw [callF64b]; rfl
theorem callF64f (args : Array Value) (w : World) : (callFunc 28 args).run Tryz.prog w = ((Extern.MathFloatBits.float64frombits args).run Tryz.prog w).andThen fun v w' => .ok (.value v) w' :=
  run_callFunc_extern Tryz.func28 (by kernel_rfl) (by kernel_rfl) (by kernel_rfl) (by kernel_rfl) args w
@[go_sem] theorem callF64f' (n : Int) (w : World) : (callFunc 28 #[.int .u64 n]).run Tryz.prog w = .ok (.value (.float .f64 n.toNat)) w := by
  rw [callF64f]; rfl

/-- The sign's place. -/
theorem andNot_top (b : Nat) (h : b < 18446744073709551616) : bits .andNot .u64 (b : Int) 9223372036854775808 = (mg b : Int) := by
  have e : (9223372036854775808 : Int) = ((9223372036854775808 : Nat) : Int) := rfl
  rw [e, u64_andNot_nat _ _ h (by omega)]
  congr 1
  have e2 : (18446744073709551615 - 9223372036854775808 : Nat) = 2 ^ 63 - 1 := by decide
  rw [e2, Nat.and_two_pow_sub_one_eq_mod]
  rfl

set_option maxHeartbeats 400000 in
theorem isnan_any (b : Nat) (w : World) (h : b < 18446744073709551616) :
    Calls Tryz.prog 12 #[.int .u64 (b : Int)] w fun e w' => e = .returned (.bool (isNaN b)) ∧ w = w' := by
  have g := andNot_top b h
  have HF : Hid (decide ((9218868437227405312 : Int) < (mg b : Int)) = isNaN b) := Lib.hid (by unfold isNaN; rw [infR_val]; exact decide_eq_decide.2 (by omega))
  clear h
  go_enter Tryz.func12, Tryz.ntmps12
  go_wp2
  go_ret
  exact ⟨ret_bool HF.out, rfl⟩
set_option maxHeartbeats 400000 in
theorem isinf3_any (b : Nat) (w : World) (h : b < 18446744073709551616) :
    Calls Tryz.prog 13 #[.int .u64 (b : Int)] w fun e w' => e = .returned (.bool (isInf b)) ∧ w = w' := by
  have g := andNot_top b h
  have HF : Hid (((mg b : Int) == 9218868437227405312) = isInf b) := Lib.hid (by unfold isInf; rw [infR_val, Bool.eq_iff_iff, beq_iff_eq, decide_eq_true_iff]; omega)
  clear h
  go_enter Tryz.func13, Tryz.ntmps13
  go_wp2
  go_ret
  exact ⟨ret_bool HF.out, rfl⟩
set_option maxHeartbeats 400000 in
theorem plain3_any (b : Nat) (w : World) (h : b < 18446744073709551616) :
    Calls Tryz.prog 34 #[.int .u64 (b : Int)] w fun e w' => e = .returned (.int .u64 (plN b : Nat)) ∧ w = w' := by
  have hn := isnan_any b w h
  by_cases h0 : b = 9223372036854775808
  · have HF : Hid ((0 : Int) = (plN b : Nat)) := Lib.hid (by unfold plN; rw [if_pos h0]; rfl)
    clear hn h
    have h1 : ((b : Int) == 9223372036854775808) = true := by rw [beq_iff_eq]; omega
    clear h0
    go_enter Tryz.func34, Tryz.ntmps34
    go_wp2
    go_ret
    exact ⟨ret_int HF.out, rfl⟩
  · have h1 : ((b : Int) == 9223372036854775808) = false := by rw [beq_eq_false_iff_ne]; omega
    cases h2 : isNaN b
    · have HF : Hid ((b : Int) = (plN b : Nat)) := Lib.hid (by unfold plN; rw [if_neg h0, h2, if_neg (by simp)])
      rw [h2] at hn
      have HN := Lib.hid hn
      clear hn h h0 h2
      go_enter Tryz.func34, Tryz.ntmps34
      go_wp2_with fail
      refine HN.out.mono ?_
      rintro e w1 ⟨rfl, rfl⟩
      go_wp2
      go_ret
      exact ⟨ret_int HF.out, rfl⟩
    · have HF : Hid ((9221120237041090561 : Int) = (plN b : Nat)) := Lib.hid (by unfold plN; rw [if_neg h0, h2, if_pos rfl]; rfl)
      rw [h2] at hn
      have HN := Lib.hid hn
      clear hn h h0 h2
      go_enter Tryz.func34, Tryz.ntmps34
      go_wp2_with fail
      refine HN.out.mono ?_
      rintro e w1 ⟨rfl, rfl⟩
      go_wp2
      go_ret
      exact ⟨ret_int HF.out, rfl⟩
end Go.Proofs.YtadijoeeaineaaaGreatDoor

/-
  Comparisons of floats in the walk's own form; what math.Inf, Abs, IsNaN and IsInf answer. Conditions: those that each theorem names.
-/
namespace Go.Proofs.YtadijoeeaineaaaGreatDoor
open Go.RowKit Nm Rn
set_option maxRecDepth 100000
set_option linter.unusedVariables false
set_option linter.unusedSimpArgs false

theorem fo_lt {x y : Nat} (hx : x < 18446744073709551616) (hy : y < 18446744073709551616) : (FloatKind.f64.format.order x y == some .lt) = ltB x y := order_lt hx hy
theorem fo_eq {x y : Nat} (hx : x < 18446744073709551616) (hy : y < 18446744073709551616) : (FloatKind.f64.format.order x y == some .eq) = eqB x y := order_eqv hx hy
theorem fo_ne {x y : Nat} (hx : x < 18446744073709551616) (hy : y < 18446744073709551616) : (FloatKind.f64.format.order x y != some .eq) = !eqB x y := by rw [bne, fo_eq hx hy]
theorem fo_gt {x y : Nat} (hx : x < 18446744073709551616) (hy : y < 18446744073709551616) : (FloatKind.f64.format.order x y == some .gt) = ltB y x := order_gt hx hy
theorem fo_le {x y : Nat} (hx : x < 18446744073709551616) (hy : y < 18446744073709551616) : (FloatKind.f64.format.order x y == some .lt || FloatKind.f64.format.order x y == some .eq) = leB x y := order_le hx hy
theorem fo_ge {x y : Nat} (hx : x < 18446744073709551616) (hy : y < 18446744073709551616) : (FloatKind.f64.format.order x y == some .gt || FloatKind.f64.format.order x y == some .eq) = leB y x := order_ge hx hy
theorem infR_lt : infR < 18446744073709551616 := by rw [infR_val]; omega
theorem minf_lt : minf < 18446744073709551616 := by rw [minf_val]; omega

set_option maxHeartbeats 400000 in
theorem inf_p (w : World) : Calls Tryz.prog 27 #[.int .i64 1] w fun e w' => e = .returned (.float .f64 infR) ∧ w = w' := by
  go_enter Tryz.func27, Tryz.ntmps27
  go_wp2
  go_ret
  exact ⟨rfl, rfl⟩
set_option maxHeartbeats 400000 in
theorem inf_m (w : World) : Calls Tryz.prog 27 #[.int .i64 (-1)] w fun e w' => e = .returned (.float .f64 minf) ∧ w = w' := by
  go_enter Tryz.func27, Tryz.ntmps27
  go_wp2
  go_ret
  exact ⟨rfl, rfl⟩

theorem mg_lt64 (b : Nat) : mg b < 18446744073709551616 := by have := mg_lt b; omega
theorem sg_mg (b : Nat) : sg (mg b) = false := by unfold sg; exact decide_eq_false (by have := mg_lt b; omega)
theorem mg_mg (b : Nat) : mg (mg b) = mg b := by unfold mg; omega
theorem key_mg (b : Nat) : key (mg b) = (mg b : Int) := by unfold key; rw [sg_mg, mg_mg]; rfl
theorem nan_mg (b : Nat) : isNaN (mg b) = isNaN b := by unfold isNaN; rw [mg_mg]
theorem eqB_self (b : Nat) : eqB b b = !isNaN b := by unfold eqB; cases isNaN b <;> simp
theorem lt_max (b : Nat) : ltB 9218868437227405311 (mg b) = isInf b := by
  unfold ltB
  rw [nan_mg, key_mg, show isNaN 9218868437227405311 = false from rfl, show key 9218868437227405311 = 9218868437227405311 from rfl]
  unfold isNaN isInf
  rw [infR_val, Bool.eq_iff_iff]
  simp
  omega

set_option maxHeartbeats 400000 in
theorem mabs_any (b : Nat) (w : World) (h : b < 18446744073709551616) :
    Calls Tryz.prog 82 #[.float .f64 b] w fun e w' => e = .returned (.float .f64 (mg b)) ∧ w = w' := by
  have g := andNot_top b h
  go_enter Tryz.func82, Tryz.ntmps82
  go_wp2
  go_ret
  exact ⟨rfl, rfl⟩
set_option maxHeartbeats 400000 in
theorem mnan_any (b : Nat) (w : World) (h : b < 18446744073709551616) :
    Calls Tryz.prog 54 #[.float .f64 b] w fun e w' => e = .returned (.bool (isNaN b)) ∧ w = w' := by
  have hq := fo_ne h h
  rw [eqB_self, Bool.not_not] at hq
  clear h
  go_enter Tryz.func54, Tryz.ntmps54
  go_wp2
  go_ret
  exact ⟨rfl, rfl⟩
set_option maxHeartbeats 400000 in
theorem misinf_any (b : Nat) (w : World) (h : b < 18446744073709551616) :
    Calls Tryz.prog 56 #[.float .f64 b, .int .i64 0] w fun e w' => e = .returned (.bool (isInf b)) ∧ w = w' := by
  have hq := fo_gt (mg_lt64 b) (show 9218868437227405311 < 18446744073709551616 by omega)
  rw [lt_max] at hq
  have HA := Lib.hid (fun w => mabs_any b w h)
  clear h
  go_enter Tryz.func56, Tryz.ntmps56
  go_wp2_with (go_at_call 82; refine (HA.out _).mono ?_; rintro e w' ⟨rfl, rfl⟩)
  go_ret
  exact ⟨rfl, rfl⟩
end Go.Proofs.YtadijoeeaineaaaGreatDoor
