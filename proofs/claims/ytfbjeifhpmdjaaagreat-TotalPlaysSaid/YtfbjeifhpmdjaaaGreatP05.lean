/-
  Plain: patterns with the sign turned; the negative of an interval. Conditions: those that each theorem names.
-/
import Derived.Test.YtfbjeifhpmdjaaaGreatP03
import Derived.Test.YtfbjeifhpmdjaaaGreatP04
set_option linter.unusedVariables false

namespace Go.Proofs.YtfbjeifhpmdjaaaGreat.Rn
open Nm

/-- The sign turned. -/
def ng (b : Nat) : Nat := if sg b then b - 9223372036854775808 else b + 9223372036854775808
theorem ng_lt {b : Nat} (h : b < 18446744073709551616) : ng b < 18446744073709551616 := by
  unfold ng sg; split <;> rename_i h1
  · have := of_decide_eq_true h1; omega
  · have := of_decide_eq_false (Bool.eq_false_iff.2 h1); omega
theorem mg_ng {b : Nat} (h : b < 18446744073709551616) : mg (ng b) = mg b := by
  unfold ng mg sg; split <;> rename_i h1
  · have := of_decide_eq_true h1; omega
  · have := of_decide_eq_false (Bool.eq_false_iff.2 h1); omega
theorem sg_ng {b : Nat} (h : b < 18446744073709551616) : sg (ng b) = !sg b := by
  unfold ng
  by_cases h1 : 9223372036854775808 ≤ b
  · have e : sg b = true := decide_eq_true h1
    rw [e, if_pos rfl]; unfold sg; exact decide_eq_false (by omega)
  · have e : sg b = false := decide_eq_false h1
    rw [e, if_neg (by simp)]; unfold sg; exact decide_eq_true (by omega)
theorem sv_ng {b : Nat} (h : b < 18446744073709551616) : sv (ng b) = -sv b := by
  unfold sv; rw [sg_ng h, mg_ng h]; cases sg b <;> simp
theorem key_ng {b : Nat} (h : b < 18446744073709551616) : key (ng b) = -key b := by
  unfold key; rw [sg_ng h, mg_ng h]; cases sg b <;> simp
theorem ng_xor {b : Nat} (h : b < 18446744073709551616) : b ^^^ 9223372036854775808 = ng b := by
  have e : (9223372036854775808 : Nat) = 2 ^ 63 := by rfl
  unfold ng
  refine Nat.eq_of_testBit_eq fun i => ?_
  rw [Nat.testBit_xor, e, Nat.testBit_two_pow]
  by_cases h1 : sg b = true
  · rw [if_pos h1]
    have h2 := of_decide_eq_true h1
    have e2 : b = 2 ^ 63 + (b - 2 ^ 63) := by omega
    by_cases hi : 63 = i
    · subst hi
      have : (b - 2 ^ 63).testBit 63 = false := Nat.testBit_lt_two_pow (by omega)
      rw [this]
      have : b.testBit 63 = true := by rw [e2, Nat.testBit_two_pow_add_eq, this]; rfl
      rw [this]; simp
    · rw [show decide (63 = i) = false from decide_eq_false hi, Bool.xor_false]
      rcases Nat.lt_or_ge i 63 with h3 | h3
      · conv => lhs; rw [e2]
        exact Nat.testBit_two_pow_add_gt h3 _
      · rw [Nat.testBit_lt_two_pow (Nat.lt_of_lt_of_le h (Nat.pow_le_pow_right (n := 2) (by omega) (show 64 ≤ i by omega)))]
        rw [Nat.testBit_lt_two_pow (Nat.lt_of_lt_of_le (show b - 2 ^ 63 < 2 ^ 64 by omega) (Nat.pow_le_pow_right (by omega) (show 64 ≤ i by omega)))]
  · rw [if_neg h1]
    have h2 := of_decide_eq_false (Bool.eq_false_iff.2 h1)
    rw [Nat.add_comm b]
    by_cases hi : 63 = i
    · subst hi
      rw [Nat.testBit_two_pow_add_eq]
      simp
    · rw [show decide (63 = i) = false from decide_eq_false hi, Bool.xor_false]
      rcases Nat.lt_or_ge i 63 with h3 | h3
      · exact (Nat.testBit_two_pow_add_gt h3 _).symm
      · rw [Nat.testBit_lt_two_pow (Nat.lt_of_lt_of_le h (Nat.pow_le_pow_right (n := 2) (by omega) (show 64 ≤ i by omega)))]
        rw [Nat.testBit_lt_two_pow (Nat.lt_of_lt_of_le (show 2 ^ 63 + b < 2 ^ 64 by omega) (Nat.pow_le_pow_right (by omega) (show 64 ≤ i by omega)))]

/-- The ends of an interval's negative. -/
def ngLo (lo hi : Nat) : Nat := if rdLo lo hi = infR ∧ rdHi lo hi = minf then infR else pl (ng (rdHi lo hi))
def ngHi (lo hi : Nat) : Nat := if rdLo lo hi = infR ∧ rdHi lo hi = minf then minf else pl (ng (rdLo lo hi))

theorem mg_fin {b : Nat} (h : b < 18446744073709551616) (hn : isNaN b = false) (h1 : b ≠ infR) (h2 : b ≠ minf) : mg b < infR := by
  have h3 : ¬ (infR < mg b) := of_decide_eq_false hn
  have e1 := infR_val
  have e2 := minf_val
  unfold mg at h3 ⊢
  omega
theorem fb_ng {b : Nat} (h : b < 18446744073709551616) : fbN (ng b) = fbN b ∧ fbD (ng b) = fbD b := by
  have e := mg_ng h
  unfold mg at e
  have e1 : ng b % 4503599627370496 = b % 4503599627370496 := by omega
  have e2 : ng b / 4503599627370496 % 2048 = b / 4503599627370496 % 2048 := by omega
  unfold fbN fbD fbSig fbExp
  rw [e1, e2]
  exact ⟨rfl, rfl⟩
theorem rnd_ng (d : Int) {b : Nat} (h : b < 18446744073709551616) (hf : mg b < infR) : rnd d (!(sg b && decide (mg b ≠ 0)) && decide (fbN b ≠ 0)) (zr (fbN b) (fbD b)) = pl (ng b) := by
  have h1 := rnd_bits d (ng_lt h) (by rw [mg_ng h]; exact hf)
  rw [sg_ng h, mg_ng h, (fb_ng h).1, (fb_ng h).2] at h1
  rw [← h1]
  congr 1
  have e : decide (fbN b ≠ 0) = decide (mg b ≠ 0) := decide_eq_decide.2 (not_congr (fbN_zero b))
  rw [e]
  cases sg b <;> cases decide (mg b ≠ 0) <;> rfl
theorem rd_ends {lo hi : Nat} (hl : lo < 18446744073709551616) (hh : hi < 18446744073709551616) (h : ¬ (rdLo lo hi = infR ∧ rdHi lo hi = minf)) :
    rdLo lo hi < 18446744073709551616 ∧ rdHi lo hi < 18446744073709551616 ∧ isNaN (rdLo lo hi) = false ∧ isNaN (rdHi lo hi) = false ∧ rdLo lo hi ≠ infR ∧ rdHi lo hi ≠ minf ∧ sndB lo hi = true ∧ key (rdLo lo hi) ≤ key (rdHi lo hi) := by
  cases hs : sndB lo hi
  · exact absurd (by unfold rdLo rdHi; rw [hs]; exact ⟨rfl, rfl⟩) h
  · have hn := snd_nan hs
    have e1 : rdLo lo hi = pl lo := by unfold rdLo; rw [hs]; rfl
    have e2 : rdHi lo hi = pl hi := by unfold rdHi; rw [hs]; rfl
    have hs' := hs
    unfold sndB ltB leB at hs'
    simp only [Bool.and_eq_true, decide_eq_true_eq] at hs'
    have k1 := hs'.1.2.2
    have k2 := hs'.2.2
    have k3 := hs'.1.1.2
    have i1 := infR_val
    have i2 := minf_val
    have kp : ∀ b, key (pl b) = key b := by
      intro b
      unfold pl
      split
      · rename_i hb; subst hb; rfl
      · rfl
    have np : ∀ b, isNaN b = false → isNaN (pl b) = false := by
      intro b hb
      unfold pl
      split
      · rfl
      · exact hb
    rw [e1, e2]
    refine ⟨pl_lt hl, pl_lt hh, np _ hn.1, np _ hn.2, fun hx => ?_, fun hx => ?_, rfl, by rw [kp, kp]; exact k3⟩
    · have := kp lo; rw [hx] at this; omega
    · have := kp hi; rw [hx] at this; omega
end Go.Proofs.YtfbjeifhpmdjaaaGreat.Rn

/-
  Plain: finite patterns by the whole number that they stand for, in units of 2^-1074: what +, -, * give. Conditions: those that each theorem names.
-/
set_option linter.unusedVariables false

namespace Go.Proofs.YtfbjeifhpmdjaaaGreat.Rn

/-- A pattern that stands for S times 2^-1074. -/
structure Fl (b : Nat) (S : Int) : Prop where
  lt : b < 18446744073709551616
  fin : mg b < infR
  val : sv b = S

theorem Fl.of {b : Nat} (h : b < 18446744073709551616) (hf : mg b < infR) : Fl b (sv b) := ⟨h, hf, rfl⟩
theorem sv_abs (b : Nat) : (sv b).natAbs = rv (mg b) := by unfold sv; split <;> omega
theorem Fl.abs {b : Nat} {S : Int} (h : Fl b S) : S.natAbs = rv (mg b) := by rw [← h.val, sv_abs]
theorem Fl.rp {b : Nat} {S : Int} (h : Fl b S) : RpZ S := by unfold RpZ; rw [h.abs]; exact ⟨_, rfl⟩
theorem Fl.nan {b : Nat} {S : Int} (h : Fl b S) : isNaN b = false := by unfold isNaN; exact decide_eq_false (by have := h.fin; omega)
theorem Fl.lt_iff {x y : Nat} {S T : Int} (h : Fl x S) (k : Fl y T) : key x < key y ↔ S < T := by rw [← h.val, ← k.val]; exact (rv_key x y).1.symm
theorem Fl.le_iff {x y : Nat} {S T : Int} (h : Fl x S) (k : Fl y T) : key x ≤ key y ↔ S ≤ T := by
  have := k.lt_iff h
  omega
theorem Fl.eq_iff {x y : Nat} {S T : Int} (h : Fl x S) (k : Fl y T) : key x = key y ↔ S = T := by rw [← h.val, ← k.val]; exact (rv_key x y).2.symm
theorem Fl.ltB {x y : Nat} {S T : Int} (h : Fl x S) (k : Fl y T) : ltB x y = decide (S < T) := by
  unfold Rn.ltB; rw [h.nan, k.nan]; simp only [Bool.not_false, Bool.true_and]; exact decide_eq_decide.2 (h.lt_iff k)
theorem Fl.leB {x y : Nat} {S T : Int} (h : Fl x S) (k : Fl y T) : leB x y = decide (S ≤ T) := by
  unfold Rn.leB; rw [h.nan, k.nan]; simp only [Bool.not_false, Bool.true_and]; exact decide_eq_decide.2 (h.le_iff k)
theorem Fl.eqB {x y : Nat} {S T : Int} (h : Fl x S) (k : Fl y T) : eqB x y = decide (S = T) := by
  unfold Rn.eqB; rw [h.nan, k.nan]; simp only [Bool.not_false, Bool.true_and]; exact decide_eq_decide.2 (h.eq_iff k)

theorem near_lt' (Z : Nat) : near Z < 9223372036854775808 := rr_lt 0 false Z

theorem sv_word {neg : Bool} {r : Nat} (hr : r < 9223372036854775808) : sv (Ieee.double.word neg r) = if neg then -(rv r : Int) else (rv r : Int) := by
  unfold sv
  rw [sg_word hr, mg_word hr]

/-- A word is the pattern of the rounded sum. -/
theorem Fl.word {neg : Bool} {S : Int} (hn : S ≠ 0 → neg = decide (S < 0)) (hS : nr S.natAbs < infR) : Fl (Ieee.double.word neg (near (4 * S.natAbs))) (rn S) := by
  have e : near (4 * S.natAbs) = nr S.natAbs := by rw [near_nr]; exact Nat.min_eq_left (by omega)
  have h1 := near_lt' (4 * S.natAbs)
  refine ⟨word_lt h1, by rw [mg_word h1, e]; exact hS, ?_⟩
  rw [sv_word h1, e]
  unfold rn
  by_cases h0 : S = 0
  · subst h0
    have := nr_rv 0
    rw [rv_zero] at this
    rw [show (0 : Int).natAbs = 0 from rfl, this, rv_zero]
    cases neg <;> rfl
  · rw [hn h0]
    by_cases h : S < 0
    · rw [decide_eq_true h, if_pos rfl, if_pos h]
    · rw [decide_eq_false h, if_neg (by simp), if_neg h]

theorem Fl.sum {neg : Bool} {S : Int} (hS : nr S.natAbs < infR) : Fl (sumPat neg S) (rn S) := by
  unfold sumPat
  by_cases h0 : S = 0
  · subst h0
    rw [if_pos rfl]
    have := Fl.word (neg := neg) (S := 0) (fun h => absurd rfl h) hS
    have e : near (4 * (0 : Int).natAbs) = 0 := rr_zero 0 false
    rwa [e] at this
  · rw [if_neg h0]
    exact Fl.word (fun _ => rfl) hS

theorem Fl.add {x y : Nat} {S T : Int} (h : Fl x S) (k : Fl y T) (hS : nr (S + T).natAbs < infR) : ∃ r, Ieee.double.add x y = some r ∧ Fl r (rn (S + T)) := by
  refine ⟨_, add_fin h.lt k.lt h.fin k.fin, ?_⟩
  rw [h.val, k.val]
  exact Fl.sum hS

theorem Fl.neg {b : Nat} {S : Int} (h : Fl b S) : Fl (ng b) (-S) := ⟨ng_lt h.lt, by rw [mg_ng h.lt]; exact h.fin, by rw [sv_ng h.lt, h.val]⟩
theorem read_ng {b : Nat} (h : b < 18446744073709551616) : Ieee.double.read (ng b) = (Ieee.double.read b).opposite := by
  have e : Ieee.double.signWeight = 9223372036854775808 := rfl
  have e1 : (ng b) % 9223372036854775808 = b % 9223372036854775808 := mg_ng h
  unfold Ieee.Format.read
  simp only [sg_bit h, sg_bit (ng_lt h), sg_ng h]
  rw [e, e1]
  by_cases c1 : b % 9223372036854775808 < Ieee.double.binade
  · rw [if_pos c1, if_pos c1]; rfl
  · rw [if_neg c1, if_neg c1]
    by_cases c2 : b % 9223372036854775808 < Ieee.double.infRung
    · rw [if_pos c2, if_pos c2]; rfl
    · rw [if_neg c2, if_neg c2]
      by_cases c3 : b % 9223372036854775808 = Ieee.double.infRung
      · rw [if_pos c3, if_pos c3]; rfl
      · rw [if_neg c3, if_neg c3]; rfl
theorem sub_add {x y : Nat} (hy : y < 18446744073709551616) : Ieee.double.sub x y = Ieee.double.add x (ng y) := by
  unfold Ieee.Format.sub Ieee.Format.add
  rw [read_ng hy]
theorem Fl.sub {x y : Nat} {S T : Int} (h : Fl x S) (k : Fl y T) (hS : nr (S - T).natAbs < infR) : ∃ r, Ieee.double.sub x y = some r ∧ Fl r (rn (S - T)) := by
  rw [sub_add k.lt, Int.sub_eq_add_neg]
  exact h.add k.neg (by rwa [← Int.sub_eq_add_neg])

theorem zq_mul_pow {q c : Nat} : zq (q * 2 ^ (c + 1)) (2 ^ c) = 4 * q := by
  rw [show 4 * q = 2 * (2 * q) by omega]
  refine (zq_eq (two_pow_pos c)).2 ?_
  rw [two_pow_s, Nat.mul_left_comm, Nat.mul_assoc]
theorem Fl.mul {x y : Nat} {S T q : Int} (h : Fl x S) (k : Fl y T) (hq : q * ((2 ^ 1074 : Nat) : Int) = S * T) (hS : nr q.natAbs < infR) : ∃ r, Ieee.double.mul x y = some r ∧ Fl r (rn q) := by
  obtain ⟨c, hc⟩ : ∃ c : Nat, c = 1073 := ⟨_, rfl⟩
  have hm := mul_fin h.lt k.lt h.fin k.fin
  rw [show (1074 : Nat) = c + 1 by omega] at hq
  rw [← hc] at hm
  have e : rv (mg x) * rv (mg y) = q.natAbs * 2 ^ (c + 1) := by
    rw [← h.abs, ← k.abs, ← Int.natAbs_mul, ← hq, Int.natAbs_mul, Int.natAbs_natCast]
  rw [e, zq_mul_pow] at hm
  refine ⟨_, hm, Fl.word (fun h0 => ?_) hS⟩
  have hp : (0 : Int) < ((2 ^ (c + 1) : Nat) : Int) := by have := two_pow_pos (c + 1); omega
  have hx : S = if sg x then -(rv (mg x) : Int) else (rv (mg x) : Int) := h.val.symm
  have hy : T = if sg y then -(rv (mg y) : Int) else (rv (mg y) : Int) := k.val.symm
  have h1 : S * T ≠ 0 := by rw [← hq]; exact Int.mul_ne_zero h0 (by omega)
  have h2 : rv (mg x) ≠ 0 := fun h3 => h1 (by rw [hx, h3]; cases sg x <;> simp)
  have h3 : rv (mg y) ≠ 0 := fun h3 => h1 (by rw [hy, h3]; cases sg y <;> simp)
  have h4 : (0 : Int) < (rv (mg x) : Int) * (rv (mg y) : Int) := Int.mul_pos (by omega) (by omega)
  have h5 : q < 0 ↔ S * T < 0 := by
    rw [← hq]
    constructor
    · intro h6; exact Int.mul_neg_of_neg_of_pos h6 hp
    · intro h6
      rcases Int.lt_or_le q 0 with h7 | h7
      · exact h7
      · have := Int.mul_nonneg h7 (show (0 : Int) ≤ ((2 ^ (c + 1) : Nat) : Int) by omega); omega
  rw [show decide (q < 0) = decide (S * T < 0) from decide_eq_decide.2 h5]
  rw [hx, hy]
  cases sg x <;> cases sg y <;> simp [Int.neg_mul, Int.mul_neg] <;> omega
end Go.Proofs.YtfbjeifhpmdjaaaGreat.Rn

/-
  Plain: the quick road of a product, on patterns: the parts, and what the nearest number to the product lacks of it. Conditions: those that each theorem names.
-/
set_option linter.unusedVariables false

namespace Go.Proofs.YtfbjeifhpmdjaaaGreat.Rn

/-- 2^-900 and 2^900, in units of 2^-1074. -/
def Ks : Nat := 2 ^ 174
def Kg : Nat := 2 ^ 1974
theorem Ks_def : Ks = 2 ^ 174 := by
  unfold Ks
  exact Eq.refl _
theorem Kg_def : Kg = 2 ^ 1974 := by
  unfold Kg
  exact Eq.refl _
attribute [irreducible] Ks Kg
theorem Ks_pos : 0 < Ks := by rw [Ks_def]; exact two_pow_pos 174
theorem Kg_pos : 0 < Kg := by rw [Kg_def]; exact two_pow_pos 1974

theorem rp_pow (m u : Nat) (hm : m ≤ 9007199254740992) : Rp (m * 2 ^ u) := Rp.mk u hm
theorem rp_Kg {m : Nat} (hm : m ≤ 9007199254740992) : Rp (m * Kg) := by rw [Kg_def]; exact Rp.mk 1974 hm
theorem nr_le {P Q : Nat} (h : P ≤ Q) (hQ : Rp Q) : rv (nr P) ≤ Q := by
  obtain ⟨k, rfl⟩ := hQ
  have := nr_mono h
  rw [nr_rv] at this
  exact rv_le this
theorem rn_le {S : Int} {Q : Nat} (h : S.natAbs ≤ Q) (hQ : Rp Q) : (rn S).natAbs ≤ Q := by rw [rn_abs]; exact nr_le h hQ
theorem nr_cap {P : Nat} (h : P ≤ 1099511627776 * Kg) : nr P < infR := by
  obtain ⟨c, hc⟩ : ∃ c : Nat, c = 1974 := ⟨_, rfl⟩
  rw [Kg_def, ← hc] at h
  have e : 1099511627776 * 2 ^ c = rv ((c + 40 - 52) * 4503599627370496 + 4503599627370496) := by
    rw [rv_form (c + 40 - 52) 4503599627370496 (by omega) (fun _ => Nat.le_refl _)]
    have : 2 ^ (c + 40) = 2 ^ (c + 40 - 52) * 2 ^ 52 := by rw [← pow_add_]; congr 1; omega
    rw [pow_add_] at this
    have e1 : (2 : Nat) ^ 40 = 1099511627776 := by decide
    have e2 : (2 : Nat) ^ 52 = 4503599627370496 := by decide
    rw [e1, e2] at this
    omega
  rw [e] at h
  have h2 := nr_mono h
  rw [nr_rv] at h2
  rw [infR_val]
  omega

/-- 2^27 + 1, as a pattern. -/
def cP : Nat := 4728779608772575232
theorem cP_fl : Fl cP (134217729 * ((2 ^ 1074 : Nat) : Int)) := by
  refine ⟨by decide, by decide, ?_⟩
  have e1 : sg cP = false := by decide
  have e2 : mg cP = 1049 * 4503599627370496 + 4503599660924928 := by decide
  unfold sv
  rw [e1, e2, rv_form _ _ (by omega) (fun _ => by omega)]
  obtain ⟨c, hc⟩ : ∃ c : Nat, c = 1049 := ⟨_, rfl⟩
  rw [show (1074 : Nat) = 25 + c by omega, ← hc, pow_add_]
  simp only [Bool.false_eq_true, if_false]
  have e3 : (2 : Nat) ^ 25 = 33554432 := by decide
  rw [e3]
  omega

/-- The operations of the cutting. -/
def HalvesOps (x xh xl : Nat) : Prop := ∃ t v, Ieee.double.mul cP x = some t ∧ Ieee.double.sub t x = some v ∧ Ieee.double.sub t v = some xh ∧ Ieee.double.sub x xh = some xl

theorem halves_fl {x : Nat} {X : Int} (h : Fl x X) {u : Nat} (hu : u = ex X.natAbs) (h0 : 4503599627370496 * 2 ^ u ≤ X.natAbs) (hg : X.natAbs < Kg) :
    ∃ xh xl H L, HalvesOps x xh xl ∧ Fl xh H ∧ Fl xl L ∧ Halves u X H L := by
  have hK := Kg_pos
  have r28 := rp_Kg (m := 268435456) (by omega)
  have r29 := rp_Kg (m := 536870912) (by omega)
  obtain ⟨T, hT⟩ : ∃ T, T = rn (134217729 * X) := ⟨_, rfl⟩
  obtain ⟨V, hV⟩ : ∃ V, V = rn (T - X) := ⟨_, rfl⟩
  obtain ⟨H, hH⟩ : ∃ H, H = rn (T - V) := ⟨_, rfl⟩
  obtain ⟨L, hL⟩ : ∃ L, L = rn (X - H) := ⟨_, rfl⟩
  have bT : T.natAbs ≤ 268435456 * Kg := by rw [hT]; exact rn_le (by omega) r28
  have bV : V.natAbs ≤ 536870912 * Kg := by rw [hV]; exact rn_le (by omega) r29
  have bH : H.natAbs ≤ 1073741824 * Kg := by rw [hH]; exact rn_le (by omega) (rp_Kg (by omega))
  obtain ⟨t, ht1, ht2⟩ := cP_fl.mul h (q := 134217729 * X) (by rw [Int.mul_assoc, Int.mul_assoc, Int.mul_comm X]) (nr_cap (by omega))
  rw [← hT] at ht2
  obtain ⟨v, hv1, hv2⟩ := ht2.sub h (nr_cap (by omega))
  rw [← hV] at hv2
  obtain ⟨xh, hh1, hh2⟩ := ht2.sub hv2 (nr_cap (by omega))
  rw [← hH] at hh2
  obtain ⟨xl, hl1, hl2⟩ := h.sub hh2 (nr_cap (by omega))
  rw [← hL] at hl2
  exact ⟨xh, xl, H, L, ⟨t, v, ht1, hv1, hh1, hl1⟩, hh2, hl2, halves_spec h.rp hu h0 hT hV hH hL⟩

/-- The operations of 'missed'. -/
def MissedOps (x y p r : Nat) : Prop := ∃ xh xl yh yl a b c g e1 e2 e3, HalvesOps x xh xl ∧ HalvesOps y yh yl ∧ Ieee.double.mul xh yh = some a ∧ Ieee.double.sub a p = some e1 ∧
  Ieee.double.mul xh yl = some b ∧ Ieee.double.add e1 b = some e2 ∧ Ieee.double.mul xl yh = some c ∧ Ieee.double.add e2 c = some e3 ∧ Ieee.double.mul xl yl = some g ∧ Ieee.double.add e3 g = some r

theorem pow_lt_pow {a b : Nat} (h : 2 ^ a < 2 ^ b) : a < b := (Nat.pow_lt_pow_iff_right (by omega)).1 h

/-- Where two numbers are not below 2^-900, nor is the nearest number to their product: the product is a whole number of units. -/
theorem prod_q {X Y : Int} {u w : Nat} (hX : RpZ X) (hY : RpZ Y) (hu : u = ex X.natAbs) (hw : w = ex Y.natAbs) (hu0 : 4503599627370496 * 2 ^ u ≤ X.natAbs) (hw0 : 4503599627370496 * 2 ^ w ≤ Y.natAbs)
    (hp : Ks * 2 ^ 1074 < (X * Y).natAbs) : ∃ k q, u + w = k + 1074 ∧ q * ((2 ^ 1074 : Nat) : Int) = X * Y ∧ 20282409603651670423947251286016 * 2 ^ k ≤ q.natAbs ∧ q.natAbs < 81129638414606681695789005144064 * 2 ^ k := by
  obtain ⟨c, hc⟩ : ∃ c : Nat, c = 1074 := ⟨_, rfl⟩
  rw [← hc] at hp ⊢
  have h1 := ex_hi X.natAbs
  have h2 := ex_hi Y.natAbs
  rw [← hu] at h1
  rw [← hw] at h2
  have h3 : (X * Y).natAbs < 2 ^ (106 + (u + w)) := by
    rw [Int.natAbs_mul]
    have e1 : 2 ^ (106 + (u + w)) = (9007199254740992 * 2 ^ u) * (9007199254740992 * 2 ^ w) := by
      rw [pow_add_, pow_add_, Nat.mul_mul_mul_comm]
    rw [e1]
    exact Nat.mul_lt_mul'' h1 h2
  have h4 : 106 + (u + w) > 174 + c := by
    refine pow_lt_pow ?_
    rw [pow_add_ 174 c, ← Ks_def]
    exact Nat.lt_trans hp h3
  obtain ⟨k, hk⟩ : ∃ k, u + w = k + c := ⟨u + w - c, by omega⟩
  have d1 := hX.dv (Nat.le_refl _)
  have d2 := hY.dv (Nat.le_refl _)
  rw [← hu] at d1
  rw [← hw] at d2
  have d3 := d1.mul d2
  rw [hk] at d3
  obtain ⟨j, hj⟩ := d3.get
  have hq : (j * ((2 ^ k : Nat) : Int)) * ((2 ^ c : Nat) : Int) = X * Y := by rw [hj, pow_add_, Int.natCast_mul, Int.mul_assoc]
  refine ⟨k, j * ((2 ^ k : Nat) : Int), hk, hq, ?_, ?_⟩
  · have e1 : (4503599627370496 * 2 ^ u) * (4503599627370496 * 2 ^ w) ≤ (X * Y).natAbs := by rw [Int.natAbs_mul]; exact Nat.mul_le_mul hu0 hw0
    rw [Nat.mul_mul_mul_comm, ← pow_add_, hk, pow_add_, ← hq, Int.natAbs_mul, Int.natAbs_natCast, ← Nat.mul_assoc] at e1
    exact Nat.le_of_mul_le_mul_right e1 (two_pow_pos c)
  · rw [pow_add_ 106, hk, pow_add_ k c, ← hq, Int.natAbs_mul, Int.natAbs_natCast, ← Nat.mul_assoc] at h3
    exact Nat.lt_of_mul_lt_mul_right h3

set_option maxHeartbeats 4000000 in
theorem missed_fl {x y p : Nat} {X Y q : Int} (hx : Fl x X) (hy : Fl y Y) {u w k : Nat} (hu : u = ex X.natAbs) (hw : w = ex Y.natAbs) (hu0 : 4503599627370496 * 2 ^ u ≤ X.natAbs) (hw0 : 4503599627370496 * 2 ^ w ≤ Y.natAbs)
    (hk : u + w = k + 1074) (hq : q * ((2 ^ 1074 : Nat) : Int) = X * Y) (hq1 : 20282409603651670423947251286016 * 2 ^ k ≤ q.natAbs) (hq2 : q.natAbs < 81129638414606681695789005144064 * 2 ^ k)
    (hX : X.natAbs < Kg) (hY : Y.natAbs < Kg) (hqg : q.natAbs ≤ 4 * Kg) (hp : Fl p (rn q)) : ∃ r, MissedOps x y p r ∧ Fl r (q - rn q) := by
  obtain ⟨c, hc⟩ : ∃ c : Nat, c = 1074 := ⟨_, rfl⟩
  have hcc : ((2 ^ 1074 : Nat) : Int) = ((2 ^ c : Nat) : Int) := by rw [hc]
  rw [hcc] at hq
  have hKp := Kg_pos
  obtain ⟨xh, xl, H, L, ox, fxh, fxl, sx⟩ := halves_fl hx hu hu0 hX
  obtain ⟨yh, yl, I, M, oy, fyh, fyl, sy⟩ := halves_fl hy hw hw0 hY
  rw [show (1074 : Nat) = c from hc.symm] at hk
  -- a product of two parts, as a whole number of units
  have part : ∀ {S T : Int} {s t m n : Nat}, Dv (s + u) S → Dv (t + w) T → S.natAbs ≤ m * 2 ^ u → T.natAbs ≤ n * 2 ^ w → ∃ z, z * ((2 ^ c : Nat) : Int) = S * T ∧ Dv (s + t + k) z ∧ z.natAbs ≤ m * n * 2 ^ k := by
    intro S T s t m n hS hT bS bT
    have d := hS.mul hT
    rw [show s + u + (t + w) = s + t + k + c by omega] at d
    obtain ⟨j, hj⟩ := d.get
    refine ⟨j * ((2 ^ (s + t + k) : Nat) : Int), ?_, Dv.mk _ _, ?_⟩
    · rw [hj, pow_add_ (s + t + k) c, Int.natCast_mul, Int.mul_assoc]
    · refine abs_div_le (c := c) (S := S * T) ?_ ?_
      · rw [hj, pow_add_ (s + t + k) c, Int.natCast_mul, Int.mul_assoc]
      · have := abs_mul_le bS bT
        rw [Nat.mul_mul_mul_comm, ← pow_add_, hk, pow_add_, ← Nat.mul_assoc] at this
        exact this
  have hl : Dv (0 + u) L := by rw [Nat.zero_add]; exact sx.dvl
  have hm : Dv (0 + w) M := by rw [Nat.zero_add]; exact sy.dvl
  obtain ⟨a, qa, da, la⟩ := part sx.dvh sy.dvh sx.leh sy.leh
  obtain ⟨b, qb, db, lb⟩ := part sx.dvh hm sx.leh sy.lel
  obtain ⟨g, qg, dg, lg⟩ := part hl sy.dvh sx.lel sy.leh
  obtain ⟨z, qz, dz, lz⟩ := part hl hm sx.lel sy.lel
  have hsum : q = a + b + g + z := by
    have hcp : ((2 ^ c : Nat) : Int) ≠ 0 := by have := two_pow_pos c; omega
    refine Int.eq_of_mul_eq_mul_right hcp ?_
    rw [hq, Int.add_mul, Int.add_mul, Int.add_mul, qa, qb, qg, qz, ← sx.sum, ← sy.sum, Int.add_mul, Int.mul_add, Int.mul_add]
    omega
  rw [show 27 + 27 + k = 54 + k by omega] at da
  rw [show 27 + 0 + k = 27 + k by omega] at db
  rw [show 0 + 27 + k = 27 + k by omega] at dg
  rw [show 0 + 0 + k = k by omega] at dz
  obtain ⟨A, hA⟩ : ∃ A, A = 2 ^ k := ⟨_, rfl⟩
  have hAg : 20282409603651670423947251286016 * A ≤ 4 * Kg := by rw [hA]; omega
  have la' : a.natAbs ≤ 81129638414606681695789005144064 * A := by rw [hA]; exact la
  have lb' : b.natAbs ≤ 604462909807314587353088 * A := by rw [hA]; exact lb
  have lg' : g.natAbs ≤ 604462909807314587353088 * A := by rw [hA]; exact lg
  have lz' : z.natAbs ≤ 4503599627370496 * A := by rw [hA]; exact lz
  have e54 : 2 ^ (54 + k) = 18014398509481984 * A := by rw [pow_add_, ← hA]
  have e27 : 2 ^ (27 + k) = 134217728 * A := by rw [pow_add_, ← hA]
  have ra := rn_of (S := a) (da.rp (by rw [e54]; omega))
  have rb := rn_of (S := b) (db.rp (by rw [e27]; omega))
  have rg := rn_of (S := g) (dg.rp (by rw [e27]; omega))
  have rz := rn_of (S := z) (dz.rp (by rw [← hA]; omega))
  have bp : (rn q).natAbs ≤ 4 * Kg := rn_le hqg (rp_Kg (by omega))
  rw [← hcc] at qa qb qg qz
  obtain ⟨pa, oa, fa⟩ := fxh.mul fyh qa (nr_cap (by omega))
  obtain ⟨pb, ob, fb⟩ := fxh.mul fyl qb (nr_cap (by omega))
  obtain ⟨pg, og, fg⟩ := fxl.mul fyh qg (nr_cap (by omega))
  obtain ⟨pz, oz, fz⟩ := fxl.mul fyl qz (nr_cap (by omega))
  rw [ra] at fa
  rw [rb] at fb
  rw [rg] at fg
  rw [rz] at fz
  obtain ⟨E1, hE1⟩ : ∃ E1, E1 = rn (a - rn q) := ⟨_, rfl⟩
  obtain ⟨E2, hE2⟩ : ∃ E2, E2 = rn (E1 + b) := ⟨_, rfl⟩
  obtain ⟨E3, hE3⟩ : ∃ E3, E3 = rn (E2 + g) := ⟨_, rfl⟩
  have b1 : E1.natAbs ≤ 32 * Kg := by rw [hE1]; exact rn_le (by omega) (rp_Kg (by omega))
  have b2 : E2.natAbs ≤ 64 * Kg := by rw [hE2]; exact rn_le (by omega) (rp_Kg (by omega))
  have b3 : E3.natAbs ≤ 128 * Kg := by rw [hE3]; exact rn_le (by omega) (rp_Kg (by omega))
  obtain ⟨p1, o1, f1⟩ := fa.sub hp (nr_cap (by omega))
  rw [← hE1] at f1
  obtain ⟨p2, o2, f2⟩ := f1.add fb (nr_cap (by omega))
  rw [← hE2] at f2
  obtain ⟨p3, o3, f3⟩ := f2.add fg (nr_cap (by omega))
  rw [← hE3] at f3
  obtain ⟨r, o4, f4⟩ := f3.add fz (nr_cap (by omega))
  obtain ⟨d1, -⟩ := dekker (p := rn q) da db dg dz lb lg lz hsum hq1 hq2 rfl hE1 hE2 hE3 rfl
  rw [d1] at f4
  exact ⟨r, ⟨xh, xl, yh, yl, pa, pb, pg, pz, p1, p2, p3, ox, oy, oa, o1, ob, o2, og, o3, oz, o4⟩, f4⟩
end Go.Proofs.YtfbjeifhpmdjaaaGreat.Rn

/-
  Plain: the quick roads of a sum and of a product answer the number rounded in the direction. Conditions: those that each theorem names.
-/
set_option linter.unusedVariables false

namespace Go.Proofs.YtfbjeifhpmdjaaaGreat.Rn

theorem key_fl {p : Nat} {S : Int} (h : Fl p (rn S)) : key p = if S < 0 then -(nr S.natAbs : Int) else (nr S.natAbs : Int) := by
  have h1 := h.abs
  rw [rn_abs] at h1
  have h2 := rv_inj h1
  have h3 := h.val
  unfold sv rn at h3
  unfold key
  rw [← h2] at h3 ⊢
  have h4 : rv (nr S.natAbs) = 0 → nr S.natAbs = 0 := fun h => rv_eq_zero.1 h
  cases hs : sg p
  · rw [hs] at h3
    simp only [Bool.false_eq_true, if_false] at h3 ⊢
    by_cases h5 : S < 0
    · rw [if_pos h5] at h3 ⊢
      have := h4 (by omega)
      omega
    · rw [if_neg h5]
  · rw [hs] at h3
    simp only [if_true] at h3 ⊢
    by_cases h5 : S < 0
    · rw [if_pos h5]
    · rw [if_neg h5] at h3 ⊢
      have := h4 (by omega)
      omega

/-- The nearest number to S, and what it lacks: the number rounded in the direction. -/
theorem nudge_fl {p : Nat} {S : Int} (h : Fl p (rn S)) (hS : S.natAbs ≤ 1099511627776 * Kg) (d : Int) : rnd d (decide (S < 0)) (4 * S.natAbs) = kp (key p + adj d (S - rn S)) := by
  have hcap : 4 * S.natAbs ≤ 4 * rv (infR - 2) := by
    have h1 : S.natAbs ≤ rv (infR - 2) := by
      rcases Nat.lt_or_ge (rv (infR - 2)) S.natAbs with h2 | h2
      · exfalso
        have h3 := nr_cap (P := 1099511627776 * Kg) (Nat.le_refl _)
        have h4 : infR - 2 ≤ nr S.natAbs := by have := nr_mono (Nat.le_of_lt h2); rwa [nr_rv] at this
        have h5 := nr_cap hS
        -- the great bound lies far below
        obtain ⟨c, hc⟩ : ∃ c : Nat, c = 1974 := ⟨_, rfl⟩
        rw [Kg_def, ← hc] at hS
        have e : 1099511627776 * 2 ^ c = rv ((c + 40 - 52) * 4503599627370496 + 4503599627370496) := by
          rw [rv_form (c + 40 - 52) 4503599627370496 (by omega) (fun _ => Nat.le_refl _)]
          have : 2 ^ (c + 40) = 2 ^ (c + 40 - 52) * 2 ^ 52 := by rw [← pow_add_]; congr 1; omega
          rw [pow_add_] at this
          have e1 : (2 : Nat) ^ 40 = 1099511627776 := by decide
          have e2 : (2 : Nat) ^ 52 = 4503599627370496 := by decide
          rw [e1, e2] at this
          omega
        rw [e] at hS
        have h6 := Nat.lt_of_lt_of_le h2 hS
        have h7 := rv_lt_iff.1 h6
        rw [infR_val] at h7
        omega
      · exact h2
    omega
  have e0 : near (4 * S.natAbs) = nr S.natAbs := by rw [near_nr]; exact Nat.min_eq_left (by have := nr_cap hS; omega)
  refine rnd_nudge d (decide (S < 0)) hcap (K := key p) (e := S - rn S) ?_ ?_ ?_
  · rw [key_fl h, e0]
    by_cases h5 : S < 0
    · rw [if_pos h5, if_pos (by simpa using h5)]
    · rw [if_neg h5, if_neg (by simpa using h5)]
  · rw [e0]
    unfold rn
    by_cases h5 : S < 0
    · rw [if_pos h5, if_pos (by simpa using h5)]; omega
    · rw [if_neg h5, if_neg (by simpa using h5)]; omega
  · rw [e0]
    unfold rn
    by_cases h5 : S < 0
    · rw [if_pos h5, if_pos (by simpa using h5)]; omega
    · rw [if_neg h5, if_neg (by simpa using h5)]; omega

/-- The operations of a sum's quick road: the nearest, and what it lacks. -/
def SumOps (x y s e : Nat) : Prop := ∃ t u p q, Ieee.double.add x y = some s ∧ Ieee.double.sub s x = some t ∧ Ieee.double.sub s t = some u ∧ Ieee.double.sub x u = some p ∧ Ieee.double.sub y t = some q ∧ Ieee.double.add p q = some e
theorem sum_quick {x y : Nat} {X Y : Int} (hx : Fl x X) (hy : Fl y Y) (bx : X.natAbs ≤ Kg) (by_ : Y.natAbs ≤ Kg) :
    ∃ s e, SumOps x y s e ∧ Fl s (rn (X + Y)) ∧ Fl e (X + Y - rn (X + Y)) ∧ ∀ d, rnd d (decide (X + Y < 0)) (4 * (X + Y).natAbs) = kp (key s + adj d (X + Y - rn (X + Y))) := by
  obtain ⟨S, hS⟩ : ∃ S, S = rn (X + Y) := ⟨_, rfl⟩
  obtain ⟨T, hT⟩ : ∃ T, T = rn (S - X) := ⟨_, rfl⟩
  obtain ⟨U, hU⟩ : ∃ U, U = rn (S - T) := ⟨_, rfl⟩
  obtain ⟨P, hP⟩ : ∃ P, P = rn (X - U) := ⟨_, rfl⟩
  obtain ⟨Q, hQ⟩ : ∃ Q, Q = rn (Y - T) := ⟨_, rfl⟩
  have b1 : S.natAbs ≤ 2 * Kg := by rw [hS]; exact rn_le (by omega) (rp_Kg (by omega))
  have b2 : T.natAbs ≤ 4 * Kg := by rw [hT]; exact rn_le (by omega) (rp_Kg (by omega))
  have b3 : U.natAbs ≤ 8 * Kg := by rw [hU]; exact rn_le (by omega) (rp_Kg (by omega))
  have b4 : P.natAbs ≤ 16 * Kg := by rw [hP]; exact rn_le (by omega) (rp_Kg (by omega))
  have b5 : Q.natAbs ≤ 16 * Kg := by rw [hQ]; exact rn_le (by omega) (rp_Kg (by omega))
  obtain ⟨s, os, fs⟩ := hx.add hy (nr_cap (by omega))
  have fs' := fs
  rw [← hS] at fs
  obtain ⟨t, ot, ft⟩ := fs.sub hx (nr_cap (by omega))
  rw [← hT] at ft
  obtain ⟨u, ou, fu⟩ := fs.sub ft (nr_cap (by omega))
  rw [← hU] at fu
  obtain ⟨p, op, fp⟩ := hx.sub fu (nr_cap (by omega))
  rw [← hP] at fp
  obtain ⟨q, oq, fq⟩ := hy.sub ft (nr_cap (by omega))
  rw [← hQ] at fq
  obtain ⟨e, oe, fe⟩ := fp.add fq (nr_cap (by omega))
  rw [two_sum hx.rp hy.rp hS hT hU hP hQ, hS] at fe
  exact ⟨s, e, ⟨t, u, p, q, os, ot, ou, op, oq, oe⟩, fs', fe, fun d => nudge_fl fs' (by omega) d⟩

theorem near_hi {Z k : Nat} (h : Z ≤ 4 * rv k) : near Z ≤ k := by
  unfold near rr
  rw [if_neg (by omega)]
  have h1 := rung_spec (Z / 4)
  rcases Nat.lt_or_ge Z (4 * rv k) with h2 | h2
  · have h3 : rung (Z / 4) < k := rv_lt_iff.1 (Nat.lt_of_le_of_lt h1.1 (by omega))
    split <;> omega
  · have h3 : Z = 4 * rv k := by omega
    subst h3
    have : 4 * rv k / 4 = rv k := by omega
    unfold away
    rw [this, rung_rv, if_pos rfl]
    simp only [Bool.false_eq_true, if_false]
    omega
theorem near_lo {Z k : Nat} (h : 4 * rv k ≤ Z) (hk : k ≤ infR) : k ≤ near Z := by
  unfold near rr
  rw [if_neg (by omega)]
  have h1 : k ≤ rung (Z / 4) := le_rung_iff.2 (by omega)
  split <;> omega

/-- Neither very small nor very great. -/
def Mid (S : Int) : Prop := Ks < S.natAbs ∧ S.natAbs < Kg
theorem Mid.ex {X : Int} (h : Mid X) : 4503599627370496 * 2 ^ Rn.ex X.natAbs ≤ X.natAbs := by
  refine ex_lo ?_
  have h1 : 9007199254740992 * 2 ^ 0 ≤ X.natAbs := by
    have h2 := h.1
    obtain ⟨c, hc⟩ : ∃ c : Nat, c = 120 := ⟨_, rfl⟩
    have e : (2 : Nat) ^ 174 = 2 ^ 54 * 2 ^ c := by rw [hc, ← pow_add_]
    rw [Ks_def, e] at h2
    have := two_pow_pos c
    have e1 : (2 : Nat) ^ 54 = 18014398509481984 := by decide
    rw [e1] at h2
    rw [Nat.pow_zero]
    omega
  have := ex_gt h1
  omega

theorem rp_Ks : Rp Ks := by
  have := rp_pow 1 174 (by omega)
  rwa [Nat.one_mul, ← Ks_def] at this

/-- The quick road of a product. -/
theorem mul_quick {x y p : Nat} {X Y : Int} (hx : Fl x X) (hy : Fl y Y) (mx : Mid X) (my : Mid Y) (hp : Ieee.double.mul x y = some p) (fp : mg p < infR) (mp : Mid (sv p)) :
    ∃ q e, q * ((2 ^ 1074 : Nat) : Int) = X * Y ∧ q ≠ 0 ∧ q.natAbs ≤ 4 * Kg ∧ MissedOps x y p e ∧ Fl p (rn q) ∧ Fl e (q - rn q) ∧ ∀ d, rnd d (decide (q < 0)) (4 * q.natAbs) = kp (key p + adj d (q - rn q)) := by
  have hm := mul_fin hx.lt hy.lt hx.fin hy.fin
  rw [hm] at hp
  injection hp with hp
  have hnl := near_lt' (zq (rv (mg x) * rv (mg y)) (2 ^ 1073))
  have hmg : mg p = near (zq (rv (mg x) * rv (mg y)) (2 ^ 1073)) := by rw [← hp, mg_word hnl]
  have hP := sv_abs p
  have hxy : rv (mg x) * rv (mg y) = (X * Y).natAbs := by rw [Int.natAbs_mul, hx.abs, hy.abs]
  obtain ⟨c, hc⟩ : ∃ c : Nat, c = 1073 := ⟨_, rfl⟩
  have hc1 : (1074 : Nat) = c + 1 := by omega
  rw [hxy, ← hc] at hmg
  -- the product is not very small
  have hbig : Ks * 2 ^ 1074 < (X * Y).natAbs := by
    rcases Nat.lt_or_ge (Ks * 2 ^ 1074) (X * Y).natAbs with h | h
    · exact h
    · exfalso
      obtain ⟨k, hk⟩ := rp_Ks
      have h1 : zq (X * Y).natAbs (2 ^ c) ≤ 4 * rv k := by
        rw [hk, ← zq_mul_pow (q := Ks) (c := c), ← hc1]
        exact zq_mono (two_pow_pos c) (two_pow_pos c) (Nat.mul_le_mul_right _ h)
      have h2 := rv_le (near_hi h1)
      rw [← hmg, hk, ← hP] at h2
      have := mp.1
      omega
  obtain ⟨k, q, hk, hq, hq1, hq2⟩ := prod_q hx.rp hy.rp rfl rfl mx.ex my.ex hbig
  have hqz : zq (X * Y).natAbs (2 ^ c) = 4 * q.natAbs := by
    rw [← hq, Int.natAbs_mul, Int.natAbs_natCast, hc1, zq_mul_pow]
  rw [hqz] at hmg
  have hqg : q.natAbs ≤ 4 * Kg := by
    rcases Nat.lt_or_ge (4 * Kg) q.natAbs with h | h
    · exfalso
      obtain ⟨j, hj⟩ := rp_Kg (m := 4) (by omega)
      have h0 := nr_cap (P := 4 * Kg) (by omega)
      rw [← hj, nr_rv] at h0
      have h1 := near_lo (Z := 4 * q.natAbs) (k := j) (by omega) (by omega)
      have h2 := rv_le h1
      rw [← hmg, hj, ← hP] at h2
      have := mp.2
      omega
    · exact h
  have hq0 : q ≠ 0 := by
    have := two_pow_pos k
    omega
  have hcap := nr_cap (P := q.natAbs) (by omega)
  obtain ⟨p', hp', fp'⟩ := hx.mul hy hq hcap
  rw [hm] at hp'
  injection hp' with hp'
  rw [← hp', hp] at fp'
  obtain ⟨e, oe, fe⟩ := missed_fl hx hy rfl rfl mx.ex my.ex hk hq hq1 hq2 mx.2 my.2 hqg fp'
  exact ⟨q, e, hq, hq0, hqg, oe, fp', fe, fun d => nudge_fl fp' (by omega) d⟩
end Go.Proofs.YtfbjeifhpmdjaaaGreat.Rn

/-
  Plain: the quick road of a fused product and sum answers the number rounded in the direction. Conditions: those that each theorem names.
-/
set_option linter.unusedVariables false

namespace Go.Proofs.YtfbjeifhpmdjaaaGreat.Rn

/-- What is far below half a place does not move the nearest number. -/
theorem rn_far {S E : Int} (hS : RpZ S) (h : E.natAbs * 36028797018963968 < S.natAbs) : rn (S + E) = S := by
  obtain ⟨u, hu⟩ : ∃ u, u = ex S.natAbs := ⟨_, rfl⟩
  have h1 := ex_hi S.natAbs
  rw [← hu] at h1
  have h2 := hS.dv (Nat.le_refl _)
  rw [← hu] at h2
  have h3 := rn_near (S + E) hS
  obtain ⟨g, hg⟩ : ∃ g, g = rn (S + E) := ⟨_, rfl⟩
  rw [← hg] at h3 ⊢
  have hgr : RpZ g := by rw [hg]; exact rn_rp _
  obtain ⟨A, hA⟩ : ∃ A, A = 2 ^ u := ⟨_, rfl⟩
  have hA0 : 0 < A := by rw [hA]; exact two_pow_pos u
  rw [← hA] at h1
  have h4 : 4 * E.natAbs < A := by omega
  -- a difference that is a multiple of B and less than it is none
  have none : ∀ {v : Nat}, Dv v (g - S) → (g - S).natAbs < 2 ^ v → g = S := by
    intro v d hl
    have := d.le (M := 0) (by rw [Nat.zero_add, Nat.one_mul]; exact hl)
    omega
  rcases Nat.lt_or_ge g.natAbs S.natAbs with h5 | h5
  · by_cases hu0 : u = 0
    · subst hu0
      rw [Nat.pow_zero] at hA
      omega
    · obtain ⟨v, hv⟩ : ∃ v, u = v + 1 := ⟨u - 1, by omega⟩
      have h6 := ex_lo (Q := S.natAbs) (by omega)
      rw [← hu, ← hA] at h6
      have hB : A = 2 * 2 ^ v := by rw [hA, hv, two_pow_s]
      have hvg : v ≤ ex g.natAbs := by
        by_cases hv0 : v = 0
        · omega
        · obtain ⟨t, ht⟩ : ∃ t, v = t + 1 := ⟨v - 1, by omega⟩
          have : 9007199254740992 * 2 ^ t ≤ g.natAbs := by
            rw [ht, two_pow_s] at hB
            omega
          have := ex_gt this
          omega
      have d1 : Dv v g := (hgr.dv (Nat.le_refl _)).mono hvg
      exact none (d1.sub (h2.mono (by omega))) (by omega)
  · have d1 : Dv u g := by
      have := hgr.dv h5
      rwa [← hu] at this
    exact none (d1.sub h2) (by rw [← hA]; omega)

theorem fma_quick {x y p z : Nat} {X Y Z : Int} (hx : Fl x X) (hy : Fl y Y) (hz : Fl z Z) (mx : Mid X) (my : Mid Y) (hp : Ieee.double.mul x y = some p) (fp : mg p < infR) (mp : Mid (sv p)) (bz : Z.natAbs ≤ Kg) :
    ∃ q e s f g E F G, q * ((2 ^ 1074 : Nat) : Int) = X * Y ∧ MissedOps x y p e ∧ SumOps p z s f ∧ Ieee.double.add e f = some g ∧ Fl e E ∧ Fl f F ∧ Fl g G ∧ Fl s (sv s) ∧ (sv s).natAbs ≤ 1024 * Kg ∧
      (E = 0 ∨ (F = 0 ∧ E.natAbs * 36028797018963968 < (sv s).natAbs) → ∀ d, rnd d (decide (q + Z < 0)) (4 * (q + Z).natAbs) = kp (key s + adj d G)) := by
  obtain ⟨q, e, hq, hq0, hqg, oe, fpq, fe, -⟩ := mul_quick hx hy mx my hp fp mp
  have hK := Kg_pos
  have bp : (rn q).natAbs ≤ Kg := by rw [← fpq.val]; exact Nat.le_of_lt mp.2
  obtain ⟨s, f, os, fs, ff, hs⟩ := sum_quick fpq hz bp bz
  have bs : (rn (rn q + Z)).natAbs ≤ 1024 * Kg := rn_le (by omega) (rp_Kg (by omega))
  have be : (q - rn q).natAbs ≤ 8 * Kg := by omega
  have bf : (rn q + Z - rn (rn q + Z)).natAbs ≤ 2048 * Kg := by omega
  obtain ⟨g, og, fg⟩ := fe.add ff (nr_cap (by omega))
  refine ⟨q, e, s, f, g, _, _, _, hq, oe, os, og, fe, ff, fg, Fl.of fs.lt fs.fin, by rw [fs.val]; exact bs, ?_⟩
  rintro (h0 | ⟨h0, h1⟩) d
  · have e1 : q = rn q := by omega
    rw [h0, Int.zero_add, rn_of ff.rp]
    have := hs d
    rwa [← e1] at this ⊢
  · rw [h0, Int.add_zero, rn_of fe.rp]
    rw [fs.val] at h1
    have e1 : rn (rn q + Z) = rn q + Z := by omega
    have e2 : rn (q + Z) = rn q + Z := by
      have := rn_far (S := rn q + Z) (E := q - rn q) (by rw [← e1]; exact rn_rp _) (by rw [← e1]; exact h1)
      rwa [show rn q + Z + (q - rn q) = q + Z by omega] at this
    have fs' : Fl s (rn (q + Z)) := by rw [e2, ← e1]; exact fs
    have := nudge_fl fs' (by omega) d
    rwa [show q + Z - rn (q + Z) = q - rn q by omega] at this
end Go.Proofs.YtfbjeifhpmdjaaaGreat.Rn
