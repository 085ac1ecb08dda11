/-
  Plain: what is answered of the negatives, in the other direction; what does not hang on the order. Conditions: those that each theorem names.
-/
import Derived.Test.YtmcfflecaklpcaaZ32
import Derived.Test.YtmcfflecaklpcaaZ34
set_option linter.unusedVariables false
set_option linter.unusedSimpArgs false
namespace Go.Proofs.Ytmcfflecaklpcaa.Rn
open Nm

/-- The negative of a pattern that was answered. -/
def mirP (b : Nat) : Nat := if b = 0 ∨ b = NaNc then b else ng b
theorem mirP_pat {neg : Bool} {r : Nat} (h : r ≤ infR) : mirP (pat (!neg) r) = pat neg r := by
  rw [infR_val] at h
  unfold mirP pat NaNc ng
  by_cases h0 : r = 0
  · rw [if_pos h0, if_pos h0, if_pos (.inl rfl)]
  · rw [if_neg h0, if_neg h0]
    have hs : sg (9223372036854775808 + r) = true := by unfold sg; exact decide_eq_true (by omega)
    have hs2 : sg r = false := by unfold sg; exact decide_eq_false (by omega)
    cases neg
    · simp only [Bool.not_false, if_true, Bool.false_eq_true, if_false]
      rw [if_neg (by omega), hs]
      simp only [if_true]; omega
    · simp only [Bool.not_true, if_true, Bool.false_eq_true, if_false]
      rw [if_neg (by omega), hs2]
      simp only [Bool.false_eq_true, if_false]; omega
theorem rr_mir (d : Int) (neg : Bool) (Z : Nat) (hd : d = -1 ∨ d = 0 ∨ d = 1) : rr (-d) (!neg) Z = rr d neg Z := by
  unfold rr away
  rcases hd with rfl | rfl | rfl <;> cases neg <;> simp
theorem rnd_mir (d : Int) (neg : Bool) (Z : Nat) (hd : d = -1 ∨ d = 0 ∨ d = 1) : mirP (rnd (-d) (!neg) Z) = rnd d neg Z := by
  unfold rnd
  rw [rr_mir d neg Z hd]
  exact mirP_pat (rr_le d neg Z)
theorem mirP_zero : mirP 0 = 0 := rfl
theorem mirP_nan : mirP NaNc = NaNc := rfl
theorem mirP_inf (s : Bool) : mirP (infP (!s)) = infP s := by cases s <;> decide
theorem ng_infP (s : Bool) : ng (infP s) = infP (!s) := by cases s <;> decide
theorem rT_mir (d T : Int) (hd : d = -1 ∨ d = 0 ∨ d = 1) : mirP (rT (-d) (-T)) = rT d T := by
  by_cases h : T = 0
  · rw [h, Int.neg_zero, rT_zero, rT_zero, mirP_zero]
  · unfold rT
    rw [Int.natAbs_neg]
    have e : decide (-T < 0) = !decide (T < 0) := by
      rcases Int.lt_trichotomy T 0 with c | c | c
      · rw [decide_eq_false (by omega), decide_eq_true c]; rfl
      · exact absurd c h
      · rw [decide_eq_true (by omega), decide_eq_false (by omega)]; rfl
    rw [e, rnd_mir _ _ _ hd]
theorem nan_ng {x : Nat} (h : x < 18446744073709551616) : isNaN (ng x) = isNaN x := by unfold isNaN; rw [mg_ng h]
theorem inf_ng {x : Nat} (h : x < 18446744073709551616) : isInf (ng x) = isInf x := by unfold isInf; rw [mg_ng h]
theorem sg_ng_ {x : Nat} (h : x < 18446744073709551616) : sg (ng x) = !sg x := sg_ng h
theorem ng_of1 {x : Nat} (h : sg x = true) : ng x = x - 9223372036854775808 := by unfold ng; rw [h]; exact if_pos rfl
theorem ng_of0 {x : Nat} (h : sg x = false) : ng x = x + 9223372036854775808 := by unfold ng; rw [h]; exact if_neg (by decide)
theorem ng_ng_ {x : Nat} (h : x < 18446744073709551616) : ng (ng x) = x := by
  have e := sg_ng h
  have hx : sg x = decide (9223372036854775808 ≤ x) := rfl
  cases hs : sg x
  · rw [hs] at e
    rw [ng_of1 e, ng_of0 hs]; omega
  · rw [hs] at e hx
    have := of_decide_eq_true hx.symm
    rw [ng_of0 e, ng_of1 hs]; omega
theorem ng_ne {x y : Nat} (hx : x < 18446744073709551616) (hy : y < 18446744073709551616) : (ng x ≠ ng y) ↔ (x ≠ y) := by
  constructor
  · intro h e; exact h (by rw [e])
  · intro h e; exact h (by rw [← ng_ng_ hx, e, ng_ng_ hy])
theorem mirP_ng {x : Nat} (hx : x < 18446744073709551616) (hi : isInf x = true) : mirP (ng x) = x := by
  have h := (isInf_iff x).1 hi
  have h2 := mg_ng hx
  have h3 : ng x ≠ 0 := by intro e; rw [e] at h2; rw [← h2, infR_val] at h; exact absurd h (by decide)
  have h4 : ng x ≠ NaNc := by intro e; rw [e] at h2; rw [← h2, infR_val] at h; exact absurd h (by decide)
  unfold mirP
  rw [if_neg (by intro c; rcases c with c | c; exact h3 c; exact h4 c), ng_ng_ hx]
theorem add_mir (d : Int) {x y : Nat} (hx : x < 18446744073709551616) (hy : y < 18446744073709551616) (hd : d = -1 ∨ d = 0 ∨ d = 1) : mirP (addR (-d) (ng x) (ng y)) = addR d x y := by
  unfold addR
  rw [nan_ng hx, nan_ng hy, inf_ng hx, inf_ng hy, decide_eq_decide.2 (ng_ne hx hy), sv_ng hx, sv_ng hy]
  cases h1 : (isNaN x || isNaN y)
  · cases h2 : (isInf x && isInf y && decide (x ≠ y))
    · cases h3 : isInf x
      · cases h4 : isInf y
        · simp only [Bool.false_eq_true, if_false]
          rw [← Int.neg_add, Int.neg_mul]
          exact rT_mir _ _ hd
        · simp only [Bool.false_eq_true, if_false, if_true]
          exact mirP_ng hy h4
      · simp only [Bool.false_eq_true, if_false, if_true]
        exact mirP_ng hx h3
    · simp only [Bool.false_eq_true, if_false, if_true]; rfl
  · simp only [if_true]; rfl
theorem mul_mir (d : Int) {x y : Nat} (hx : x < 18446744073709551616) (hd : d = -1 ∨ d = 0 ∨ d = 1) : mirP (mulR (-d) (ng x) y) = mulR d x y := by
  unfold mulR
  rw [nan_ng hx, inf_ng hx, sv_ng hx, mg_ng hx, sg_ng_ hx]
  cases h1 : (isNaN x || isNaN y)
  · cases h2 : (isInf x || isInf y)
    · simp only [Bool.false_eq_true, if_false]
      rw [Int.neg_mul]
      exact rT_mir _ _ hd
    · simp only [Bool.false_eq_true, if_false, if_true]
      by_cases h3 : mg x = 0 ∨ mg y = 0
      · rw [if_pos h3, if_pos h3]; rfl
      · rw [if_neg h3, if_neg h3, show ((!sg x) != sg y) = !(sg x != sg y) by cases sg x <;> cases sg y <;> rfl]
        exact mirP_inf _
  · simp only [if_true]; rfl
theorem div_mir (d : Int) {x y : Nat} (hx : x < 18446744073709551616) (hd : d = -1 ∨ d = 0 ∨ d = 1) : mirP (divR (-d) (ng x) y) = divR d x y := by
  unfold divR
  rw [nan_ng hx, inf_ng hx, mg_ng hx, sg_ng_ hx]
  have e : ((!sg x) != sg y) = !(sg x != sg y) := by cases sg x <;> cases sg y <;> rfl
  rw [e]
  cases h1 : (isNaN x || isNaN y || (isInf x && isInf y) || (decide (mg x = 0) && decide (mg y = 0)))
  · simp only [Bool.false_eq_true, if_false]
    by_cases h2 : mg y = 0
    · rw [if_pos h2, if_pos h2]
      have h3 : mg x ≠ 0 := by
        intro h3
        rw [h2, h3] at h1
        simp at h1
      rw [decide_eq_true h3, Bool.and_true, Bool.and_true]
      exact mirP_inf _
    · rw [if_neg h2, if_neg h2]
      cases h3 : isInf x
      · simp only [Bool.false_eq_true, if_false]
        cases h4 : isInf y
        · simp only [Bool.false_eq_true, if_false]
          exact rnd_mir _ _ _ hd
        · simp only [if_true]; rfl
      · simp only [if_true]
        exact mirP_inf _
  · simp only [if_true]; rfl
theorem odd_ng {x : Nat} (h : x < 18446744073709551616) : oddP (ng x) = oddP x := by unfold oddP; rw [nan_ng h, inf_ng h]
theorem cn_mir {z : Nat} (hz : z < 18446744073709551616) (h : oddP z = true) : mirP (cn (ng z)) = cn z := by
  unfold cn
  rw [nan_ng hz]
  unfold oddP at h
  cases h1 : isNaN z
  · rw [h1, Bool.false_or] at h
    simp only [Bool.false_eq_true, if_false]
    exact mirP_ng hz h
  · simp only [if_true]; rfl
theorem infP_lt_ (s : Bool) : infP s < 18446744073709551616 := by cases s <;> decide
theorem fma_mir (d : Int) {x y z : Nat} (hx : x < 18446744073709551616) (hy : y < 18446744073709551616) (hz : z < 18446744073709551616) (hd : d = -1 ∨ d = 0 ∨ d = 1) : mirP (fmaR (-d) (ng x) y (ng z)) = fmaR d x y z := by
  have hM := mul_mir d (y := y) hx hd
  unfold fmaR
  rw [odd_ng hx, odd_ng hz]
  cases ho : (oddP x || oddP y)
  · simp only [Bool.false_eq_true, if_false]
    cases h2 : oddP z
    · simp only [Bool.false_eq_true, if_false]
      rw [sv_ng hx, sv_ng hz, Int.neg_mul, Int.neg_mul, ← Int.neg_add]
      exact rT_mir _ _ hd
    · simp only [if_true]
      exact cn_mir hz h2
  · simp only [if_true]
    have ho2 : (isNaN (ng x) || isInf (ng x) || (isNaN y || isInf y)) = true := by
      rw [nan_ng hx, inf_ng hx]; exact ho
    rcases mul_odd (ng_lt hx) hy ho2 with ⟨_, h1⟩ | ⟨s, _, h1⟩
    · rw [h1 (-d)] at hM ⊢
      rw [← hM, mirP_nan, addR_nan _ NaNc_nan, addR_nan _ NaNc_nan]; rfl
    · rw [h1 (-d)] at hM ⊢
      have e : infP s = ng (infP (!s)) := by rw [ng_infP, Bool.not_not]
      have e2 : mirP (infP s) = infP (!s) := by have := mirP_inf (!s); rw [Bool.not_not] at this; exact this
      rw [← hM, e2, e]
      exact add_mir d (infP_lt_ _) hz hd
theorem addR_comm (d : Int) (x y : Nat) : addR d x y = addR d y x := by
  unfold addR
  rw [Bool.or_comm (isNaN x), Bool.and_comm (isInf x), Int.add_comm (sv x), show decide (x ≠ y) = decide (y ≠ x) from decide_eq_decide.2 ⟨Ne.symm, Ne.symm⟩]
  cases h1 : (isNaN y || isNaN x)
  · cases h3 : isInf x <;> cases h4 : isInf y
    · simp
    · simp
    · simp
    · by_cases e : y = x
      · subst e; simp
      · simp [e]
  · simp
theorem mulR_comm (d : Int) (x y : Nat) : mulR d x y = mulR d y x := by
  unfold mulR
  rw [Bool.or_comm (isNaN x), Bool.or_comm (isInf x), Int.mul_comm (sv x), show (sg x != sg y) = (sg y != sg x) by cases sg x <;> cases sg y <;> rfl]
  have e : (if mg x = 0 ∨ mg y = 0 then NaNc else infP (sg y != sg x)) = (if mg y = 0 ∨ mg x = 0 then NaNc else infP (sg y != sg x)) := by
    by_cases h : mg x = 0 ∨ mg y = 0
    · rw [if_pos h, if_pos (Or.symm h)]
    · rw [if_neg h, if_neg (fun k => h (Or.symm k))]
  rw [e]
theorem fmaR_comm (d : Int) (x y z : Nat) : fmaR d x y z = fmaR d y x z := by
  unfold fmaR
  rw [Bool.or_comm (oddP x), mulR_comm d x y, Int.mul_comm (sv x)]
/-- What asked answers. -/
def askR (k : Nat) (d : Int) (x y z : Nat) : Nat := if k = 0 then addR d x y else if k = 1 then addR d x (ng y) else if k = 2 then mulR d x y else if k = 3 then divR d x y else fmaR d x y z
theorem ask_mir1 {k : Nat} {d : Int} {x y z : Nat} (hk : k < 2) (hx : x < 18446744073709551616) (hy : y < 18446744073709551616) (hd : d = -1 ∨ d = 0 ∨ d = 1) : mirP (askR k (-d) (ng x) (ng y) z) = askR k d x y z := by
  unfold askR
  have : k = 0 ∨ k = 1 := by omega
  rcases this with rfl | rfl
  · simp only [if_true]; exact add_mir d hx hy hd
  · simp only [show ¬ (1 = 0) by omega, if_false, if_true]; exact add_mir d hx (ng_lt hy) hd
theorem ask_mir2 {k : Nat} {d : Int} {x y z : Nat} (hk : 2 ≤ k) (hx : x < 18446744073709551616) (hy : y < 18446744073709551616) (hz : z < 18446744073709551616) (hd : d = -1 ∨ d = 0 ∨ d = 1) : mirP (askR k (-d) (ng x) y (ng z)) = askR k d x y z := by
  unfold askR
  simp only [show ¬ k = 0 by omega, show ¬ k = 1 by omega, if_false]
  by_cases h2 : k = 2
  · simp only [h2, if_true]; exact mul_mir d hx hd
  · simp only [h2, if_false]
    by_cases h3 : k = 3
    · simp only [h3, if_true]; exact div_mir d hx hd
    · simp only [h3, if_false]; exact fma_mir d hx hy hz hd
end Go.Proofs.Ytmcfflecaklpcaa.Rn
