/-
  Plain: what two roads of the program answer alike. Conditions: those that each theorem names.
-/
import Derived.Test.YtadijoeeaineaaaDoorZ37
import Derived.Test.YtadijoeeaineaaaDoorZ32
import Derived.Test.YtadijoeeaineaaaDoorZ36
import Derived.Test.YtadijoeeaineaaaDoorZ26
import Derived.Test.YtadijoeeaineaaaDoorZ29
import Derived.Test.YtadijoeeaineaaaDoorZ27
import Derived.Test.YtadijoeeaineaaaDoorZ33
import Derived.Test.YtadijoeeaineaaaDoorZ24
namespace Go.Proofs.YtadijoeeaineaaaDoor
open Nm Rn
set_option linter.unusedVariables false
set_option linter.unusedSimpArgs false
set_option exponentiation.threshold 3000

theorem o1n : isNaN 4607182418800017408 = false := by decide
theorem o1i : isInf 4607182418800017408 = false := by decide
theorem o1z : ¬ mg 4607182418800017408 = 0 := by decide
theorem o1s : sg 4607182418800017408 = false := by decide
theorem o1v : rv (mg 4607182418800017408) = K74 := by decide +kernel
theorem o1sv : sv 4607182418800017408 = (K74 : Int) := by
  unfold sv
  rw [o1s, o1v]
  rfl
theorem inf_pat {x : Nat} (hx : x < 18446744073709551616) (h : isInf x = true) : infP (sg x) = x := by
  have h1 := split_pat hx
  unfold isInf at h
  rw [of_decide_eq_true h] at h1
  unfold infP
  cases hs : sg x
  · rw [hs] at h1
    simpa using h1.symm
  · rw [hs] at h1
    simp only [if_true] at h1 ⊢
    rw [h1]
    rfl
theorem fin_lt {x : Nat} (h1 : isNaN x = false) (h2 : isInf x = false) : mg x < infR := by
  unfold isNaN at h1
  unfold isInf at h2
  have a := of_decide_eq_false h1
  have b := of_decide_eq_false h2
  omega
theorem pat_plain {x : Nat} (hx : x < 18446744073709551616) (h1 : isNaN x = false) : pat (sg x) (mg x) = plN x := by
  have h2 := split_pat hx
  rw [plN_of h1]
  unfold pat pl
  cases hs : sg x
  · rw [hs] at h2
    simp only [Bool.false_eq_true, if_false] at h2 ⊢
    have hm : mg x < 9223372036854775808 := by unfold mg; omega
    split
    · rw [if_neg (by omega)]; omega
    · rw [if_neg (by omega)]; omega
  · rw [hs] at h2
    simp only [if_true] at h2 ⊢
    split
    · rw [if_pos (by omega)]
    · rw [if_neg (by omega)]; omega

/-- x * 1 + y is x + y. -/
theorem fma_one (d : Int) {x y : Nat} (hx : x < 18446744073709551616) (hy : y < 18446744073709551616) : fmaR d x 4607182418800017408 y = addR d x y := by
  have hP : oddP 4607182418800017408 = false := by decide
  unfold fmaR
  rw [hP, Bool.or_false]
  cases hX : oddP x
  · rw [if_neg (by simp)]
    unfold oddP at hX
    obtain ⟨x1, x2⟩ := Bool.or_eq_false_iff.1 hX
    cases hY : oddP y
    · rw [if_neg (by simp)]
      unfold oddP at hY
      obtain ⟨y1, y2⟩ := Bool.or_eq_false_iff.1 hY
      unfold addR
      rw [x1, x2, y1, y2, o1sv]
      simp only [Bool.or_false, Bool.false_and, Bool.false_eq_true, if_false]
      rw [Int.add_mul]
    · rw [if_pos rfl]
      unfold oddP at hY
      unfold addR
      rw [x1, x2]
      simp only [Bool.false_or, Bool.false_and, Bool.false_eq_true, if_false]
      cases y1 : isNaN y
      · rw [y1, Bool.false_or] at hY
        rw [hY]
        simp only [Bool.false_eq_true, if_false, if_true]
        unfold cn
        rw [y1]
        rfl
      · simp only [if_true]
        unfold cn
        rw [y1]
        rfl
  · rw [if_pos rfl]
    unfold mulR
    rw [o1n, o1i, o1s, Bool.or_false, Bool.or_false]
    cases x1 : isNaN x
    · unfold oddP at hX
      rw [x1, Bool.false_or] at hX
      have hm : ¬ (mg x = 0 ∨ mg 4607182418800017408 = 0) := by
        unfold isInf at hX
        have := of_decide_eq_true hX
        have e := infR_val
        have := o1z
        omega
      rw [hX]
      simp only [Bool.false_eq_true, if_false, if_true]
      rw [if_neg hm, show (sg x != false) = sg x by cases sg x <;> rfl, inf_pat hx hX]
    · simp only [if_true]
      rw [addR_nan d x1, addR_nan d (show isNaN NaNc = true by decide)]

/-- x * y + 0 is x * y. -/
theorem fma_zero (d : Int) (x y : Nat) : fmaR d x y 0 = mulR d x y := by
  unfold fmaR
  cases hO : (oddP x || oddP y)
  · rw [if_neg (by simp), show oddP 0 = false by decide, if_neg (by simp)]
    unfold oddP at hO
    obtain ⟨a, b⟩ := Bool.or_eq_false_iff.1 hO
    obtain ⟨x1, x2⟩ := Bool.or_eq_false_iff.1 a
    obtain ⟨y1, y2⟩ := Bool.or_eq_false_iff.1 b
    unfold mulR
    rw [x1, x2, y1, y2]
    simp only [Bool.or_false, Bool.false_eq_true, if_false]
    have e : sv 0 = 0 := by decide
    rw [e, Int.zero_mul, Int.add_zero]
  · rw [if_pos rfl]
    unfold mulR
    cases hN : (isNaN x || isNaN y)
    · have hI : (isInf x || isInf y) = true := by
        unfold oddP at hO
        obtain ⟨x1, y1⟩ := Bool.or_eq_false_iff.1 hN
        rw [x1, y1, Bool.false_or, Bool.false_or] at hO
        exact hO
      rw [hI]
      simp only [Bool.false_eq_true, if_false, if_true]
      by_cases hz : mg x = 0 ∨ mg y = 0
      · rw [if_pos hz, addR_nan d (show isNaN NaNc = true by decide)]
      · rw [if_neg hz]
        have ia : ∀ p, isNaN p = false → isInf p = true → addR d p 0 = p := fun p h1 h2 => by
          unfold addR
          rw [h1, h2, show isNaN 0 = false by decide, show isInf 0 = false by decide]
          rfl
        cases (sg x != sg y)
        · exact ia _ (by decide) (by decide)
        · exact ia _ (by decide) (by decide)
    · simp only [if_true]
      rw [addR_nan d (show isNaN NaNc = true by decide)]

theorem zr_frac {N D : Nat} (hD : 0 < D) : zr (fracN N D 0) (fracD N D 0) = zr N D := by
  have h := frac_val (n := N) (d := D) (e := 0) (p := 0) (q := 0) rfl
  rw [Nat.pow_zero, Nat.mul_one, Nat.mul_one] at h
  exact zr_congr (fracD_pos _ (by omega)) hD h
theorem zr_fbx (x : Nat) : zr (fbN x) (fbD x) = 4 * rv (mg x) := zr_fb x

/-- x to the second is x * x. -/
theorem pow_two_ (d : Int) (x : Nat) : powR d x 2 = mulR d x x := by
  unfold powR mulR
  cases h1 : isNaN x
  · rw [if_neg (by simp; try omega), if_neg (by omega)]
    simp only [Bool.or_self, Bool.false_eq_true, if_false]
    cases h2 : isInf x
    · simp only [Bool.false_eq_true, if_false]
      rw [if_neg (by omega), if_pos (by omega)]
      have hm := mul_ref d x x (n := (sg x && decide (mg x ≠ 0))) (m := (sg x && decide (mg x ≠ 0))) rfl rfl
      rw [show ((sg x && decide (mg x ≠ 0)) != (sg x && decide (mg x ≠ 0))) = false by simp, Bool.false_and] at hm
      rw [← hm, show (2 : Int).toNat = 2 from rfl, Nat.pow_two, Nat.pow_two, show pwS (sg x) 2 = false by unfold pwS; cases sg x <;> rfl]
    · simp only [if_true]
      have hi := h2
      unfold isInf at hi
      have hi := of_decide_eq_true hi
      have e := infR_val
      rw [if_neg (by omega), if_neg (by cases sg x <;> decide), if_neg (by omega)]
      cases sg x <;> rfl
  · simp

/-- x to the first is x. -/
theorem pow_one_ (d : Int) {x : Nat} (hx : x < 18446744073709551616) : powR d x 1 = plN x := by
  unfold powR
  cases h1 : isNaN x
  · rw [if_neg (by simp; try omega), if_neg (by omega)]
    cases h2 : isInf x
    · simp only [Bool.false_eq_true, if_false]
      rw [if_neg (by omega), if_pos (by omega), show (1 : Int).toNat = 1 from rfl, Nat.pow_one, Nat.pow_one, zr_frac (fbD_pos x), zr_fb, rnd_rung _ _ (fin_lt h1 h2)]
      rw [show pwS (sg x) 1 = sg x by unfold pwS; cases sg x <;> rfl, pat_plain hx h1]
    · simp only [if_true]
      rw [if_neg (by omega)]
      have hp := inf_pat hx h2
      rw [plN_of h1]
      cases hs : sg x
      · rw [hs] at hp
        rw [Bool.false_and, if_neg (by simp), ← hp]
        rfl
      · rw [hs] at hp
        rw [if_pos (by decide), ← hp]
        rfl
  · rw [if_pos (.inl rfl)]
    have : ¬ x = 9223372036854775808 := fun e => by rw [e] at h1; revert h1; decide
    unfold plN
    rw [if_neg this, h1]
    rfl

/-- x to the power -1 is 1 / x. -/
theorem pow_inv_ (d : Int) {x : Nat} (hz : mg x ≠ 0) : powR d x (-1) = divR d 4607182418800017408 x := by
  unfold powR divR
  rw [o1n, o1i, o1s, o1v]
  have hz' : decide (mg x = 0) = false := decide_eq_false hz
  rw [hz']
  cases h1 : isNaN x
  · rw [if_neg (by simp; try omega), if_neg (by omega)]
    simp only [Bool.or_false, Bool.false_and, Bool.and_false, Bool.false_eq_true, if_false]
    rw [if_neg hz]
    cases h2 : isInf x
    · simp only [Bool.false_eq_true, if_false]
      rw [if_neg (by omega), if_neg (by omega), show (- -1 : Int).toNat = 1 from rfl, Nat.pow_one, Nat.pow_one]
      have hN : fbN x ≠ 0 := fun h => hz ((fbN_zero x).1 h)
      have hP : fracN (fbN x) (fbD x) 0 ≠ 0 := fun h => hN (fracN_eq_zero.1 h)
      have hQ := fracD_pos (n := fbN x) (d := fbD x) 0 (Nat.ne_of_gt (fbD_pos x))
      have hv := frac_val (n := fbN x) (d := fbD x) (e := 0) (p := 0) (q := 0) rfl
      rw [Nat.pow_zero, Nat.mul_one, Nat.mul_one] at hv
      rw [zr_frac (by omega), Nat.one_mul, Nat.one_mul]
      have hry : 0 < rv (mg x) := by
        rcases Nat.eq_zero_or_pos (rv (mg x)) with h | h
        · exact absurd (rv_eq_zero.1 h) hz
        · exact h
      have e1 : zq (K74 * K75) (rv (mg x)) = zr K74 (rv (mg x)) := rfl
      rw [e1]
      have e2 : zr (fracD (fbN x) (fbD x) 0) (fracN (fbN x) (fbD x) 0) = zr K74 (rv (mg x)) := by
        refine zr_congr (by omega) hry ?_
        have hf := fb_val x
        refine Nat.eq_of_mul_eq_mul_right (fbD_pos x) ?_
        calc fracD (fbN x) (fbD x) 0 * rv (mg x) * fbD x = fracD (fbN x) (fbD x) 0 * (rv (mg x) * fbD x) := Nat.mul_assoc _ _ _
          _ = fracD (fbN x) (fbD x) 0 * (fbN x * K74) := by rw [hf]
          _ = K74 * (fbN x * fracD (fbN x) (fbD x) 0) := by ac_rfl
          _ = K74 * (fracN (fbN x) (fbD x) 0 * fbD x) := by rw [hv]
          _ = K74 * fracN (fbN x) (fbD x) 0 * fbD x := (Nat.mul_assoc _ _ _).symm
      rw [e2, show pwS (sg x) 1 = (false != sg x) by unfold pwS; cases sg x <;> rfl]
    · simp only [if_true]
      rw [if_pos (by omega)]
  · rw [if_pos (.inl rfl)]
    simp

/-- The second root is the square root. -/
theorem root_two_ (d : Int) (x : Nat) : rootR d x 2 = sqrtR d x := by
  unfold rootR sqrtR ngP
  rw [show decide ((2 : Int) < 1) = false by decide, show decide (1024 < (2 : Int)) = false by decide, show decide ((2 : Int) % 2 = 0) = true by decide, Bool.or_false, Bool.or_false, Bool.true_and]
  rfl

/-- The first root is the number itself. -/
theorem root_one_ (d : Int) {x : Nat} (hx : x < 18446744073709551616) : rootR d x 1 = plN x := by
  unfold rootR
  rw [show decide ((1 : Int) < 1) = false by decide, show decide (1024 < (1 : Int)) = false by decide, show decide ((1 : Int) % 2 = 0) = false by decide, Bool.or_false, Bool.or_false, Bool.false_and, Bool.or_false]
  cases h1 : isNaN x
  · simp only [Bool.false_eq_true, if_false]
    cases h2 : isInf x
    · simp only [Bool.false_eq_true, if_false]
      by_cases hz : mg x = 0
      · rw [if_pos hz]
        have := pat_plain hx h1
        rw [hz] at this
        rw [← this]
        rfl
      · rw [if_neg hz, ← pat_plain hx h1]
        refine rootV_at d (sg x) (rv (mg x)) 1 1074 (rv (mg x)) _ false (by decide) ?_ ?_ ?_ (fun h => by cases h) 1074 rfl ?_
        · rw [Nat.pow_one, K74_def]; exact Nat.le_refl _
        · rw [Nat.pow_one, K74_def]; exact Nat.mul_lt_mul_of_pos_right (Nat.lt_succ_self _) (two_pow_pos _)
        · rw [Nat.pow_one, K74_def]; simp
        · rw [zd_of (A := 0) (B := 0) (by decide), Nat.pow_zero, Nat.mul_one]
          have e : zq (2 * rv (mg x) + false.toNat) 1 = 4 * rv (mg x) := by
            unfold zq
            rw [Nat.div_one, Nat.mod_one, if_pos rfl]
            simp
            omega
          rw [e, rnd_rung _ _ (fin_lt h1 h2)]
    · simp only [if_true]
      have hp := inf_pat hx h2
      rw [plN_of h1]
      cases hs : sg x
      · rw [hs] at hp
        rw [← hp]
        rfl
      · rw [hs] at hp
        rw [← hp]
        rfl
  · simp only [if_true]
    have : ¬ x = 9223372036854775808 := fun e => by rw [e] at h1; revert h1; decide
    unfold plN
    rw [if_neg this, h1]
    rfl
end Go.Proofs.YtadijoeeaineaaaDoor

/-
  Plain: what Of and Ratio answer for a number's ratio and for the quotient of two numbers. Conditions: those that each theorem names.
-/
namespace Go.Proofs.YtadijoeeaineaaaDoor
open Nm Rn
set_option linter.unusedVariables false
set_option linter.unusedSimpArgs false
set_option exponentiation.threshold 3000

/-- Ratio, by the value of what it is handed. -/
theorem ratR_val (d : Int) (neg : Bool) {N M N' M' : Nat} {e : Int} {P Q : Nat} (hN : N ≠ 0) (hM : M ≠ 0) (hn : bl N ≤ 524288) (hm : bl M ≤ 524288) (h1 : -1099511627776 ≤ e) (h2 : e ≤ 1099511627776) (hM' : 0 < M') (hPQ : (P : Int) - Q = e) (h : N * 2 ^ P * M' = N' * (M * 2 ^ Q)) : ratR d neg N M e = rnd d neg (zr N' M') := by
  obtain ⟨c, hc⟩ : ∃ c : Nat, c = 1075 := ⟨_, rfl⟩
  refine ratR_same d neg hN hM hn hm h1 h2 ⟨P + c, Q, by omega, hM', by omega, ?_⟩
  rw [show K75 = 2 ^ c by rw [hc]; exact K75_def, Nat.pow_add]
  calc N * (2 ^ P * 2 ^ c) * M' = N * 2 ^ P * M' * 2 ^ c := by ac_rfl
    _ = N' * (M * 2 ^ Q) * 2 ^ c := by rw [h]
    _ = N' * 2 ^ c * (M * 2 ^ Q) := by ac_rfl
theorem ratR_zero (d : Int) (neg : Bool) {M : Nat} {e : Int} (hM : M ≠ 0) (hm : bl M ≤ 524288) : ratR d neg 0 M e = 0 := by
  have hz : ∀ (m : Nat) (e : Int), rat0 d neg 0 m e = 0 := fun m e => by
    unfold rat0
    rw [fracN_zero, zr_zero, rnd_zero]
  unfold ratR
  have h2 := nw_of_bl hm
  rw [if_neg (by have : nw 0 = 0 := rfl
                 omega), if_neg hM, if_pos rfl]
  rw [hz, hz, hz]
  split
  · rfl
  · split <;> rfl

/-- The sign of a ratio of a number. -/
def sgn (x : Nat) : Bool := sg x && decide (mg x ≠ 0)
theorem sgn_nz {x : Nat} (h : mg x ≠ 0) : sgn x = sg x := by unfold sgn; rw [decide_eq_true h, Bool.and_true]
theorem fb_bl (x : Nat) : bl (fbN x) ≤ 1300 ∧ bl (fbD x) ≤ 1300 := by
  have h1 := fbN_bits x
  have h2 := fbD_bits x
  rw [nw_bl] at h1 h2
  omega
theorem pat_sgn (x : Nat) : pat (sgn x) (mg x) = pat (sg x) (mg x) := by
  by_cases h : mg x = 0
  · rw [h]; rfl
  · rw [sgn_nz h]
theorem rnd_sgn (d : Int) {x : Nat} (hx : x < 18446744073709551616) (h1 : isNaN x = false) (h2 : isInf x = false) : rnd d (sgn x) (4 * rv (mg x)) = plN x := by
  rw [rnd_rung _ _ (fin_lt h1 h2), pat_sgn, pat_plain hx h1]

/-- The denominator of a number's ratio is a power of 2. -/
theorem fbD_pow (x : Nat) : fbD x = 2 ^ (bl (fbD x) - 1) := by
  obtain ⟨k, hk⟩ : ∃ k, fbD x = 2 ^ k := by
    unfold fbD fracD
    split
    · exact ⟨0, rfl⟩
    · rw [show tz 1 = 0 from rfl, Nat.pow_zero, Nat.div_one, Nat.one_mul]
      exact ⟨_, rfl⟩
  have hb : bl (fbD x) = k + 1 := by
    rw [hk]
    exact bl_eq_of (k := k) (Nat.le_refl _) (Nat.pow_lt_pow_right (by omega) (by omega))
  rw [hb, Nat.add_sub_cancel]
  exact hk

/-- Of, for a number's ratio. -/
theorem ofR_fb (d : Int) {x : Nat} (hx : x < 18446744073709551616) (h1 : isNaN x = false) (h2 : isInf x = false) : ofR d (sgn x) (fbN x) (1 - (bl (fbD x) : Int)) = plN x := by
  obtain ⟨b1, b2⟩ := fb_bl x
  have hp := fbD_pos x
  have hb := bl_pos (Nat.ne_of_gt hp)
  rw [ofR_zd d _ (by omega) (by omega) (by omega)]
  rw [zd_zr (P := 0) (Q := bl (fbD x) - 1) hp (by omega) (by rw [Nat.pow_zero, Nat.mul_one, ← fbD_pow x]), zr_fb]
  exact rnd_sgn d hx h1 h2
/-- Ratio, for a number's ratio. -/
theorem ratR_fb (d : Int) {x : Nat} (hx : x < 18446744073709551616) (h1 : isNaN x = false) (h2 : isInf x = false) : ratR d (sgn x) (fbN x) (fbD x) 0 = plN x := by
  obtain ⟨b1, b2⟩ := fb_bl x
  have hp := fbD_pos x
  by_cases hz : mg x = 0
  · rw [(fbN_zero x).2 hz, ratR_zero d _ (Nat.ne_of_gt hp) (by omega), ← pat_plain hx h1, hz]
    rfl
  · rw [ratR_val d _ (e := 0) (fun h => hz ((fbN_zero x).1 h)) (Nat.ne_of_gt hp) (by omega) (by omega) (by omega) (by omega) hp (P := 0) (Q := 0) rfl (N' := fbN x) (by rw [Nat.pow_zero, Nat.mul_one, Nat.mul_one]), zr_fb]
    exact rnd_sgn d hx h1 h2

/-- Ratio, for whatever has the value of a quotient of two numbers. -/
theorem ratR_quo (d : Int) {x y : Nat} (hx1 : isNaN x = false) (hx2 : isInf x = false) (hy1 : isNaN y = false) (hy2 : isInf y = false) (hy : mg y ≠ 0) {N M : Nat} {e : Int} {P Q : Nat} (hN : N = 0 ↔ mg x = 0) (hM : M ≠ 0) (hn : bl N ≤ 524288) (hm : bl M ≤ 524288) (h1 : -1099511627776 ≤ e) (h2 : e ≤ 1099511627776) (hPQ : (P : Int) - Q = e) (h : N * 2 ^ P * (fbD x * fbN y) = fbN x * fbD y * (M * 2 ^ Q)) :
    ratR d (sgn x != sgn y) N M e = divR d x y := by
  have hq := quo_ref d x y hy (n := sgn x) (m := sgn y) rfl rfl
  have hdiv : divR d x y = rnd d (sg x != sg y) (zq (rv (mg x) * K75) (rv (mg y))) := by
    unfold divR
    rw [hx1, hx2, hy1, hy2, decide_eq_false hy]
    simp only [Bool.or_false, Bool.and_false, Bool.false_eq_true, if_false]
    rw [if_neg hy]
  have hNy : fbN y ≠ 0 := fun h => hy ((fbN_zero y).1 h)
  have hp : 0 < fbD x * fbN y := Nat.mul_pos (fbD_pos x) (Nat.pos_of_ne_zero hNy)
  rw [hdiv]
  by_cases hz : mg x = 0
  · rw [hN.2 hz, ratR_zero d _ hM hm, hz]
    have e1 : zq (rv 0 * K75) (rv (mg y)) = 0 := by
      have e2 : rv 0 = 0 := rfl
      rw [e2, Nat.zero_mul]
      have := zr_zero (rv (mg y))
      unfold zr at this
      rwa [Nat.zero_mul] at this
    rw [e1, rnd_zero]
  · have hNx : fbN x ≠ 0 := fun h => hz ((fbN_zero x).1 h)
    have hnz : fbN x * fbD y ≠ 0 := Nat.ne_of_gt (Nat.mul_pos (Nat.pos_of_ne_zero hNx) (fbD_pos y))
    rw [decide_eq_true hnz, Bool.and_true, zr_frac hp] at hq
    rw [ratR_val d _ (fun h => hz (hN.1 h)) hM hn hm h1 h2 hp hPQ h, hq]
end Go.Proofs.YtadijoeeaineaaaDoor

/-
  What the walk through RoundRoads leans on, where both are numbers: the calls by their contracts. Conditions: those that each theorem names.
-/
namespace Go.Proofs.YtadijoeeaineaaaDoor
open Go.RowKit Nm Rn
set_option maxRecDepth 100000
set_option linter.unusedVariables false
set_option linter.unusedSimpArgs false
set_option exponentiation.threshold 3000

structure RdF (d : Int) (x y : Nat) (sx sy : Bool) (N1 D1 N2 D2 P Q : Nat) (L sv : Int) (VP VE : Nat) : Prop where
  fx : Hid (∀ w, Calls Tryd.prog 22 #[.int .u64 (x : Int)] w (RetR sx N1 D1 w))
  fy : Hid (∀ w, Calls Tryd.prog 22 #[.int .u64 (y : Int)] w (RetR sy N2 D2 w))
  ln : Hid (∀ (A : Option Addr) (l c : Nat) (w : World), Wds w A l c (nd D1) → Calls Tryd.prog 24 #[.slice A l c] w fun e w' => e = .returned (.int .i64 L) ∧ w = w')
  of : Hid (∀ (A : Option Addr) (l c : Nat) (w : World), Wds w A l c (nd N1) → Calls Tryd.prog 23 #[.int .i64 d, .bool sx, .slice A l c, .int .i64 (1 - L)] w (RetFl VP w))
  ra : Hid (∀ (A : Option Addr) (l c : Nat) (B : Option Addr) (k dd : Nat) (w : World), Wds w A l c (nd N1) → Wds w B k dd (nd D1) → Calls Tryd.prog 25 #[.int .i64 d, .bool sx, .slice A l c, .slice B k dd, .int .i64 0] w (RetFl VP w))
  pl : Hid (∀ w, Calls Tryd.prog 19 #[.int .u64 (x : Int)] w fun e w' => e = .returned (.int .u64 (VP : Nat)) ∧ w = w')
  sg : Hid (∀ (A : Option Addr) (l c : Nat) (B : Option Addr) (k dd : Nat) (w : World), Wds w A l c (nd N2) → Calls Tryd.prog 27 #[.agg #[.bool sy, .slice A l c, .slice B k dd]] w fun e w' => e = .returned (.int .i64 sv) ∧ Ext w w')
  t1 : Hid (∀ (A : Option Addr) (l c : Nat) (B : Option Addr) (k dd : Nat) (w : World), Wds w A l c (nd N1) → Wds w B k dd (nd D2) → Calls Tryd.prog 28 #[.slice A l c, .slice B k dd] w (RetW P w))
  t2 : Hid (∀ (A : Option Addr) (l c : Nat) (B : Option Addr) (k dd : Nat) (w : World), Wds w A l c (nd D1) → Wds w B k dd (nd N2) → Calls Tryd.prog 28 #[.slice A l c, .slice B k dd] w (RetW Q w))
  lb : Hid (0 ≤ L ∧ L ≤ 100000)

structure RdQ (d : Int) (x y : Nat) (s : Bool) (P Q K PK QK PL VE : Nat) : Prop where
  rq : Hid (∀ (A : Option Addr) (l c : Nat) (B : Option Addr) (k dd : Nat) (w : World), Wds w A l c (nd P) → Wds w B k dd (nd Q) → Calls Tryd.prog 25 #[.int .i64 d, .bool s, .slice A l c, .slice B k dd, .int .i64 0] w (RetFl VE w))
  dv : Hid (∀ w, Calls Tryd.prog 16 #[.int .i64 d, .float .f64 x, .float .f64 y] w (RetFl VE w))
  u1 : Hid (∀ (A : Option Addr) (l c : Nat) (B : Option Addr) (k dd : Nat) (w : World), Wds w A l c (nd P) → Wds w B k dd (nd K) → Calls Tryd.prog 28 #[.slice A l c, .slice B k dd] w (RetW PK w))
  u2 : Hid (∀ (A : Option Addr) (l c : Nat) (B : Option Addr) (k dd : Nat) (w : World), Wds w A l c (nd Q) → Wds w B k dd (nd K) → Calls Tryd.prog 28 #[.slice A l c, .slice B k dd] w (RetW QK w))
  rk : Hid (∀ (A : Option Addr) (l c : Nat) (B : Option Addr) (k dd : Nat) (w : World), Wds w A l c (nd PK) → Wds w B k dd (nd QK) → Calls Tryd.prog 25 #[.int .i64 d, .bool s, .slice A l c, .slice B k dd, .int .i64 0] w (RetFl VE w))
  lf : Hid (∀ (A : Option Addr) (l c : Nat) (w : World), Wds w A l c (nd P) → Calls Tryd.prog 29 #[.slice A l c, .int .i64 7] w (RetW PL w))
  rl : Hid (∀ (A : Option Addr) (l c : Nat) (B : Option Addr) (k dd : Nat) (w : World), Wds w A l c (nd PL) → Wds w B k dd (nd Q) → Calls Tryd.prog 25 #[.int .i64 d, .bool s, .slice A l c, .slice B k dd, .int .i64 (-7)] w (RetFl VE w))

theorem num_parts {x : Nat} (h : mg x < infR) : isNaN x = false ∧ isInf x = false := by
  unfold isNaN isInf
  have := infR_val
  exact ⟨decide_eq_false (by omega), decide_eq_false (by omega)⟩

theorem rdF_of (d : Int) (x y : Nat) (hx : x < 18446744073709551616) (hy : y < 18446744073709551616) (fx : mg x < infR) (fy : mg y < infR) :
    RdF d x y (sgn x) (sgn y) (fbN x) (fbD x) (fbN y) (fbD y) (fbN x * fbD y) (fbD x * fbN y) (bl (fbD x) : Int) (sgnZ (sgn y) (fbN y)) (plN x) (divR d x y) := by
  obtain ⟨x1, x2⟩ := num_parts fx
  obtain ⟨bx1, bx2⟩ := fb_bl x
  obtain ⟨by1, by2⟩ := fb_bl y
  have nx1 := nw_bl (fbN x)
  have nx2 := nw_bl (fbD x)
  have ny1 := nw_bl (fbN y)
  have ny2 := nw_bl (fbD y)
  have hl : ∀ {w : World} {A : Option Addr} {l c V : Nat}, Wds w A l c (nd V) → l = nw V := fun h => by have := h.len; rw [nd_length] at this; omega
  refine ⟨Lib.hid fun w => frombits_any x w hx, Lib.hid fun w => frombits_any y w hy, Lib.hid fun A l c w h => ?_, Lib.hid fun A l c w h => ?_, Lib.hid fun A l c B k dd w h h' => ?_, Lib.hid fun w => plain3_any x w hx, Lib.hid fun A l c B k dd w h => ?_, Lib.hid fun A l c B k dd w h h' => ?_, Lib.hid fun A l c B k dd w h h' => ?_, Lib.hid ⟨by omega, by omega⟩⟩
  · have e := hl h
    have := len_any A l c (nd (fbD x)) w h (by omega)
    rwa [nv_nd] at this
  · have e := hl h
    have := rof_any d (sgn x) A l c (nd (fbN x)) (1 - (bl (fbD x) : Int)) w h (by omega)
    rwa [nv_nd, ofR_fb d hx x1 x2] at this
  · have e := hl h
    have e' := hl h'
    have := pratio_any d (sgn x) A l c (nd (fbN x)) B k dd (nd (fbD x)) 0 w h (by omega) h' (by omega)
    rwa [nv_nd, nv_nd, ratR_fb d hx x1 x2] at this
  · have e := hl h
    have := rsign_any (sgn y) A l c (nd (fbN y)) B k dd w h (by omega)
    rwa [nv_nd] at this
  · have e := hl h
    have e' := hl h'
    have := times_any A l c (nd (fbN x)) B k dd (nd (fbD y)) w h (by omega) h' (by omega)
    rwa [nv_nd, nv_nd] at this
  · have e := hl h
    have e' := hl h'
    have := times_any A l c (nd (fbD x)) B k dd (nd (fbN y)) w h (by omega) h' (by omega)
    rwa [nv_nd, nv_nd] at this

theorem rdQ_of (d : Int) (x y K : Nat) (hx : x < 18446744073709551616) (hy : y < 18446744073709551616) (fx : mg x < infR) (fy : mg y < infR) (hz : mg y ≠ 0) (k1 : 1 ≤ K) (k2 : K ≤ 1000000) :
    ∃ PK QK PL, RdQ d x y (sgn x != sgn y) (fbN x * fbD y) (fbD x * fbN y) K PK QK PL (divR d x y) := by
  obtain ⟨x1, x2⟩ := num_parts fx
  obtain ⟨y1, y2⟩ := num_parts fy
  obtain ⟨bx1, bx2⟩ := fb_bl x
  obtain ⟨by1, by2⟩ := fb_bl y
  have hNy : fbN y ≠ 0 := fun h => hz ((fbN_zero y).1 h)
  have pDx := fbD_pos x
  have pDy := fbD_pos y
  have hP0 : fbN x * fbD y = 0 ↔ mg x = 0 := by
    rw [Nat.mul_eq_zero]
    constructor
    · rintro (h | h)
      · exact (fbN_zero x).1 h
      · omega
    · intro h; exact .inl ((fbN_zero x).2 h)
  have hQ0 : fbD x * fbN y ≠ 0 := Nat.ne_of_gt (Nat.mul_pos pDx (Nat.pos_of_ne_zero hNy))
  have bP := bl_mul_le (fbN x) (fbD y)
  have bQ := bl_mul_le (fbD x) (fbN y)
  have bK : bl K ≤ 20 := (bl_le_iff K 20).2 (by omega)
  have bPK := bl_mul_le (fbN x * fbD y) K
  have bQK := bl_mul_le (fbD x * fbN y) K
  have bPL := bl_mul_le (fbN x * fbD y) (2 ^ 7)
  have b7 : bl (2 ^ 7) = 8 := by decide
  have key := fun {N M : Nat} {e : Int} {P Q : Nat} (hN : N = 0 ↔ mg x = 0) (hM : M ≠ 0) (hn : bl N ≤ 524288) (hm : bl M ≤ 524288) (h1 : -1099511627776 ≤ e) (h2 : e ≤ 1099511627776) (hPQ : (P : Int) - Q = e) h => ratR_quo d (x := x) (y := y) x1 x2 y1 y2 hz hN hM hn hm h1 h2 hPQ h
  have r1 : ratR d (sgn x != sgn y) (fbN x * fbD y) (fbD x * fbN y) 0 = divR d x y := key (P := 0) (Q := 0) hP0 hQ0 (by omega) (by omega) (by omega) (by omega) rfl (by rw [Nat.pow_zero, Nat.mul_one, Nat.mul_one])
  have r2 : ratR d (sgn x != sgn y) (fbN x * fbD y * K) (fbD x * fbN y * K) 0 = divR d x y := key (P := 0) (Q := 0) (by rw [Nat.mul_eq_zero, hP0]; omega) (Nat.ne_of_gt (Nat.mul_pos (Nat.pos_of_ne_zero hQ0) (by omega))) (by omega) (by omega) (by omega) (by omega) rfl (by rw [Nat.pow_zero, Nat.mul_one, Nat.mul_one]; ac_rfl)
  have h7 : fbN x * fbD y * 2 ^ 7 = 0 ↔ mg x = 0 := by
    rw [Nat.mul_eq_zero, hP0]
    constructor
    · rintro (h | h)
      · exact h
      · exact absurd h (by decide)
    · exact .inl
  have r3 : ratR d (sgn x != sgn y) (fbN x * fbD y * 2 ^ 7) (fbD x * fbN y) (-7) = divR d x y := key (P := 0) (Q := 7) h7 hQ0 (by omega) (by omega) (by omega) (by omega) rfl (by rw [Nat.pow_zero, Nat.mul_one]; ac_rfl)
  have nP := nw_bl (fbN x * fbD y)
  have nQ := nw_bl (fbD x * fbN y)
  have nK := nw_bl K
  have nPK := nw_bl (fbN x * fbD y * K)
  have nQK := nw_bl (fbD x * fbN y * K)
  have nPL := nw_bl (fbN x * fbD y * 2 ^ 7)
  have hl : ∀ {w : World} {A : Option Addr} {l c V : Nat}, Wds w A l c (nd V) → l = nw V := fun h => by have := h.len; rw [nd_length] at this; omega
  refine ⟨fbN x * fbD y * K, fbD x * fbN y * K, fbN x * fbD y * 2 ^ 7, Lib.hid fun A l c B k dd w h h' => ?_, Lib.hid fun w => rdiv_any d x y w hx hy, Lib.hid fun A l c B k dd w h h' => ?_, Lib.hid fun A l c B k dd w h h' => ?_, Lib.hid fun A l c B k dd w h h' => ?_, Lib.hid fun A l c w h => ?_, Lib.hid fun A l c B k dd w h h' => ?_⟩
  · have e := hl h
    have e' := hl h'
    have := pratio_any d (sgn x != sgn y) A l c (nd (fbN x * fbD y)) B k dd (nd (fbD x * fbN y)) 0 w h (by omega) h' (by omega)
    rwa [nv_nd, nv_nd, r1] at this
  · have e := hl h
    have e' := hl h'
    have := times_any A l c _ B k dd _ w h (by omega) h' (by omega)
    rwa [nv_nd, nv_nd] at this
  · have e := hl h
    have e' := hl h'
    have := times_any A l c _ B k dd _ w h (by omega) h' (by omega)
    rwa [nv_nd, nv_nd] at this
  · have e := hl h
    have e' := hl h'
    have := pratio_any d (sgn x != sgn y) A l c (nd (fbN x * fbD y * K)) B k dd (nd (fbD x * fbN y * K)) 0 w h (by omega) h' (by omega)
    rwa [nv_nd, nv_nd, r2] at this
  · have e := hl h
    have := left_any A l c _ 7 w h (by omega) (by omega)
    rwa [nv_nd] at this
  · have e := hl h
    have e' := hl h'
    have := pratio_any d (sgn x != sgn y) A l c (nd (fbN x * fbD y * 2 ^ 7)) B k dd (nd (fbD x * fbN y)) (-7) w h (by omega) h' (by omega)
    rwa [nv_nd, nv_nd, r3] at this
end Go.Proofs.YtadijoeeaineaaaDoor
