/-
  The contract of math.Round. Conditions: those that each theorem names.
-/
import Derived.Test.YtadijoeeaineaaaDoorG27
namespace Go.Proofs.YtadijoeeaineaaaDoor
open Go.RowKit Nm Rn
set_option maxRecDepth 100000
set_option linter.unusedVariables false
set_option linter.unusedSimpArgs false

theorem and_sign (b : Nat) (h : b < 18446744073709551616) : bits .and .u64 (b : Int) 9223372036854775808 = ((if sg b then 9223372036854775808 else 0 : Nat) : Int) := by
  rw [show (9223372036854775808 : Int) = ((9223372036854775808 : Nat) : Int) from rfl, u64_and_nat _ _ h (by omega)]
  congr 1
  have e63 : (9223372036854775808 : Nat) = 2 ^ 63 := by decide
  have hb : b.testBit 63 = sg b := by
    rw [Nat.testBit_eq_decide_div_mod_eq]
    unfold sg
    refine decide_eq_decide.2 ?_
    rw [← e63]
    omega
  apply Nat.eq_of_testBit_eq
  intro i
  rw [Nat.testBit_and, e63, Nat.testBit_two_pow]
  by_cases hi : 63 = i
  · subst hi
    rw [hb]
    cases sg b
    · simp
    · simp
      decide
  · rw [decide_eq_false hi, Bool.and_false]
    cases sg b
    · simp
    · simp only [if_true]
      rw [Nat.testBit_two_pow, decide_eq_false hi]
theorem andNot_low (a c : Nat) (h : a < 18446744073709551616) (hc : c ≤ 63) : bits .andNot .u64 (a : Int) ((2 ^ c - 1 : Nat) : Int) = ((a - a % 2 ^ c : Nat) : Int) := by
  have h1 : 2 ^ c ≤ 2 ^ 63 := Nat.pow_le_pow_right (by omega) hc
  have h2 : (2 : Nat) ^ 63 = 9223372036854775808 := by decide
  have h3 : 0 < 2 ^ c := Nat.pow_pos (by omega)
  rw [u64_andNot_nat _ _ h (by omega)]
  congr 1
  have e : 18446744073709551615 - (2 ^ c - 1) = 2 ^ 64 - 1 - (2 ^ c - 1) := by
    rw [show (2 : Nat) ^ 64 = 18446744073709551616 by decide]
  have ha : a < 2 ^ 64 := by rw [show (2 : Nat) ^ 64 = 18446744073709551616 by decide]; exact h
  apply Nat.eq_of_testBit_eq
  intro i
  have h5 : a - a % 2 ^ c = 2 ^ c * (a / 2 ^ c) := by
    have := Nat.div_add_mod a (2 ^ c)
    omega
  have h4 : (18446744073709551615 - (2 ^ c - 1)).testBit i = (decide (i < 64) && !decide (i < c)) := by
    have := Nat.testBit_two_pow_sub_succ (n := 64) (x := 2 ^ c - 1) (by rw [show (2 : Nat) ^ 64 = 18446744073709551616 by decide]; omega) i
    rw [show 2 ^ c - 1 + 1 = 2 ^ c by omega] at this
    rw [show 18446744073709551615 - (2 ^ c - 1) = 2 ^ 64 - 2 ^ c by rw [show (2 : Nat) ^ 64 = 18446744073709551616 by decide]; omega, this, Nat.testBit_two_pow_sub_one]
  rw [Nat.testBit_and, h4, h5, Nat.testBit_two_pow_mul, Nat.testBit_div_two_pow]
  by_cases hi : i < c
  · rw [decide_eq_true hi, decide_eq_false (show ¬ c ≤ i by omega)]
    simp
  · rw [decide_eq_false hi, decide_eq_true (show c ≤ i by omega), show i - c + c = i by omega]
    by_cases h64 : i < 64
    · rw [decide_eq_true h64]; simp
    · rw [decide_eq_false h64]
      have : a.testBit i = false := Nat.testBit_lt_two_pow (Nat.lt_of_lt_of_le ha (Nat.pow_le_pow_right (by omega) (by omega)))
      rw [this]; simp

set_option maxHeartbeats 1000000 in
theorem mround_any {x : Nat} (hx : x < 18446744073709551616) (hn : isNaN x = false) (w : World) : Calls Tryd.prog 108 #[.float .f64 x] w fun e w' => e = .returned (.float .f64 (stP 5 x)) ∧ w = w' := by
  have hi := infR_val
  unfold isNaN at hn
  have hn' := of_decide_eq_false hn
  obtain ⟨E, hE⟩ : ∃ E, E = x / 4503599627370496 % 2048 := ⟨_, rfl⟩
  have g1 : bits .and .u64 ((x : Int) / 4503599627370496) 2047 = (E : Int) := by
    rw [show (x : Int) / 4503599627370496 = ((x / 4503599627370496 : Nat) : Int) by omega, show (2047 : Int) = ((2047 : Nat) : Int) from rfl, u64_and_nat _ _ (by omega) (by omega), show (2047 : Nat) = 2 ^ 11 - 1 by decide, Nat.and_two_pow_sub_one_eq_mod, hE]
  have g2 := and_sign x hx
  have hEm : mg x / 4503599627370496 = E := by unfold mg; omega
  have hEb : E ≤ 2047 := by omega
  obtain ⟨V, hV⟩ : ∃ V, V = stP 5 x := ⟨_, rfl⟩
  rw [← hV]
  have hVf : mg x < infR → V = Ieee.double.word (sg x) (rAw (mg x)) := fun h => by
    rw [hV]
    unfold stP
    rw [if_pos h, rAw_eq h (sg x)]
  have hxp := split_pat hx
  by_cases c1 : E < 1022
  · have e : V = if sg x then 9223372036854775808 else 0 := by
      rw [hVf (by unfold mg at hEm ⊢; omega), word_eq]
      unfold rAw
      rw [hEm, if_pos c1]
    rw [e]
    obtain ⟨T, hT⟩ : ∃ T : Nat, T = if sg x then 9223372036854775808 else 0 := ⟨_, rfl⟩
    rw [← hT] at g2 ⊢
    have d1 : decide ((E : Int) < 1023) = true := decide_eq_true (by omega)
    have d2 : ((E : Int) == 1022) = false := by rw [beq_eq_false_iff_ne]; omega
    clear hT e hV hVf hxp hEm hn hn' hE c1
    go_enter Tryd.func108, Tryd.ntmps108
    go_wp2
    go_ret
    exact ⟨rfl, rfl⟩
  · by_cases c2 : E = 1022
    · have e : V = if sg x then 13830554455654793216 else 4607182418800017408 := by
        rw [hVf (by unfold mg at hEm ⊢; omega), word_eq]
        unfold rAw
        rw [hEm, if_neg c1, if_pos c2]
      have g3 : bits .or .u64 ((if sg x then 9223372036854775808 else 0 : Nat) : Int) 4607182418800017408 = ((if sg x then 13830554455654793216 else 4607182418800017408 : Nat) : Int) := by
        cases sg x <;> decide
      rw [e]
      obtain ⟨T, hT⟩ : ∃ T : Nat, T = if sg x then 9223372036854775808 else 0 := ⟨_, rfl⟩
      obtain ⟨U, hU⟩ : ∃ U : Nat, U = if sg x then 13830554455654793216 else 4607182418800017408 := ⟨_, rfl⟩
      rw [← hT] at g2 g3
      rw [← hU] at g3 ⊢
      rw [c2] at g1
      clear hT hU e hV hVf hxp hEm hn hn' hE c1 c2
      go_enter Tryd.func108, Tryd.ntmps108
      go_wp2
      go_ret
      exact ⟨rfl, rfl⟩
    · by_cases c3 : E < 1075
      · obtain ⟨c, hc⟩ : ∃ c, c = 1074 - E := ⟨_, rfl⟩
        have hfin : mg x < infR := by unfold mg at hEm ⊢; omega
        have hp : (2251799813685248 : Int) / 2 ^ (51 - c) = ((2 ^ c : Nat) : Int) := by
          have : (2251799813685248 : Nat) / 2 ^ (51 - c) = 2 ^ c := by
            rw [show (2251799813685248 : Nat) = 2 ^ 51 by decide, Nat.pow_div (by omega) (by omega)]
            congr 1
            omega
          rw [← this, Int.natCast_ediv, Int.natCast_pow]
          rfl
        have hq : (4503599627370495 : Int) / 2 ^ (51 - c) = ((2 ^ (c + 1) - 1 : Nat) : Int) := by
          have : (4503599627370495 : Nat) / 2 ^ (51 - c) = 2 ^ (c + 1) - 1 := by
            have h1 : 2 ^ (c + 1) * 2 ^ (51 - c) = 4503599627370496 := by
              rw [← Nat.pow_add, show c + 1 + (51 - c) = 52 by omega]
            have h2 : 0 < 2 ^ (51 - c) := Nat.pow_pos (by omega)
            have h3 : 0 < 2 ^ (c + 1) := Nat.pow_pos (by omega)
            rw [Nat.div_eq_iff h2, Nat.sub_mul, h1]
            omega
          rw [← this, Int.natCast_ediv, Int.natCast_pow]
          rfl
        have hpb : 2 ^ c ≤ 2251799813685248 := by
          have := Nat.pow_le_pow_right (n := 2) (show 0 < 2 by omega) (show c ≤ 51 by omega)
          rwa [show (2 : Nat) ^ 51 = 2251799813685248 by decide] at this
        have e : V = x + 2 ^ c - (x + 2 ^ c) % 2 ^ (c + 1) := by
          rw [hVf hfin, word_eq]
          unfold rAw
          rw [hEm, if_neg c1, if_neg c2, if_pos c3, ← hc, show 1075 - E = c + 1 by omega]
          have hm : x = if sg x then 9223372036854775808 + mg x else mg x := hxp
          obtain ⟨t, ht⟩ : ∃ t, 9223372036854775808 = 2 ^ (c + 1) * t := ⟨2 ^ (62 - c), by rw [← Nat.pow_add, show c + 1 + (62 - c) = 63 by omega]⟩
          cases hs : sg x
          · rw [hs] at hm
            simp at hm
            rw [← hm]
            simp
          · rw [hs] at hm
            simp only [if_true] at hm ⊢
            obtain ⟨M, hM⟩ : ∃ M, M = mg x := ⟨_, rfl⟩
            rw [← hM] at hm ⊢
            have hle := Nat.mod_le (M + 2 ^ c) (2 ^ (c + 1))
            have e2 : (x + 2 ^ c) % 2 ^ (c + 1) = (M + 2 ^ c) % 2 ^ (c + 1) := by
              rw [hm, Nat.add_assoc, ht, Nat.mul_add_mod]
            rw [e2]
            omega
        rw [e]
        have hxb : x + 2 ^ c < 18446744073709551616 := by
          have : x < 18442240474082181120 := by unfold mg at hEm; omega
          omega
        have g4 := andNot_low (x + 2 ^ c) (c + 1) hxb (by omega)
        obtain ⟨P, hP⟩ : ∃ P, P = 2 ^ c := ⟨_, rfl⟩
        obtain ⟨Q, hQ⟩ : ∃ Q, Q = 2 ^ (c + 1) - 1 := ⟨_, rfl⟩
        obtain ⟨R, hR⟩ : ∃ R, R = x + 2 ^ c - (x + 2 ^ c) % 2 ^ (c + 1) := ⟨_, rfl⟩
        rw [← hR] at g4 ⊢
        rw [← hP] at hp hxb g4
        rw [← hQ] at hq g4
        have d1 : decide ((E : Int) < 1023) = false := decide_eq_false (by omega)
        have d2 : decide ((E : Int) < 1075) = true := decide_eq_true (by omega)
        have hcE : 51 - c = E - 1023 := by omega
        rw [hcE] at hp hq
        have hE2 : 1023 ≤ E := by omega
        have hE3 : E < 1075 := c3
        have g4' : bits .andNot .u64 ((x : Int) + (P : Int)) (Q : Int) = (R : Int) := by rw [← Int.natCast_add]; exact g4
        clear hP hQ hR e hV hVf hxp hEm hn hn' hE c1 c2 c3 g2 hpb hc hcE g4
        go_enter Tryd.func108, Tryd.ntmps108
        go_wp2
        go_ret
        exact ⟨rfl, rfl⟩
      · have e : V = x := by
          rw [hV]
          unfold stP
          by_cases hf : mg x < infR
          · rw [if_pos hf, ← rAw_eq hf (sg x), word_eq]
            unfold rAw
            rw [hEm, if_neg c1, if_neg c2, if_neg c3]
            exact hxp.symm
          · rw [if_neg hf]
        rw [e]
        have d1 : decide ((E : Int) < 1023) = false := decide_eq_false (by omega)
        have d2 : decide ((E : Int) < 1075) = false := decide_eq_false (by omega)
        clear e hV hVf hxp hEm hn hn' hE c1 c2 c3 g2
        go_enter Tryd.func108, Tryd.ntmps108
        go_wp2
        go_ret
        exact ⟨rfl, rfl⟩
end Go.Proofs.YtadijoeeaineaaaDoor
