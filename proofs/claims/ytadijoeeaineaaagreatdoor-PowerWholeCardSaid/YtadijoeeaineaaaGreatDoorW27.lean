/-
  The contract of math.Round. Conditions: those that each theorem names.
-/
import Derived.Test.YtadijoeeaineaaaGreatDoorW05
import Derived.Test.YtadijoeeaineaaaGreatDoorW04
import Derived.Test.YtadijoeeaineaaaGreatDoorW09
import Derived.StillTailTactics
import Derived.Deep.QuietTactic
import Derived.BigQuiet
import Derived.Deep.RegionWith
import Derived.Outline
import Derived.Test.YtadijoeeaineaaaGreatDoorW07
import Derived.Test.YtadijoeeaineaaaGreatDoorW08
import Derived.Test.YtadijoeeaineaaaGreatDoorW14
import Derived.Deep.DeepCutAuto
namespace Go.Proofs.YtadijoeeaineaaaGreatDoor
open Go.RowKit Nm Rn
set_option maxRecDepth 100000
set_option linter.unusedVariables false
set_option linter.unusedSimpArgs false

theorem and_sign (b : Nat) (h : b < 18446744073709551616) : bits .and .u64 (b : Int) 9223372036854775808 = ((if sg b then 9223372036854775808 else 0 : Nat) : Int) := by
  rw [show (9223372036854775808 : Int) = ((9223372036854775808 : Nat) : Int) from rfl, u64_and_nat _ _ h (by omega)]
  congr 1
  have e63 : (9223372036854775808 : Nat) = 2 ^ 63 := by decide
  have hb : b.testBit 63 = sg b := by
    rw [Nat.testBit_eq_decide_div_mod_eq]
    unfold sg
    refine decide_eq_decide.2 ?_
    rw [← e63]
    omega
  apply Nat.eq_of_testBit_eq
  intro i
  rw [Nat.testBit_and, e63, Nat.testBit_two_pow]
  by_cases hi : 63 = i
  · subst hi
    rw [hb]
    cases sg b
    · simp
    · simp
      decide
  · rw [decide_eq_false hi, Bool.and_false]
    cases sg b
    · simp
    · simp only [if_true]
      rw [Nat.testBit_two_pow, decide_eq_false hi]
theorem andNot_low (a c : Nat) (h : a < 18446744073709551616) (hc : c ≤ 63) : bits .andNot .u64 (a : Int) ((2 ^ c - 1 : Nat) : Int) = ((a - a % 2 ^ c : Nat) : Int) := by
  have h1 : 2 ^ c ≤ 2 ^ 63 := Nat.pow_le_pow_right (by omega) hc
  have h2 : (2 : Nat) ^ 63 = 9223372036854775808 := by decide
  have h3 : 0 < 2 ^ c := Nat.pow_pos (by omega)
  rw [u64_andNot_nat _ _ h (by omega)]
  congr 1
  have e : 18446744073709551615 - (2 ^ c - 1) = 2 ^ 64 - 1 - (2 ^ c - 1) := by
    rw [show (2 : Nat) ^ 64 = 18446744073709551616 by decide]
  have ha : a < 2 ^ 64 := by rw [show (2 : Nat) ^ 64 = 18446744073709551616 by decide]; exact h
  apply Nat.eq_of_testBit_eq
  intro i
  have h5 : a - a % 2 ^ c = 2 ^ c * (a / 2 ^ c) := by
    have := Nat.div_add_mod a (2 ^ c)
    omega
  have h4 : (18446744073709551615 - (2 ^ c - 1)).testBit i = (decide (i < 64) && !decide (i < c)) := by
    have := Nat.testBit_two_pow_sub_succ (n := 64) (x := 2 ^ c - 1) (by rw [show (2 : Nat) ^ 64 = 18446744073709551616 by decide]; omega) i
    rw [show 2 ^ c - 1 + 1 = 2 ^ c by omega] at this
    rw [show 18446744073709551615 - (2 ^ c - 1) = 2 ^ 64 - 2 ^ c by rw [show (2 : Nat) ^ 64 = 18446744073709551616 by decide]; omega, this, Nat.testBit_two_pow_sub_one]
  rw [Nat.testBit_and, h4, h5, Nat.testBit_two_pow_mul, Nat.testBit_div_two_pow]
  by_cases hi : i < c
  · rw [decide_eq_true hi, decide_eq_false (show ¬ c ≤ i by omega)]
    simp
  · rw [decide_eq_false hi, decide_eq_true (show c ≤ i by omega), show i - c + c = i by omega]
    by_cases h64 : i < 64
    · rw [decide_eq_true h64]; simp
    · rw [decide_eq_false h64]
      have : a.testBit i = false := Nat.testBit_lt_two_pow (Nat.lt_of_lt_of_le ha (Nat.pow_le_pow_right (by omega) (by omega)))
      rw [this]; simp

set_option maxHeartbeats 1000000 in
theorem mround_any {x : Nat} (hx : x < 18446744073709551616) (hn : isNaN x = false) (w : World) : Calls Tryz.prog 73 #[.float .f64 x] w fun e w' => e = .returned (.float .f64 (stP 5 x)) ∧ w = w' := by
  have hi := infR_val
  unfold isNaN at hn
  have hn' := of_decide_eq_false hn
  obtain ⟨E, hE⟩ : ∃ E, E = x / 4503599627370496 % 2048 := ⟨_, rfl⟩
  have g1 : bits .and .u64 ((x : Int) / 4503599627370496) 2047 = (E : Int) := by
    rw [show (x : Int) / 4503599627370496 = ((x / 4503599627370496 : Nat) : Int) by omega, show (2047 : Int) = ((2047 : Nat) : Int) from rfl, u64_and_nat _ _ (by omega) (by omega), show (2047 : Nat) = 2 ^ 11 - 1 by decide, Nat.and_two_pow_sub_one_eq_mod, hE]
  have g2 := and_sign x hx
  have hEm : mg x / 4503599627370496 = E := by unfold mg; omega
  have hEb : E ≤ 2047 := by omega
  obtain ⟨V, hV⟩ : ∃ V, V = stP 5 x := ⟨_, rfl⟩
  rw [← hV]
  have hVf : mg x < infR → V = Ieee.double.word (sg x) (rAw (mg x)) := fun h => by
    rw [hV]
    unfold stP
    rw [if_pos h, rAw_eq h (sg x)]
  have hxp := split_pat hx
  by_cases c1 : E < 1022
  · have e : V = if sg x then 9223372036854775808 else 0 := by
      rw [hVf (by unfold mg at hEm ⊢; omega), word_eq]
      unfold rAw
      rw [hEm, if_pos c1]
    rw [e]
    obtain ⟨T, hT⟩ : ∃ T : Nat, T = if sg x then 9223372036854775808 else 0 := ⟨_, rfl⟩
    rw [← hT] at g2 ⊢
    have d1 : decide ((E : Int) < 1023) = true := decide_eq_true (by omega)
    have d2 : ((E : Int) == 1022) = false := by rw [beq_eq_false_iff_ne]; omega
    clear hT e hV hVf hxp hEm hn hn' hE c1
    go_enter Tryz.func73, Tryz.ntmps73
    go_wp2
    go_ret
    exact ⟨rfl, rfl⟩
  · by_cases c2 : E = 1022
    · have e : V = if sg x then 13830554455654793216 else 4607182418800017408 := by
        rw [hVf (by unfold mg at hEm ⊢; omega), word_eq]
        unfold rAw
        rw [hEm, if_neg c1, if_pos c2]
      have g3 : bits .or .u64 ((if sg x then 9223372036854775808 else 0 : Nat) : Int) 4607182418800017408 = ((if sg x then 13830554455654793216 else 4607182418800017408 : Nat) : Int) := by
        cases sg x <;> decide
      rw [e]
      obtain ⟨T, hT⟩ : ∃ T : Nat, T = if sg x then 9223372036854775808 else 0 := ⟨_, rfl⟩
      obtain ⟨U, hU⟩ : ∃ U : Nat, U = if sg x then 13830554455654793216 else 4607182418800017408 := ⟨_, rfl⟩
      rw [← hT] at g2 g3
      rw [← hU] at g3 ⊢
      rw [c2] at g1
      clear hT hU e hV hVf hxp hEm hn hn' hE c1 c2
      go_enter Tryz.func73, Tryz.ntmps73
      go_wp2
      go_ret
      exact ⟨rfl, rfl⟩
    · by_cases c3 : E < 1075
      · obtain ⟨c, hc⟩ : ∃ c, c = 1074 - E := ⟨_, rfl⟩
        have hfin : mg x < infR := by unfold mg at hEm ⊢; omega
        have hp : (2251799813685248 : Int) / 2 ^ (51 - c) = ((2 ^ c : Nat) : Int) := by
          have : (2251799813685248 : Nat) / 2 ^ (51 - c) = 2 ^ c := by
            rw [show (2251799813685248 : Nat) = 2 ^ 51 by decide, Nat.pow_div (by omega) (by omega)]
            congr 1
            omega
          rw [← this, Int.natCast_ediv, Int.natCast_pow]
          rfl
        have hq : (4503599627370495 : Int) / 2 ^ (51 - c) = ((2 ^ (c + 1) - 1 : Nat) : Int) := by
          have : (4503599627370495 : Nat) / 2 ^ (51 - c) = 2 ^ (c + 1) - 1 := by
            have h1 : 2 ^ (c + 1) * 2 ^ (51 - c) = 4503599627370496 := by
              rw [← Nat.pow_add, show c + 1 + (51 - c) = 52 by omega]
            have h2 : 0 < 2 ^ (51 - c) := Nat.pow_pos (by omega)
            have h3 : 0 < 2 ^ (c + 1) := Nat.pow_pos (by omega)
            rw [Nat.div_eq_iff h2, Nat.sub_mul, h1]
            omega
          rw [← this, Int.natCast_ediv, Int.natCast_pow]
          rfl
        have hpb : 2 ^ c ≤ 2251799813685248 := by
          have := Nat.pow_le_pow_right (n := 2) (show 0 < 2 by omega) (show c ≤ 51 by omega)
          rwa [show (2 : Nat) ^ 51 = 2251799813685248 by decide] at this
        have e : V = x + 2 ^ c - (x + 2 ^ c) % 2 ^ (c + 1) := by
          rw [hVf hfin, word_eq]
          unfold rAw
          rw [hEm, if_neg c1, if_neg c2, if_pos c3, ← hc, show 1075 - E = c + 1 by omega]
          have hm : x = if sg x then 9223372036854775808 + mg x else mg x := hxp
          obtain ⟨t, ht⟩ : ∃ t, 9223372036854775808 = 2 ^ (c + 1) * t := ⟨2 ^ (62 - c), by rw [← Nat.pow_add, show c + 1 + (62 - c) = 63 by omega]⟩
          cases hs : sg x
          · rw [hs] at hm
            simp at hm
            rw [← hm]
            simp
          · rw [hs] at hm
            simp only [if_true] at hm ⊢
            obtain ⟨M, hM⟩ : ∃ M, M = mg x := ⟨_, rfl⟩
            rw [← hM] at hm ⊢
            have hle := Nat.mod_le (M + 2 ^ c) (2 ^ (c + 1))
            have e2 : (x + 2 ^ c) % 2 ^ (c + 1) = (M + 2 ^ c) % 2 ^ (c + 1) := by
              rw [hm, Nat.add_assoc, ht, Nat.mul_add_mod]
            rw [e2]
            omega
        rw [e]
        have hxb : x + 2 ^ c < 18446744073709551616 := by
          have : x < 18442240474082181120 := by unfold mg at hEm; omega
          omega
        have g4 := andNot_low (x + 2 ^ c) (c + 1) hxb (by omega)
        obtain ⟨P, hP⟩ : ∃ P, P = 2 ^ c := ⟨_, rfl⟩
        obtain ⟨Q, hQ⟩ : ∃ Q, Q = 2 ^ (c + 1) - 1 := ⟨_, rfl⟩
        obtain ⟨R, hR⟩ : ∃ R, R = x + 2 ^ c - (x + 2 ^ c) % 2 ^ (c + 1) := ⟨_, rfl⟩
        rw [← hR] at g4 ⊢
        rw [← hP] at hp hxb g4
        rw [← hQ] at hq g4
        have d1 : decide ((E : Int) < 1023) = false := decide_eq_false (by omega)
        have d2 : decide ((E : Int) < 1075) = true := decide_eq_true (by omega)
        have hcE : 51 - c = E - 1023 := by omega
        rw [hcE] at hp hq
        have hE2 : 1023 ≤ E := by omega
        have hE3 : E < 1075 := c3
        have g4' : bits .andNot .u64 ((x : Int) + (P : Int)) (Q : Int) = (R : Int) := by rw [← Int.natCast_add]; exact g4
        clear hP hQ hR e hV hVf hxp hEm hn hn' hE c1 c2 c3 g2 hpb hc hcE g4
        go_enter Tryz.func73, Tryz.ntmps73
        go_wp2
        go_ret
        exact ⟨rfl, rfl⟩
      · have e : V = x := by
          rw [hV]
          unfold stP
          by_cases hf : mg x < infR
          · rw [if_pos hf, ← rAw_eq hf (sg x), word_eq]
            unfold rAw
            rw [hEm, if_neg c1, if_neg c2, if_neg c3]
            exact hxp.symm
          · rw [if_neg hf]
        rw [e]
        have d1 : decide ((E : Int) < 1023) = false := decide_eq_false (by omega)
        have d2 : decide ((E : Int) < 1075) = false := decide_eq_false (by omega)
        clear e hV hVf hxp hEm hn hn' hE c1 c2 c3 g2
        go_enter Tryz.func73, Tryz.ntmps73
        go_wp2
        go_ret
        exact ⟨rfl, rfl⟩
end Go.Proofs.YtadijoeeaineaaaGreatDoor

/-
  The contracts of the document's own intervals, first part: how patterns stand to each other, how two ends are read. Conditions: those that each theorem names.
-/
namespace Go.Proofs.YtadijoeeaineaaaGreatDoor
open Go.RowKit Nm Rn
set_option maxRecDepth 100000
set_option linter.unusedVariables false
set_option linter.unusedSimpArgs false

theorem or_top6 (p : Nat) (h : p < 9223372036854775808) : bits .or .u64 (p : Int) 9223372036854775808 = ((p + 9223372036854775808 : Nat) : Int) := by
  have e : (9223372036854775808 : Int) = ((9223372036854775808 : Nat) : Int) := rfl
  rw [e, u64_or_nat _ _ (by omega) (by omega)]
  congr 1
  rw [Nat.or_comm, nat_join 63 _ _ (by omega) (by omega), Nat.add_comm]

theorem xor_ones (p : Nat) (h : p < 18446744073709551616) : 18446744073709551615 ^^^ p = 18446744073709551615 - p := by
  have h1 : BitVec.allOnes 64 ^^^ BitVec.ofNat 64 p = ~~~(BitVec.ofNat 64 p) := BitVec.allOnes_xor
  have h2 := congrArg BitVec.toNat h1
  rw [BitVec.toNat_xor, BitVec.toNat_not, BitVec.toNat_allOnes, BitVec.toNat_ofNat, Nat.mod_eq_of_lt (show p < 2 ^ 64 by omega)] at h2
  exact h2
theorem not_u64 (p : Nat) (h : p < 18446744073709551616) : bits .xor .u64 IntKind.u64.max (p : Int) = ((18446744073709551615 - p : Nat) : Int) := by
  have e : IntKind.u64.max = ((18446744073709551615 : Nat) : Int) := rfl
  rw [e, u64_xor_nat _ _ (by omega) h, xor_ones p h]

set_option maxHeartbeats 400000 in
theorem key6_any (b : Nat) (w : World) (h : b < 18446744073709551616) :
    Calls Tryz.prog 98 #[.int .u64 (b : Int)] w fun e w' => e = .returned (.int .u64 (rkey b : Nat)) ∧ w = w' := by
  have hp := plain3_any b w h
  have hpl := plN_lt h
  obtain ⟨p, hpe⟩ : ∃ p, p = plN b := ⟨_, rfl⟩
  rw [← hpe] at hp hpl
  have HP := Lib.hid hp
  clear hp
  by_cases h0 : 9223372036854775808 ≤ p
  · have HF : Hid (((18446744073709551615 - p : Nat) : Int) = (rkey b : Nat)) := Lib.hid (by unfold rkey; rw [← hpe, if_pos h0])
    have h1 : decide ((9223372036854775808 : Int) ≤ (p : Int)) = true := decide_eq_true (by omega)
    have h2 := not_u64 p hpl
    have HPL := Lib.hid hpl
    clear hpe h h0 hpl
    go_enter Tryz.func98, Tryz.ntmps98
    go_wp2_with fail
    refine HP.out.mono ?_
    rintro e w1 ⟨rfl, rfl⟩
    go_wp2
    go_ret
    exact ⟨ret_int HF.out, rfl⟩
  · have HF : Hid ((p : Int) + 9223372036854775808 = (rkey b : Nat)) := Lib.hid (by unfold rkey; rw [← hpe, if_neg h0]; omega)
    have h1 : decide ((9223372036854775808 : Int) ≤ (p : Int)) = false := decide_eq_false (by omega)
    have h2 := or_top6 p (by omega)
    clear hpe h h0
    go_enter Tryz.func98, Tryz.ntmps98
    go_wp2_with fail
    refine HP.out.mono ?_
    rintro e w1 ⟨rfl, rfl⟩
    go_wp2
    go_ret
    exact ⟨ret_int HF.out, rfl⟩

set_option maxHeartbeats 400000 in
theorem above6_any (x y : Nat) (w : World) (hx : x < 18446744073709551616) (hy : y < 18446744073709551616) :
    Calls Tryz.prog 66 #[.int .u64 (x : Int), .int .u64 (y : Int)] w fun e w' => e = .returned (.bool (ltB y x)) ∧ w = w' := by
  have hnx := isnan_any x w hx
  have hny := isnan_any y w hy
  have hkx := key6_any x w hx
  have hky := key6_any y w hy
  have hF := (above_lt hx hy).symm
  unfold aboveB at hF
  obtain ⟨K, hK⟩ : ∃ K, K = rkey x := ⟨_, rfl⟩
  obtain ⟨L, hL⟩ : ∃ L, L = rkey y := ⟨_, rfl⟩
  rw [← hK] at hkx hF
  rw [← hL] at hky hF
  have HKX := Lib.hid hkx
  have HKY := Lib.hid hky
  cases h1 : isNaN x <;> cases h2 : isNaN y
  all_goals
    rw [h1] at hnx hF
    rw [h2] at hny hF
    have HF := Lib.hid hF
    have HNX := Lib.hid hnx
    have HNY := Lib.hid hny
    clear hnx hny hkx hky hF hK hL h1 h2 hx hy
    go_enter Tryz.func66, Tryz.ntmps66
    go_wp2_with (first | (go_at_call 12; ((with_reducible refine HNX.out.mono ?_); rintro e w' ⟨rfl, rfl⟩)) | (go_at_call 12; ((with_reducible refine HNY.out.mono ?_); rintro e w' ⟨rfl, rfl⟩)) | (go_at_call 98; ((with_reducible refine HKX.out.mono ?_); rintro e w' ⟨rfl, rfl⟩)) | (go_at_call 98; ((with_reducible refine HKY.out.mono ?_); rintro e w' ⟨rfl, rfl⟩)))
    go_ret
    first
    | exact ⟨ret_bool (by rw [HF.out]; simp), rfl⟩
    | exact ⟨ret_bool (by rw [HF.out, Bool.not_false, Bool.true_and, Bool.true_and]; exact decide_eq_decide.2 (by omega)), rfl⟩

set_option maxHeartbeats 400000 in
theorem sound6_any (lo hi : Nat) (w : World) (hl : lo < 18446744073709551616) (hh : hi < 18446744073709551616) :
    Calls Tryz.prog 33 #[.agg #[.int .u64 (lo : Int), .int .u64 (hi : Int)]] w fun e w' => e = .returned (.bool (sndB lo hi)) ∧ Ext w w' := by
  have hnx := fun w => isnan_any lo w hl
  have hny := fun w => isnan_any hi w hh
  have hab := fun w => above6_any lo hi w hl hh
  have hF := snd_eq hl hh
  unfold sndR at hF
  rw [above_lt hl hh] at hF
  have HI := Lib.hid (show ((lo : Int) != 9218868437227405312) = decide (lo ≠ infR) by rw [infR_val, Bool.eq_iff_iff, bne_iff_ne, decide_eq_true_iff]; omega)
  have HM := Lib.hid (show ((hi : Int) != 18442240474082181120) = decide (hi ≠ minf) by rw [minf_val, Bool.eq_iff_iff, bne_iff_ne, decide_eq_true_iff]; omega)
  obtain ⟨a, ha⟩ : ∃ a, a = decide (lo ≠ infR) := ⟨_, rfl⟩
  obtain ⟨b, hb⟩ : ∃ b, b = decide (hi ≠ minf) := ⟨_, rfl⟩
  rw [← ha] at hF HI
  rw [← hb] at hF HM
  have hI := HI.out
  have hM := HM.out
  have HAB := Lib.hid hab
  clear ha hb HI HM hab
  cases h1 : isNaN lo <;> cases h2 : isNaN hi <;> cases h3 : ltB hi lo <;> cases a <;> cases b
  all_goals
    rw [h1, h2, h3] at hF
    have HF := Lib.hid hF
    have HAB2 := Lib.hid (fun w => h3 ▸ HAB.out w)
    have HNX := Lib.hid (fun w => h1 ▸ hnx w)
    have HNY := Lib.hid (fun w => h2 ▸ hny w)
    clear hnx hny hF h1 h2 h3 hl hh HAB
    go_enter Tryz.func33, Tryz.ntmps33
    go_wp2_with (first | (go_at_call 12; ((with_reducible refine (HNX.out _).mono ?_); rintro e w' ⟨rfl, rfl⟩)) | (go_at_call 12; ((with_reducible refine (HNY.out _).mono ?_); rintro e w' ⟨rfl, rfl⟩)) | (go_at_call 66; ((with_reducible refine (HAB2.out _).mono ?_); rintro e w' ⟨rfl, rfl⟩)))
    go_ret
    exact ⟨ret_bool (by rw [HF.out]; rfl), (Ext.refl w).alloc _⟩

/-- A result of two patterns. -/
def RetI (lo hi : Nat) (w : World) (e : Ending) (w' : World) : Prop := e = .returned (.agg #[.int .u64 (lo : Int), .int .u64 (hi : Int)]) ∧ Ext w w'

set_option maxHeartbeats 400000 in
theorem empty6_any (w : World) : Calls Tryz.prog 11 #[] w (RetI infR minf w) := by
  go_enter Tryz.func11, Tryz.ntmps11
  go_wp2
  exact bodyPost_ret (v := .agg #[.int .u64 9218868437227405312, .int .u64 18442240474082181120]) (by simp [results, Tryz.results11, go_sem]) rfl ⟨rfl, (Ext.refl w).alloc _⟩
set_option maxHeartbeats 400000 in
theorem entire6_any (w : World) : Calls Tryz.prog 30 #[] w (RetI minf infR w) := by
  go_enter Tryz.func30, Tryz.ntmps30
  go_wp2
  exact bodyPost_ret (v := .agg #[.int .u64 18442240474082181120, .int .u64 9218868437227405312]) (by simp [results, Tryz.results30, go_sem]) rfl ⟨rfl, (Ext.refl w).alloc _⟩

theorem Blk.new2 (w : World) (o : Obj) (t : TypeId) (cs : Array Value) : Blk ((w.alloc o).alloc (.cells cs t)) (w.heap.size + 1) t cs := by
  have := Blk.new (w.alloc o) t cs
  rwa [show (w.alloc o).heap.size = w.heap.size + 1 by simp] at this
theorem plain_rd {lo hi : Nat} (h : sndB lo hi = true) : plN lo = rdLo lo hi ∧ plN hi = rdHi lo hi := by
  obtain ⟨h1, h2⟩ := snd_nan h
  unfold rdLo rdHi
  rw [if_pos h, if_pos h]
  exact ⟨plN_of h1, plN_of h2⟩
theorem empty_rd {lo hi : Nat} (h : sndB lo hi = false) : infR = rdLo lo hi ∧ minf = rdHi lo hi := by
  unfold rdLo rdHi
  rw [if_neg (by simp [h]), if_neg (by simp [h])]
  exact ⟨rfl, rfl⟩

set_option maxHeartbeats 1000000 in
theorem read6_any (lo hi : Nat) (w : World) (hl : lo < 18446744073709551616) (hh : hi < 18446744073709551616) :
    Calls Tryz.prog 9 #[.agg #[.int .u64 (lo : Int), .int .u64 (hi : Int)]] w (RetI (rdLo lo hi) (rdHi lo hi) w) := by
  have hs := fun w => sound6_any lo hi w hl hh
  have hp1 := fun w => plain3_any lo w hl
  have hp2 := fun w => plain3_any hi w hh
  cases hb : sndB lo hi
  · rw [hb] at hs
    obtain ⟨e1, e2⟩ := empty_rd hb
    rw [← e1, ← e2]
    have HS := Lib.hid hs
    clear hs hp1 hp2 hb e1 e2 hl hh
    go_enter Tryz.func9, Tryz.ntmps9
    go_wp2_with fail
    refine (HS.out _).mono ?_
    rintro e w1 ⟨rfl, hE1⟩
    go_wp2_with fail
    refine (empty6_any _).mono ?_
    rintro e w2 ⟨rfl, hE2⟩
    have hE := hE1.trans hE2
    have hblk := (Blk.new2 w (.cells #[.int .u64 (lo : Int), .int .u64 (hi : Int)] 24) 24 #[.int .u64 0, .int .u64 0]).ext hE
    have hEw : Ext w w2 := (((Ext.refl w).alloc _).alloc _).trans hE
    obtain ⟨G, hG⟩ : ∃ G, G = w.heap.size + 1 := ⟨_, rfl⟩
    rw [← hG] at hblk
    rw [← hG]
    have hGw : w.heap.size ≤ G := by omega
    have hGl := hblk.lt
    have q0 : w2.cell? ⟨G, 0, none⟩ = some (.int .u64 0) := hblk.cell 0
    have q1 : w2.cell? ⟨G, 1, none⟩ = some (.int .u64 0) := hblk.cell 1
    have f0 := hblk.frozen 0
    have f1 := hblk.frozen 1
    clear hG hE hE1 hE2
    go_wp2
    exact bodyPost_ret (v := .agg #[.int .u64 (infR : Int), .int .u64 (minf : Int)]) (by simp [results, Tryz.results9, go_sem, hGl, q0, q1]) rfl ⟨rfl, (hEw.setCell hGw _).setCell hGw _⟩
  · rw [hb] at hs
    obtain ⟨e1, e2⟩ := plain_rd hb
    rw [e1] at hp1
    rw [e2] at hp2
    obtain ⟨a, ha⟩ : ∃ a, a = rdLo lo hi := ⟨_, rfl⟩
    obtain ⟨b, hb'⟩ : ∃ b, b = rdHi lo hi := ⟨_, rfl⟩
    rw [← ha] at hp1 ⊢
    rw [← hb'] at hp2 ⊢
    have HS := Lib.hid hs
    have HP1 := Lib.hid hp1
    have HP2 := Lib.hid hp2
    clear hs hp1 hp2 hb e1 e2 hl hh ha hb'
    go_enter Tryz.func9, Tryz.ntmps9
    go_wp2_with fail
    refine (HS.out _).mono ?_
    rintro e w1 ⟨rfl, hE1⟩
    have hblk := (Blk.new2 w (.cells #[.int .u64 (lo : Int), .int .u64 (hi : Int)] 24) 24 #[.int .u64 0, .int .u64 0]).ext hE1
    have hbox := ((Blk.new w 24 #[.int .u64 (lo : Int), .int .u64 (hi : Int)]).ext ((Ext.refl _).alloc (.cells #[.int .u64 0, .int .u64 0] 24))).ext hE1
    have hEw : Ext w w1 := (((Ext.refl w).alloc _).alloc _).trans hE1
    have b0 : w1.cell? ⟨w.heap.size, 0, none⟩ = some (.int .u64 (lo : Int)) := hbox.cell 0
    have b1 : w1.cell? ⟨w.heap.size, 1, none⟩ = some (.int .u64 (hi : Int)) := hbox.cell 1
    obtain ⟨G, hG⟩ : ∃ G, G = w.heap.size + 1 := ⟨_, rfl⟩
    rw [← hG] at hblk
    rw [← hG]
    have hGw : w.heap.size ≤ G := by omega
    have hGl := hblk.lt
    have q0 : w1.cell? ⟨G, 0, none⟩ = some (.int .u64 0) := hblk.cell 0
    have q1 : w1.cell? ⟨G, 1, none⟩ = some (.int .u64 0) := hblk.cell 1
    have f0 := hblk.frozen 0
    have f1 := hblk.frozen 1
    clear hG hE1
    go_wp2_with fail
    refine wp_region_still_tail 7 (by kernel_rfl) (by kernel_rfl) ?_
    simp only [List.take_succ_cons, List.take_zero, List.drop_succ_cons, List.drop_zero]
    still_step
    still_step
    still_call ((HP1.out _).mono fun _ _ h => ⟨h.1, h.2.symm⟩)
    still_step
    still_step
    still_call ((HP2.out _).mono fun _ _ h => ⟨h.1, h.2.symm⟩)
    still_step
    refine wpStill_nil ?_
    change wpList _ _ _ _ _ w1.drew
    go_wp2
    exact bodyPost_ret (v := .agg #[.int .u64 (a : Int), .int .u64 (b : Int)]) (by simp [results, Tryz.results9, go_sem, hGl, q0, q1]) rfl ⟨rfl, (hEw.drew.setCell hGw _).setCell hGw _⟩
end Go.Proofs.YtadijoeeaineaaaGreatDoor

/-
  The contracts of the program's intervals, first part: how two ends are read, made, found valid. Conditions: those that each theorem names.
-/
namespace Go.Proofs.YtadijoeeaineaaaGreatDoor
open Go.RowKit Nm Rn
set_option maxRecDepth 100000
set_option linter.unusedVariables false
set_option linter.unusedSimpArgs false

set_option maxHeartbeats 400000 in
theorem iplain_any (b : Nat) (w : World) (h : b < 18446744073709551616) :
    Calls Tryz.prog 52 #[.float .f64 b] w fun e w' => e = .returned (.float .f64 (pl b)) ∧ w = w' := by
  have hq := fo_eq h (show 0 < 18446744073709551616 by omega)
  rw [eq0 h] at hq
  by_cases h0 : b = 0 ∨ b = 9223372036854775808
  · rw [decide_eq_true h0] at hq
    have HF : Hid (0 = pl b) := Lib.hid (by unfold pl; rcases h0 with h0 | h0 <;> subst h0 <;> rfl)
    clear h0 h
    go_enter Tryz.func52, Tryz.ntmps52
    go_wp2
    go_ret
    exact ⟨ret_float HF.out, rfl⟩
  · rw [decide_eq_false h0] at hq
    have HF : Hid (b = pl b) := Lib.hid (by unfold pl; rw [if_neg (fun h => h0 (.inr h))])
    clear h0 h
    go_enter Tryz.func52, Tryz.ntmps52
    go_wp2
    go_ret
    exact ⟨ret_float HF.out, rfl⟩

set_option maxHeartbeats 1000000 in
theorem isound_any (lo hi : Nat) (w : World) (hl : lo < 18446744073709551616) (hh : hi < 18446744073709551616) :
    Calls Tryz.prog 51 #[.float .f64 lo, .float .f64 hi] w fun e w' => e = .returned (.bool (sndB lo hi)) ∧ w = w' := by
  have h1 := fo_lt hl hh
  have h1' := fo_eq hl hh
  have h12 := fo_le hl hh
  rw [h1, h1'] at h12
  have h2 := fo_lt hl infR_lt
  have h3 := fo_gt hh minf_lt
  have hF : sndB lo hi = (leB lo hi && ltB lo infR && ltB minf hi) := rfl
  obtain ⟨a, ha⟩ : ∃ a, a = ltB lo hi := ⟨_, rfl⟩
  obtain ⟨a', ha'⟩ : ∃ a', a' = eqB lo hi := ⟨_, rfl⟩
  obtain ⟨b, hb⟩ : ∃ b, b = ltB lo infR := ⟨_, rfl⟩
  obtain ⟨c, hc⟩ : ∃ c, c = ltB minf hi := ⟨_, rfl⟩
  rw [← h12, ← ha, ← ha', ← hb, ← hc] at hF
  rw [← ha] at h1
  rw [← ha'] at h1'
  rw [← hb] at h2
  rw [← hc] at h3
  have HF := Lib.hid hF
  clear h12 hF ha ha' hb hc hl hh
  cases a <;> cases a' <;> cases b <;> cases c
  all_goals
    go_enter Tryz.func51, Tryz.ntmps51
    go_wp2_with (first | (go_at_call 27; ((with_reducible refine (inf_p _).mono ?_); rintro e w' ⟨rfl, rfl⟩)) | (go_at_call 27; ((with_reducible refine (inf_m _).mono ?_); rintro e w' ⟨rfl, rfl⟩)))
    go_ret
    exact ⟨ret_bool (by rw [HF.out]; rfl), rfl⟩
end Go.Proofs.YtadijoeeaineaaaGreatDoor

/-
  The contracts of the program's intervals, second part: Empty, Entire, Read, New, Point, Valid. Conditions: those that each theorem names.
-/
namespace Go.Proofs.YtadijoeeaineaaaGreatDoor
open Go.RowKit Nm Rn
set_option maxRecDepth 100000
set_option linter.unusedVariables false
set_option linter.unusedSimpArgs false

/-- A result of two floats. -/
def RetF (lo hi : Nat) (w : World) (e : Ending) (w' : World) : Prop := e = .returned (.agg #[.float .f64 lo, .float .f64 hi]) ∧ Ext w w'

set_option maxHeartbeats 400000 in
theorem iempty_any (w : World) : Calls Tryz.prog 23 #[] w (RetF infR minf w) := by
  go_enter Tryz.func23, Tryz.ntmps23
  go_wp2_with (first | (go_at_call 27; ((with_reducible refine (inf_p _).mono ?_); rintro e w' ⟨rfl, rfl⟩)) | (go_at_call 27; ((with_reducible refine (inf_m _).mono ?_); rintro e w' ⟨rfl, rfl⟩)))
  exact bodyPost_ret (v := .agg #[.float .f64 infR, .float .f64 minf]) (by simp [results, Tryz.results23, go_sem]) rfl ⟨rfl, (Ext.refl w).alloc _⟩
set_option maxHeartbeats 400000 in
theorem ientire_any (w : World) : Calls Tryz.prog 24 #[] w (RetF minf infR w) := by
  go_enter Tryz.func24, Tryz.ntmps24
  go_wp2_with (first | (go_at_call 27; ((with_reducible refine (inf_p _).mono ?_); rintro e w' ⟨rfl, rfl⟩)) | (go_at_call 27; ((with_reducible refine (inf_m _).mono ?_); rintro e w' ⟨rfl, rfl⟩)))
  exact bodyPost_ret (v := .agg #[.float .f64 minf, .float .f64 infR]) (by simp [results, Tryz.results24, go_sem]) rfl ⟨rfl, (Ext.refl w).alloc _⟩

set_option maxHeartbeats 1000000 in
theorem iread_any (lo hi : Nat) (w : World) (hl : lo < 18446744073709551616) (hh : hi < 18446744073709551616) :
    Calls Tryz.prog 22 #[.agg #[.float .f64 lo, .float .f64 hi]] w (RetF (rdLo lo hi) (rdHi lo hi) w) := by
  have hs := fun w => isound_any lo hi w hl hh
  have hp1 := fun w => iplain_any lo w hl
  have hp2 := fun w => iplain_any hi w hh
  cases hb : sndB lo hi
  · rw [hb] at hs
    obtain ⟨e1, e2⟩ := empty_rd hb
    rw [← e1, ← e2]
    have HS := Lib.hid hs
    clear hs hp1 hp2 hb e1 e2 hl hh
    go_enter Tryz.func22, Tryz.ntmps22
    go_wp2_with fail
    refine (HS.out _).mono ?_
    rintro e w1 ⟨rfl, rfl⟩
    go_wp2_with fail
    refine (iempty_any _).mono ?_
    rintro e w2 ⟨rfl, hE⟩
    have hblk := (Blk.new2 w (.cells #[.float .f64 lo, .float .f64 hi] 28) 28 #[.float .f64 0, .float .f64 0]).ext hE
    have hEw : Ext w w2 := (((Ext.refl w).alloc _).alloc _).trans hE
    obtain ⟨G, hG⟩ : ∃ G, G = w.heap.size + 1 := ⟨_, rfl⟩
    rw [← hG] at hblk
    rw [← hG]
    have hGw : w.heap.size ≤ G := by omega
    have hGl := hblk.lt
    have q0 : w2.cell? ⟨G, 0, none⟩ = some (.float .f64 0) := hblk.cell 0
    have q1 : w2.cell? ⟨G, 1, none⟩ = some (.float .f64 0) := hblk.cell 1
    have f0 := hblk.frozen 0
    have f1 := hblk.frozen 1
    clear hG hE
    go_wp2
    exact bodyPost_ret (v := .agg #[.float .f64 infR, .float .f64 minf]) (by simp [results, Tryz.results22, go_sem, hGl, q0, q1]) rfl ⟨rfl, (hEw.setCell hGw _).setCell hGw _⟩
  · rw [hb] at hs
    have e1 : pl lo = rdLo lo hi := by unfold rdLo; rw [if_pos hb]
    have e2 : pl hi = rdHi lo hi := by unfold rdHi; rw [if_pos hb]
    rw [e1] at hp1
    rw [e2] at hp2
    obtain ⟨a, ha⟩ : ∃ a, a = rdLo lo hi := ⟨_, rfl⟩
    obtain ⟨b, hb'⟩ : ∃ b, b = rdHi lo hi := ⟨_, rfl⟩
    rw [← ha] at hp1 ⊢
    rw [← hb'] at hp2 ⊢
    have HS := Lib.hid hs
    have HP1 := Lib.hid hp1
    have HP2 := Lib.hid hp2
    clear hs hp1 hp2 hb e1 e2 hl hh ha hb'
    go_enter Tryz.func22, Tryz.ntmps22
    go_wp2_with fail
    refine (HS.out _).mono ?_
    rintro e w1 ⟨rfl, rfl⟩
    generalize hX : (w.alloc (.cells #[.float .f64 lo, .float .f64 hi] 28)).alloc (.cells #[.float .f64 0, .float .f64 0] 28) = w1
    have hE1 : Ext ((w.alloc (.cells #[.float .f64 lo, .float .f64 hi] 28)).alloc (.cells #[.float .f64 0, .float .f64 0] 28)) w1 := by rw [← hX]; exact Ext.refl _
    clear hX
    have hblk := (Blk.new2 w (.cells #[.float .f64 lo, .float .f64 hi] 28) 28 #[.float .f64 0, .float .f64 0]).ext hE1
    have hbox := ((Blk.new w 28 #[.float .f64 lo, .float .f64 hi]).ext ((Ext.refl _).alloc (.cells #[.float .f64 0, .float .f64 0] 28))).ext hE1
    have hEw : Ext w w1 := (((Ext.refl w).alloc _).alloc _).trans hE1
    have b0 : w1.cell? ⟨w.heap.size, 0, none⟩ = some (.float .f64 lo) := hbox.cell 0
    have b1 : w1.cell? ⟨w.heap.size, 1, none⟩ = some (.float .f64 hi) := hbox.cell 1
    obtain ⟨G, hG⟩ : ∃ G, G = w.heap.size + 1 := ⟨_, rfl⟩
    rw [← hG] at hblk
    rw [← hG]
    have hGw : w.heap.size ≤ G := by omega
    have hGl := hblk.lt
    have q0 : w1.cell? ⟨G, 0, none⟩ = some (.float .f64 0) := hblk.cell 0
    have q1 : w1.cell? ⟨G, 1, none⟩ = some (.float .f64 0) := hblk.cell 1
    have f0 := hblk.frozen 0
    have f1 := hblk.frozen 1
    clear hG hE1
    go_wp2_with fail
    refine wp_region_still_tail 7 (by kernel_rfl) (by kernel_rfl) ?_
    simp only [List.take_succ_cons, List.take_zero, List.drop_succ_cons, List.drop_zero]
    still_step
    still_step
    still_call ((HP1.out _).mono fun _ _ h => ⟨h.1, h.2.symm⟩)
    still_step
    still_step
    still_call ((HP2.out _).mono fun _ _ h => ⟨h.1, h.2.symm⟩)
    still_step
    refine wpStill_nil ?_
    change wpList _ _ _ _ _ w1.drew
    go_wp2
    exact bodyPost_ret (v := .agg #[.float .f64 a, .float .f64 b]) (by simp [results, Tryz.results22, go_sem, hGl, q0, q1]) rfl ⟨rfl, (hEw.drew.setCell hGw _).setCell hGw _⟩

end Go.Proofs.YtadijoeeaineaaaGreatDoor

/-
  The contracts of the program's intervals, third part: patterns in and out of them; Valid. Conditions: those that each theorem names.
-/
namespace Go.Proofs.YtadijoeeaineaaaGreatDoor
open Go.RowKit Nm Rn
set_option maxRecDepth 100000
set_option linter.unusedVariables false
set_option linter.unusedSimpArgs false

/-- A world in which a box of two words lies, and behind it another one. -/
theorem two_boxes (w : World) (s t : TypeId) (x y p q : Value) : ∃ w1, w1 = (w.alloc (.cells #[x, y] s)).alloc (.cells #[p, q] t) ∧ Ext w w1 ∧ w1.cell? ⟨w.heap.size, 0, none⟩ = some x ∧ w1.cell? ⟨w.heap.size, 1, none⟩ = some y ∧
    Blk w1 (w.heap.size + 1) t #[p, q] := by
  have hb := (Blk.new w s #[x, y]).ext ((Ext.refl _).alloc (.cells #[p, q] t))
  exact ⟨_, rfl, ((Ext.refl w).alloc _).alloc _, hb.cell 0, hb.cell 1, Blk.new2 w _ t #[p, q]⟩

set_option maxHeartbeats 1000000 in
theorem out7_any (lo hi : Nat) (w : World) :
    Calls Tryz.prog 5 #[.agg #[.float .f64 lo, .float .f64 hi]] w (RetI lo hi w) := by
  obtain ⟨w1, hw1, hEw, b0, b1, hblk⟩ := two_boxes w 28 24 (.float .f64 lo) (.float .f64 hi) (.int .u64 0) (.int .u64 0)
  go_enter Tryz.func5, Tryz.ntmps5
  go_wp2_with fail
  rw [← hw1]
  clear hw1
  obtain ⟨G, hG⟩ : ∃ G, G = w.heap.size + 1 := ⟨_, rfl⟩
  rw [← hG] at hblk
  rw [← hG]
  have hGw : w.heap.size ≤ G := by omega
  have hGl := hblk.lt
  have q0 : w1.cell? ⟨G, 0, none⟩ = some (.int .u64 0) := hblk.cell 0
  have q1 : w1.cell? ⟨G, 1, none⟩ = some (.int .u64 0) := hblk.cell 1
  have f0 := hblk.frozen 0
  have f1 := hblk.frozen 1
  clear hG
  go_still_tail 7, (by kernel_rfl)
  change wpList _ _ _ _ _ w1.drew
  go_wp2
  exact bodyPost_ret (v := .agg #[.int .u64 (lo : Int), .int .u64 (hi : Int)]) (by simp [results, Tryz.results5, go_sem, hGl, q0, q1]) rfl ⟨rfl, (hEw.drew.setCell hGw _).setCell hGw _⟩
set_option maxHeartbeats 1000000 in
theorem in7_any (lo hi : Nat) (w : World) :
    Calls Tryz.prog 7 #[.agg #[.int .u64 (lo : Int), .int .u64 (hi : Int)]] w (RetF lo hi w) := by
  obtain ⟨w1, hw1, hEw, b0, b1, hblk⟩ := two_boxes w 24 28 (.int .u64 (lo : Int)) (.int .u64 (hi : Int)) (.float .f64 0) (.float .f64 0)
  go_enter Tryz.func7, Tryz.ntmps7
  go_wp2_with fail
  rw [← hw1]
  clear hw1
  obtain ⟨G, hG⟩ : ∃ G, G = w.heap.size + 1 := ⟨_, rfl⟩
  rw [← hG] at hblk
  rw [← hG]
  have hGw : w.heap.size ≤ G := by omega
  have hGl := hblk.lt
  have q0 : w1.cell? ⟨G, 0, none⟩ = some (.float .f64 0) := hblk.cell 0
  have q1 : w1.cell? ⟨G, 1, none⟩ = some (.float .f64 0) := hblk.cell 1
  have f0 := hblk.frozen 0
  have f1 := hblk.frozen 1
  clear hG
  go_still_tail 7, (by kernel_rfl)
  change wpList _ _ _ _ _ w1.drew
  go_wp2
  exact bodyPost_ret (v := .agg #[.float .f64 lo, .float .f64 hi]) (by simp [results, Tryz.results7, go_sem, hGl, q0, q1]) rfl ⟨rfl, (hEw.drew.setCell hGw _).setCell hGw _⟩
end Go.Proofs.YtadijoeeaineaaaGreatDoor

/-
  The contract of the program's empty; its intervals' zero and size. Conditions: those that each theorem names.
-/
namespace Go.Proofs.YtadijoeeaineaaaGreatDoor
open Go.RowKit Nm Rn
set_option maxRecDepth 100000
set_option linter.unusedVariables false
set_option linter.unusedSimpArgs false

theorem zero_iv (w : World) : (zeroValue 28).run Tryz.prog w = .ok (.agg #[.float .f64 0, .float .f64 0]) w := by kernel_rfl
theorem agg_iv (w : World) : (isAgg 28).run Tryz.prog w = .ok true w := by kernel_rfl
theorem size_iv (w : World) : (sizeOf 28).run Tryz.prog w = .ok 2 w := by kernel_rfl
set_option maxHeartbeats 1000000 in
theorem iemp_any (lo hi : Nat) (w : World) (hl : lo < 18446744073709551616) (hh : hi < 18446744073709551616) :
    Calls Tryz.prog 80 #[.agg #[.float .f64 lo, .float .f64 hi]] w fun e w' => e = .returned (.bool (ltB hi lo)) ∧ Ext w w' := by
  have hq := fo_gt hl hh
  obtain ⟨R, hR⟩ : ∃ R, R = ltB hi lo := ⟨_, rfl⟩
  rw [← hR] at hq ⊢
  clear hR hl hh
  go_enter Tryz.func80, Tryz.ntmps80
  go_wp2
  go_ret
  exact ⟨ret_bool (by first | rfl | exact hq), (Ext.refl w).alloc _⟩

end Go.Proofs.YtadijoeeaineaaaGreatDoor

/-
  What max and min of two floats answer. Conditions: those that each theorem names.
-/
namespace Go.Proofs.YtadijoeeaineaaaGreatDoor
open Go.RowKit Nm Rn
set_option maxRecDepth 100000
set_option linter.unusedVariables false
set_option linter.unusedSimpArgs false

theorem lt_key {x y : Nat} (nx : isNaN x = false) (ny : isNaN y = false) : ltB x y = decide (key x < key y) := by unfold ltB; rw [nx, ny]; rfl
theorem eq_key {x y : Nat} (nx : isNaN x = false) (ny : isNaN y = false) : eqB x y = decide (key x = key y) := by unfold eqB; rw [nx, ny]; rfl
theorem le_key {x y : Nat} (nx : isNaN x = false) (ny : isNaN y = false) : leB x y = decide (key x ≤ key y) := by unfold leB; rw [nx, ny]; rfl

theorem max_run {x y : Nat} (hx : x < 18446744073709551616) (hy : y < 18446744073709551616) (nx : isNaN x = false) (ny : isNaN y = false) (h : key x = key y → x = y) (P : Program) (w : World) (ats : Array TypeId) (ty : TypeId) :
    (Builtin.max_ ats ty #[.float .f64 x, .float .f64 y]).run P w = .ok (.float .f64 (if key x < key y then y else x)) w := by
  have h1 := fo_lt hx hy
  have h2 := fo_eq hx hy
  have h3 := fo_gt hx hy
  rw [lt_key nx ny] at h1
  rw [eq_key nx ny] at h2
  rw [lt_key ny nx] at h3
  have hm : (Builtin.max2 (.float .f64 x) (.float .f64 y)).run P w = .ok (.float .f64 (if key x < key y then y else x)) w := by
    rcases Int.lt_trichotomy (key x) (key y) with g | g | g
    · rw [decide_eq_true g] at h1
      rw [if_pos g]
      have e := eq_of_beq h1
      simp only [Builtin.max2, Builtin.min2, e]; rfl
    · rw [decide_eq_true g] at h2
      have e := eq_of_beq h2
      have := h g
      subst this
      rw [if_neg (by omega)]
      simp only [Builtin.max2, Builtin.min2, e, ite_self]; rfl
    · rw [decide_eq_true g] at h3
      rw [if_neg (by omega)]
      have e := eq_of_beq h3
      simp only [Builtin.max2, Builtin.min2, e]; rfl
  unfold Builtin.max_
  simp only [List.foldlM]
  simpa using hm
theorem min_run {x y : Nat} (hx : x < 18446744073709551616) (hy : y < 18446744073709551616) (nx : isNaN x = false) (ny : isNaN y = false) (h : key x = key y → x = y) (P : Program) (w : World) (ats : Array TypeId) (ty : TypeId) :
    (Builtin.min_ ats ty #[.float .f64 x, .float .f64 y]).run P w = .ok (.float .f64 (if key y < key x then y else x)) w := by
  have h1 := fo_lt hx hy
  have h2 := fo_eq hx hy
  have h3 := fo_gt hx hy
  rw [lt_key nx ny] at h1
  rw [eq_key nx ny] at h2
  rw [lt_key ny nx] at h3
  have hm : (Builtin.min2 (.float .f64 x) (.float .f64 y)).run P w = .ok (.float .f64 (if key y < key x then y else x)) w := by
    rcases Int.lt_trichotomy (key x) (key y) with g | g | g
    · rw [decide_eq_true g] at h1
      rw [if_neg (by omega)]
      have e := eq_of_beq h1
      simp only [Builtin.max2, Builtin.min2, e]; rfl
    · rw [decide_eq_true g] at h2
      have e := eq_of_beq h2
      have := h g
      subst this
      rw [if_neg (by omega)]
      simp only [Builtin.max2, Builtin.min2, e, ite_self]; rfl
    · rw [decide_eq_true g] at h3
      rw [if_pos g]
      have e := eq_of_beq h3
      simp only [Builtin.max2, Builtin.min2, e]; rfl
  unfold Builtin.min_
  simp only [List.foldlM]
  simpa using hm
end Go.Proofs.YtadijoeeaineaaaGreatDoor

/-
  The contracts of the document's own intervals, second part: whether two ends are valid, what is made of them. Conditions: those that each theorem names.
-/
namespace Go.Proofs.YtadijoeeaineaaaGreatDoor
open Go.RowKit Nm Rn
set_option maxRecDepth 100000
set_option linter.unusedVariables false
set_option linter.unusedSimpArgs false

/-- What New answers. -/
def newLo (lo hi : Nat) : Nat := if sndB lo hi then pl lo else 0
def newHi (lo hi : Nat) : Nat := if sndB lo hi then pl hi else 0

end Go.Proofs.YtadijoeeaineaaaGreatDoor

/-
  The contracts of the program's intervals, fourth part: Valid. Conditions: those that each theorem names.
-/
namespace Go.Proofs.YtadijoeeaineaaaGreatDoor
open Go.RowKit Nm Rn
set_option maxRecDepth 100000
set_option linter.unusedVariables false
set_option linter.unusedSimpArgs false

@[go_sem] theorem run_equalIn_float (P : Program) (w : World) (d : Nat) (t : TypeId) (k : FloatKind) (a b : Nat) (h : P.underlying t = some (.float k)) : (Op.equalIn (d + 1) t (.float k a) (.float k b)).run P w = .ok (k.format.order a b == some .eq) w := by
  simp [Op.equalIn, run_underlying h, Op.floatEq]
theorem eqF {a b c d : Nat} (ha : a < 18446744073709551616) (hb : b < 18446744073709551616) (hc : c < 18446744073709551616) (hd : d < 18446744073709551616) (w : World) : (binOp .eql 28 (.agg #[.float .f64 a, .float .f64 b]) (.agg #[.float .f64 c, .float .f64 d])).run Tryz.prog w = .ok (.bool (eqB a c && eqB b d)) w := by
  rw [← fo_eq ha hc, ← fo_eq hb hd]
  cases h1 : (FloatKind.f64.format.order a c == some .eq) <;> cases h2 : (FloatKind.f64.format.order b d == some .eq) <;> go_simp <;> simp [h1, h2]
theorem eqF' {a b c d : Nat} (ha : a < 18446744073709551616) (hb : b < 18446744073709551616) (hc : c < 18446744073709551616) (hd : d < 18446744073709551616) {E : Bool} (h : (eqB a c && eqB b d) = E) (w : World) : (binOp .eql 28 (.agg #[.float .f64 a, .float .f64 b]) (.agg #[.float .f64 c, .float .f64 d])).run Tryz.prog w = .ok (.bool E) w := by rw [eqF ha hb hc hd, h]

end Go.Proofs.YtadijoeeaineaaaGreatDoor
