/-
 The contract of math.Round. Conditions: those that each theorem names.
-/
import Derived.Test.YtbcaggdgoidlaaaGreatDoorH33
import Derived.Test.YtbcaggdgoidlaaaGreatDoorH37
import Derived.Test.YtbcaggdgoidlaaaGreatDoorH38
import Derived.Test.YtbcaggdgoidlaaaGreatDoorH12
import Derived.Test.YtbcaggdgoidlaaaGreatDoorH13
import Derived.Test.YtbcaggdgoidlaaaGreatDoorH41
import Derived.Test.YtbcaggdgoidlaaaGreatDoorH42
namespace Go.Proofs.YtbcaggdgoidlaaaGreatDoor
open Go.RowKit Nm Rn
set_option maxRecDepth 100000
set_option linter.unusedVariables false
set_option linter.unusedSimpArgs false
theorem and_sign (b : Nat) (h : b < 18446744073709551616) : bits .and .u64 (b : Int) 9223372036854775808 = ((if sg b then 9223372036854775808 else 0 : Nat) : Int) := by
 rw [show (9223372036854775808 : Int) = ((9223372036854775808 : Nat) : Int) from rfl, u64_and_nat _ _ h (by omega)]
 congr 1
 have e63 : (9223372036854775808 : Nat) = 2 ^ 63 := by decide
 have hb : b.testBit 63 = sg b := by
   rw [Nat.testBit_eq_decide_div_mod_eq]
   unfold sg
   refine decide_eq_decide.2 ?_
   rw [← e63]
   omega
 apply Nat.eq_of_testBit_eq
 intro i
 rw [Nat.testBit_and, e63, Nat.testBit_two_pow]
 by_cases hi : 63 = i
 · subst hi
   rw [hb]
   cases sg b
   · simp
   · simp
     decide
 · rw [decide_eq_false hi, Bool.and_false]
   cases sg b
   · simp
   · simp only [if_true]
     rw [Nat.testBit_two_pow, decide_eq_false hi]
theorem andNot_low (a c : Nat) (h : a < 18446744073709551616) (hc : c ≤ 63) : bits .andNot .u64 (a : Int) ((2 ^ c - 1 : Nat) : Int) = ((a - a % 2 ^ c : Nat) : Int) := by
 have h1 : 2 ^ c ≤ 2 ^ 63 := Nat.pow_le_pow_right (by omega) hc
 have h2 : (2 : Nat) ^ 63 = 9223372036854775808 := by decide
 have h3 : 0 < 2 ^ c := Nat.pow_pos (by omega)
 rw [u64_andNot_nat _ _ h (by omega)]
 congr 1
 have e : 18446744073709551615 - (2 ^ c - 1) = 2 ^ 64 - 1 - (2 ^ c - 1) := by
   rw [show (2 : Nat) ^ 64 = 18446744073709551616 by decide]
 have ha : a < 2 ^ 64 := by rw [show (2 : Nat) ^ 64 = 18446744073709551616 by decide]; exact h
 apply Nat.eq_of_testBit_eq
 intro i
 have h5 : a - a % 2 ^ c = 2 ^ c * (a / 2 ^ c) := by
   have := Nat.div_add_mod a (2 ^ c)
   omega
 have h4 : (18446744073709551615 - (2 ^ c - 1)).testBit i = (decide (i < 64) && !decide (i < c)) := by
   have := Nat.testBit_two_pow_sub_succ (n := 64) (x := 2 ^ c - 1) (by rw [show (2 : Nat) ^ 64 = 18446744073709551616 by decide]; omega) i
   rw [show 2 ^ c - 1 + 1 = 2 ^ c by omega] at this
   rw [show 18446744073709551615 - (2 ^ c - 1) = 2 ^ 64 - 2 ^ c by rw [show (2 : Nat) ^ 64 = 18446744073709551616 by decide]; omega, this, Nat.testBit_two_pow_sub_one]
 rw [Nat.testBit_and, h4, h5, Nat.testBit_two_pow_mul, Nat.testBit_div_two_pow]
 by_cases hi : i < c
 · rw [decide_eq_true hi, decide_eq_false (show ¬ c ≤ i by omega)]
   simp
 · rw [decide_eq_false hi, decide_eq_true (show c ≤ i by omega), show i - c + c = i by omega]
   by_cases h64 : i < 64
   · rw [decide_eq_true h64]; simp
   · rw [decide_eq_false h64]
     have : a.testBit i = false := Nat.testBit_lt_two_pow (Nat.lt_of_lt_of_le ha (Nat.pow_le_pow_right (by omega) (by omega)))
     rw [this]; simp
set_option maxHeartbeats 1000000 in
theorem mround_any {x : Nat} (hx : x < 18446744073709551616) (hn : isNaN x = false) (w : World) : Calls Tryz.prog 77 #[.float .f64 x] w fun e w' => e = .returned (.float .f64 (stP 5 x)) ∧ w = w' := by
 have hi := infR_val
 unfold isNaN at hn
 have hn' := of_decide_eq_false hn
 obtain ⟨E, hE⟩ : ∃ E, E = x / 4503599627370496 % 2048 := ⟨_, rfl⟩
 have g1 : bits .and .u64 ((x : Int) / 4503599627370496) 2047 = (E : Int) := by
   rw [show (x : Int) / 4503599627370496 = ((x / 4503599627370496 : Nat) : Int) by omega, show (2047 : Int) = ((2047 : Nat) : Int) from rfl, u64_and_nat _ _ (by omega) (by omega), show (2047 : Nat) = 2 ^ 11 - 1 by decide, Nat.and_two_pow_sub_one_eq_mod, hE]
 have g2 := and_sign x hx
 have hEm : mg x / 4503599627370496 = E := by unfold mg; omega
 have hEb : E ≤ 2047 := by omega
 obtain ⟨V, hV⟩ : ∃ V, V = stP 5 x := ⟨_, rfl⟩
 rw [← hV]
 have hVf : mg x < infR → V = Ieee.double.word (sg x) (rAw (mg x)) := fun h => by
   rw [hV]
   unfold stP
   rw [if_pos h, rAw_eq h (sg x)]
 have hxp := split_pat hx
 by_cases c1 : E < 1022
 · have e : V = if sg x then 9223372036854775808 else 0 := by
     rw [hVf (by unfold mg at hEm ⊢; omega), word_eq]
     unfold rAw
     rw [hEm, if_pos c1]
   rw [e]
   obtain ⟨T, hT⟩ : ∃ T : Nat, T = if sg x then 9223372036854775808 else 0 := ⟨_, rfl⟩
   rw [← hT] at g2 ⊢
   have d1 : decide ((E : Int) < 1023) = true := decide_eq_true (by omega)
   have d2 : ((E : Int) == 1022) = false := by rw [beq_eq_false_iff_ne]; omega
   clear hT e hV hVf hxp hEm hn hn' hE c1
   go_enter Tryz.func77, Tryz.ntmps77
   go_wp2
   go_ret
   exact ⟨rfl, rfl⟩
 · by_cases c2 : E = 1022
   · have e : V = if sg x then 13830554455654793216 else 4607182418800017408 := by
       rw [hVf (by unfold mg at hEm ⊢; omega), word_eq]
       unfold rAw
       rw [hEm, if_neg c1, if_pos c2]
     have g3 : bits .or .u64 ((if sg x then 9223372036854775808 else 0 : Nat) : Int) 4607182418800017408 = ((if sg x then 13830554455654793216 else 4607182418800017408 : Nat) : Int) := by
       cases sg x <;> decide
     rw [e]
     obtain ⟨T, hT⟩ : ∃ T : Nat, T = if sg x then 9223372036854775808 else 0 := ⟨_, rfl⟩
     obtain ⟨U, hU⟩ : ∃ U : Nat, U = if sg x then 13830554455654793216 else 4607182418800017408 := ⟨_, rfl⟩
     rw [← hT] at g2 g3
     rw [← hU] at g3 ⊢
     rw [c2] at g1
     clear hT hU e hV hVf hxp hEm hn hn' hE c1 c2
     go_enter Tryz.func77, Tryz.ntmps77
     go_wp2
     go_ret
     exact ⟨rfl, rfl⟩
   · by_cases c3 : E < 1075
     · obtain ⟨c, hc⟩ : ∃ c, c = 1074 - E := ⟨_, rfl⟩
       have hfin : mg x < infR := by unfold mg at hEm ⊢; omega
       have hp : (2251799813685248 : Int) / 2 ^ (51 - c) = ((2 ^ c : Nat) : Int) := by
         have : (2251799813685248 : Nat) / 2 ^ (51 - c) = 2 ^ c := by
           rw [show (2251799813685248 : Nat) = 2 ^ 51 by decide, Nat.pow_div (by omega) (by omega)]
           congr 1
           omega
         rw [← this, Int.natCast_ediv, Int.natCast_pow]
         rfl
       have hq : (4503599627370495 : Int) / 2 ^ (51 - c) = ((2 ^ (c + 1) - 1 : Nat) : Int) := by
         have : (4503599627370495 : Nat) / 2 ^ (51 - c) = 2 ^ (c + 1) - 1 := by
           have h1 : 2 ^ (c + 1) * 2 ^ (51 - c) = 4503599627370496 := by
             rw [← Nat.pow_add, show c + 1 + (51 - c) = 52 by omega]
           have h2 : 0 < 2 ^ (51 - c) := Nat.pow_pos (by omega)
           have h3 : 0 < 2 ^ (c + 1) := Nat.pow_pos (by omega)
           rw [Nat.div_eq_iff h2, Nat.sub_mul, h1]
           omega
         rw [← this, Int.natCast_ediv, Int.natCast_pow]
         rfl
       have hpb : 2 ^ c ≤ 2251799813685248 := by
         have := Nat.pow_le_pow_right (n := 2) (show 0 < 2 by omega) (show c ≤ 51 by omega)
         rwa [show (2 : Nat) ^ 51 = 2251799813685248 by decide] at this
       have e : V = x + 2 ^ c - (x + 2 ^ c) % 2 ^ (c + 1) := by
         rw [hVf hfin, word_eq]
         unfold rAw
         rw [hEm, if_neg c1, if_neg c2, if_pos c3, ← hc, show 1075 - E = c + 1 by omega]
         have hm : x = if sg x then 9223372036854775808 + mg x else mg x := hxp
         obtain ⟨t, ht⟩ : ∃ t, 9223372036854775808 = 2 ^ (c + 1) * t := ⟨2 ^ (62 - c), by rw [← Nat.pow_add, show c + 1 + (62 - c) = 63 by omega]⟩
         cases hs : sg x
         · rw [hs] at hm
           simp at hm
           rw [← hm]
           simp
         · rw [hs] at hm
           simp only [if_true] at hm ⊢
           obtain ⟨M, hM⟩ : ∃ M, M = mg x := ⟨_, rfl⟩
           rw [← hM] at hm ⊢
           have hle := Nat.mod_le (M + 2 ^ c) (2 ^ (c + 1))
           have e2 : (x + 2 ^ c) % 2 ^ (c + 1) = (M + 2 ^ c) % 2 ^ (c + 1) := by
             rw [hm, Nat.add_assoc, ht, Nat.mul_add_mod]
           rw [e2]
           omega
       rw [e]
       have hxb : x + 2 ^ c < 18446744073709551616 := by
         have : x < 18442240474082181120 := by unfold mg at hEm; omega
         omega
       have g4 := andNot_low (x + 2 ^ c) (c + 1) hxb (by omega)
       obtain ⟨P, hP⟩ : ∃ P, P = 2 ^ c := ⟨_, rfl⟩
       obtain ⟨Q, hQ⟩ : ∃ Q, Q = 2 ^ (c + 1) - 1 := ⟨_, rfl⟩
       obtain ⟨R, hR⟩ : ∃ R, R = x + 2 ^ c - (x + 2 ^ c) % 2 ^ (c + 1) := ⟨_, rfl⟩
       rw [← hR] at g4 ⊢
       rw [← hP] at hp hxb g4
       rw [← hQ] at hq g4
       have d1 : decide ((E : Int) < 1023) = false := decide_eq_false (by omega)
       have d2 : decide ((E : Int) < 1075) = true := decide_eq_true (by omega)
       have hcE : 51 - c = E - 1023 := by omega
       rw [hcE] at hp hq
       have hE2 : 1023 ≤ E := by omega
       have hE3 : E < 1075 := c3
       have g4' : bits .andNot .u64 ((x : Int) + (P : Int)) (Q : Int) = (R : Int) := by rw [← Int.natCast_add]; exact g4
       clear hP hQ hR e hV hVf hxp hEm hn hn' hE c1 c2 c3 g2 hpb hc hcE g4
       go_enter Tryz.func77, Tryz.ntmps77
       go_wp2
       go_ret
       exact ⟨rfl, rfl⟩
     · have e : V = x := by
         rw [hV]
         unfold stP
         by_cases hf : mg x < infR
         · rw [if_pos hf, ← rAw_eq hf (sg x), word_eq]
           unfold rAw
           rw [hEm, if_neg c1, if_neg c2, if_neg c3]
           exact hxp.symm
         · rw [if_neg hf]
       rw [e]
       have d1 : decide ((E : Int) < 1023) = false := decide_eq_false (by omega)
       have d2 : decide ((E : Int) < 1075) = false := decide_eq_false (by omega)
       clear e hV hVf hxp hEm hn hn' hE c1 c2 c3 g2
       go_enter Tryz.func77, Tryz.ntmps77
       go_wp2
       go_ret
       exact ⟨rfl, rfl⟩
end Go.Proofs.YtbcaggdgoidlaaaGreatDoor

namespace Go.Proofs.YtbcaggdgoidlaaaGreatDoor
open Go.RowKit Nm Rn
set_option maxRecDepth 100000
set_option linter.unusedVariables false
set_option linter.unusedSimpArgs false
set_option maxHeartbeats 4000000 in
theorem over4_e (x1 x2 a b : Nat) (w : World) (HR : Hid (∀ w, Calls Tryz.prog 30 #[.agg #[.float .f64 x1, .float .f64 x2]] w (RetF a b w)))
   (hq : ∀ w, (binOp .eql 32 (.agg #[.float .f64 a, .float .f64 b]) (.agg #[.float .f64 infR, .float .f64 minf])).run Tryz.prog w = .ok (.bool true) w) :
   Calls Tryz.prog 58 #[.agg #[.func (.func 57) #[] #[]], .agg #[.float .f64 x1, .float .f64 x2]] w (RetF a b w) := by
 have hO := Own.start w
 have hf : True := trivial
 have HEM := Lib.hid (fun w => iempty_any w)
 obtain ⟨I1, hI1⟩ : ∃ r, r = infR := ⟨_, rfl⟩
 obtain ⟨I2, hI2⟩ : ∃ r, r = minf := ⟨_, rfl⟩
 rw [← hI1, ← hI2] at HEM hq
 clear hI1 hI2
 go_enter Tryz.func58, Tryz.ntmps58
 go_wp2_with (first | ((with_reducible refine at_box ?_); refine own_box (cs := [.func (.func 57) #[] #[]]) hO rfl rfl ?_; clear hO; intro g2 wa hO; clear hf; have hf := hO.cells; simp only [BC, CC, Nat.zero_add, Nat.reduceAdd, and_true] at hf) | ((with_reducible refine at_box ?_); refine own_box (cs := [.float .f64 x1, .float .f64 x2]) hO rfl rfl ?_; clear hO; intro g3 wb hO; clear hf; have hf := hO.cells; simp only [BC, CC, Nat.zero_add, Nat.reduceAdd, and_true] at hf) | ((with_reducible refine at_alloc ?_); refine own_alloc hO zero_iv rfl rfl ?_; clear hO; intro g4 wc hO; clear hf; have hf := hO.cells; simp only [BC, CC, Nat.zero_add, Nat.reduceAdd, and_true] at hf))
 refine (HR.out _).mono ?_
 rintro e w2 ⟨rfl, hE1⟩
 have hO := hO.ext hE1
 clear hE1
 clear hf
 have hf := hO.cells
 simp only [BC, CC, Nat.zero_add, Nat.reduceAdd, and_true] at hf
 go_wp2_with ((with_reducible refine at_store (T := 32) ?_); refine own_store (T := 32) hO 1 rfl rfl rfl size_iv rfl rfl rfl ?_; clear hO; intro w3 hO; simp only [List.set_cons_zero, List.set_cons_succ, spl, Nat.reduceAdd, Nat.zero_add] at hO; clear hf; have hf := hO.cells; simp only [BC, CC, Nat.zero_add, Nat.reduceAdd, and_true] at hf)
 obtain ⟨S, hS⟩ : ∃ S : World → Prop, S = Own w [⟨g4, 32, [.float .f64 0, .float .f64 0]⟩, ⟨g3, 32, [.float .f64 a, .float .f64 b]⟩, ⟨g2, 74, [.func (.func 57) #[] #[]]⟩] [] := ⟨_, rfl⟩
 have HSE : Hid (∀ w w', S w → Ext w w' → S w') := Lib.hid (fun w w' h1 h2 => by rw [hS] at h1 ⊢; exact h1.ext h2)
 have hS1 : S w3.drew := by rw [hS]; exact hO.ext (Ext.refl w3).drew
 have HS := Lib.hid hS
 clear hS hO hf
 obtain ⟨sp, hsp⟩ : ∃ sp : Nat → Sp, sp = ofList [det (.agg #[.float .f64 a, .float .f64 b]), det (.agg #[.float .f64 I1, .float .f64 I2])] := ⟨_, rfl⟩
 have HSP := Lib.hid hsp
 clear hsp
 refine wp_region_loose 2 S sp (by kernel_rfl) (by kernel_rfl) hS1 HSE.out ?_
 simp only [List.take_succ_cons, List.take_zero, List.drop_succ_cons, List.drop_zero]
 iterate 2
   refine wpX_step (fun K hK => ?_)
   go_simp
   refine StepY.det (by rw [HSP.out]; rfl) ?_ ?_
   · intro wz hz hF
     rw [HS.out] at hz
     have hf := hz.cells
     simp only [BC, CC, Nat.zero_add, Nat.reduceAdd, and_true] at hf
     clear hz hF
     go_simp
     first
     | exact ⟨rfl, Ext.refl _⟩
     | (refine (HEM.out _).mono ?_
        rintro e w5 ⟨rfl, hE5⟩
        exact ⟨_, rfl, rfl, hE5⟩)
   refine hK _ _ ?_
   clear hK K
 refine wpX_nil ?_
 intro w4 hz4 hF
 clear hF
 rw [HS.out] at hz4
 have hO := hz4
 have hf := hO.cells
 simp only [BC, CC, Nat.zero_add, Nat.reduceAdd, and_true] at hf
 clear hz4 hS1 HSP
 go_wp2_with ((with_reducible refine at_store (T := 32) ?_); refine own_store (T := 32) hO 0 rfl rfl rfl size_iv rfl rfl rfl ?_; clear hO; intro w5 hO; simp only [List.set_cons_zero, List.set_cons_succ, spl, Nat.reduceAdd, Nat.zero_add] at hO; clear hf; have hf := hO.cells; simp only [BC, CC, Nat.zero_add, Nat.reduceAdd, and_true] at hf)
 exact own_ret hO 0 rfl rfl rfl agg_iv size_iv rfl ⟨rfl, hO.toExt⟩
set_option maxHeartbeats 4000000 in
theorem over4_f (x1 x2 a b p q r1 r2 : Nat) (w : World) (HR : Hid (∀ w, Calls Tryz.prog 30 #[.agg #[.float .f64 x1, .float .f64 x2]] w (RetF a b w)))
   (hq : ∀ w, (binOp .eql 32 (.agg #[.float .f64 a, .float .f64 b]) (.agg #[.float .f64 infR, .float .f64 minf])).run Tryz.prog w = .ok (.bool false) w)
   (H1 : ∀ w, (callFunc 57 #[.float .f64 a]).run Tryz.prog w = .ok (.value (.float .f64 p)) w) (H2 : ∀ w, (callFunc 57 #[.float .f64 b]).run Tryz.prog w = .ok (.value (.float .f64 q)) w)
   (HR2 : Hid (∀ w, Calls Tryz.prog 30 #[.agg #[.float .f64 p, .float .f64 q]] w (RetF r1 r2 w))) :
   Calls Tryz.prog 58 #[.agg #[.func (.func 57) #[] #[]], .agg #[.float .f64 x1, .float .f64 x2]] w (RetF r1 r2 w) := by
 have hO := Own.start w
 have hf : True := trivial
 have HEM := Lib.hid (fun w => iempty_any w)
 obtain ⟨I1, hI1⟩ : ∃ r, r = infR := ⟨_, rfl⟩
 obtain ⟨I2, hI2⟩ : ∃ r, r = minf := ⟨_, rfl⟩
 rw [← hI1, ← hI2] at HEM hq
 clear hI1 hI2
 go_enter Tryz.func58, Tryz.ntmps58
 go_wp2_with (first | ((with_reducible refine at_box ?_); refine own_box (cs := [.func (.func 57) #[] #[]]) hO rfl rfl ?_; clear hO; intro g2 wa hO; clear hf; have hf := hO.cells; simp only [BC, CC, Nat.zero_add, Nat.reduceAdd, and_true] at hf) | ((with_reducible refine at_box ?_); refine own_box (cs := [.float .f64 x1, .float .f64 x2]) hO rfl rfl ?_; clear hO; intro g3 wb hO; clear hf; have hf := hO.cells; simp only [BC, CC, Nat.zero_add, Nat.reduceAdd, and_true] at hf) | ((with_reducible refine at_alloc ?_); refine own_alloc hO zero_iv rfl rfl ?_; clear hO; intro g4 wc hO; clear hf; have hf := hO.cells; simp only [BC, CC, Nat.zero_add, Nat.reduceAdd, and_true] at hf))
 refine (HR.out _).mono ?_
 rintro e w2 ⟨rfl, hE1⟩
 have hO := hO.ext hE1
 clear hE1
 clear hf
 have hf := hO.cells
 simp only [BC, CC, Nat.zero_add, Nat.reduceAdd, and_true] at hf
 go_wp2_with ((with_reducible refine at_store (T := 32) ?_); refine own_store (T := 32) hO 1 rfl rfl rfl size_iv rfl rfl rfl ?_; clear hO; intro w3 hO; simp only [List.set_cons_zero, List.set_cons_succ, spl, Nat.reduceAdd, Nat.zero_add] at hO; clear hf; have hf := hO.cells; simp only [BC, CC, Nat.zero_add, Nat.reduceAdd, and_true] at hf)
 obtain ⟨S, hS⟩ : ∃ S : World → Prop, S = Own w [⟨g4, 32, [.float .f64 0, .float .f64 0]⟩, ⟨g3, 32, [.float .f64 a, .float .f64 b]⟩, ⟨g2, 74, [.func (.func 57) #[] #[]]⟩] [] := ⟨_, rfl⟩
 have HSE : Hid (∀ w w', S w → Ext w w' → S w') := Lib.hid (fun w w' h1 h2 => by rw [hS] at h1 ⊢; exact h1.ext h2)
 have hS1 : S w3.drew := by rw [hS]; exact hO.ext (Ext.refl w3).drew
 have HS := Lib.hid hS
 clear hS hO hf
 obtain ⟨sp, hsp⟩ : ∃ sp : Nat → Sp, sp = ofList [det (.agg #[.float .f64 a, .float .f64 b]), det (.agg #[.float .f64 I1, .float .f64 I2])] := ⟨_, rfl⟩
 have HSP := Lib.hid hsp
 clear hsp
 refine wp_region_loose 2 S sp (by kernel_rfl) (by kernel_rfl) hS1 HSE.out ?_
 simp only [List.take_succ_cons, List.take_zero, List.drop_succ_cons, List.drop_zero]
 iterate 2
   refine wpX_step (fun K hK => ?_)
   go_simp
   refine StepY.det (by rw [HSP.out]; rfl) ?_ ?_
   · intro wz hz hF
     rw [HS.out] at hz
     have hf := hz.cells
     simp only [BC, CC, Nat.zero_add, Nat.reduceAdd, and_true] at hf
     clear hz hF
     go_simp
     first
     | exact ⟨rfl, Ext.refl _⟩
     | (refine (HEM.out _).mono ?_
        rintro e w5 ⟨rfl, hE5⟩
        exact ⟨_, rfl, rfl, hE5⟩)
   refine hK _ _ ?_
   clear hK K
 refine wpX_nil ?_
 intro w4 hz4 hF
 clear hF
 rw [HS.out] at hz4
 have hO := hz4
 have hf := hO.cells
 simp only [BC, CC, Nat.zero_add, Nat.reduceAdd, and_true] at hf
 clear hz4 hS1 HSP
 go_wp2_with fail
 have hS2 : S w4.drew := by rw [HS.out]; exact hO.ext (Ext.refl w4).drew
 clear hO hf
 obtain ⟨sp2, hsp⟩ : ∃ sp : Nat → Sp, sp = ofList [det (.pointer (some ⟨g2, 0, none⟩)), det (.func (.func 57) #[] #[]), det (.pointer (some ⟨g3, 0, none⟩)), det (.float .f64 a), det (.float .f64 p), det (.pointer (some ⟨g2, 0, none⟩)), det (.func (.func 57) #[] #[]), det (.pointer (some ⟨g3, 1, none⟩)), det (.float .f64 b), det (.float .f64 q), det (.agg #[.float .f64 p, .float .f64 q]), det (.agg #[.float .f64 r1, .float .f64 r2])] := ⟨_, rfl⟩
 have HSP2 := Lib.hid hsp
 clear hsp
 refine wp_region_loose 12 S sp2 (by kernel_rfl) (by kernel_rfl) hS2 HSE.out ?_
 simp only [List.take_succ_cons, List.take_zero, List.drop_succ_cons, List.drop_zero]
 iterate 12
   refine wpX_step (fun K hK => ?_)
   go_simp
   refine StepY.det (by rw [HSP2.out]; rfl) ?_ ?_
   · intro wz hz hF
     rw [HS.out] at hz
     have hf := hz.cells
     simp only [BC, CC, Nat.zero_add, Nat.reduceAdd, and_true] at hf
     clear hz hF
     go_simp
     first
     | exact ⟨rfl, Ext.refl _⟩
     | (refine (HR2.out _).mono ?_
        rintro e w5 ⟨rfl, hE5⟩
        exact ⟨_, rfl, rfl, hE5⟩)
   refine hK _ _ ?_
   clear hK K
 refine wpX_nil ?_
 intro w6 hz6 hF
 clear hF
 rw [HS.out] at hz6
 have hO := hz6
 have hf := hO.cells
 simp only [BC, CC, Nat.zero_add, Nat.reduceAdd, and_true] at hf
 clear hz6
 go_wp2_with ((with_reducible refine at_store (T := 32) ?_); refine own_store (T := 32) hO 0 rfl rfl rfl size_iv rfl rfl rfl ?_; clear hO; intro w7 hO; simp only [List.set_cons_zero, List.set_cons_succ, spl, Nat.reduceAdd, Nat.zero_add] at hO; clear hf; have hf := hO.cells; simp only [BC, CC, Nat.zero_add, Nat.reduceAdd, and_true] at hf)
 exact own_ret hO 0 rfl rfl rfl agg_iv size_iv rfl ⟨rfl, hO.toExt⟩
theorem over4_any (x1 x2 : Nat) (w : World) (hx1 : x1 < 18446744073709551616) (hx2 : x2 < 18446744073709551616) :
   Calls Tryz.prog 58 #[.agg #[.func (.func 57) #[] #[]], .agg #[.float .f64 x1, .float .f64 x2]] w (RetF (piLo 4 x1 x2) (piHi 4 x1 x2) w) := by
 have HR := Lib.hid (fun w => iread_any x1 x2 w hx1 hx2)
 by_cases he : emp x1 x2
 · have e1 : piLo 4 x1 x2 = infR := if_pos he
   have e2 : piHi 4 x1 x2 = minf := if_pos he
   rw [e1, e2]
   rw [he.1, he.2] at HR
   exact over4_e x1 x2 infR minf w HR (eqF' (by decide) (by decide) (by decide) (by decide) rfl)
 · have e1 : piLo 4 x1 x2 = rdLo (stF 4 (rdLo x1 x2)) (stF 4 (rdHi x1 x2)) := if_neg he
   have e2 : piHi 4 x1 x2 = rdHi (stF 4 (rdLo x1 x2)) (stF 4 (rdHi x1 x2)) := if_neg he
   rw [e1, e2]
   obtain ⟨g1, g2, g3, g4, g5, g6, _, g8⟩ := rd_ends hx1 hx2 he
   have hq := eqF' (E := false) g1 g2 (show infR < 18446744073709551616 by decide) (show minf < 18446744073709551616 by decide) (by
     rw [eq_key g3 nan_inf, eq_key g4 nan_minf, key_inf, key_minf, Bool.and_eq_false_iff, decide_eq_false_iff_not, decide_eq_false_iff_not, key_eq_inf g1 g3]
     exact .inl g5)
   have s1 := stF_facts 4 g1 g3
   have s2 := stF_facts 4 g2 g4
   exact over4_f x1 x2 _ _ _ _ _ _ w HR hq (fun w => callEven g1 g3 w) (fun w => callEven g2 g4 w) (Lib.hid fun w => iread_any _ _ w s1.1 s2.1)
set_option maxHeartbeats 2000000 in
theorem pst4_any (x1 x2 : Nat) (w : World) (hx1 : x1 < 18446744073709551616) (hx2 : x2 < 18446744073709551616) :
   Calls Tryz.prog 28 #[.agg #[.float .f64 x1, .float .f64 x2]] w (RetF (piLo 4 x1 x2) (piHi 4 x1 x2) w) := by
 have HOV := Lib.hid (fun w => over4_any x1 x2 w hx1 hx2)
 obtain ⟨r1, hr1⟩ : ∃ r, r = piLo 4 x1 x2 := ⟨_, rfl⟩
 obtain ⟨r2, hr2⟩ : ∃ r, r = piHi 4 x1 x2 := ⟨_, rfl⟩
 rw [← hr1, ← hr2] at HOV ⊢
 clear hr1 hr2 hx1 hx2
 have hO := Own.start w
 have hf : True := trivial
 go_enter Tryz.func28, Tryz.ntmps28
 go_wp2_with (first | ((with_reducible refine at_box ?_); refine own_box (cs := [.float .f64 x1, .float .f64 x2]) hO rfl rfl ?_; clear hO; intro ga wa hO; clear hf; have hf := hO.cells; simp only [BC, CC, Nat.zero_add, Nat.reduceAdd, and_true] at hf) | ((with_reducible refine at_alloc ?_); refine own_alloc hO zero_iv rfl rfl ?_; clear hO; intro gb wb hO; clear hf; have hf := hO.cells; simp only [BC, CC, Nat.zero_add, Nat.reduceAdd, and_true] at hf))
 refine (HOV.out _).mono ?_
 rintro e w2 ⟨rfl, hE1⟩
 have hO := hO.ext hE1
 clear hE1
 clear hf
 have hf := hO.cells
 simp only [BC, CC, Nat.zero_add, Nat.reduceAdd, and_true] at hf
 go_wp2_with ((with_reducible refine at_store (T := 32) ?_); refine own_store (T := 32) hO 0 rfl rfl rfl size_iv rfl rfl rfl ?_; clear hO; intro w3 hO; simp only [List.set_cons_zero, List.set_cons_succ, spl, Nat.reduceAdd, Nat.zero_add] at hO; clear hf; have hf := hO.cells; simp only [BC, CC, Nat.zero_add, Nat.reduceAdd, and_true] at hf)
 exact own_ret hO 0 rfl rfl rfl agg_iv size_iv rfl ⟨rfl, hO.toExt⟩
end Go.Proofs.YtbcaggdgoidlaaaGreatDoor

namespace Go.Proofs.YtbcaggdgoidlaaaGreatDoor
open Go.RowKit Nm Rn
set_option maxRecDepth 100000
set_option linter.unusedVariables false
set_option linter.unusedSimpArgs false
set_option maxHeartbeats 1000000 in
theorem of7_any (a b : Nat) (w : World) : Calls Tryz.prog 27 #[.float .f64 a, .float .f64 b] w (RetF a b w) := by
 have hO := Own.start w
 have hf : True := trivial
 go_enter Tryz.func27, Tryz.ntmps27
 go_wp2_with (first | ((with_reducible refine at_alloc ?_); refine own_alloc hO zero_iv rfl rfl ?_; clear hO; intro g w1 hO; clear hf; have hf := hO.cells; simp only [BC, CC, Nat.zero_add, Nat.reduceAdd, and_true] at hf) | ((with_reducible refine at_store (T := 32) ?_); refine own_store (T := 32) hO 0 rfl rfl rfl size_iv rfl rfl rfl ?_; clear hO; intro w2 hO; simp only [List.set_cons_zero, List.set_cons_succ, spl, List.take_succ_cons, List.take_zero, List.nil_append, List.cons_append, List.length_cons, List.length_nil, List.drop_succ_cons, List.drop_zero, List.drop_nil, Nat.reduceAdd, Nat.zero_add, List.append_nil] at hO; clear hf; have hf := hO.cells; simp only [BC, CC, Nat.zero_add, Nat.reduceAdd, and_true] at hf))
 exact own_ret hO 0 rfl rfl rfl agg_iv size_iv rfl ⟨rfl, hO.toExt⟩
theorem eF_0 (w : World) : (binOp .eql 32 (.agg #[.float .f64 13844065254536904704, .float .f64 4628293042053316608]) (.agg #[.float .f64 13844065254536904704, .float .f64 4628293042053316608])).run Tryz.prog w = .ok (.bool true) w := eqF' (by decide) (by decide) (by decide) (by decide) (by decide +kernel) w
theorem eF_1 (w : World) : (binOp .eql 32 (.agg #[.float .f64 0, .float .f64 4613937818241073152]) (.agg #[.float .f64 0, .float .f64 4613937818241073152])).run Tryz.prog w = .ok (.bool true) w := eqF' (by decide) (by decide) (by decide) (by decide) (by decide +kernel) w
theorem eF_2 (w : World) : (binOp .eql 32 (.agg #[.float .f64 0, .float .f64 4611686018427387904]) (.agg #[.float .f64 0, .float .f64 4611686018427387904])).run Tryz.prog w = .ok (.bool true) w := eqF' (by decide) (by decide) (by decide) (by decide) (by decide +kernel) w
theorem eF_3 (w : World) : (binOp .eql 32 (.agg #[.float .f64 4611686018427387904, .float .f64 4616189618054758400]) (.agg #[.float .f64 4611686018427387904, .float .f64 4616189618054758400])).run Tryz.prog w = .ok (.bool true) w := eqF' (by decide) (by decide) (by decide) (by decide) (by decide +kernel) w
theorem ab_0 (w : World) : Calls Tryz.prog 22 #[.agg #[.float .f64 13837309855095848960, .float .f64 4611686018427387904]] w (RetF 0 4613937818241073152 w) := by
 have := pabs_any 13837309855095848960 4611686018427387904 w (by decide) (by decide)
 rw [show abLo 13837309855095848960 4611686018427387904 = 0 by decide +kernel, show abHi 13837309855095848960 4611686018427387904 = 4613937818241073152 by decide +kernel] at this
 exact this
theorem sk_0 (w : World) : Calls Tryz.prog 28 #[.agg #[.float .f64 4602678819172646912, .float .f64 4612811918334230528]] w (RetF 0 4611686018427387904 w) := by
 have := pst4_any 4602678819172646912 4612811918334230528 w (by decide) (by decide)
 rw [show piLo 4 4602678819172646912 4612811918334230528 = 0 by decide +kernel, show piHi 4 4602678819172646912 4612811918334230528 = 4611686018427387904 by decide +kernel] at this
 exact this
theorem mx_0 (w : World) : Calls Tryz.prog 11 #[.agg #[.float .f64 4607182418800017408, .float .f64 4616189618054758400], .agg #[.float .f64 4611686018427387904, .float .f64 4613937818241073152]] w (RetF 4611686018427387904 4616189618054758400 w) := by
 have := pmax_any 4607182418800017408 4616189618054758400 4611686018427387904 4613937818241073152 w (by decide) (by decide) (by decide) (by decide)
 rw [show maxLo 4607182418800017408 4616189618054758400 4611686018427387904 4613937818241073152 = 4611686018427387904 by decide +kernel, show maxHi 4607182418800017408 4616189618054758400 4611686018427387904 4613937818241073152 = 4616189618054758400 by decide +kernel] at this
 exact this
set_option maxHeartbeats 4000000 in
theorem lives7_any (w : World) (hT : Tab w) : Calls Tryz.prog 7 #[] w fun e w' => e = .returned (.bool true) ∧ Ext w w' := by
 have HT := Lib.hid hT
 have hX := Ext.refl w
 clear hT
 have qeF_0 := eF_0
 have qeF_1 := eF_1
 have qeF_2 := eF_2
 have qeF_3 := eF_3
 go_enter Tryz.func7, Tryz.ntmps7
 go_wp2_with (first | (go_at_call 27; (with_reducible refine (of7_any _ _ _).mono ?_); rintro e w' ⟨rfl, hE'⟩; have hX := hX.trans hE'; clear hE') | (go_at_call 15; (with_reducible refine (pk_0 _ (HT.out.ext hX)).mono ?_); rintro e w' ⟨rfl, hE'⟩; have hX := hX.trans hE'; clear hE') | (go_at_call 22; (with_reducible refine (ab_0 _).mono ?_); rintro e w' ⟨rfl, hE'⟩; have hX := hX.trans hE'; clear hE') | (go_at_call 28; (with_reducible refine (sk_0 _).mono ?_); rintro e w' ⟨rfl, hE'⟩; have hX := hX.trans hE'; clear hE') | (go_at_call 11; (with_reducible refine (mx_0 _).mono ?_); rintro e w' ⟨rfl, hE'⟩; have hX := hX.trans hE'; clear hE'))
 go_ret
 exact ⟨rfl, hX⟩
end Go.Proofs.YtbcaggdgoidlaaaGreatDoor
