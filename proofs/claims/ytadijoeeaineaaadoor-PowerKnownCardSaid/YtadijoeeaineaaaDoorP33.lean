/-
  Chapter 7's lives, and the walk through PowerKnown. Conditions: those that each theorem names.
-/
import Derived.Test.YtadijoeeaineaaaDoorP26
import Derived.Test.YtadijoeeaineaaaDoorP29
import Derived.Test.YtadijoeeaineaaaDoorP32
namespace Go.Proofs.YtadijoeeaineaaaDoor
open Go.RowKit Nm Rn
set_option maxRecDepth 100000
set_option linter.unusedVariables false
set_option linter.unusedSimpArgs false

theorem neqF {a b c d : Nat} (ha : a < 18446744073709551616) (hb : b < 18446744073709551616) (hc : c < 18446744073709551616) (hd : d < 18446744073709551616) (w : World) : (binOp .neq 61 (.agg #[.float .f64 a, .float .f64 b]) (.agg #[.float .f64 c, .float .f64 d])).run Tryd.prog w = .ok (.bool (!(eqB a c && eqB b d))) w := by
  rw [← fo_eq ha hc, ← fo_eq hb hd]
  cases h1 : (FloatKind.f64.format.order a c == some .eq) <;> cases h2 : (FloatKind.f64.format.order b d == some .eq) <;> go_simp <;> simp [h1, h2]
theorem neqF' {a b c d : Nat} (ha : a < 18446744073709551616) (hb : b < 18446744073709551616) (hc : c < 18446744073709551616) (hd : d < 18446744073709551616) {E : Bool} (h : (!(eqB a c && eqB b d)) = E) (w : World) : (binOp .neq 61 (.agg #[.float .f64 a, .float .f64 b]) (.agg #[.float .f64 c, .float .f64 d])).run Tryd.prog w = .ok (.bool E) w := by rw [neqF ha hb hc hd, h]
set_option maxHeartbeats 1000000 in
theorem of7_any (a b : Nat) (w : World) : Calls Tryd.prog 46 #[.float .f64 a, .float .f64 b] w (RetF a b w) := by
  have hO := Own.start w
  have hf : True := trivial
  go_enter Tryd.func46, Tryd.ntmps46
  go_wp2_with (first | ((with_reducible refine at_alloc ?_); refine own_alloc hO zero_iv rfl rfl ?_; clear hO; intro g w1 hO; clear hf; have hf := hO.cells; simp only [BC, CC, Nat.zero_add, Nat.reduceAdd, and_true] at hf) | ((with_reducible refine at_store (T := 61) ?_); refine own_store (T := 61) hO 0 rfl rfl rfl size_iv rfl rfl rfl ?_; clear hO; intro w2 hO; simp only [List.set_cons_zero, List.set_cons_succ, spl, List.take_succ_cons, List.take_zero, List.nil_append, List.cons_append, List.length_cons, List.length_nil, List.drop_succ_cons, List.drop_zero, List.drop_nil, Nat.reduceAdd, Nat.zero_add, List.append_nil] at hO; clear hf; have hf := hO.cells; simp only [BC, CC, Nat.zero_add, Nat.reduceAdd, and_true] at hf))
  exact own_ret hO 0 rfl rfl rfl agg_iv size_iv rfl ⟨rfl, hO.toExt⟩

theorem eF_0 (w : World) : (binOp .eql 61 (.agg #[.float .f64 13844065254536904704, .float .f64 4628293042053316608]) (.agg #[.float .f64 13844065254536904704, .float .f64 4628293042053316608])).run Tryd.prog w = .ok (.bool true) w := eqF' (by decide) (by decide) (by decide) (by decide) (by decide +kernel) w
theorem eF_1 (w : World) : (binOp .eql 61 (.agg #[.float .f64 0, .float .f64 4613937818241073152]) (.agg #[.float .f64 0, .float .f64 4613937818241073152])).run Tryd.prog w = .ok (.bool true) w := eqF' (by decide) (by decide) (by decide) (by decide) (by decide +kernel) w
theorem eF_2 (w : World) : (binOp .eql 61 (.agg #[.float .f64 0, .float .f64 4611686018427387904]) (.agg #[.float .f64 0, .float .f64 4611686018427387904])).run Tryd.prog w = .ok (.bool true) w := eqF' (by decide) (by decide) (by decide) (by decide) (by decide +kernel) w
theorem eF_3 (w : World) : (binOp .eql 61 (.agg #[.float .f64 4611686018427387904, .float .f64 4616189618054758400]) (.agg #[.float .f64 4611686018427387904, .float .f64 4616189618054758400])).run Tryd.prog w = .ok (.bool true) w := eqF' (by decide) (by decide) (by decide) (by decide) (by decide +kernel) w
theorem ab_0 (w : World) : Calls Tryd.prog 56 #[.agg #[.float .f64 13837309855095848960, .float .f64 4611686018427387904]] w (RetF 0 4613937818241073152 w) := by
  have := pabs_any 13837309855095848960 4611686018427387904 w (by decide) (by decide)
  rw [show abLo 13837309855095848960 4611686018427387904 = 0 by decide +kernel, show abHi 13837309855095848960 4611686018427387904 = 4613937818241073152 by decide +kernel] at this
  exact this
theorem sk_0 (w : World) : Calls Tryd.prog 53 #[.agg #[.float .f64 4602678819172646912, .float .f64 4612811918334230528]] w (RetF 0 4611686018427387904 w) := by
  have := pst4_any 4602678819172646912 4612811918334230528 w (by decide) (by decide)
  rw [show piLo 4 4602678819172646912 4612811918334230528 = 0 by decide +kernel, show piHi 4 4602678819172646912 4612811918334230528 = 4611686018427387904 by decide +kernel] at this
  exact this
theorem mx_0 (w : World) : Calls Tryd.prog 57 #[.agg #[.float .f64 4607182418800017408, .float .f64 4616189618054758400], .agg #[.float .f64 4611686018427387904, .float .f64 4613937818241073152]] w (RetF 4611686018427387904 4616189618054758400 w) := by
  have := pmax_any 4607182418800017408 4616189618054758400 4611686018427387904 4613937818241073152 w (by decide) (by decide) (by decide) (by decide)
  rw [show maxLo 4607182418800017408 4616189618054758400 4611686018427387904 4613937818241073152 = 4611686018427387904 by decide +kernel, show maxHi 4607182418800017408 4616189618054758400 4611686018427387904 4613937818241073152 = 4616189618054758400 by decide +kernel] at this
  exact this
set_option maxHeartbeats 4000000 in
theorem lives7_any (w : World) (hT : Tab w) : Calls Tryd.prog 44 #[] w fun e w' => e = .returned (.bool true) ∧ Ext w w' := by
  have HT := Lib.hid hT
  have hX := Ext.refl w
  clear hT
  have qeF_0 := eF_0
  have qeF_1 := eF_1
  have qeF_2 := eF_2
  have qeF_3 := eF_3
  go_enter Tryd.func44, Tryd.ntmps44
  go_wp2_with (first | (go_at_call 46; (with_reducible refine (of7_any _ _ _).mono ?_); rintro e w' ⟨rfl, hE'⟩; have hX := hX.trans hE'; clear hE') | (go_at_call 37; (with_reducible refine (pk_0 _ (HT.out.ext hX)).mono ?_); rintro e w' ⟨rfl, hE'⟩; have hX := hX.trans hE'; clear hE') | (go_at_call 56; (with_reducible refine (ab_0 _).mono ?_); rintro e w' ⟨rfl, hE'⟩; have hX := hX.trans hE'; clear hE') | (go_at_call 53; (with_reducible refine (sk_0 _).mono ?_); rintro e w' ⟨rfl, hE'⟩; have hX := hX.trans hE'; clear hE') | (go_at_call 57; (with_reducible refine (mx_0 _).mono ?_); rintro e w' ⟨rfl, hE'⟩; have hX := hX.trans hE'; clear hE'))
  go_ret
  exact ⟨rfl, hX⟩

theorem inf_p7 (w : World) : Calls Tryd.prog 45 #[.int .i64 1] w fun e w' => e = .returned (.float .f64 9218868437227405312) ∧ w = w' := inf_p w
theorem nF_4 (w : World) : (binOp .neq 61 (.agg #[.float .f64 13844065254536904704, .float .f64 4628293042053316608]) (.agg #[.float .f64 13844065254536904704, .float .f64 4628293042053316608])).run Tryd.prog w = .ok (.bool false) w := neqF' (by decide) (by decide) (by decide) (by decide) (by decide +kernel) w
theorem nF_5 (w : World) : (binOp .neq 61 (.agg #[.float .f64 0, .float .f64 4621256167635550208]) (.agg #[.float .f64 0, .float .f64 4621256167635550208])).run Tryd.prog w = .ok (.bool false) w := neqF' (by decide) (by decide) (by decide) (by decide) (by decide +kernel) w
theorem nF_6 (w : World) : (binOp .neq 61 (.agg #[.float .f64 4607182418800017408, .float .f64 4607182418800017408]) (.agg #[.float .f64 4607182418800017408, .float .f64 4607182418800017408])).run Tryd.prog w = .ok (.bool false) w := neqF' (by decide) (by decide) (by decide) (by decide) (by decide +kernel) w
theorem nF_7 (w : World) : (binOp .neq 61 (.agg #[.float .f64 4598175219545276416, .float .f64 9218868437227405312]) (.agg #[.float .f64 4598175219545276416, .float .f64 9218868437227405312])).run Tryd.prog w = .ok (.bool false) w := neqF' (by decide) (by decide) (by decide) (by decide) (by decide +kernel) w
theorem nF_8 (w : World) : (binOp .neq 61 (.agg #[.float .f64 4589168020290535424, .float .f64 9218868437227405312]) (.agg #[.float .f64 4589168020290535424, .float .f64 9218868437227405312])).run Tryd.prog w = .ok (.bool false) w := neqF' (by decide) (by decide) (by decide) (by decide) (by decide +kernel) w
theorem nF_9 (w : World) : (binOp .neq 61 (.agg #[.float .f64 9218868437227405312, .float .f64 18442240474082181120]) (.agg #[.float .f64 9218868437227405312, .float .f64 18442240474082181120])).run Tryd.prog w = .ok (.bool false) w := neqF' (by decide) (by decide) (by decide) (by decide) (by decide +kernel) w
theorem nF_10 (w : World) : (binOp .neq 61 (.agg #[.float .f64 18442240474082181120, .float .f64 13803532857890570240]) (.agg #[.float .f64 18442240474082181120, .float .f64 13803532857890570240])).run Tryd.prog w = .ok (.bool false) w := neqF' (by decide) (by decide) (by decide) (by decide) (by decide +kernel) w
theorem nF_11 (w : World) : (binOp .neq 61 (.agg #[.float .f64 0, .float .f64 4598175219545276416]) (.agg #[.float .f64 0, .float .f64 4598175219545276416])).run Tryd.prog w = .ok (.bool false) w := neqF' (by decide) (by decide) (by decide) (by decide) (by decide +kernel) w
theorem nF_12 (w : World) : (binOp .neq 61 (.agg #[.float .f64 9218868437227405311, .float .f64 9218868437227405312]) (.agg #[.float .f64 9218868437227405311, .float .f64 9218868437227405312])).run Tryd.prog w = .ok (.bool false) w := neqF' (by decide) (by decide) (by decide) (by decide) (by decide +kernel) w
theorem nF_13 (w : World) : (binOp .neq 61 (.agg #[.float .f64 9223372036854775809, .float .f64 1]) (.agg #[.float .f64 9223372036854775809, .float .f64 1])).run Tryd.prog w = .ok (.bool false) w := neqF' (by decide) (by decide) (by decide) (by decide) (by decide +kernel) w
theorem nF_14 (w : World) : (binOp .neq 61 (.agg #[.float .f64 4576918229304087675, .float .f64 4576918229304087676]) (.agg #[.float .f64 4576918229304087675, .float .f64 4576918229304087676])).run Tryd.prog w = .ok (.bool false) w := neqF' (by decide) (by decide) (by decide) (by decide) (by decide +kernel) w
theorem nF_15 (w : World) : (binOp .neq 61 (.agg #[.float .f64 18442240474082181120, .float .f64 9218868437227405312]) (.agg #[.float .f64 18442240474082181120, .float .f64 9218868437227405312])).run Tryd.prog w = .ok (.bool false) w := neqF' (by decide) (by decide) (by decide) (by decide) (by decide +kernel) w
theorem nF_16 (w : World) : (binOp .neq 61 (.agg #[.float .f64 9218868437227405312, .float .f64 18442240474082181120]) (.agg #[.float .f64 9218868437227405312, .float .f64 18442240474082181120])).run Tryd.prog w = .ok (.bool false) w := neqF' (by decide) (by decide) (by decide) (by decide) (by decide +kernel) w
theorem sk_1 (w : World) : Calls Tryd.prog 47 #[.agg #[.float .f64 0, .float .f64 9218868437227405312]] w (RetF 0 4607182418800017408 w) := by
  have := pst0_any 0 9218868437227405312 w (by decide) (by decide)
  rw [show piLo 0 0 9218868437227405312 = 0 by decide +kernel, show piHi 0 0 9218868437227405312 = 4607182418800017408 by decide +kernel] at this
  exact this
theorem sk_2 (w : World) : Calls Tryd.prog 48 #[.agg #[.float .f64 13826050856027422720, .float .f64 4609434218613702656]] w (RetF 13830554455654793216 4607182418800017408 w) := by
  have := pst1_any 13826050856027422720 4609434218613702656 w (by decide) (by decide)
  rw [show piLo 1 13826050856027422720 4609434218613702656 = 13830554455654793216 by decide +kernel, show piHi 1 13826050856027422720 4609434218613702656 = 4607182418800017408 by decide +kernel] at this
  exact this
theorem sk_3 (w : World) : Calls Tryd.prog 49 #[.agg #[.float .f64 13826050856027422720, .float .f64 4609434218613702656]] w (RetF 0 4611686018427387904 w) := by
  have := pst2_any 13826050856027422720 4609434218613702656 w (by decide) (by decide)
  rw [show piLo 2 13826050856027422720 4609434218613702656 = 0 by decide +kernel, show piHi 2 13826050856027422720 4609434218613702656 = 4611686018427387904 by decide +kernel] at this
  exact this
theorem sk_4 (w : World) : Calls Tryd.prog 50 #[.agg #[.float .f64 13832806255468478464, .float .f64 4609434218613702656]] w (RetF 13830554455654793216 4607182418800017408 w) := by
  have := pst3_any 13832806255468478464 4609434218613702656 w (by decide) (by decide)
  rw [show piLo 3 13832806255468478464 4609434218613702656 = 13830554455654793216 by decide +kernel, show piHi 3 13832806255468478464 4609434218613702656 = 4607182418800017408 by decide +kernel] at this
  exact this
theorem mn_0 (w : World) : Calls Tryd.prog 51 #[.agg #[.float .f64 4607182418800017408, .float .f64 4616189618054758400], .agg #[.float .f64 4611686018427387904, .float .f64 4613937818241073152]] w (RetF 4607182418800017408 4613937818241073152 w) := by
  have := pmin_any 4607182418800017408 4616189618054758400 4611686018427387904 4613937818241073152 w (by decide) (by decide) (by decide) (by decide)
  rw [show minLo 4607182418800017408 4616189618054758400 4611686018427387904 4613937818241073152 = 4607182418800017408 by decide +kernel, show minHi 4607182418800017408 4616189618054758400 4611686018427387904 4613937818241073152 = 4613937818241073152 by decide +kernel] at this
  exact this
theorem sk_5 (w : World) : Calls Tryd.prog 52 #[.agg #[.float .f64 4602678819172646912, .float .f64 4612811918334230528]] w (RetF 4607182418800017408 4613937818241073152 w) := by
  have := pst5_any 4602678819172646912 4612811918334230528 w (by decide) (by decide)
  rw [show piLo 5 4602678819172646912 4612811918334230528 = 4607182418800017408 by decide +kernel, show piHi 5 4602678819172646912 4612811918334230528 = 4613937818241073152 by decide +kernel] at this
  exact this
theorem sk_6 (w : World) : Calls Tryd.prog 52 #[.agg #[.float .f64 4602678819172646911, .float .f64 4602678819172646911]] w (RetF 0 0 w) := by
  have := pst5_any 4602678819172646911 4602678819172646911 w (by decide) (by decide)
  rw [show piLo 5 4602678819172646911 4602678819172646911 = 0 by decide +kernel, show piHi 5 4602678819172646911 4602678819172646911 = 0 by decide +kernel] at this
  exact this
theorem sk_7 (w : World) : Calls Tryd.prog 53 #[.agg #[.float .f64 9218868437227405311, .float .f64 9218868437227405312]] w (RetF 9218868437227405311 9218868437227405312 w) := by
  have := pst4_any 9218868437227405311 9218868437227405312 w (by decide) (by decide)
  rw [show piLo 4 9218868437227405311 9218868437227405312 = 9218868437227405311 by decide +kernel, show piHi 4 9218868437227405311 9218868437227405312 = 9218868437227405312 by decide +kernel] at this
  exact this
theorem nF_17 (w : World) : (binOp .neq 61 (.agg #[.float .f64 0, .float .f64 4607182418800017408]) (.agg #[.float .f64 0, .float .f64 4607182418800017408])).run Tryd.prog w = .ok (.bool false) w := neqF' (by decide) (by decide) (by decide) (by decide) (by decide +kernel) w
theorem nF_18 (w : World) : (binOp .neq 61 (.agg #[.float .f64 13830554455654793216, .float .f64 4607182418800017408]) (.agg #[.float .f64 13830554455654793216, .float .f64 4607182418800017408])).run Tryd.prog w = .ok (.bool false) w := neqF' (by decide) (by decide) (by decide) (by decide) (by decide +kernel) w
theorem nF_19 (w : World) : (binOp .neq 61 (.agg #[.float .f64 0, .float .f64 4611686018427387904]) (.agg #[.float .f64 0, .float .f64 4611686018427387904])).run Tryd.prog w = .ok (.bool false) w := neqF' (by decide) (by decide) (by decide) (by decide) (by decide +kernel) w
theorem nF_20 (w : World) : (binOp .neq 61 (.agg #[.float .f64 4607182418800017408, .float .f64 4613937818241073152]) (.agg #[.float .f64 4607182418800017408, .float .f64 4613937818241073152])).run Tryd.prog w = .ok (.bool false) w := neqF' (by decide) (by decide) (by decide) (by decide) (by decide +kernel) w
theorem eF_21 (w : World) : (binOp .eql 61 (.agg #[.float .f64 4607182418800017408, .float .f64 4613937818241073152]) (.agg #[.float .f64 4607182418800017408, .float .f64 4613937818241073152])).run Tryd.prog w = .ok (.bool true) w := eqF' (by decide) (by decide) (by decide) (by decide) (by decide +kernel) w
theorem eF_22 (w : World) : (binOp .eql 61 (.agg #[.float .f64 0, .float .f64 0]) (.agg #[.float .f64 0, .float .f64 0])).run Tryd.prog w = .ok (.bool true) w := eqF' (by decide) (by decide) (by decide) (by decide) (by decide +kernel) w
theorem eF_23 (w : World) : (binOp .eql 61 (.agg #[.float .f64 9218868437227405311, .float .f64 9218868437227405312]) (.agg #[.float .f64 9218868437227405311, .float .f64 9218868437227405312])).run Tryd.prog w = .ok (.bool true) w := eqF' (by decide) (by decide) (by decide) (by decide) (by decide +kernel) w
theorem ug_0 (w : World) : (Go.Op.unary .neg (.float .f64 9218868437227405312)).run Tryd.prog w = .ok (.float .f64 18442240474082181120) w := by kernel_rfl
theorem ug_1 (w : World) : (Go.Op.unary .neg (.float .f64 1)).run Tryd.prog w = .ok (.float .f64 9223372036854775809) w := by kernel_rfl
set_option maxHeartbeats 16000000 in
theorem known7_walk (w : World) (hT : Tab w) : Calls Tryd.prog 7 #[] w fun e w' => e = .returned (.bool true) ∧ Ext w w' := by
  have HT := Lib.hid hT
  have hO := Own.start w
  have hf : True := trivial
  clear hT
  have qnF_4 := nF_4
  have qnF_5 := nF_5
  have qnF_6 := nF_6
  have qnF_7 := nF_7
  have qnF_8 := nF_8
  have qnF_9 := nF_9
  have qnF_10 := nF_10
  have qnF_11 := nF_11
  have qnF_12 := nF_12
  have qnF_13 := nF_13
  have qnF_14 := nF_14
  have qnF_15 := nF_15
  have qnF_16 := nF_16
  have qnF_17 := nF_17
  have qnF_18 := nF_18
  have qnF_19 := nF_19
  have qnF_20 := nF_20
  have qeF_21 := eF_21
  have qeF_22 := eF_22
  have qeF_23 := eF_23
  have qug_0 := ug_0
  have qug_1 := ug_1
  go_enter Tryd.func7, Tryd.ntmps7
  go_upto_region 5 with (first | (go_at_call 46; (with_reducible refine (of7_any _ _ _).mono ?_); rintro e w' ⟨rfl, hE'⟩; have hO := hO.ext hE'; clear hE'; clear hf; have hf := hO.cells; simp only [BC, CC, Nat.zero_add, Nat.reduceAdd, and_true] at hf) | (go_at_call 45; (with_reducible refine (inf_p7 _).mono ?_); rintro e w' ⟨rfl, rfl⟩) | ((with_reducible refine at_alloc ?_); refine own_alloc hO zero_iv rfl rfl ?_; clear hO; intro g4 w1 hO; clear hf; have hf := hO.cells; simp only [BC, CC, Nat.zero_add, Nat.reduceAdd, and_true] at hf) | ((with_reducible refine at_store (T := 61) ?_); refine own_store (T := 61) hO 0 rfl rfl rfl size_iv rfl rfl rfl ?_; clear hO; intro w2 hO; simp only [List.set_cons_zero, List.set_cons_succ, spl, List.take_succ_cons, List.take_zero, List.nil_append, List.cons_append, List.length_cons, List.length_nil, List.drop_succ_cons, List.drop_zero, List.drop_nil, Nat.reduceAdd, Nat.zero_add, List.append_nil] at hO; clear hf; have hf := hO.cells; simp only [BC, CC, Nat.zero_add, Nat.reduceAdd, and_true] at hf))
  go_upto_region 6 with (first | (go_at_call 46; (with_reducible refine (of7_any _ _ _).mono ?_); rintro e w' ⟨rfl, hE'⟩; have hO := hO.ext hE'; clear hE'; clear hf; have hf := hO.cells; simp only [BC, CC, Nat.zero_add, Nat.reduceAdd, and_true] at hf) | ((with_reducible refine at_alloc ?_); refine own_alloc hO zero_iv rfl rfl ?_; clear hO; intro g5 w3 hO; clear hf; have hf := hO.cells; simp only [BC, CC, Nat.zero_add, Nat.reduceAdd, and_true] at hf) | ((with_reducible refine at_store (T := 61) ?_); refine own_store (T := 61) hO 0 rfl rfl rfl size_iv rfl rfl rfl ?_; clear hO; intro w4 hO; simp only [List.set_cons_zero, List.set_cons_succ, spl, List.take_succ_cons, List.take_zero, List.nil_append, List.cons_append, List.length_cons, List.length_nil, List.drop_succ_cons, List.drop_zero, List.drop_nil, Nat.reduceAdd, Nat.zero_add, List.append_nil] at hO; clear hf; have hf := hO.cells; simp only [BC, CC, Nat.zero_add, Nat.reduceAdd, and_true] at hf))
  go_upto_region 8 with (first | (go_at_call 46; (with_reducible refine (of7_any _ _ _).mono ?_); rintro e w' ⟨rfl, hE'⟩; have hO := hO.ext hE'; clear hE'; clear hf; have hf := hO.cells; simp only [BC, CC, Nat.zero_add, Nat.reduceAdd, and_true] at hf) | (go_at_call 37; (with_reducible refine (pk_1 _ (HT.out.ext hO.toExt)).mono ?_); rintro e w' ⟨rfl, hE'⟩; have hO := hO.ext hE'; clear hE'; clear hf; have hf := hO.cells; simp only [BC, CC, Nat.zero_add, Nat.reduceAdd, and_true] at hf) | (go_at_call 37; (with_reducible refine (pk_2 _ (HT.out.ext hO.toExt)).mono ?_); rintro e w' ⟨rfl, hE'⟩; have hO := hO.ext hE'; clear hE'; clear hf; have hf := hO.cells; simp only [BC, CC, Nat.zero_add, Nat.reduceAdd, and_true] at hf) | (go_at_call 37; (with_reducible refine (pk_3 _ (HT.out.ext hO.toExt)).mono ?_); rintro e w' ⟨rfl, hE'⟩; have hO := hO.ext hE'; clear hE'; clear hf; have hf := hO.cells; simp only [BC, CC, Nat.zero_add, Nat.reduceAdd, and_true] at hf) | (go_at_call 37; (with_reducible refine (pk_4 _ (HT.out.ext hO.toExt)).mono ?_); rintro e w' ⟨rfl, hE'⟩; have hO := hO.ext hE'; clear hE'; clear hf; have hf := hO.cells; simp only [BC, CC, Nat.zero_add, Nat.reduceAdd, and_true] at hf) | (go_at_call 44; (with_reducible refine (lives7_any _ (HT.out.ext hO.toExt)).mono ?_); rintro e w' ⟨rfl, hE'⟩; have hO := hO.ext hE'; clear hE'; clear hf; have hf := hO.cells; simp only [BC, CC, Nat.zero_add, Nat.reduceAdd, and_true] at hf) | (go_at_call 45; (with_reducible refine (inf_p7 _).mono ?_); rintro e w' ⟨rfl, rfl⟩) | ((with_reducible refine at_alloc ?_); refine own_alloc hO zero_iv rfl rfl ?_; clear hO; intro gb w1 hO; clear hf; have hf := hO.cells; simp only [BC, CC, Nat.zero_add, Nat.reduceAdd, and_true] at hf) | ((with_reducible refine at_store (T := 61) ?_); refine own_store (T := 61) hO 0 rfl rfl rfl size_iv rfl rfl rfl ?_; clear hO; intro w2 hO; simp only [List.set_cons_zero, List.set_cons_succ, spl, List.take_succ_cons, List.take_zero, List.nil_append, List.cons_append, List.length_cons, List.length_nil, List.drop_succ_cons, List.drop_zero, List.drop_nil, Nat.reduceAdd, Nat.zero_add, List.append_nil] at hO; clear hf; have hf := hO.cells; simp only [BC, CC, Nat.zero_add, Nat.reduceAdd, and_true] at hf))
  obtain ⟨S, hS⟩ : ∃ S : World → Prop, S = Own w [⟨g5, 61, [.float .f64 18442240474082181120, .float .f64 9218868437227405312]⟩, ⟨g4, 61, [.float .f64 9218868437227405312, .float .f64 18442240474082181120]⟩] [] := ⟨_, rfl⟩
  have hSE : ∀ w w', S w → Ext w w' → S w' := fun w w' h1 h2 => by rw [hS] at h1 ⊢; exact h1.ext h2
  have hS1 : S w'.drew := by rw [hS]; exact hO.ext (Ext.refl w').drew
  have HS := Lib.hid hS
  clear hS hO hf
  obtain ⟨sp, hsp⟩ : ∃ sp : Nat → Sp, sp = ofList [det (.agg #[.float .f64 0, .float .f64 0]), det (.agg #[.float .f64 9218868437227405312, .float .f64 18442240474082181120]), det (.agg #[.float .f64 9218868437227405312, .float .f64 18442240474082181120]), det (.bool false), det (.bool false), det (.agg #[.float .f64 13839561654909534208, .float .f64 0]), det (.agg #[.float .f64 18442240474082181120, .float .f64 13803532857890570240]), det (.float .f64 9218868437227405312), det (.float .f64 18442240474082181120), det (.agg #[.float .f64 18442240474082181120, .float .f64 13803532857890570240]), det (.bool false), det (.bool false), det (.bool false), det (.float .f64 9218868437227405312), det (.agg #[.float .f64 4611686018427387904, .float .f64 9218868437227405312]), det (.agg #[.float .f64 0, .float .f64 4598175219545276416]), det (.agg #[.float .f64 0, .float .f64 4598175219545276416]), det (.bool false), det (.bool false), det (.bool false), det (.agg #[.float .f64 4621819117588971520, .float .f64 4621819117588971520]), det (.agg #[.float .f64 9218868437227405311, .float .f64 9218868437227405312]), det (.float .f64 9218868437227405311), det (.float .f64 9218868437227405312), det (.agg #[.float .f64 9218868437227405311, .float .f64 9218868437227405312]), det (.bool false), det (.bool false), det (.bool false), det (.float .f64 1), det (.float .f64 9223372036854775809), det (.float .f64 1), det (.agg #[.float .f64 9223372036854775809, .float .f64 1]), det (.agg #[.float .f64 9223372036854775809, .float .f64 1]), det (.float .f64 1), det (.float .f64 9223372036854775809), det (.float .f64 1), det (.agg #[.float .f64 9223372036854775809, .float .f64 1]), det (.bool false)] := ⟨_, rfl⟩
  have HSP := Lib.hid hsp
  clear hsp
  refine wp_region_loose 38 S sp (by kernel_rfl) (by kernel_rfl) hS1 hSE ?_
  simp only [List.take_succ_cons, List.take_zero, List.drop_succ_cons, List.drop_zero]
  refine wpX_step (fun K hK => ?_)
  go_simp
  refine StepY.det (by rw [HSP.out]; rfl) ?_ ?_
  · intro wz hz hF
    clear hz hF
    go_simp
    refine (of7_any _ _ _).mono ?_
    rintro e w2 ⟨rfl, hE1⟩
    exact ⟨_, rfl, rfl, hE1⟩
  refine hK _ _ ?_
  clear hK K
  refine wpX_step (fun K hK => ?_)
  go_simp
  refine StepY.det (by rw [HSP.out]; rfl) ?_ ?_
  · intro wz hz hF
    rw [HS.out] at hz
    have hT := HT.out.ext hz.toExt
    clear hz hF
    go_simp
    refine (pk_5 _ hT).mono ?_
    rintro e w2 ⟨rfl, hE1⟩
    exact ⟨_, rfl, rfl, hE1⟩
  refine hK _ _ ?_
  clear hK K
  refine wpX_step (fun K hK => ?_)
  go_simp
  refine StepY.det (by rw [HSP.out]; rfl) ?_ ?_
  · intro wz hz hF
    rw [HS.out] at hz
    have hf := hz.cells
    simp only [BC, CC, Nat.zero_add, Nat.reduceAdd, and_true] at hf
    clear hz hF
    go_simp
    exact ⟨rfl, Ext.refl _⟩
  refine hK _ _ ?_
  clear hK K
  refine wpX_step (fun K hK => ?_)
  go_simp
  refine StepY.det (by rw [HSP.out]; rfl) ?_ ?_
  · intro wz hz hF
    clear hz hF
    go_simp
    exact ⟨rfl, Ext.refl _⟩
  refine hK _ _ ?_
  clear hK K
  refine wpX_step (fun K hK => ?_)
  go_simp
  refine StepY.det (by rw [HSP.out]; rfl) ?_ ?_
  · intro wz hz hF
    clear hz hF
    go_simp
    exact ⟨rfl, Ext.refl _⟩
  refine hK _ _ ?_
  clear hK K
  refine wpX_step (fun K hK => ?_)
  go_simp
  refine StepY.det (by rw [HSP.out]; rfl) ?_ ?_
  · intro wz hz hF
    clear hz hF
    go_simp
    refine (of7_any _ _ _).mono ?_
    rintro e w2 ⟨rfl, hE1⟩
    exact ⟨_, rfl, rfl, hE1⟩
  refine hK _ _ ?_
  clear hK K
  refine wpX_step (fun K hK => ?_)
  go_simp
  refine StepY.det (by rw [HSP.out]; rfl) ?_ ?_
  · intro wz hz hF
    rw [HS.out] at hz
    have hT := HT.out.ext hz.toExt
    clear hz hF
    go_simp
    refine (pk_6 _ hT).mono ?_
    rintro e w2 ⟨rfl, hE1⟩
    exact ⟨_, rfl, rfl, hE1⟩
  refine hK _ _ ?_
  clear hK K
  refine wpX_step (fun K hK => ?_)
  go_simp
  refine StepY.det (by rw [HSP.out]; rfl) ?_ ?_
  · intro wz hz hF
    clear hz hF
    go_simp
    exact ⟨rfl, Ext.refl _⟩
  refine hK _ _ ?_
  clear hK K
  refine wpX_step (fun K hK => ?_)
  go_simp
  refine StepY.det (by rw [HSP.out]; rfl) ?_ ?_
  · intro wz hz hF
    clear hz hF
    go_simp
    exact ⟨rfl, Ext.refl _⟩
  refine hK _ _ ?_
  clear hK K
  refine wpX_step (fun K hK => ?_)
  go_simp
  refine StepY.det (by rw [HSP.out]; rfl) ?_ ?_
  · intro wz hz hF
    clear hz hF
    go_simp
    refine (of7_any _ _ _).mono ?_
    rintro e w2 ⟨rfl, hE1⟩
    exact ⟨_, rfl, rfl, hE1⟩
  refine hK _ _ ?_
  clear hK K
  refine wpX_step (fun K hK => ?_)
  go_simp
  refine StepY.det (by rw [HSP.out]; rfl) ?_ ?_
  · intro wz hz hF
    clear hz hF
    go_simp
    exact ⟨rfl, Ext.refl _⟩
  refine hK _ _ ?_
  clear hK K
  refine wpX_step (fun K hK => ?_)
  go_simp
  refine StepY.det (by rw [HSP.out]; rfl) ?_ ?_
  · intro wz hz hF
    clear hz hF
    go_simp
    exact ⟨rfl, Ext.refl _⟩
  refine hK _ _ ?_
  clear hK K
  refine wpX_step (fun K hK => ?_)
  go_simp
  refine StepY.det (by rw [HSP.out]; rfl) ?_ ?_
  · intro wz hz hF
    clear hz hF
    go_simp
    exact ⟨rfl, Ext.refl _⟩
  refine hK _ _ ?_
  clear hK K
  refine wpX_step (fun K hK => ?_)
  go_simp
  refine StepY.det (by rw [HSP.out]; rfl) ?_ ?_
  · intro wz hz hF
    clear hz hF
    go_simp
    exact ⟨rfl, Ext.refl _⟩
  refine hK _ _ ?_
  clear hK K
  refine wpX_step (fun K hK => ?_)
  go_simp
  refine StepY.det (by rw [HSP.out]; rfl) ?_ ?_
  · intro wz hz hF
    clear hz hF
    go_simp
    refine (of7_any _ _ _).mono ?_
    rintro e w2 ⟨rfl, hE1⟩
    exact ⟨_, rfl, rfl, hE1⟩
  refine hK _ _ ?_
  clear hK K
  refine wpX_step (fun K hK => ?_)
  go_simp
  refine StepY.det (by rw [HSP.out]; rfl) ?_ ?_
  · intro wz hz hF
    rw [HS.out] at hz
    have hT := HT.out.ext hz.toExt
    clear hz hF
    go_simp
    refine (pk_7 _ hT).mono ?_
    rintro e w2 ⟨rfl, hE1⟩
    exact ⟨_, rfl, rfl, hE1⟩
  refine hK _ _ ?_
  clear hK K
  refine wpX_step (fun K hK => ?_)
  go_simp
  refine StepY.det (by rw [HSP.out]; rfl) ?_ ?_
  · intro wz hz hF
    clear hz hF
    go_simp
    refine (of7_any _ _ _).mono ?_
    rintro e w2 ⟨rfl, hE1⟩
    exact ⟨_, rfl, rfl, hE1⟩
  refine hK _ _ ?_
  clear hK K
  refine wpX_step (fun K hK => ?_)
  go_simp
  refine StepY.det (by rw [HSP.out]; rfl) ?_ ?_
  · intro wz hz hF
    clear hz hF
    go_simp
    exact ⟨rfl, Ext.refl _⟩
  refine hK _ _ ?_
  clear hK K
  refine wpX_step (fun K hK => ?_)
  go_simp
  refine StepY.det (by rw [HSP.out]; rfl) ?_ ?_
  · intro wz hz hF
    clear hz hF
    go_simp
    exact ⟨rfl, Ext.refl _⟩
  refine hK _ _ ?_
  clear hK K
  refine wpX_step (fun K hK => ?_)
  go_simp
  refine StepY.det (by rw [HSP.out]; rfl) ?_ ?_
  · intro wz hz hF
    clear hz hF
    go_simp
    exact ⟨rfl, Ext.refl _⟩
  refine hK _ _ ?_
  clear hK K
  refine wpX_step (fun K hK => ?_)
  go_simp
  refine StepY.det (by rw [HSP.out]; rfl) ?_ ?_
  · intro wz hz hF
    clear hz hF
    go_simp
    refine (of7_any _ _ _).mono ?_
    rintro e w2 ⟨rfl, hE1⟩
    exact ⟨_, rfl, rfl, hE1⟩
  refine hK _ _ ?_
  clear hK K
  refine wpX_step (fun K hK => ?_)
  go_simp
  refine StepY.det (by rw [HSP.out]; rfl) ?_ ?_
  · intro wz hz hF
    rw [HS.out] at hz
    have hT := HT.out.ext hz.toExt
    clear hz hF
    go_simp
    refine (pk_8 _ hT).mono ?_
    rintro e w2 ⟨rfl, hE1⟩
    exact ⟨_, rfl, rfl, hE1⟩
  refine hK _ _ ?_
  clear hK K
  refine wpX_step (fun K hK => ?_)
  go_simp
  refine StepY.det (by rw [HSP.out]; rfl) ?_ ?_
  · intro wz hz hF
    clear hz hF
    go_simp
    exact ⟨rfl, Ext.refl _⟩
  refine hK _ _ ?_
  clear hK K
  refine wpX_step (fun K hK => ?_)
  go_simp
  refine StepY.det (by rw [HSP.out]; rfl) ?_ ?_
  · intro wz hz hF
    clear hz hF
    go_simp
    exact ⟨rfl, Ext.refl _⟩
  refine hK _ _ ?_
  clear hK K
  refine wpX_step (fun K hK => ?_)
  go_simp
  refine StepY.det (by rw [HSP.out]; rfl) ?_ ?_
  · intro wz hz hF
    clear hz hF
    go_simp
    refine (of7_any _ _ _).mono ?_
    rintro e w2 ⟨rfl, hE1⟩
    exact ⟨_, rfl, rfl, hE1⟩
  refine hK _ _ ?_
  clear hK K
  refine wpX_step (fun K hK => ?_)
  go_simp
  refine StepY.det (by rw [HSP.out]; rfl) ?_ ?_
  · intro wz hz hF
    clear hz hF
    go_simp
    exact ⟨rfl, Ext.refl _⟩
  refine hK _ _ ?_
  clear hK K
  refine wpX_step (fun K hK => ?_)
  go_simp
  refine StepY.det (by rw [HSP.out]; rfl) ?_ ?_
  · intro wz hz hF
    clear hz hF
    go_simp
    exact ⟨rfl, Ext.refl _⟩
  refine hK _ _ ?_
  clear hK K
  refine wpX_step (fun K hK => ?_)
  go_simp
  refine StepY.det (by rw [HSP.out]; rfl) ?_ ?_
  · intro wz hz hF
    clear hz hF
    go_simp
    exact ⟨rfl, Ext.refl _⟩
  refine hK _ _ ?_
  clear hK K
  refine wpX_step (fun K hK => ?_)
  go_simp
  refine StepY.det (by rw [HSP.out]; rfl) ?_ ?_
  · intro wz hz hF
    clear hz hF
    go_simp
    exact ⟨rfl, Ext.refl _⟩
  refine hK _ _ ?_
  clear hK K
  refine wpX_step (fun K hK => ?_)
  go_simp
  refine StepY.det (by rw [HSP.out]; rfl) ?_ ?_
  · intro wz hz hF
    clear hz hF
    go_simp
    exact ⟨rfl, Ext.refl _⟩
  refine hK _ _ ?_
  clear hK K
  refine wpX_step (fun K hK => ?_)
  go_simp
  refine StepY.det (by rw [HSP.out]; rfl) ?_ ?_
  · intro wz hz hF
    clear hz hF
    go_simp
    exact ⟨rfl, Ext.refl _⟩
  refine hK _ _ ?_
  clear hK K
  refine wpX_step (fun K hK => ?_)
  go_simp
  refine StepY.det (by rw [HSP.out]; rfl) ?_ ?_
  · intro wz hz hF
    clear hz hF
    go_simp
    refine (of7_any _ _ _).mono ?_
    rintro e w2 ⟨rfl, hE1⟩
    exact ⟨_, rfl, rfl, hE1⟩
  refine hK _ _ ?_
  clear hK K
  refine wpX_step (fun K hK => ?_)
  go_simp
  refine StepY.det (by rw [HSP.out]; rfl) ?_ ?_
  · intro wz hz hF
    rw [HS.out] at hz
    have hT := HT.out.ext hz.toExt
    clear hz hF
    go_simp
    refine (pk_9 _ hT).mono ?_
    rintro e w2 ⟨rfl, hE1⟩
    exact ⟨_, rfl, rfl, hE1⟩
  refine hK _ _ ?_
  clear hK K
  refine wpX_step (fun K hK => ?_)
  go_simp
  refine StepY.det (by rw [HSP.out]; rfl) ?_ ?_
  · intro wz hz hF
    clear hz hF
    go_simp
    exact ⟨rfl, Ext.refl _⟩
  refine hK _ _ ?_
  clear hK K
  refine wpX_step (fun K hK => ?_)
  go_simp
  refine StepY.det (by rw [HSP.out]; rfl) ?_ ?_
  · intro wz hz hF
    clear hz hF
    go_simp
    exact ⟨rfl, Ext.refl _⟩
  refine hK _ _ ?_
  clear hK K
  refine wpX_step (fun K hK => ?_)
  go_simp
  refine StepY.det (by rw [HSP.out]; rfl) ?_ ?_
  · intro wz hz hF
    clear hz hF
    go_simp
    exact ⟨rfl, Ext.refl _⟩
  refine hK _ _ ?_
  clear hK K
  refine wpX_step (fun K hK => ?_)
  go_simp
  refine StepY.det (by rw [HSP.out]; rfl) ?_ ?_
  · intro wz hz hF
    clear hz hF
    go_simp
    refine (of7_any _ _ _).mono ?_
    rintro e w2 ⟨rfl, hE1⟩
    exact ⟨_, rfl, rfl, hE1⟩
  refine hK _ _ ?_
  clear hK K
  refine wpX_step (fun K hK => ?_)
  go_simp
  refine StepY.det (by rw [HSP.out]; rfl) ?_ ?_
  · intro wz hz hF
    clear hz hF
    go_simp
    exact ⟨rfl, Ext.refl _⟩
  refine hK _ _ ?_
  clear hK K
  refine wpX_nil ?_
  intro wq hz hF
  clear hF
  rw [HS.out] at hz
  have hO := hz
  clear hz HS HSP
  have hf := hO.cells
  simp only [BC, CC, Nat.zero_add, Nat.reduceAdd, and_true] at hf
  go_upto_region 10 with fail
  obtain ⟨S, hS⟩ : ∃ S : World → Prop, S = Own w [⟨g5, 61, [.float .f64 18442240474082181120, .float .f64 9218868437227405312]⟩, ⟨g4, 61, [.float .f64 9218868437227405312, .float .f64 18442240474082181120]⟩] [] := ⟨_, rfl⟩
  have hSE : ∀ w w', S w → Ext w w' → S w' := fun w w' h1 h2 => by rw [hS] at h1 ⊢; exact h1.ext h2
  have hS1 : S wq.drew := by rw [hS]; exact hO.ext (Ext.refl wq).drew
  have HS := Lib.hid hS
  clear hS hO hf
  obtain ⟨sp, hsp⟩ : ∃ sp : Nat → Sp, sp = ofList [det (.agg #[.float .f64 4591870180066957722, .float .f64 4591870180066957722]), det (.agg #[.float .f64 4576918229304087675, .float .f64 4576918229304087676]), det (.agg #[.float .f64 4576918229304087675, .float .f64 4576918229304087676]), det (.bool false), det (.bool false), det (.agg #[.float .f64 4607182418800017408, .float .f64 4611686018427387904]), det (.agg #[.float .f64 18442240474082181120, .float .f64 9218868437227405312]), det (.agg #[.float .f64 18442240474082181120, .float .f64 9218868437227405312]), det (.bool false), det (.bool false), det (.bool false), det (.agg #[.float .f64 9218868437227405312, .float .f64 18442240474082181120]), det (.agg #[.float .f64 9218868437227405312, .float .f64 18442240474082181120]), det (.agg #[.float .f64 9218868437227405312, .float .f64 18442240474082181120]), det (.bool false)] := ⟨_, rfl⟩
  have HSP := Lib.hid hsp
  clear hsp
  refine wp_region_loose 15 S sp (by kernel_rfl) (by kernel_rfl) hS1 hSE ?_
  simp only [List.take_succ_cons, List.take_zero, List.drop_succ_cons, List.drop_zero]
  refine wpX_step (fun K hK => ?_)
  go_simp
  refine StepY.det (by rw [HSP.out]; rfl) ?_ ?_
  · intro wz hz hF
    clear hz hF
    go_simp
    refine (of7_any _ _ _).mono ?_
    rintro e w2 ⟨rfl, hE1⟩
    exact ⟨_, rfl, rfl, hE1⟩
  refine hK _ _ ?_
  clear hK K
  refine wpX_step (fun K hK => ?_)
  go_simp
  refine StepY.det (by rw [HSP.out]; rfl) ?_ ?_
  · intro wz hz hF
    rw [HS.out] at hz
    have hT := HT.out.ext hz.toExt
    clear hz hF
    go_simp
    refine (pk_10 _ hT).mono ?_
    rintro e w2 ⟨rfl, hE1⟩
    exact ⟨_, rfl, rfl, hE1⟩
  refine hK _ _ ?_
  clear hK K
  refine wpX_step (fun K hK => ?_)
  go_simp
  refine StepY.det (by rw [HSP.out]; rfl) ?_ ?_
  · intro wz hz hF
    clear hz hF
    go_simp
    refine (of7_any _ _ _).mono ?_
    rintro e w2 ⟨rfl, hE1⟩
    exact ⟨_, rfl, rfl, hE1⟩
  refine hK _ _ ?_
  clear hK K
  refine wpX_step (fun K hK => ?_)
  go_simp
  refine StepY.det (by rw [HSP.out]; rfl) ?_ ?_
  · intro wz hz hF
    clear hz hF
    go_simp
    exact ⟨rfl, Ext.refl _⟩
  refine hK _ _ ?_
  clear hK K
  refine wpX_step (fun K hK => ?_)
  go_simp
  refine StepY.det (by rw [HSP.out]; rfl) ?_ ?_
  · intro wz hz hF
    clear hz hF
    go_simp
    exact ⟨rfl, Ext.refl _⟩
  refine hK _ _ ?_
  clear hK K
  refine wpX_step (fun K hK => ?_)
  go_simp
  refine StepY.det (by rw [HSP.out]; rfl) ?_ ?_
  · intro wz hz hF
    clear hz hF
    go_simp
    refine (of7_any _ _ _).mono ?_
    rintro e w2 ⟨rfl, hE1⟩
    exact ⟨_, rfl, rfl, hE1⟩
  refine hK _ _ ?_
  clear hK K
  refine wpX_step (fun K hK => ?_)
  go_simp
  refine StepY.det (by rw [HSP.out]; rfl) ?_ ?_
  · intro wz hz hF
    rw [HS.out] at hz
    have hT := HT.out.ext hz.toExt
    clear hz hF
    go_simp
    refine (pk_11 _ hT).mono ?_
    rintro e w2 ⟨rfl, hE1⟩
    exact ⟨_, rfl, rfl, hE1⟩
  refine hK _ _ ?_
  clear hK K
  refine wpX_step (fun K hK => ?_)
  go_simp
  refine StepY.det (by rw [HSP.out]; rfl) ?_ ?_
  · intro wz hz hF
    rw [HS.out] at hz
    have hf := hz.cells
    simp only [BC, CC, Nat.zero_add, Nat.reduceAdd, and_true] at hf
    clear hz hF
    go_simp
    exact ⟨rfl, Ext.refl _⟩
  refine hK _ _ ?_
  clear hK K
  refine wpX_step (fun K hK => ?_)
  go_simp
  refine StepY.det (by rw [HSP.out]; rfl) ?_ ?_
  · intro wz hz hF
    clear hz hF
    go_simp
    exact ⟨rfl, Ext.refl _⟩
  refine hK _ _ ?_
  clear hK K
  refine wpX_step (fun K hK => ?_)
  go_simp
  refine StepY.det (by rw [HSP.out]; rfl) ?_ ?_
  · intro wz hz hF
    clear hz hF
    go_simp
    exact ⟨rfl, Ext.refl _⟩
  refine hK _ _ ?_
  clear hK K
  refine wpX_step (fun K hK => ?_)
  go_simp
  refine StepY.det (by rw [HSP.out]; rfl) ?_ ?_
  · intro wz hz hF
    clear hz hF
    go_simp
    exact ⟨rfl, Ext.refl _⟩
  refine hK _ _ ?_
  clear hK K
  refine wpX_step (fun K hK => ?_)
  go_simp
  refine StepY.det (by rw [HSP.out]; rfl) ?_ ?_
  · intro wz hz hF
    rw [HS.out] at hz
    have hf := hz.cells
    simp only [BC, CC, Nat.zero_add, Nat.reduceAdd, and_true] at hf
    clear hz hF
    go_simp
    exact ⟨rfl, Ext.refl _⟩
  refine hK _ _ ?_
  clear hK K
  refine wpX_step (fun K hK => ?_)
  go_simp
  refine StepY.det (by rw [HSP.out]; rfl) ?_ ?_
  · intro wz hz hF
    rw [HS.out] at hz
    have hT := HT.out.ext hz.toExt
    clear hz hF
    go_simp
    refine (pk_12 _ hT).mono ?_
    rintro e w2 ⟨rfl, hE1⟩
    exact ⟨_, rfl, rfl, hE1⟩
  refine hK _ _ ?_
  clear hK K
  refine wpX_step (fun K hK => ?_)
  go_simp
  refine StepY.det (by rw [HSP.out]; rfl) ?_ ?_
  · intro wz hz hF
    rw [HS.out] at hz
    have hf := hz.cells
    simp only [BC, CC, Nat.zero_add, Nat.reduceAdd, and_true] at hf
    clear hz hF
    go_simp
    exact ⟨rfl, Ext.refl _⟩
  refine hK _ _ ?_
  clear hK K
  refine wpX_step (fun K hK => ?_)
  go_simp
  refine StepY.det (by rw [HSP.out]; rfl) ?_ ?_
  · intro wz hz hF
    clear hz hF
    go_simp
    exact ⟨rfl, Ext.refl _⟩
  refine hK _ _ ?_
  clear hK K
  refine wpX_nil ?_
  intro wq hz hF
  clear hF
  rw [HS.out] at hz
  have hO := hz
  clear hz HS HSP
  have hf := hO.cells
  simp only [BC, CC, Nat.zero_add, Nat.reduceAdd, and_true] at hf
  go_wp2_with (first | (go_at_call 46; (with_reducible refine (of7_any _ _ _).mono ?_); rintro e w' ⟨rfl, hE'⟩; have hO := hO.ext hE'; clear hE'; clear hf; have hf := hO.cells; simp only [BC, CC, Nat.zero_add, Nat.reduceAdd, and_true] at hf) | (go_at_call 47; (with_reducible refine (sk_1 _).mono ?_); rintro e w' ⟨rfl, hE'⟩; have hO := hO.ext hE'; clear hE'; clear hf; have hf := hO.cells; simp only [BC, CC, Nat.zero_add, Nat.reduceAdd, and_true] at hf) | (go_at_call 48; (with_reducible refine (sk_2 _).mono ?_); rintro e w' ⟨rfl, hE'⟩; have hO := hO.ext hE'; clear hE'; clear hf; have hf := hO.cells; simp only [BC, CC, Nat.zero_add, Nat.reduceAdd, and_true] at hf) | (go_at_call 49; (with_reducible refine (sk_3 _).mono ?_); rintro e w' ⟨rfl, hE'⟩; have hO := hO.ext hE'; clear hE'; clear hf; have hf := hO.cells; simp only [BC, CC, Nat.zero_add, Nat.reduceAdd, and_true] at hf) | (go_at_call 50; (with_reducible refine (sk_4 _).mono ?_); rintro e w' ⟨rfl, hE'⟩; have hO := hO.ext hE'; clear hE'; clear hf; have hf := hO.cells; simp only [BC, CC, Nat.zero_add, Nat.reduceAdd, and_true] at hf) | (go_at_call 51; (with_reducible refine (mn_0 _).mono ?_); rintro e w' ⟨rfl, hE'⟩; have hO := hO.ext hE'; clear hE'; clear hf; have hf := hO.cells; simp only [BC, CC, Nat.zero_add, Nat.reduceAdd, and_true] at hf) | (go_at_call 52; (with_reducible refine (sk_5 _).mono ?_); rintro e w' ⟨rfl, hE'⟩; have hO := hO.ext hE'; clear hE'; clear hf; have hf := hO.cells; simp only [BC, CC, Nat.zero_add, Nat.reduceAdd, and_true] at hf) | (go_at_call 52; (with_reducible refine (sk_6 _).mono ?_); rintro e w' ⟨rfl, hE'⟩; have hO := hO.ext hE'; clear hE'; clear hf; have hf := hO.cells; simp only [BC, CC, Nat.zero_add, Nat.reduceAdd, and_true] at hf) | (go_at_call 53; (with_reducible refine (sk_7 _).mono ?_); rintro e w' ⟨rfl, hE'⟩; have hO := hO.ext hE'; clear hE'; clear hf; have hf := hO.cells; simp only [BC, CC, Nat.zero_add, Nat.reduceAdd, and_true] at hf))
  go_ret
  exact ⟨rfl, hO.toExt⟩
end Go.Proofs.YtadijoeeaineaaaDoor
