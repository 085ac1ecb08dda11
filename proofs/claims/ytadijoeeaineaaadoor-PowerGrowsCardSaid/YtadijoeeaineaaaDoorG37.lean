/-
  Chapter 7's lives, and the walk through PowerKnown. Conditions: those that each theorem names.
-/
import Derived.Test.YtadijoeeaineaaaDoorG32
import Derived.Test.YtadijoeeaineaaaDoorG34
import Derived.Test.YtadijoeeaineaaaDoorG36
import Derived.Test.YtadijoeeaineaaaDoorG28
namespace Go.Proofs.YtadijoeeaineaaaDoor
open Go.RowKit Nm Rn
set_option maxRecDepth 100000
set_option linter.unusedVariables false
set_option linter.unusedSimpArgs false

theorem neqF {a b c d : Nat} (ha : a < 18446744073709551616) (hb : b < 18446744073709551616) (hc : c < 18446744073709551616) (hd : d < 18446744073709551616) (w : World) : (binOp .neq 61 (.agg #[.float .f64 a, .float .f64 b]) (.agg #[.float .f64 c, .float .f64 d])).run Tryd.prog w = .ok (.bool (!(eqB a c && eqB b d))) w := by
  rw [← fo_eq ha hc, ← fo_eq hb hd]
  cases h1 : (FloatKind.f64.format.order a c == some .eq) <;> cases h2 : (FloatKind.f64.format.order b d == some .eq) <;> go_simp <;> simp [h1, h2]
theorem neqF' {a b c d : Nat} (ha : a < 18446744073709551616) (hb : b < 18446744073709551616) (hc : c < 18446744073709551616) (hd : d < 18446744073709551616) {E : Bool} (h : (!(eqB a c && eqB b d)) = E) (w : World) : (binOp .neq 61 (.agg #[.float .f64 a, .float .f64 b]) (.agg #[.float .f64 c, .float .f64 d])).run Tryd.prog w = .ok (.bool E) w := by rw [neqF ha hb hc hd, h]
set_option maxHeartbeats 1000000 in
theorem of7_any (a b : Nat) (w : World) : Calls Tryd.prog 46 #[.float .f64 a, .float .f64 b] w (RetF a b w) := by
  have hO := Own.start w
  have hf : True := trivial
  go_enter Tryd.func46, Tryd.ntmps46
  go_wp2_with (first | ((with_reducible refine at_alloc ?_); refine own_alloc hO zero_iv rfl rfl ?_; clear hO; intro g w1 hO; clear hf; have hf := hO.cells; simp only [BC, CC, Nat.zero_add, Nat.reduceAdd, and_true] at hf) | ((with_reducible refine at_store (T := 61) ?_); refine own_store (T := 61) hO 0 rfl rfl rfl size_iv rfl rfl rfl ?_; clear hO; intro w2 hO; simp only [List.set_cons_zero, List.set_cons_succ, spl, List.take_succ_cons, List.take_zero, List.nil_append, List.cons_append, List.length_cons, List.length_nil, List.drop_succ_cons, List.drop_zero, List.drop_nil, Nat.reduceAdd, Nat.zero_add, List.append_nil] at hO; clear hf; have hf := hO.cells; simp only [BC, CC, Nat.zero_add, Nat.reduceAdd, and_true] at hf))
  exact own_ret hO 0 rfl rfl rfl agg_iv size_iv rfl ⟨rfl, hO.toExt⟩

theorem eF_0 (w : World) : (binOp .eql 61 (.agg #[.float .f64 13844065254536904704, .float .f64 4628293042053316608]) (.agg #[.float .f64 13844065254536904704, .float .f64 4628293042053316608])).run Tryd.prog w = .ok (.bool true) w := eqF' (by decide) (by decide) (by decide) (by decide) (by decide +kernel) w
theorem eF_1 (w : World) : (binOp .eql 61 (.agg #[.float .f64 0, .float .f64 4613937818241073152]) (.agg #[.float .f64 0, .float .f64 4613937818241073152])).run Tryd.prog w = .ok (.bool true) w := eqF' (by decide) (by decide) (by decide) (by decide) (by decide +kernel) w
theorem eF_2 (w : World) : (binOp .eql 61 (.agg #[.float .f64 0, .float .f64 4611686018427387904]) (.agg #[.float .f64 0, .float .f64 4611686018427387904])).run Tryd.prog w = .ok (.bool true) w := eqF' (by decide) (by decide) (by decide) (by decide) (by decide +kernel) w
theorem eF_3 (w : World) : (binOp .eql 61 (.agg #[.float .f64 4611686018427387904, .float .f64 4616189618054758400]) (.agg #[.float .f64 4611686018427387904, .float .f64 4616189618054758400])).run Tryd.prog w = .ok (.bool true) w := eqF' (by decide) (by decide) (by decide) (by decide) (by decide +kernel) w
theorem ab_0 (w : World) : Calls Tryd.prog 56 #[.agg #[.float .f64 13837309855095848960, .float .f64 4611686018427387904]] w (RetF 0 4613937818241073152 w) := by
  have := pabs_any 13837309855095848960 4611686018427387904 w (by decide) (by decide)
  rw [show abLo 13837309855095848960 4611686018427387904 = 0 by decide +kernel, show abHi 13837309855095848960 4611686018427387904 = 4613937818241073152 by decide +kernel] at this
  exact this
theorem sk_0 (w : World) : Calls Tryd.prog 53 #[.agg #[.float .f64 4602678819172646912, .float .f64 4612811918334230528]] w (RetF 0 4611686018427387904 w) := by
  have := pst4_any 4602678819172646912 4612811918334230528 w (by decide) (by decide)
  rw [show piLo 4 4602678819172646912 4612811918334230528 = 0 by decide +kernel, show piHi 4 4602678819172646912 4612811918334230528 = 4611686018427387904 by decide +kernel] at this
  exact this
theorem mx_0 (w : World) : Calls Tryd.prog 57 #[.agg #[.float .f64 4607182418800017408, .float .f64 4616189618054758400], .agg #[.float .f64 4611686018427387904, .float .f64 4613937818241073152]] w (RetF 4611686018427387904 4616189618054758400 w) := by
  have := pmax_any 4607182418800017408 4616189618054758400 4611686018427387904 4613937818241073152 w (by decide) (by decide) (by decide) (by decide)
  rw [show maxLo 4607182418800017408 4616189618054758400 4611686018427387904 4613937818241073152 = 4611686018427387904 by decide +kernel, show maxHi 4607182418800017408 4616189618054758400 4611686018427387904 4613937818241073152 = 4616189618054758400 by decide +kernel] at this
  exact this
set_option maxHeartbeats 4000000 in
theorem lives7_any (w : World) (hT : Tab w) : Calls Tryd.prog 44 #[] w fun e w' => e = .returned (.bool true) ∧ Ext w w' := by
  have HT := Lib.hid hT
  have hX := Ext.refl w
  clear hT
  have qeF_0 := eF_0
  have qeF_1 := eF_1
  have qeF_2 := eF_2
  have qeF_3 := eF_3
  go_enter Tryd.func44, Tryd.ntmps44
  go_wp2_with (first | (go_at_call 46; (with_reducible refine (of7_any _ _ _).mono ?_); rintro e w' ⟨rfl, hE'⟩; have hX := hX.trans hE'; clear hE') | (go_at_call 37; (with_reducible refine (pk_0 _ (HT.out.ext hX)).mono ?_); rintro e w' ⟨rfl, hE'⟩; have hX := hX.trans hE'; clear hE') | (go_at_call 56; (with_reducible refine (ab_0 _).mono ?_); rintro e w' ⟨rfl, hE'⟩; have hX := hX.trans hE'; clear hE') | (go_at_call 53; (with_reducible refine (sk_0 _).mono ?_); rintro e w' ⟨rfl, hE'⟩; have hX := hX.trans hE'; clear hE') | (go_at_call 57; (with_reducible refine (mx_0 _).mono ?_); rintro e w' ⟨rfl, hE'⟩; have hX := hX.trans hE'; clear hE'))
  go_ret
  exact ⟨rfl, hX⟩

end Go.Proofs.YtadijoeeaineaaaDoor

/-
  The walk through PowerGrows. Conditions: those that each theorem names.
-/
namespace Go.Proofs.YtadijoeeaineaaaDoor
open Go.RowKit Nm Rn
set_option maxRecDepth 100000
set_option linter.unusedVariables false
set_option linter.unusedSimpArgs false

set_option maxHeartbeats 16000000 in
theorem grows_walk (x1 x2 y1 y2 z1 z2 : Nat) (n : Int) (w : World) (hx1 : x1 < 18446744073709551616) (hx2 : x2 < 18446744073709551616) (hy1 : y1 < 18446744073709551616) (hy2 : y2 < 18446744073709551616) (hz1 : z1 < 18446744073709551616) (hz2 : z2 < 18446744073709551616) (hT : Tab w) :
    Calls Tryd.prog 8 #[.agg #[.int .u64 (x1 : Int), .int .u64 (x2 : Int)], .agg #[.int .u64 (y1 : Int), .int .u64 (y2 : Int)], .agg #[.int .u64 (z1 : Int), .int .u64 (z2 : Int)], .int .i64 n] w fun e w' => e = .returned (.bool true) ∧ Ext w w' := by
  have HT := Lib.hid hT
  have HLV := Lib.hid (fun w h => lives7_any w h)
  have hin := hull_in hx1 hx2 hy1 hy2
  have HHU := Lib.hid (fun w => hull7_any x1 x2 y1 y2 w hx1 hx2 hy1 hy2)
  have HRD := Lib.hid (fun w => read6_any x1 x2 w hx1 hx2)
  have HIZ := Lib.hid (fun w => in7_any z1 z2 w)
  obtain ⟨B1, hB1⟩ : ∃ B, B = huLo x1 x2 y1 y2 := ⟨_, rfl⟩
  obtain ⟨B2, hB2⟩ : ∃ B, B = huHi x1 x2 y1 y2 := ⟨_, rfl⟩
  obtain ⟨s1, hs1⟩ : ∃ B, B = rdLo x1 x2 := ⟨_, rfl⟩
  obtain ⟨s2, hs2⟩ : ∃ B, B = rdHi x1 x2 := ⟨_, rfl⟩
  rw [← hB1, ← hB2] at HHU hin
  rw [← hs1, ← hs2] at HRD hin
  clear hB1 hB2 hs1 hs2
  have HIB := Lib.hid (fun w => in7_any B1 B2 w)
  have HIS := Lib.hid (fun w => in7_any s1 s2 w)
  obtain ⟨ls1, ls2, lB1, lB2⟩ : s1 < 18446744073709551616 ∧ s2 < 18446744073709551616 ∧ B1 < 18446744073709551616 ∧ B2 < 18446744073709551616 := by
    cases hin with
    | ee => decide
    | ep h => exact ⟨by decide, by decide, h.la, h.lb⟩
    | pp hs hb _ _ => exact ⟨hs.la, hs.lb, hb.la, hb.lb⟩
  obtain ⟨a1, a2, b1, b2, HP1, HP2, HW1⟩ : ∃ a1 a2 b1 b2, Hid (∀ w, Tab w → Calls Tryd.prog 37 #[.agg #[.float .f64 s1, .float .f64 s2], .int .i64 n] w (RetF a1 a2 w)) ∧ Hid (∀ w, Tab w → Calls Tryd.prog 37 #[.agg #[.float .f64 B1, .float .f64 B2], .int .i64 n] w (RetF b1 b2 w)) ∧ Hid (∀ w, Calls Tryd.prog 55 #[.agg #[.float .f64 a1, .float .f64 a2], .agg #[.float .f64 b1, .float .f64 b2]] w fun e w' => e = .returned (.bool true) ∧ Ext w w') :=
    ⟨_, _, _, _, Lib.hid fun w h => pown_any s1 s2 n w h ls1 ls2, Lib.hid fun w h => pown_any B1 B2 n w h lB1 lB2, Lib.hid fun w => within7_any _ _ _ _ w (pwn_inc hin n)⟩
  obtain ⟨c1, c2, d1, d2, HA1, HA2, HW2⟩ : ∃ a1 a2 b1 b2, Hid (∀ w, Calls Tryd.prog 56 #[.agg #[.float .f64 s1, .float .f64 s2]] w (RetF a1 a2 w)) ∧ Hid (∀ w, Calls Tryd.prog 56 #[.agg #[.float .f64 B1, .float .f64 B2]] w (RetF b1 b2 w)) ∧ Hid (∀ w, Calls Tryd.prog 55 #[.agg #[.float .f64 a1, .float .f64 a2], .agg #[.float .f64 b1, .float .f64 b2]] w fun e w' => e = .returned (.bool true) ∧ Ext w w') :=
    ⟨_, _, _, _, Lib.hid fun w => pabs_any s1 s2 w ls1 ls2, Lib.hid fun w => pabs_any B1 B2 w lB1 lB2, Lib.hid fun w => within7_any _ _ _ _ w (ab_inc hin)⟩
  obtain ⟨e1, e2, f1, f2, HM1, HM2, HW3⟩ : ∃ a1 a2 b1 b2, Hid (∀ w, Calls Tryd.prog 51 #[.agg #[.float .f64 s1, .float .f64 s2], .agg #[.float .f64 z1, .float .f64 z2]] w (RetF a1 a2 w)) ∧ Hid (∀ w, Calls Tryd.prog 51 #[.agg #[.float .f64 B1, .float .f64 B2], .agg #[.float .f64 z1, .float .f64 z2]] w (RetF b1 b2 w)) ∧ Hid (∀ w, Calls Tryd.prog 55 #[.agg #[.float .f64 a1, .float .f64 a2], .agg #[.float .f64 b1, .float .f64 b2]] w fun e w' => e = .returned (.bool true) ∧ Ext w w') :=
    ⟨_, _, _, _, Lib.hid fun w => pmin_any s1 s2 z1 z2 w ls1 ls2 hz1 hz2, Lib.hid fun w => pmin_any B1 B2 z1 z2 w lB1 lB2 hz1 hz2, Lib.hid fun w => within7_any _ _ _ _ w (min_inc hin hz1 hz2)⟩
  obtain ⟨i1, i2, j1, j2, HX1, HX2, HW4⟩ : ∃ a1 a2 b1 b2, Hid (∀ w, Calls Tryd.prog 57 #[.agg #[.float .f64 z1, .float .f64 z2], .agg #[.float .f64 s1, .float .f64 s2]] w (RetF a1 a2 w)) ∧ Hid (∀ w, Calls Tryd.prog 57 #[.agg #[.float .f64 z1, .float .f64 z2], .agg #[.float .f64 B1, .float .f64 B2]] w (RetF b1 b2 w)) ∧ Hid (∀ w, Calls Tryd.prog 55 #[.agg #[.float .f64 a1, .float .f64 a2], .agg #[.float .f64 b1, .float .f64 b2]] w fun e w' => e = .returned (.bool true) ∧ Ext w w') :=
    ⟨_, _, _, _, Lib.hid fun w => pmax_any z1 z2 s1 s2 w hz1 hz2 ls1 ls2, Lib.hid fun w => pmax_any z1 z2 B1 B2 w hz1 hz2 lB1 lB2, Lib.hid fun w => within7_any _ _ _ _ w (max_inc hin hz1 hz2)⟩
  have HST : Hid (∀ k : Nat, k < 6 → ∃ a1 a2 b1 b2 : Nat, (∀ w, Calls Tryd.prog 58 #[.int .i64 (k : Int), .agg #[.float .f64 s1, .float .f64 s2]] w (RetF a1 a2 w)) ∧ (∀ w, Calls Tryd.prog 58 #[.int .i64 (k : Int), .agg #[.float .f64 B1, .float .f64 B2]] w (RetF b1 b2 w)) ∧ (∀ w, Calls Tryd.prog 55 #[.agg #[.float .f64 a1, .float .f64 a2], .agg #[.float .f64 b1, .float .f64 b2]] w fun e w' => e = .returned (.bool true) ∧ Ext w w')) := Lib.hid (fun k hk =>
    ⟨_, _, _, _, fun w => step_all k s1 s2 w hk ls1 ls2, fun w => step_all k B1 B2 w hk lB1 lB2, fun w => within7_any _ _ _ _ w (pi_inc hin k)⟩)
  clear hx1 hx2 hy1 hy2 hz1 hz2 hT hin ls1 ls2 lB1 lB2
  have hO := Own.start w
  have hf : True := trivial
  go_enter Tryd.func8, Tryd.ntmps8
  go_wp2_with (first | ((with_reducible refine at_box ?_); refine own_box (cs := [.int .u64 (x1 : Int), .int .u64 (x2 : Int)]) hO rfl rfl ?_; clear hO; intro gx wa hO; clear hf; have hf := hO.cells; simp only [BC, CC, Nat.zero_add, Nat.reduceAdd, and_true] at hf) | ((with_reducible refine at_box ?_); refine own_box (cs := [.int .u64 (y1 : Int), .int .u64 (y2 : Int)]) hO rfl rfl ?_; clear hO; intro gy wb hO; clear hf; have hf := hO.cells; simp only [BC, CC, Nat.zero_add, Nat.reduceAdd, and_true] at hf) | ((with_reducible refine at_box ?_); refine own_box (cs := [.int .u64 (z1 : Int), .int .u64 (z2 : Int)]) hO rfl rfl ?_; clear hO; intro gz wc hO; clear hf; have hf := hO.cells; simp only [BC, CC, Nat.zero_add, Nat.reduceAdd, and_true] at hf))
  refine (HHU.out _).mono ?_
  rintro e w1 ⟨rfl, hE1⟩
  have hO := hO.ext hE1
  clear hE1
  clear hf
  have hf := hO.cells
  simp only [BC, CC, Nat.zero_add, Nat.reduceAdd, and_true] at hf
  go_wp2_with fail
  refine (HIB.out _).mono ?_
  rintro e w2 ⟨rfl, hE1⟩
  have hO := hO.ext hE1
  clear hE1
  clear hf
  have hf := hO.cells
  simp only [BC, CC, Nat.zero_add, Nat.reduceAdd, and_true] at hf
  go_wp2_with (first | ((with_reducible refine at_alloc ?_); refine own_alloc hO zero_iv rfl rfl ?_; clear hO; intro g9 wd hO; clear hf; have hf := hO.cells; simp only [BC, CC, Nat.zero_add, Nat.reduceAdd, and_true] at hf) | ((with_reducible refine at_store (T := 61) ?_); refine own_store (T := 61) hO 0 rfl rfl rfl size_iv rfl rfl rfl ?_; clear hO; intro we hO; simp only [List.set_cons_zero, List.set_cons_succ, spl, List.take_succ_cons, List.take_zero, List.nil_append, List.cons_append, List.length_cons, List.length_nil, List.drop_succ_cons, List.drop_zero, List.drop_nil, Nat.reduceAdd, Nat.zero_add, List.append_nil] at hO; clear hf; have hf := hO.cells; simp only [BC, CC, Nat.zero_add, Nat.reduceAdd, and_true] at hf))
  refine (HRD.out _).mono ?_
  rintro e w3 ⟨rfl, hE1⟩
  have hO := hO.ext hE1
  clear hE1
  clear hf
  have hf := hO.cells
  simp only [BC, CC, Nat.zero_add, Nat.reduceAdd, and_true] at hf
  go_wp2_with fail
  refine (HIS.out _).mono ?_
  rintro e w4 ⟨rfl, hE1⟩
  have hO := hO.ext hE1
  clear hE1
  clear hf
  have hf := hO.cells
  simp only [BC, CC, Nat.zero_add, Nat.reduceAdd, and_true] at hf
  go_wp2_with (first | ((with_reducible refine at_alloc ?_); refine own_alloc hO zero_iv rfl rfl ?_; clear hO; intro gs wf hO; clear hf; have hf := hO.cells; simp only [BC, CC, Nat.zero_add, Nat.reduceAdd, and_true] at hf) | ((with_reducible refine at_store (T := 61) ?_); refine own_store (T := 61) hO 0 rfl rfl rfl size_iv rfl rfl rfl ?_; clear hO; intro wg hO; simp only [List.set_cons_zero, List.set_cons_succ, spl, List.take_succ_cons, List.take_zero, List.nil_append, List.cons_append, List.length_cons, List.length_nil, List.drop_succ_cons, List.drop_zero, List.drop_nil, Nat.reduceAdd, Nat.zero_add, List.append_nil] at hO; clear hf; have hf := hO.cells; simp only [BC, CC, Nat.zero_add, Nat.reduceAdd, and_true] at hf))
  refine (HIZ.out _).mono ?_
  rintro e w5 ⟨rfl, hE1⟩
  have hO := hO.ext hE1
  clear hE1
  clear hf
  have hf := hO.cells
  simp only [BC, CC, Nat.zero_add, Nat.reduceAdd, and_true] at hf
  go_upto_region 4 with (first | ((with_reducible refine at_alloc ?_); refine own_alloc hO zero_iv rfl rfl ?_; clear hO; intro go_ wh hO; clear hf; have hf := hO.cells; simp only [BC, CC, Nat.zero_add, Nat.reduceAdd, and_true] at hf) | ((with_reducible refine at_store (T := 61) ?_); refine own_store (T := 61) hO 0 rfl rfl rfl size_iv rfl rfl rfl ?_; clear hO; intro wi hO; simp only [List.set_cons_zero, List.set_cons_succ, spl, List.take_succ_cons, List.take_zero, List.nil_append, List.cons_append, List.length_cons, List.length_nil, List.drop_succ_cons, List.drop_zero, List.drop_nil, Nat.reduceAdd, Nat.zero_add, List.append_nil] at hO; clear hf; have hf := hO.cells; simp only [BC, CC, Nat.zero_add, Nat.reduceAdd, and_true] at hf))
  obtain ⟨S, hS⟩ : ∃ S : World → Prop, S = Own w [⟨go_, 61, [.float .f64 z1, .float .f64 z2]⟩, ⟨gs, 61, [.float .f64 s1, .float .f64 s2]⟩, ⟨g9, 61, [.float .f64 B1, .float .f64 B2]⟩, ⟨gz, 53, [.int .u64 (z1 : Int), .int .u64 (z2 : Int)]⟩, ⟨gy, 53, [.int .u64 (y1 : Int), .int .u64 (y2 : Int)]⟩, ⟨gx, 53, [.int .u64 (x1 : Int), .int .u64 (x2 : Int)]⟩] [] := ⟨_, rfl⟩
  have hSE : ∀ w w', S w → Ext w w' → S w' := fun w w' h1 h2 => by rw [hS] at h1 ⊢; exact h1.ext h2
  have hS1 : S wi.drew := by rw [hS]; exact hO.ext (Ext.refl wi).drew
  have HS := Lib.hid hS
  clear hS hO hf
  obtain ⟨sp, hsp⟩ : ∃ sp : Nat → Sp, sp = ofList [det (.agg #[.float .f64 s1, .float .f64 s2]), det (.int .i64 n), det (.agg #[.float .f64 a1, .float .f64 a2]), det (.agg #[.float .f64 B1, .float .f64 B2]), det (.int .i64 n), det (.agg #[.float .f64 b1, .float .f64 b2]), det (.bool true), det (.bool false), det (.bool false), det (.agg #[.float .f64 s1, .float .f64 s2]), det (.agg #[.float .f64 c1, .float .f64 c2]), det (.agg #[.float .f64 B1, .float .f64 B2]), det (.agg #[.float .f64 d1, .float .f64 d2]), det (.bool true), det (.bool false), det (.bool false), det (.bool false), det (.agg #[.float .f64 s1, .float .f64 s2]), det (.agg #[.float .f64 z1, .float .f64 z2]), det (.agg #[.float .f64 e1, .float .f64 e2]), det (.agg #[.float .f64 B1, .float .f64 B2]), det (.agg #[.float .f64 z1, .float .f64 z2]), det (.agg #[.float .f64 f1, .float .f64 f2]), det (.bool true), det (.bool false), det (.bool false), det (.bool false), det (.agg #[.float .f64 z1, .float .f64 z2]), det (.agg #[.float .f64 s1, .float .f64 s2]), det (.agg #[.float .f64 i1, .float .f64 i2]), det (.agg #[.float .f64 z1, .float .f64 z2]), det (.agg #[.float .f64 B1, .float .f64 B2]), det (.agg #[.float .f64 j1, .float .f64 j2]), det (.bool true), det (.bool false)] := ⟨_, rfl⟩
  have HSP := Lib.hid hsp
  clear hsp
  refine wp_region_loose 35 S sp (by kernel_rfl) (by kernel_rfl) hS1 hSE ?_
  simp only [List.take_succ_cons, List.take_zero, List.drop_succ_cons, List.drop_zero]
  refine wpX_step (fun K hK => ?_)
  go_simp
  refine StepY.det (by rw [HSP.out]; rfl) ?_ ?_
  · intro wz hz hF
    rw [HS.out] at hz
    have hf := hz.cells
    simp only [BC, CC, Nat.zero_add, Nat.reduceAdd, and_true] at hf
    clear hz hF
    go_simp
    exact ⟨rfl, Ext.refl _⟩
  refine hK _ _ ?_
  clear hK K
  refine wpX_step (fun K hK => ?_)
  go_simp
  refine StepY.det (by rw [HSP.out]; rfl) ?_ ?_
  · intro wz hz hF
    clear hz hF
    go_simp
    exact ⟨rfl, Ext.refl _⟩
  refine hK _ _ ?_
  clear hK K
  refine wpX_step (fun K hK => ?_)
  go_simp
  refine StepY.det (by rw [HSP.out]; rfl) ?_ ?_
  · intro wz hz hF
    rw [HS.out] at hz
    have hT := HT.out.ext hz.toExt
    clear hz hF
    go_simp
    refine (HP1.out _ hT).mono ?_
    rintro e w2 ⟨rfl, hE1⟩
    exact ⟨_, rfl, rfl, hE1⟩
  refine hK _ _ ?_
  clear hK K
  refine wpX_step (fun K hK => ?_)
  go_simp
  refine StepY.det (by rw [HSP.out]; rfl) ?_ ?_
  · intro wz hz hF
    rw [HS.out] at hz
    have hf := hz.cells
    simp only [BC, CC, Nat.zero_add, Nat.reduceAdd, and_true] at hf
    clear hz hF
    go_simp
    exact ⟨rfl, Ext.refl _⟩
  refine hK _ _ ?_
  clear hK K
  refine wpX_step (fun K hK => ?_)
  go_simp
  refine StepY.det (by rw [HSP.out]; rfl) ?_ ?_
  · intro wz hz hF
    clear hz hF
    go_simp
    exact ⟨rfl, Ext.refl _⟩
  refine hK _ _ ?_
  clear hK K
  refine wpX_step (fun K hK => ?_)
  go_simp
  refine StepY.det (by rw [HSP.out]; rfl) ?_ ?_
  · intro wz hz hF
    rw [HS.out] at hz
    have hT := HT.out.ext hz.toExt
    clear hz hF
    go_simp
    refine (HP2.out _ hT).mono ?_
    rintro e w2 ⟨rfl, hE1⟩
    exact ⟨_, rfl, rfl, hE1⟩
  refine hK _ _ ?_
  clear hK K
  refine wpX_step (fun K hK => ?_)
  go_simp
  refine StepY.det (by rw [HSP.out]; rfl) ?_ ?_
  · intro wz hz hF
    clear hz hF
    go_simp
    refine (HW1.out _).mono ?_
    rintro e w2 ⟨rfl, hE1⟩
    exact ⟨_, rfl, rfl, hE1⟩
  refine hK _ _ ?_
  clear hK K
  refine wpX_step (fun K hK => ?_)
  go_simp
  refine StepY.det (by rw [HSP.out]; rfl) ?_ ?_
  · intro wz hz hF
    clear hz hF
    go_simp
    exact ⟨rfl, Ext.refl _⟩
  refine hK _ _ ?_
  clear hK K
  refine wpX_step (fun K hK => ?_)
  go_simp
  refine StepY.det (by rw [HSP.out]; rfl) ?_ ?_
  · intro wz hz hF
    clear hz hF
    go_simp
    exact ⟨rfl, Ext.refl _⟩
  refine hK _ _ ?_
  clear hK K
  refine wpX_step (fun K hK => ?_)
  go_simp
  refine StepY.det (by rw [HSP.out]; rfl) ?_ ?_
  · intro wz hz hF
    rw [HS.out] at hz
    have hf := hz.cells
    simp only [BC, CC, Nat.zero_add, Nat.reduceAdd, and_true] at hf
    clear hz hF
    go_simp
    exact ⟨rfl, Ext.refl _⟩
  refine hK _ _ ?_
  clear hK K
  refine wpX_step (fun K hK => ?_)
  go_simp
  refine StepY.det (by rw [HSP.out]; rfl) ?_ ?_
  · intro wz hz hF
    clear hz hF
    go_simp
    refine (HA1.out _).mono ?_
    rintro e w2 ⟨rfl, hE1⟩
    exact ⟨_, rfl, rfl, hE1⟩
  refine hK _ _ ?_
  clear hK K
  refine wpX_step (fun K hK => ?_)
  go_simp
  refine StepY.det (by rw [HSP.out]; rfl) ?_ ?_
  · intro wz hz hF
    rw [HS.out] at hz
    have hf := hz.cells
    simp only [BC, CC, Nat.zero_add, Nat.reduceAdd, and_true] at hf
    clear hz hF
    go_simp
    exact ⟨rfl, Ext.refl _⟩
  refine hK _ _ ?_
  clear hK K
  refine wpX_step (fun K hK => ?_)
  go_simp
  refine StepY.det (by rw [HSP.out]; rfl) ?_ ?_
  · intro wz hz hF
    clear hz hF
    go_simp
    refine (HA2.out _).mono ?_
    rintro e w2 ⟨rfl, hE1⟩
    exact ⟨_, rfl, rfl, hE1⟩
  refine hK _ _ ?_
  clear hK K
  refine wpX_step (fun K hK => ?_)
  go_simp
  refine StepY.det (by rw [HSP.out]; rfl) ?_ ?_
  · intro wz hz hF
    clear hz hF
    go_simp
    refine (HW2.out _).mono ?_
    rintro e w2 ⟨rfl, hE1⟩
    exact ⟨_, rfl, rfl, hE1⟩
  refine hK _ _ ?_
  clear hK K
  refine wpX_step (fun K hK => ?_)
  go_simp
  refine StepY.det (by rw [HSP.out]; rfl) ?_ ?_
  · intro wz hz hF
    clear hz hF
    go_simp
    exact ⟨rfl, Ext.refl _⟩
  refine hK _ _ ?_
  clear hK K
  refine wpX_step (fun K hK => ?_)
  go_simp
  refine StepY.det (by rw [HSP.out]; rfl) ?_ ?_
  · intro wz hz hF
    clear hz hF
    go_simp
    exact ⟨rfl, Ext.refl _⟩
  refine hK _ _ ?_
  clear hK K
  refine wpX_step (fun K hK => ?_)
  go_simp
  refine StepY.det (by rw [HSP.out]; rfl) ?_ ?_
  · intro wz hz hF
    clear hz hF
    go_simp
    exact ⟨rfl, Ext.refl _⟩
  refine hK _ _ ?_
  clear hK K
  refine wpX_step (fun K hK => ?_)
  go_simp
  refine StepY.det (by rw [HSP.out]; rfl) ?_ ?_
  · intro wz hz hF
    rw [HS.out] at hz
    have hf := hz.cells
    simp only [BC, CC, Nat.zero_add, Nat.reduceAdd, and_true] at hf
    clear hz hF
    go_simp
    exact ⟨rfl, Ext.refl _⟩
  refine hK _ _ ?_
  clear hK K
  refine wpX_step (fun K hK => ?_)
  go_simp
  refine StepY.det (by rw [HSP.out]; rfl) ?_ ?_
  · intro wz hz hF
    rw [HS.out] at hz
    have hf := hz.cells
    simp only [BC, CC, Nat.zero_add, Nat.reduceAdd, and_true] at hf
    clear hz hF
    go_simp
    exact ⟨rfl, Ext.refl _⟩
  refine hK _ _ ?_
  clear hK K
  refine wpX_step (fun K hK => ?_)
  go_simp
  refine StepY.det (by rw [HSP.out]; rfl) ?_ ?_
  · intro wz hz hF
    clear hz hF
    go_simp
    refine (HM1.out _).mono ?_
    rintro e w2 ⟨rfl, hE1⟩
    exact ⟨_, rfl, rfl, hE1⟩
  refine hK _ _ ?_
  clear hK K
  refine wpX_step (fun K hK => ?_)
  go_simp
  refine StepY.det (by rw [HSP.out]; rfl) ?_ ?_
  · intro wz hz hF
    rw [HS.out] at hz
    have hf := hz.cells
    simp only [BC, CC, Nat.zero_add, Nat.reduceAdd, and_true] at hf
    clear hz hF
    go_simp
    exact ⟨rfl, Ext.refl _⟩
  refine hK _ _ ?_
  clear hK K
  refine wpX_step (fun K hK => ?_)
  go_simp
  refine StepY.det (by rw [HSP.out]; rfl) ?_ ?_
  · intro wz hz hF
    rw [HS.out] at hz
    have hf := hz.cells
    simp only [BC, CC, Nat.zero_add, Nat.reduceAdd, and_true] at hf
    clear hz hF
    go_simp
    exact ⟨rfl, Ext.refl _⟩
  refine hK _ _ ?_
  clear hK K
  refine wpX_step (fun K hK => ?_)
  go_simp
  refine StepY.det (by rw [HSP.out]; rfl) ?_ ?_
  · intro wz hz hF
    clear hz hF
    go_simp
    refine (HM2.out _).mono ?_
    rintro e w2 ⟨rfl, hE1⟩
    exact ⟨_, rfl, rfl, hE1⟩
  refine hK _ _ ?_
  clear hK K
  refine wpX_step (fun K hK => ?_)
  go_simp
  refine StepY.det (by rw [HSP.out]; rfl) ?_ ?_
  · intro wz hz hF
    clear hz hF
    go_simp
    refine (HW3.out _).mono ?_
    rintro e w2 ⟨rfl, hE1⟩
    exact ⟨_, rfl, rfl, hE1⟩
  refine hK _ _ ?_
  clear hK K
  refine wpX_step (fun K hK => ?_)
  go_simp
  refine StepY.det (by rw [HSP.out]; rfl) ?_ ?_
  · intro wz hz hF
    clear hz hF
    go_simp
    exact ⟨rfl, Ext.refl _⟩
  refine hK _ _ ?_
  clear hK K
  refine wpX_step (fun K hK => ?_)
  go_simp
  refine StepY.det (by rw [HSP.out]; rfl) ?_ ?_
  · intro wz hz hF
    clear hz hF
    go_simp
    exact ⟨rfl, Ext.refl _⟩
  refine hK _ _ ?_
  clear hK K
  refine wpX_step (fun K hK => ?_)
  go_simp
  refine StepY.det (by rw [HSP.out]; rfl) ?_ ?_
  · intro wz hz hF
    clear hz hF
    go_simp
    exact ⟨rfl, Ext.refl _⟩
  refine hK _ _ ?_
  clear hK K
  refine wpX_step (fun K hK => ?_)
  go_simp
  refine StepY.det (by rw [HSP.out]; rfl) ?_ ?_
  · intro wz hz hF
    rw [HS.out] at hz
    have hf := hz.cells
    simp only [BC, CC, Nat.zero_add, Nat.reduceAdd, and_true] at hf
    clear hz hF
    go_simp
    exact ⟨rfl, Ext.refl _⟩
  refine hK _ _ ?_
  clear hK K
  refine wpX_step (fun K hK => ?_)
  go_simp
  refine StepY.det (by rw [HSP.out]; rfl) ?_ ?_
  · intro wz hz hF
    rw [HS.out] at hz
    have hf := hz.cells
    simp only [BC, CC, Nat.zero_add, Nat.reduceAdd, and_true] at hf
    clear hz hF
    go_simp
    exact ⟨rfl, Ext.refl _⟩
  refine hK _ _ ?_
  clear hK K
  refine wpX_step (fun K hK => ?_)
  go_simp
  refine StepY.det (by rw [HSP.out]; rfl) ?_ ?_
  · intro wz hz hF
    clear hz hF
    go_simp
    refine (HX1.out _).mono ?_
    rintro e w2 ⟨rfl, hE1⟩
    exact ⟨_, rfl, rfl, hE1⟩
  refine hK _ _ ?_
  clear hK K
  refine wpX_step (fun K hK => ?_)
  go_simp
  refine StepY.det (by rw [HSP.out]; rfl) ?_ ?_
  · intro wz hz hF
    rw [HS.out] at hz
    have hf := hz.cells
    simp only [BC, CC, Nat.zero_add, Nat.reduceAdd, and_true] at hf
    clear hz hF
    go_simp
    exact ⟨rfl, Ext.refl _⟩
  refine hK _ _ ?_
  clear hK K
  refine wpX_step (fun K hK => ?_)
  go_simp
  refine StepY.det (by rw [HSP.out]; rfl) ?_ ?_
  · intro wz hz hF
    rw [HS.out] at hz
    have hf := hz.cells
    simp only [BC, CC, Nat.zero_add, Nat.reduceAdd, and_true] at hf
    clear hz hF
    go_simp
    exact ⟨rfl, Ext.refl _⟩
  refine hK _ _ ?_
  clear hK K
  refine wpX_step (fun K hK => ?_)
  go_simp
  refine StepY.det (by rw [HSP.out]; rfl) ?_ ?_
  · intro wz hz hF
    clear hz hF
    go_simp
    refine (HX2.out _).mono ?_
    rintro e w2 ⟨rfl, hE1⟩
    exact ⟨_, rfl, rfl, hE1⟩
  refine hK _ _ ?_
  clear hK K
  refine wpX_step (fun K hK => ?_)
  go_simp
  refine StepY.det (by rw [HSP.out]; rfl) ?_ ?_
  · intro wz hz hF
    clear hz hF
    go_simp
    refine (HW4.out _).mono ?_
    rintro e w2 ⟨rfl, hE1⟩
    exact ⟨_, rfl, rfl, hE1⟩
  refine hK _ _ ?_
  clear hK K
  refine wpX_step (fun K hK => ?_)
  go_simp
  refine StepY.det (by rw [HSP.out]; rfl) ?_ ?_
  · intro wz hz hF
    clear hz hF
    go_simp
    exact ⟨rfl, Ext.refl _⟩
  refine hK _ _ ?_
  clear hK K
  refine wpX_nil ?_
  intro wq hz hF
  clear hF
  rw [HS.out] at hz
  have hO := hz
  clear hz HS HSP
  have hf := hO.cells
  simp only [BC, CC, Nat.zero_add, Nat.reduceAdd, and_true] at hf
  go_wp2_with fail
  obtain ⟨S, hS⟩ : ∃ S : World → Prop, S = Own w [⟨go_, 61, [.float .f64 z1, .float .f64 z2]⟩, ⟨gs, 61, [.float .f64 s1, .float .f64 s2]⟩, ⟨g9, 61, [.float .f64 B1, .float .f64 B2]⟩, ⟨gz, 53, [.int .u64 (z1 : Int), .int .u64 (z2 : Int)]⟩, ⟨gy, 53, [.int .u64 (y1 : Int), .int .u64 (y2 : Int)]⟩, ⟨gx, 53, [.int .u64 (x1 : Int), .int .u64 (x2 : Int)]⟩] [] := ⟨_, rfl⟩
  have HSE : Hid (∀ w w', S w → Ext w w' → S w') := Lib.hid (fun w w' h1 h2 => by rw [hS] at h1 ⊢; exact h1.ext h2)
  rw [← hS] at hO
  have HS := Lib.hid hS
  clear hS hf HHU HRD HIZ HIB HIS HP1 HP2 HW1 HA1 HA2 HW2 HM1 HM2 HW3 HX1 HX2 HW4
  go_loopw [12] (fun kv wr => ∃ k : Nat, kv = .int .i64 (k : Int) ∧ k ≤ 6 ∧ S wr) (fun kv _ => 6 - (intOf kv).toNat)
  case atStart => exact ⟨0, rfl, by omega, hO⟩
  case round =>
    obtain ⟨k, rfl, hk6, hSr⟩ := hrel
    clear hO
    by_cases hk : k < 6
    · obtain ⟨p1, p2, q1, q2, h1, h2, h3⟩ := HST.out k hk
      have H1 := Lib.hid h1
      have H2 := Lib.hid h2
      have H3 := Lib.hid h3
      clear h1 h2 h3
      go_wp2_with fail
      have hS1 := HSE.out _ _ hSr (Ext.refl _).drew
      clear hSr
      obtain ⟨sp, hsp⟩ : ∃ sp : Nat → Sp, sp = ofList [det (.int .i64 (k : Int)), det (.agg #[.float .f64 s1, .float .f64 s2]), det (.agg #[.float .f64 p1, .float .f64 p2]), det (.int .i64 (k : Int)), det (.agg #[.float .f64 B1, .float .f64 B2]), det (.agg #[.float .f64 q1, .float .f64 q2]), det (.bool true)] := ⟨_, rfl⟩
      have HSP := Lib.hid hsp
      clear hsp
      refine wp_region_loose 7 S sp (by kernel_rfl) (by kernel_rfl) hS1 HSE.out ?_
      simp only [List.take_succ_cons, List.take_zero, List.drop_succ_cons, List.drop_zero]
      iterate 7
        refine wpX_step (fun K hK => ?_)
        go_simp
        refine StepY.det (by rw [HSP.out]; rfl) ?_ ?_
        · intro wz hz hF
          rw [HS.out] at hz
          have hf := hz.cells
          simp only [BC, CC, Nat.zero_add, Nat.reduceAdd, and_true] at hf
          clear hz hF
          go_simp
          first
          | exact ⟨rfl, Ext.refl _⟩
          | ((with_reducible refine (H1.out _).mono ?_)
             rintro e w5 ⟨rfl, hE5⟩
             exact ⟨_, rfl, rfl, hE5⟩)
          | ((with_reducible refine (H2.out _).mono ?_)
             rintro e w5 ⟨rfl, hE5⟩
             exact ⟨_, rfl, rfl, hE5⟩)
          | ((with_reducible refine (H3.out _).mono ?_)
             rintro e w5 ⟨rfl, hE5⟩
             exact ⟨_, rfl, rfl, hE5⟩)
        refine hK _ _ ?_
        clear hK K
      refine wpX_nil ?_
      intro w5 hz5 hF
      clear hF hS1 HSP
      go_wp2
      go_roundw
      case rel => exact ⟨k + 1, by go_num, by omega, hz5⟩
      case measure => simp [intOf]; omega
    · have hke : k = 6 := by omega
      subst hke
      have hE := (HS.out ▸ hSr).toExt
      go_wp2_with fail
      refine (HLV.out _ (HT.out.ext hE)).mono ?_
      rintro e w6 ⟨rfl, hE1⟩
      have hEE := hE.trans hE1
      clear hE hE1 hSr
      go_wp2
      go_ret
      exact ⟨rfl, hEE⟩
end Go.Proofs.YtadijoeeaineaaaDoor
