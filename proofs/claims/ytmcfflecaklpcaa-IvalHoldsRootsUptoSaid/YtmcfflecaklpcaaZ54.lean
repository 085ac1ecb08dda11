/-
  The contracts of the law's awake and of its ratio. Conditions: those that each theorem names.
-/
import Derived.Test.YtmcfflecaklpcaaZ52
import Derived.Test.YtmcfflecaklpcaaZ39
import Derived.Test.YtmcfflecaklpcaaZ53
import Derived.Test.YtmcfflecaklpcaaZ25
import Derived.Test.YtmcfflecaklpcaaZ40
import Derived.Test.YtmcfflecaklpcaaZ37
namespace Go.Proofs.Ytmcfflecaklpcaa
open Go.RowKit Nm Rn
set_option maxRecDepth 100000
set_option linter.unusedVariables false
set_option linter.unusedSimpArgs false

section
variable {P : Program} {a : Act} {w w0 : World} {L : List Bx} {W : List Sw} {T : TypeId} {d e : Tmp}
/-- A struct in a box of the call's own is answered, and one value more. -/
theorem own_ret_and {fn : Func} {R : Ending → World → Prop} (hO : Own w0 L W w) (i : Nat) {g : Nat} {t : TypeId} {cs : List Value} {v : Value} (hb : L[i]? = some ⟨g, t, cs⟩) (hr : fn.results = #[.cell d T, .tmp e]) (ha : a.tmps.getD d undef = .pointer (some ⟨g, 0, none⟩)) (hv : a.tmps.getD e undef = v)
    (hag : ∀ w, (isAgg T).run P w = .ok true w) (hsz : ∀ w, (sizeOf T).run P w = .ok cs.length w) (hd : a.defers = []) (hR : R (.returned (.tuple #[.agg cs.toArray, v])) w) : bodyPost P fn R .ret a w := by
  have h1 := run_loadBox (P := P) (hO.blk i hb) (hag w) (hsz w)
  refine bodyPost_ret (v := .tuple #[.agg cs.toArray, v]) ?_ hd hR
  rw [Array.getD_eq_getD_getElem?] at ha hv
  simp [results, hr, ha, hv, asAddr, h1]
end

set_option maxHeartbeats 1000000 in
theorem awake_any (w : World) :
    Calls Try.prog 30 #[] w fun e w' => e = .returned (.bool true) ∧ Ext w w' := by
  have HX := Lib.hid (fun w => iread_any 4591870180066957722 4591870180066957722 w (by omega) (by omega))
  have HY := Lib.hid (fun w => iread_any 4596373779694328218 4596373779694328218 w (by omega) (by omega))
  rw [show rdLo 4591870180066957722 4591870180066957722 = 4591870180066957722 by decide +kernel, show rdHi 4591870180066957722 4591870180066957722 = 4591870180066957722 by decide +kernel] at HX
  rw [show rdLo 4596373779694328218 4596373779694328218 = 4596373779694328218 by decide +kernel, show rdHi 4596373779694328218 4596373779694328218 = 4596373779694328218 by decide +kernel] at HY
  have HE1 := Lib.hid (fun w => iemp_any 4591870180066957722 4591870180066957722 w (by omega) (by omega))
  have HE2 := Lib.hid (fun w => iemp_any 4596373779694328218 4596373779694328218 w (by omega) (by omega))
  rw [show ltB 4591870180066957722 4591870180066957722 = false by decide +kernel] at HE1
  rw [show ltB 4596373779694328218 4596373779694328218 = false by decide +kernel] at HE2
  have a1 : addR (-1) 4591870180066957722 4596373779694328218 = 4599075939470750515 := by decide +kernel
  have a2 : addR 1 4591870180066957722 4596373779694328218 = 4599075939470750516 := by decide +kernel
  have HA := Lib.hid (fun w => iadd_f 4591870180066957722 4591870180066957722 4596373779694328218 4596373779694328218 _ _ _ _ 4599075939470750515 4599075939470750516 w HX HY HE1 HE2
    (Lib.hid fun w => (radd_any_ (-1) _ _ w (by omega) (by omega)).mono fun e w' ⟨r, h1, _, h3, h4⟩ => ⟨by rw [h1, cn_eq (h3.trans a1) (by decide +kernel)], h4⟩)
    (Lib.hid fun w => (radd_any_ 1 _ _ w (by omega) (by omega)).mono fun e w' ⟨r, h1, _, h3, h4⟩ => ⟨by rw [h1, cn_eq (h3.trans a2) (by decide +kernel)], h4⟩))
  have hq : ∀ w, (binOp .eql 52 (.agg #[.float .f64 4599075939470750515, .float .f64 4599075939470750516]) (.agg #[.float .f64 4599075939470750515, .float .f64 4599075939470750516])).run Try.prog w = .ok (.bool true) w := fun _ => by kernel_rfl
  clear a1 a2
  go_enter Try.func30, Try.ntmps30
  go_wp2_with fail
  refine (HA.out _).mono ?_
  rintro e w2 ⟨rfl, hE⟩
  go_wp2
  go_ret
  exact ⟨by first | rfl | simp, hE⟩

/-- What ratio answers, where the divisor is not 0. -/
def RetRT (s : Bool) (N D : Nat) (w : World) (e : Ending) (w' : World) : Prop :=
  ∃ A l c B k d, e = .returned (.tuple #[.agg #[.bool s, .slice A l c, .slice B k d], .bool true]) ∧ RatAt w' A l c B k d N D ∧ Ext w w'
/-- .. where it is. -/
def RetRF (w : World) (e : Ending) (w' : World) : Prop :=
  ∃ s A l c B k d N D, e = .returned (.tuple #[.agg #[.bool s, .slice A l c, .slice B k d], .bool false]) ∧ RatAt w' A l c B k d N D ∧ Ext w w'

set_option maxHeartbeats 2000000 in
theorem ratio6_z (s : Bool) (A : Option Addr) (l c : Nat) (xs : List Nat) (B : Option Addr) (k d : Nat) (ys : List Nat) (w : World) (h1 : Wds w A l c xs) (h2 : Wds w B k d ys) (hl : l ≤ 274877906944) (hk : k ≤ 274877906944) (hy : nv ys = 0) :
    Calls Try.prog 31 #[.agg #[.bool s, .slice A l c, .slice B k d]] w (RetRF w) := by
  have HLN : Hid (∀ w, Wds w B k d ys → Calls Try.prog 78 #[.slice B k d] w fun e w' => e = .returned (.int .i64 (bl (nv ys) : Int)) ∧ w = w') := Lib.hid (fun w h => len_any B k d ys w h (by omega))
  obtain ⟨v, hv⟩ : ∃ v : Int, v = (bl (nv ys) : Int) := ⟨_, rfl⟩
  rw [← hv] at HLN
  have hv0 : (v == 0) = true := by rw [hv, hy]; decide
  have HIN := Lib.hid (fun w => int_any 0 w (by omega))
  rw [show ((0 : Nat) : Int) = 0 from rfl] at HIN
  obtain ⟨N, hN⟩ : ∃ N, N = fracN 0 1 0 := ⟨_, rfl⟩
  obtain ⟨D, hD⟩ : ∃ D, D = fracD 0 1 0 := ⟨_, rfl⟩
  rw [← hN, ← hD] at HIN
  clear hN hD hv
  have hO := ((Own.start w).add h1).add h2
  have hf : True := trivial
  clear h1 h2 hl hk hy
  go_enter Try.func31, Try.ntmps31
  go_wp2_with (first | ((with_reducible refine at_box ?_); refine own_box (cs := [.bool s, .slice A l c, .slice B k d]) hO rfl rfl ?_; clear hO; intro ga wa hO; clear hf; have hf := hO.cells; simp only [BC, CC, Nat.zero_add, Nat.reduceAdd, and_true] at hf) | ((with_reducible refine at_alloc ?_); refine own_alloc hO zero_rat rfl rfl ?_; clear hO; intro g wb hO; clear hf; have hf := hO.cells; simp only [BC, CC, Nat.zero_add, Nat.reduceAdd, and_true] at hf))
  refine (HLN.out _ (hO.wd 0 rfl)).mono ?_
  rintro e w' ⟨rfl, rfl⟩
  go_wp2_with fail
  refine (HIN.out _).mono ?_
  rintro e w2 ⟨A1, l1, c1, B1, k1, d1, rfl, hW1, hW2, hE1⟩
  have hO := ((hO.ext hE1).add hW1).add hW2
  clear hW1 hW2 hE1
  clear hf
  have hf := hO.cells
  simp only [BC, CC, Nat.zero_add, Nat.reduceAdd, and_true] at hf
  go_wp2_with ((with_reducible refine at_store (T := 35) ?_); refine own_store (T := 35) hO 0 rfl rfl rfl size_rat rfl rfl rfl ?_; clear hO; intro wc hO; simp only [List.set_cons_zero, List.set_cons_succ, spl, List.take_succ_cons, List.take_zero, List.nil_append, List.cons_append, List.length_cons, List.length_nil, List.drop_succ_cons, List.drop_zero, List.drop_nil, Nat.reduceAdd, Nat.zero_add, List.append_nil] at hO; clear hf; have hf := hO.cells; simp only [BC, CC, Nat.zero_add, Nat.reduceAdd, and_true] at hf)
  exact own_ret_and hO 0 rfl rfl rfl rfl agg_rat size_rat rfl ⟨_, _, _, _, _, _, _, _, _, rfl, ⟨hO.wd 1 rfl, hO.wd 0 rfl⟩, hO.toExt⟩

set_option maxHeartbeats 2000000 in
theorem ratio6_f (s : Bool) (A : Option Addr) (l c : Nat) (xs : List Nat) (B : Option Addr) (k d : Nat) (ys : List Nat) (w : World) (h1 : Wds w A l c xs) (h2 : Wds w B k d ys) (hl : l ≤ 274877906944) (hk : k ≤ 274877906944) (hy : nv ys ≠ 0) :
    Calls Try.prog 31 #[.agg #[.bool s, .slice A l c, .slice B k d]] w (RetRT (s && decide (nv xs ≠ 0)) (fracN (nv xs) (nv ys) 0) (fracD (nv xs) (nv ys) 0) w) := by
  have HLN : Hid (∀ w, Wds w B k d ys → Calls Try.prog 78 #[.slice B k d] w fun e w' => e = .returned (.int .i64 (bl (nv ys) : Int)) ∧ w = w') := Lib.hid (fun w h => len_any B k d ys w h (by omega))
  obtain ⟨v, hv⟩ : ∃ v : Int, v = (bl (nv ys) : Int) := ⟨_, rfl⟩
  rw [← hv] at HLN
  have hv0 : (v == 0) = false := by
    rw [beq_eq_false_iff_ne, hv]
    intro h
    have h0 : bl (nv ys) = 0 := by omega
    exact hy (bl_eq_zero.1 h0)
  have HFR : Hid (∀ w, Wds w A l c xs → Wds w B k d ys → Calls Try.prog 55 #[.bool s, .slice A l c, .slice B k d, .int .i64 0] w (RetR (s && decide (nv xs ≠ 0)) (fracN (nv xs) (nv ys) 0) (fracD (nv xs) (nv ys) 0) w)) := Lib.hid (fun w h1 h2 => frac_any s A l c xs B k d ys 0 w h1 hl h2 hk (by omega) (by omega) (by omega))
  obtain ⟨N, hN⟩ : ∃ N, N = fracN (nv xs) (nv ys) 0 := ⟨_, rfl⟩
  obtain ⟨D, hD⟩ : ∃ D, D = fracD (nv xs) (nv ys) 0 := ⟨_, rfl⟩
  obtain ⟨s1, hs1⟩ : ∃ b, b = (s && decide (nv xs ≠ 0)) := ⟨_, rfl⟩
  rw [← hN, ← hD, ← hs1] at HFR ⊢
  clear hN hD hs1 hv
  have hO := ((Own.start w).add h1).add h2
  have hf : True := trivial
  clear h1 h2 hl hk hy
  go_enter Try.func31, Try.ntmps31
  go_wp2_with (first | ((with_reducible refine at_box ?_); refine own_box (cs := [.bool s, .slice A l c, .slice B k d]) hO rfl rfl ?_; clear hO; intro ga wa hO; clear hf; have hf := hO.cells; simp only [BC, CC, Nat.zero_add, Nat.reduceAdd, and_true] at hf) | ((with_reducible refine at_alloc ?_); refine own_alloc hO zero_rat rfl rfl ?_; clear hO; intro g wb hO; clear hf; have hf := hO.cells; simp only [BC, CC, Nat.zero_add, Nat.reduceAdd, and_true] at hf))
  refine (HLN.out _ (hO.wd 0 rfl)).mono ?_
  rintro e w' ⟨rfl, rfl⟩
  go_wp2_with fail
  refine (HFR.out _ (hO.wd 1 rfl) (hO.wd 0 rfl)).mono ?_
  rintro e w2 ⟨A1, l1, c1, B1, k1, d1, rfl, hW1, hW2, hE1⟩
  have hO := ((hO.ext hE1).add hW1).add hW2
  clear hW1 hW2 hE1
  clear hf
  have hf := hO.cells
  simp only [BC, CC, Nat.zero_add, Nat.reduceAdd, and_true] at hf
  go_wp2_with ((with_reducible refine at_store (T := 35) ?_); refine own_store (T := 35) hO 0 rfl rfl rfl size_rat rfl rfl rfl ?_; clear hO; intro wc hO; simp only [List.set_cons_zero, List.set_cons_succ, spl, List.take_succ_cons, List.take_zero, List.nil_append, List.cons_append, List.length_cons, List.length_nil, List.drop_succ_cons, List.drop_zero, List.drop_nil, Nat.reduceAdd, Nat.zero_add, List.append_nil] at hO; clear hf; have hf := hO.cells; simp only [BC, CC, Nat.zero_add, Nat.reduceAdd, and_true] at hf)
  exact own_ret_and hO 0 rfl rfl rfl rfl agg_rat size_rat rfl ⟨_, _, _, _, _, _, rfl, ⟨hO.wd 1 rfl, hO.wd 0 rfl⟩, hO.toExt⟩
end Go.Proofs.Ytmcfflecaklpcaa

/-
  Plain: what the root of an interval holds. Conditions: those that each theorem names.
-/
set_option linter.unusedVariables false
set_option linter.unusedSimpArgs false
set_option maxRecDepth 100000
namespace Go.Proofs.Ytmcfflecaklpcaa
open Nm Rn

theorem mg_lo {y : Nat} (h : y ≤ infR) : mg y = y ∧ sg y = false ∧ isNaN y = false ∧ key y = (y : Int) := by
  have hi := infR_val
  have h1 : mg y = y := by unfold mg; omega
  have h2 : sg y = false := by unfold sg; exact decide_eq_false (by omega)
  refine ⟨h1, h2, by unfold isNaN; exact decide_eq_false (by omega), ?_⟩
  unfold key
  rw [h2, h1]
  simp
theorem mul_mono_iff {a b c : Nat} (h : 0 < c) : a * c ≤ b * c ↔ a ≤ b := ⟨fun g => Nat.le_of_mul_le_mul_right g h, fun g => Nat.mul_le_mul_right c g⟩
/-- An end that is a number, against a ratio, in units of 2^-1074. -/
theorem fb_le (y N D : Nat) : fbN y * D ≤ N * fbD y ↔ rv (mg y) * D ≤ N * K74 := by
  have h := fb_val y
  rw [← mul_mono_iff (a := fbN y * D) K74_pos, ← mul_mono_iff (a := rv (mg y) * D) (fbD_pos y)]
  have e1 : fbN y * D * K74 = rv (mg y) * D * fbD y := by rw [Nat.mul_right_comm, h, Nat.mul_right_comm]
  have e2 : N * fbD y * K74 = N * K74 * fbD y := Nat.mul_right_comm _ _ _
  rw [e1, e2]
theorem fb_ge (y N D : Nat) : N * fbD y ≤ fbN y * D ↔ N * K74 ≤ rv (mg y) * D := by
  have h := fb_val y
  rw [← mul_mono_iff (b := fbN y * D) K74_pos, ← mul_mono_iff (b := rv (mg y) * D) (fbD_pos y)]
  have e1 : fbN y * D * K74 = rv (mg y) * D * fbD y := by rw [Nat.mul_right_comm, h, Nat.mul_right_comm]
  have e2 : N * fbD y * K74 = N * K74 * fbD y := Nat.mul_right_comm _ _ _
  rw [e1, e2]
theorem b_fin {y : Nat} (h : mg y < infR) : bI y = 0 ∧ bNeg y = (sg y && decide (mg y ≠ 0)) ∧ bN y = fbN y ∧ bD y = fbD y := by
  have hi := infR_val
  have hm := minf_val
  have h1 : y ≠ infR := fun e => by rw [e] at h; exact absurd h (by decide)
  have h2 : y ≠ minf := fun e => by rw [e] at h; exact absurd h (by decide)
  unfold bI bNeg bN bD
  exact ⟨by rw [if_neg h1, if_neg h2], by rw [if_neg h1, if_neg h2], by rw [if_neg h1, if_neg h2], by rw [if_neg h1, if_neg h2]⟩
theorem cmpI_le {a b : Int} : cmpI a b ≤ 0 ↔ a ≤ b := by
  unfold cmpI
  split
  · omega
  · split <;> omega
theorem hlL_pos {y : Nat} (h : y < infR) (N D : Nat) : hlL y false N D = decide (rv y * D ≤ N * K74) := by
  obtain ⟨m1, m2, m3, m4⟩ := mg_lo (Nat.le_of_lt h)
  obtain ⟨b1, b2, b3, b4⟩ := b_fin (y := y) (by rw [m1]; exact h)
  unfold hlL eC
  rw [b1, b2, b3, b4, m2, Bool.false_and]
  refine decide_eq_decide.2 ?_
  rw [if_neg (by omega), if_neg (by omega), if_pos rfl]
  unfold rc sn
  rw [cmpI_le]
  have := fb_le y N D
  rw [m1] at this
  rw [← this]
  simp only [Bool.false_eq_true, if_false]
  rw [← Int.natCast_mul, ← Int.natCast_mul]
  omega
theorem hlH_pos {y : Nat} (h : y < infR) (N D : Nat) : hlH y false N D = decide (N * K74 ≤ rv y * D) := by
  obtain ⟨m1, m2, m3, m4⟩ := mg_lo (Nat.le_of_lt h)
  obtain ⟨b1, b2, b3, b4⟩ := b_fin (y := y) (by rw [m1]; exact h)
  unfold hlH eC
  rw [b1, b2, b3, b4, m2, Bool.false_and]
  refine decide_eq_decide.2 ?_
  rw [if_neg (by omega), if_neg (by omega), if_pos rfl]
  unfold rc sn
  rw [cmpI_le]
  have := fb_ge y N D
  rw [m1] at this
  rw [← this]
  simp only [Bool.false_eq_true, if_false]
  rw [← Int.natCast_mul, ← Int.natCast_mul]
  omega
theorem hlH_inf (s : Bool) (N D : Nat) : hlH infR s N D = true := by
  unfold hlH eC
  rw [show bI infR = 1 from if_pos rfl, if_pos (by omega)]
  decide
/-- Nothing below 0 is above an end that is not. -/
theorem hlL_below {y N D : Nat} (h : y ≤ infR) (hN : N ≠ 0) (hD : D ≠ 0) : hlL y true N D = false := by
  by_cases hy : y < infR
  · obtain ⟨m1, m2, m3, m4⟩ := mg_lo h
    obtain ⟨b1, b2, b3, b4⟩ := b_fin (y := y) (by rw [m1]; exact hy)
    unfold hlL eC
    rw [b1, b2, b3, b4, m2, Bool.false_and]
    refine decide_eq_false ?_
    rw [if_neg (by omega), if_neg (by omega), if_pos rfl]
    unfold rc sn
    rw [cmpI_le]
    simp only [Bool.false_eq_true, if_false, if_true]
    have h1 : 0 < N * fbD y := Nat.mul_pos (by omega) (fbD_pos y)
    have h2 : 0 ≤ (fbN y : Int) * (D : Int) := Int.mul_nonneg (by omega) (by omega)
    rw [Int.neg_mul, ← Int.natCast_mul]
    omega
  · have e : y = infR := by omega
    subst e
    unfold hlL eC
    rw [show bI infR = 1 from if_pos rfl, if_neg (by omega), if_pos (by omega)]
    decide
/-- A number that is not below 0 is not at most an end below 0. -/
theorem hlH_below {b N D : Nat} (hb : b < 18446744073709551616) (nb : isNaN b = false) (hk : key b < 0) (hD : D ≠ 0) : hlH b false N D = false := by
  have hi := infR_val
  have hm := minf_val
  by_cases hf : mg b < infR
  · obtain ⟨b1, b2, b3, b4⟩ := b_fin hf
    have hs : sg b = true := by
      cases h : sg b
      · unfold key at hk; rw [h] at hk; simp at hk; omega
      · rfl
    have h0 : mg b ≠ 0 := fun h => by unfold key at hk; rw [hs, h] at hk; simp at hk
    have h1 : fbN b ≠ 0 := fun h => h0 ((fbN_zero b).1 h)
    unfold hlH eC
    rw [b1, b2, b3, b4, hs, decide_eq_true h0, Bool.true_and]
    refine decide_eq_false ?_
    rw [if_neg (by omega), if_neg (by omega), if_pos rfl]
    unfold rc sn
    rw [cmpI_le]
    simp only [Bool.false_eq_true, if_false, if_true]
    have h2 : 0 < fbN b * D := Nat.mul_pos (by omega) (by omega)
    have h3 : 0 ≤ (N : Int) * (fbD b : Int) := Int.mul_nonneg (by omega) (by omega)
    rw [Int.neg_mul, ← Int.natCast_mul (fbN b)]
    omega
  · have e : b = minf := by
      unfold isNaN at nb
      have := of_decide_eq_false nb
      unfold key at hk
      split at hk
      · rename_i hs
        unfold sg at hs
        have := of_decide_eq_true hs
        unfold mg at *
        omega
      · omega
    subst e
    unfold hlH eC
    rw [show bI minf = -1 from rfl, if_neg (by omega), if_pos (by omega)]
    decide

/-- The roots of what is not below 0. -/
theorem sq_zero (d : Int) : sqrtR d 0 = 0 := by
  unfold sqrtR ngP
  rw [show isNaN 0 = false from rfl, show sg 0 = false from rfl, show isInf 0 = false from rfl, show mg 0 = 0 from rfl]
  simp
theorem sq_inf (d : Int) : sqrtR d infR = infR := by
  unfold sqrtR ngP
  rw [show isNaN infR = false from rfl, show sg infR = false from rfl, show isInf infR = true from rfl]
  simp
theorem sq_facts {y : Nat} (h : y < infR) :
    sqrtR (-1) y < infR ∧ sqrtR 1 y < infR ∧ rv (sqrtR (-1) y) * rv (sqrtR (-1) y) ≤ rv y * K74 ∧ rv y * K74 ≤ rv (sqrtR 1 y) * rv (sqrtR 1 y) := by
  have hi := infR_val
  by_cases h0 : y = 0
  · subst h0
    rw [sq_zero, sq_zero, rv_zero]
    exact ⟨by omega, by omega, by omega, by omega⟩
  · obtain ⟨m1, m2, m3, m4⟩ := mg_lo (Nat.le_of_lt h)
    have hinf : isInf y = false := by unfold isInf; rw [m1]; exact decide_eq_false (by omega)
    have hS : ∀ d : Int, sqrtR d y = rootV d false (rv y) K74 2 := fun d => by
      unfold sqrtR ngP
      rw [m3, hinf, m2, m1]
      simp [h0]
    rw [hS, hS]
    have hX : 0 < rv y := Nat.pos_of_ne_zero fun e => h0 (rv_eq_zero.1 e)
    obtain ⟨a1, a2, a3⟩ := root_tight (n := 2) hX (by omega) (rv_le (show y ≤ infR - 1 by omega))
    rw [show 2 - 1 = 1 from rfl, Nat.pow_one] at a3
    obtain ⟨LO, hLO⟩ : ∃ LO, LO = rootV (-1) false (rv y) K74 2 := ⟨_, rfl⟩
    obtain ⟨HI, hHI⟩ : ∃ HI, HI = rootV 1 false (rv y) K74 2 := ⟨_, rfl⟩
    rw [← hLO] at a1 a3 ⊢
    rw [← hHI] at a2 a3 ⊢
    rw [← Nat.pow_two, ← Nat.pow_two]
    rcases a3 with ⟨e, e2⟩ | ⟨e, e2, e3⟩
    · rw [← e]
      exact ⟨by omega, by omega, Nat.le_of_eq e2, Nat.le_of_eq e2.symm⟩
    · exact ⟨by omega, by omega, Nat.le_of_lt e2, Nat.le_of_lt e3⟩
theorem sq_le {a b : Nat} (h : a * a ≤ b * b) : a ≤ b := by
  rcases Nat.lt_or_ge b a with g | g
  · have := Nat.mul_lt_mul'' g g
    omega
  · exact g

theorem emp_void : emp infR minf := ⟨rfl, rfl⟩
theorem rd_sound {lo hi : Nat} (hl : lo < infR) (hh : hi ≤ infR) (h : lo ≤ hi) : ¬ emp lo hi ∧ rdLo lo hi = lo ∧ rdHi lo hi = hi := by
  have hi' := infR_val
  have hm := minf_val
  obtain ⟨a1, a2, a3, a4⟩ := mg_lo (Nat.le_of_lt hl)
  obtain ⟨b1, b2, b3, b4⟩ := mg_lo hh
  have hs : sndB lo hi = true := by
    unfold sndB leB ltB
    rw [a3, b3, a4, b4, nan_inf, nan_minf, key_inf, key_minf]
    simp
    omega
  have p : ∀ z, z ≤ infR → pl z = z := fun z hz => by unfold pl; rw [if_neg (by omega)]
  have e1 : rdLo lo hi = lo := by unfold rdLo; rw [hs, if_pos rfl]; exact p _ (by omega)
  have e2 : rdHi lo hi = hi := by unfold rdHi; rw [hs, if_pos rfl]; exact p _ hh
  refine ⟨fun he => ?_, e1, e2⟩
  have := he.1
  rw [e1] at this
  omega
theorem sq_top {b : Nat} (nb : isNaN b = false) (hk : ¬ key b < 0) (hb : b < 18446744073709551616) (hz : b ≠ 9223372036854775808) : b ≤ infR := by
  have hi := infR_val
  unfold isNaN at nb
  have := of_decide_eq_false nb
  unfold key at hk
  unfold sg mg at *
  split at hk
  · rename_i h
    have := of_decide_eq_true h
    omega
  · rename_i h
    have : ¬ 9223372036854775808 ≤ b := fun g => h (decide_eq_true g)
    omega

/-- Nothing below 0 lies in a root. -/
theorem roots_below {x1 x2 N D : Nat} (hx1 : x1 < 18446744073709551616) (hx2 : x2 < 18446744073709551616) (hN : N ≠ 0) (hD : D ≠ 0) : hldB (irLo x1 x2) (irHi x1 x2) true N D = false := by
  have hi := infR_val
  unfold irLo irHi
  by_cases he : emp x1 x2 ∨ key (rdHi x1 x2) < 0
  · rw [if_pos he, if_pos he]
    exact if_pos emp_void
  · rw [if_neg he, if_neg he]
    have he1 : ¬ emp x1 x2 := fun h => he (.inl h)
    have he2 : ¬ key (rdHi x1 x2) < 0 := fun h => he (.inr h)
    obtain ⟨g1, g2, g3, g4, g5, g6, _, _⟩ := rd_ends hx1 hx2 he1
    have hz := (rdLo_ne x1 x2)
    have hnn : nn (rdLo x1 x2) < infR := by
      unfold nn
      split
      · omega
      · rename_i h
        have := sq_top g3 h g1 hz.1
        omega
    have hLO := (sq_facts hnn).1
    obtain ⟨LO, eLO⟩ : ∃ z, z = sqrtR (-1) (nn (rdLo x1 x2)) := ⟨_, rfl⟩
    obtain ⟨HI, eHI⟩ : ∃ z, z = sqrtR 1 (rdHi x1 x2) := ⟨_, rfl⟩
    rw [← eLO] at hLO ⊢
    rw [← eHI]
    clear eLO eHI he he1 he2 g1 g2 g3 g4 g5 g6 hz hnn
    unfold hldB
    split
    · rfl
    · rename_i hne
      have h1 : sndB LO HI = true := by
        cases h : sndB LO HI
        · exact absurd (show emp _ _ from by unfold emp rdLo rdHi; rw [h]; exact ⟨rfl, rfl⟩) hne
        · rfl
      have e1 : rdLo LO HI = LO := by
        unfold rdLo
        rw [h1, if_pos rfl]
        unfold pl
        rw [if_neg (by omega)]
      rw [e1, hlL_below (Nat.le_of_lt hLO) hN hD, Bool.false_and]

/-- A number whose square lies in an interval lies in its root. -/
theorem roots_hold {x1 x2 N D : Nat} (hx1 : x1 < 18446744073709551616) (hx2 : x2 < 18446744073709551616) (hD : 0 < D)
    (h : hldB x1 x2 false (fracN (N * N) (D * D) 0) (fracD (N * N) (D * D) 0) = true) : hldB (irLo x1 x2) (irHi x1 x2) false N D = true := by
  have hi := infR_val
  have hDD : 0 < D * D := Nat.mul_pos hD hD
  obtain ⟨N2, hN2⟩ : ∃ z, z = fracN (N * N) (D * D) 0 := ⟨_, rfl⟩
  obtain ⟨D2, hD2⟩ : ∃ z, z = fracD (N * N) (D * D) 0 := ⟨_, rfl⟩
  have hv := frac_val (n := N * N) (d := D * D) (e := 0) (p := 0) (q := 0) rfl
  have hp2 : 0 < fracD (N * N) (D * D) 0 := fracD_pos _ (by omega)
  rw [← hN2, ← hD2, Nat.pow_zero, Nat.mul_one, Nat.mul_one] at hv
  rw [← hD2] at hp2
  rw [← hN2, ← hD2] at h
  clear hN2 hD2
  unfold hldB at h
  split at h
  · cases h
  · rename_i he1
    rw [Bool.and_eq_true] at h
    obtain ⟨ha, hb⟩ := h
    obtain ⟨g1, g2, g3, g4, g5, g6, _, _⟩ := rd_ends hx1 hx2 he1
    have hz := (rdLo_ne x1 x2)
    have he2 : ¬ key (rdHi x1 x2) < 0 := fun hk => by rw [hlH_below g2 g4 hk (by omega)] at hb; cases hb
    have he : ¬ (emp x1 x2 ∨ key (rdHi x1 x2) < 0) := fun hh => hh.elim he1 he2
    unfold irLo irHi
    rw [if_neg he, if_neg he]
    have hbt := sq_top g4 he2 g2 hz.2
    have hK := K74_pos
    -- the square, in units
    have hle : ∀ r, r * D2 ≤ N2 * K74 ↔ r * (D * D) ≤ N * N * K74 := fun r => by
      rw [← mul_mono_iff (a := r * D2) hDD, ← mul_mono_iff (a := r * (D * D)) hp2]
      have e1 : r * D2 * (D * D) = r * (D * D) * D2 := Nat.mul_right_comm _ _ _
      have e2 : N2 * K74 * (D * D) = N * N * K74 * D2 := by rw [Nat.mul_right_comm, hv, Nat.mul_right_comm]
      rw [e1, e2]
    have hge : ∀ r, N2 * K74 ≤ r * D2 ↔ N * N * K74 ≤ r * (D * D) := fun r => by
      rw [← mul_mono_iff (b := r * D2) hDD, ← mul_mono_iff (b := r * (D * D)) hp2]
      have e1 : r * D2 * (D * D) = r * (D * D) * D2 := Nat.mul_right_comm _ _ _
      have e2 : N2 * K74 * (D * D) = N * N * K74 * D2 := by rw [Nat.mul_right_comm, hv, Nat.mul_right_comm]
      rw [e1, e2]
    have hnn : nn (rdLo x1 x2) < infR ∧ rv (nn (rdLo x1 x2)) * (D * D) ≤ N * N * K74 := by
      unfold nn
      split
      · rw [rv_zero]; omega
      · rename_i hk
        have h1 := sq_top g3 hk g1 hz.1
        have h2 : rdLo x1 x2 < infR := by omega
        rw [hlL_pos h2] at ha
        exact ⟨h2, (hle _).1 (of_decide_eq_true ha)⟩
    obtain ⟨y, hy⟩ : ∃ y, y = nn (rdLo x1 x2) := ⟨_, rfl⟩
    rw [← hy] at hnn ⊢
    obtain ⟨hy1, hy2⟩ := hnn
    obtain ⟨s1, -, s3, -⟩ := sq_facts hy1
    have hlow : rv (sqrtR (-1) y) * D ≤ N * K74 := by
      refine sq_le ?_
      have e1 : rv (sqrtR (-1) y) * D * (rv (sqrtR (-1) y) * D) = rv (sqrtR (-1) y) * rv (sqrtR (-1) y) * (D * D) := by ac_rfl
      have e2 : N * K74 * (N * K74) = N * N * K74 * K74 := by ac_rfl
      rw [e1, e2]
      refine Nat.le_trans (Nat.mul_le_mul_right _ s3) ?_
      have e3 : rv y * K74 * (D * D) = rv y * (D * D) * K74 := Nat.mul_right_comm _ _ _
      rw [e3]
      exact Nat.mul_le_mul_right _ hy2
    by_cases hbi : rdHi x1 x2 = infR
    · rw [hbi, sq_inf]
      obtain ⟨k1, k2, k3⟩ := rd_sound s1 (Nat.le_refl infR) (Nat.le_of_lt s1)
      unfold hldB
      rw [if_neg k1, k2, k3, hlL_pos s1, decide_eq_true hlow, hlH_inf]
      rfl
    · have hb2 : rdHi x1 x2 < infR := by omega
      rw [hlH_pos hb2] at hb
      have hb3 := (hge _).1 (of_decide_eq_true hb)
      obtain ⟨-, t2, -, t4⟩ := sq_facts hb2
      have hhigh : N * K74 ≤ rv (sqrtR 1 (rdHi x1 x2)) * D := by
        refine sq_le ?_
        have e1 : rv (sqrtR 1 (rdHi x1 x2)) * D * (rv (sqrtR 1 (rdHi x1 x2)) * D) = rv (sqrtR 1 (rdHi x1 x2)) * rv (sqrtR 1 (rdHi x1 x2)) * (D * D) := by ac_rfl
        have e2 : N * K74 * (N * K74) = N * N * K74 * K74 := by ac_rfl
        rw [e1, e2]
        refine Nat.le_trans (Nat.mul_le_mul_right K74 hb3) ?_
        have e3 : rv (rdHi x1 x2) * (D * D) * K74 = rv (rdHi x1 x2) * K74 * (D * D) := Nat.mul_right_comm _ _ _
        rw [e3]
        exact Nat.mul_le_mul_right _ t4
      have hll : sqrtR (-1) y ≤ sqrtR 1 (rdHi x1 x2) := by
        have h1 : rv (sqrtR (-1) y) ≤ rv (sqrtR 1 (rdHi x1 x2)) := (mul_mono_iff hD).1 (Nat.le_trans hlow hhigh)
        rcases Nat.lt_or_ge (sqrtR 1 (rdHi x1 x2)) (sqrtR (-1) y) with h2 | h2
        · have := rv_lt h2
          omega
        · exact h2
      obtain ⟨k1, k2, k3⟩ := rd_sound s1 (Nat.le_of_lt t2) hll
      unfold hldB
      rw [if_neg k1, k2, k3, hlL_pos s1, decide_eq_true hlow, hlH_pos t2, decide_eq_true hhigh]
      rfl
theorem ir_lt {x1 x2 : Nat} (hx1 : x1 < 18446744073709551616) (hx2 : x2 < 18446744073709551616) : irLo x1 x2 < 18446744073709551616 ∧ irHi x1 x2 < 18446744073709551616 := by
  have hi := infR_val
  have hm := minf_val
  unfold irLo irHi
  by_cases he : emp x1 x2 ∨ key (rdHi x1 x2) < 0
  · rw [if_pos he, if_pos he]; omega
  · rw [if_neg he, if_neg he]
    have he1 : ¬ emp x1 x2 := fun h => he (.inl h)
    have he2 : ¬ key (rdHi x1 x2) < 0 := fun h => he (.inr h)
    obtain ⟨g1, g2, g3, g4, g5, g6, _, _⟩ := rd_ends hx1 hx2 he1
    have hz := (rdLo_ne x1 x2)
    have hbt := sq_top g4 he2 g2 hz.2
    have hnn : nn (rdLo x1 x2) < infR := by
      unfold nn
      split
      · omega
      · rename_i h
        have := sq_top g3 h g1 hz.1
        omega
    have h1 := (sq_facts hnn).1
    refine ⟨by omega, ?_⟩
    by_cases hb : rdHi x1 x2 = infR
    · rw [hb, sq_inf]; omega
    · have h2 := (sq_facts (y := rdHi x1 x2) (by omega)).2.1
      omega
theorem ir_lt_lo {x1 x2 : Nat} (hx1 : x1 < 18446744073709551616) (hx2 : x2 < 18446744073709551616) : irLo x1 x2 < 18446744073709551616 := (ir_lt hx1 hx2).1
theorem ir_lt_hi {x1 x2 : Nat} (hx1 : x1 < 18446744073709551616) (hx2 : x2 < 18446744073709551616) : irHi x1 x2 < 18446744073709551616 := (ir_lt hx1 hx2).2
end Go.Proofs.Ytmcfflecaklpcaa
