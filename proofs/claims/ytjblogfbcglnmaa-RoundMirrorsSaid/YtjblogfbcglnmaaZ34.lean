/-
  The contract of the law's lives: it answers true. Conditions: none.
-/
import Derived.Test.YtjblogfbcglnmaaZ07
import Derived.Test.YtjblogfbcglnmaaZ31
import Derived.Test.YtjblogfbcglnmaaZ26
import Derived.Test.YtjblogfbcglnmaaZ22
namespace Go.Proofs.Ytjblogfbcglnmaa
open Go.RowKit Nm Rn
set_option maxRecDepth 100000
set_option linter.unusedVariables false
set_option linter.unusedSimpArgs false

theorem callSqrt (args : Array Value) (w : World) : (callFunc 141 args).run Try.prog w = ((Extern.MathSqrt.sqrt args).run Try.prog w).andThen fun v w' => .ok (.value v) w' :=
  run_callFunc_extern Try.func141 (by kernel_rfl) (by kernel_rfl) (by kernel_rfl) (by kernel_rfl) args w
theorem callSqrt' {x s : Nat} (h : Ieee.double.sqrt x = some s) (w : World) : (callFunc 141 #[.float .f64 x]).run Try.prog w = .ok (.value (.float .f64 s)) w := by
  have h' : FloatKind.f64.format.sqrt x = some s := h
  rw [callSqrt]
  have e : Extern.MathSqrt.sqrt #[Value.float .f64 x] = (match FloatKind.f64.format.sqrt x with | some r => pure (Value.float .f64 r) | none => do pure (Value.float .f64 (← choose (.nanBits .f64 x x)))) := rfl
  rw [e, h']
  rfl
set_option maxHeartbeats 400000 in
theorem msqrt_any {x s : Nat} (h : Ieee.double.sqrt x = some s) (w : World) : Calls Try.prog 98 #[.float .f64 x] w fun e w' => e = .returned (.float .f64 s) ∧ w = w' := by
  have hd := callSqrt' h
  go_enter Try.func98, Try.ntmps98
  go_wp2
  go_ret
  exact ⟨rfl, rfl⟩

theorem ops_two : MissedOps 4609047870845172685 4609047870845172685 4611686018427387905 13594282740592917422 := by
  have hh : HalvesOps 4609047870845172685 4609047870870388736 13706718948609753088 := ⟨4730645060831629210, 4730645060784176077, by decide +kernel, by decide +kernel, by decide +kernel, by decide +kernel⟩
  exact ⟨_, _, _, _, 4611686018463048786, 13709239988575770460, 13709239988575770460, 4360067633491546440, 4490371551287312384, 4485867951598889124, 13595554439048986624, hh, hh, by decide +kernel, by decide +kernel, by decide +kernel, by decide +kernel, by decide +kernel, by decide +kernel, by decide +kernel, by decide +kernel⟩

set_option maxHeartbeats 1000000 in
theorem rsqrt_two (w : World) :
    Calls Try.prog 42 #[.int .i64 1, .float .f64 4611686018427387904] w fun e w' => e = .returned (.float .f64 4609047870845172685) ∧ Ext w w' := by
  have hE0 : Ext w (w.alloc (.cells #[.float .f64 4611686018427387904] 26)) := (Ext.refl w).alloc _
  have hc0 : (w.alloc (.cells #[.float .f64 4611686018427387904] 26)).cell? ⟨w.heap.size, 0, none⟩ = some (.float .f64 4611686018427387904) := by simp
  have HPL := Lib.hid (fun w => rplain_any 4611686018427387904 w (by omega))
  have HO := Lib.hid (fun g w c0 => odd_one g 4611686018427387904 w c0 (by omega))
  rw [show pl 4611686018427387904 = 4611686018427387904 from rfl] at HPL
  rw [show oddF 4611686018427387904 = false by decide +kernel] at HO
  have q1 : (FloatKind.f64.format.order 4611686018427387904 0 == some .lt || FloatKind.f64.format.order 4611686018427387904 0 == some .eq) = false := by decide +kernel
  have HSQ := Lib.hid (fun w => msqrt_any (x := 4611686018427387904) (s := 4609047870845172685) (by decide +kernel) w)
  have h1 := fun w => fmul (x := 4609047870845172685) (y := 4609047870845172685) (r := 4611686018427387905) (by decide +kernel) w
  have h2 := fun w => fsub (x := 4611686018427387904) (y := 4611686018427387905) (r := 13600870874658897920) (by decide +kernel) w
  have h3 := fun w => fsub (x := 13600870874658897920) (y := 13594282740592917422) (r := 13597409542250832425) (by decide +kernel) w
  have HM1 := Lib.hid (fun w => middle_any 4611686018427387904 w (by omega) (by decide +kernel))
  have HM2 := Lib.hid (fun w => middle_any 4611686018427387905 w (by omega) (by decide +kernel))
  rw [show midB 4611686018427387904 = true by decide +kernel] at HM1
  rw [show midB 4611686018427387905 = true by decide +kernel] at HM2
  have HMI := Lib.hid (fun w => missed_any _ _ _ _ w ops_two)
  have HNU := Lib.hid (fun w => nudge_any 1 4609047870845172685 13597409542250832425 (-1) w (by omega) (by decide +kernel) (by omega) (by decide +kernel) (by decide +kernel))
  rw [show kp (key 4609047870845172685 + adj 1 (-1)) = 4609047870845172685 by decide +kernel] at HNU
  go_enter Try.func42, Try.ntmps42
  go_wp2
  go_step3
  go_wp2_with (go_at_call 68; refine (HPL.out _).mono ?_; rintro e w' ⟨rfl, rfl⟩)
  generalize w.heap.size = g0 at hc0 ⊢
  generalize w.alloc _ = w1 at hE0 hc0 ⊢
  go_wp2_with (first | (go_at_call 67; refine (HO.out _ _ hc0).mono ?_; rintro e w' ⟨rfl, rfl⟩) | (go_at_call 98; refine (HSQ.out _).mono ?_; rintro e w' ⟨rfl, rfl⟩) | (go_at_call 69; ((with_reducible refine (HM1.out _).mono ?_); rintro e w' ⟨rfl, rfl⟩)) | (go_at_call 69; ((with_reducible refine (HM2.out _).mono ?_); rintro e w' ⟨rfl, rfl⟩)) | (go_at_call 71; refine (HMI.out _).mono ?_; rintro e w' ⟨rfl, rfl⟩) | (go_at_call 70; refine (HNU.out _).mono ?_; rintro e w' ⟨rfl, rfl⟩))
  rw [Exit.noGoto_ret]
  go_ret
  exact ⟨rfl, hE0⟩

set_option maxHeartbeats 2000000 in
theorem lives_any (w : World) :
    Calls Try.prog 48 #[] w fun e w' => e = .returned (.bool true) ∧ Ext w w' := by
  have HA := Lib.hid (fun w => radd_any_ 1 4607182418800017408 1 w (by omega) (by omega))
  rw [show addR 1 4607182418800017408 1 = 4607182418800017409 by decide +kernel] at HA
  have HD := Lib.hid (fun w => rdiv_any (-1) 4607182418800017408 4613937818241073152 w (by omega) (by omega))
  rw [show divR (-1) 4607182418800017408 4613937818241073152 = 4599676419421066581 by decide +kernel] at HD
  have HM := Lib.hid (fun w => rmul_any 1 1 1 w (by omega) (by omega))
  rw [show mulR 1 1 1 = 1 by decide +kernel] at HM
  have HB := Lib.hid (fun w => radd_any_ (-1) 9218868437227405311 9218868437227405311 w (by omega) (by omega))
  rw [show addR (-1) 9218868437227405311 9218868437227405311 = 9218868437227405311 by decide +kernel] at HB
  have HS := Lib.hid (fun w => rsqrt_two w)
  have HL := Lib.hid (fun r w h => lbits_any r w h)
  go_enter Try.func48, Try.ntmps48
  go_wp2_with (go_at_call 18; refine (fl_any _ _).mono ?_; rintro e w' ⟨rfl, rfl⟩)
  refine (HA.out _).mono ?_
  rintro e w1 ⟨r, rfl, hr, hc, hE1⟩
  go_wp2_with fail
  refine (HL.out r _ hr).mono ?_
  rintro e w2 ⟨rfl, rfl⟩
  rw [hc]
  clear hc hr
  go_wp2_with fail
  refine (HD.out _).mono ?_
  rintro e w3 ⟨r, rfl, hr, hc, hE3⟩
  go_wp2_with fail
  refine (HL.out r _ hr).mono ?_
  rintro e w2 ⟨rfl, rfl⟩
  rw [hc]
  clear hc hr
  go_wp2_with fail
  refine (HS.out _).mono ?_
  rintro e w4 ⟨rfl, hE4⟩
  go_wp2_with fail
  refine (HL.out 4609047870845172685 _ (by omega)).mono ?_
  rintro e w2 ⟨rfl, rfl⟩
  rw [show cn 4609047870845172685 = 4609047870845172685 by decide +kernel]
  go_wp2_with (go_at_call 18; refine (fl_any _ _).mono ?_; rintro e w' ⟨rfl, rfl⟩)
  refine (HM.out _).mono ?_
  rintro e w5 ⟨r, rfl, hr, hc, hE5⟩
  go_wp2_with fail
  refine (HL.out r _ hr).mono ?_
  rintro e w2 ⟨rfl, rfl⟩
  rw [hc]
  clear hc hr
  go_wp2_with (go_at_call 18; refine (fl_any _ _).mono ?_; rintro e w' ⟨rfl, rfl⟩)
  refine (HB.out _).mono ?_
  rintro e w6 ⟨r, rfl, hr, hc, hE6⟩
  go_wp2_with fail
  refine (HL.out r _ hr).mono ?_
  rintro e w2 ⟨rfl, rfl⟩
  rw [hc]
  clear hc hr
  go_wp2
  go_ret
  exact ⟨by simp, hE1.trans (hE3.trans (hE4.trans (hE5.trans hE6)))⟩
end Go.Proofs.Ytjblogfbcglnmaa

/-
  Plain: what is answered of the negatives, in the other direction; what does not hang on the order. Conditions: those that each theorem names.
-/
set_option linter.unusedVariables false
set_option linter.unusedSimpArgs false
namespace Go.Proofs.Ytjblogfbcglnmaa.Rn
open Nm

/-- The negative of a pattern that was answered. -/
def mirP (b : Nat) : Nat := if b = 0 ∨ b = NaNc then b else ng b
theorem mirP_pat {neg : Bool} {r : Nat} (h : r ≤ infR) : mirP (pat (!neg) r) = pat neg r := by
  rw [infR_val] at h
  unfold mirP pat NaNc ng
  by_cases h0 : r = 0
  · rw [if_pos h0, if_pos h0, if_pos (.inl rfl)]
  · rw [if_neg h0, if_neg h0]
    have hs : sg (9223372036854775808 + r) = true := by unfold sg; exact decide_eq_true (by omega)
    have hs2 : sg r = false := by unfold sg; exact decide_eq_false (by omega)
    cases neg
    · simp only [Bool.not_false, if_true, Bool.false_eq_true, if_false]
      rw [if_neg (by omega), hs]
      simp only [if_true]; omega
    · simp only [Bool.not_true, if_true, Bool.false_eq_true, if_false]
      rw [if_neg (by omega), hs2]
      simp only [Bool.false_eq_true, if_false]; omega
theorem rr_mir (d : Int) (neg : Bool) (Z : Nat) (hd : d = -1 ∨ d = 0 ∨ d = 1) : rr (-d) (!neg) Z = rr d neg Z := by
  unfold rr away
  rcases hd with rfl | rfl | rfl <;> cases neg <;> simp
theorem rnd_mir (d : Int) (neg : Bool) (Z : Nat) (hd : d = -1 ∨ d = 0 ∨ d = 1) : mirP (rnd (-d) (!neg) Z) = rnd d neg Z := by
  unfold rnd
  rw [rr_mir d neg Z hd]
  exact mirP_pat (rr_le d neg Z)
theorem mirP_zero : mirP 0 = 0 := rfl
theorem mirP_nan : mirP NaNc = NaNc := rfl
theorem mirP_inf (s : Bool) : mirP (infP (!s)) = infP s := by cases s <;> decide
theorem ng_infP (s : Bool) : ng (infP s) = infP (!s) := by cases s <;> decide
theorem rT_mir (d T : Int) (hd : d = -1 ∨ d = 0 ∨ d = 1) : mirP (rT (-d) (-T)) = rT d T := by
  by_cases h : T = 0
  · rw [h, Int.neg_zero, rT_zero, rT_zero, mirP_zero]
  · unfold rT
    rw [Int.natAbs_neg]
    have e : decide (-T < 0) = !decide (T < 0) := by
      rcases Int.lt_trichotomy T 0 with c | c | c
      · rw [decide_eq_false (by omega), decide_eq_true c]; rfl
      · exact absurd c h
      · rw [decide_eq_true (by omega), decide_eq_false (by omega)]; rfl
    rw [e, rnd_mir _ _ _ hd]
theorem nan_ng {x : Nat} (h : x < 18446744073709551616) : isNaN (ng x) = isNaN x := by unfold isNaN; rw [mg_ng h]
theorem inf_ng {x : Nat} (h : x < 18446744073709551616) : isInf (ng x) = isInf x := by unfold isInf; rw [mg_ng h]
theorem sg_ng_ {x : Nat} (h : x < 18446744073709551616) : sg (ng x) = !sg x := sg_ng h
theorem ng_of1 {x : Nat} (h : sg x = true) : ng x = x - 9223372036854775808 := by unfold ng; rw [h]; exact if_pos rfl
theorem ng_of0 {x : Nat} (h : sg x = false) : ng x = x + 9223372036854775808 := by unfold ng; rw [h]; exact if_neg (by decide)
theorem ng_ng_ {x : Nat} (h : x < 18446744073709551616) : ng (ng x) = x := by
  have e := sg_ng h
  have hx : sg x = decide (9223372036854775808 ≤ x) := rfl
  cases hs : sg x
  · rw [hs] at e
    rw [ng_of1 e, ng_of0 hs]; omega
  · rw [hs] at e hx
    have := of_decide_eq_true hx.symm
    rw [ng_of0 e, ng_of1 hs]; omega
theorem ng_ne {x y : Nat} (hx : x < 18446744073709551616) (hy : y < 18446744073709551616) : (ng x ≠ ng y) ↔ (x ≠ y) := by
  constructor
  · intro h e; exact h (by rw [e])
  · intro h e; exact h (by rw [← ng_ng_ hx, e, ng_ng_ hy])
theorem mirP_ng {x : Nat} (hx : x < 18446744073709551616) (hi : isInf x = true) : mirP (ng x) = x := by
  have h := (isInf_iff x).1 hi
  have h2 := mg_ng hx
  have h3 : ng x ≠ 0 := by intro e; rw [e] at h2; rw [← h2, infR_val] at h; exact absurd h (by decide)
  have h4 : ng x ≠ NaNc := by intro e; rw [e] at h2; rw [← h2, infR_val] at h; exact absurd h (by decide)
  unfold mirP
  rw [if_neg (by intro c; rcases c with c | c; exact h3 c; exact h4 c), ng_ng_ hx]
theorem add_mir (d : Int) {x y : Nat} (hx : x < 18446744073709551616) (hy : y < 18446744073709551616) (hd : d = -1 ∨ d = 0 ∨ d = 1) : mirP (addR (-d) (ng x) (ng y)) = addR d x y := by
  unfold addR
  rw [nan_ng hx, nan_ng hy, inf_ng hx, inf_ng hy, decide_eq_decide.2 (ng_ne hx hy), sv_ng hx, sv_ng hy]
  cases h1 : (isNaN x || isNaN y)
  · cases h2 : (isInf x && isInf y && decide (x ≠ y))
    · cases h3 : isInf x
      · cases h4 : isInf y
        · simp only [Bool.false_eq_true, if_false]
          rw [← Int.neg_add, Int.neg_mul]
          exact rT_mir _ _ hd
        · simp only [Bool.false_eq_true, if_false, if_true]
          exact mirP_ng hy h4
      · simp only [Bool.false_eq_true, if_false, if_true]
        exact mirP_ng hx h3
    · simp only [Bool.false_eq_true, if_false, if_true]; rfl
  · simp only [if_true]; rfl
theorem mul_mir (d : Int) {x y : Nat} (hx : x < 18446744073709551616) (hd : d = -1 ∨ d = 0 ∨ d = 1) : mirP (mulR (-d) (ng x) y) = mulR d x y := by
  unfold mulR
  rw [nan_ng hx, inf_ng hx, sv_ng hx, mg_ng hx, sg_ng_ hx]
  cases h1 : (isNaN x || isNaN y)
  · cases h2 : (isInf x || isInf y)
    · simp only [Bool.false_eq_true, if_false]
      rw [Int.neg_mul]
      exact rT_mir _ _ hd
    · simp only [Bool.false_eq_true, if_false, if_true]
      by_cases h3 : mg x = 0 ∨ mg y = 0
      · rw [if_pos h3, if_pos h3]; rfl
      · rw [if_neg h3, if_neg h3, show ((!sg x) != sg y) = !(sg x != sg y) by cases sg x <;> cases sg y <;> rfl]
        exact mirP_inf _
  · simp only [if_true]; rfl
theorem div_mir (d : Int) {x y : Nat} (hx : x < 18446744073709551616) (hd : d = -1 ∨ d = 0 ∨ d = 1) : mirP (divR (-d) (ng x) y) = divR d x y := by
  unfold divR
  rw [nan_ng hx, inf_ng hx, mg_ng hx, sg_ng_ hx]
  have e : ((!sg x) != sg y) = !(sg x != sg y) := by cases sg x <;> cases sg y <;> rfl
  rw [e]
  cases h1 : (isNaN x || isNaN y || (isInf x && isInf y) || (decide (mg x = 0) && decide (mg y = 0)))
  · simp only [Bool.false_eq_true, if_false]
    by_cases h2 : mg y = 0
    · rw [if_pos h2, if_pos h2]
      have h3 : mg x ≠ 0 := by
        intro h3
        rw [h2, h3] at h1
        simp at h1
      rw [decide_eq_true h3, Bool.and_true, Bool.and_true]
      exact mirP_inf _
    · rw [if_neg h2, if_neg h2]
      cases h3 : isInf x
      · simp only [Bool.false_eq_true, if_false]
        cases h4 : isInf y
        · simp only [Bool.false_eq_true, if_false]
          exact rnd_mir _ _ _ hd
        · simp only [if_true]; rfl
      · simp only [if_true]
        exact mirP_inf _
  · simp only [if_true]; rfl
theorem odd_ng {x : Nat} (h : x < 18446744073709551616) : oddP (ng x) = oddP x := by unfold oddP; rw [nan_ng h, inf_ng h]
theorem cn_mir {z : Nat} (hz : z < 18446744073709551616) (h : oddP z = true) : mirP (cn (ng z)) = cn z := by
  unfold cn
  rw [nan_ng hz]
  unfold oddP at h
  cases h1 : isNaN z
  · rw [h1, Bool.false_or] at h
    simp only [Bool.false_eq_true, if_false]
    exact mirP_ng hz h
  · simp only [if_true]; rfl
theorem infP_lt_ (s : Bool) : infP s < 18446744073709551616 := by cases s <;> decide
theorem fma_mir (d : Int) {x y z : Nat} (hx : x < 18446744073709551616) (hy : y < 18446744073709551616) (hz : z < 18446744073709551616) (hd : d = -1 ∨ d = 0 ∨ d = 1) : mirP (fmaR (-d) (ng x) y (ng z)) = fmaR d x y z := by
  have hM := mul_mir d (y := y) hx hd
  unfold fmaR
  rw [odd_ng hx, odd_ng hz]
  cases ho : (oddP x || oddP y)
  · simp only [Bool.false_eq_true, if_false]
    cases h2 : oddP z
    · simp only [Bool.false_eq_true, if_false]
      rw [sv_ng hx, sv_ng hz, Int.neg_mul, Int.neg_mul, ← Int.neg_add]
      exact rT_mir _ _ hd
    · simp only [if_true]
      exact cn_mir hz h2
  · simp only [if_true]
    have ho2 : (isNaN (ng x) || isInf (ng x) || (isNaN y || isInf y)) = true := by
      rw [nan_ng hx, inf_ng hx]; exact ho
    rcases mul_odd (ng_lt hx) hy ho2 with ⟨_, h1⟩ | ⟨s, _, h1⟩
    · rw [h1 (-d)] at hM ⊢
      rw [← hM, mirP_nan, addR_nan _ NaNc_nan, addR_nan _ NaNc_nan]; rfl
    · rw [h1 (-d)] at hM ⊢
      have e : infP s = ng (infP (!s)) := by rw [ng_infP, Bool.not_not]
      have e2 : mirP (infP s) = infP (!s) := by have := mirP_inf (!s); rw [Bool.not_not] at this; exact this
      rw [← hM, e2, e]
      exact add_mir d (infP_lt_ _) hz hd
theorem addR_comm (d : Int) (x y : Nat) : addR d x y = addR d y x := by
  unfold addR
  rw [Bool.or_comm (isNaN x), Bool.and_comm (isInf x), Int.add_comm (sv x), show decide (x ≠ y) = decide (y ≠ x) from decide_eq_decide.2 ⟨Ne.symm, Ne.symm⟩]
  cases h1 : (isNaN y || isNaN x)
  · cases h3 : isInf x <;> cases h4 : isInf y
    · simp
    · simp
    · simp
    · by_cases e : y = x
      · subst e; simp
      · simp [e]
  · simp
theorem mulR_comm (d : Int) (x y : Nat) : mulR d x y = mulR d y x := by
  unfold mulR
  rw [Bool.or_comm (isNaN x), Bool.or_comm (isInf x), Int.mul_comm (sv x), show (sg x != sg y) = (sg y != sg x) by cases sg x <;> cases sg y <;> rfl]
  have e : (if mg x = 0 ∨ mg y = 0 then NaNc else infP (sg y != sg x)) = (if mg y = 0 ∨ mg x = 0 then NaNc else infP (sg y != sg x)) := by
    by_cases h : mg x = 0 ∨ mg y = 0
    · rw [if_pos h, if_pos (Or.symm h)]
    · rw [if_neg h, if_neg (fun k => h (Or.symm k))]
  rw [e]
theorem fmaR_comm (d : Int) (x y z : Nat) : fmaR d x y z = fmaR d y x z := by
  unfold fmaR
  rw [Bool.or_comm (oddP x), mulR_comm d x y, Int.mul_comm (sv x)]
/-- What asked answers. -/
def askR (k : Nat) (d : Int) (x y z : Nat) : Nat := if k = 0 then addR d x y else if k = 1 then addR d x (ng y) else if k = 2 then mulR d x y else if k = 3 then divR d x y else fmaR d x y z
theorem ask_mir1 {k : Nat} {d : Int} {x y z : Nat} (hk : k < 2) (hx : x < 18446744073709551616) (hy : y < 18446744073709551616) (hd : d = -1 ∨ d = 0 ∨ d = 1) : mirP (askR k (-d) (ng x) (ng y) z) = askR k d x y z := by
  unfold askR
  have : k = 0 ∨ k = 1 := by omega
  rcases this with rfl | rfl
  · simp only [if_true]; exact add_mir d hx hy hd
  · simp only [show ¬ (1 = 0) by omega, if_false, if_true]; exact add_mir d hx (ng_lt hy) hd
theorem ask_mir2 {k : Nat} {d : Int} {x y z : Nat} (hk : 2 ≤ k) (hx : x < 18446744073709551616) (hy : y < 18446744073709551616) (hz : z < 18446744073709551616) (hd : d = -1 ∨ d = 0 ∨ d = 1) : mirP (askR k (-d) (ng x) y (ng z)) = askR k d x y z := by
  unfold askR
  simp only [show ¬ k = 0 by omega, show ¬ k = 1 by omega, if_false]
  by_cases h2 : k = 2
  · simp only [h2, if_true]; exact mul_mir d hx hd
  · simp only [h2, if_false]
    by_cases h3 : k = 3
    · simp only [h3, if_true]; exact div_mir d hx hd
    · simp only [h3, if_false]; exact fma_mir d hx hy hz hd
end Go.Proofs.Ytjblogfbcglnmaa.Rn

/-
  The contracts of the law's asked and mirrored; the walk through RoundMirrors. Conditions: those that each theorem names.
-/
namespace Go.Proofs.Ytjblogfbcglnmaa
open Go.RowKit Nm Rn
set_option maxRecDepth 100000
set_option linter.unusedVariables false
set_option linter.unusedSimpArgs false

/-- What asked returns. -/
def RetA (v : Nat) (w : World) (e : Ending) (w' : World) : Prop := e = .returned (.int .u64 (v : Int)) ∧ v < 18446744073709551616 ∧ Ext w w'
theorem cn_lt {r : Nat} (h : r < 18446744073709551616) : cn r < 18446744073709551616 := by unfold cn; split; decide; exact h

theorem askR_0 (d : Int) (x y z : Nat) : askR 0 d x y z = addR d x y := if_pos rfl
theorem askR_1 (d : Int) (x y z : Nat) : askR 1 d x y z = addR d x (ng y) := by unfold askR; rw [if_neg (by omega), if_pos rfl]
theorem askR_2 (d : Int) (x y z : Nat) : askR 2 d x y z = mulR d x y := by unfold askR; rw [if_neg (by omega), if_neg (by omega), if_pos rfl]
theorem askR_3 (d : Int) (x y z : Nat) : askR 3 d x y z = divR d x y := by unfold askR; rw [if_neg (by omega), if_neg (by omega), if_neg (by omega), if_pos rfl]
theorem askR_4 (d : Int) (x y z : Nat) : askR 4 d x y z = fmaR d x y z := by unfold askR; rw [if_neg (by omega), if_neg (by omega), if_neg (by omega), if_neg (by omega)]

set_option maxHeartbeats 2000000 in
theorem asked_any (k : Nat) (d : Int) (x y z : Nat) (w : World) (hk : k ≤ 4) (hx : x < 18446744073709551616) (hy : y < 18446744073709551616) (hz : z < 18446744073709551616) :
    Calls Try.prog 50 #[.int .i64 (k : Int), .int .i64 d, .float .f64 x, .float .f64 y, .float .f64 z] w (RetA (askR k d x y z) w) := by
  have H0 := Lib.hid (fun w => radd_any_ d x y w hx hy)
  have H1 := Lib.hid (fun w => rsub_any d x y w hx hy)
  have H2 := Lib.hid (fun w => rmul_any d x y w hx hy)
  have H3 := Lib.hid (fun w => rdiv_any d x y w hx hy)
  have H4 := Lib.hid (fun w => rfma_any d x y z w hx hy hz)
  have HL := Lib.hid (fun r w h => lbits_any r w h)
  obtain ⟨V, hV⟩ : ∃ V, V = askR k d x y z := ⟨_, rfl⟩
  rw [← hV]
  have HV := Lib.hid hV
  clear hV hx hy hz
  have hc : k = 0 ∨ k = 1 ∨ k = 2 ∨ k = 3 ∨ k = 4 := by omega
  clear hk
  rcases hc with rfl | rfl | rfl | rfl | rfl
  · have hV0 := HV.out.trans (askR_0 d x y z)
    have HV0 := Lib.hid hV0
    rw [← hV0] at H0
    clear hV0 HV
    go_enter Try.func50, Try.ntmps50
    go_wp2_with fail
    refine (H0.out _).mono ?_
    rintro e w1 ⟨r, rfl, hr, hc, hE⟩
    go_wp2_with fail
    refine (HL.out r _ hr).mono ?_
    rintro e w2 ⟨rfl, rfl⟩
    have hcl := cn_lt hr
    rw [hc] at hcl ⊢
    clear hc hr
    go_wp2
    go_ret
    exact ⟨rfl, hcl, hE⟩
  · have hV1 := HV.out.trans (askR_1 d x y z)
    have HV1 := Lib.hid hV1
    rw [← hV1] at H1
    clear hV1 HV
    go_enter Try.func50, Try.ntmps50
    go_wp2_with fail
    refine (H1.out _).mono ?_
    rintro e w1 ⟨r, rfl, hr, hc, hE⟩
    go_wp2_with fail
    refine (HL.out r _ hr).mono ?_
    rintro e w2 ⟨rfl, rfl⟩
    have hcl := cn_lt hr
    rw [hc] at hcl ⊢
    clear hc hr
    go_wp2
    go_ret
    exact ⟨rfl, hcl, hE⟩
  · have hV2 := HV.out.trans (askR_2 d x y z)
    have HV2 := Lib.hid hV2
    rw [← hV2] at H2
    clear hV2 HV
    go_enter Try.func50, Try.ntmps50
    go_wp2_with fail
    refine (H2.out _).mono ?_
    rintro e w1 ⟨r, rfl, hr, hc, hE⟩
    go_wp2_with fail
    refine (HL.out r _ hr).mono ?_
    rintro e w2 ⟨rfl, rfl⟩
    have hcl := cn_lt hr
    rw [hc] at hcl ⊢
    clear hc hr
    go_wp2
    go_ret
    exact ⟨rfl, hcl, hE⟩
  · have hV3 := HV.out.trans (askR_3 d x y z)
    have HV3 := Lib.hid hV3
    rw [← hV3] at H3
    clear hV3 HV
    go_enter Try.func50, Try.ntmps50
    go_wp2_with fail
    refine (H3.out _).mono ?_
    rintro e w1 ⟨r, rfl, hr, hc, hE⟩
    go_wp2_with fail
    refine (HL.out r _ hr).mono ?_
    rintro e w2 ⟨rfl, rfl⟩
    have hcl := cn_lt hr
    rw [hc] at hcl ⊢
    clear hc hr
    go_wp2
    go_ret
    exact ⟨rfl, hcl, hE⟩
  · have hV4 := HV.out.trans (askR_4 d x y z)
    have HV4 := Lib.hid hV4
    rw [← hV4] at H4
    clear hV4 HV
    go_enter Try.func50, Try.ntmps50
    go_wp2_with fail
    refine (H4.out _).mono ?_
    rintro e w1 ⟨r, rfl, hr, hc, hE⟩
    go_wp2_with fail
    refine (HL.out r _ hr).mono ?_
    rintro e w2 ⟨rfl, rfl⟩
    have hcl := cn_lt hr
    rw [hc] at hcl ⊢
    clear hc hr
    go_wp2
    go_ret
    exact ⟨rfl, hcl, hE⟩

set_option maxHeartbeats 400000 in
theorem mirrored_any (b : Nat) (w : World) (h : b < 18446744073709551616) :
    Calls Try.prog 53 #[.int .u64 (b : Int)] w fun e w' => e = .returned (.int .u64 ((mirP b : Nat) : Int)) ∧ w = w' := by
  by_cases h0 : b = 0
  · subst h0
    go_enter Try.func53, Try.ntmps53
    go_wp2
    go_ret
    exact ⟨rfl, rfl⟩
  · have q0 : ((b : Int) == 0) = false := by rw [beq_eq_false_iff_ne]; omega
    by_cases h1 : b = NaNc
    · have hf : mirP b = b := by unfold mirP; rw [if_pos (.inr h1)]
      rw [hf]
      rw [NaNc_val] at h1
      clear hf
      subst h1
      go_enter Try.func53, Try.ntmps53
      go_wp2
      go_ret
      exact ⟨rfl, rfl⟩
    · have hf : mirP b = ng b := by unfold mirP; rw [if_neg (by intro c; rcases c with c | c; exact h0 c; exact h1 c)]
      rw [hf]
      rw [NaNc_val] at h1
      have q1 : ((b : Int) == 9221120237041090561) = false := by rw [beq_eq_false_iff_ne]; omega
      have hx : bits .xor .u64 (b : Int) 9223372036854775808 = ((ng b : Nat) : Int) := by
        rw [show (9223372036854775808 : Int) = ((9223372036854775808 : Nat) : Int) from rfl, u64_xor_nat _ _ h (by omega), ng_xor h]
      clear hf
      go_enter Try.func53, Try.ntmps53
      go_wp2
      go_ret
      exact ⟨rfl, rfl⟩

set_option maxHeartbeats 8000000 in
theorem mirrors_walk (x y z : Nat) (w : World) (hx : x < 18446744073709551616) (hy : y < 18446744073709551616) (hz : z < 18446744073709551616) :
    Calls Try.prog 15 #[.agg #[.int .u64 (x : Int), .int .u64 (y : Int), .int .u64 (z : Int)]] w fun e w' => e = .returned (.bool true) ∧ Ext w w' := by
  have HA := Lib.hid (fun k d w h => asked_any k d x y z w h hx hy hz)
  have HA1 := Lib.hid (fun k d w h => asked_any k d (ng x) (ng y) z w h (ng_lt hx) (ng_lt hy) hz)
  have HA2 := Lib.hid (fun k d w h => asked_any k d (ng x) y (ng z) w h (ng_lt hx) hy (ng_lt hz))
  have HAS := Lib.hid (fun k d w h => asked_any k d y x z w h hy hx hz)
  have HA0 := Lib.hid (fun k d w h => asked_any k d x y 0 w h hx hy (by omega))
  have HAR := Lib.hid (fun k d w h => asked_any k d y x 0 w h hy hx (by omega))
  have HAN := Lib.hid (fun k d w h => asked_any k d x (ng y) 0 w h hx (ng_lt hy) (by omega))
  have HM := Lib.hid (fun b w h => mirrored_any b w h)
  have hn1 := fun w => run_ng hx w
  have hn2 := fun w => run_ng hy w
  have hn3 := fun w => run_ng hz w
  have HR1 := Lib.hid (fun (k : Nat) (d : Int) (hk : k < 2) (hd : d = -1 ∨ d = 0 ∨ d = 1) => ask_mir1 (k := k) (d := d) (z := z) hk hx hy hd)
  have HR2 := Lib.hid (fun (k : Nat) (d : Int) (hk : 2 ≤ k) (hd : d = -1 ∨ d = 0 ∨ d = 1) => ask_mir2 (k := k) (d := d) hk hx hy hz hd)
  have HLV := Lib.hid (fun w => lives_any w)
  clear hx hy hz
  have hO := Own.start w
  go_enter Try.func15, Try.ntmps15
  go_upto_region 1 with ((with_reducible refine at_box ?_); refine own_box (cs := [.int .u64 (x : Int), .int .u64 (y : Int), .int .u64 (z : Int)]) hO rfl rfl ?_; clear hO; intro g w1 hO)
  have hF := hO.facts
  simp only [BF, CF, Nat.zero_add, Nat.reduceAdd, and_true] at hF
  have hE1 := hO.toExt
  clear hO
  go_wp2_with (go_at_call 18; refine (fl_any _ _).mono ?_; rintro e w' ⟨rfl, rfl⟩)
  clear hF
  go_loopw [6] (fun dv wr => ∃ d : Int, dv = .int .i64 d ∧ -1 ≤ d ∧ d ≤ 2 ∧ Ext w wr) (fun dv _ => (2 - intOf dv).toNat)
  case atStart => exact ⟨-1, rfl, by omega, by omega, hE1⟩
  case round =>
    obtain ⟨d, rfl, hd1, hd2, hEr⟩ := hrel
    by_cases hd : d ≤ 1
    · have hd3 : d = -1 ∨ d = 0 ∨ d = 1 := by omega
      have HD3 := Lib.hid hd3
      clear hd3
      go_wp2
      go_loopw [7] (fun kv wr => ∃ k : Nat, kv = .int .i64 (k : Int) ∧ k ≤ 5 ∧ Ext w wr) (fun kv _ => 5 - (intOf kv).toNat)
      case atStart => exact ⟨0, rfl, by omega, hEr⟩
      case round =>
        obtain ⟨k, rfl, hk5, hEr⟩ := hrel
        by_cases hk : k < 5
        · have HA' := Lib.hid (fun w => HA.out k d w (by omega))
          by_cases hk2 : k < 2
          · have HB' := Lib.hid (fun w => HA1.out k (-d) w (by omega))
            have hR := HR1.out k d hk2 HD3.out
            obtain ⟨b, hb⟩ : ∃ b, b = askR k (-d) (ng x) (ng y) z := ⟨_, rfl⟩
            obtain ⟨a, ha⟩ : ∃ a, a = askR k d x y z := ⟨_, rfl⟩
            rw [← hb] at HB' hR
            rw [← ha] at HA' hR
            have HR := Lib.hid hR
            clear hR hb ha
            go_wp2_with fail
            refine (HA'.out _).mono ?_
            rintro e w2 ⟨rfl, hA64, hE2⟩
            go_wp2_with fail
            refine (HB'.out _).mono ?_
            rintro e w3 ⟨rfl, hB64, hE3⟩
            go_wp2_with fail
            refine (HM.out _ _ hB64).mono ?_
            rintro e w4 ⟨rfl, rfl⟩
            rw [HR.out]
            go_wp2
            go_roundw
            case rel => exact ⟨k + 1, by go_num, by omega, hEr.trans (hE2.trans hE3)⟩
            case measure => simp [intOf]; omega
          · have HB' := Lib.hid (fun w => HA2.out k (-d) w (by omega))
            have hR := HR2.out k d (by omega) HD3.out
            obtain ⟨b, hb⟩ : ∃ b, b = askR k (-d) (ng x) y (ng z) := ⟨_, rfl⟩
            obtain ⟨a, ha⟩ : ∃ a, a = askR k d x y z := ⟨_, rfl⟩
            rw [← hb] at HB' hR
            rw [← ha] at HA' hR
            have HR := Lib.hid hR
            clear hR hb ha
            go_wp2_with fail
            refine (HA'.out _).mono ?_
            rintro e w2 ⟨rfl, hA64, hE2⟩
            go_wp2_with fail
            refine (HB'.out _).mono ?_
            rintro e w3 ⟨rfl, hB64, hE3⟩
            go_wp2_with fail
            refine (HM.out _ _ hB64).mono ?_
            rintro e w4 ⟨rfl, rfl⟩
            rw [HR.out]
            go_wp2
            go_roundw
            case rel => exact ⟨k + 1, by go_num, by omega, hEr.trans (hE2.trans hE3)⟩
            case measure => simp [intOf]; omega
        · have hke : k = 5 := by omega
          subst hke
          have C1 := Lib.hid (fun w => HA0.out 0 d w (by omega))
          have C2 := Lib.hid (fun w => HAR.out 0 d w (by omega))
          have C3 := Lib.hid (fun w => HA0.out 2 d w (by omega))
          have C4 := Lib.hid (fun w => HAR.out 2 d w (by omega))
          have C5 := Lib.hid (fun w => HA.out 4 d w (by omega))
          have C6 := Lib.hid (fun w => HAS.out 4 d w (by omega))
          have C7 := Lib.hid (fun w => HA0.out 1 d w (by omega))
          have C8 := Lib.hid (fun w => HAN.out 0 d w (by omega))
          rw [show askR 0 d y x 0 = askR 0 d x y 0 by rw [askR_0, askR_0, addR_comm]] at C2
          rw [show askR 2 d y x 0 = askR 2 d x y 0 by rw [askR_2, askR_2, mulR_comm]] at C4
          rw [show askR 4 d y x z = askR 4 d x y z by rw [askR_4, askR_4, fmaR_comm]] at C6
          rw [show askR 0 d x (ng y) 0 = askR 1 d x y 0 by rw [askR_0, askR_1]] at C8
          generalize askR 0 d x y 0 = a1 at C1 C2
          generalize askR 2 d x y 0 = a2 at C3 C4
          generalize askR 4 d x y z = a3 at C5 C6
          generalize askR 1 d x y 0 = a4 at C7 C8
          clear HA HA1 HA2 HAS HA0 HAR HAN HR1 HR2
          go_wp2_with fail
          refine (C1.out _).mono ?_
          rintro e w2 ⟨rfl, -, hE2⟩
          go_wp2_with fail
          refine (C2.out _).mono ?_
          rintro e w3 ⟨rfl, -, hE3⟩
          go_wp2_with fail
          refine (C3.out _).mono ?_
          rintro e w4 ⟨rfl, -, hE4⟩
          go_wp2_with fail
          refine (C4.out _).mono ?_
          rintro e w5 ⟨rfl, -, hE5⟩
          go_wp2_with fail
          refine (C5.out _).mono ?_
          rintro e w6 ⟨rfl, -, hE6⟩
          go_wp2_with fail
          refine (C6.out _).mono ?_
          rintro e w7 ⟨rfl, -, hE7⟩
          go_wp2_with fail
          refine (C7.out _).mono ?_
          rintro e w8 ⟨rfl, -, hE8⟩
          go_wp2_with fail
          refine (C8.out _).mono ?_
          rintro e w9 ⟨rfl, -, hE9⟩
          go_wp2
          go_roundw
          case rel => exact ⟨d + 1, rfl, by omega, by omega, hEr.trans (hE2.trans (hE3.trans (hE4.trans (hE5.trans (hE6.trans (hE7.trans (hE8.trans hE9)))))))⟩
          case measure => simp [intOf]; omega
    · go_wp2_with fail
      refine (HLV.out _).mono ?_
      rintro e w2 ⟨rfl, hE2⟩
      go_wp2
      go_ret
      exact ⟨rfl, hEr.trans hE2⟩
end Go.Proofs.Ytjblogfbcglnmaa
