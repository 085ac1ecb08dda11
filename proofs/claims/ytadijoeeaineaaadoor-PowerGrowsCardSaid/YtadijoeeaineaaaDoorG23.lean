/-
  The contracts of the program's quick road: plain, middle, nudge, halves, missed, odd; math.Nextafter. Conditions: those that each theorem names.
-/
import Derived.Test.YtadijoeeaineaaaDoorG09
import Derived.Test.YtadijoeeaineaaaDoorG08
import Derived.Test.YtadijoeeaineaaaDoorG04
import Derived.Test.YtadijoeeaineaaaDoorG05
import Derived.Test.YtadijoeeaineaaaDoorG11
import Derived.Test.YtadijoeeaineaaaDoorG13
import Derived.Test.YtadijoeeaineaaaDoorG14
namespace Go.Proofs.YtadijoeeaineaaaDoor
open Go.RowKit Nm Rn
set_option maxRecDepth 100000
set_option linter.unusedVariables false
set_option linter.unusedSimpArgs false

set_option maxHeartbeats 400000 in
theorem rplain_any (b : Nat) (w : World) (h : b < 18446744073709551616) :
    Calls Tryd.prog 82 #[.float .f64 b] w fun e w' => e = .returned (.float .f64 (pl b)) ∧ w = w' := by
  have hq := fo_eq h (show 0 < 18446744073709551616 by omega)
  rw [eq0 h] at hq
  by_cases h0 : b = 0 ∨ b = 9223372036854775808
  · rw [decide_eq_true h0] at hq
    have HF : Hid (0 = pl b) := Lib.hid (by unfold pl; rcases h0 with h0 | h0 <;> subst h0 <;> rfl)
    clear h0 h
    go_enter Tryd.func82, Tryd.ntmps82
    go_wp2
    go_ret
    exact ⟨ret_float HF.out, rfl⟩
  · rw [decide_eq_false h0] at hq
    have HF : Hid (b = pl b) := Lib.hid (by unfold pl; rw [if_neg (fun h => h0 (.inr h))])
    clear h0 h
    go_enter Tryd.func82, Tryd.ntmps82
    go_wp2
    go_ret
    exact ⟨ret_float HF.out, rfl⟩

/-- The next pattern up, and down. -/
def nup (s : Nat) : Nat := if mg s = 0 then 1 else if sg s then s - 1 else s + 1
def ndn (s : Nat) : Nat := if mg s = 0 then 9223372036854775809 else if sg s then s + 1 else s - 1
theorem fin_bd {s : Nat} (hs : s < 18446744073709551616) (h : mg s < infR) : s < 9218868437227405312 ∨ (9223372036854775808 ≤ s ∧ s < 18442240474082181120) := by
  rw [infR_val] at h
  unfold mg at h
  omega
theorem pl_nup {s : Nat} (hs : s < 18446744073709551616) (h : mg s < infR) : pl (nup s) = kp (key s + 1) ∧ nup s < 18446744073709551616 := by
  have hb := fin_bd hs h
  unfold nup pl kp pat key sg
  by_cases h0 : mg s = 0
  · rw [if_pos h0, h0]
    refine ⟨?_, by omega⟩
    by_cases h1 : 9223372036854775808 ≤ s <;> simp [h1]
  · rw [if_neg h0]
    have hm : mg s = if 9223372036854775808 ≤ s then s - 9223372036854775808 else s := by unfold mg; split <;> omega
    by_cases h1 : 9223372036854775808 ≤ s
    · rw [if_pos h1] at hm
      simp only [h1, decide_true, if_true]
      rw [hm] at h0 ⊢
      refine ⟨?_, by omega⟩
      by_cases h2 : s = 9223372036854775809
      · subst h2; rfl
      · rw [if_neg (by omega), if_neg (by omega), decide_eq_true (by omega), if_pos rfl]
        omega
    · rw [if_neg h1] at hm
      simp only [h1, decide_false, Bool.false_eq_true, if_false]
      rw [hm] at h0 ⊢
      refine ⟨?_, by omega⟩
      rw [if_neg (by omega), if_neg (by omega), decide_eq_false (by omega), if_neg (by simp)]
      omega
theorem pl_ndn {s : Nat} (hs : s < 18446744073709551616) (h : mg s < infR) : pl (ndn s) = kp (key s - 1) ∧ ndn s < 18446744073709551616 := by
  have hb := fin_bd hs h
  unfold ndn pl kp pat key sg
  by_cases h0 : mg s = 0
  · rw [if_pos h0, h0]
    refine ⟨?_, by omega⟩
    by_cases h1 : 9223372036854775808 ≤ s <;> simp [h1]
  · rw [if_neg h0]
    have hm : mg s = if 9223372036854775808 ≤ s then s - 9223372036854775808 else s := by unfold mg; split <;> omega
    by_cases h1 : 9223372036854775808 ≤ s
    · rw [if_pos h1] at hm
      simp only [h1, decide_true, if_true]
      rw [hm] at h0 ⊢
      refine ⟨?_, by omega⟩
      rw [if_neg (by omega), if_neg (by omega), decide_eq_true (by omega), if_pos rfl]
      omega
    · rw [if_neg h1] at hm
      simp only [h1, decide_false, Bool.false_eq_true, if_false]
      rw [hm] at h0 ⊢
      refine ⟨?_, by omega⟩
      by_cases h2 : s = 1
      · subst h2; rfl
      · rw [if_neg (by omega), if_neg (by omega), decide_eq_false (by omega), if_neg (by simp)]
        omega

theorem csign_p (w : World) : Calls Tryd.prog 140 #[.float .f64 1, .float .f64 infR] w fun e w' => e = .returned (.float .f64 1) ∧ w = w' := by
  have h1 : bits .andNot .u64 1 9223372036854775808 = 1 := by decide
  have h2 : bits .and .u64 (infR : Int) 9223372036854775808 = 0 := by decide
  have h3 : bits .or .u64 1 0 = 1 := by decide
  go_enter Tryd.func140, Tryd.ntmps140
  go_wp2
  go_ret
  exact ⟨rfl, rfl⟩
theorem csign_m (w : World) : Calls Tryd.prog 140 #[.float .f64 1, .float .f64 minf] w fun e w' => e = .returned (.float .f64 9223372036854775809) ∧ w = w' := by
  have h1 : bits .andNot .u64 1 9223372036854775808 = 1 := by decide
  have h2 : bits .and .u64 (minf : Int) 9223372036854775808 = 9223372036854775808 := by decide
  have h3 : bits .or .u64 1 9223372036854775808 = 9223372036854775809 := by decide
  go_enter Tryd.func140, Tryd.ntmps140
  go_wp2
  go_ret
  exact ⟨rfl, rfl⟩

set_option maxHeartbeats 2000000 in
theorem next_up (s : Nat) (w : World) (hs : s < 18446744073709551616) (hf : mg s < infR) :
    Calls Tryd.prog 117 #[.float .f64 s, .float .f64 infR] w fun e w' => e = .returned (.float .f64 (nup s)) ∧ w = w' := by
  have hb := fin_bd hs hf
  have hns : isNaN s = false := by unfold isNaN; exact decide_eq_false (by omega)
  have hN1 := fun w => mnan_any s w hs
  have hN2 := fun w => mnan_any infR w infR_lt
  rw [hns] at hN1
  rw [nan_inf] at hN2
  have q1 := fo_eq hs infR_lt
  have e1 : eqB s infR = false := by
    unfold eqB; rw [hns, nan_inf, key_inf]
    have hk : key s ≠ 9218868437227405312 := by unfold key mg sg; split <;> omega
    simp [hk]
  rw [e1] at q1
  have q2 := fo_eq hs (show 0 < 18446744073709551616 by omega)
  rw [eq0 hs] at q2
  have q3 := fo_gt infR_lt hs
  have e3 : ltB s infR = true := by
    unfold ltB; rw [hns, nan_inf, key_inf]
    have hk : key s < 9218868437227405312 := by unfold key mg sg; split <;> omega
    simp [hk]
  rw [e3] at q3
  have q4 := fo_gt hs (show 0 < 18446744073709551616 by omega)
  have e4 : ltB 0 s = (decide (mg s ≠ 0) && !sg s) := by
    unfold ltB; rw [hns, show isNaN 0 = false from rfl, show key 0 = 0 from rfl]
    unfold key
    cases sg s
    · rw [Bool.eq_iff_iff]; simp; omega
    · simp
  rw [e4] at q4
  have HN1 := Lib.hid hN1
  have HN2 := Lib.hid hN2
  have HC := Lib.hid (fun w => csign_p w)
  clear hns hN1 hN2 e1 e3 e4
  by_cases h0 : mg s = 0
  · have h00 : s = 0 ∨ s = 9223372036854775808 := by unfold mg at h0; omega
    rw [decide_eq_true h00] at q2
    have HF : Hid (1 = nup s) := Lib.hid (by unfold nup; rw [if_pos h0])
    clear h0 h00 q4 q3 hb hf hs
    go_enter Tryd.func117, Tryd.ntmps117
    go_wp2_with (first | (go_at_call 60; ((with_reducible refine (HN1.out _).mono ?_); rintro e w' ⟨rfl, rfl⟩)) | (go_at_call 60; ((with_reducible refine (HN2.out _).mono ?_); rintro e w' ⟨rfl, rfl⟩)) | (go_at_call 140; refine (HC.out _).mono ?_; rintro e w' ⟨rfl, rfl⟩))
    go_ret
    exact ⟨ret_float HF.out, rfl⟩
  · have h00 : ¬ (s = 0 ∨ s = 9223372036854775808) := by unfold mg at h0; omega
    rw [decide_eq_false h00] at q2
    rw [decide_eq_true h0, Bool.true_and] at q4
    have hsv : sg s = decide (9223372036854775808 ≤ s) := rfl
    have HF : Hid ((if sg s = true then s - 1 else s + 1) = nup s) := Lib.hid (by unfold nup; rw [if_neg h0])
    obtain ⟨S, hS⟩ : ∃ S, S = sg s := ⟨_, rfl⟩
    rw [← hS] at q4 HF hsv
    have hs1 : 1 ≤ s := by omega
    have hs2 : s ≤ 18442240474082181119 := by omega
    clear h0 h00 hb hf hs hS hsv
    cases S
    all_goals
      go_enter Tryd.func117, Tryd.ntmps117
      go_wp2_with (first | (go_at_call 60; ((with_reducible refine (HN1.out _).mono ?_); rintro e w' ⟨rfl, rfl⟩)) | (go_at_call 60; ((with_reducible refine (HN2.out _).mono ?_); rintro e w' ⟨rfl, rfl⟩)) | (go_at_call 140; refine (HC.out _).mono ?_; rintro e w' ⟨rfl, rfl⟩))
      go_ret
      exact ⟨ret_float (by rw [← HF.out]; first | rfl | (simp; omega)), rfl⟩
set_option maxHeartbeats 2000000 in
theorem next_down (s : Nat) (w : World) (hs : s < 18446744073709551616) (hf : mg s < infR) :
    Calls Tryd.prog 117 #[.float .f64 s, .float .f64 minf] w fun e w' => e = .returned (.float .f64 (ndn s)) ∧ w = w' := by
  have hb := fin_bd hs hf
  have hns : isNaN s = false := by unfold isNaN; exact decide_eq_false (by omega)
  have hN1 := fun w => mnan_any s w hs
  have hN2 := fun w => mnan_any minf w minf_lt
  rw [hns] at hN1
  rw [nan_minf] at hN2
  have q1 := fo_eq hs minf_lt
  have e1 : eqB s minf = false := by
    unfold eqB; rw [hns, nan_minf, key_minf]
    have hk : key s ≠ -9218868437227405312 := by unfold key mg sg; split <;> omega
    simp [hk]
  rw [e1] at q1
  have q2 := fo_eq hs (show 0 < 18446744073709551616 by omega)
  rw [eq0 hs] at q2
  have q3 := fo_gt minf_lt hs
  have e3 : ltB s minf = false := by
    unfold ltB; rw [hns, nan_minf, key_minf]
    have hk : ¬ key s < -9218868437227405312 := by unfold key mg sg; split <;> omega
    simp [hk]
  rw [e3] at q3
  have q4 := fo_gt hs (show 0 < 18446744073709551616 by omega)
  have e4 : ltB 0 s = (decide (mg s ≠ 0) && !sg s) := by
    unfold ltB; rw [hns, show isNaN 0 = false from rfl, show key 0 = 0 from rfl]
    unfold key
    cases sg s
    · rw [Bool.eq_iff_iff]; simp; omega
    · simp
  rw [e4] at q4
  have HN1 := Lib.hid hN1
  have HN2 := Lib.hid hN2
  have HC := Lib.hid (fun w => csign_m w)
  clear hns hN1 hN2 e1 e3 e4
  by_cases h0 : mg s = 0
  · have h00 : s = 0 ∨ s = 9223372036854775808 := by unfold mg at h0; omega
    rw [decide_eq_true h00] at q2
    have HF : Hid (9223372036854775809 = ndn s) := Lib.hid (by unfold ndn; rw [if_pos h0])
    clear h0 h00 q4 q3 hb hf hs
    go_enter Tryd.func117, Tryd.ntmps117
    go_wp2_with (first | (go_at_call 60; ((with_reducible refine (HN1.out _).mono ?_); rintro e w' ⟨rfl, rfl⟩)) | (go_at_call 60; ((with_reducible refine (HN2.out _).mono ?_); rintro e w' ⟨rfl, rfl⟩)) | (go_at_call 140; refine (HC.out _).mono ?_; rintro e w' ⟨rfl, rfl⟩))
    go_ret
    exact ⟨ret_float HF.out, rfl⟩
  · have h00 : ¬ (s = 0 ∨ s = 9223372036854775808) := by unfold mg at h0; omega
    rw [decide_eq_false h00] at q2
    rw [decide_eq_true h0, Bool.true_and] at q4
    have hsv : sg s = decide (9223372036854775808 ≤ s) := rfl
    have HF : Hid ((if sg s = true then s + 1 else s - 1) = ndn s) := Lib.hid (by unfold ndn; rw [if_neg h0])
    obtain ⟨S, hS⟩ : ∃ S, S = sg s := ⟨_, rfl⟩
    rw [← hS] at q4 HF hsv
    have hs1 : 1 ≤ s := by omega
    have hs2 : s ≤ 18442240474082181119 := by omega
    clear h0 h00 hb hf hs hS hsv
    cases S
    all_goals
      go_enter Tryd.func117, Tryd.ntmps117
      go_wp2_with (first | (go_at_call 60; ((with_reducible refine (HN1.out _).mono ?_); rintro e w' ⟨rfl, rfl⟩)) | (go_at_call 60; ((with_reducible refine (HN2.out _).mono ?_); rintro e w' ⟨rfl, rfl⟩)) | (go_at_call 140; refine (HC.out _).mono ?_; rintro e w' ⟨rfl, rfl⟩))
      go_ret
      exact ⟨ret_float (by rw [← HF.out]; first | rfl | (simp; omega)), rfl⟩

set_option maxHeartbeats 2000000 in
/-- nudge: the pattern s, and something of e's sign. -/
theorem nudge_any (d : Int) (s e : Nat) (E : Int) (w : World) (hs : s < 18446744073709551616) (hf : mg s < infR) (he : e < 18446744073709551616) (h1 : ltB e 0 = decide (E < 0)) (h2 : ltB 0 e = decide (0 < E)) :
    Calls Tryd.prog 78 #[.int .i64 d, .float .f64 s, .float .f64 e] w fun en w' => en = .returned (.float .f64 (kp (key s + adj d E))) ∧ w = w' := by
  have q1 := fo_lt he (show 0 < 18446744073709551616 by omega)
  have q2 := fo_gt he (show 0 < 18446744073709551616 by omega)
  rw [h1] at q1
  rw [h2] at q2
  have hU := pl_nup hs hf
  have hD := pl_ndn hs hf
  have HP := Lib.hid (fun w => rplain_any s w hs)
  have HPU := Lib.hid (fun w => rplain_any (nup s) w hU.2)
  have HPD := Lib.hid (fun w => rplain_any (ndn s) w hD.2)
  have HNU := Lib.hid (fun w => next_up s w hs hf)
  have HND := Lib.hid (fun w => next_down s w hs hf)
  have HI := Lib.hid (fun w => inf_p w)
  have HJ := Lib.hid (fun w => inf_m w)
  have hK := kp_key hs
  have hcase : ((d == -1) = true ∧ (d == 1) = false) ∨ ((d == -1) = false ∧ (d == 1) = true) ∨ ((d == -1) = false ∧ (d == 1) = false) := by
    by_cases a : d = -1
    · left; subst a; exact ⟨rfl, rfl⟩
    · by_cases b : d = 1
      · right; left; subst b; exact ⟨rfl, rfl⟩
      · right; right; simp [a, b]
  have hres : ∃ R, R = kp (key s + adj d E) ∧ (((d == -1) = true ∧ decide (E < 0) = true ∧ R = pl (ndn s)) ∨ ((d == -1) = true ∧ decide (E < 0) = false ∧ R = pl s) ∨ ((d == 1) = true ∧ decide (0 < E) = true ∧ R = pl (nup s)) ∨ ((d == 1) = true ∧ decide (0 < E) = false ∧ R = pl s) ∨ ((d == -1) = false ∧ (d == 1) = false ∧ R = pl s)) := by
    refine ⟨_, rfl, ?_⟩
    unfold adj
    rw [hD.1, hU.1, ← hK]
    by_cases a : d = -1
    · subst a
      by_cases b : E < 0
      · left; simp [b]; rfl
      · right; left; simp [b]
    · by_cases a2 : d = 1
      · subst a2
        by_cases b : 0 < E
        · right; right; left; simp [b]
        · right; right; right; left; simp [b]
      · right; right; right; right
        simp [a, a2]
  obtain ⟨R, hR, hr⟩ := hres
  rw [← hR]
  generalize decide (E < 0) = b1 at *
  generalize decide (0 < E) = b2 at *
  generalize ndn s = sd at *
  generalize nup s = su at *
  clear hR hK hU hD h1 h2 hs hf he
  rcases hcase with ⟨c1, c2⟩ | ⟨c1, c2⟩ | ⟨c1, c2⟩
  all_goals
    rw [c1, c2] at hr
    simp only [Bool.false_eq_true, Bool.true_eq_false, true_and, false_and, or_false, false_or] at hr
  · rcases hr with ⟨rfl, hr⟩ | ⟨rfl, hr⟩
    all_goals
      have HR := Lib.hid hr
      clear hr
      go_enter Tryd.func78, Tryd.ntmps78
      go_wp2_with (first | (go_at_call 45; ((with_reducible refine (HI.out _).mono ?_); rintro e w' ⟨rfl, rfl⟩)) | (go_at_call 45; ((with_reducible refine (HJ.out _).mono ?_); rintro e w' ⟨rfl, rfl⟩)) | (go_at_call 117; ((with_reducible refine (HNU.out _).mono ?_); rintro e w' ⟨rfl, rfl⟩)) | (go_at_call 117; ((with_reducible refine (HND.out _).mono ?_); rintro e w' ⟨rfl, rfl⟩)) | (go_at_call 82; ((with_reducible refine (HP.out _).mono ?_); rintro e w' ⟨rfl, rfl⟩)) | (go_at_call 82; ((with_reducible refine (HPU.out _).mono ?_); rintro e w' ⟨rfl, rfl⟩)) | (go_at_call 82; ((with_reducible refine (HPD.out _).mono ?_); rintro e w' ⟨rfl, rfl⟩)))
      go_ret
      exact ⟨ret_float HR.out.symm, rfl⟩
  · rcases hr with ⟨rfl, hr⟩ | ⟨rfl, hr⟩
    all_goals
      have HR := Lib.hid hr
      clear hr
      go_enter Tryd.func78, Tryd.ntmps78
      go_wp2_with (first | (go_at_call 45; ((with_reducible refine (HI.out _).mono ?_); rintro e w' ⟨rfl, rfl⟩)) | (go_at_call 45; ((with_reducible refine (HJ.out _).mono ?_); rintro e w' ⟨rfl, rfl⟩)) | (go_at_call 117; ((with_reducible refine (HNU.out _).mono ?_); rintro e w' ⟨rfl, rfl⟩)) | (go_at_call 117; ((with_reducible refine (HND.out _).mono ?_); rintro e w' ⟨rfl, rfl⟩)) | (go_at_call 82; ((with_reducible refine (HP.out _).mono ?_); rintro e w' ⟨rfl, rfl⟩)) | (go_at_call 82; ((with_reducible refine (HPU.out _).mono ?_); rintro e w' ⟨rfl, rfl⟩)) | (go_at_call 82; ((with_reducible refine (HPD.out _).mono ?_); rintro e w' ⟨rfl, rfl⟩)))
      go_ret
      exact ⟨ret_float HR.out.symm, rfl⟩
  · have HR := Lib.hid hr
    clear hr
    go_enter Tryd.func78, Tryd.ntmps78
    go_wp2_with (go_at_call 82; refine (HP.out _).mono ?_; rintro e w' ⟨rfl, rfl⟩)
    go_ret
    exact ⟨ret_float HR.out.symm, rfl⟩
end Go.Proofs.YtadijoeeaineaaaDoor

/-
  The contracts of the program's quick road, second part: middle, halves, missed, odd. Conditions: those that each theorem names.
-/
namespace Go.Proofs.YtadijoeeaineaaaDoor
open Go.RowKit Nm Rn
set_option maxRecDepth 100000
set_option linter.unusedVariables false
set_option linter.unusedSimpArgs false

/-- + - * / of floats that give a number, in the walk's own form. -/
theorem fadd {x y r : Nat} (h : Ieee.double.add x y = some r) (w : World) : (binOp .add 24 (.float .f64 x) (.float .f64 y)).run Tryd.prog w = .ok (.float .f64 r) w := run_float_arith w .add _ .f64 _ _ _ h
theorem fsub {x y r : Nat} (h : Ieee.double.sub x y = some r) (w : World) : (binOp .sub 24 (.float .f64 x) (.float .f64 y)).run Tryd.prog w = .ok (.float .f64 r) w := run_float_arith w .sub _ .f64 _ _ _ h
theorem fmul {x y r : Nat} (h : Ieee.double.mul x y = some r) (w : World) : (binOp .mul 24 (.float .f64 x) (.float .f64 y)).run Tryd.prog w = .ok (.float .f64 r) w := run_float_arith w .mul _ .f64 _ _ _ h
theorem fquo {x y r : Nat} (h : Ieee.double.div x y = some r) (w : World) : (binOp .quo 24 (.float .f64 x) (.float .f64 y)).run Tryd.prog w = .ok (.float .f64 r) w := run_float_arith w .quo _ .f64 _ _ _ h

/-- Neither very small nor very great, of a pattern. -/
def midB (b : Nat) : Bool := decide (Ks < rv (mg b)) && decide (rv (mg b) < Kg)
theorem rv_small_ : rv 553942754166571008 = Ks := by
  obtain ⟨c, hc⟩ : ∃ c, c = 122 := ⟨_, rfl⟩
  have := rv_form c 4503599627370496 (by omega) (fun _ => by omega)
  rw [show c * 4503599627370496 + 4503599627370496 = 553942754166571008 by omega] at this
  rw [this, Ks_def, show 174 = 52 + c by omega, Nat.pow_add]
theorem rv_great_ : rv 8660422083433463808 = Kg := by
  obtain ⟨c, hc⟩ : ∃ c, c = 1922 := ⟨_, rfl⟩
  have := rv_form c 4503599627370496 (by omega) (fun _ => by omega)
  rw [show c * 4503599627370496 + 4503599627370496 = 8660422083433463808 by omega] at this
  rw [this, Kg_def, show 1974 = 52 + c by omega, Nat.pow_add]
theorem ltB_pos {a b : Nat} (ha : a ≤ infR) (hb : b ≤ infR) : ltB a b = decide (a < b) := by
  rw [infR_val] at ha hb
  have h1 : isNaN a = false := by unfold isNaN mg; rw [infR_val]; exact decide_eq_false (by omega)
  have h2 : isNaN b = false := by unfold isNaN mg; rw [infR_val]; exact decide_eq_false (by omega)
  have k1 : key a = (a : Int) := by unfold key sg mg; rw [decide_eq_false (by omega)]; simp; omega
  have k2 : key b = (b : Int) := by unfold key sg mg; rw [decide_eq_false (by omega)]; simp; omega
  unfold ltB
  rw [h1, h2, k1, k2]
  simp
theorem mid_gt {b : Nat} (h : mg b ≤ infR) : ltB 553942754166571008 (mg b) = decide (Ks < rv (mg b)) := by
  rw [ltB_pos (by rw [infR_val]; omega) h, ← rv_small_]
  exact decide_eq_decide.2 rv_lt_iff.symm
theorem mid_lt {b : Nat} (h : mg b ≤ infR) : ltB (mg b) 8660422083433463808 = decide (rv (mg b) < Kg) := by
  rw [ltB_pos h (by rw [infR_val]; omega), ← rv_great_]
  exact decide_eq_decide.2 rv_lt_iff.symm
theorem mid_of {b : Nat} (h : midB b = true) : Mid (sv b) ∧ mg b < infR := by
  unfold midB at h
  rw [Bool.and_eq_true, decide_eq_true_iff, decide_eq_true_iff] at h
  refine ⟨⟨by rw [sv_abs]; exact h.1, by rw [sv_abs]; exact h.2⟩, ?_⟩
  have h2 := h.2
  rw [← rv_great_] at h2
  have := rv_lt_iff.1 h2
  rw [infR_val]
  omega

set_option maxHeartbeats 400000 in
theorem middle_any (b : Nat) (w : World) (h : b < 18446744073709551616) (hn : mg b ≤ infR) :
    Calls Tryd.prog 75 #[.float .f64 b] w fun e w' => e = .returned (.bool (midB b)) ∧ w = w' := by
  have q1 := fo_gt (mg_lt64 b) (show 553942754166571008 < 18446744073709551616 by omega)
  have q2 := fo_lt (mg_lt64 b) (show 8660422083433463808 < 18446744073709551616 by omega)
  rw [mid_gt hn] at q1
  rw [mid_lt hn] at q2
  have HF : Hid ((decide (Ks < rv (mg b)) && decide (rv (mg b) < Kg)) = midB b) := Lib.hid rfl
  have HA := Lib.hid (fun w => mabs_any b w h)
  generalize decide (Ks < rv (mg b)) = b1 at *
  generalize decide (rv (mg b) < Kg) = b2 at *
  clear h hn
  cases b1
  all_goals
    go_enter Tryd.func75, Tryd.ntmps75
    go_wp2_with (go_at_call 76; refine (HA.out _).mono ?_; rintro e w' ⟨rfl, rfl⟩)
    go_ret
    exact ⟨by rw [← HF.out]; rfl, rfl⟩

set_option maxHeartbeats 400000 in
theorem halves_any (x xh xl : Nat) (w : World) (h : HalvesOps x xh xl) :
    Calls Tryd.prog 116 #[.float .f64 x] w fun e w' => e = .returned (.tuple #[.float .f64 xh, .float .f64 xl]) ∧ w = w' := by
  obtain ⟨t, v, h1, h2, h3, h4⟩ := h
  have g1 := fun w => fmul h1 w
  rw [show cP = 4728779608772575232 from rfl] at g1
  have g2 := fun w => fsub h2 w
  have g3 := fun w => fsub h3 w
  have g4 := fun w => fsub h4 w
  clear h1 h2 h3 h4
  go_enter Tryd.func116, Tryd.ntmps116
  go_wp2
  go_ret2
  exact ⟨rfl, rfl⟩

set_option maxHeartbeats 1000000 in
theorem missed_any (x y p r : Nat) (w : World) (h : MissedOps x y p r) :
    Calls Tryd.prog 77 #[.float .f64 x, .float .f64 y, .float .f64 p] w fun e w' => e = .returned (.float .f64 r) ∧ w = w' := by
  obtain ⟨xh, xl, yh, yl, a, b, c, g, e1, e2, e3, hx, hy, h1, h2, h3, h4, h5, h6, h7, h8⟩ := h
  have g1 := fun w => fmul h1 w
  have g2 := fun w => fsub h2 w
  have g3 := fun w => fmul h3 w
  have g4 := fun w => fadd h4 w
  have g5 := fun w => fmul h5 w
  have g6 := fun w => fadd h6 w
  have g7 := fun w => fmul h7 w
  have g8 := fun w => fadd h8 w
  have HX := Lib.hid (fun w => halves_any x xh xl w hx)
  have HY := Lib.hid (fun w => halves_any y yh yl w hy)
  clear h1 h2 h3 h4 h5 h6 h7 h8 hx hy
  go_enter Tryd.func77, Tryd.ntmps77
  go_wp2_with fail
  refine (HX.out _).mono ?_
  rintro e w' ⟨rfl, rfl⟩
  go_wp2_with fail
  refine (HY.out _).mono ?_
  rintro e w' ⟨rfl, rfl⟩
  go_wp2
  go_ret
  exact ⟨rfl, rfl⟩

/-- NaN or infinite. -/
def oddF (b : Nat) : Bool := isNaN b || isInf b
theorem oddF_fin {b : Nat} (h : oddF b = false) : mg b < infR := by
  unfold oddF isNaN isInf at h
  rw [Bool.or_eq_false_iff, decide_eq_false_iff_not, decide_eq_false_iff_not] at h
  omega

set_option maxHeartbeats 1000000 in
theorem odd_any (g k c : Nat) (ss : List Nat) (w : World) (hk : ss.length = k) (hkb : k ≤ 1000) (hc : ∀ i s, ss[i]? = some s → w.cell? ⟨g, i, none⟩ = some (.float .f64 s)) (hs : ∀ s ∈ ss, s < 18446744073709551616) :
    Calls Tryd.prog 74 #[.slice (some ⟨g, 0, none⟩) k c] w fun e w' => e = .returned (.bool (ss.any oddF)) ∧ w = w' := by
  have HC := Lib.hid hc
  have HS := Lib.hid hs
  clear hc hs
  go_enter Tryd.func74, Tryd.ntmps74
  go_wp2
  go_loop [7] (fun t => ∃ i : Nat, i ≤ k ∧ t = .int .i64 i ∧ Hid ((ss.take i).any oddF = false)) (fun t => k - (intOf t).toNat)
  case atStart => exact ⟨0, Nat.zero_le _, rfl, Lib.hid rfl⟩
  case round =>
    obtain ⟨i, hi, rfl, hno⟩ := hrel
    by_cases hlt : i < k
    · obtain ⟨s, hsi⟩ : ∃ s, ss[i]? = some s := ⟨ss[i]'(by omega), List.getElem?_eq_getElem (by omega)⟩
      have hcell := HC.out i s hsi
      have hw := HS.out s (List.mem_of_getElem? hsi)
      have hst : (ss.take (i + 1)).any oddF = oddF s := by
        rw [List.take_add_one, List.any_append, hno.out, hsi]; simp
      have HST := Lib.hid hst
      have HMEM := Lib.hid (List.mem_of_getElem? hsi)
      have hL : oddF s = (isNaN s || isInf s) := rfl
      have HN := Lib.hid (fun w => mnan_any s w hw)
      have HI := Lib.hid (fun w => misinf_any s w hw)
      have HLL := Lib.hid hL
      clear hst hw hL hsi
      generalize isNaN s = b1 at *
      generalize isInf s = b2 at *
      have fin : ∀ b, b = (b1 || b2) → b = true → ss.any oddF = true := fun b e1 e2 => List.any_eq_true.2 ⟨s, HMEM.out, by rw [HLL.out, ← e1, e2]⟩
      have HFIN := Lib.hid fin
      clear fin
      cases b1
      · cases b2
        · go_wp2_with (first | (go_at_call 60; refine (HN.out _).mono ?_; rintro e w' ⟨rfl, rfl⟩) | (go_at_call 62; refine (HI.out _).mono ?_; rintro e w' ⟨rfl, rfl⟩))
          go_round
          case rel => exact ⟨i + 1, by omega, by go_num, Lib.hid (by rw [HST.out, HLL.out]; rfl)⟩
          case measure => simp [intOf]; omega
        · go_wp2_with (first | (go_at_call 60; refine (HN.out _).mono ?_; rintro e w' ⟨rfl, rfl⟩) | (go_at_call 62; refine (HI.out _).mono ?_; rintro e w' ⟨rfl, rfl⟩))
          go_ret
          exact ⟨ret_bool (HFIN.out true rfl rfl).symm, rfl⟩
      · go_wp2_with (first | (go_at_call 60; refine (HN.out _).mono ?_; rintro e w' ⟨rfl, rfl⟩) | (go_at_call 62; refine (HI.out _).mono ?_; rintro e w' ⟨rfl, rfl⟩))
        go_ret
        exact ⟨ret_bool (HFIN.out true rfl rfl).symm, rfl⟩
    · have HF : Hid (ss.any oddF = false) := Lib.hid (by
        have := hno.out
        rwa [List.take_of_length_le (by omega)] at this)
      go_wp2
      go_ret
      exact ⟨ret_bool HF.out.symm, rfl⟩
theorem odd_two (g : Nat) (x y : Nat) (w : World) (hc0 : w.cell? ⟨g, 0, none⟩ = some (.float .f64 x)) (hc1 : w.cell? ⟨g, 1, none⟩ = some (.float .f64 y)) (hx : x < 18446744073709551616) (hy : y < 18446744073709551616) :
    Calls Tryd.prog 74 #[.slice (some ⟨g, 0, none⟩) 2 2] w fun e w' => e = .returned (.bool (oddF x || oddF y)) ∧ w = w' :=
  (odd_any g 2 2 [x, y] w rfl (by omega) (fun i s hs => by
    match i, hs with
    | 0, hs => simp at hs; subst hs; exact hc0
    | 1, hs => simp at hs; subst hs; exact hc1
    | i + 2, hs => simp at hs) (fun s hs => by simp at hs; omega)).mono fun e w' h => ⟨by rw [h.1]; exact ret_bool (by simp), h.2⟩
theorem odd_one (g : Nat) (x : Nat) (w : World) (hc0 : w.cell? ⟨g, 0, none⟩ = some (.float .f64 x)) (hx : x < 18446744073709551616) :
    Calls Tryd.prog 74 #[.slice (some ⟨g, 0, none⟩) 1 1] w fun e w' => e = .returned (.bool (oddF x)) ∧ w = w' :=
  (odd_any g 1 1 [x] w rfl (by omega) (fun i s hs => by
    match i, hs with
    | 0, hs => simp at hs; subst hs; exact hc0
    | i + 1, hs => simp at hs) (fun s hs => by simp at hs; omega)).mono fun e w' h => ⟨by rw [h.1]; exact ret_bool (by simp), h.2⟩
end Go.Proofs.YtadijoeeaineaaaDoor

/-
  The contracts of the program's exact road: product, to, sum. Conditions: those that each theorem names.
-/
namespace Go.Proofs.YtadijoeeaineaaaDoor
open Go.RowKit Nm Rn
set_option maxRecDepth 100000
set_option linter.unusedVariables false
set_option linter.unusedSimpArgs false

set_option maxHeartbeats 1000000 in
theorem product_any (s1 s2 : Bool) (A : Option Addr) (n c : Nat) (xs : List Nat) (x1 : Int) (B : Option Addr) (m d : Nat) (ys : List Nat) (x2 : Int) (w : World) (h : Wds w A n c xs) (hn : n ≤ 8796093022208) (k : Wds w B m d ys) (hm : m ≤ 8796093022208) (hs : bl (nv xs) + bl (nv ys) ≤ 524288)
    (b1 : -4398046511104 ≤ x1) (b2 : x1 ≤ 4398046511104) (b3 : -4398046511104 ≤ x2) (b4 : x2 ≤ 4398046511104) :
    Calls Tryd.prog 80 #[.agg #[.bool s1, .slice A n c, .int .i64 x1], .agg #[.bool s2, .slice B m d, .int .i64 x2]] w (RetD (s1 != s2) (nv xs * nv ys) (x1 + x2) w) := by
  have hO := ((Own.start w).add h).add k
  have HM := Lib.hid (fun w h k => nmul_any A n c xs B m d ys w h hn k hm hs)
  clear h k hs
  go_enter Tryd.func80, Tryd.ntmps80
  go_upto_region 1 with (first
    | (refine own_box hO rfl rfl ?_; clear hO; intro g w1 hO)
    | (refine own_alloc hO zero_dy rfl rfl ?_; clear hO; intro g w1 hO))
  have hF := hO.facts
  simp only [BF, CF, Nat.zero_add, Nat.reduceAdd, and_true] at hF
  go_wp2_with fail
  refine (HM.out _ (hO.wd 1 rfl) (hO.wd 0 rfl)).mono ?_
  rintro e w' ⟨A2, n2, c2, rfl, hR, hEx⟩
  have hO := (hO.ext hEx).add hR
  clear hF hR hEx HM
  have hF := hO.facts
  simp only [BF, CF, Nat.zero_add, Nat.reduceAdd, and_true] at hF
  go_wp2_with (refine own_store hO 0 rfl rfl rfl size_dy rfl rfl rfl ?_; clear hO; intro w1 hO)
  exact own_ret hO 0 rfl rfl rfl agg_dy size_dy rfl ⟨_, _, _, rfl, hO.wd 0 rfl, hO.toExt⟩

theorem to_any (d : Int) (neg : Bool) (A : Option Addr) (n c : Nat) (xs : List Nat) (exp : Int) (w : World) (h : Wds w A n c xs) (hn : n ≤ 1099511627776) (hnl : nw (nv xs) ≤ 16384)
    (he1 : -4398046511104 ≤ exp) (he2 : exp ≤ 4398046511104) :
    Calls Tryd.prog 81 #[.agg #[.bool neg, .slice A n c, .int .i64 exp], .int .i64 d] w fun e w' => e = .returned (.float .f64 (rnd d neg (zd (2 * nv xs) (exp - 1)))) ∧ Ext w w' := by
  have hO := (Own.start w).add h
  have HF := Lib.hid (fun w h => of_any d neg A n c xs exp false w h hn hnl he1 he2 (by intro h; cases h))
  clear h
  go_enter Tryd.func81, Tryd.ntmps81
  go_upto_region 1 with (refine own_box hO rfl rfl ?_; clear hO; intro g w1 hO)
  have hF := hO.facts
  simp only [BF, CF, Nat.zero_add, Nat.reduceAdd, and_true] at hF
  go_wp2_with fail
  refine (HF.out _ (hO.wd 0 rfl)).mono ?_
  rintro e w' ⟨rfl, hEx⟩
  go_wp2
  go_ret
  exact ⟨rfl, hO.toExt.trans hEx⟩
end Go.Proofs.YtadijoeeaineaaaDoor

/-
  Plain: what is left behind 54 digits only has to be told from nothing; quotients. Conditions: those that each theorem names.
-/
set_option linter.unusedVariables false

namespace Go.Proofs.YtadijoeeaineaaaDoor.Rn

/-- What the rounding asks of a Z. -/
def Asks (T : Nat) : Prop := ∃ k, T = 2 * rv k ∨ T = rv k + rv (k + 1)
theorem rr_same {Z Z' : Nat} (h : ∀ T, Asks T → ((2 * T ≤ Z ↔ 2 * T ≤ Z') ∧ (Z = 2 * T ↔ Z' = 2 * T))) (d : Int) (neg : Bool) : rr d neg Z = rr d neg Z' := by
  have hr : rung (Z / 4) = rung (Z' / 4) := by
    have h1 : ∀ k, k ≤ rung (Z / 4) ↔ k ≤ rung (Z' / 4) := fun k => by
      rw [le_rung_iff, le_rung_iff]
      have := (h (2 * rv k) ⟨k, .inl rfl⟩).1
      omega
    have a := (h1 (rung (Z / 4))).1 (Nat.le_refl _)
    have b := (h1 (rung (Z' / 4))).2 (Nat.le_refl _)
    omega
  have ha : away d neg Z = away d neg Z' := by
    unfold away
    rw [hr]
    obtain ⟨h1, h2⟩ := h (2 * rv (rung (Z' / 4))) ⟨_, .inl rfl⟩
    obtain ⟨h3, h4⟩ := h (rv (rung (Z' / 4)) + rv (rung (Z' / 4) + 1)) ⟨_, .inr rfl⟩
    have e1 : (Z = 4 * rv (rung (Z' / 4))) ↔ (Z' = 4 * rv (rung (Z' / 4))) := by omega
    have e2 : decide (2 * (rv (rung (Z' / 4)) + rv (rung (Z' / 4) + 1)) < Z) = decide (2 * (rv (rung (Z' / 4)) + rv (rung (Z' / 4) + 1)) < Z') := decide_eq_decide.2 (by omega)
    have e3 : decide (Z = 2 * (rv (rung (Z' / 4)) + rv (rung (Z' / 4) + 1))) = decide (Z' = 2 * (rv (rung (Z' / 4)) + rv (rung (Z' / 4) + 1))) := decide_eq_decide.2 (by omega)
    rw [e2, e3]
    by_cases h5 : Z = 4 * rv (rung (Z' / 4))
    · rw [if_pos h5, if_pos (e1.1 h5)]
    · rw [if_neg h5, if_neg (fun h6 => h5 (e1.2 h6))]
  unfold rr
  rw [hr, ha]

theorem asks_dvd {T a b : Nat} (hT : Asks T) (h : 9007199254740992 * 2 ^ a < T * 2 ^ b) : 2 ^ a ∣ T * 2 ^ b := by
  obtain ⟨k, hk⟩ := hT
  obtain ⟨s, h1, h2, h3, -⟩ := rv_dvd k
  generalize k / 4503599627370496 - 1 = v at *
  have key : ∀ {m c : Nat}, m < 9007199254740992 → T * 2 ^ b = m * 2 ^ c → 2 ^ a ∣ T * 2 ^ b := by
    intro m c hm e
    rw [e] at h ⊢
    rcases Nat.lt_or_ge c a with h4 | h4
    · exfalso
      have h5 := pow_mono (Nat.le_of_lt h4)
      have := Nat.mul_le_mul (Nat.le_of_lt hm) h5
      omega
    · exact Nat.dvd_mul_left_of_dvd (pow_dvd h4) _
  rcases hk with hk | hk
  · refine key (m := s) (c := v + 1 + b) h3 ?_
    rw [hk, h1, pow_add_ (v + 1) b, two_pow_s]
    ac_rfl
  · have e : T * 2 ^ b = (2 * s + 1) * 2 ^ (v + b) := by
      rw [hk, h1, h2, pow_add_, ← Nat.mul_assoc, ← Nat.add_mul]
      congr 2
      omega
    rw [e] at h ⊢
    rcases Nat.lt_or_ge (v + b) a with h4 | h4
    · exfalso
      have h5 := pow_mono (show v + b + 1 ≤ a by omega)
      rw [two_pow_s] at h5
      have : (2 * s + 1) * 2 ^ (v + b) ≤ 18014398509481984 * 2 ^ (v + b) := Nat.mul_le_mul_right _ (by omega)
      omega
    · exact Nat.dvd_mul_left_of_dvd (pow_dvd h4) _

/-- Nothing that the rounding asks lies strictly between two neighbours of 54 digits. -/
theorem between {Q a b T : Nat} (hQ : 9007199254740992 ≤ Q) (hT : Asks T) (h1 : Q * 2 ^ a < T * 2 ^ b) (h2 : T * 2 ^ b < (Q + 1) * 2 ^ a) : False := by
  have h3 := asks_dvd (a := a) (b := b) hT (Nat.lt_of_le_of_lt (Nat.mul_le_mul_right _ hQ) h1)
  obtain ⟨m, hm⟩ := h3
  rw [hm, Nat.mul_comm _ (2 ^ a)] at h1 h2
  have := Nat.lt_of_mul_lt_mul_left h1
  have := Nat.lt_of_mul_lt_mul_left h2
  omega

/-- How N by M stands to T times 2^b by 2^a, where nothing asked lies between. -/
theorem floor_le {N M Q a b T : Nat} (hM : 0 < M) (hQ : Q = N / M) (hQ1 : 9007199254740992 ≤ Q) (hT : Asks T) :
    (T * (M * 2 ^ b) ≤ N * 2 ^ a ↔ T * 2 ^ b ≤ Q * 2 ^ a) ∧ (N * 2 ^ a = T * (M * 2 ^ b) ↔ N % M = 0 ∧ Q * 2 ^ a = T * 2 ^ b) := by
  have h0 := Nat.div_add_mod N M
  have hl := Nat.mod_lt N hM
  rw [← hQ] at h0
  have hp := two_pow_pos a
  have e0 : T * (M * 2 ^ b) = M * (T * 2 ^ b) := by rw [Nat.mul_left_comm]
  have e1 : N * 2 ^ a = M * (Q * 2 ^ a) + N % M * 2 ^ a := by
    conv => lhs; rw [← h0]
    rw [Nat.add_mul, Nat.mul_assoc]
  have e2 : N % M * 2 ^ a < M * 2 ^ a := Nat.mul_lt_mul_of_pos_right hl hp
  have e3 : M * ((Q + 1) * 2 ^ a) = M * (Q * 2 ^ a) + M * 2 ^ a := by rw [Nat.add_mul, Nat.one_mul, Nat.mul_add]
  rw [e0, e1]
  rcases Nat.lt_or_ge (Q * 2 ^ a) (T * 2 ^ b) with h1 | h1
  · rcases Nat.lt_or_ge (T * 2 ^ b) ((Q + 1) * 2 ^ a) with h2 | h2
    · exact (between hQ1 hT h1 h2).elim
    · have h3 := Nat.mul_le_mul_left M h2
      rw [e3] at h3
      constructor
      · constructor <;> intro <;> omega
      · constructor
        · intro; omega
        · rintro ⟨-, h4⟩; omega
  · have h3 := Nat.mul_le_mul_left M h1
    constructor
    · constructor <;> intro <;> omega
    · constructor
      · intro h4
        have h5 : N % M * 2 ^ a = 0 := by omega
        have h6 : N % M = 0 := by
          rcases Nat.mul_eq_zero.1 h5 with h | h
          · exact h
          · omega
        have h7 : M * (Q * 2 ^ a) = M * (T * 2 ^ b) := by omega
        exact ⟨h6, Nat.eq_of_mul_eq_mul_left hM h7⟩
      · rintro ⟨h4, h5⟩
        rw [h4, h5]; omega

theorem rr_floor {N M N' M' a b : Nat} (hM : 0 < M) (hM' : 0 < M') (hQ : N / M = N' / M') (hQ1 : 9007199254740992 ≤ N / M) (hx : N % M = 0 ↔ N' % M' = 0) (d : Int) (neg : Bool) :
    rr d neg (zq (N * 2 ^ a) (M * 2 ^ b)) = rr d neg (zq (N' * 2 ^ a) (M' * 2 ^ b)) := by
  refine rr_same (fun T hT => ?_) d neg
  have hb := two_pow_pos b
  rw [zq_le (Nat.mul_pos hM hb), zq_le (Nat.mul_pos hM' hb), zq_eq (Nat.mul_pos hM hb), zq_eq (Nat.mul_pos hM' hb)]
  obtain ⟨h1, h2⟩ := floor_le (a := a) (b := b) hM rfl hQ1 hT
  obtain ⟨h3, h4⟩ := floor_le (a := a) (b := b) hM' hQ (by omega) hT
  rw [h1, h2, h3, h4, hx]
  exact ⟨Iff.rfl, Iff.rfl⟩

theorem zq_floor {N M : Nat} (hM : 0 < M) : zq N M / 2 = N / M ∧ (zq N M % 2 = 0 ↔ N % M = 0) := by
  unfold zq
  split <;> rename_i h
  · constructor
    · omega
    · constructor
      · intro; exact h
      · intro; omega
  · constructor
    · omega
    · constructor
      · intro; omega
      · intro h1; exact absurd h1 h

/-- A quotient of finite patterns. -/
theorem div_fin {x y : Nat} (hx : x < 18446744073709551616) (hy : y < 18446744073709551616) (fx : mg x < infR) (fy : mg y < infR) (hy0 : mg y ≠ 0) :
    Ieee.double.div x y = some (Ieee.double.word (sg x ^^ sg y) (near (zq (rv (mg x) * K75) (rv (mg y))))) := by
  obtain ⟨m, i, e1, hi, v1⟩ := read_fin hx fx
  obtain ⟨n, j, e2, hj, v2⟩ := read_fin hy fy
  have hn : n ≠ 0 := by
    intro h
    rw [h, Nat.zero_mul] at v2
    exact hy0 (rv_eq_zero.1 v2.symm)
  unfold Ieee.Format.div
  rw [e1, e2]
  simp only [Ieee.Datum.quotient, if_neg hn, Option.map_some]
  congr 1
  unfold Ieee.Format.write
  simp only
  rw [nearest_eq, near_eq]
  congr 1
  have e3 : Ieee.double.fractionBits + 2 = 54 := rfl
  rw [e3]
  generalize hmore : 54 + n.log2 - m.log2 = more
  have hmag : 2 * (m <<< more / n) + (m <<< more % n != 0).toNat = zq (m * 2 ^ more) n := by
    rw [Nat.shiftLeft_eq]
    unfold zq
    by_cases h : m * 2 ^ more % n = 0
    · rw [h]; rfl
    · rw [if_neg h, show (m * 2 ^ more % n != 0) = true by simpa using h]; rfl
  rw [hmag]
  -- both sides over powers of 2
  obtain ⟨c, hc⟩ : ∃ c : Nat, c = 1075 := ⟨_, rfl⟩
  have hK : K75 = 2 ^ c := by rw [hc]; exact K75_def
  by_cases hm : m = 0
  · have h1 : rv (mg x) = 0 := by rw [← v1, hm, Nat.zero_mul]
    rw [h1, hm, Nat.zero_mul, Nat.zero_mul]
    have z0 : ∀ M, zq 0 M = 0 := fun M => by simp [zq]
    rw [z0, z0, zd_zero]
  · have hfl : 9007199254740992 ≤ m * 2 ^ more / n := by
      rw [Nat.le_div_iff_mul_le (by omega)]
      obtain ⟨a1, a2⟩ := log2_bounds hm
      obtain ⟨b1, b2⟩ := log2_bounds hn
      have e5 : (9007199254740992 : Nat) = 2 ^ 53 := by decide
      rw [e5]
      have h2 : 2 ^ 53 * n ≤ 2 ^ 53 * 2 ^ (n.log2 + 1) := Nat.mul_le_mul_left _ (by omega)
      have h3 : 2 ^ m.log2 * 2 ^ more ≤ m * 2 ^ more := Nat.mul_le_mul_right _ a1
      rw [← pow_add_] at h2 h3
      have h4 := pow_mono (show 53 + (n.log2 + 1) ≤ m.log2 + more by omega)
      omega
    obtain ⟨f1, f2⟩ := zq_floor (N := m * 2 ^ more) (M := n) (by omega)
    -- places
    obtain ⟨A, B, hAB⟩ : ∃ A B : Nat, (A : Int) - B = i - j - more - 1 + 1075 := by
      refine ⟨(i + 1074).toNat + 1075, (j + 1074).toNat + more + 1, ?_⟩
      omega
    rw [zd_of hAB]
    show near _ = near _
    unfold near
    have h5 := rr_floor (N := m * 2 ^ more) (M := n) (N' := zq (m * 2 ^ more) n) (M' := 2) (a := A + 1) (b := B + 1 - 1) (by omega) (by omega) (by omega) hfl (by rw [f2]) 0 false
    rw [show zq (zq (m * 2 ^ more) n * 2 ^ (A + 1)) (2 * 2 ^ (B + 1 - 1)) = zq (zq (m * 2 ^ more) n * 2 ^ A) (2 ^ B) from zq_congr (Nat.mul_pos (by omega) (two_pow_pos _)) (two_pow_pos _) (by
      rw [show B + 1 - 1 = B by omega, two_pow_s]
      ac_rfl)] at h5
    rw [← h5]
    congr 1
    refine zq_congr (Nat.mul_pos (by omega) (two_pow_pos _)) (by rw [← v2]; exact Nat.mul_pos (by omega) (two_pow_pos _)) ?_
    rw [← v1, ← v2, hK, show B + 1 - 1 = B by omega]
    have e6 : more + (A + 1) + (j + 1074).toNat = (i + 1074).toNat + c + B := by omega
    have e7 : 2 ^ more * 2 ^ (A + 1) * 2 ^ (j + 1074).toNat = 2 ^ (i + 1074).toNat * 2 ^ c * 2 ^ B := by
      rw [← pow_add_, ← pow_add_, ← pow_add_, ← pow_add_, e6]
    calc m * 2 ^ more * 2 ^ (A + 1) * (n * 2 ^ (j + 1074).toNat) = m * n * (2 ^ more * 2 ^ (A + 1) * 2 ^ (j + 1074).toNat) := by ac_rfl
      _ = m * n * (2 ^ (i + 1074).toNat * 2 ^ c * 2 ^ B) := by rw [e7]
      _ = m * 2 ^ (i + 1074).toNat * 2 ^ c * (n * 2 ^ B) := by ac_rfl
end Go.Proofs.YtadijoeeaineaaaDoor.Rn
