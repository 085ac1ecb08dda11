/-
  The contracts of the program's quick road: plain, middle, nudge, halves, missed, odd; math.Nextafter. Conditions: those that each theorem names.
-/
import Derived.Test.YtllfcklgljdgeaaZ04
import Derived.Test.YtllfcklgljdgeaaZ06
import Derived.Test.YtllfcklgljdgeaaZ05
namespace Go.Proofs.Ytllfcklgljdgeaa
open Go.RowKit Nm Rn
set_option maxRecDepth 100000
set_option linter.unusedVariables false
set_option linter.unusedSimpArgs false

set_option maxHeartbeats 400000 in
theorem rplain_any (b : Nat) (w : World) (h : b < 18446744073709551616) :
    Calls Try.prog 32 #[.float .f64 b] w fun e w' => e = .returned (.float .f64 (pl b)) ∧ w = w' := by
  have hq := fo_eq h (show 0 < 18446744073709551616 by omega)
  rw [eq0 h] at hq
  by_cases h0 : b = 0 ∨ b = 9223372036854775808
  · rw [decide_eq_true h0] at hq
    have HF : Hid (0 = pl b) := Lib.hid (by unfold pl; rcases h0 with h0 | h0 <;> subst h0 <;> rfl)
    clear h0 h
    go_enter Try.func32, Try.ntmps32
    go_wp2
    go_ret
    exact ⟨ret_float HF.out, rfl⟩
  · rw [decide_eq_false h0] at hq
    have HF : Hid (b = pl b) := Lib.hid (by unfold pl; rw [if_neg (fun h => h0 (.inr h))])
    clear h0 h
    go_enter Try.func32, Try.ntmps32
    go_wp2
    go_ret
    exact ⟨ret_float HF.out, rfl⟩

/-- The next pattern up, and down. -/
def nup (s : Nat) : Nat := if mg s = 0 then 1 else if sg s then s - 1 else s + 1
def ndn (s : Nat) : Nat := if mg s = 0 then 9223372036854775809 else if sg s then s + 1 else s - 1
theorem fin_bd {s : Nat} (hs : s < 18446744073709551616) (h : mg s < infR) : s < 9218868437227405312 ∨ (9223372036854775808 ≤ s ∧ s < 18442240474082181120) := by
  rw [infR_val] at h
  unfold mg at h
  omega
theorem pl_nup {s : Nat} (hs : s < 18446744073709551616) (h : mg s < infR) : pl (nup s) = kp (key s + 1) ∧ nup s < 18446744073709551616 := by
  have hb := fin_bd hs h
  unfold nup pl kp pat key sg
  by_cases h0 : mg s = 0
  · rw [if_pos h0, h0]
    refine ⟨?_, by omega⟩
    by_cases h1 : 9223372036854775808 ≤ s <;> simp [h1]
  · rw [if_neg h0]
    have hm : mg s = if 9223372036854775808 ≤ s then s - 9223372036854775808 else s := by unfold mg; split <;> omega
    by_cases h1 : 9223372036854775808 ≤ s
    · rw [if_pos h1] at hm
      simp only [h1, decide_true, if_true]
      rw [hm] at h0 ⊢
      refine ⟨?_, by omega⟩
      by_cases h2 : s = 9223372036854775809
      · subst h2; rfl
      · rw [if_neg (by omega), if_neg (by omega), decide_eq_true (by omega), if_pos rfl]
        omega
    · rw [if_neg h1] at hm
      simp only [h1, decide_false, Bool.false_eq_true, if_false]
      rw [hm] at h0 ⊢
      refine ⟨?_, by omega⟩
      rw [if_neg (by omega), if_neg (by omega), decide_eq_false (by omega), if_neg (by simp)]
      omega
theorem pl_ndn {s : Nat} (hs : s < 18446744073709551616) (h : mg s < infR) : pl (ndn s) = kp (key s - 1) ∧ ndn s < 18446744073709551616 := by
  have hb := fin_bd hs h
  unfold ndn pl kp pat key sg
  by_cases h0 : mg s = 0
  · rw [if_pos h0, h0]
    refine ⟨?_, by omega⟩
    by_cases h1 : 9223372036854775808 ≤ s <;> simp [h1]
  · rw [if_neg h0]
    have hm : mg s = if 9223372036854775808 ≤ s then s - 9223372036854775808 else s := by unfold mg; split <;> omega
    by_cases h1 : 9223372036854775808 ≤ s
    · rw [if_pos h1] at hm
      simp only [h1, decide_true, if_true]
      rw [hm] at h0 ⊢
      refine ⟨?_, by omega⟩
      rw [if_neg (by omega), if_neg (by omega), decide_eq_true (by omega), if_pos rfl]
      omega
    · rw [if_neg h1] at hm
      simp only [h1, decide_false, Bool.false_eq_true, if_false]
      rw [hm] at h0 ⊢
      refine ⟨?_, by omega⟩
      by_cases h2 : s = 1
      · subst h2; rfl
      · rw [if_neg (by omega), if_neg (by omega), decide_eq_false (by omega), if_neg (by simp)]
        omega

theorem csign_p (w : World) : Calls Try.prog 77 #[.float .f64 1, .float .f64 infR] w fun e w' => e = .returned (.float .f64 1) ∧ w = w' := by
  have h1 : bits .andNot .u64 1 9223372036854775808 = 1 := by decide
  have h2 : bits .and .u64 (infR : Int) 9223372036854775808 = 0 := by decide
  have h3 : bits .or .u64 1 0 = 1 := by decide
  go_enter Try.func77, Try.ntmps77
  go_wp2
  go_ret
  exact ⟨rfl, rfl⟩
theorem csign_m (w : World) : Calls Try.prog 77 #[.float .f64 1, .float .f64 minf] w fun e w' => e = .returned (.float .f64 9223372036854775809) ∧ w = w' := by
  have h1 : bits .andNot .u64 1 9223372036854775808 = 1 := by decide
  have h2 : bits .and .u64 (minf : Int) 9223372036854775808 = 9223372036854775808 := by decide
  have h3 : bits .or .u64 1 9223372036854775808 = 9223372036854775809 := by decide
  go_enter Try.func77, Try.ntmps77
  go_wp2
  go_ret
  exact ⟨rfl, rfl⟩

set_option maxHeartbeats 2000000 in
theorem next_up (s : Nat) (w : World) (hs : s < 18446744073709551616) (hf : mg s < infR) :
    Calls Try.prog 57 #[.float .f64 s, .float .f64 infR] w fun e w' => e = .returned (.float .f64 (nup s)) ∧ w = w' := by
  have hb := fin_bd hs hf
  have hns : isNaN s = false := by unfold isNaN; exact decide_eq_false (by omega)
  have hN1 := fun w => mnan_any s w hs
  have hN2 := fun w => mnan_any infR w infR_lt
  rw [hns] at hN1
  rw [nan_inf] at hN2
  have q1 := fo_eq hs infR_lt
  have e1 : eqB s infR = false := by
    unfold eqB; rw [hns, nan_inf, key_inf]
    have hk : key s ≠ 9218868437227405312 := by unfold key mg sg; split <;> omega
    simp [hk]
  rw [e1] at q1
  have q2 := fo_eq hs (show 0 < 18446744073709551616 by omega)
  rw [eq0 hs] at q2
  have q3 := fo_gt infR_lt hs
  have e3 : ltB s infR = true := by
    unfold ltB; rw [hns, nan_inf, key_inf]
    have hk : key s < 9218868437227405312 := by unfold key mg sg; split <;> omega
    simp [hk]
  rw [e3] at q3
  have q4 := fo_gt hs (show 0 < 18446744073709551616 by omega)
  have e4 : ltB 0 s = (decide (mg s ≠ 0) && !sg s) := by
    unfold ltB; rw [hns, show isNaN 0 = false from rfl, show key 0 = 0 from rfl]
    unfold key
    cases sg s
    · rw [Bool.eq_iff_iff]; simp; omega
    · simp
  rw [e4] at q4
  have HN1 := Lib.hid hN1
  have HN2 := Lib.hid hN2
  have HC := Lib.hid (fun w => csign_p w)
  clear hns hN1 hN2 e1 e3 e4
  by_cases h0 : mg s = 0
  · have h00 : s = 0 ∨ s = 9223372036854775808 := by unfold mg at h0; omega
    rw [decide_eq_true h00] at q2
    have HF : Hid (1 = nup s) := Lib.hid (by unfold nup; rw [if_pos h0])
    clear h0 h00 q4 q3 hb hf hs
    go_enter Try.func57, Try.ntmps57
    go_wp2_with (first | (go_at_call 55; ((with_reducible refine (HN1.out _).mono ?_); rintro e w' ⟨rfl, rfl⟩)) | (go_at_call 55; ((with_reducible refine (HN2.out _).mono ?_); rintro e w' ⟨rfl, rfl⟩)) | (go_at_call 77; refine (HC.out _).mono ?_; rintro e w' ⟨rfl, rfl⟩))
    go_ret
    exact ⟨ret_float HF.out, rfl⟩
  · have h00 : ¬ (s = 0 ∨ s = 9223372036854775808) := by unfold mg at h0; omega
    rw [decide_eq_false h00] at q2
    rw [decide_eq_true h0, Bool.true_and] at q4
    have hsv : sg s = decide (9223372036854775808 ≤ s) := rfl
    have HF : Hid ((if sg s = true then s - 1 else s + 1) = nup s) := Lib.hid (by unfold nup; rw [if_neg h0])
    obtain ⟨S, hS⟩ : ∃ S, S = sg s := ⟨_, rfl⟩
    rw [← hS] at q4 HF hsv
    have hs1 : 1 ≤ s := by omega
    have hs2 : s ≤ 18442240474082181119 := by omega
    clear h0 h00 hb hf hs hS hsv
    cases S
    all_goals
      go_enter Try.func57, Try.ntmps57
      go_wp2_with (first | (go_at_call 55; ((with_reducible refine (HN1.out _).mono ?_); rintro e w' ⟨rfl, rfl⟩)) | (go_at_call 55; ((with_reducible refine (HN2.out _).mono ?_); rintro e w' ⟨rfl, rfl⟩)) | (go_at_call 77; refine (HC.out _).mono ?_; rintro e w' ⟨rfl, rfl⟩))
      go_ret
      exact ⟨ret_float (by rw [← HF.out]; first | rfl | (simp; omega)), rfl⟩
set_option maxHeartbeats 2000000 in
theorem next_down (s : Nat) (w : World) (hs : s < 18446744073709551616) (hf : mg s < infR) :
    Calls Try.prog 57 #[.float .f64 s, .float .f64 minf] w fun e w' => e = .returned (.float .f64 (ndn s)) ∧ w = w' := by
  have hb := fin_bd hs hf
  have hns : isNaN s = false := by unfold isNaN; exact decide_eq_false (by omega)
  have hN1 := fun w => mnan_any s w hs
  have hN2 := fun w => mnan_any minf w minf_lt
  rw [hns] at hN1
  rw [nan_minf] at hN2
  have q1 := fo_eq hs minf_lt
  have e1 : eqB s minf = false := by
    unfold eqB; rw [hns, nan_minf, key_minf]
    have hk : key s ≠ -9218868437227405312 := by unfold key mg sg; split <;> omega
    simp [hk]
  rw [e1] at q1
  have q2 := fo_eq hs (show 0 < 18446744073709551616 by omega)
  rw [eq0 hs] at q2
  have q3 := fo_gt minf_lt hs
  have e3 : ltB s minf = false := by
    unfold ltB; rw [hns, nan_minf, key_minf]
    have hk : ¬ key s < -9218868437227405312 := by unfold key mg sg; split <;> omega
    simp [hk]
  rw [e3] at q3
  have q4 := fo_gt hs (show 0 < 18446744073709551616 by omega)
  have e4 : ltB 0 s = (decide (mg s ≠ 0) && !sg s) := by
    unfold ltB; rw [hns, show isNaN 0 = false from rfl, show key 0 = 0 from rfl]
    unfold key
    cases sg s
    · rw [Bool.eq_iff_iff]; simp; omega
    · simp
  rw [e4] at q4
  have HN1 := Lib.hid hN1
  have HN2 := Lib.hid hN2
  have HC := Lib.hid (fun w => csign_m w)
  clear hns hN1 hN2 e1 e3 e4
  by_cases h0 : mg s = 0
  · have h00 : s = 0 ∨ s = 9223372036854775808 := by unfold mg at h0; omega
    rw [decide_eq_true h00] at q2
    have HF : Hid (9223372036854775809 = ndn s) := Lib.hid (by unfold ndn; rw [if_pos h0])
    clear h0 h00 q4 q3 hb hf hs
    go_enter Try.func57, Try.ntmps57
    go_wp2_with (first | (go_at_call 55; ((with_reducible refine (HN1.out _).mono ?_); rintro e w' ⟨rfl, rfl⟩)) | (go_at_call 55; ((with_reducible refine (HN2.out _).mono ?_); rintro e w' ⟨rfl, rfl⟩)) | (go_at_call 77; refine (HC.out _).mono ?_; rintro e w' ⟨rfl, rfl⟩))
    go_ret
    exact ⟨ret_float HF.out, rfl⟩
  · have h00 : ¬ (s = 0 ∨ s = 9223372036854775808) := by unfold mg at h0; omega
    rw [decide_eq_false h00] at q2
    rw [decide_eq_true h0, Bool.true_and] at q4
    have hsv : sg s = decide (9223372036854775808 ≤ s) := rfl
    have HF : Hid ((if sg s = true then s + 1 else s - 1) = ndn s) := Lib.hid (by unfold ndn; rw [if_neg h0])
    obtain ⟨S, hS⟩ : ∃ S, S = sg s := ⟨_, rfl⟩
    rw [← hS] at q4 HF hsv
    have hs1 : 1 ≤ s := by omega
    have hs2 : s ≤ 18442240474082181119 := by omega
    clear h0 h00 hb hf hs hS hsv
    cases S
    all_goals
      go_enter Try.func57, Try.ntmps57
      go_wp2_with (first | (go_at_call 55; ((with_reducible refine (HN1.out _).mono ?_); rintro e w' ⟨rfl, rfl⟩)) | (go_at_call 55; ((with_reducible refine (HN2.out _).mono ?_); rintro e w' ⟨rfl, rfl⟩)) | (go_at_call 77; refine (HC.out _).mono ?_; rintro e w' ⟨rfl, rfl⟩))
      go_ret
      exact ⟨ret_float (by rw [← HF.out]; first | rfl | (simp; omega)), rfl⟩

set_option maxHeartbeats 2000000 in
/-- nudge: the pattern s, and something of e's sign. -/
theorem nudge_any (d : Int) (s e : Nat) (E : Int) (w : World) (hs : s < 18446744073709551616) (hf : mg s < infR) (he : e < 18446744073709551616) (h1 : ltB e 0 = decide (E < 0)) (h2 : ltB 0 e = decide (0 < E)) :
    Calls Try.prog 34 #[.int .i64 d, .float .f64 s, .float .f64 e] w fun en w' => en = .returned (.float .f64 (kp (key s + adj d E))) ∧ w = w' := by
  have q1 := fo_lt he (show 0 < 18446744073709551616 by omega)
  have q2 := fo_gt he (show 0 < 18446744073709551616 by omega)
  rw [h1] at q1
  rw [h2] at q2
  have hU := pl_nup hs hf
  have hD := pl_ndn hs hf
  have HP := Lib.hid (fun w => rplain_any s w hs)
  have HPU := Lib.hid (fun w => rplain_any (nup s) w hU.2)
  have HPD := Lib.hid (fun w => rplain_any (ndn s) w hD.2)
  have HNU := Lib.hid (fun w => next_up s w hs hf)
  have HND := Lib.hid (fun w => next_down s w hs hf)
  have HI := Lib.hid (fun w => inf_p w)
  have HJ := Lib.hid (fun w => inf_m w)
  have hK := kp_key hs
  have hcase : ((d == -1) = true ∧ (d == 1) = false) ∨ ((d == -1) = false ∧ (d == 1) = true) ∨ ((d == -1) = false ∧ (d == 1) = false) := by
    by_cases a : d = -1
    · left; subst a; exact ⟨rfl, rfl⟩
    · by_cases b : d = 1
      · right; left; subst b; exact ⟨rfl, rfl⟩
      · right; right; simp [a, b]
  have hres : ∃ R, R = kp (key s + adj d E) ∧ (((d == -1) = true ∧ decide (E < 0) = true ∧ R = pl (ndn s)) ∨ ((d == -1) = true ∧ decide (E < 0) = false ∧ R = pl s) ∨ ((d == 1) = true ∧ decide (0 < E) = true ∧ R = pl (nup s)) ∨ ((d == 1) = true ∧ decide (0 < E) = false ∧ R = pl s) ∨ ((d == -1) = false ∧ (d == 1) = false ∧ R = pl s)) := by
    refine ⟨_, rfl, ?_⟩
    unfold adj
    rw [hD.1, hU.1, ← hK]
    by_cases a : d = -1
    · subst a
      by_cases b : E < 0
      · left; simp [b]; rfl
      · right; left; simp [b]
    · by_cases a2 : d = 1
      · subst a2
        by_cases b : 0 < E
        · right; right; left; simp [b]
        · right; right; right; left; simp [b]
      · right; right; right; right
        simp [a, a2]
  obtain ⟨R, hR, hr⟩ := hres
  rw [← hR]
  generalize decide (E < 0) = b1 at *
  generalize decide (0 < E) = b2 at *
  generalize ndn s = sd at *
  generalize nup s = su at *
  clear hR hK hU hD h1 h2 hs hf he
  rcases hcase with ⟨c1, c2⟩ | ⟨c1, c2⟩ | ⟨c1, c2⟩
  all_goals
    rw [c1, c2] at hr
    simp only [Bool.false_eq_true, Bool.true_eq_false, true_and, false_and, or_false, false_or] at hr
  · rcases hr with ⟨rfl, hr⟩ | ⟨rfl, hr⟩
    all_goals
      have HR := Lib.hid hr
      clear hr
      go_enter Try.func34, Try.ntmps34
      go_wp2_with (first | (go_at_call 49; ((with_reducible refine (HI.out _).mono ?_); rintro e w' ⟨rfl, rfl⟩)) | (go_at_call 49; ((with_reducible refine (HJ.out _).mono ?_); rintro e w' ⟨rfl, rfl⟩)) | (go_at_call 57; ((with_reducible refine (HNU.out _).mono ?_); rintro e w' ⟨rfl, rfl⟩)) | (go_at_call 57; ((with_reducible refine (HND.out _).mono ?_); rintro e w' ⟨rfl, rfl⟩)) | (go_at_call 32; ((with_reducible refine (HP.out _).mono ?_); rintro e w' ⟨rfl, rfl⟩)) | (go_at_call 32; ((with_reducible refine (HPU.out _).mono ?_); rintro e w' ⟨rfl, rfl⟩)) | (go_at_call 32; ((with_reducible refine (HPD.out _).mono ?_); rintro e w' ⟨rfl, rfl⟩)))
      go_ret
      exact ⟨ret_float HR.out.symm, rfl⟩
  · rcases hr with ⟨rfl, hr⟩ | ⟨rfl, hr⟩
    all_goals
      have HR := Lib.hid hr
      clear hr
      go_enter Try.func34, Try.ntmps34
      go_wp2_with (first | (go_at_call 49; ((with_reducible refine (HI.out _).mono ?_); rintro e w' ⟨rfl, rfl⟩)) | (go_at_call 49; ((with_reducible refine (HJ.out _).mono ?_); rintro e w' ⟨rfl, rfl⟩)) | (go_at_call 57; ((with_reducible refine (HNU.out _).mono ?_); rintro e w' ⟨rfl, rfl⟩)) | (go_at_call 57; ((with_reducible refine (HND.out _).mono ?_); rintro e w' ⟨rfl, rfl⟩)) | (go_at_call 32; ((with_reducible refine (HP.out _).mono ?_); rintro e w' ⟨rfl, rfl⟩)) | (go_at_call 32; ((with_reducible refine (HPU.out _).mono ?_); rintro e w' ⟨rfl, rfl⟩)) | (go_at_call 32; ((with_reducible refine (HPD.out _).mono ?_); rintro e w' ⟨rfl, rfl⟩)))
      go_ret
      exact ⟨ret_float HR.out.symm, rfl⟩
  · have HR := Lib.hid hr
    clear hr
    go_enter Try.func34, Try.ntmps34
    go_wp2_with (go_at_call 32; refine (HP.out _).mono ?_; rintro e w' ⟨rfl, rfl⟩)
    go_ret
    exact ⟨ret_float HR.out.symm, rfl⟩
end Go.Proofs.Ytllfcklgljdgeaa

/-
  Plain: a product's parts, and what its nearest number lacks (Veltkamp, Dekker). Conditions: those that each theorem names.
-/
set_option linter.unusedVariables false

namespace Go.Proofs.Ytllfcklgljdgeaa.Rn

theorem pow_add_ (a b : Nat) : 2 ^ (a + b) = 2 ^ a * 2 ^ b := Nat.pow_add 2 a b
theorem p26 (u : Nat) : 2 ^ (26 + u) = 67108864 * 2 ^ u := by rw [pow_add_]
theorem p27 (u : Nat) : 2 ^ (27 + u) = 134217728 * 2 ^ u := by rw [pow_add_]
theorem p28 (u : Nat) : 2 ^ (28 + u) = 268435456 * 2 ^ u := by rw [pow_add_]

theorem Dv.mk (u : Nat) (k : Int) : Dv u (k * ((2 ^ u : Nat) : Int)) := Dv.iff.2 (Int.dvd_mul_left _ _)
theorem Dv.get {u : Nat} {S : Int} (h : Dv u S) : ∃ k : Int, S = k * ((2 ^ u : Nat) : Int) := by
  obtain ⟨k, hk⟩ := Dv.iff.1 h
  exact ⟨k, by rw [hk, Int.mul_comm]⟩
theorem rn_dv {S : Int} {u : Nat} (h : 9007199254740992 * 2 ^ u ≤ S.natAbs) : Dv (u + 1) (rn S) := by
  unfold Dv
  rw [rn_abs]
  exact Nat.dvd_trans (pow_dvd (ex_gt h)) (rn_dvd_ex _)

/-- What the cutting of a number by 2^27 + 1 gives. -/
structure Halves (u : Nat) (x h l : Int) : Prop where
  sum : h + l = x
  dvh : Dv (27 + u) h
  dvl : Dv u l
  lel : l.natAbs ≤ 67108864 * 2 ^ u
  leh : h.natAbs ≤ 9007199254740992 * 2 ^ u

theorem halves_nat {Q u : Nat} (h1 : 4503599627370496 * 2 ^ u ≤ Q) (h2 : Q < 9007199254740992 * 2 ^ u) (h3 : 2 ^ u ∣ Q) {t v h l : Int} (ht : t = rn (134217729 * (Q : Int))) (hv : v = rn (t - Q)) (hh : h = rn (t - v)) (hl : l = rn (Q - h)) :
    Halves u Q h l := by
  obtain ⟨A, hA⟩ : ∃ A, A = 2 ^ u := ⟨_, rfl⟩
  have hA0 : 0 < A := by rw [hA]; exact two_pow_pos u
  have h3' := h3
  obtain ⟨m, hm⟩ := h3
  have q26 := p26 u
  have q27 := p27 u
  have q28 := p28 u
  rw [← hA] at h1 h2 hm q26 q27 q28
  have hm' : m = 4503599627370496 ∨ 4503599627370497 ≤ m := by
    rcases Nat.lt_or_ge m 4503599627370496 with h | h
    · exfalso
      have := Nat.mul_lt_mul_of_pos_left h hA0
      omega
    · omega
  have hQhi : Q + A ≤ 9007199254740992 * A := by
    have : m < 9007199254740992 := by
      rcases Nat.lt_or_ge m 9007199254740992 with h | h
      · exact h
      · have := Nat.mul_le_mul_left A h; omega
    have := Nat.mul_le_mul_left A (show m + 1 ≤ 9007199254740992 by omega)
    rw [Nat.mul_add] at this
    omega
  have hQlo : Q = 4503599627370496 * A ∨ 4503599627370497 * A ≤ Q := by
    rcases hm' with h | h
    · left; rw [hm, h, Nat.mul_comm]
    · right; have := Nat.mul_le_mul_left A h; rw [hm]; omega
  clear hm' hm
  have hCQ : (134217729 * (Q : Int)).natAbs = 134217729 * Q := by omega
  -- t
  have ht1 : Dv (27 + u) t ∧ (2 * (t - 134217729 * (Q : Int)).natAbs ≤ 134217728 * A ∨ 1208925819614629174706176 * A ≤ 134217729 * Q ∧ 2 * (t - 134217729 * (Q : Int)).natAbs ≤ 268435456 * A) ∧ (Q = 4503599627370496 * A → t = 134217729 * (Q : Int)) := by
    refine ⟨?_, ?_, ?_⟩
    · rw [ht]
      have := rn_dv (S := 134217729 * (Q : Int)) (u := 26 + u) (by rw [hCQ, q26]; omega)
      rwa [show 26 + u + 1 = 27 + u by omega] at this
    · rcases Nat.lt_or_ge (134217729 * Q) (1208925819614629174706176 * A) with h | h
      · left
        have := rn_err (S := 134217729 * (Q : Int)) (u := 27 + u) (by rw [hCQ, q27]; omega)
        rwa [← ht, q27] at this
      · right
        refine ⟨h, ?_⟩
        have := rn_err (S := 134217729 * (Q : Int)) (u := 28 + u) (by rw [hCQ, q28]; omega)
        rwa [← ht, q28] at this
    · intro h
      rw [ht]
      refine rn_of ?_
      unfold RpZ
      rw [hCQ, h, show 134217729 * (4503599627370496 * A) = 4503599660924928 * 2 ^ (27 + u) by rw [q27]; omega]
      exact Rp.mk _ (by omega)
  obtain ⟨ht2, ht3, ht4⟩ := ht1
  -- v
  have hW1 : 604462909807314587353088 * A ≤ (t - Q).natAbs := by
    rcases hQlo with h | h
    · have := ht4 h; omega
    · rcases ht3 with h4 | ⟨h4, h5⟩ <;> omega
  have hW2 : (t - Q).natAbs ≤ 1208925819614629174706176 * A ∧ 0 < t - Q := by
    rcases ht3 with h4 | ⟨h4, h5⟩ <;> omega
  have hv1 : Dv (27 + u) v := by
    rw [hv]
    have := rn_dv (S := t - Q) (u := 26 + u) (by rw [q26]; omega)
    rwa [show 26 + u + 1 = 27 + u by omega] at this
  have hv2 : 2 * (v - (t - Q)).natAbs ≤ 134217728 * A := by
    rcases Nat.lt_or_ge (t - Q).natAbs (1208925819614629174706176 * A) with h | h
    · have := rn_err (S := t - Q) (u := 27 + u) (by rw [q27]; omega)
      rwa [← hv, q27] at this
    · have : RpZ (t - Q) := by
        unfold RpZ
        rw [show (t - Q).natAbs = 9007199254740992 * 2 ^ (27 + u) by rw [q27]; omega]
        exact Rp.mk _ (by omega)
      rw [hv, rn_of this, Int.sub_self]
      simp
  -- h
  have hh1 : Dv (27 + u) (t - v) := ht2.sub hv1
  have hh2 : (t - v).natAbs ≤ 9007199254740992 * A := by
    have := hh1.le (M := 67108864) (by rw [q27]; omega)
    rw [q27] at this
    omega
  have hh3 : h = t - v := by
    rw [hh]
    exact rn_of (hh1.rp (by rw [q27]; omega))
  have hQd : Dv u (Q : Int) := by
    unfold Dv
    rw [Int.natAbs_natCast]
    exact h3'
  have hl1 : Dv u ((Q : Int) - h) := hQd.sub (by rw [hh3]; exact hh1.mono (by omega))
  have hl2 : ((Q : Int) - h).natAbs ≤ 67108864 * A := by rw [hh3]; omega
  have hl3 : l = Q - h := by
    rw [hl]
    exact rn_of (hl1.rp (by rw [← hA]; omega))
  exact ⟨by rw [hl3]; omega, by rw [hh3]; exact hh1, by rw [hl3]; exact hl1, by rw [hl3, ← hA]; exact hl2, by rw [hh3, ← hA]; exact hh2⟩

theorem halves_spec {x : Int} (hx : RpZ x) {u : Nat} (hu : u = ex x.natAbs) (h0 : 4503599627370496 * 2 ^ u ≤ x.natAbs) {t v h l : Int} (ht : t = rn (134217729 * x)) (hv : v = rn (t - x)) (hh : h = rn (t - v)) (hl : l = rn (x - h)) :
    Halves u x h l := by
  have h2 := ex_hi x.natAbs
  rw [← hu] at h2
  have h3 := hx.dv (Nat.le_refl _)
  rw [← hu] at h3
  rcases Int.lt_or_le x 0 with hneg | hpos
  · obtain ⟨Q, hQ⟩ : ∃ Q : Nat, x = -(Q : Int) := ⟨x.natAbs, by omega⟩
    subst hQ
    rw [Int.natAbs_neg, Int.natAbs_natCast] at h0 h2
    unfold Dv at h3
    rw [Int.natAbs_neg, Int.natAbs_natCast] at h3
    have e1 : -t = rn (134217729 * (Q : Int)) := by rw [ht, ← rn_neg]; congr 1; omega
    have e2 : -v = rn (-t - Q) := by rw [hv, ← rn_neg]; congr 1; omega
    have e3 : -h = rn (-t - -v) := by rw [hh, ← rn_neg]; congr 1; omega
    have e4 : -l = rn ((Q : Int) - -h) := by rw [hl, ← rn_neg]; congr 1; omega
    have := halves_nat h0 h2 h3 e1 e2 e3 e4
    refine ⟨by have := this.sum; omega, ?_, ?_, ?_, ?_⟩
    · have := this.dvh.neg; rwa [Int.neg_neg] at this
    · have := this.dvl.neg; rwa [Int.neg_neg] at this
    · have := this.lel; rwa [Int.natAbs_neg] at this
    · have := this.leh; rwa [Int.natAbs_neg] at this
  · obtain ⟨Q, hQ⟩ : ∃ Q : Nat, x = (Q : Int) := ⟨x.natAbs, by omega⟩
    subst hQ
    rw [Int.natAbs_natCast] at h0 h2
    unfold Dv at h3
    rw [Int.natAbs_natCast] at h3
    exact halves_nat h0 h2 h3 ht hv hh hl

theorem Dv.mul {u v : Nat} {S T : Int} (h : Dv u S) (k : Dv v T) : Dv (u + v) (S * T) := by
  unfold Dv at *
  rw [Int.natAbs_mul, pow_add_]
  exact Nat.mul_dvd_mul h k
theorem abs_mul_le {S T : Int} {a b : Nat} (h : S.natAbs ≤ a) (k : T.natAbs ≤ b) : (S * T).natAbs ≤ a * b := by
  rw [Int.natAbs_mul]; exact Nat.mul_le_mul h k
/-- Divided by a power of 2 that goes into it. -/
theorem Dv.div {u c : Nat} {S : Int} (h : Dv (u + c) S) {q : Int} (hq : q * ((2 ^ c : Nat) : Int) = S) : Dv u q := by
  obtain ⟨k, hk⟩ := Dv.get h
  have hc : ((2 ^ c : Nat) : Int) ≠ 0 := by have := two_pow_pos c; omega
  rw [pow_add_, Int.natCast_mul, ← Int.mul_assoc, ← hq] at hk
  have := Int.eq_of_mul_eq_mul_right hc hk
  rw [this]
  exact Dv.mk u k
theorem abs_div_le {c M : Nat} {q S : Int} (hq : q * ((2 ^ c : Nat) : Int) = S) (h : S.natAbs ≤ M * 2 ^ c) : q.natAbs ≤ M := by
  rw [← hq, Int.natAbs_mul, Int.natAbs_natCast] at h
  exact Nat.le_of_mul_le_mul_right h (two_pow_pos c)

/-- Two numbers cut in two, in units in which the product of their last places is 2^k: what the nearest number to the product lacks of it. a, b, c, g: the products of the parts, as they are. -/
theorem dekker {k : Nat} {a b c g p q e1 e2 e3 r : Int} (ha : Dv (54 + k) a) (hb : Dv (27 + k) b) (hc : Dv (27 + k) c) (hg : Dv k g)
    (lb : b.natAbs ≤ 604462909807314587353088 * 2 ^ k) (lc : c.natAbs ≤ 604462909807314587353088 * 2 ^ k) (lg : g.natAbs ≤ 4503599627370496 * 2 ^ k)
    (hq : q = a + b + c + g) (hq1 : 20282409603651670423947251286016 * 2 ^ k ≤ q.natAbs) (hq2 : q.natAbs < 81129638414606681695789005144064 * 2 ^ k) (hp : p = rn q)
    (he1 : e1 = rn (a - p)) (he2 : e2 = rn (e1 + b)) (he3 : e3 = rn (e2 + c)) (hr : r = rn (e3 + g)) : r = q - p ∧ RpZ (q - p) := by
  obtain ⟨A, hA⟩ : ∃ A, A = 2 ^ k := ⟨_, rfl⟩
  have hA0 : 0 < A := by rw [hA]; exact two_pow_pos k
  have x27 := p27 k
  have x51 : 2 ^ (51 + k) = 2251799813685248 * A := by rw [pow_add_, ← hA]
  have x52 : 2 ^ (52 + k) = 4503599627370496 * A := by rw [pow_add_, ← hA]
  have x53 : 2 ^ (53 + k) = 9007199254740992 * A := by rw [pow_add_, ← hA]
  rw [← hA] at lb lc lg hq1 hq2 x27
  have dp : Dv (52 + k) p := by
    rw [hp]
    have := rn_dv (S := q) (u := 51 + k) (by rw [x51]; omega)
    rwa [show 51 + k + 1 = 52 + k by omega] at this
  have lp : 2 * (p - q).natAbs ≤ 9007199254740992 * A := by
    have := rn_err (S := q) (u := 53 + k) (by rw [x53]; omega)
    rwa [← hp, x53] at this
  have d1 : Dv (52 + k) (a - p) := (ha.mono (by omega)).sub dp
  have f1 : e1 = a - p := by rw [he1]; exact rn_of (d1.rp (by rw [x52]; omega))
  have d2 : Dv (27 + k) (e1 + b) := by rw [f1]; exact (d1.mono (by omega)).add hb
  have f2 : e2 = e1 + b := by rw [he2]; exact rn_of (d2.rp (by rw [x27]; omega))
  have d3 : Dv (27 + k) (e2 + c) := by rw [f2]; exact d2.add hc
  have f3 : e3 = e2 + c := by rw [he3]; exact rn_of (d3.rp (by rw [x27]; omega))
  have d4 : Dv k (e3 + g) := by rw [f3]; exact (d3.mono (by omega)).add hg
  have d5 : RpZ (e3 + g) := d4.rp (by rw [← hA]; omega)
  have f4 : e3 + g = q - p := by omega
  exact ⟨by rw [hr, rn_of d5, f4], by rw [← f4]; exact d5⟩
end Go.Proofs.Ytllfcklgljdgeaa.Rn

/-
  Plain: finite patterns by the whole number that they stand for, in units of 2^-1074: what +, -, * give. Conditions: those that each theorem names.
-/
set_option linter.unusedVariables false

namespace Go.Proofs.Ytllfcklgljdgeaa.Rn

/-- A pattern that stands for S times 2^-1074. -/
structure Fl (b : Nat) (S : Int) : Prop where
  lt : b < 18446744073709551616
  fin : mg b < infR
  val : sv b = S

theorem Fl.of {b : Nat} (h : b < 18446744073709551616) (hf : mg b < infR) : Fl b (sv b) := ⟨h, hf, rfl⟩
theorem sv_abs (b : Nat) : (sv b).natAbs = rv (mg b) := by unfold sv; split <;> omega
theorem Fl.abs {b : Nat} {S : Int} (h : Fl b S) : S.natAbs = rv (mg b) := by rw [← h.val, sv_abs]
theorem Fl.rp {b : Nat} {S : Int} (h : Fl b S) : RpZ S := by unfold RpZ; rw [h.abs]; exact ⟨_, rfl⟩
theorem Fl.nan {b : Nat} {S : Int} (h : Fl b S) : isNaN b = false := by unfold isNaN; exact decide_eq_false (by have := h.fin; omega)
theorem Fl.lt_iff {x y : Nat} {S T : Int} (h : Fl x S) (k : Fl y T) : key x < key y ↔ S < T := by rw [← h.val, ← k.val]; exact (rv_key x y).1.symm
theorem Fl.le_iff {x y : Nat} {S T : Int} (h : Fl x S) (k : Fl y T) : key x ≤ key y ↔ S ≤ T := by
  have := k.lt_iff h
  omega
theorem Fl.eq_iff {x y : Nat} {S T : Int} (h : Fl x S) (k : Fl y T) : key x = key y ↔ S = T := by rw [← h.val, ← k.val]; exact (rv_key x y).2.symm
theorem Fl.ltB {x y : Nat} {S T : Int} (h : Fl x S) (k : Fl y T) : ltB x y = decide (S < T) := by
  unfold Rn.ltB; rw [h.nan, k.nan]; simp only [Bool.not_false, Bool.true_and]; exact decide_eq_decide.2 (h.lt_iff k)
theorem Fl.leB {x y : Nat} {S T : Int} (h : Fl x S) (k : Fl y T) : leB x y = decide (S ≤ T) := by
  unfold Rn.leB; rw [h.nan, k.nan]; simp only [Bool.not_false, Bool.true_and]; exact decide_eq_decide.2 (h.le_iff k)
theorem Fl.eqB {x y : Nat} {S T : Int} (h : Fl x S) (k : Fl y T) : eqB x y = decide (S = T) := by
  unfold Rn.eqB; rw [h.nan, k.nan]; simp only [Bool.not_false, Bool.true_and]; exact decide_eq_decide.2 (h.eq_iff k)

theorem near_lt' (Z : Nat) : near Z < 9223372036854775808 := rr_lt 0 false Z

theorem sv_word {neg : Bool} {r : Nat} (hr : r < 9223372036854775808) : sv (Ieee.double.word neg r) = if neg then -(rv r : Int) else (rv r : Int) := by
  unfold sv
  rw [sg_word hr, mg_word hr]

/-- A word is the pattern of the rounded sum. -/
theorem Fl.word {neg : Bool} {S : Int} (hn : S ≠ 0 → neg = decide (S < 0)) (hS : nr S.natAbs < infR) : Fl (Ieee.double.word neg (near (4 * S.natAbs))) (rn S) := by
  have e : near (4 * S.natAbs) = nr S.natAbs := by rw [near_nr]; exact Nat.min_eq_left (by omega)
  have h1 := near_lt' (4 * S.natAbs)
  refine ⟨word_lt h1, by rw [mg_word h1, e]; exact hS, ?_⟩
  rw [sv_word h1, e]
  unfold rn
  by_cases h0 : S = 0
  · subst h0
    have := nr_rv 0
    rw [rv_zero] at this
    rw [show (0 : Int).natAbs = 0 from rfl, this, rv_zero]
    cases neg <;> rfl
  · rw [hn h0]
    by_cases h : S < 0
    · rw [decide_eq_true h, if_pos rfl, if_pos h]
    · rw [decide_eq_false h, if_neg (by simp), if_neg h]

theorem Fl.sum {neg : Bool} {S : Int} (hS : nr S.natAbs < infR) : Fl (sumPat neg S) (rn S) := by
  unfold sumPat
  by_cases h0 : S = 0
  · subst h0
    rw [if_pos rfl]
    have := Fl.word (neg := neg) (S := 0) (fun h => absurd rfl h) hS
    have e : near (4 * (0 : Int).natAbs) = 0 := rr_zero 0 false
    rwa [e] at this
  · rw [if_neg h0]
    exact Fl.word (fun _ => rfl) hS

theorem Fl.add {x y : Nat} {S T : Int} (h : Fl x S) (k : Fl y T) (hS : nr (S + T).natAbs < infR) : ∃ r, Ieee.double.add x y = some r ∧ Fl r (rn (S + T)) := by
  refine ⟨_, add_fin h.lt k.lt h.fin k.fin, ?_⟩
  rw [h.val, k.val]
  exact Fl.sum hS

theorem Fl.neg {b : Nat} {S : Int} (h : Fl b S) : Fl (ng b) (-S) := ⟨ng_lt h.lt, by rw [mg_ng h.lt]; exact h.fin, by rw [sv_ng h.lt, h.val]⟩
theorem read_ng {b : Nat} (h : b < 18446744073709551616) : Ieee.double.read (ng b) = (Ieee.double.read b).opposite := by
  have e : Ieee.double.signWeight = 9223372036854775808 := rfl
  have e1 : (ng b) % 9223372036854775808 = b % 9223372036854775808 := mg_ng h
  unfold Ieee.Format.read
  simp only [sg_bit h, sg_bit (ng_lt h), sg_ng h]
  rw [e, e1]
  by_cases c1 : b % 9223372036854775808 < Ieee.double.binade
  · rw [if_pos c1, if_pos c1]; rfl
  · rw [if_neg c1, if_neg c1]
    by_cases c2 : b % 9223372036854775808 < Ieee.double.infRung
    · rw [if_pos c2, if_pos c2]; rfl
    · rw [if_neg c2, if_neg c2]
      by_cases c3 : b % 9223372036854775808 = Ieee.double.infRung
      · rw [if_pos c3, if_pos c3]; rfl
      · rw [if_neg c3, if_neg c3]; rfl
theorem sub_add {x y : Nat} (hy : y < 18446744073709551616) : Ieee.double.sub x y = Ieee.double.add x (ng y) := by
  unfold Ieee.Format.sub Ieee.Format.add
  rw [read_ng hy]
theorem Fl.sub {x y : Nat} {S T : Int} (h : Fl x S) (k : Fl y T) (hS : nr (S - T).natAbs < infR) : ∃ r, Ieee.double.sub x y = some r ∧ Fl r (rn (S - T)) := by
  rw [sub_add k.lt, Int.sub_eq_add_neg]
  exact h.add k.neg (by rwa [← Int.sub_eq_add_neg])

theorem zq_mul_pow {q c : Nat} : zq (q * 2 ^ (c + 1)) (2 ^ c) = 4 * q := by
  rw [show 4 * q = 2 * (2 * q) by omega]
  refine (zq_eq (two_pow_pos c)).2 ?_
  rw [two_pow_s, Nat.mul_left_comm, Nat.mul_assoc]
theorem Fl.mul {x y : Nat} {S T q : Int} (h : Fl x S) (k : Fl y T) (hq : q * ((2 ^ 1074 : Nat) : Int) = S * T) (hS : nr q.natAbs < infR) : ∃ r, Ieee.double.mul x y = some r ∧ Fl r (rn q) := by
  obtain ⟨c, hc⟩ : ∃ c : Nat, c = 1073 := ⟨_, rfl⟩
  have hm := mul_fin h.lt k.lt h.fin k.fin
  rw [show (1074 : Nat) = c + 1 by omega] at hq
  rw [← hc] at hm
  have e : rv (mg x) * rv (mg y) = q.natAbs * 2 ^ (c + 1) := by
    rw [← h.abs, ← k.abs, ← Int.natAbs_mul, ← hq, Int.natAbs_mul, Int.natAbs_natCast]
  rw [e, zq_mul_pow] at hm
  refine ⟨_, hm, Fl.word (fun h0 => ?_) hS⟩
  have hp : (0 : Int) < ((2 ^ (c + 1) : Nat) : Int) := by have := two_pow_pos (c + 1); omega
  have hx : S = if sg x then -(rv (mg x) : Int) else (rv (mg x) : Int) := h.val.symm
  have hy : T = if sg y then -(rv (mg y) : Int) else (rv (mg y) : Int) := k.val.symm
  have h1 : S * T ≠ 0 := by rw [← hq]; exact Int.mul_ne_zero h0 (by omega)
  have h2 : rv (mg x) ≠ 0 := fun h3 => h1 (by rw [hx, h3]; cases sg x <;> simp)
  have h3 : rv (mg y) ≠ 0 := fun h3 => h1 (by rw [hy, h3]; cases sg y <;> simp)
  have h4 : (0 : Int) < (rv (mg x) : Int) * (rv (mg y) : Int) := Int.mul_pos (by omega) (by omega)
  have h5 : q < 0 ↔ S * T < 0 := by
    rw [← hq]
    constructor
    · intro h6; exact Int.mul_neg_of_neg_of_pos h6 hp
    · intro h6
      rcases Int.lt_or_le q 0 with h7 | h7
      · exact h7
      · have := Int.mul_nonneg h7 (show (0 : Int) ≤ ((2 ^ (c + 1) : Nat) : Int) by omega); omega
  rw [show decide (q < 0) = decide (S * T < 0) from decide_eq_decide.2 h5]
  rw [hx, hy]
  cases sg x <;> cases sg y <;> simp [Int.neg_mul, Int.mul_neg] <;> omega
end Go.Proofs.Ytllfcklgljdgeaa.Rn
