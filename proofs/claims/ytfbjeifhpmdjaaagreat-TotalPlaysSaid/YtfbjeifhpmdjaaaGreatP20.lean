/-
  What math.Ldexp answers of a whole number that is a float, where the result is one. Conditions: those that each theorem names.
-/
import Derived.Test.YtfbjeifhpmdjaaaGreatP16
import Derived.Test.YtfbjeifhpmdjaaaGreatP05
import Derived.Test.YtfbjeifhpmdjaaaGreatP19
import Derived.Test.YtfbjeifhpmdjaaaGreatP07
import Derived.Test.YtfbjeifhpmdjaaaGreatP18
import Derived.Test.YtfbjeifhpmdjaaaGreatP03
namespace Go.Proofs.YtfbjeifhpmdjaaaGreat
open Go.RowKit Nm Rn
set_option maxRecDepth 100000
set_option linter.unusedVariables false
set_option linter.unusedSimpArgs false

theorem ld_norm {s : Nat} (h1 : 1 ≤ s) (h2 : s ≤ 9007199254740992) : ∃ u0 s', 1022 ≤ u0 ∧ u0 ≤ 1075 ∧ 4503599627370496 ≤ s' ∧ s' < 9007199254740992 ∧ ∀ c, c = 1074 → s' * 2 ^ u0 = s * 2 ^ c := by
  by_cases he : s = 9007199254740992
  · subst he
    refine ⟨1075, 4503599627370496, by omega, by omega, by omega, by omega, fun c hc => ?_⟩
    rw [show 1075 = c + 1 by omega, Nat.pow_succ]
    omega
  · have hl := (Nat.log2_eq_iff (show s ≠ 0 by omega)).1 rfl
    have hl52 : s.log2 ≤ 52 := by
      have : s.log2 < 53 := (Nat.log2_lt (by omega)).2 (by omega)
      omega
    refine ⟨1074 - (52 - s.log2), s * 2 ^ (52 - s.log2), by omega, by omega, ?_, ?_, fun c hc => ?_⟩
    · have : 2 ^ s.log2 * 2 ^ (52 - s.log2) ≤ s * 2 ^ (52 - s.log2) := Nat.mul_le_mul_right _ hl.1
      rw [← Nat.pow_add, show s.log2 + (52 - s.log2) = 52 by omega] at this
      omega
    · have : s * 2 ^ (52 - s.log2) < 2 ^ (s.log2 + 1) * 2 ^ (52 - s.log2) := Nat.mul_lt_mul_of_pos_right hl.2 (Nat.two_pow_pos _)
      rw [← Nat.pow_add, show s.log2 + 1 + (52 - s.log2) = 53 by omega] at this
      omega
    · rw [Nat.mul_assoc, ← Nat.pow_add]; congr 2; omega

theorem nearest_of {s u0 s' : Nat} (hu : u0 ≤ 1075) (h1 : 4503599627370496 ≤ s') (h2 : s' < 9007199254740992) (h : ∀ c, c = 1074 → s' * 2 ^ u0 = s * 2 ^ c) :
    FloatKind.f64.nearest (s : Int) = u0 * 4503599627370496 + s' := by
  have e : FloatKind.f64.nearest (s : Int) = Ieee.double.nearest (decide ((s : Int) < 0)) s 0 := rfl
  rw [e, nearest_eq, word_eq, decide_eq_false (by omega), if_neg (by simp)]
  have hS := h ((0 : Int) + 1074).toNat (by omega)
  rw [zd_units (S := s * 2 ^ ((0 : Int) + 1074).toNat) (by omega) rfl, ← hS]
  show near (4 * (s' * 2 ^ u0)) = _
  rw [near_nr, ← rv_form u0 s' (by omega) (fun _ => h1), nr_rv, infR_val]
  omega

/-- A pattern below +Inf, without a sign. -/
theorem Rn.Fl.up {r : Nat} (h : r < infR) : Fl r (rv r : Int) := by
  have h' := h
  rw [infR_val] at h'
  have hs : sg r = false := by unfold sg; exact decide_eq_false (by omega)
  have hm : mg r = r := by unfold mg; omega
  refine ⟨by omega, by rw [hm]; exact h, ?_⟩
  unfold sv
  rw [hs, hm]; rfl
/-- .. is told by its number, where that is not 0. -/
theorem Rn.Fl.pat_ {r R : Nat} {S : Int} (h : Fl r S) (hS : S = (rv R : Int)) (h0 : R ≠ 0) : r = R := by
  have h1 := h.abs
  have h2 := h.val
  have hR : rv R ≠ 0 := fun e => h0 (rv_eq_zero.1 e)
  rw [hS] at h1 h2
  rw [Int.natAbs_natCast] at h1
  have h3 := rv_inj h1
  have hs : sg r = false := by
    unfold sv at h2
    cases hh : sg r
    · rfl
    · rw [hh] at h2; simp at h2; omega
  have := split_pat h.lt
  rw [hs] at this
  simp at this
  omega

theorem mul_one_ {y : Nat} (hy : y < infR) (h0 : y ≠ 0) : Ieee.double.mul 4607182418800017408 y = some y := by
  have hf := Fl.up hy
  have h1 : Fl 4607182418800017408 (rv 4607182418800017408 : Int) := Fl.up (by rw [infR_val]; omega)
  have e1 : rv 4607182418800017408 = 2 ^ 1074 := by
    have := rv_form 1022 4503599627370496 (by omega) (fun _ => by omega)
    rw [show 1022 * 4503599627370496 + 4503599627370496 = 4607182418800017408 by omega] at this
    obtain ⟨c, hc⟩ : ∃ c, c = 1022 := ⟨_, rfl⟩
    rw [← hc] at this
    rw [this, show 1074 = 52 + c by omega, Nat.pow_add]
  obtain ⟨r, hr, hfr⟩ := h1.mul hf (q := (rv y : Int)) (by rw [e1, Int.mul_comm]) (by rw [Int.natAbs_natCast, nr_rv]; exact hy)
  rw [hr]
  congr 1
  refine hfr.pat_ ?_ h0
  exact rn_of hf.rp

theorem mul_low {s y u : Nat} (hs : 1 ≤ s) (hs2 : s < 4503599627370496) (hy : y < infR) (hv : ∀ c, c = 53 → rv y = s * 2 ^ c) : Ieee.double.mul 4368491638549381120 y = some s := by
  have hf := Fl.up hy
  have h1 : Fl 4368491638549381120 (rv 4368491638549381120 : Int) := Fl.up (by rw [infR_val]; omega)
  have hq : (s : Int) * ((2 ^ 1074 : Nat) : Int) = (rv 4368491638549381120 : Int) * (rv y : Int) := by
    have := rv_form 969 4503599627370496 (by omega) (fun _ => by omega)
    rw [show 969 * 4503599627370496 + 4503599627370496 = 4368491638549381120 by omega] at this
    obtain ⟨c, hc⟩ : ∃ c, c = 969 := ⟨_, rfl⟩
    rw [← hc] at this
    have e : s * 2 ^ 1074 = rv 4368491638549381120 * rv y := by
      rw [this, hv 53 rfl, show 1074 = 52 + (c + 53) by omega, Nat.pow_add, Nat.pow_add]
      rw [show (2 ^ 52 : Nat) = 4503599627370496 from rfl]
      simp only [Nat.mul_assoc, Nat.mul_comm, Nat.mul_left_comm]
    rw [← Int.natCast_mul, ← Int.natCast_mul]
    exact congrArg Int.ofNat e
  have hrs : rv s = s := rv_small (by omega)
  have hsR : s < infR := by rw [infR_val]; omega
  obtain ⟨r, hr, hfr⟩ := h1.mul hf hq (by rw [Int.natAbs_natCast, ← hrs, nr_rv]; exact hsR)
  rw [hr]
  congr 1
  refine hfr.pat_ (R := s) ?_ (by omega)
  rw [hrs]
  have := rn_of (Fl.up hsR).rp
  rwa [hrs] at this

set_option maxHeartbeats 400000 in
theorem normalize_big (P : Nat) (w : World) (h1 : 4503599627370496 ≤ P) (h2 : P < 9218868437227405312) :
    Calls Tryz.prog 132 #[.float .f64 P] w fun e w' => e = .returned (.tuple #[.float .f64 P, .int .i64 0]) ∧ w = w' := by
  have hm : mg P = P := by unfold mg; omega
  have hq := fo_lt (x := mg P) (y := 4503599627370496) (mg_lt64 P) (by omega)
  have hf : ltB (mg P) 4503599627370496 = false := by
    unfold ltB
    rw [nan_mg, key_mg, hm, show key 4503599627370496 = 4503599627370496 from rfl, decide_eq_false (p := (P : Int) < 4503599627370496) (by omega), Bool.and_false]
  rw [hf] at hq
  have HA := Lib.hid (fun w => mabs_any P w (by omega))
  clear hf hm h1 h2
  go_enter Tryz.func132, Tryz.ntmps132
  go_wp2_with (go_at_call 78; refine (HA.out _).mono ?_; rintro e w' ⟨rfl, rfl⟩)
  go_ret2
  exact ⟨rfl, rfl⟩

theorem and11i (K : Nat) (h1 : 1023 ≤ K) (h2 : K ≤ 1076) : bits .and .i64 (K : Int) 2047 = (K : Int) := by
  have h : ∀ k < 54, bits .and .i64 ((1023 + k : Nat) : Int) 2047 = ((1023 + k : Nat) : Int) := by decide +kernel
  have := h (K - 1023) (by omega)
  rwa [show 1023 + (K - 1023) = K by omega] at this

theorem andNot_exp (P : Nat) (h : P < 9223372036854775808) : bits .andNot .u64 (P : Int) 9218868437227405312 = ((P % 4503599627370496 : Nat) : Int) := by
  have e : (9218868437227405312 : Int) = ((9218868437227405312 : Nat) : Int) := rfl
  rw [e, u64_andNot_nat _ _ (by omega) (by omega)]
  congr 1
  have e2 : (18446744073709551615 - 9218868437227405312 : Nat) = 2 ^ 63 ||| (2 ^ 52 - 1) := by decide
  have h0 : P &&& 2 ^ 63 = 0 := by
    apply Nat.eq_of_testBit_eq
    intro i
    rw [Nat.testBit_and, Nat.testBit_two_pow]
    by_cases hi : 63 = i
    · subst hi
      rw [Nat.testBit_lt_two_pow (show P < 2 ^ 63 by omega)]
      simp
    · simp [hi]
  rw [e2, Nat.and_or_distrib_left, Nat.and_two_pow_sub_one_eq_mod, h0, Nat.zero_or]
theorem or_exp (M N : Nat) (hM : M < 4503599627370496) (hN : N < 4096) : bits .or .u64 (M : Int) ((N : Int) * 4503599627370496) = ((N * 4503599627370496 + M : Nat) : Int) := by
  have e : (N : Int) * 4503599627370496 = ((N * 4503599627370496 : Nat) : Int) := by omega
  rw [e, u64_or_nat _ _ (by omega) (by omega)]
  congr 1
  have := Nat.two_pow_add_eq_or_of_lt (i := 52) (b := M) hM N
  have h2 : (2 ^ 52 : Nat) = 4503599627370496 := rfl
  rw [h2] at this
  rw [Nat.or_comm, Nat.mul_comm N]
  exact this.symm

set_option maxHeartbeats 1000000 in
theorem ldexp_big (P K : Nat) (e : Int) (w : World) (hP1 : 4503599627370496 ≤ P) (hP2 : P < 9218868437227405312) (hK : P / 4503599627370496 = K) (hK1 : 1023 ≤ K) (hK2 : K ≤ 1076) (he1 : -1074 ≤ e) (he2 : e ≤ 971) (hbig : 2046 < e + K) :
    Calls Tryz.prog 129 #[.float .f64 P, .int .i64 e] w fun en w' => en = .returned (.float .f64 infR) ∧ w = w' := by
  have hq0 := fo_eq (x := P) (y := 0) (by omega) (by omega)
  rw [eq0 (by omega), decide_eq_false (by omega)] at hq0
  have hqn := fo_lt (x := P) (y := 0) (by omega) (by omega)
  have hf : ltB P 0 = false := by
    have hk : key P = (P : Int) := by unfold key sg mg; rw [decide_eq_false (by omega)]; simp; omega
    unfold ltB
    rw [hk, show key 0 = 0 from rfl, decide_eq_false (p := (P : Int) < 0) (by omega), Bool.and_false]
  rw [hf] at hqn
  have HN := Lib.hid (fun w => normalize_big P w hP1 hP2)
  have hnan : isNaN P = false := by unfold isNaN mg; rw [infR_val]; exact decide_eq_false (by omega)
  have hinf : isInf P = false := by unfold isInf mg; rw [infR_val]; exact decide_eq_false (by omega)
  have HI := Lib.hid (fun w => misinf_any P w (by omega))
  have HM := Lib.hid (fun w => mnan_any P w (by omega))
  rw [hnan] at HM
  rw [hinf] at HI
  have hd : (P : Int) / 4503599627370496 = (K : Int) := by omega
  have hand := and11i K hK1 hK2
  clear hf hnan hinf hK hP1
  go_enter Tryz.func129, Tryz.ntmps129
  go_wp2_with (first | (go_at_call 48; refine (HI.out _).mono ?_; rintro e w' ⟨rfl, rfl⟩) | (go_at_call 47; refine (HM.out _).mono ?_; rintro e w' ⟨rfl, rfl⟩) | (go_at_call 132; refine (HN.out _).mono ?_; rintro e w' ⟨rfl, rfl⟩) | (go_at_call 71; refine (inf_p _).mono ?_; rintro e w' ⟨rfl, rfl⟩))
  go_ret
  exact ⟨rfl, rfl⟩
set_option maxHeartbeats 1000000 in
theorem ldexp_mid (P K : Nat) (e : Int) (w : World) (hP1 : 4503599627370496 ≤ P) (hP2 : P < 9218868437227405312) (hK : P / 4503599627370496 = K) (hK1 : 1023 ≤ K) (hK2 : K ≤ 1076) (he1 : -1074 ≤ e) (he2 : e ≤ 971) (hlo : 1 ≤ e + K) (hhi : e + K ≤ 2046) (R : Nat) (hR : (R : Int) = (e + K) * 4503599627370496 + (P % 4503599627370496 : Nat)) :
    Calls Tryz.prog 129 #[.float .f64 P, .int .i64 e] w fun en w' => en = .returned (.float .f64 R) ∧ w = w' := by
  have hq0 := fo_eq (x := P) (y := 0) (by omega) (by omega)
  rw [eq0 (by omega), decide_eq_false (by omega)] at hq0
  have hqn := fo_lt (x := P) (y := 0) (by omega) (by omega)
  have hf : ltB P 0 = false := by
    have hk : key P = (P : Int) := by unfold key sg mg; rw [decide_eq_false (by omega)]; simp; omega
    unfold ltB
    rw [hk, show key 0 = 0 from rfl, decide_eq_false (p := (P : Int) < 0) (by omega), Bool.and_false]
  rw [hf] at hqn
  have HN := Lib.hid (fun w => normalize_big P w hP1 hP2)
  have hnan : isNaN P = false := by unfold isNaN mg; rw [infR_val]; exact decide_eq_false (by omega)
  have hinf : isInf P = false := by unfold isInf mg; rw [infR_val]; exact decide_eq_false (by omega)
  have HI := Lib.hid (fun w => misinf_any P w (by omega))
  have HM := Lib.hid (fun w => mnan_any P w (by omega))
  rw [hnan] at HM
  rw [hinf] at HI
  have hd : (P : Int) / 4503599627370496 = (K : Int) := by omega
  have hand := and11i K hK1 hK2
  obtain ⟨N, hN⟩ : ∃ N : Nat, (N : Int) = e + K := ⟨(e + K).toNat, by omega⟩
  have hN1 : 1 ≤ N := by omega
  have hN2 : N ≤ 2046 := by omega
  have hx1 : e + ((K : Int) - 1023) + 1023 = (N : Int) := by omega
  have hno := andNot_exp P (by omega)
  obtain ⟨M, hM⟩ : ∃ M, M = P % 4503599627370496 := ⟨_, rfl⟩
  have hM52 : M < 4503599627370496 := by omega
  rw [← hM] at hno
  have hor := or_exp M N hM52 (by omega)
  obtain ⟨Y, hY⟩ : ∃ Y, Y = N * 4503599627370496 + M := ⟨_, rfl⟩
  rw [← hY] at hor
  have hml : ∀ w, (binOp .mul 57 (.float .f64 4607182418800017408) (.float .f64 Y)).run Tryz.prog w = .ok (.float .f64 R) w := fun w => run_float_arith w .mul _ .f64 _ _ _ (by
    have hYR : Y = R := by omega
    rw [← hYR]
    exact mul_one_ (by rw [infR_val]; omega) (by omega))
  clear hf hnan hinf hK hP1 hN hM hY hR
  go_enter Tryz.func129, Tryz.ntmps129
  go_wp2_with (first | (go_at_call 48; refine (HI.out _).mono ?_; rintro e w' ⟨rfl, rfl⟩) | (go_at_call 47; refine (HM.out _).mono ?_; rintro e w' ⟨rfl, rfl⟩) | (go_at_call 132; refine (HN.out _).mono ?_; rintro e w' ⟨rfl, rfl⟩) | (go_at_call 71; refine (inf_p _).mono ?_; rintro e w' ⟨rfl, rfl⟩))
  go_ret
  exact ⟨rfl, rfl⟩
set_option maxHeartbeats 1000000 in
theorem ldexp_low (P K : Nat) (e : Int) (w : World) (hP1 : 4503599627370496 ≤ P) (hP2 : P < 9218868437227405312) (hK : P / 4503599627370496 = K) (hK1 : 1023 ≤ K) (hK2 : K ≤ 1076) (he1 : -1074 ≤ e) (he2 : e ≤ 971) (hlo : e + K < 1) (s : Nat) (hs1 : 1 ≤ s) (hs2 : s < 4503599627370496) (hv : ∀ Y : Nat, (Y : Int) = (e + K + 53) * 4503599627370496 + (P % 4503599627370496 : Nat) → ∀ c, c = 53 → rv Y = s * 2 ^ c) :
    Calls Tryz.prog 129 #[.float .f64 P, .int .i64 e] w fun en w' => en = .returned (.float .f64 s) ∧ w = w' := by
  have hq0 := fo_eq (x := P) (y := 0) (by omega) (by omega)
  rw [eq0 (by omega), decide_eq_false (by omega)] at hq0
  have hqn := fo_lt (x := P) (y := 0) (by omega) (by omega)
  have hf : ltB P 0 = false := by
    have hk : key P = (P : Int) := by unfold key sg mg; rw [decide_eq_false (by omega)]; simp; omega
    unfold ltB
    rw [hk, show key 0 = 0 from rfl, decide_eq_false (p := (P : Int) < 0) (by omega), Bool.and_false]
  rw [hf] at hqn
  have HN := Lib.hid (fun w => normalize_big P w hP1 hP2)
  have hnan : isNaN P = false := by unfold isNaN mg; rw [infR_val]; exact decide_eq_false (by omega)
  have hinf : isInf P = false := by unfold isInf mg; rw [infR_val]; exact decide_eq_false (by omega)
  have HI := Lib.hid (fun w => misinf_any P w (by omega))
  have HM := Lib.hid (fun w => mnan_any P w (by omega))
  rw [hnan] at HM
  rw [hinf] at HI
  have hd : (P : Int) / 4503599627370496 = (K : Int) := by omega
  have hand := and11i K hK1 hK2
  obtain ⟨N, hN⟩ : ∃ N : Nat, (N : Int) = e + K + 53 := ⟨(e + K + 53).toNat, by omega⟩
  have hN1 : 1 ≤ N := by omega
  have hN2 : N ≤ 2046 := by omega
  have hx1 : e + ((K : Int) - 1023) + 53 + 1023 = (N : Int) := by omega
  have hno := andNot_exp P (by omega)
  obtain ⟨M, hM⟩ : ∃ M, M = P % 4503599627370496 := ⟨_, rfl⟩
  have hM52 : M < 4503599627370496 := by omega
  rw [← hM] at hno
  have hor := or_exp M N hM52 (by omega)
  obtain ⟨Y, hY⟩ : ∃ Y, Y = N * 4503599627370496 + M := ⟨_, rfl⟩
  rw [← hY] at hor
  have hml : ∀ w, (binOp .mul 57 (.float .f64 4368491638549381120) (.float .f64 Y)).run Tryz.prog w = .ok (.float .f64 s) w := fun w => run_float_arith w .mul _ .f64 _ _ _ (by exact mul_low (u := 0) hs1 hs2 (by rw [infR_val]; omega) (hv Y (by omega)))
  clear hf hnan hinf hK hP1 hN hM hY hv
  go_enter Tryz.func129, Tryz.ntmps129
  go_wp2_with (first | (go_at_call 48; refine (HI.out _).mono ?_; rintro e w' ⟨rfl, rfl⟩) | (go_at_call 47; refine (HM.out _).mono ?_; rintro e w' ⟨rfl, rfl⟩) | (go_at_call 132; refine (HN.out _).mono ?_; rintro e w' ⟨rfl, rfl⟩) | (go_at_call 71; refine (inf_p _).mono ?_; rintro e w' ⟨rfl, rfl⟩))
  go_ret
  exact ⟨rfl, rfl⟩

theorem cancel_pow {a b c : Nat} (h : a * 2 ^ c = b * 2 ^ c) : a = b := Nat.eq_of_mul_eq_mul_right (Nat.two_pow_pos c) h
set_option maxHeartbeats 1000000 in
theorem ldexp_zero (e : Int) (w : World) :
    Calls Tryz.prog 129 #[.float .f64 0, .int .i64 e] w fun en w' => en = .returned (.float .f64 0) ∧ w = w' := by
  have hq0 := fo_eq (x := 0) (y := 0) (by omega) (by omega)
  rw [eq0 (by omega), decide_eq_true (by omega)] at hq0
  go_enter Tryz.func129, Tryz.ntmps129
  go_wp2
  go_ret
  exact ⟨rfl, rfl⟩
theorem ldexp_any (s u : Nat) (e : Int) (w : World) (he : e = (u : Int) - 1074) (hu : u ≤ 2045) (hs : s ≤ 9007199254740992) (hus : u ≠ 0 → 4503599627370496 ≤ s) :
    Calls Tryz.prog 129 #[.float .f64 (FloatKind.f64.nearest (s : Int)), .int .i64 e] w fun en w' => en = .returned (.float .f64 (u * 4503599627370496 + s)) ∧ w = w' := by
  by_cases h0 : s = 0
  · have hu0 : u = 0 := by
      rcases Nat.eq_zero_or_pos u with h | h
      · exact h
      · have := hus (by omega); omega
    subst h0 hu0
    have hn : FloatKind.f64.nearest ((0 : Nat) : Int) = 0 := by
      have e : FloatKind.f64.nearest ((0 : Nat) : Int) = Ieee.double.nearest false 0 0 := rfl
      rw [e, nearest_eq, word_eq, zd_zero, rr_zero]; rfl
    rw [hn]
    exact ldexp_zero e w
  · obtain ⟨u0, s', a1, a2, a3, a4, a5⟩ := ld_norm (show 1 ≤ s by omega) hs
    rw [nearest_of a2 a3 a4 a5]
    obtain ⟨c, hc⟩ : ∃ c, c = 1074 := ⟨_, rfl⟩
    have h5 := a5 c hc
    have hR := rv_form u s hs hus
    have hK : (u0 * 4503599627370496 + s') / 4503599627370496 = u0 + 1 := by omega
    have hM : (u0 * 4503599627370496 + s') % 4503599627370496 = s' - 4503599627370496 := by omega
    by_cases hbig : 3119 < u + u0
    · have h := ldexp_big (u0 * 4503599627370496 + s') (u0 + 1) e w (by omega) (by omega) hK (by omega) (by omega) (by omega) (by omega) (by push_cast; omega)
      have hinf : u * 4503599627370496 + s = infR := by
        have h6 : infR ≤ u * 4503599627370496 + s := by
          rw [← rv_le_iff, hR]
          obtain ⟨q, hq⟩ : ∃ q, q = 2046 := ⟨_, rfl⟩
          have hri := rv_form q 4503599627370496 (by omega) (fun _ => by omega)
          rw [show q * 4503599627370496 + 4503599627370496 = infR by rw [infR_val]; omega] at hri
          rw [hri]
          refine Nat.le_of_mul_le_mul_right (c := 2 ^ c) ?_ (Nat.two_pow_pos c)
          have e2 : s * 2 ^ u * 2 ^ c = s' * 2 ^ (u0 + u) := by
            rw [Nat.pow_add, ← Nat.mul_assoc, h5, Nat.mul_right_comm]
          rw [e2, Nat.mul_assoc, ← Nat.pow_add]
          exact Nat.mul_le_mul a3 (Nat.pow_le_pow_right (by omega) (by omega))
        rw [infR_val] at h6 ⊢
        omega
      rw [hinf]
      exact h
    · by_cases hmid : 1074 ≤ u + u0
      · refine ldexp_mid (u0 * 4503599627370496 + s') (u0 + 1) e w (by omega) (by omega) hK (by omega) (by omega) (by omega) (by omega) (by push_cast; omega) (by push_cast; omega) _ ?_
        have hY := rv_form (u + u0 - 1074) s' (by omega) (fun _ => a3)
        have e2 : rv (u * 4503599627370496 + s) = rv ((u + u0 - 1074) * 4503599627370496 + s') := by
          rw [hR, hY]
          refine cancel_pow (c := c) ?_
          rw [Nat.mul_assoc s', ← Nat.pow_add, show u + u0 - 1074 + c = u0 + u by omega, Nat.pow_add, ← Nat.mul_assoc, h5, Nat.mul_right_comm]
        have e3 := rv_inj e2
        rw [hM]
        clear e2 hY hR h5 a5
        omega
      · have hu0 : u = 0 := by
          rcases Nat.eq_zero_or_pos u with h | h
          · exact h
          · exfalso
            have h7 := hus (by omega)
            have h8 : s' * 2 ^ u0 < 9007199254740992 * 2 ^ u0 := Nat.mul_lt_mul_of_pos_right a4 (Nat.two_pow_pos _)
            have h9 : 4503599627370496 * 2 ^ c ≤ s * 2 ^ c := Nat.mul_le_mul_right _ h7
            have h10 : 2 ^ (u0 + 1) ≤ 2 ^ c := Nat.pow_le_pow_right (by omega) (by omega)
            rw [Nat.pow_succ] at h10
            omega
        subst hu0
        have hs52 : s < 4503599627370496 := by
          rcases Nat.lt_or_ge s 4503599627370496 with h | h
          · exact h
          · exfalso
            have h8 : s' * 2 ^ u0 < 9007199254740992 * 2 ^ u0 := Nat.mul_lt_mul_of_pos_right a4 (Nat.two_pow_pos _)
            have h9 : 4503599627370496 * 2 ^ c ≤ s * 2 ^ c := Nat.mul_le_mul_right _ h
            have h10 : 2 ^ (u0 + 1) ≤ 2 ^ c := Nat.pow_le_pow_right (by omega) (by omega)
            rw [Nat.pow_succ] at h10
            omega
        rw [Nat.zero_mul, Nat.zero_add]
        refine ldexp_low (u0 * 4503599627370496 + s') (u0 + 1) e w (by omega) (by omega) hK (by omega) (by omega) (by omega) (by omega) (by push_cast; omega) s (by omega) hs52 (fun Y hY d hd => ?_)
        have e4 : Y = (u0 - 1021) * 4503599627370496 + s' := by
          rw [hM] at hY
          clear hR h5 a5
          omega
        rw [e4, rv_form (u0 - 1021) s' (by omega) (fun _ => a3)]
        obtain ⟨q, hq⟩ : ∃ q, q = 1021 := ⟨_, rfl⟩
        refine cancel_pow (c := q) ?_
        rw [Nat.mul_assoc, ← Nat.pow_add, show u0 - 1021 + q = u0 by omega, h5, Nat.mul_assoc, ← Nat.pow_add, show d + q = c by omega]

set_option maxHeartbeats 400000 in
theorem mldexp_any (s u : Nat) (e : Int) (w : World) (he : e = (u : Int) - 1074) (hu : u ≤ 2045) (hs : s ≤ 9007199254740992) (hus : u ≠ 0 → 4503599627370496 ≤ s) :
    Calls Tryz.prog 118 #[.float .f64 (FloatKind.f64.nearest (s : Int)), .int .i64 e] w fun en w' => en = .returned (.float .f64 (u * 4503599627370496 + s)) ∧ w = w' := by
  have HL := Lib.hid (fun w => ldexp_any s u e w he hu hs hus)
  generalize FloatKind.f64.nearest (s : Int) = P at *
  generalize u * 4503599627370496 + s = R at *
  clear he hu hs hus
  go_enter Tryz.func118, Tryz.ntmps118
  go_wp2_with (go_at_call 129; refine (HL.out _).mono ?_; rintro e w' ⟨rfl, rfl⟩)
  go_ret
  exact ⟨rfl, rfl⟩
end Go.Proofs.YtfbjeifhpmdjaaaGreat

/-
  The contracts of the program's quick road, second part: middle, halves, missed, odd. Conditions: those that each theorem names.
-/
namespace Go.Proofs.YtfbjeifhpmdjaaaGreat
open Go.RowKit Nm Rn
set_option maxRecDepth 100000
set_option linter.unusedVariables false
set_option linter.unusedSimpArgs false

/-- + - * / of floats that give a number, in the walk's own form. -/
theorem fadd {x y r : Nat} (h : Ieee.double.add x y = some r) (w : World) : (binOp .add 57 (.float .f64 x) (.float .f64 y)).run Tryz.prog w = .ok (.float .f64 r) w := run_float_arith w .add _ .f64 _ _ _ h
theorem fsub {x y r : Nat} (h : Ieee.double.sub x y = some r) (w : World) : (binOp .sub 57 (.float .f64 x) (.float .f64 y)).run Tryz.prog w = .ok (.float .f64 r) w := run_float_arith w .sub _ .f64 _ _ _ h
theorem fmul {x y r : Nat} (h : Ieee.double.mul x y = some r) (w : World) : (binOp .mul 57 (.float .f64 x) (.float .f64 y)).run Tryz.prog w = .ok (.float .f64 r) w := run_float_arith w .mul _ .f64 _ _ _ h
theorem fquo {x y r : Nat} (h : Ieee.double.div x y = some r) (w : World) : (binOp .quo 57 (.float .f64 x) (.float .f64 y)).run Tryz.prog w = .ok (.float .f64 r) w := run_float_arith w .quo _ .f64 _ _ _ h

/-- Neither very small nor very great, of a pattern. -/
def midB (b : Nat) : Bool := decide (Ks < rv (mg b)) && decide (rv (mg b) < Kg)
theorem rv_small_ : rv 553942754166571008 = Ks := by
  obtain ⟨c, hc⟩ : ∃ c, c = 122 := ⟨_, rfl⟩
  have := rv_form c 4503599627370496 (by omega) (fun _ => by omega)
  rw [show c * 4503599627370496 + 4503599627370496 = 553942754166571008 by omega] at this
  rw [this, Ks_def, show 174 = 52 + c by omega, Nat.pow_add]
theorem rv_great_ : rv 8660422083433463808 = Kg := by
  obtain ⟨c, hc⟩ : ∃ c, c = 1922 := ⟨_, rfl⟩
  have := rv_form c 4503599627370496 (by omega) (fun _ => by omega)
  rw [show c * 4503599627370496 + 4503599627370496 = 8660422083433463808 by omega] at this
  rw [this, Kg_def, show 1974 = 52 + c by omega, Nat.pow_add]
theorem ltB_pos {a b : Nat} (ha : a ≤ infR) (hb : b ≤ infR) : ltB a b = decide (a < b) := by
  rw [infR_val] at ha hb
  have h1 : isNaN a = false := by unfold isNaN mg; rw [infR_val]; exact decide_eq_false (by omega)
  have h2 : isNaN b = false := by unfold isNaN mg; rw [infR_val]; exact decide_eq_false (by omega)
  have k1 : key a = (a : Int) := by unfold key sg mg; rw [decide_eq_false (by omega)]; simp; omega
  have k2 : key b = (b : Int) := by unfold key sg mg; rw [decide_eq_false (by omega)]; simp; omega
  unfold ltB
  rw [h1, h2, k1, k2]
  simp
theorem mid_gt {b : Nat} (h : mg b ≤ infR) : ltB 553942754166571008 (mg b) = decide (Ks < rv (mg b)) := by
  rw [ltB_pos (by rw [infR_val]; omega) h, ← rv_small_]
  exact decide_eq_decide.2 rv_lt_iff.symm
theorem mid_lt {b : Nat} (h : mg b ≤ infR) : ltB (mg b) 8660422083433463808 = decide (rv (mg b) < Kg) := by
  rw [ltB_pos h (by rw [infR_val]; omega), ← rv_great_]
  exact decide_eq_decide.2 rv_lt_iff.symm
theorem mid_of {b : Nat} (h : midB b = true) : Mid (sv b) ∧ mg b < infR := by
  unfold midB at h
  rw [Bool.and_eq_true, decide_eq_true_iff, decide_eq_true_iff] at h
  refine ⟨⟨by rw [sv_abs]; exact h.1, by rw [sv_abs]; exact h.2⟩, ?_⟩
  have h2 := h.2
  rw [← rv_great_] at h2
  have := rv_lt_iff.1 h2
  rw [infR_val]
  omega

/-- NaN or infinite. -/
def oddF (b : Nat) : Bool := isNaN b || isInf b
theorem oddF_fin {b : Nat} (h : oddF b = false) : mg b < infR := by
  unfold oddF isNaN isInf at h
  rw [Bool.or_eq_false_iff, decide_eq_false_iff_not, decide_eq_false_iff_not] at h
  omega

end Go.Proofs.YtfbjeifhpmdjaaaGreat

/-
  The contracts of the program's exact road: the parts of a float. Conditions: those that each theorem names.
-/
namespace Go.Proofs.YtfbjeifhpmdjaaaGreat
open Go.RowKit Nm Rn
set_option maxRecDepth 100000
set_option linter.unusedVariables false
set_option linter.unusedSimpArgs false

theorem and52 (b : Nat) (h : b < 18446744073709551616) : bits .and .u64 (b : Int) 4503599627370495 = ((b % 4503599627370496 : Nat) : Int) := by
  rw [show (4503599627370495 : Int) = ((4503599627370495 : Nat) : Int) from rfl, u64_and_nat _ _ h (by omega)]
  congr 1
  exact Nat.and_two_pow_sub_one_eq_mod b 52
theorem and11 (b : Nat) (h : b < 18446744073709551616) : bits .and .u64 ((b : Int) / 4503599627370496) 2047 = ((b / 4503599627370496 % 2048 : Nat) : Int) := by
  rw [show (2047 : Int) = ((2047 : Nat) : Int) from rfl, show (b : Int) / 4503599627370496 = ((b / 4503599627370496 : Nat) : Int) from rfl, u64_and_nat _ _ (by omega) (by omega)]
  congr 1
  exact Nat.and_two_pow_sub_one_eq_mod (b / 4503599627370496) 11
theorem or52 (f : Nat) (h : f < 4503599627370496) : bits .or .u64 (f : Int) 4503599627370496 = ((f + 4503599627370496 : Nat) : Int) := by
  rw [show (4503599627370496 : Int) = ((4503599627370496 : Nat) : Int) from rfl, u64_or_nat _ _ (by omega) (by omega)]
  congr 1
  have := Nat.two_pow_add_eq_or_of_lt (i := 52) (b := f) h 1
  rw [Nat.or_comm, ← Nat.mul_one 4503599627370496]
  have h2 : (2 ^ 52 : Nat) = 4503599627370496 := rfl
  rw [h2] at this
  omega

end Go.Proofs.YtfbjeifhpmdjaaaGreat
