/-
 What math.Ldexp answers of a whole number that is a float, where the result is one. Conditions: those that each theorem names.
-/
import Derived.Test.YtbcaggdgoidlaaaGreatDoorH09
import Derived.Test.YtbcaggdgoidlaaaGreatDoorH05
import Derived.Test.YtbcaggdgoidlaaaGreatDoorH10
import Derived.Test.YtbcaggdgoidlaaaGreatDoorH06
import Derived.Deep.DeepCutAuto
import Derived.Deep.CutBlock
namespace Go.Proofs.YtbcaggdgoidlaaaGreatDoor
open Go.RowKit Nm Rn
set_option maxRecDepth 100000
set_option linter.unusedVariables false
set_option linter.unusedSimpArgs false
theorem ld_norm {s : Nat} (h1 : 1 ≤ s) (h2 : s ≤ 9007199254740992) : ∃ u0 s', 1022 ≤ u0 ∧ u0 ≤ 1075 ∧ 4503599627370496 ≤ s' ∧ s' < 9007199254740992 ∧ ∀ c, c = 1074 → s' * 2 ^ u0 = s * 2 ^ c := by
 by_cases he : s = 9007199254740992
 · subst he
   refine ⟨1075, 4503599627370496, by omega, by omega, by omega, by omega, fun c hc => ?_⟩
   rw [show 1075 = c + 1 by omega, Nat.pow_succ]
   omega
 · have hl := (Nat.log2_eq_iff (show s ≠ 0 by omega)).1 rfl
   have hl52 : s.log2 ≤ 52 := by
     have : s.log2 < 53 := (Nat.log2_lt (by omega)).2 (by omega)
     omega
   refine ⟨1074 - (52 - s.log2), s * 2 ^ (52 - s.log2), by omega, by omega, ?_, ?_, fun c hc => ?_⟩
   · have : 2 ^ s.log2 * 2 ^ (52 - s.log2) ≤ s * 2 ^ (52 - s.log2) := Nat.mul_le_mul_right _ hl.1
     rw [← Nat.pow_add, show s.log2 + (52 - s.log2) = 52 by omega] at this
     omega
   · have : s * 2 ^ (52 - s.log2) < 2 ^ (s.log2 + 1) * 2 ^ (52 - s.log2) := Nat.mul_lt_mul_of_pos_right hl.2 (Nat.two_pow_pos _)
     rw [← Nat.pow_add, show s.log2 + 1 + (52 - s.log2) = 53 by omega] at this
     omega
   · rw [Nat.mul_assoc, ← Nat.pow_add]; congr 2; omega
theorem nearest_of {s u0 s' : Nat} (hu : u0 ≤ 1075) (h1 : 4503599627370496 ≤ s') (h2 : s' < 9007199254740992) (h : ∀ c, c = 1074 → s' * 2 ^ u0 = s * 2 ^ c) :
   FloatKind.f64.nearest (s : Int) = u0 * 4503599627370496 + s' := by
 have e : FloatKind.f64.nearest (s : Int) = Ieee.double.nearest (decide ((s : Int) < 0)) s 0 := rfl
 rw [e, nearest_eq, word_eq, decide_eq_false (by omega), if_neg (by simp)]
 have hS := h ((0 : Int) + 1074).toNat (by omega)
 rw [zd_units (S := s * 2 ^ ((0 : Int) + 1074).toNat) (by omega) rfl, ← hS]
 show near (4 * (s' * 2 ^ u0)) = _
 rw [near_nr, ← rv_form u0 s' (by omega) (fun _ => h1), nr_rv, infR_val]
 omega
theorem Rn.Fl.up {r : Nat} (h : r < infR) : Fl r (rv r : Int) := by
 have h' := h
 rw [infR_val] at h'
 have hs : sg r = false := by unfold sg; exact decide_eq_false (by omega)
 have hm : mg r = r := by unfold mg; omega
 refine ⟨by omega, by rw [hm]; exact h, ?_⟩
 unfold sv
 rw [hs, hm]; rfl
theorem Rn.Fl.pat_ {r R : Nat} {S : Int} (h : Fl r S) (hS : S = (rv R : Int)) (h0 : R ≠ 0) : r = R := by
 have h1 := h.abs
 have h2 := h.val
 have hR : rv R ≠ 0 := fun e => h0 (rv_eq_zero.1 e)
 rw [hS] at h1 h2
 rw [Int.natAbs_natCast] at h1
 have h3 := rv_inj h1
 have hs : sg r = false := by
   unfold sv at h2
   cases hh : sg r
   · rfl
   · rw [hh] at h2; simp at h2; omega
 have := split_pat h.lt
 rw [hs] at this
 simp at this
 omega
theorem mul_one_ {y : Nat} (hy : y < infR) (h0 : y ≠ 0) : Ieee.double.mul 4607182418800017408 y = some y := by
 have hf := Fl.up hy
 have h1 : Fl 4607182418800017408 (rv 4607182418800017408 : Int) := Fl.up (by rw [infR_val]; omega)
 have e1 : rv 4607182418800017408 = 2 ^ 1074 := by
   have := rv_form 1022 4503599627370496 (by omega) (fun _ => by omega)
   rw [show 1022 * 4503599627370496 + 4503599627370496 = 4607182418800017408 by omega] at this
   obtain ⟨c, hc⟩ : ∃ c, c = 1022 := ⟨_, rfl⟩
   rw [← hc] at this
   rw [this, show 1074 = 52 + c by omega, Nat.pow_add]
 obtain ⟨r, hr, hfr⟩ := h1.mul hf (q := (rv y : Int)) (by rw [e1, Int.mul_comm]) (by rw [Int.natAbs_natCast, nr_rv]; exact hy)
 rw [hr]
 congr 1
 refine hfr.pat_ ?_ h0
 exact rn_of hf.rp
theorem mul_low {s y u : Nat} (hs : 1 ≤ s) (hs2 : s < 4503599627370496) (hy : y < infR) (hv : ∀ c, c = 53 → rv y = s * 2 ^ c) : Ieee.double.mul 4368491638549381120 y = some s := by
 have hf := Fl.up hy
 have h1 : Fl 4368491638549381120 (rv 4368491638549381120 : Int) := Fl.up (by rw [infR_val]; omega)
 have hq : (s : Int) * ((2 ^ 1074 : Nat) : Int) = (rv 4368491638549381120 : Int) * (rv y : Int) := by
   have := rv_form 969 4503599627370496 (by omega) (fun _ => by omega)
   rw [show 969 * 4503599627370496 + 4503599627370496 = 4368491638549381120 by omega] at this
   obtain ⟨c, hc⟩ : ∃ c, c = 969 := ⟨_, rfl⟩
   rw [← hc] at this
   have e : s * 2 ^ 1074 = rv 4368491638549381120 * rv y := by
     rw [this, hv 53 rfl, show 1074 = 52 + (c + 53) by omega, Nat.pow_add, Nat.pow_add]
     rw [show (2 ^ 52 : Nat) = 4503599627370496 from rfl]
     simp only [Nat.mul_assoc, Nat.mul_comm, Nat.mul_left_comm]
   rw [← Int.natCast_mul, ← Int.natCast_mul]
   exact congrArg Int.ofNat e
 have hrs : rv s = s := rv_small (by omega)
 have hsR : s < infR := by rw [infR_val]; omega
 obtain ⟨r, hr, hfr⟩ := h1.mul hf hq (by rw [Int.natAbs_natCast, ← hrs, nr_rv]; exact hsR)
 rw [hr]
 congr 1
 refine hfr.pat_ (R := s) ?_ (by omega)
 rw [hrs]
 have := rn_of (Fl.up hsR).rp
 rwa [hrs] at this
set_option maxHeartbeats 400000 in
theorem normalize_big (P : Nat) (w : World) (h1 : 4503599627370496 ≤ P) (h2 : P < 9218868437227405312) :
   Calls Tryz.prog 131 #[.float .f64 P] w fun e w' => e = .returned (.tuple #[.float .f64 P, .int .i64 0]) ∧ w = w' := by
 have hm : mg P = P := by unfold mg; omega
 have hq := fo_lt (x := mg P) (y := 4503599627370496) (mg_lt64 P) (by omega)
 have hf : ltB (mg P) 4503599627370496 = false := by
   unfold ltB
   rw [nan_mg, key_mg, hm, show key 4503599627370496 = 4503599627370496 from rfl, decide_eq_false (p := (P : Int) < 4503599627370496) (by omega), Bool.and_false]
 rw [hf] at hq
 have HA := Lib.hid (fun w => mabs_any P w (by omega))
 clear hf hm h1 h2
 go_enter Tryz.func131, Tryz.ntmps131
 go_wp2_with (go_at_call 81; refine (HA.out _).mono ?_; rintro e w' ⟨rfl, rfl⟩)
 go_ret2
 exact ⟨rfl, rfl⟩
theorem and11i (K : Nat) (h1 : 1023 ≤ K) (h2 : K ≤ 1076) : bits .and .i64 (K : Int) 2047 = (K : Int) := by
 have h : ∀ k < 54, bits .and .i64 ((1023 + k : Nat) : Int) 2047 = ((1023 + k : Nat) : Int) := by decide +kernel
 have := h (K - 1023) (by omega)
 rwa [show 1023 + (K - 1023) = K by omega] at this
theorem andNot_exp (P : Nat) (h : P < 9223372036854775808) : bits .andNot .u64 (P : Int) 9218868437227405312 = ((P % 4503599627370496 : Nat) : Int) := by
 have e : (9218868437227405312 : Int) = ((9218868437227405312 : Nat) : Int) := rfl
 rw [e, u64_andNot_nat _ _ (by omega) (by omega)]
 congr 1
 have e2 : (18446744073709551615 - 9218868437227405312 : Nat) = 2 ^ 63 ||| (2 ^ 52 - 1) := by decide
 have h0 : P &&& 2 ^ 63 = 0 := by
   apply Nat.eq_of_testBit_eq
   intro i
   rw [Nat.testBit_and, Nat.testBit_two_pow]
   by_cases hi : 63 = i
   · subst hi
     rw [Nat.testBit_lt_two_pow (show P < 2 ^ 63 by omega)]
     simp
   · simp [hi]
 rw [e2, Nat.and_or_distrib_left, Nat.and_two_pow_sub_one_eq_mod, h0, Nat.zero_or]
theorem or_exp (M N : Nat) (hM : M < 4503599627370496) (hN : N < 4096) : bits .or .u64 (M : Int) ((N : Int) * 4503599627370496) = ((N * 4503599627370496 + M : Nat) : Int) := by
 have e : (N : Int) * 4503599627370496 = ((N * 4503599627370496 : Nat) : Int) := by omega
 rw [e, u64_or_nat _ _ (by omega) (by omega)]
 congr 1
 have := Nat.two_pow_add_eq_or_of_lt (i := 52) (b := M) hM N
 have h2 : (2 ^ 52 : Nat) = 4503599627370496 := rfl
 rw [h2] at this
 rw [Nat.or_comm, Nat.mul_comm N]
 exact this.symm
set_option maxHeartbeats 1000000 in
theorem ldexp_big (P K : Nat) (e : Int) (w : World) (hP1 : 4503599627370496 ≤ P) (hP2 : P < 9218868437227405312) (hK : P / 4503599627370496 = K) (hK1 : 1023 ≤ K) (hK2 : K ≤ 1076) (he1 : -1074 ≤ e) (he2 : e ≤ 971) (hbig : 2046 < e + K) :
   Calls Tryz.prog 126 #[.float .f64 P, .int .i64 e] w fun en w' => en = .returned (.float .f64 infR) ∧ w = w' := by
 have hq0 := fo_eq (x := P) (y := 0) (by omega) (by omega)
 rw [eq0 (by omega), decide_eq_false (by omega)] at hq0
 have hqn := fo_lt (x := P) (y := 0) (by omega) (by omega)
 have hf : ltB P 0 = false := by
   have hk : key P = (P : Int) := by unfold key sg mg; rw [decide_eq_false (by omega)]; simp; omega
   unfold ltB
   rw [hk, show key 0 = 0 from rfl, decide_eq_false (p := (P : Int) < 0) (by omega), Bool.and_false]
 rw [hf] at hqn
 have HN := Lib.hid (fun w => normalize_big P w hP1 hP2)
 have hnan : isNaN P = false := by unfold isNaN mg; rw [infR_val]; exact decide_eq_false (by omega)
 have hinf : isInf P = false := by unfold isInf mg; rw [infR_val]; exact decide_eq_false (by omega)
 have HI := Lib.hid (fun w => misinf_any P w (by omega))
 have HM := Lib.hid (fun w => mnan_any P w (by omega))
 rw [hnan] at HM
 rw [hinf] at HI
 have hd : (P : Int) / 4503599627370496 = (K : Int) := by omega
 have hand := and11i K hK1 hK2
 clear hf hnan hinf hK hP1
 go_enter Tryz.func126, Tryz.ntmps126
 go_wp2_with (first | (go_at_call 67; refine (HI.out _).mono ?_; rintro e w' ⟨rfl, rfl⟩) | (go_at_call 65; refine (HM.out _).mono ?_; rintro e w' ⟨rfl, rfl⟩) | (go_at_call 131; refine (HN.out _).mono ?_; rintro e w' ⟨rfl, rfl⟩) | (go_at_call 40; refine (inf_p _).mono ?_; rintro e w' ⟨rfl, rfl⟩))
 go_ret
 exact ⟨rfl, rfl⟩
set_option maxHeartbeats 1000000 in
theorem ldexp_mid (P K : Nat) (e : Int) (w : World) (hP1 : 4503599627370496 ≤ P) (hP2 : P < 9218868437227405312) (hK : P / 4503599627370496 = K) (hK1 : 1023 ≤ K) (hK2 : K ≤ 1076) (he1 : -1074 ≤ e) (he2 : e ≤ 971) (hlo : 1 ≤ e + K) (hhi : e + K ≤ 2046) (R : Nat) (hR : (R : Int) = (e + K) * 4503599627370496 + (P % 4503599627370496 : Nat)) :
   Calls Tryz.prog 126 #[.float .f64 P, .int .i64 e] w fun en w' => en = .returned (.float .f64 R) ∧ w = w' := by
 have hq0 := fo_eq (x := P) (y := 0) (by omega) (by omega)
 rw [eq0 (by omega), decide_eq_false (by omega)] at hq0
 have hqn := fo_lt (x := P) (y := 0) (by omega) (by omega)
 have hf : ltB P 0 = false := by
   have hk : key P = (P : Int) := by unfold key sg mg; rw [decide_eq_false (by omega)]; simp; omega
   unfold ltB
   rw [hk, show key 0 = 0 from rfl, decide_eq_false (p := (P : Int) < 0) (by omega), Bool.and_false]
 rw [hf] at hqn
 have HN := Lib.hid (fun w => normalize_big P w hP1 hP2)
 have hnan : isNaN P = false := by unfold isNaN mg; rw [infR_val]; exact decide_eq_false (by omega)
 have hinf : isInf P = false := by unfold isInf mg; rw [infR_val]; exact decide_eq_false (by omega)
 have HI := Lib.hid (fun w => misinf_any P w (by omega))
 have HM := Lib.hid (fun w => mnan_any P w (by omega))
 rw [hnan] at HM
 rw [hinf] at HI
 have hd : (P : Int) / 4503599627370496 = (K : Int) := by omega
 have hand := and11i K hK1 hK2
 obtain ⟨N, hN⟩ : ∃ N : Nat, (N : Int) = e + K := ⟨(e + K).toNat, by omega⟩
 have hN1 : 1 ≤ N := by omega
 have hN2 : N ≤ 2046 := by omega
 have hx1 : e + ((K : Int) - 1023) + 1023 = (N : Int) := by omega
 have hno := andNot_exp P (by omega)
 obtain ⟨M, hM⟩ : ∃ M, M = P % 4503599627370496 := ⟨_, rfl⟩
 have hM52 : M < 4503599627370496 := by omega
 rw [← hM] at hno
 have hor := or_exp M N hM52 (by omega)
 obtain ⟨Y, hY⟩ : ∃ Y, Y = N * 4503599627370496 + M := ⟨_, rfl⟩
 rw [← hY] at hor
 have hml : ∀ w, (binOp .mul 30 (.float .f64 4607182418800017408) (.float .f64 Y)).run Tryz.prog w = .ok (.float .f64 R) w := fun w => run_float_arith w .mul _ .f64 _ _ _ (by
   have hYR : Y = R := by omega
   rw [← hYR]
   exact mul_one_ (by rw [infR_val]; omega) (by omega))
 clear hf hnan hinf hK hP1 hN hM hY hR
 go_enter Tryz.func126, Tryz.ntmps126
 go_wp2_with (first | (go_at_call 67; refine (HI.out _).mono ?_; rintro e w' ⟨rfl, rfl⟩) | (go_at_call 65; refine (HM.out _).mono ?_; rintro e w' ⟨rfl, rfl⟩) | (go_at_call 131; refine (HN.out _).mono ?_; rintro e w' ⟨rfl, rfl⟩) | (go_at_call 40; refine (inf_p _).mono ?_; rintro e w' ⟨rfl, rfl⟩))
 go_ret
 exact ⟨rfl, rfl⟩
set_option maxHeartbeats 1000000 in
theorem ldexp_low (P K : Nat) (e : Int) (w : World) (hP1 : 4503599627370496 ≤ P) (hP2 : P < 9218868437227405312) (hK : P / 4503599627370496 = K) (hK1 : 1023 ≤ K) (hK2 : K ≤ 1076) (he1 : -1074 ≤ e) (he2 : e ≤ 971) (hlo : e + K < 1) (s : Nat) (hs1 : 1 ≤ s) (hs2 : s < 4503599627370496) (hv : ∀ Y : Nat, (Y : Int) = (e + K + 53) * 4503599627370496 + (P % 4503599627370496 : Nat) → ∀ c, c = 53 → rv Y = s * 2 ^ c) :
   Calls Tryz.prog 126 #[.float .f64 P, .int .i64 e] w fun en w' => en = .returned (.float .f64 s) ∧ w = w' := by
 have hq0 := fo_eq (x := P) (y := 0) (by omega) (by omega)
 rw [eq0 (by omega), decide_eq_false (by omega)] at hq0
 have hqn := fo_lt (x := P) (y := 0) (by omega) (by omega)
 have hf : ltB P 0 = false := by
   have hk : key P = (P : Int) := by unfold key sg mg; rw [decide_eq_false (by omega)]; simp; omega
   unfold ltB
   rw [hk, show key 0 = 0 from rfl, decide_eq_false (p := (P : Int) < 0) (by omega), Bool.and_false]
 rw [hf] at hqn
 have HN := Lib.hid (fun w => normalize_big P w hP1 hP2)
 have hnan : isNaN P = false := by unfold isNaN mg; rw [infR_val]; exact decide_eq_false (by omega)
 have hinf : isInf P = false := by unfold isInf mg; rw [infR_val]; exact decide_eq_false (by omega)
 have HI := Lib.hid (fun w => misinf_any P w (by omega))
 have HM := Lib.hid (fun w => mnan_any P w (by omega))
 rw [hnan] at HM
 rw [hinf] at HI
 have hd : (P : Int) / 4503599627370496 = (K : Int) := by omega
 have hand := and11i K hK1 hK2
 obtain ⟨N, hN⟩ : ∃ N : Nat, (N : Int) = e + K + 53 := ⟨(e + K + 53).toNat, by omega⟩
 have hN1 : 1 ≤ N := by omega
 have hN2 : N ≤ 2046 := by omega
 have hx1 : e + ((K : Int) - 1023) + 53 + 1023 = (N : Int) := by omega
 have hno := andNot_exp P (by omega)
 obtain ⟨M, hM⟩ : ∃ M, M = P % 4503599627370496 := ⟨_, rfl⟩
 have hM52 : M < 4503599627370496 := by omega
 rw [← hM] at hno
 have hor := or_exp M N hM52 (by omega)
 obtain ⟨Y, hY⟩ : ∃ Y, Y = N * 4503599627370496 + M := ⟨_, rfl⟩
 rw [← hY] at hor
 have hml : ∀ w, (binOp .mul 30 (.float .f64 4368491638549381120) (.float .f64 Y)).run Tryz.prog w = .ok (.float .f64 s) w := fun w => run_float_arith w .mul _ .f64 _ _ _ (by exact mul_low (u := 0) hs1 hs2 (by rw [infR_val]; omega) (hv Y (by omega)))
 clear hf hnan hinf hK hP1 hN hM hY hv
 go_enter Tryz.func126, Tryz.ntmps126
 go_wp2_with (first | (go_at_call 67; refine (HI.out _).mono ?_; rintro e w' ⟨rfl, rfl⟩) | (go_at_call 65; refine (HM.out _).mono ?_; rintro e w' ⟨rfl, rfl⟩) | (go_at_call 131; refine (HN.out _).mono ?_; rintro e w' ⟨rfl, rfl⟩) | (go_at_call 40; refine (inf_p _).mono ?_; rintro e w' ⟨rfl, rfl⟩))
 go_ret
 exact ⟨rfl, rfl⟩
theorem cancel_pow {a b c : Nat} (h : a * 2 ^ c = b * 2 ^ c) : a = b := Nat.eq_of_mul_eq_mul_right (Nat.two_pow_pos c) h
set_option maxHeartbeats 1000000 in
theorem ldexp_zero (e : Int) (w : World) :
   Calls Tryz.prog 126 #[.float .f64 0, .int .i64 e] w fun en w' => en = .returned (.float .f64 0) ∧ w = w' := by
 have hq0 := fo_eq (x := 0) (y := 0) (by omega) (by omega)
 rw [eq0 (by omega), decide_eq_true (by omega)] at hq0
 go_enter Tryz.func126, Tryz.ntmps126
 go_wp2
 go_ret
 exact ⟨rfl, rfl⟩
theorem ldexp_any (s u : Nat) (e : Int) (w : World) (he : e = (u : Int) - 1074) (hu : u ≤ 2045) (hs : s ≤ 9007199254740992) (hus : u ≠ 0 → 4503599627370496 ≤ s) :
   Calls Tryz.prog 126 #[.float .f64 (FloatKind.f64.nearest (s : Int)), .int .i64 e] w fun en w' => en = .returned (.float .f64 (u * 4503599627370496 + s)) ∧ w = w' := by
 by_cases h0 : s = 0
 · have hu0 : u = 0 := by
     rcases Nat.eq_zero_or_pos u with h | h
     · exact h
     · have := hus (by omega); omega
   subst h0 hu0
   have hn : FloatKind.f64.nearest ((0 : Nat) : Int) = 0 := by
     have e : FloatKind.f64.nearest ((0 : Nat) : Int) = Ieee.double.nearest false 0 0 := rfl
     rw [e, nearest_eq, word_eq, zd_zero, rr_zero]; rfl
   rw [hn]
   exact ldexp_zero e w
 · obtain ⟨u0, s', a1, a2, a3, a4, a5⟩ := ld_norm (show 1 ≤ s by omega) hs
   rw [nearest_of a2 a3 a4 a5]
   obtain ⟨c, hc⟩ : ∃ c, c = 1074 := ⟨_, rfl⟩
   have h5 := a5 c hc
   have hR := rv_form u s hs hus
   have hK : (u0 * 4503599627370496 + s') / 4503599627370496 = u0 + 1 := by omega
   have hM : (u0 * 4503599627370496 + s') % 4503599627370496 = s' - 4503599627370496 := by omega
   by_cases hbig : 3119 < u + u0
   · have h := ldexp_big (u0 * 4503599627370496 + s') (u0 + 1) e w (by omega) (by omega) hK (by omega) (by omega) (by omega) (by omega) (by push_cast; omega)
     have hinf : u * 4503599627370496 + s = infR := by
       have h6 : infR ≤ u * 4503599627370496 + s := by
         rw [← rv_le_iff, hR]
         obtain ⟨q, hq⟩ : ∃ q, q = 2046 := ⟨_, rfl⟩
         have hri := rv_form q 4503599627370496 (by omega) (fun _ => by omega)
         rw [show q * 4503599627370496 + 4503599627370496 = infR by rw [infR_val]; omega] at hri
         rw [hri]
         refine Nat.le_of_mul_le_mul_right (c := 2 ^ c) ?_ (Nat.two_pow_pos c)
         have e2 : s * 2 ^ u * 2 ^ c = s' * 2 ^ (u0 + u) := by
           rw [Nat.pow_add, ← Nat.mul_assoc, h5, Nat.mul_right_comm]
         rw [e2, Nat.mul_assoc, ← Nat.pow_add]
         exact Nat.mul_le_mul a3 (Nat.pow_le_pow_right (by omega) (by omega))
       rw [infR_val] at h6 ⊢
       omega
     rw [hinf]
     exact h
   · by_cases hmid : 1074 ≤ u + u0
     · refine ldexp_mid (u0 * 4503599627370496 + s') (u0 + 1) e w (by omega) (by omega) hK (by omega) (by omega) (by omega) (by omega) (by push_cast; omega) (by push_cast; omega) _ ?_
       have hY := rv_form (u + u0 - 1074) s' (by omega) (fun _ => a3)
       have e2 : rv (u * 4503599627370496 + s) = rv ((u + u0 - 1074) * 4503599627370496 + s') := by
         rw [hR, hY]
         refine cancel_pow (c := c) ?_
         rw [Nat.mul_assoc s', ← Nat.pow_add, show u + u0 - 1074 + c = u0 + u by omega, Nat.pow_add, ← Nat.mul_assoc, h5, Nat.mul_right_comm]
       have e3 := rv_inj e2
       rw [hM]
       clear e2 hY hR h5 a5
       omega
     · have hu0 : u = 0 := by
         rcases Nat.eq_zero_or_pos u with h | h
         · exact h
         · exfalso
           have h7 := hus (by omega)
           have h8 : s' * 2 ^ u0 < 9007199254740992 * 2 ^ u0 := Nat.mul_lt_mul_of_pos_right a4 (Nat.two_pow_pos _)
           have h9 : 4503599627370496 * 2 ^ c ≤ s * 2 ^ c := Nat.mul_le_mul_right _ h7
           have h10 : 2 ^ (u0 + 1) ≤ 2 ^ c := Nat.pow_le_pow_right (by omega) (by omega)
           rw [Nat.pow_succ] at h10
           omega
       subst hu0
       have hs52 : s < 4503599627370496 := by
         rcases Nat.lt_or_ge s 4503599627370496 with h | h
         · exact h
         · exfalso
           have h8 : s' * 2 ^ u0 < 9007199254740992 * 2 ^ u0 := Nat.mul_lt_mul_of_pos_right a4 (Nat.two_pow_pos _)
           have h9 : 4503599627370496 * 2 ^ c ≤ s * 2 ^ c := Nat.mul_le_mul_right _ h
           have h10 : 2 ^ (u0 + 1) ≤ 2 ^ c := Nat.pow_le_pow_right (by omega) (by omega)
           rw [Nat.pow_succ] at h10
           omega
       rw [Nat.zero_mul, Nat.zero_add]
       refine ldexp_low (u0 * 4503599627370496 + s') (u0 + 1) e w (by omega) (by omega) hK (by omega) (by omega) (by omega) (by omega) (by push_cast; omega) s (by omega) hs52 (fun Y hY d hd => ?_)
       have e4 : Y = (u0 - 1021) * 4503599627370496 + s' := by
         rw [hM] at hY
         clear hR h5 a5
         omega
       rw [e4, rv_form (u0 - 1021) s' (by omega) (fun _ => a3)]
       obtain ⟨q, hq⟩ : ∃ q, q = 1021 := ⟨_, rfl⟩
       refine cancel_pow (c := q) ?_
       rw [Nat.mul_assoc, ← Nat.pow_add, show u0 - 1021 + q = u0 by omega, h5, Nat.mul_assoc, ← Nat.pow_add, show d + q = c by omega]
set_option maxHeartbeats 400000 in
theorem mldexp_any (s u : Nat) (e : Int) (w : World) (he : e = (u : Int) - 1074) (hu : u ≤ 2045) (hs : s ≤ 9007199254740992) (hus : u ≠ 0 → 4503599627370496 ≤ s) :
   Calls Tryz.prog 116 #[.float .f64 (FloatKind.f64.nearest (s : Int)), .int .i64 e] w fun en w' => en = .returned (.float .f64 (u * 4503599627370496 + s)) ∧ w = w' := by
 have HL := Lib.hid (fun w => ldexp_any s u e w he hu hs hus)
 generalize FloatKind.f64.nearest (s : Int) = P at *
 generalize u * 4503599627370496 + s = R at *
 clear he hu hs hus
 go_enter Tryz.func116, Tryz.ntmps116
 go_wp2_with (go_at_call 126; refine (HL.out _).mono ?_; rintro e w' ⟨rfl, rfl⟩)
 go_ret
 exact ⟨rfl, rfl⟩
end Go.Proofs.YtbcaggdgoidlaaaGreatDoor

namespace Go.Proofs.YtbcaggdgoidlaaaGreatDoor
open Go.RowKit Nm Rn
set_option maxRecDepth 100000
set_option linter.unusedVariables false
set_option linter.unusedSimpArgs false
theorem run_ng {x : Nat} (h : x < 18446744073709551616) (w : World) : (Go.Op.unary .neg (.float .f64 x)).run Tryz.prog w = .ok (.float .f64 (ng x)) w := by
 have : Go.Op.negFloat .f64 x = ng x := ng_xor h
 rw [← this]; rfl
theorem pat_ng {r : Nat} (h : r < 9223372036854775808) (h0 : r ≠ 0) : ng r = pat true r := by
 unfold ng pat sg
 rw [decide_eq_false (by omega), if_neg h0]
 simp; omega
theorem pat_plus (r : Nat) : pat false r = r := by unfold pat; split <;> simp_all
set_option maxHeartbeats 1000000 in
theorem beyond_any (d : Int) (neg : Bool) (w : World) :
   Calls Tryz.prog 114 #[.int .i64 d, .bool neg] w fun e w' => e = .returned (.float .f64 (pat neg (if twB d neg then infR - 1 else infR))) ∧ w = w' := by
 have hn1 := fun w => run_ng (x := 9218868437227405311) (by omega) w
 have hn2 := fun w => run_ng (x := infR) infR_lt w
 rw [pat_ng (r := 9218868437227405311) (by omega) (by omega)] at hn1
 rw [pat_ng (r := infR) (by rw [infR_val]; omega) (by rw [infR_val]; omega)] at hn2
 have HI := Lib.hid (fun w => inf_p w)
 have key : ∃ t, t = twB d neg ∧ ((d == 1) = true ∧ (d == -1) = false ∧ t = neg ∨ (d == 1) = false ∧ (d == -1) = true ∧ t = !neg ∨ (d == 1) = false ∧ (d == -1) = false ∧ t = false) := by
   refine ⟨_, rfl, ?_⟩
   unfold twB
   by_cases h1 : d = 1
   · subst h1; left; cases neg <;> simp
   · by_cases h2 : d = -1
     · subst h2; right; left; cases neg <;> simp
     · right; right; simp [h1, h2]
 obtain ⟨t, ht, hk⟩ := key
 rw [← ht]
 clear ht
 have hF : ∀ b, (if b = true then infR - 1 else infR) = if b = true then 9218868437227405311 else infR := by intro b; rw [infR_val]
 rw [hF]
 clear hF
 cases neg
 all_goals
   rcases hk with ⟨h1, h2, rfl⟩ | ⟨h1, h2, rfl⟩ | ⟨h1, h2, rfl⟩
   all_goals
     go_enter Tryz.func114, Tryz.ntmps114
     go_wp2_with (go_at_call 40; refine (HI.out _).mono ?_; rintro e w' ⟨rfl, rfl⟩)
     go_ret
     exact ⟨by first | rfl | (simp only [pat_plus]; rfl), rfl⟩
theorem and3 (v : Nat) (h : v < 18446744073709551616) : bits .and .u64 (v : Int) 3 = ((v % 4 : Nat) : Int) := by
 rw [show (3 : Int) = ((3 : Nat) : Int) from rfl, u64_and_nat _ _ h (by omega)]
 congr 1
 exact Nat.and_two_pow_sub_one_eq_mod v 2
theorem and1 (v : Nat) (h : v < 18446744073709551616) : bits .and .u64 (v : Int) 1 = ((v % 2 : Nat) : Int) := by
 rw [show (1 : Int) = ((1 : Nat) : Int) from rfl, u64_and_nat _ _ h (by omega)]
 congr 1
 exact Nat.and_two_pow_sub_one_eq_mod v 1
theorem or1 (v : Nat) (h : v < 18446744073709551615) : bits .or .u64 (v : Int) 1 = ((stick v true : Nat) : Int) := by
 rw [show (1 : Int) = ((1 : Nat) : Int) from rfl, u64_or_nat _ _ (by omega) (by omega), or_one]
theorem stick_lt (W : Nat) (f : Bool) : stick W f ≤ W + 1 := by unfold stick; split <;> omega
set_option maxHeartbeats 4000000 in
theorem of_any (d : Int) (neg : Bool) (A : Option Addr) (n c : Nat) (xs : List Nat) (exp : Int) (more : Bool) (w : World) (h : Wds w A n c xs) (hn : n ≤ 1099511627776) (hnl : nw (nv xs) ≤ 16384)
   (he1 : -4398046511104 ≤ exp) (he2 : exp ≤ 4398046511104) (hm : more = true → 55 ≤ bl (nv xs)) :
   Calls Tryz.prog 103 #[.int .i64 d, .bool neg, .slice A n c, .int .i64 exp, .bool more] w fun e w' => e = .returned (.float .f64 (rnd d neg (zd (2 * nv xs + more.toNat) (exp - 1)))) ∧ Ext w w' := by
 have hLen := nlen_any A n c xs w h (by omega)
 have hBl := bl_le_nw (nv xs)
 obtain ⟨V, hV⟩ : ∃ V, V = nv xs := ⟨_, rfl⟩
 obtain ⟨B, hB⟩ : ∃ B, B = bl V := ⟨_, rfl⟩
 rw [← hV] at hLen hBl hm hnl ⊢
 rw [← hB] at hLen hBl hm
 have HL := Lib.hid hLen
 have HB := Lib.hid hB
 have HV := Lib.hid hV
 clear hLen hB hV
 by_cases hV0 : V = 0
 · have hB0 : B = 0 := by rw [HB.out, hV0]; rfl
   have hmf : more = false := by cases more; rfl; have := hm rfl; omega
   have HF : Hid (0 = rnd d neg (zd (2 * V + more.toNat) (exp - 1))) := Lib.hid (by rw [hV0, hmf]; show 0 = rnd d neg (zd 0 _); rw [zd_zero, rnd_zero])
   have hB1 : ((B : Int) == 0) = true := by rw [hB0]; rfl
   clear hmf hB0 hV0 hm
   go_enter Tryz.func103, Tryz.ntmps103
   go_wp2_with (go_at_call 99; refine HL.out.mono ?_; rintro e w' ⟨rfl, rfl⟩)
   go_ret
   exact ⟨ret_float HF.out, Ext.refl w⟩
 · have hBp : 1 ≤ B := by have := bl_pos hV0; have := HB.out; omega
   have hB1 : ((B : Int) == 0) = false := by rw [beq_eq_false_iff_ne]; omega
   by_cases hbig : 1023 < (B : Int) - 1 + exp
   · have HF : Hid (pat neg (if twB d neg then infR - 1 else infR) = rnd d neg (zd (2 * V + more.toNat) (exp - 1))) := Lib.hid (by rw [rnd_big hV0 (by rw [← HB.out]; exact hbig)])
     have HY := Lib.hid (fun w => beyond_any d neg w)
     generalize pat neg (if twB d neg then infR - 1 else infR) = R at *
     clear hV0 hm
     go_enter Tryz.func103, Tryz.ntmps103
     go_wp2_with (first | (go_at_call 99; refine HL.out.mono ?_; rintro e w' ⟨rfl, rfl⟩) | (go_at_call 114; refine (HY.out _).mono ?_; rintro e w' ⟨rfl, rfl⟩))
     go_ret
     exact ⟨ret_float HF.out, Ext.refl w⟩
   · obtain ⟨E, hE⟩ : ∃ E, E = ofE V exp := ⟨_, rfl⟩
     have hEd : E = max ((B : Int) - 53 + exp) (-1074) := by rw [hE, HB.out]; rfl
     have hE1 : -1074 ≤ E := by omega
     have hE2 : E ≤ 971 := by omega
     obtain ⟨C, hC⟩ : ∃ C, C = E - 2 - exp := ⟨_, rfl⟩
     have hC1 : C ≤ 4398046513000 := by omega
     have hC2 : -4398046513000 ≤ C := by omega
     have hCE : C = ofE V exp - 2 - exp := by rw [← hE]; exact hC
     obtain ⟨u, hu⟩ : ∃ u : Nat, (u : Int) = E + 1074 := ⟨(E + 1074).toNat, by omega⟩
     obtain ⟨W, hW⟩ : ∃ W, W = ofW V C := ⟨_, rfl⟩
     obtain ⟨F, hF⟩ : ∃ F, F = ofF V C more := ⟨_, rfl⟩
     obtain ⟨v, hv⟩ : ∃ v, v = stick W F := ⟨_, rfl⟩
     have hwl := ofW_lt hV0 hCE
     rw [← hW] at hwl
     have hvl : v ≤ W + 1 := by rw [hv]; exact stick_lt W F
     have hmain := rnd_ofW (more := more) hV0 (by rw [← HB.out]; exact hm) hCE (by rw [← HB.out]; omega) d neg (v := v) (u := u) (by rw [hv, hW, hF]) (by rw [← hE]; exact hu)
     obtain ⟨s, hs⟩ : ∃ s, s = v / 4 := ⟨_, rfl⟩
     obtain ⟨r, hr⟩ : ∃ r, r = v % 4 := ⟨_, rfl⟩
     rw [← hs, ← hr] at hmain
     obtain ⟨up, hup⟩ : ∃ up, up = upO d neg s r := ⟨_, rfl⟩
     rw [← hup] at hmain
     obtain ⟨S, hS⟩ : ∃ S, S = s + up.toNat := ⟨_, rfl⟩
     rw [← hS] at hmain
     obtain ⟨m1, m2, m3, m4⟩ := hmain
     rw [m1]
     have hW55 : W < 36028797018963968 := hwl.1
     have HSH := Lib.hid hwl.2.2
     have hr4 : r < 4 := by omega
     have hsl : s ≤ 9007199254740992 := by omega
     have HED := Lib.hid hEd
     have HM4 := Lib.hid m4
     have HU := Lib.hid hu
     have HWV := Lib.hid hW
     have HFV := Lib.hid hF
     have HSV := Lib.hid hv
     have HRV := Lib.hid hr
     have HSS := Lib.hid hs
     have HUP := Lib.hid hup
     have HST := Lib.hid hS
     have HCC := Lib.hid hC
     have hv64 : v ≤ 36028797018963968 := by omega
     have hbig' : ((B : Int) - 1 + exp) ≤ 1023 := by omega
     clear hwl m1 m4 hE hEd hCE hu hW hF hv hr hs hup hS hbig hm hC
     go_enter Tryz.func103, Tryz.ntmps103
     go_upto_region 6 with (go_at_call 99; refine HL.out.mono ?_; rintro e w' ⟨rfl, rfl⟩)
     go_cut [12] (fun a wx => a = .int .i64 E ∧ w = wx)
     case first =>
       as_aux_lemma =>
         have hEv := HED.out
         rcases Int.lt_or_le ((B : Int) - 53 + exp) (-1074) with hlo | hhi
         · have HF : Hid (-1074 = E) := Lib.hid (by omega)
           clear hEv hE1 hE2
           go_wp2
           go_meet
           exact ⟨by rw [HF.out], rfl⟩
         · have HF : Hid ((B : Int) - 53 + exp = E) := Lib.hid (by omega)
           clear hEv hE1 hE2
           go_wp2
           go_meet
           exact ⟨by rw [HF.out], rfl⟩
     case rest =>
       obtain ⟨rfl, rfl⟩ := hcut
       have hC' : E - 2 - exp = C := HCC.out.symm
       obtain ⟨LO, hLO⟩ : ∃ LO, LO = (decide (0 < C) && decide (V % 2 ^ C.toNat ≠ 0)) := ⟨_, rfl⟩
       have HLO := Lib.hid hLO
       have HV0 := Lib.hid hV0
       clear hLO hV0
       go_upto_if 44 with fail
       go_cut [14, 15] (fun a b wx => ∃ A2 n2 c2, a = .slice A2 n2 c2 ∧ b = .bool LO ∧ Wds wx A2 n2 c2 (nd W) ∧ Ext w wx)
       case first =>
         as_aux_lemma =>
           rcases Int.lt_or_le 0 C with hpos | hneg
           · obtain ⟨k, rfl⟩ : ∃ k : Nat, C = k := ⟨C.toNat, by omega⟩
             have hsh := nshr_any A n c xs k w h (by omega) (by omega) (by rw [← HV.out]; exact hnl)
             have e1 : Hid (nv xs / 2 ^ k = W) := Lib.hid (by rw [← HV.out, HWV.out]; unfold ofW; rw [if_pos hpos, Int.toNat_natCast])
             have e2 : lostB (nv xs) k = LO := by
               rw [HLO.out, ← HV.out, decide_eq_true hpos, Bool.true_and, Int.toNat_natCast]; rfl
             rw [e1.out, e2] at hsh
             have HSR := Lib.hid hsh
             clear hsh e2
             go_wp2_with (go_at_call 83; refine HSR.out.mono ?_; rintro e w' ⟨A2, n2, c2, rfl, hR, hEx⟩)
             go_meet
             exact ⟨A2, n2, c2, rfl, rfl, hR, hEx⟩
           · obtain ⟨k, hk⟩ : ∃ k : Nat, -C = k := ⟨(-C).toNat, by omega⟩
             have hk2 : IntKind.i64.wrap (-C) = (k : Int) := by rw [IntWalk.i64_in _ (by omega)]; exact hk
             have h55 := HSH.out hneg
             rw [hk, Int.toNat_natCast, ← HB.out] at h55
             have hsh := nshl_any A n c xs k w h (by omega) (by rw [← HV.out]; exact HV0.out) (by rw [← HV.out, ← HB.out]; omega)
             have e1 : Hid (nv xs * 2 ^ k = W) := Lib.hid (by rw [← HV.out, HWV.out]; unfold ofW; rw [if_neg (by omega), hk, Int.toNat_natCast])
             have e2 : Hid (LO = false) := Lib.hid (by rw [HLO.out, decide_eq_false (by omega), Bool.false_and])
             rw [e1.out] at hsh
             have HSL := Lib.hid hsh
             clear hsh h55 hk
             go_wp2_with (go_at_call 104; refine HSL.out.mono ?_; rintro e w' ⟨A2, n2, c2, rfl, hR, hEx⟩)
             go_meet
             exact ⟨A2, n2, c2, rfl, by rw [e2.out], hR, hEx⟩
       case rest =>
         obtain ⟨A2, n2, c2, rfl, rfl, hW2, hEx⟩ := hcut
         have hn2 : n2 ≤ 2 := by
           have h1 := hW2.len
           rw [nd_length] at h1
           have h2 : nw W ≤ 2 := (nw_le_iff W 2).2 (by omega)
           omega
         have hwd := nword_any A2 n2 c2 _ wc hW2 (by omega) (by rw [nv_nd]; exact (nw_le_iff W 2).2 (by omega))
         rw [nv_nd] at hwd
         have HWD := Lib.hid hwd
         have HEX := Lib.hid hEx
         clear hwd hEx hC'
         go_wp2_with fail
         refine HWD.out.mono ?_
         rintro e w3 ⟨rfl, q, rfl⟩
         have HE3 : Hid (Ext w (wc.drewN q)) := Lib.hid (HEX.out.drewN q)
         clear HEX
         have hFL : F = (LO || more) := by rw [HFV.out, HLO.out]; rfl
         have HFL := Lib.hid hFL
         clear hFL
         go_upto_region 13 with fail
         go_cut [67] (fun a wx => a = .bool F ∧ wc.drewN q = wx)
         case first =>
           as_aux_lemma =>
             cases LO <;> cases more
             all_goals
               go_wp2
               go_meet
               exact ⟨by rw [HFL.out]; rfl, rfl⟩
         case rest =>
           obtain ⟨rfl, rfl⟩ := hcut
           go_upto_if 67 with fail
           go_cut [16] (fun a wx => a = .int .u64 (v : Int) ∧ wc.drewN q = wx)
           case first =>
             as_aux_lemma =>
               have hsv := HSV.out
               cases F
               · have HF : Hid (W = v) := Lib.hid (by rw [hsv]; rfl)
                 clear hsv
                 go_wp2
                 go_meet
                 exact ⟨by rw [HF.out], rfl⟩
               · have hor := or1 W (by omega)
                 have HF : Hid (stick W true = v) := Lib.hid (by rw [hsv])
                 clear hsv
                 go_wp2
                 go_meet
                 exact ⟨by rw [← HF.out], rfl⟩
           case rest =>
             obtain ⟨rfl, rfl⟩ := hcut
             have hs4 : (v : Int) / 4 = (s : Int) := by have := HSS.out; omega
             have hr3 := and3 v (by omega)
             rw [← HRV.out] at hr3
             go_upto_block 0 with fail
             go_cut [18] (fun a wx => a = .int .u64 (S : Int) ∧ wc.drewN q = wx)
             case first =>
               as_aux_lemma =>
                 clear hs4 hr3
                 by_cases hd1 : d = 1
                 · subst hd1
                   by_cases hr0 : r = 0
                   · have HF : Hid (S = s) := Lib.hid (by rw [HST.out, HUP.out]; unfold upO; rw [if_pos hr0]; rfl)
                     subst hr0
                     go_wp2
                     go_meet
                     exact ⟨val_int (by have := HF.out; omega), rfl⟩
                   · have hr1 : (0 : Int) < (r : Int) := by omega
                     have hr2 : 0 < r := by omega
                     have HF : Hid (S = s + (!neg).toNat) := Lib.hid (by rw [HST.out, HUP.out]; unfold upO; rw [if_neg hr0, if_pos rfl])
                     clear hr0
                     cases neg
                     all_goals
                       go_wp2
                       go_meet
                       exact ⟨val_int (by have h9 := HF.out; simp at h9; omega), rfl⟩
                 · by_cases hd2 : d = -1
                   · subst hd2
                     by_cases hr0 : r = 0
                     · have HF : Hid (S = s) := Lib.hid (by rw [HST.out, HUP.out]; unfold upO; rw [if_pos hr0]; rfl)
                       subst hr0
                       go_wp2
                       go_meet
                       exact ⟨val_int (by have := HF.out; omega), rfl⟩
                     · have hr1 : (0 : Int) < (r : Int) := by omega
                       have hr2 : 0 < r := by omega
                       have HF : Hid (S = s + neg.toNat) := Lib.hid (by rw [HST.out, HUP.out]; unfold upO; rw [if_neg hr0, if_neg (by omega), if_pos rfl])
                       clear hr0
                       cases neg
                       all_goals
                         go_wp2
                         go_meet
                         exact ⟨val_int (by have h9 := HF.out; simp at h9; omega), rfl⟩
                   · have e1 : (d == 1) = false := by rw [beq_eq_false_iff_ne]; exact hd1
                     have e2 : (d == -1) = false := by rw [beq_eq_false_iff_ne]; exact hd2
                     have HF : Hid (S = s + (if r = 0 then false else (decide (r = 3) || (decide (r = 2) && decide (s % 2 = 1)))).toNat) := Lib.hid (by rw [HST.out, HUP.out]; unfold upO; rw [if_neg hd1, if_neg hd2])
                     have ha := and1 s (by omega)
                     have hcases : r = 0 ∨ r = 1 ∨ r = 2 ∨ r = 3 := by omega
                     have hpar : s % 2 = 0 ∨ s % 2 = 1 := by omega
                     clear hd1 hd2
                     rcases hcases with rfl | rfl | rfl | rfl
                     · go_wp2
                       go_meet
                       exact ⟨val_int (by have h9 := HF.out; simp at h9; omega), rfl⟩
                     · go_wp2
                       go_meet
                       exact ⟨val_int (by have h9 := HF.out; simp at h9; omega), rfl⟩
                     · rcases hpar with hp | hp
                       · have HF2 : Hid (S = s) := Lib.hid (by have h9 := HF.out; simp [hp] at h9; omega)
                         rw [hp] at ha
                         clear hp
                         go_wp2
                         go_meet
                         exact ⟨val_int (by have h9 := HF2.out; omega), rfl⟩
                       · have HF2 : Hid (S = s + 1) := Lib.hid (by have h9 := HF.out; simp [hp] at h9; omega)
                         rw [hp] at ha
                         clear hp
                         go_wp2
                         go_meet
                         exact ⟨val_int (by have h9 := HF2.out; omega), rfl⟩
                     · go_wp2
                       go_meet
                       exact ⟨val_int (by have h9 := HF.out; simp at h9; omega), rfl⟩
             case rest =>
               obtain ⟨rfl, rfl⟩ := hcut
               have hld := fun w => mldexp_any S u E w (by have := HU.out; omega) m2 m3 HM4.out
               obtain ⟨P, hP⟩ : ∃ P, P = FloatKind.f64.nearest (S : Int) := ⟨_, rfl⟩
               have hP' : floatOfInt .f64 (S : Int) = P := hP.symm
               obtain ⟨R, hR⟩ : ∃ R, R = u * 4503599627370496 + S := ⟨_, rfl⟩
               rw [← hP, ← hR] at hld
               have HRD := Lib.hid hR
               have hRl : R < 9223372036854775808 := by omega
               have HLD := Lib.hid hld
               have hq := fo_ne (x := R) (y := 0) (by omega) (by omega)
               rw [eq0 (by omega)] at hq
               have hu1 := fun w => run_ng (x := R) (by omega) w
               clear hP hld hR hs4 hr3
               cases neg
               · have HF : Hid (R = pat false R) := Lib.hid (pat_plus R).symm
                 clear hq hu1
                 go_wp2_with (go_at_call 116; refine (HLD.out _).mono ?_; rintro e w' ⟨rfl, rfl⟩)
                 go_ret
                 exact ⟨ret_float (by rw [← HRD.out]; exact HF.out), HE3.out⟩
               · by_cases hR0 : R = 0
                 · rw [decide_eq_true (.inl hR0), Bool.not_true] at hq
                   have HF : Hid (R = pat true R) := Lib.hid (by rw [hR0]; rfl)
                   clear hR0 hu1
                   go_wp2_with (go_at_call 116; refine (HLD.out _).mono ?_; rintro e w' ⟨rfl, rfl⟩)
                   go_ret
                   exact ⟨ret_float (by rw [← HRD.out]; exact HF.out), HE3.out⟩
                 · rw [decide_eq_false (by omega), Bool.not_false] at hq
                   have HF : Hid (ng R = pat true R) := Lib.hid (pat_ng hRl hR0)
                   clear hR0
                   go_wp2_with (go_at_call 116; refine (HLD.out _).mono ?_; rintro e w' ⟨rfl, rfl⟩)
                   go_ret
                   exact ⟨ret_float (by rw [← HRD.out]; exact HF.out), HE3.out⟩
end Go.Proofs.YtbcaggdgoidlaaaGreatDoor
