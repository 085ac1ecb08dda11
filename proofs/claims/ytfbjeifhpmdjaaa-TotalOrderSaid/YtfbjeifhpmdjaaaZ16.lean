/-
  The contracts of the program's rounding: beyond, of. Conditions: those that each theorem names.
-/
import Derived.Test.YtfbjeifhpmdjaaaZ14
import Derived.Test.YtfbjeifhpmdjaaaZ15
import Derived.Test.YtfbjeifhpmdjaaaZ09
import Derived.Deep.DeepCutAuto
import Derived.Deep.CutBlock
import Derived.Test.YtfbjeifhpmdjaaaZ12
namespace Go.Proofs.Ytfbjeifhpmdjaaa
open Go.RowKit Nm Rn
set_option maxRecDepth 100000
set_option linter.unusedVariables false
set_option linter.unusedSimpArgs false

/-- The sign turned, in the walk's own form. -/
theorem run_ng {x : Nat} (h : x < 18446744073709551616) (w : World) : (Go.Op.unary .neg (.float .f64 x)).run Try.prog w = .ok (.float .f64 (ng x)) w := by
  have : Go.Op.negFloat .f64 x = ng x := ng_xor h
  rw [← this]; rfl
theorem pat_ng {r : Nat} (h : r < 9223372036854775808) (h0 : r ≠ 0) : ng r = pat true r := by
  unfold ng pat sg
  rw [decide_eq_false (by omega), if_neg h0]
  simp; omega
theorem pat_plus (r : Nat) : pat false r = r := by unfold pat; split <;> simp_all

set_option maxHeartbeats 1000000 in
theorem beyond_any (d : Int) (neg : Bool) (w : World) :
    Calls Try.prog 94 #[.int .i64 d, .bool neg] w fun e w' => e = .returned (.float .f64 (pat neg (if twB d neg then infR - 1 else infR))) ∧ w = w' := by
  have hn1 := fun w => run_ng (x := 9218868437227405311) (by omega) w
  have hn2 := fun w => run_ng (x := infR) infR_lt w
  rw [pat_ng (r := 9218868437227405311) (by omega) (by omega)] at hn1
  rw [pat_ng (r := infR) (by rw [infR_val]; omega) (by rw [infR_val]; omega)] at hn2
  have HI := Lib.hid (fun w => inf_p w)
  have key : ∃ t, t = twB d neg ∧ ((d == 1) = true ∧ (d == -1) = false ∧ t = neg ∨ (d == 1) = false ∧ (d == -1) = true ∧ t = !neg ∨ (d == 1) = false ∧ (d == -1) = false ∧ t = false) := by
    refine ⟨_, rfl, ?_⟩
    unfold twB
    by_cases h1 : d = 1
    · subst h1; left; cases neg <;> simp
    · by_cases h2 : d = -1
      · subst h2; right; left; cases neg <;> simp
      · right; right; simp [h1, h2]
  obtain ⟨t, ht, hk⟩ := key
  rw [← ht]
  clear ht
  have hF : ∀ b, (if b = true then infR - 1 else infR) = if b = true then 9218868437227405311 else infR := by intro b; rw [infR_val]
  rw [hF]
  clear hF
  cases neg
  all_goals
    rcases hk with ⟨h1, h2, rfl⟩ | ⟨h1, h2, rfl⟩ | ⟨h1, h2, rfl⟩
    all_goals
      go_enter Try.func94, Try.ntmps94
      go_wp2_with (go_at_call 70; refine (HI.out _).mono ?_; rintro e w' ⟨rfl, rfl⟩)
      go_ret
      exact ⟨by first | rfl | (simp only [pat_plus]; rfl), rfl⟩

theorem and3 (v : Nat) (h : v < 18446744073709551616) : bits .and .u64 (v : Int) 3 = ((v % 4 : Nat) : Int) := by
  rw [show (3 : Int) = ((3 : Nat) : Int) from rfl, u64_and_nat _ _ h (by omega)]
  congr 1
  exact Nat.and_two_pow_sub_one_eq_mod v 2
theorem and1 (v : Nat) (h : v < 18446744073709551616) : bits .and .u64 (v : Int) 1 = ((v % 2 : Nat) : Int) := by
  rw [show (1 : Int) = ((1 : Nat) : Int) from rfl, u64_and_nat _ _ h (by omega)]
  congr 1
  exact Nat.and_two_pow_sub_one_eq_mod v 1
theorem or1 (v : Nat) (h : v < 18446744073709551615) : bits .or .u64 (v : Int) 1 = ((stick v true : Nat) : Int) := by
  rw [show (1 : Int) = ((1 : Nat) : Int) from rfl, u64_or_nat _ _ (by omega) (by omega), or_one]
theorem stick_lt (W : Nat) (f : Bool) : stick W f ≤ W + 1 := by unfold stick; split <;> omega

set_option maxHeartbeats 4000000 in
theorem of_any (d : Int) (neg : Bool) (A : Option Addr) (n c : Nat) (xs : List Nat) (exp : Int) (more : Bool) (w : World) (h : Wds w A n c xs) (hn : n ≤ 1099511627776) (hnl : nw (nv xs) ≤ 16384)
    (he1 : -4398046511104 ≤ exp) (he2 : exp ≤ 4398046511104) (hm : more = true → 55 ≤ bl (nv xs)) :
    Calls Try.prog 68 #[.int .i64 d, .bool neg, .slice A n c, .int .i64 exp, .bool more] w fun e w' => e = .returned (.float .f64 (rnd d neg (zd (2 * nv xs + more.toNat) (exp - 1)))) ∧ Ext w w' := by
  have hLen := nlen_any A n c xs w h (by omega)
  have hBl := bl_le_nw (nv xs)
  obtain ⟨V, hV⟩ : ∃ V, V = nv xs := ⟨_, rfl⟩
  obtain ⟨B, hB⟩ : ∃ B, B = bl V := ⟨_, rfl⟩
  rw [← hV] at hLen hBl hm hnl ⊢
  rw [← hB] at hLen hBl hm
  have HL := Lib.hid hLen
  have HB := Lib.hid hB
  have HV := Lib.hid hV
  clear hLen hB hV
  by_cases hV0 : V = 0
  · have hB0 : B = 0 := by rw [HB.out, hV0]; rfl
    have hmf : more = false := by cases more; rfl; have := hm rfl; omega
    have HF : Hid (0 = rnd d neg (zd (2 * V + more.toNat) (exp - 1))) := Lib.hid (by rw [hV0, hmf]; show 0 = rnd d neg (zd 0 _); rw [zd_zero, rnd_zero])
    have hB1 : ((B : Int) == 0) = true := by rw [hB0]; rfl
    clear hmf hB0 hV0 hm
    go_enter Try.func68, Try.ntmps68
    go_wp2_with (go_at_call 66; refine HL.out.mono ?_; rintro e w' ⟨rfl, rfl⟩)
    go_ret
    exact ⟨ret_float HF.out, Ext.refl w⟩
  · have hBp : 1 ≤ B := by have := bl_pos hV0; have := HB.out; omega
    have hB1 : ((B : Int) == 0) = false := by rw [beq_eq_false_iff_ne]; omega
    by_cases hbig : 1023 < (B : Int) - 1 + exp
    · have HF : Hid (pat neg (if twB d neg then infR - 1 else infR) = rnd d neg (zd (2 * V + more.toNat) (exp - 1))) := Lib.hid (by rw [rnd_big hV0 (by rw [← HB.out]; exact hbig)])
      have HY := Lib.hid (fun w => beyond_any d neg w)
      generalize pat neg (if twB d neg then infR - 1 else infR) = R at *
      clear hV0 hm
      go_enter Try.func68, Try.ntmps68
      go_wp2_with (first | (go_at_call 66; refine HL.out.mono ?_; rintro e w' ⟨rfl, rfl⟩) | (go_at_call 94; refine (HY.out _).mono ?_; rintro e w' ⟨rfl, rfl⟩))
      go_ret
      exact ⟨ret_float HF.out, Ext.refl w⟩
    · obtain ⟨E, hE⟩ : ∃ E, E = ofE V exp := ⟨_, rfl⟩
      have hEd : E = max ((B : Int) - 53 + exp) (-1074) := by rw [hE, HB.out]; rfl
      have hE1 : -1074 ≤ E := by omega
      have hE2 : E ≤ 971 := by omega
      obtain ⟨C, hC⟩ : ∃ C, C = E - 2 - exp := ⟨_, rfl⟩
      have hC1 : C ≤ 4398046513000 := by omega
      have hC2 : -4398046513000 ≤ C := by omega
      have hCE : C = ofE V exp - 2 - exp := by rw [← hE]; exact hC
      obtain ⟨u, hu⟩ : ∃ u : Nat, (u : Int) = E + 1074 := ⟨(E + 1074).toNat, by omega⟩
      obtain ⟨W, hW⟩ : ∃ W, W = ofW V C := ⟨_, rfl⟩
      obtain ⟨F, hF⟩ : ∃ F, F = ofF V C more := ⟨_, rfl⟩
      obtain ⟨v, hv⟩ : ∃ v, v = stick W F := ⟨_, rfl⟩
      have hwl := ofW_lt hV0 hCE
      rw [← hW] at hwl
      have hvl : v ≤ W + 1 := by rw [hv]; exact stick_lt W F
      have hmain := rnd_ofW (more := more) hV0 (by rw [← HB.out]; exact hm) hCE (by rw [← HB.out]; omega) d neg (v := v) (u := u) (by rw [hv, hW, hF]) (by rw [← hE]; exact hu)
      obtain ⟨s, hs⟩ : ∃ s, s = v / 4 := ⟨_, rfl⟩
      obtain ⟨r, hr⟩ : ∃ r, r = v % 4 := ⟨_, rfl⟩
      rw [← hs, ← hr] at hmain
      obtain ⟨up, hup⟩ : ∃ up, up = upO d neg s r := ⟨_, rfl⟩
      rw [← hup] at hmain
      obtain ⟨S, hS⟩ : ∃ S, S = s + up.toNat := ⟨_, rfl⟩
      rw [← hS] at hmain
      obtain ⟨m1, m2, m3, m4⟩ := hmain
      rw [m1]
      have hW55 : W < 36028797018963968 := hwl.1
      have HSH := Lib.hid hwl.2.2
      have hr4 : r < 4 := by omega
      have hsl : s ≤ 9007199254740992 := by omega
      have HED := Lib.hid hEd
      have HM4 := Lib.hid m4
      have HU := Lib.hid hu
      have HWV := Lib.hid hW
      have HFV := Lib.hid hF
      have HSV := Lib.hid hv
      have HRV := Lib.hid hr
      have HSS := Lib.hid hs
      have HUP := Lib.hid hup
      have HST := Lib.hid hS
      have HCC := Lib.hid hC
      have hv64 : v ≤ 36028797018963968 := by omega
      have hbig' : ((B : Int) - 1 + exp) ≤ 1023 := by omega
      clear hwl m1 m4 hE hEd hCE hu hW hF hv hr hs hup hS hbig hm hC
      go_enter Try.func68, Try.ntmps68
      go_upto_region 6 with (go_at_call 66; refine HL.out.mono ?_; rintro e w' ⟨rfl, rfl⟩)
      go_cut [12] (fun a wx => a = .int .i64 E ∧ w = wx)
      case first =>
        as_aux_lemma =>
          have hEv := HED.out
          rcases Int.lt_or_le ((B : Int) - 53 + exp) (-1074) with hlo | hhi
          · have HF : Hid (-1074 = E) := Lib.hid (by omega)
            clear hEv hE1 hE2
            go_wp2
            go_meet
            exact ⟨by rw [HF.out], rfl⟩
          · have HF : Hid ((B : Int) - 53 + exp = E) := Lib.hid (by omega)
            clear hEv hE1 hE2
            go_wp2
            go_meet
            exact ⟨by rw [HF.out], rfl⟩
      case rest =>
        obtain ⟨rfl, rfl⟩ := hcut
        have hC' : E - 2 - exp = C := HCC.out.symm
        obtain ⟨LO, hLO⟩ : ∃ LO, LO = (decide (0 < C) && decide (V % 2 ^ C.toNat ≠ 0)) := ⟨_, rfl⟩
        have HLO := Lib.hid hLO
        have HV0 := Lib.hid hV0
        clear hLO hV0
        go_upto_if 44 with fail
        go_cut [14, 15] (fun a b wx => ∃ A2 n2 c2, a = .slice A2 n2 c2 ∧ b = .bool LO ∧ Wds wx A2 n2 c2 (nd W) ∧ Ext w wx)
        case first =>
          as_aux_lemma =>
            rcases Int.lt_or_le 0 C with hpos | hneg
            · obtain ⟨k, rfl⟩ : ∃ k : Nat, C = k := ⟨C.toNat, by omega⟩
              have hsh := nshr_any A n c xs k w h (by omega) (by omega) (by rw [← HV.out]; exact hnl)
              have e1 : Hid (nv xs / 2 ^ k = W) := Lib.hid (by rw [← HV.out, HWV.out]; unfold ofW; rw [if_pos hpos, Int.toNat_natCast])
              have e2 : lostB (nv xs) k = LO := by
                rw [HLO.out, ← HV.out, decide_eq_true hpos, Bool.true_and, Int.toNat_natCast]; rfl
              rw [e1.out, e2] at hsh
              have HSR := Lib.hid hsh
              clear hsh e2
              go_wp2_with (go_at_call 95; refine HSR.out.mono ?_; rintro e w' ⟨A2, n2, c2, rfl, hR, hEx⟩)
              go_meet
              exact ⟨A2, n2, c2, rfl, rfl, hR, hEx⟩
            · obtain ⟨k, hk⟩ : ∃ k : Nat, -C = k := ⟨(-C).toNat, by omega⟩
              have hk2 : IntKind.i64.wrap (-C) = (k : Int) := by rw [IntWalk.i64_in _ (by omega)]; exact hk
              have h55 := HSH.out hneg
              rw [hk, Int.toNat_natCast, ← HB.out] at h55
              have hsh := nshl_any A n c xs k w h (by omega) (by rw [← HV.out]; exact HV0.out) (by rw [← HV.out, ← HB.out]; omega)
              have e1 : Hid (nv xs * 2 ^ k = W) := Lib.hid (by rw [← HV.out, HWV.out]; unfold ofW; rw [if_neg (by omega), hk, Int.toNat_natCast])
              have e2 : Hid (LO = false) := Lib.hid (by rw [HLO.out, decide_eq_false (by omega), Bool.false_and])
              rw [e1.out] at hsh
              have HSL := Lib.hid hsh
              clear hsh h55 hk
              go_wp2_with (go_at_call 71; refine HSL.out.mono ?_; rintro e w' ⟨A2, n2, c2, rfl, hR, hEx⟩)
              go_meet
              exact ⟨A2, n2, c2, rfl, by rw [e2.out], hR, hEx⟩
        case rest =>
          obtain ⟨A2, n2, c2, rfl, rfl, hW2, hEx⟩ := hcut
          have hn2 : n2 ≤ 2 := by
            have h1 := hW2.len
            rw [nd_length] at h1
            have h2 : nw W ≤ 2 := (nw_le_iff W 2).2 (by omega)
            omega
          have hwd := nword_any A2 n2 c2 _ wc hW2 (by omega) (by rw [nv_nd]; exact (nw_le_iff W 2).2 (by omega))
          rw [nv_nd] at hwd
          have HWD := Lib.hid hwd
          have HEX := Lib.hid hEx
          clear hwd hEx hC'
          go_wp2_with fail
          refine HWD.out.mono ?_
          rintro e w3 ⟨rfl, q, rfl⟩
          have HE3 : Hid (Ext w (wc.drewN q)) := Lib.hid (HEX.out.drewN q)
          clear HEX
          have hFL : F = (LO || more) := by rw [HFV.out, HLO.out]; rfl
          have HFL := Lib.hid hFL
          clear hFL
          go_upto_region 13 with fail
          go_cut [67] (fun a wx => a = .bool F ∧ wc.drewN q = wx)
          case first =>
            as_aux_lemma =>
              cases LO <;> cases more
              all_goals
                go_wp2
                go_meet
                exact ⟨by rw [HFL.out]; rfl, rfl⟩
          case rest =>
            obtain ⟨rfl, rfl⟩ := hcut
            go_upto_if 67 with fail
            go_cut [16] (fun a wx => a = .int .u64 (v : Int) ∧ wc.drewN q = wx)
            case first =>
              as_aux_lemma =>
                have hsv := HSV.out
                cases F
                · have HF : Hid (W = v) := Lib.hid (by rw [hsv]; rfl)
                  clear hsv
                  go_wp2
                  go_meet
                  exact ⟨by rw [HF.out], rfl⟩
                · have hor := or1 W (by omega)
                  have HF : Hid (stick W true = v) := Lib.hid (by rw [hsv])
                  clear hsv
                  go_wp2
                  go_meet
                  exact ⟨by rw [← HF.out], rfl⟩
            case rest =>
              obtain ⟨rfl, rfl⟩ := hcut
              have hs4 : (v : Int) / 4 = (s : Int) := by have := HSS.out; omega
              have hr3 := and3 v (by omega)
              rw [← HRV.out] at hr3
              go_upto_block 0 with fail
              go_cut [18] (fun a wx => a = .int .u64 (S : Int) ∧ wc.drewN q = wx)
              case first =>
                as_aux_lemma =>
                  clear hs4 hr3
                  by_cases hd1 : d = 1
                  · subst hd1
                    by_cases hr0 : r = 0
                    · have HF : Hid (S = s) := Lib.hid (by rw [HST.out, HUP.out]; unfold upO; rw [if_pos hr0]; rfl)
                      subst hr0
                      go_wp2
                      go_meet
                      exact ⟨val_int (by have := HF.out; omega), rfl⟩
                    · have hr1 : (0 : Int) < (r : Int) := by omega
                      have hr2 : 0 < r := by omega
                      have HF : Hid (S = s + (!neg).toNat) := Lib.hid (by rw [HST.out, HUP.out]; unfold upO; rw [if_neg hr0, if_pos rfl])
                      clear hr0
                      cases neg
                      all_goals
                        go_wp2
                        go_meet
                        exact ⟨val_int (by have h9 := HF.out; simp at h9; omega), rfl⟩
                  · by_cases hd2 : d = -1
                    · subst hd2
                      by_cases hr0 : r = 0
                      · have HF : Hid (S = s) := Lib.hid (by rw [HST.out, HUP.out]; unfold upO; rw [if_pos hr0]; rfl)
                        subst hr0
                        go_wp2
                        go_meet
                        exact ⟨val_int (by have := HF.out; omega), rfl⟩
                      · have hr1 : (0 : Int) < (r : Int) := by omega
                        have hr2 : 0 < r := by omega
                        have HF : Hid (S = s + neg.toNat) := Lib.hid (by rw [HST.out, HUP.out]; unfold upO; rw [if_neg hr0, if_neg (by omega), if_pos rfl])
                        clear hr0
                        cases neg
                        all_goals
                          go_wp2
                          go_meet
                          exact ⟨val_int (by have h9 := HF.out; simp at h9; omega), rfl⟩
                    · have e1 : (d == 1) = false := by rw [beq_eq_false_iff_ne]; exact hd1
                      have e2 : (d == -1) = false := by rw [beq_eq_false_iff_ne]; exact hd2
                      have HF : Hid (S = s + (if r = 0 then false else (decide (r = 3) || (decide (r = 2) && decide (s % 2 = 1)))).toNat) := Lib.hid (by rw [HST.out, HUP.out]; unfold upO; rw [if_neg hd1, if_neg hd2])
                      have ha := and1 s (by omega)
                      have hcases : r = 0 ∨ r = 1 ∨ r = 2 ∨ r = 3 := by omega
                      have hpar : s % 2 = 0 ∨ s % 2 = 1 := by omega
                      clear hd1 hd2
                      rcases hcases with rfl | rfl | rfl | rfl
                      · go_wp2
                        go_meet
                        exact ⟨val_int (by have h9 := HF.out; simp at h9; omega), rfl⟩
                      · go_wp2
                        go_meet
                        exact ⟨val_int (by have h9 := HF.out; simp at h9; omega), rfl⟩
                      · rcases hpar with hp | hp
                        · have HF2 : Hid (S = s) := Lib.hid (by have h9 := HF.out; simp [hp] at h9; omega)
                          rw [hp] at ha
                          clear hp
                          go_wp2
                          go_meet
                          exact ⟨val_int (by have h9 := HF2.out; omega), rfl⟩
                        · have HF2 : Hid (S = s + 1) := Lib.hid (by have h9 := HF.out; simp [hp] at h9; omega)
                          rw [hp] at ha
                          clear hp
                          go_wp2
                          go_meet
                          exact ⟨val_int (by have h9 := HF2.out; omega), rfl⟩
                      · go_wp2
                        go_meet
                        exact ⟨val_int (by have h9 := HF.out; simp at h9; omega), rfl⟩
              case rest =>
                obtain ⟨rfl, rfl⟩ := hcut
                have hld := fun w => mldexp_any S u E w (by have := HU.out; omega) m2 m3 HM4.out
                obtain ⟨P, hP⟩ : ∃ P, P = FloatKind.f64.nearest (S : Int) := ⟨_, rfl⟩
                have hP' : floatOfInt .f64 (S : Int) = P := hP.symm
                obtain ⟨R, hR⟩ : ∃ R, R = u * 4503599627370496 + S := ⟨_, rfl⟩
                rw [← hP, ← hR] at hld
                have HRD := Lib.hid hR
                have hRl : R < 9223372036854775808 := by omega
                have HLD := Lib.hid hld
                have hq := fo_ne (x := R) (y := 0) (by omega) (by omega)
                rw [eq0 (by omega)] at hq
                have hu1 := fun w => run_ng (x := R) (by omega) w
                clear hP hld hR hs4 hr3
                cases neg
                · have HF : Hid (R = pat false R) := Lib.hid (pat_plus R).symm
                  clear hq hu1
                  go_wp2_with (go_at_call 97; refine (HLD.out _).mono ?_; rintro e w' ⟨rfl, rfl⟩)
                  go_ret
                  exact ⟨ret_float (by rw [← HRD.out]; exact HF.out), HE3.out⟩
                · by_cases hR0 : R = 0
                  · rw [decide_eq_true (.inl hR0), Bool.not_true] at hq
                    have HF : Hid (R = pat true R) := Lib.hid (by rw [hR0]; rfl)
                    clear hR0 hu1
                    go_wp2_with (go_at_call 97; refine (HLD.out _).mono ?_; rintro e w' ⟨rfl, rfl⟩)
                    go_ret
                    exact ⟨ret_float (by rw [← HRD.out]; exact HF.out), HE3.out⟩
                  · rw [decide_eq_false (by omega), Bool.not_false] at hq
                    have HF : Hid (ng R = pat true R) := Lib.hid (pat_ng hRl hR0)
                    clear hR0
                    go_wp2_with (go_at_call 97; refine (HLD.out _).mono ?_; rintro e w' ⟨rfl, rfl⟩)
                    go_ret
                    exact ⟨ret_float (by rw [← HRD.out]; exact HF.out), HE3.out⟩
end Go.Proofs.Ytfbjeifhpmdjaaa

/-
  The contracts of the reference's naturals, fourth part: shifts and products. Conditions: those that each theorem names.
-/
namespace Go.Proofs.Ytfbjeifhpmdjaaa
open Go.RowKit Nm
set_option maxRecDepth 100000
set_option linter.unusedVariables false
set_option linter.unusedSimpArgs false

/-- The shape of Left's list behind i words. -/
structure LeftRel (xs L : List Nat) (D S t i : Nat) : Prop where
  len : L.length = D + t + 1
  ws : Ws L
  val : nv L = nv (xs.take i) * 2 ^ (32 * D + S)
  top : ∀ j, (hj : j < L.length) → D + i < j → L[j] = 0
  low : ∀ hj : D + i < L.length, L[D + i] < 2 ^ S

theorem LeftRel.start (xs : List Nat) (D S t : Nat) : LeftRel xs (List.replicate (D + t + 1) 0) D S t 0 where
  len := by simp
  ws := Ws.replicate _ (by omega)
  val := by simp [nv_replicate, nv]
  top := fun j hj _ => by simp
  low := fun hj => by simp; exact Nat.pow_pos (by omega)

theorem LeftRel.step {xs L : List Nat} {D S t i : Nat} (h : LeftRel xs L D S t i) (hS : S < 32) (hi : i < t) (hx : i < xs.length) (hw : Ws xs) (a lo hi' : Nat) (hk : D + i < L.length) (ha : L[D + i] = a)
    (hlo : lo = xs[i] * 2 ^ S % 4294967296) (hhi : hi' = xs[i] * 2 ^ S / 4294967296) :
    LeftRel xs ((L.set (D + i) (a + lo)).set (D + i + 1) hi') D S t (i + 1) ∧ a ||| lo = a + lo ∧ a + lo < 4294967296 := by
  have hx32 := hw.get hx
  have hlen := h.len
  have hlow := h.low hk
  rw [ha] at hlow
  have h0 := h.top (D + i + 1) (by omega) (by omega)
  obtain ⟨e, he⟩ : ∃ e, 4294967296 = 2 ^ S * e ∧ 0 < e := ⟨2 ^ (32 - S), by rw [← Nat.pow_add, show S + (32 - S) = 32 by omega], Nat.pow_pos (by omega)⟩
  have hlm : lo % 2 ^ S = 0 := by
    rw [hlo, he.1, Nat.mul_comm, Nat.mul_mod_mul_left]
    exact Nat.mul_mod_right _ _
  have hlo32 : lo < 4294967296 := by rw [hlo]; exact Nat.mod_lt _ (by omega)
  have hsum : a + lo < 4294967296 := by
    obtain ⟨q, hq⟩ : ∃ q, lo = 2 ^ S * q := ⟨lo / 2 ^ S, by have := Nat.mod_add_div lo (2 ^ S); omega⟩
    rw [hq, he.1] at hlo32
    have hqe : q < e := Nat.lt_of_mul_lt_mul_left hlo32
    have : 2 ^ S * (q + 1) ≤ 2 ^ S * e := Nat.mul_le_mul_left _ hqe
    rw [he.1, hq]
    rw [Nat.mul_add, Nat.mul_one] at this
    omega
  have hhi32 : hi' < 2 ^ S := by
    rw [hhi]
    refine (Nat.div_lt_iff_lt_mul (by omega)).2 ?_
    rw [Nat.mul_comm]
    exact Nat.mul_lt_mul_of_pos_left hx32 (Nat.pow_pos (by omega))
  refine ⟨⟨by simpa using hlen, (h.ws.set _ hsum).set _ (Nat.lt_of_lt_of_le hhi32 (by rw [he.1]; exact Nat.le_mul_of_pos_right _ he.2)), ?_, ?_, ?_⟩, ?_, hsum⟩
  · have hv : lo + 4294967296 * hi' = xs[i] * 2 ^ S := by rw [hlo, hhi]; exact Nat.mod_add_div _ _
    rw [nv_set2 (by omega) ha h0 hv, h.val, nv_take_succ hx, pow32, Nat.add_mul, Nat.pow_add, Nat.mul_add, Nat.pow_add]
    congr 1
    rw [pow32]
    simp only [Nat.mul_assoc, Nat.mul_comm, Nat.mul_left_comm]
  · intro j hj hlt
    rw [List.getElem_set_ne (by omega), List.getElem_set_ne (by omega)]
    simp at hj
    exact h.top j hj (by omega)
  · intro hj
    have e1 : D + (i + 1) = D + i + 1 := by omega
    simp only [e1]
    rw [List.getElem_set_self]
    exact hhi32
  · rw [Nat.or_comm, nat_join S lo a hlm hlow, Nat.add_comm]

set_option maxHeartbeats 1000000 in
theorem left_any (A : Option Addr) (n c : Nat) (xs : List Nat) (s : Nat) (w : World) (h : Wds w A n c xs) (hn : n ≤ 17592186044416) (hs : s ≤ 35184372088832) :
    Calls Try.prog 31 #[.slice A n c, .int .i64 (s : Int)] w (RetW (nv xs * 2 ^ s) w) := by
  have hxl : nw (nv xs) ≤ xs.length := nw_nv_le h.ws
  have hlx := h.len
  by_cases h0 : nv xs = 0
  · have hz : nw (nv xs) ≤ 0 := by rw [h0, nw_zero]; omega
    have HF : Hid (nd (nv xs * 2 ^ s) = []) := Lib.hid (by rw [h0, Nat.zero_mul, nd_zero])
    clear h0
    go_enter Try.func31, Try.ntmps31
    go_wp2_with (go_at_call 69; refine (words_any _ _ _ _ _ h (by omega)).mono ?_; rintro e w' ⟨rfl, rfl⟩)
    go_ret
    exact ⟨none, 0, 0, rfl, by rw [HF.out]; exact Wds.nil_ (by unfold maxLen; omega), Ext.refl _⟩
  · obtain ⟨D, S, hS, hsD⟩ : ∃ D S, S < 32 ∧ s = 32 * D + S := ⟨s / 32, s % 32, Nat.mod_lt _ (by omega), by omega⟩
    have hpos : 0 < nw (nv xs) := by
      rcases Nat.eq_zero_or_pos (nw (nv xs)) with e | e
      · exact absurd (nw_eq_zero.1 e) h0
      · exact e
    clear h0
    have hq : (s : Int) / 32 = (D : Int) := by omega
    have hr : (s : Int) % 32 = (S : Int) := by omega
    have HSD := Lib.hid hsD
    have HTk := Lib.hid (take_nw h.ws).1
    clear hsD
    obtain ⟨t, ht⟩ : ∃ t, t = nw (nv xs) := ⟨_, rfl⟩
    have hw := words_any A n c xs w h (by omega)
    rw [← ht] at hw hxl hpos HTk
    have HT := Lib.hid ht
    have HW := Lib.hid hw
    clear ht hw
    have hmk := run_make32 (D + t + 1) (by omega)
    push_cast at hmk
    go_enter Try.func31, Try.ntmps31
    go_wp2_with (go_at_call 69; refine HW.out.mono ?_; rintro e w' ⟨rfl, rfl⟩)
    clear hmk
    go_loopw [8] (fun iv wr => ∃ (i : Nat) (L : List Nat), i ≤ t ∧ iv = .int .i64 i ∧ LeftRel xs L D S t i ∧ Row wr w.heap.size L ∧ Ext w wr) (fun iv _ => t - (intOf iv).toNat)
    case atStart => exact ⟨0, _, Nat.zero_le _, rfl, LeftRel.start xs D S t, Row.new _ _, (Ext.refl w).alloc _⟩
    case round =>
      obtain ⟨i, L, hi, rfl, hL, hrow, hb⟩ := hrel
      have hLl := hL.len
      by_cases hlt : i < t
      · obtain ⟨ad, hx, rfl, _, hcX⟩ := (h.ext hb).at_ (k := i) (by omega)
        have hX32 := h.ws.get hx
        have hstep := hL.step hS hlt hx h.ws L[D + i] (xs[i] * 2 ^ S % 4294967296) (xs[i] * 2 ^ S / 4294967296) (by omega) rfl rfl rfl
        have hc1 := hrow.cell (i := D + i) (by omega)
        have hf1 := hrow.frozen (D + i)
        have hc2 := hrow.cell (i := D + i + 1) (by omega)
        have hf2 := hrow.frozen (D + i + 1)
        obtain ⟨V, hV⟩ : ∃ V, V = xs[i] * 2 ^ S := ⟨_, rfl⟩
        have hV64 : V < 18446744073709551616 := by
          have h1 : 2 ^ S ≤ 2147483648 := Nat.pow_le_pow_right (n := 2) (by omega) (show S ≤ 31 by omega)
          have h2 : xs[i] * 2 ^ S ≤ 4294967296 * 2147483648 := Nat.mul_le_mul (by omega) h1
          omega
        have e1 : ((xs[i] : Nat) : Int) * 2 ^ S = (V : Int) := by rw [hV]; push_cast; rfl
        rw [← hV] at hstep
        clear hV
        obtain ⟨lo, hlo⟩ : ∃ lo, lo = V % 4294967296 := ⟨_, rfl⟩
        obtain ⟨hi', hhi⟩ : ∃ hi', hi' = V / 4294967296 := ⟨_, rfl⟩
        rw [← hlo, ← hhi] at hstep
        have hlo32 : lo < 4294967296 := by omega
        have hhi32 : hi' < 4294967296 := by omega
        have e2 := and_mask V lo hV64 hlo
        have e3 : (V : Int) / 4294967296 = (hi' : Int) := by omega
        generalize L[D + i] = a at *
        have ha32 : a < 4294967296 := by omega
        have e4 : bits .or .u32 (a : Int) (lo : Int) = ((a + lo : Nat) : Int) := by
          rw [u32_or_nat _ _ ha32 hlo32, hstep.2.1]
        obtain ⟨r, hr'⟩ : ∃ r, r = a + lo := ⟨_, rfl⟩
        rw [← hr'] at e4 hstep
        obtain ⟨hst, _, hr32⟩ := hstep
        have hrow' := (hrow.set_ (D + i) r).set_ (D + i + 1) hi'
        have HST := Lib.hid hst
        clear hst hlo hhi hr'
        go_wp2
        go_roundw
        case rel => exact ⟨i + 1, _, by omega, by go_num, HST.out, hrow', (hb.setCell (Nat.le_refl _) _).setCell (Nat.le_refl _) _⟩
        case measure => simp [intOf]; omega
      · have HV : Hid (nv L = nv xs * 2 ^ s) := Lib.hid (by
          rw [hL.val, show i = t by omega, HTk.out, HSD.out])
        have hW := hrow.wds hL.ws hL.len (Nat.le_refl _) (by unfold maxLen; omega)
        go_wp2_with (go_at_call 60; refine (norm_any _ _ _ _ _ hW (by omega)).mono ?_; rintro e w2 ⟨A2, n2, c2, rfl, hR, hE2⟩)
        go_ret
        exact ⟨A2, n2, c2, rfl, by rw [← HV.out]; exact hR, hb.trans hE2⟩

/-- The shape of a product's list: within row j, behind i words. -/
structure RowRel (xs L : List Nat) (V0 y n m j i cr : Nat) : Prop where
  len : L.length = n + m
  ws : Ws L
  val : nv L + 4294967296 ^ (i + j) * cr = V0 + 4294967296 ^ j * (y * nv (xs.take i))
  top : ∀ k, (hk : k < L.length) → n + j ≤ k → L[k] = 0

theorem RowRel.step {xs L : List Nat} {V0 y n m j i cr a x v lo hi : Nat} (h : RowRel xs L V0 y n m j i cr) (hj : j < m) (hi0 : i < n) (hx : i < xs.length) (hxe : xs[i] = x) (hk : i + j < L.length) (ha : L[i + j] = a)
    (hv : v = cr + a + x * y) (hlo : lo = v % 4294967296) (hhi : hi = v / 4294967296) : RowRel xs (L.set (i + j) lo) V0 y n m j (i + 1) hi := by
  have hlen := h.len
  refine ⟨by simpa using hlen, h.ws.set _ (by rw [hlo]; exact Nat.mod_lt _ (by omega)), ?_, fun k hk' hle => ?_⟩
  · have h1 := nv_set hk lo
    rw [ha] at h1
    have h2 := h.val
    have e : lo + 4294967296 * hi = cr + a + x * y := by rw [← hv, hlo, hhi]; exact Nat.mod_add_div _ _
    have e1 : 4294967296 ^ (i + j) * (lo + 4294967296 * hi) = 4294967296 ^ (i + j) * (cr + a + x * y) := by rw [e]
    rw [Nat.mul_add, Nat.mul_add, Nat.mul_add, ← Nat.mul_assoc, ← Nat.pow_succ] at e1
    rw [show i + 1 + j = i + j + 1 by omega, nv_take_succ hx, hxe, Nat.mul_add y, Nat.mul_add (4294967296 ^ j)]
    have e2 : 4294967296 ^ j * (y * (4294967296 ^ i * x)) = 4294967296 ^ (i + j) * (x * y) := by
      rw [Nat.pow_add]
      simp only [Nat.mul_assoc, Nat.mul_comm, Nat.mul_left_comm]
    rw [e2]
    generalize 4294967296 ^ j * (y * nv (xs.take i)) = t0 at *
    generalize 4294967296 ^ (i + j) * (x * y) = t1 at *
    generalize 4294967296 ^ (i + j + 1) * hi = t2 at *
    generalize 4294967296 ^ (i + j) * lo = t3 at *
    generalize 4294967296 ^ (i + j) * a = t4 at *
    generalize 4294967296 ^ (i + j) * cr = t5 at *
    clear e2 e hlo hhi hv
    omega
  · rw [List.getElem_set_ne (by omega)]
    simp at hk'
    exact h.top k hk' hle

/-- The shape of a product's list behind j rows. -/
structure TimesRel (xs ys L : List Nat) (n m j : Nat) : Prop where
  len : L.length = n + m
  ws : Ws L
  val : nv L = nv xs * nv (ys.take j)
  top : ∀ k, (hk : k < L.length) → n + j ≤ k → L[k] = 0

theorem TimesRel.start (xs ys : List Nat) (n m : Nat) : TimesRel xs ys (List.replicate (n + m) 0) n m 0 where
  len := by simp
  ws := Ws.replicate _ (by omega)
  val := by simp [nv_replicate, nv]
  top := fun j hj _ => by simp

theorem TimesRel.row {xs ys L : List Nat} {n m j : Nat} (h : TimesRel xs ys L n m j) (y : Nat) : RowRel xs L (nv L) y n m j 0 0 where
  len := h.len
  ws := h.ws
  val := by simp [nv]
  top := h.top

theorem TimesRel.skip {xs ys L : List Nat} {n m j : Nat} (h : TimesRel xs ys L n m j) (hy : j < ys.length) (h0 : ys[j] = 0) : TimesRel xs ys L n m (j + 1) where
  len := h.len
  ws := h.ws
  val := by rw [nv_take_succ hy, h0, Nat.mul_zero, Nat.add_zero]; exact h.val
  top := fun k hk hle => h.top k hk (by omega)

theorem TimesRel.next {xs ys L0 L : List Nat} {n m j cr : Nat} (h0 : TimesRel xs ys L0 n m j) (hy : j < ys.length) (hj : j < m) (h : RowRel xs L (nv L0) ys[j] n m j n cr) (hn : nv (xs.take n) = nv xs) (hcr : cr < 4294967296) :
    TimesRel xs ys (L.set (j + n) cr) n m (j + 1) := by
  have hlen := h.len
  refine ⟨by simpa using hlen, h.ws.set _ hcr, ?_, fun k hk hle => ?_⟩
  · have h1 := nv_set (l := L) (k := j + n) (by omega) cr
    rw [h.top (j + n) (by omega) (by omega), Nat.mul_zero, Nat.add_zero] at h1
    rw [h1, Nat.add_comm j n, h.val, h0.val, hn, nv_take_succ hy, Nat.mul_add]
    congr 1
    simp only [Nat.mul_assoc, Nat.mul_comm, Nat.mul_left_comm]
  · rw [List.getElem_set_ne (by omega)]
    simp at hk
    exact h.top k hk (by omega)

set_option maxHeartbeats 1000000 in
theorem times_any (A : Option Addr) (n0 c : Nat) (xs : List Nat) (B : Option Addr) (m0 d : Nat) (ys : List Nat) (w : World) (h : Wds w A n0 c xs) (hn0 : n0 ≤ 8796093022208) (k : Wds w B m0 d ys) (hm0 : m0 ≤ 8796093022208) :
    Calls Try.prog 56 #[.slice A n0 c, .slice B m0 d] w (RetW (nv xs * nv ys) w) := by
  have hxl : nw (nv xs) ≤ xs.length := nw_nv_le h.ws
  have hyl : nw (nv ys) ≤ ys.length := nw_nv_le k.ws
  have hlx := h.len
  have hly := k.len
  have HXk := Lib.hid (take_nw h.ws).1
  have HYk := Lib.hid (take_nw k.ws).1
  have hw1 := words_any A n0 c xs w h (by omega)
  have hw2 := words_any B m0 d ys w k (by omega)
  obtain ⟨n, hn⟩ : ∃ n, n = nw (nv xs) := ⟨_, rfl⟩
  obtain ⟨m, hm⟩ : ∃ m, m = nw (nv ys) := ⟨_, rfl⟩
  rw [← hn] at hw1 hxl HXk
  rw [← hm] at hw2 hyl HYk
  have HW1 := Lib.hid hw1
  have HW2 := Lib.hid hw2
  clear hw1 hw2 hn hm
  have hmk := run_make32 (n + m) (by omega)
  push_cast at hmk
  go_enter Try.func56, Try.ntmps56
  go_wp2_with fail
  refine HW1.out.mono ?_
  rintro e w' ⟨rfl, rfl⟩
  go_wp2_with fail
  refine HW2.out.mono ?_
  rintro e w' ⟨rfl, rfl⟩
  go_wp2
  clear hmk
  go_loopw [8] (fun jv wr => ∃ (j : Nat) (L : List Nat), j ≤ m ∧ jv = .int .i64 j ∧ TimesRel xs ys L n m j ∧ Row wr w.heap.size L ∧ Ext w wr) (fun jv _ => m - (intOf jv).toNat)
  case atStart => exact ⟨0, _, Nat.zero_le _, rfl, TimesRel.start xs ys n m, Row.new _ _, (Ext.refl w).alloc _⟩
  case round =>
    obtain ⟨j, L0, hj, rfl, hL0, hrow0, hb0⟩ := hrel
    obtain ⟨wo, rfl⟩ : ∃ wo : World, wo = wr := ⟨_, rfl⟩
    by_cases hlt : j < m
    · obtain ⟨bd, hy, rfl, _, hcY⟩ := (k.ext hb0).at_ (k := j) (by omega)
      have hY32 := k.ws.get hy
      by_cases hy0 : ys[j] = 0
      · have hsk := Lib.hid (hL0.skip hy hy0)
        go_wp2
        go_roundw
        case rel => exact ⟨j + 1, L0, by omega, by go_num, hsk.out, hrow0, hb0⟩
        case measure => simp [intOf]; omega
      · have HN := Lib.hid (fun (L : List Nat) (cr : Nat) hh hcr => TimesRel.next (L := L) (cr := cr) hL0 hy hlt hh HXk.out hcr)
        generalize ys[j] = y at *
        have hy1 : 0 < y := by omega
        clear hy0
        go_wp2
        go_loopw [10, 11] (fun cv iv wr => ∃ (i cr : Nat) (L : List Nat), i ≤ n ∧ cr < 4294967296 ∧ iv = .int .i64 i ∧ cv = .int .u64 (cr : Int) ∧ RowRel xs L (nv L0) y n m j i cr ∧ Row wr w.heap.size L ∧ Ext w wr) (fun _ iv _ => n - (intOf iv).toNat)
        case atStart => exact ⟨0, 0, L0, Nat.zero_le _, by omega, rfl, rfl, hL0.row y, hrow0, hb0⟩
        case round =>
          obtain ⟨i, cr, L, hi, hcr, rfl, rfl, hL, hrow, hb⟩ := hrel
          have hLl := hL.len
          by_cases hlti : i < n
          · obtain ⟨ad, hx, rfl, _, hcX⟩ := (h.ext hb).at_ (k := i) (by omega)
            have hX32 := h.ws.get hx
            have hc1 := hrow.cell (i := i + j) (by omega)
            have hf1 := hrow.frozen (i + j)
            have hA32 := hL.ws.get (k := i + j) (by omega)
            have hk' : i + j < L.length := by omega
            obtain ⟨a, ha⟩ : ∃ a, L[i + j] = a := ⟨_, rfl⟩
            obtain ⟨x, hxe⟩ : ∃ x, xs[i] = x := ⟨_, rfl⟩
            have hst := fun (v lo hi' : Nat) hv hlo hhi => hL.step (v := v) (lo := lo) (hi := hi') hlt hlti hx hxe hk' ha hv hlo hhi
            rw [ha] at hc1 hA32
            rw [hxe] at hcX hX32
            clear ha hxe
            obtain ⟨q, hq⟩ : ∃ q, i + j = q := ⟨_, rfl⟩
            rw [hq] at hc1 hf1
            simp only [hq] at hst
            have hp : x * y ≤ 18446744065119617025 := Nat.le_trans (Nat.mul_le_mul (show x ≤ 4294967295 by omega) (show y ≤ 4294967295 by omega)) (by omega)
            obtain ⟨p, hpv⟩ : ∃ p, p = x * y := ⟨_, rfl⟩
            rw [← hpv] at hp
            obtain ⟨v, hv⟩ : ∃ v, v = cr + a + p := ⟨_, rfl⟩
            have hv64 : v < 18446744073709551616 := by omega
            obtain ⟨lo, hlo⟩ : ∃ lo, lo = v % 4294967296 := ⟨_, rfl⟩
            obtain ⟨hi', hhi⟩ : ∃ hi', hi' = v / 4294967296 := ⟨_, rfl⟩
            have hst' := hst v lo hi' (by rw [hv, hpv]) hlo hhi
            clear hst
            have HST := Lib.hid hst'
            clear hst'
            have hlo32 : lo < 4294967296 := by omega
            have hhi32 : hi' < 4294967296 := by omega
            have g1 : IntKind.i64.wrap ((i : Int) + (j : Int)) = (q : Int) := by rw [IntWalk.i64_in _ (by omega)]; omega
            have g1' : ((i : Int) + (j : Int)) = (q : Int) := by omega
            have g2 : IntKind.u64.wrap ((cr : Int) + (a : Int)) = ((cr + a : Nat) : Int) := by
              rw [IntKind.wrap_u64]; omega
            have g3 : IntKind.u64.wrap ((x : Int) * (y : Int)) = (p : Int) := by
              have e : (x : Int) * (y : Int) = (p : Int) := by rw [hpv]; exact (Int.natCast_mul x y).symm
              rw [IntKind.wrap_u64, e]; omega
            have g4 : IntKind.u64.wrap (((cr + a : Nat) : Int) + (p : Int)) = (v : Int) := by
              rw [IntKind.wrap_u64]; omega
            have g5 := and_mask v lo hv64 hlo
            have g7 : (cr : Int) + (a : Int) + (p : Int) = (v : Int) := by omega
            rw [← g7] at g5
            have g6 : ((cr : Int) + (a : Int) + (p : Int)) / 4294967296 = (hi' : Int) := by omega
            clear g7
            have hq2 : q < n + m := by omega
            have hq0 : (0 : Int) ≤ (q : Int) := by omega
            have hq1 : (q : Int) < ((n + m : Nat) : Int) := by omega
            have hi0 : (i : Int) < (n0 : Int) := by omega
            have hrow' := hrow.set_ q lo
            clear hpv hq hlo hhi hv
            go_wp2
            go_quiet (fail)
            go_wp2
            go_roundw
            case rel => exact ⟨i + 1, hi', _, by omega, hhi32, by go_num, rfl, HST.out, hrow'.drewN _, (hb.setCell (Nat.le_refl _) _).drewN _⟩
            case measure => simp [intOf]; omega
          · have e : i = n := by omega
            subst e
            have hk' : j + i < L.length := by omega
            have hc1 := hrow.cell hk'
            have hf1 := hrow.frozen (j + i)
            have hrow' := hrow.set_ (j + i) cr
            have HF := Lib.hid (HN.out L cr hL hcr)
            clear HN
            go_wp2
            go_roundw
            case rel => exact ⟨j + 1, _, by omega, by go_num, HF.out, hrow', hb.setCell (Nat.le_refl _) _⟩
            case measure => simp [intOf]; omega
    · have e : j = m := by omega
      subst e
      have HV : Hid (nv L0 = nv xs * nv ys) := Lib.hid (by rw [hL0.val, HYk.out])
      have hW := hrow0.wds hL0.ws hL0.len (Nat.le_refl _) (by unfold maxLen; omega)
      go_wp2_with (go_at_call 60; refine (norm_any _ _ _ _ _ hW (by omega)).mono ?_; rintro e w2 ⟨A2, n2, c2, rfl, hR, hE2⟩)
      go_ret
      exact ⟨A2, n2, c2, rfl, by rw [← HV.out]; exact hR, hb0.trans hE2⟩
end Go.Proofs.Ytfbjeifhpmdjaaa
