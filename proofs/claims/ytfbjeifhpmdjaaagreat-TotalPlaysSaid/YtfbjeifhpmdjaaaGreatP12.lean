/-
  The contracts of the reference's rounding, second part: a ratio, rounded. Conditions: those that each theorem names.
-/
import Derived.Test.YtfbjeifhpmdjaaaGreatP11
namespace Go.Proofs.YtfbjeifhpmdjaaaGreat
open Go.RowKit Nm Rn
set_option maxRecDepth 100000
set_option linter.unusedVariables false
set_option linter.unusedSimpArgs false

set_option maxHeartbeats 400000 in
theorem infinite_any (neg : Bool) (w : World) :
    Calls Tryz.prog 87 #[.bool neg] w fun e w' => e = .returned (.int .u64 (pat neg infR : Nat)) ∧ w = w' := by
  cases neg
  · go_enter Tryz.func87, Tryz.ntmps87
    go_wp2
    go_ret
    exact ⟨rfl, rfl⟩
  · go_enter Tryz.func87, Tryz.ntmps87
    go_wp2
    go_ret
    exact ⟨rfl, rfl⟩

theorem top_rung (u : Nat) (hu : u = 2045) : rung (9007199254740991 * 2 ^ u) = infR - 1 := by
  have := rung_form (Q := 9007199254740991 * 2 ^ u) (u := u) (s := 9007199254740991) (by omega) (fun _ => by omega) (Nat.le_refl _) (Nat.mul_lt_mul_of_pos_right (by omega) (two_pow_pos u))
  rw [this, infR_val, hu]

set_option maxHeartbeats 400000 in
theorem greatest_any (neg : Bool) (w : World) :
    Calls Tryz.prog 108 #[.bool neg, .int .i64 53, .int .i64 1023] w fun e w' => e = .returned (.int .u64 (pat neg (infR - 1) : Nat)) ∧ w = w' := by
  have hm := made_any neg 9007199254740991 971 w (by omega) (by omega) (by omega)
  rw [top_rung _ (by omega)] at hm
  obtain ⟨R, hR⟩ : ∃ R, R = pat neg (infR - 1) := ⟨_, rfl⟩
  rw [← hR] at hm ⊢
  have HM := Lib.hid hm
  clear hm hR
  go_enter Tryz.func108, Tryz.ntmps108
  go_wp2_with fail
  refine HM.out.mono ?_
  rintro e w1 ⟨rfl, rfl⟩
  go_wp2
  go_ret
  exact ⟨rfl, rfl⟩

/-- Away from 0, by the direction alone. -/
def awB (d : Int) (neg : Bool) : Bool := if d = 1 then !neg else if d = -1 then neg else false
def nrB (d : Int) : Bool := if d = 1 then false else if d = -1 then false else true

theorem of_not_f {t : Bool} (h : (false || false) = !t) : t = true := by
  cases t
  · cases h
  · rfl
theorem of_not_t {a t : Bool} (h : (a || true) = !t ∨ (true || a) = !t) : ¬ t = true := by
  cases t
  · exact Bool.false_ne_true
  · cases a <;> cases h <;> contradiction
theorem aw_tw (d : Int) (neg : Bool) : (awB d neg || nrB d) = !twB d neg := by
  unfold awB nrB twB
  by_cases h1 : d = 1
  · subst h1; cases neg <;> rfl
  · by_cases h2 : d = -1
    · subst h2; cases neg <;> rfl
    · rw [if_neg h1, if_neg h2, if_neg h1, if_neg h2, decide_eq_false (by rintro (⟨a, _⟩ | ⟨a, _⟩); exact h1 a; exact h2 a)]
      rfl

theorem top971 : (971 + 1074 : Int).toNat * 4503599627370496 + 9007199254740992 = infR := by
  rw [show (971 + 1074 : Int).toNat = 2045 by omega, infR_val]
theorem up_away {d : Int} {neg : Bool} {W R M : Nat} (h : awB d neg = true) : upB d neg W R M = decide (R ≠ 0) := by
  unfold upB
  unfold awB at h
  by_cases h0 : R = 0
  · rw [if_pos h0, decide_eq_false (fun h => h h0)]
  · rw [if_neg h0, decide_eq_true h0]
    by_cases h1 : d = 1
    · rw [if_pos h1] at h ⊢; exact h
    · by_cases h2 : d = -1
      · rw [if_neg h1, if_pos h2] at h ⊢; exact h
      · rw [if_neg h1, if_neg h2] at h; cases h
theorem up_none {d : Int} {neg : Bool} {W R M : Nat} (h : awB d neg = false) (hn : nrB d = false) : upB d neg W R M = false := by
  unfold upB
  unfold awB at h
  unfold nrB at hn
  by_cases h0 : R = 0
  · rw [if_pos h0]
  · rw [if_neg h0]
    by_cases h1 : d = 1
    · rw [if_pos h1] at h ⊢; exact h
    · by_cases h2 : d = -1
      · rw [if_neg h1, if_pos h2] at h ⊢; exact h
      · rw [if_neg h1, if_neg h2] at hn; cases hn
theorem up_near {d : Int} {neg : Bool} {W R M : Nat} (hn : nrB d = true) (hm : 0 < M) : upB d neg W R M = (decide (M < 2 * R) || (decide (2 * R = M) && decide (W % 2 = 1))) := by
  unfold upB
  unfold nrB at hn
  by_cases h1 : d = 1
  · rw [if_pos h1] at hn; cases hn
  · by_cases h2 : d = -1
    · rw [if_neg h1, if_pos h2] at hn; cases hn
    · by_cases h0 : R = 0
      · rw [if_pos h0, h0, decide_eq_false (by omega), decide_eq_false (by omega)]; rfl
      · rw [if_neg h0, if_neg h1, if_neg h2]
theorem aw_near {d : Int} {neg : Bool} (h : awB d neg = true) : nrB d = false := by
  unfold awB at h
  unfold nrB
  by_cases h1 : d = 1
  · rw [if_pos h1]
  · by_cases h2 : d = -1
    · rw [if_neg h1, if_pos h2]
    · rw [if_neg h1, if_neg h2] at h; cases h

set_option maxHeartbeats 4000000 in
theorem rounded_any (d : Int) (neg : Bool) (A : Option Addr) (l c : Nat) (xs : List Nat) (B : Option Addr) (k dd : Nat) (ys : List Nat) (w : World) (h : Wds w A l c xs) (hl : l ≤ 68719476736) (hk : Wds w B k dd ys) (hkl : k ≤ 68719476736) (hpos : nv ys ≠ 0) :
    Calls Tryz.prog 77 #[.int .i64 d, .agg #[.bool neg, .slice A l c, .slice B k dd], .int .i64 53, .int .i64 1023] w fun e w' => e = .returned (.int .u64 (rnd d neg (zr (nv xs) (nv ys)) : Nat)) ∧ Ext w w' := by
  have hrs := rsign_any neg A l c xs B k dd (w.alloc (.cells #[.bool neg, .slice A l c, .slice B k dd] 38)) (h.alloc _) (by omega)
  by_cases h0 : nv xs = 0
  · have HF : Hid ((0 : Int) = (rnd d neg (zr (nv xs) (nv ys)) : Nat)) := Lib.hid (by rw [h0, zr_zero, rnd_zero]; rfl)
    have hs0 : sgnZ neg (nv xs) = 0 := by rw [h0]; rfl
    rw [hs0] at hrs
    have HRS := Lib.hid hrs
    clear hrs h0 hs0
    go_enter Tryz.func77, Tryz.ntmps77
    go_wp2_with fail
    refine HRS.out.mono ?_
    rintro e w1 ⟨rfl, hE1⟩
    go_wp2
    go_ret
    exact ⟨ret_int HF.out, ((Ext.refl w).alloc _).trans hE1⟩
  · obtain ⟨sv, hsv⟩ : ∃ sv, sv = sgnZ neg (nv xs) := ⟨_, rfl⟩
    rw [← hsv] at hrs
    have hsv1 : decide (sv < 0) = neg := by rw [hsv]; unfold sgnZ; rw [if_neg h0]; cases neg <;> rfl
    have hsv2 : decide (0 < sv) = !neg := by rw [hsv]; unfold sgnZ; rw [if_neg h0]; cases neg <;> rfl
    have hsv3 : (sv == 0) = false := by rw [hsv]; unfold sgnZ; rw [if_neg h0]; cases neg <;> rfl
    have HRS := Lib.hid hrs
    have H0 := Lib.hid h0
    have HP := Lib.hid hpos
    clear hrs hsv h0 hpos
    go_enter Tryz.func77, Tryz.ntmps77
    go_wp2_with fail
    refine HRS.out.mono ?_
    rintro e w1 ⟨rfl, hE1⟩
    go_upto_region 4 with fail
    go_cut [10] (fun a wx => a = .bool (awB d neg) ∧ w1 = wx)
    case first =>
      as_aux_lemma =>
        by_cases hd1 : d = 1
        · subst hd1
          cases neg
          all_goals
            go_wp2
            go_meet
            exact ⟨rfl, rfl⟩
        · by_cases hd2 : d = -1
          · subst hd2
            cases neg
            all_goals
              go_wp2
              go_meet
              exact ⟨rfl, rfl⟩
          · have e1 : (d == 1) = false := by simpa using hd1
            have e2 : (d == -1) = false := by simpa using hd2
            have HF : Hid (awB d neg = false) := Lib.hid (by unfold awB; rw [if_neg hd1, if_neg hd2])
            clear hd1 hd2
            go_wp2
            go_meet
            exact ⟨by rw [HF.out], rfl⟩
    case rest =>
      obtain ⟨rfl, rfl⟩ := hcut
      obtain ⟨aw, haw⟩ : ∃ aw, aw = awB d neg := ⟨_, rfl⟩
      rw [← haw]
      have HAW := Lib.hid haw
      clear haw
      go_upto_region 5 with fail
      go_cut [11] (fun a wx => a = .bool (nrB d) ∧ w1 = wx)
      case first =>
        as_aux_lemma =>
          by_cases hd1 : d = 1
          · subst hd1
            go_wp2
            go_meet
            exact ⟨rfl, rfl⟩
          · by_cases hd2 : d = -1
            · subst hd2
              go_wp2
              go_meet
              exact ⟨rfl, rfl⟩
            · have e1 : (d != 1) = true := by simpa using hd1
              have e2 : (d != -1) = true := by simpa using hd2
              have HF : Hid (nrB d = true) := Lib.hid (by unfold nrB; rw [if_neg hd1, if_neg hd2])
              clear hd1 hd2
              go_wp2
              go_meet
              exact ⟨by rw [HF.out], rfl⟩
      case rest =>
        obtain ⟨rfl, rfl⟩ := hcut
        obtain ⟨nr, hnr⟩ : ∃ nr, nr = nrB d := ⟨_, rfl⟩
        rw [← hnr]
        have HNR := Lib.hid hnr
        clear hnr
        have hE0 : Ext w w1 := ((Ext.refl w).alloc _).trans hE1
        have hx1 := h.ext hE0
        have hy1 := hk.ext hE0
        have hblk := (Blk.new w 38 #[.bool neg, .slice A l c, .slice B k dd]).ext hE1
        have q1 : w1.cell? ⟨w.heap.size, 1, none⟩ = some (.slice A l c) := hblk.cell 1
        have q2 : w1.cell? ⟨w.heap.size, 2, none⟩ = some (.slice B k dd) := hblk.cell 2
        have hlX := len_any A l c xs w1 hx1 (by omega)
        have hlY := len_any B k dd ys w1 hy1 (by omega)
        have hnX : nw (nv xs) ≤ l := by have := nw_nv_le h.ws; have := h.len; omega
        have hnY : nw (nv ys) ≤ k := by have := nw_nv_le hk.ws; have := hk.len; omega
        have hbX : bl (nv xs) ≤ 32 * l := by have := nw_bl (nv xs); omega
        have hbY : bl (nv ys) ≤ 32 * k := by have := nw_bl (nv ys); omega
        have hcp := fun F h => cB_pos (n := nv xs) (m := nv ys) (F := F) h
        have hcn := fun F h => cB_neg (n := nv xs) (m := nv ys) (F := F) h
        have hxc := expo_cB (nv xs) (nv ys)
        obtain ⟨LX, hLX⟩ : ∃ LX, LX = bl (nv xs) := ⟨_, rfl⟩
        obtain ⟨LY, hLY⟩ : ∃ LY, LY = bl (nv ys) := ⟨_, rfl⟩
        rw [← hLX] at hlX hbX hcp hcn hxc
        rw [← hLY] at hlY hbY hcp hcn hxc
        have HLX := Lib.hid hlX
        have HLY := Lib.hid hlY
        have HCP := Lib.hid hcp
        have HCN := Lib.hid hcn
        have HXC := Lib.hid hxc
        clear hlX hlY hcp hcn hxc hLX hLY
        obtain ⟨X, hX⟩ : ∃ X, X = nv xs := ⟨_, rfl⟩
        obtain ⟨Y, hY⟩ : ∃ Y, Y = nv ys := ⟨_, rfl⟩
        rw [← hX, ← hY] at HCP HCN HXC
        rw [← hX] at H0 hnX
        rw [← hY] at HP hnY
        have HX := Lib.hid hX
        have HY := Lib.hid hY
        clear hX hY
        go_upto_region 9 with (first | (go_at_call 104; ((with_reducible refine HLX.out.mono ?_); rintro e w' ⟨rfl, rfl⟩)) | (go_at_call 104; ((with_reducible refine HLY.out.mono ?_); rintro e w' ⟨rfl, rfl⟩)))
        go_cut [14, 76] (fun a b wx => a = .int .i64 ((LX : Int) - LY) ∧ b = .bool (cB X Y) ∧ Ext w1 wx)
        case first =>
          as_aux_lemma =>
            rcases Int.lt_or_le ((LX : Int) - LY) 0 with hneg | hnn
            · obtain ⟨F, hF⟩ : ∃ F : Nat, -((LX : Int) - LY) = F := ⟨(-((LX : Int) - LY)).toNat, by omega⟩
              have hcB := HCN.out F hF
              have hlf := left_any A l c xs F w1 hx1 (by omega) (by omega)
              rw [← HX.out] at hlf
              have HLF := Lib.hid hlf
              have HCB := Lib.hid hcB
              have hFb : F ≤ 4398046511104 := by omega
              clear hlf hcB
              go_wp2_with fail
              refine HLF.out.mono ?_
              rintro e w2 ⟨A2, n2, c2, rfl, hl2, hE2⟩
              have hn2 : n2 ≤ 17592186044416 := by
                have := hl2.len
                rw [nd_length] at this
                have := nw_shift F hnX
                omega
              have hcm := cmp_any _ _ _ _ _ _ _ _ w2 hl2 (by omega) (hy1.ext hE2) (by omega)
              rw [nv_nd, ← HY.out] at hcm
              by_cases hc : X * 2 ^ F < Y
              · rw [cmpN_lt hc] at hcm
                have HCM := Lib.hid hcm
                have HCT : Hid (cB X Y = true) := Lib.hid (by rw [HCB.out]; exact decide_eq_true hc)
                clear hcm hc
                go_wp2_with fail
                refine HCM.out.mono ?_
                rintro e w3 ⟨rfl, q, rfl⟩
                go_wp2
                go_meet
                exact ⟨rfl, by rw [HCT.out], hE2.drewN q⟩
              · have hcc : 0 ≤ cmpN (X * 2 ^ F) Y := by unfold cmpN; rw [if_neg hc]; split <;> omega
                obtain ⟨cc, hcce⟩ : ∃ cc, cc = cmpN (X * 2 ^ F) Y := ⟨_, rfl⟩
                rw [← hcce] at hcc hcm
                have HCM := Lib.hid hcm
                have HCT : Hid (cB X Y = false) := Lib.hid (by rw [HCB.out]; exact decide_eq_false hc)
                clear hcm hc hcce
                go_wp2_with fail
                refine HCM.out.mono ?_
                rintro e w3 ⟨rfl, q, rfl⟩
                go_wp2
                go_meet
                exact ⟨rfl, by rw [HCT.out, decide_eq_false (Int.not_lt.2 hcc)], hE2.drewN q⟩
            · obtain ⟨F, hF⟩ : ∃ F : Nat, (LX : Int) - LY = F := ⟨((LX : Int) - LY).toNat, by omega⟩
              have hcB := HCP.out F hF
              have hlf := left_any B k dd ys F w1 hy1 (by omega) (by omega)
              rw [← HY.out] at hlf
              have HLF := Lib.hid hlf
              have HCB := Lib.hid hcB
              have hFb : F ≤ 4398046511104 := by omega
              clear hlf hcB
              go_wp2_with fail
              refine HLF.out.mono ?_
              rintro e w2 ⟨A2, n2, c2, rfl, hl2, hE2⟩
              have hn2 : n2 ≤ 17592186044416 := by
                have := hl2.len
                rw [nd_length] at this
                have := nw_shift F hnY
                omega
              have hcm := cmp_any _ _ _ _ _ _ _ _ w2 (hx1.ext hE2) (by omega) hl2 (by omega)
              rw [nv_nd, ← HX.out] at hcm
              by_cases hc : X < Y * 2 ^ F
              · rw [cmpN_lt hc] at hcm
                have HCM := Lib.hid hcm
                have HCT : Hid (cB X Y = true) := Lib.hid (by rw [HCB.out]; exact decide_eq_true hc)
                clear hcm hc
                go_wp2_with fail
                refine HCM.out.mono ?_
                rintro e w3 ⟨rfl, q, rfl⟩
                go_wp2
                go_meet
                exact ⟨by rw [hF], by rw [HCT.out], hE2.drewN q⟩
              · have hcc : 0 ≤ cmpN X (Y * 2 ^ F) := by unfold cmpN; rw [if_neg hc]; split <;> omega
                obtain ⟨cc, hcce⟩ : ∃ cc, cc = cmpN X (Y * 2 ^ F) := ⟨_, rfl⟩
                rw [← hcce] at hcc hcm
                have HCM := Lib.hid hcm
                have HCT : Hid (cB X Y = false) := Lib.hid (by rw [HCB.out]; exact decide_eq_false hc)
                clear hcm hc hcce
                go_wp2_with fail
                refine HCM.out.mono ?_
                rintro e w3 ⟨rfl, q, rfl⟩
                go_wp2
                go_meet
                exact ⟨by rw [hF], by rw [HCT.out, decide_eq_false (Int.not_lt.2 hcc)], hE2.drewN q⟩
        case rest =>
          obtain ⟨rfl, rfl, hE2⟩ := hcut
          obtain ⟨E, hE⟩ : ∃ E, E = expo X Y := ⟨_, rfl⟩
          have hEv : E = if cB X Y = true then (LX : Int) - LY - 1 else (LX : Int) - LY := hE.trans HXC.out
          have hElo : -4398046511104 ≤ E := by rw [hEv]; split <;> omega
          have HE := Lib.hid hE
          have HEV := Lib.hid hEv
          clear hE hEv
          go_upto_if 76 with fail
          go_cut [14] (fun a wx => a = .int .i64 E ∧ wc = wx)
          case first =>
            as_aux_lemma =>
              by_cases hcb : cB X Y = true
              · have hf := HEV.out
                rw [if_pos hcb] at hf
                rw [hcb]
                have HF := Lib.hid hf
                clear hf hcb
                go_wp2
                go_meet
                exact ⟨by rw [HF.out], rfl⟩
              · have hf := HEV.out
                rw [if_neg hcb] at hf
                rw [Bool.not_eq_true] at hcb
                rw [hcb]
                have HF := Lib.hid hf
                clear hf hcb
                go_wp2
                go_meet
                exact ⟨by rw [HF.out], rfl⟩
          case rest =>
            obtain ⟨rfl, rfl⟩ := hcut
            clear hbX hbY
            rcases Int.lt_or_le 1023 E with hov | hfin
            · have hRV : rnd d neg (zr (nv xs) (nv ys)) = pat neg (if twB d neg then infR - 1 else infR) := by
                rw [← HX.out, ← HY.out]
                exact rnd_over H0.out HP.out (by rw [← HE.out]; exact hov) d neg
              have htw := aw_tw d neg
              rw [← HAW.out, ← HNR.out] at htw
              clear HAW HNR
              have HI := Lib.hid (infinite_any neg wc)
              have HG := Lib.hid (greatest_any neg wc)
              have HEX : Hid (Ext w wc) := Lib.hid (hE0.trans hE2)
              cases aw
              · cases nr
                · rw [if_pos (of_not_f htw)] at hRV
                  have HRV := Lib.hid hRV
                  clear hRV htw
                  go_wp2_with fail
                  refine HG.out.mono ?_
                  rintro e w3 ⟨rfl, rfl⟩
                  go_wp2
                  go_ret
                  exact ⟨ret_int (by rw [HRV.out]), HEX.out⟩
                · rw [if_neg (of_not_t (.inl htw))] at hRV
                  have HRV := Lib.hid hRV
                  clear hRV htw
                  go_wp2_with fail
                  refine HI.out.mono ?_
                  rintro e w3 ⟨rfl, rfl⟩
                  go_wp2
                  go_ret
                  exact ⟨ret_int (by rw [HRV.out]), HEX.out⟩
              · rw [if_neg (of_not_t (.inr htw))] at hRV
                have HRV := Lib.hid hRV
                clear hRV htw
                go_wp2_with fail
                refine HI.out.mono ?_
                rintro e w3 ⟨rfl, rfl⟩
                go_wp2
                go_ret
                exact ⟨ret_int (by rw [HRV.out]), HEX.out⟩
            · obtain ⟨F, hF⟩ : ∃ F : Int, F = lastE X Y := ⟨_, rfl⟩
              have hFv : F = max (E - 52) (-1074) := by rw [hF, HE.out]; rfl
              have hfe : expo X Y ≤ 1023 := by rw [← HE.out]; exact hfin
              obtain ⟨N', hN'⟩ : ∃ N', N' = X * 2 ^ (-F).toNat := ⟨_, rfl⟩
              obtain ⟨M', hM'⟩ : ∃ M', M' = Y * 2 ^ F.toNat := ⟨_, rfl⟩
              have hrf : ∀ s, s = N' / M' + (upB d neg (N' / M') (N' % M') M').toNat → N' / M' < 9007199254740992 ∧ s ≤ 9007199254740992 ∧ rnd d neg (zr X Y) = pat neg ((F + 1074).toNat * 4503599627370496 + s) ∧ rung (s * 2 ^ (F + 1074).toNat) = (F + 1074).toNat * 4503599627370496 + s := by
                intro s hs
                rw [hF] at hM' hN' ⊢
                exact rnd_fin H0.out HP.out hfe d neg hM' (by rw [hN']) (by rw [hN']) hs
              have hMp : 0 < M' := by rw [hM']; exact Nat.mul_pos (Nat.pos_of_ne_zero HP.out) (two_pow_pos _)
              rw [HX.out, HY.out] at hrf
              have HRF := Lib.hid hrf
              have HN' := Lib.hid hN'
              have HM' := Lib.hid hM'
              have HMP := Lib.hid hMp
              have HFV := Lib.hid hFv
              have hF1 : -1074 ≤ F := by omega
              have hF2 : F ≤ 971 := by omega
              clear hF hfe hrf hN' hM' hMp hFv
              go_upto_if 103 with fail
              go_cut [15] (fun a wx => a = .int .i64 F ∧ wc = wx)
              case first =>
                as_aux_lemma =>
                  have hFv := HFV.out
                  rcases Int.lt_or_le (E - 52) (-1074) with hlo | hhi
                  · have HF : Hid (F = -1074) := Lib.hid (by omega)
                    clear hFv hF1 hF2
                    go_wp2
                    go_meet
                    exact ⟨by rw [HF.out], rfl⟩
                  · have HF : Hid (F = E - 53 + 1) := Lib.hid (by omega)
                    clear hFv hF1 hF2
                    go_wp2
                    go_meet
                    exact ⟨by rw [HF.out], rfl⟩
              case rest =>
                obtain ⟨rfl, rfl⟩ := hcut
                go_upto_if 109 with fail
                go_cut [12, 13] (fun a b wx => ∃ A1 n1 c1 xs1 A2 n2 c2 ys1, a = .slice A1 n1 c1 ∧ b = .slice A2 n2 c2 ∧ Wds wx A1 n1 c1 xs1 ∧ Wds wx A2 n2 c2 ys1 ∧ nv xs1 = N' ∧ nv ys1 = M' ∧ n1 ≤ 137438953472 ∧ n2 ≤ 137438953472 ∧ Ext w1 wx)
                case first =>
                  as_aux_lemma =>
                    rcases Int.lt_or_le F 0 with hneg | hnn
                    · obtain ⟨G, hG⟩ : ∃ G : Nat, -F = G := ⟨(-F).toNat, by omega⟩
                      have HG := Lib.hid hG
                      have hlf := left_any A l c xs G wc (hx1.ext hE2) (by omega) (by omega)
                      rw [← HX.out] at hlf
                      have HLF := Lib.hid hlf
                      clear hlf
                      go_wp2_with fail
                      refine HLF.out.mono ?_
                      rintro e w2 ⟨A2, n2, c2, rfl, hl2, hE3⟩
                      go_wp2
                      go_meet
                      refine ⟨A2, n2, c2, _, B, k, dd, _, rfl, rfl, hl2, hy1.ext (hE2.trans hE3), ?_, ?_, ?_, ?_, hE2.trans hE3⟩
                      · rw [nv_nd, HN'.out, HG.out, Int.toNat_natCast]
                      · rw [HM'.out, show F.toNat = 0 by omega, Nat.pow_zero, Nat.mul_one, HY.out]
                      · have := hl2.len
                        rw [nd_length] at this
                        have := nw_shift G hnX
                        have := HG.out
                        omega
                      · omega
                    · obtain ⟨G, hG⟩ : ∃ G : Nat, F = G := ⟨F.toNat, by omega⟩
                      have hN := HN'.out
                      have hM := HM'.out
                      rw [show (-F).toNat = 0 by omega, Nat.pow_zero, Nat.mul_one] at hN
                      rw [hG, Int.toNat_natCast] at hM
                      have HN := Lib.hid hN
                      have HM := Lib.hid hM
                      clear hN hM
                      have hlf := left_any B k dd ys G wc (hy1.ext hE2) (by omega) (by omega)
                      rw [← HY.out, ← hG] at hlf
                      have HG := Lib.hid hG
                      clear hG
                      have HLF := Lib.hid hlf
                      clear hlf
                      go_wp2_with fail
                      refine HLF.out.mono ?_
                      rintro e w2 ⟨A2, n2, c2, rfl, hl2, hE3⟩
                      go_wp2
                      go_meet
                      refine ⟨A, l, c, _, A2, n2, c2, _, rfl, rfl, hx1.ext (hE2.trans hE3), hl2, ?_, ?_, ?_, ?_, hE2.trans hE3⟩
                      · rw [HN.out, HX.out]
                      · rw [nv_nd, HM.out]
                      · omega
                      · have := hl2.len
                        rw [nd_length] at this
                        have := nw_shift G hnY
                        have := HG.out
                        omega
                case rest =>
                  obtain ⟨A1, n1, c1, xs1, A2, n2, c2, ys1, rfl, rfl, h1, h2, e1, e2, hn1, hn2, hE3⟩ := hcut
                  have hby := by_any A1 n1 c1 xs1 A2 n2 c2 ys1 _ h1 (by omega) h2 (by omega) (by rw [e2]; exact HMP.out)
                  rw [e1, e2] at hby
                  obtain ⟨W, hW⟩ : ∃ W, W = N' / M' := ⟨_, rfl⟩
                  obtain ⟨R, hR⟩ : ∃ R, R = N' % M' := ⟨_, rfl⟩
                  obtain ⟨up, hup⟩ : ∃ up, up = upB d neg W R M' := ⟨_, rfl⟩
                  obtain ⟨s, hs⟩ : ∃ s, s = W + up.toNat := ⟨_, rfl⟩
                  have hrf := HRF.out s (by rw [hs, hup, hW, hR])
                  rw [← hW, ← hR] at hby
                  rw [← hW] at hrf
                  obtain ⟨hWb, hsb, hres, hrung⟩ := hrf
                  have hRM : R < M' := by rw [hR]; exact Nat.mod_lt _ HMP.out
                  have HBY := Lib.hid hby
                  have HUP := Lib.hid hup
                  have HS := Lib.hid hs
                  have HE1 := Lib.hid e1
                  have HE2 := Lib.hid e2
                  have HWB := Lib.hid hWb
                  have HSB := Lib.hid hsb
                  have HRES := Lib.hid hres
                  have HRUNG := Lib.hid hrung
                  have HRM := Lib.hid hRM
                  clear hby hup hs hW hR e1 e2 hWb hsb hres hrung hRM
                  go_wp2_with fail
                  refine HBY.out.mono ?_
                  rintro e w4 ⟨A3, n3, c3, A4, n4, c4, rfl, h3, h4, hE4⟩
                  have hWb := HWB.out
                  have hWn : nw W ≤ 2 := (nw_le_iff W 2).2 (by omega)
                  have hl3 : n3 = nw W := by have := h3.len; rw [nd_length] at this; omega
                  have hl4 : n4 = nw R := by have := h4.len; rw [nd_length] at this; omega
                  have hRl : nw R ≤ n2 := by
                    have h5 := nw_mono (Nat.le_of_lt HRM.out)
                    have h6 := nw_nv_le h2.ws
                    rw [HE2.out, h2.len] at h6
                    omega
                  have hwd := word_any A3 n3 c3 _ w4 h3 (by omega) (by rw [nv_nd]; exact hWn)
                  rw [nv_nd] at hwd
                  have hlf := left_any A4 n4 c4 _ 1 w4 h4 (by omega) (by omega)
                  rw [nv_nd, Nat.pow_one, Nat.mul_comm] at hlf
                  have HWD := Lib.hid hwd
                  have HLF := Lib.hid hlf
                  have HL4 := Lib.hid hl4
                  clear hwd hlf hl3 hl4 hWb hWn
                  go_wp2_with fail
                  refine HWD.out.mono ?_
                  rintro e w5 ⟨rfl, rfl⟩
                  go_wp2_with fail
                  refine HLF.out.mono ?_
                  rintro e w5 ⟨A5, n5, c5, rfl, h5, hE5⟩
                  have hn5 : n5 ≤ 274877906944 := by
                    have := h5.len
                    rw [nd_length, Nat.mul_comm, ← Nat.pow_one 2] at this
                    have := nw_shift 1 hRl
                    omega
                  have hcm := cmp_any _ _ _ _ _ _ _ _ w5 h5 (by omega) (h2.ext (hE4.trans hE5)) (by omega)
                  rw [nv_nd, HE2.out] at hcm
                  obtain ⟨cc, hcc⟩ : ∃ cc, cc = cmpN (2 * R) M' := ⟨_, rfl⟩
                  rw [← hcc] at hcm
                  have HCM := Lib.hid hcm
                  have HCC := Lib.hid hcc
                  clear hcm hcc hRl hn5
                  go_wp2_with fail
                  refine HCM.out.mono ?_
                  rintro e w6 ⟨rfl, q, rfl⟩
                  have HEX : Hid (Ext w (w5.drewN q)) := Lib.hid ((((hE0.trans hE3).trans hE4).trans hE5).drewN q)
                  go_upto_region 24 with fail
                  go_cut [153] (fun b wx => b = .bool up ∧ w5.drewN q = wx)
                  case first =>
                    as_aux_lemma =>
                      have haw := HAW.out.symm
                      have hnr := HNR.out.symm
                      clear HAW HNR
                      have hcc := HCC.out
                      clear HCC HCM
                      cases aw
                      · cases nr
                        · have HU : Hid (up = false) := Lib.hid (HUP.out.trans (up_none haw hnr))
                          clear haw hnr hcc
                          go_wp2
                          go_meet
                          exact ⟨by rw [HU.out], rfl⟩
                        · have hu := HUP.out.trans (up_near hnr HMP.out)
                          clear haw hnr
                          rcases Nat.lt_trichotomy (2 * R) M' with h6 | h6 | h6
                          · rw [cmpN_lt h6] at hcc
                            rw [decide_eq_false (by omega), decide_eq_false (by omega)] at hu
                            subst hcc
                            have HU := Lib.hid hu
                            clear hu h6
                            go_wp2
                            go_meet
                            exact ⟨by rw [HU.out]; rfl, rfl⟩
                          · rw [cmpN_eq h6] at hcc
                            rw [decide_eq_false (by omega), decide_eq_true h6] at hu
                            subst hcc
                            rcases Nat.mod_two_eq_zero_or_one W with h7 | h7
                            · rw [h7] at hu
                              have e7 : ((W : Int) % 2 == 1) = false := by rw [beq_eq_false_iff_ne]; omega
                              have HU := Lib.hid hu
                              clear hu h6 h7
                              go_wp2
                              go_meet
                              exact ⟨by rw [HU.out]; rfl, rfl⟩
                            · rw [h7] at hu
                              have e7 : ((W : Int) % 2 == 1) = true := by rw [beq_iff_eq]; omega
                              have HU := Lib.hid hu
                              clear hu h6 h7
                              go_wp2
                              go_meet
                              exact ⟨by rw [HU.out]; rfl, rfl⟩
                          · rw [cmpN_gt h6] at hcc
                            rw [decide_eq_true h6] at hu
                            subst hcc
                            have HU := Lib.hid hu
                            clear hu h6
                            go_wp2
                            go_meet
                            exact ⟨by rw [HU.out]; rfl, rfl⟩
                      · have hu := HUP.out.trans (up_away haw)
                        rw [aw_near haw] at hnr
                        subst hnr
                        clear haw hcc
                        by_cases hR0 : R = 0
                        · have hn4 : n4 = 0 := by rw [HL4.out, hR0, nw_zero]
                          rw [decide_eq_false (fun h => h hR0)] at hu
                          have HU := Lib.hid hu
                          clear hu hR0 HL4
                          subst hn4
                          go_wp2
                          go_meet
                          exact ⟨by rw [HU.out], rfl⟩
                        · have hn4 : n4 ≠ 0 := by rw [HL4.out]; exact fun h => hR0 (nw_eq_zero.1 h)
                          have h40 : 0 < n4 := by omega
                          rw [decide_eq_true hR0] at hu
                          have HU := Lib.hid hu
                          clear hu hn4 hR0 HL4
                          go_wp2
                          go_meet
                          exact ⟨by rw [HU.out], rfl⟩
                  case rest =>
                    obtain ⟨rfl, rfl⟩ := hcut
                    go_upto_if 153 with fail
                    go_cut [18] (fun a wx => a = .int .u64 (s : Int) ∧ w5.drewN q = wx)
                    case first =>
                      as_aux_lemma =>
                        have hs := HS.out
                        have hWb := HWB.out
                        cases hup : up
                        · rw [hup] at hs
                          have HF : Hid (s = W) := Lib.hid hs
                          clear hs hup hWb
                          go_wp2
                          go_meet
                          exact ⟨by rw [HF.out], rfl⟩
                        · rw [hup] at hs
                          have HF : Hid (s = W + 1) := Lib.hid hs
                          clear hs hup
                          go_wp2
                          go_meet
                          exact ⟨val_int (by rw [HF.out]; omega), rfl⟩
                    case rest =>
                      obtain ⟨rfl, rfl⟩ := hcut
                      have hres := HRES.out
                      by_cases hsF : s = 9007199254740992 ∧ F = 971
                      · obtain ⟨h6, h7⟩ := hsF
                        rw [h6, h7, top971] at hres
                        have HI := Lib.hid (infinite_any neg (w5.drewN q))
                        have HR := Lib.hid hres
                        clear hres hF1 hF2
                        rw [h6, h7]
                        clear h6 h7
                        go_wp2_with fail
                        refine HI.out.mono ?_
                        rintro e w7 ⟨rfl, rfl⟩
                        go_wp2
                        go_ret
                        exact ⟨ret_int (by rw [HR.out]), HEX.out⟩
                      · have hmd := made_any neg s F (w5.drewN q) HSB.out hF1 hF2
                        rw [HRUNG.out, ← hres] at hmd
                        have HMD := Lib.hid hmd
                        clear hmd hres
                        by_cases h6 : s = 9007199254740992
                        · have e9 : F ≤ 970 := by
                            have := hF2
                            rcases Int.lt_or_le F 971 with h8 | h8
                            · omega
                            · exact absurd ⟨h6, by omega⟩ hsF
                          clear hsF
                          rw [h6] at HMD ⊢
                          clear h6
                          go_wp2_with fail
                          refine HMD.out.mono ?_
                          rintro e w7 ⟨rfl, rfl⟩
                          go_wp2
                          go_ret
                          exact ⟨rfl, HEX.out⟩
                        · have e9 : ((s : Int) == 9007199254740992) = false := by rw [beq_eq_false_iff_ne]; omega
                          clear hsF h6
                          go_wp2_with fail
                          refine HMD.out.mono ?_
                          rintro e w7 ⟨rfl, rfl⟩
                          go_wp2
                          go_ret
                          exact ⟨rfl, HEX.out⟩
end Go.Proofs.YtfbjeifhpmdjaaaGreat
