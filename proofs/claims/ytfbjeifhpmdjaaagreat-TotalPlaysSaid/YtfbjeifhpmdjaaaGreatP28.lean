/-
  The contract of the program's Ratio, of all naturals. Conditions: those that the theorem names.
-/
import Derived.Test.YtfbjeifhpmdjaaaGreatP27
import Derived.Test.YtfbjeifhpmdjaaaGreatP23
import Derived.Test.YtfbjeifhpmdjaaaGreatP24
namespace Go.Proofs.YtfbjeifhpmdjaaaGreat
open Go.RowKit Nm Rn
set_option maxRecDepth 100000
set_option linter.unusedVariables false
set_option linter.unusedSimpArgs false

theorem nw_of_big {V : Nat} (h : 524288 < bl V) : 16384 < nw V := by
  have := bl_le_nw V
  omega
theorem cn_inf (s : Bool) : cn (infP s) = infP s := cn_num (by cases s <;> decide)

set_option maxHeartbeats 8000000 in
theorem pratio_any (d : Int) (neg : Bool) (A : Option Addr) (n c : Nat) (xs : List Nat) (B : Option Addr) (m dd : Nat) (ys : List Nat) (exp : Int) (w : World) (h : Wds w A n c xs) (hn : n ≤ 8796093022208) (k : Wds w B m dd ys) (hm : m ≤ 8796093022208) :
    Calls Tryz.prog 68 #[.int .i64 d, .bool neg, .slice A n c, .slice B m dd, .int .i64 exp] w (RetFl (ratR d neg (nv xs) (nv ys) exp) w) := by
  have HL1 := Lib.hid (fun w h => nlen_any A n c xs w h (by omega))
  have HL2 := Lib.hid (fun w h => nlen_any B m dd ys w h (by omega))
  have HH := Lib.hid (fun w => hold_any exp w)
  have hSH := fun s w h h0 hs => nshl_any A n c xs s w h (by omega) h0 hs
  have hSL := fun s w h h0 h1 hsb hs => nshl_long A n c xs s w h (by omega) h0 h1 hsb hs
  have hQ := fun (A1 : Option Addr) (n1 c1 : Nat) (s : Nat) (w : World) (h : Wds w A1 n1 c1 (nd s)) (k : Wds w B m dd ys) (hs : nw s ≤ 16384) (hd : nw (nv ys) ≤ 16384) (h0 : nv ys ≠ 0) => nquo_any A1 n1 c1 (nd s) B m dd ys w h (by have := h.len; rw [nd_length] at this; omega) k hm (by rw [nv_nd]; exact hs) hd h0
  have hLG := fun e w h k h1 h2 h3 h4 e1 e2 => rlong_any d neg A n c xs B m dd ys e w h hn k hm h1 h2 h3 h4 e1 e2
  simp only [nv_nd] at hQ
  obtain ⟨V, hV⟩ : ∃ V, V = nv xs := ⟨_, rfl⟩
  obtain ⟨D, hD⟩ : ∃ D, D = nv ys := ⟨_, rfl⟩
  rw [← hV] at HL1 hSH hSL hLG ⊢
  rw [← hD] at HL2 hQ hLG ⊢
  clear hV hD
  obtain ⟨bV, hbV⟩ : ∃ b, b = bl V := ⟨_, rfl⟩
  obtain ⟨bD, hbD⟩ : ∃ b, b = bl D := ⟨_, rfl⟩
  rw [← hbV] at HL1
  rw [← hbD] at HL2
  by_cases cV : 524288 < bV
  · have HF : Hid (ratR d neg V D exp = NaNc) := Lib.hid (by unfold ratR; rw [if_pos (.inl (nw_of_big (by omega)))])
    have hca : decide ((524288 : Int) < (bV : Int)) = true := decide_eq_true (by omega)
    clear hSH hSL hQ hLG hbV hbD cV
    go_enter Tryz.func68, Tryz.ntmps68
    go_wp2_with (first | (go_at_call 90; (first | (with_reducible refine (HL1.out _ h).mono ?_) | (with_reducible refine (HL2.out _ k).mono ?_)); rintro e w' ⟨rfl, rfl⟩) | (go_at_call 67; refine (mnanc_any _).mono ?_; rintro e w' ⟨rfl, rfl⟩))
    go_ret
    exact ⟨_, rfl, by rw [NaNc_val]; omega, by rw [HF.out]; rfl, Ext.refl _⟩
  have hca : decide ((524288 : Int) < (bV : Int)) = false := decide_eq_false (by omega)
  by_cases cD : 524288 < bD
  · have HF : Hid (ratR d neg V D exp = NaNc) := Lib.hid (by unfold ratR; rw [if_pos (.inr (nw_of_big (by omega)))])
    have hcb : decide ((524288 : Int) < (bD : Int)) = true := decide_eq_true (by omega)
    clear hSH hSL hQ hLG hbV hbD cD cV
    go_enter Tryz.func68, Tryz.ntmps68
    go_wp2_with (first | (go_at_call 90; (first | (with_reducible refine (HL1.out _ h).mono ?_) | (with_reducible refine (HL2.out _ k).mono ?_)); rintro e w' ⟨rfl, rfl⟩) | (go_at_call 67; refine (mnanc_any _).mono ?_; rintro e w' ⟨rfl, rfl⟩))
    go_ret
    exact ⟨_, rfl, by rw [NaNc_val]; omega, by rw [HF.out]; rfl, Ext.refl _⟩
  have hcb : decide ((524288 : Int) < (bD : Int)) = false := decide_eq_false (by omega)
  have hVn : nw V ≤ 16384 := nw_of_bl (by omega)
  have hDn : nw D ≤ 16384 := nw_of_bl (by omega)
  by_cases hD0 : D = 0
  · have hbz : bD = 0 := by rw [hbD, hD0]; rfl
    subst hbz
    by_cases hV0 : V = 0
    · have HF : Hid (ratR d neg V D exp = NaNc) := Lib.hid (by unfold ratR; rw [if_neg (by omega), if_pos hD0, if_pos hV0])
      have hbz : bV = 0 := by rw [hbV, hV0]; rfl
      subst hbz
      clear hSH hSL hQ hLG hbV hbD cD cV hca hcb hV0 hD0
      go_enter Tryz.func68, Tryz.ntmps68
      go_wp2_with (first | (go_at_call 90; (first | (with_reducible refine (HL1.out _ h).mono ?_) | (with_reducible refine (HL2.out _ k).mono ?_)); rintro e w' ⟨rfl, rfl⟩) | (go_at_call 67; refine (mnanc_any _).mono ?_; rintro e w' ⟨rfl, rfl⟩))
      go_ret
      exact ⟨_, rfl, by rw [NaNc_val]; omega, by rw [HF.out]; rfl, Ext.refl _⟩
    · have HF : Hid (ratR d neg V D exp = infP neg) := Lib.hid (by unfold ratR; rw [if_neg (by omega), if_pos hD0, if_neg hV0])
      have hbp : 1 ≤ bV := by rw [hbV]; exact bl_pos hV0
      have hcz : ((bV : Int) == 0) = false := by rw [beq_eq_false_iff_ne]; omega
      clear hSH hSL hQ hLG hbV hbD cD cV hcb hV0 hD0
      cases neg
      · go_enter Tryz.func68, Tryz.ntmps68
        go_wp2_with (first | (go_at_call 90; (first | (with_reducible refine (HL1.out _ h).mono ?_) | (with_reducible refine (HL2.out _ k).mono ?_)); rintro e w' ⟨rfl, rfl⟩) | (go_at_call 71; refine (inf_p _).mono ?_; rintro e w' ⟨rfl, rfl⟩))
        go_ret
        exact ⟨_, rfl, infR_lt, by rw [HF.out]; exact cn_inf false, Ext.refl _⟩
      · go_enter Tryz.func68, Tryz.ntmps68
        go_wp2_with (first | (go_at_call 90; (first | (with_reducible refine (HL1.out _ h).mono ?_) | (with_reducible refine (HL2.out _ k).mono ?_)); rintro e w' ⟨rfl, rfl⟩) | (go_at_call 71; refine (inf_m _).mono ?_; rintro e w' ⟨rfl, rfl⟩))
        go_ret
        exact ⟨_, rfl, minf_lt, by rw [HF.out]; exact cn_inf true, Ext.refl _⟩
  have hbDp : 1 ≤ bD := by rw [hbD]; exact bl_pos hD0
  have hcz : ((bD : Int) == 0) = false := by rw [beq_eq_false_iff_ne]; omega
  by_cases hV0 : V = 0
  · have hbz : bV = 0 := by rw [hbV, hV0]; rfl
    have HF : Hid (ratR d neg V D exp = 0) := Lib.hid (by rw [hV0]; exact rat_zero d neg hD0 (by omega))
    subst hbz
    clear hSH hSL hQ hLG hbV hbD cD cV hca hV0 hD0
    go_enter Tryz.func68, Tryz.ntmps68
    go_wp2_with (first | (go_at_call 90; (first | (with_reducible refine (HL1.out _ h).mono ?_) | (with_reducible refine (HL2.out _ k).mono ?_)); rintro e w' ⟨rfl, rfl⟩))
    go_ret
    exact ⟨_, rfl, by omega, by rw [HF.out]; rfl, Ext.refl _⟩
  have hbVp : 1 ≤ bV := by rw [hbV]; exact bl_pos hV0
  have hcy : ((bV : Int) == 0) = false := by rw [beq_eq_false_iff_ne]; omega
  obtain ⟨H, hH⟩ : ∃ H, H = holdZ exp := ⟨_, rfl⟩
  have hH1 : -1099511627776 ≤ H ∧ H ≤ 1099511627776 := by rw [hH]; unfold holdZ; omega
  rw [← hH] at HH
  by_cases ht : (bV : Int) - bD + H < -1100
  · have hRT := rat_tiny d neg (e := exp) hV0 hD0 (by omega) (by omega) (by rw [← hbV, ← hbD, ← hH]; exact ht)
    have HNUM := Lib.hid (rat_num d neg hRT)
    have hOF := fun w => of_any d neg (some ⟨w.heap.size, 0, none⟩) 1 1 [1] (-1200) false (w.alloc (.cells #[.int .u32 1] 104)) (one_list w 0) (by omega) (by rw [show nv [1] = 1 from rfl, show nw 1 = 1 from rfl]; omega) (by omega) (by omega) (by intro h; cases h)
    simp only [Bool.toNat_false, Nat.add_zero, show nv [1] = 1 from rfl] at hOF
    rw [hRT] at hOF
    have HOF := Lib.hid hOF
    have HE0 : Hid (Ext w (w.alloc (.cells #[.int .u32 1] 104))) := Lib.hid ((Ext.refl w).alloc _)
    generalize ratR d neg V D exp = R at HOF HNUM ⊢
    clear hSH hSL hQ hLG hbV hbD hV0 hD0 hRT hOF hH
    go_enter Tryz.func68, Tryz.ntmps68
    go_wp2_with (first | (go_at_call 90; (first | (with_reducible refine (HL1.out _ h).mono ?_) | (with_reducible refine (HL2.out _ k).mono ?_)); rintro e w' ⟨rfl, rfl⟩) | (go_at_call 91; refine (HH.out _).mono ?_; rintro e w' ⟨rfl, rfl⟩))
    refine (HOF.out _).mono ?_
    rintro e w1 ⟨rfl, hE⟩
    go_wp2
    go_ret
    exact ⟨_, rfl, HNUM.out.1, HNUM.out.2, HE0.out.trans hE⟩
  have hFIN := fun (kk : Nat) hb => rat_fin d neg (k := kk) (e := exp) hV0 hD0 (by omega) (by omega) (by rw [← hbV, ← hbD, ← hH]; omega) hb
  rw [← hH] at hFIN
  have hLG1 := fun w h k => hLG H w h k hV0 hD0 (by omega) (by omega) hH1.1 hH1.2
  clear hLG
  have HLG : Hid (∀ w, Wds w A n c xs → Wds w B m dd ys → Calls Tryz.prog 94 #[.int .i64 d, .bool neg, .slice A n c, .slice B m dd, .int .i64 H] w (RetFl (ratR d neg V D exp) w)) := Lib.hid fun w h k => (hLG1 w h k).mono (by
    rintro e w' ⟨kk, rfl, hb, hE⟩
    have hf := hFIN kk hb
    have hnum := rat_num d neg hf
    exact ⟨_, rfl, by rw [hf]; exact hnum.1, by rw [hf]; exact hnum.2, hE⟩)
  clear hLG1
  by_cases c57 : 57 + (bD : Int) - (bV : Int) ≤ 0
  · generalize ratR d neg V D exp = R at HLG ⊢
    clear hSH hSL hQ hbV hbD hV0 hD0 hFIN hH
    go_enter Tryz.func68, Tryz.ntmps68
    go_wp2_with (first | (go_at_call 90; (first | (with_reducible refine (HL1.out _ h).mono ?_) | (with_reducible refine (HL2.out _ k).mono ?_)); rintro e w' ⟨rfl, rfl⟩) | (go_at_call 91; refine (HH.out _).mono ?_; rintro e w' ⟨rfl, rfl⟩))
    refine (HLG.out _ h k).mono ?_
    rintro e w1 ⟨r, rfl, hr, hc, hE⟩
    go_wp2
    go_ret
    exact ⟨_, rfl, hr, hc, hE⟩
  obtain ⟨kk, hkk⟩ : ∃ kk, kk = 57 + bD - bV := ⟨_, rfl⟩
  have hke : 57 + (bD : Int) - (bV : Int) = (kk : Int) := by omega
  have hkp : 1 ≤ kk := by omega
  by_cases cS : bV + kk ≤ 524288
  · have hmain := ((same_frac (N := V) H hD0).main (k := kk) (by rw [← hbV, ← hbD]; omega) hV0 d neg).2
    have hfin := hFIN kk (fun _ => hmain)
    have HNUM := Lib.hid (rat_num d neg hfin)
    have HSH := Lib.hid (fun w h => hSH kk w h hV0 (by rw [← hbV]; omega))
    obtain ⟨s, hs⟩ : ∃ s, s = V * 2 ^ kk := ⟨_, rfl⟩
    rw [← hs] at hmain HSH hfin
    have hsb : bl s = bV + kk := by rw [hs, bl_mul_pow kk hV0, ← hbV]
    have hnws : nw s ≤ 16384 := nw_of_bl (by rw [hsb]; omega)
    have HQ := Lib.hid (fun A1 n1 c1 w h k => hQ A1 n1 c1 s w h k hnws hDn hD0)
    obtain ⟨Q, hQe⟩ : ∃ Q, Q = s / D := ⟨_, rfl⟩
    obtain ⟨R, hR⟩ : ∃ R, R = s % D := ⟨_, rfl⟩
    rw [← hQe, ← hR] at HQ hfin
    rw [← hQe] at hmain
    have hnwQ : nw Q ≤ 16384 := Nat.le_trans (nw_mono (by rw [hQe]; exact Nat.div_le_self _ _)) hnws
    have HOF := Lib.hid (fun (A1 : Option Addr) (n1 c1 : Nat) (w : World) (h : Wds w A1 n1 c1 (nd Q)) => of_any d neg A1 n1 c1 (nd Q) (H - kk) (decide (R ≠ 0)) w h (by have := h.len; rw [nd_length] at this; omega) (by rw [nv_nd]; exact hnwQ) (by omega) (by omega) (fun _ => by rw [nv_nd]; exact hmain))
    simp only [nv_nd] at HOF
    rw [hfin] at HOF
    generalize ratR d neg V D exp = Z at HOF HNUM ⊢
    clear hSH hSL hQ hFIN HLG hbV hbD hmain hs hsb hnws hQe hR hnwQ hV0 hD0 hkk cS hfin hH
    by_cases hR0 : R = 0
    · subst hR0
      go_enter Tryz.func68, Tryz.ntmps68
      go_wp2_with (first | (go_at_call 90; (first | (with_reducible refine (HL1.out _ h).mono ?_) | (with_reducible refine (HL2.out _ k).mono ?_)); rintro e w' ⟨rfl, rfl⟩) | (go_at_call 91; refine (HH.out _).mono ?_; rintro e w' ⟨rfl, rfl⟩))
      refine (HSH.out _ h).mono ?_
      rintro e w1 ⟨A1, n1, c1, rfl, hW1, hE1⟩
      go_wp2_with fail
      refine (HQ.out _ _ _ _ hW1 (k.ext hE1)).mono ?_
      rintro e w2 ⟨A2, n2, c2, A3, n3, c3, rfl, hW2, hW3, hE2⟩
      have hn3 : n3 = 0 := by have := hW3.len; rw [nd_length, nw_zero] at this; omega
      subst hn3
      go_wp2_with fail
      refine (HOF.out _ _ _ _ hW2).mono ?_
      rintro e w3 ⟨rfl, hE3⟩
      go_wp2
      go_ret
      exact ⟨_, rfl, HNUM.out.1, HNUM.out.2, hE1.trans (hE2.trans hE3)⟩
    · have hdR : decide (R ≠ 0) = true := decide_eq_true hR0
      rw [hdR] at HOF
      have HR0 := Lib.hid hR0
      clear hR0 hdR
      go_enter Tryz.func68, Tryz.ntmps68
      go_wp2_with (first | (go_at_call 90; (first | (with_reducible refine (HL1.out _ h).mono ?_) | (with_reducible refine (HL2.out _ k).mono ?_)); rintro e w' ⟨rfl, rfl⟩) | (go_at_call 91; refine (HH.out _).mono ?_; rintro e w' ⟨rfl, rfl⟩))
      refine (HSH.out _ h).mono ?_
      rintro e w1 ⟨A1, n1, c1, rfl, hW1, hE1⟩
      go_wp2_with fail
      refine (HQ.out _ _ _ _ hW1 (k.ext hE1)).mono ?_
      rintro e w2 ⟨A2, n2, c2, A3, n3, c3, rfl, hW2, hW3, hE2⟩
      have hn3 : 0 < n3 := by
        have := hW3.len
        rw [nd_length] at this
        rcases Nat.eq_zero_or_pos n3 with e | e
        · exact absurd (nw_eq_zero.1 (by omega)) HR0.out
        · exact e
      go_wp2_with fail
      refine (HOF.out _ _ _ _ hW2).mono ?_
      rintro e w3 ⟨rfl, hE3⟩
      go_wp2
      go_ret
      exact ⟨_, rfl, HNUM.out.1, HNUM.out.2, hE1.trans (hE2.trans hE3)⟩
  · have HSL := Lib.hid (fun w h => hSL kk w h hV0 hVn (by omega) (by rw [← hbV]; omega))
    generalize ratR d neg V D exp = R at HLG ⊢
    clear hSH hSL hQ hbV hbD hV0 hD0 hFIN hH cS hkk
    go_enter Tryz.func68, Tryz.ntmps68
    go_wp2_with (first | (go_at_call 90; (first | (with_reducible refine (HL1.out _ h).mono ?_) | (with_reducible refine (HL2.out _ k).mono ?_)); rintro e w' ⟨rfl, rfl⟩) | (go_at_call 91; refine (HH.out _).mono ?_; rintro e w' ⟨rfl, rfl⟩))
    refine (HSL.out _ h).mono ?_
    rintro e w1 ⟨A1, n1, c1, rfl, hW1, hE1⟩
    go_wp2_with fail
    refine (HLG.out _ (h.ext hE1) (k.ext hE1)).mono ?_
    rintro e w1 ⟨r, rfl, hr, hc, hE⟩
    go_wp2
    go_ret
    exact ⟨_, rfl, hr, hc, hE1.trans hE⟩
end Go.Proofs.YtfbjeifhpmdjaaaGreat

/-
  Plain: powers of numbers, as the program and as a ratio tells them. Conditions: those that each theorem names.
-/
set_option linter.unusedVariables false
set_option linter.unusedSimpArgs false
namespace Go.Proofs.YtfbjeifhpmdjaaaGreat
open Nm Rn

/-- Of, where nothing is held. -/
theorem ofR_zd (d : Int) (neg : Bool) {V : Nat} {e : Int} (hb : bl V ≤ 524288) (h1 : -1099511627776 ≤ e) (h2 : e ≤ 1099511627776) : ofR d neg V e = rnd d neg (zd V e) := by
  have hh : holdZ e = e := by unfold holdZ; omega
  by_cases h0 : V = 0
  · have := ofR_hold (d := d) (neg := neg) (V := V) (e := e) hb (.inl h0)
    rw [this, hh, zd_two]
  · by_cases ht : (bl V : Int) + e < -1076
    · rw [ofR_tiny h0 hb ht, ← zd_two, zd_tiny h0 ht]
    · have := ofR_hold (d := d) (neg := neg) (V := V) (e := e) hb (.inr (by rw [hh]; omega))
      rw [this, hh, zd_two]
theorem zd_zr {V N D : Nat} {e : Int} {P Q : Nat} (hD : 0 < D) (hPQ : (P : Int) - Q = e) (h : V * 2 ^ P * D = N * 2 ^ Q) : zd V e = zr N D := by
  obtain ⟨c, hc⟩ : ∃ c : Nat, c = 1075 := ⟨_, rfl⟩
  rw [zd_of (A := P + c) (B := Q) (by omega), zr_eq]
  refine zq_congr (two_pow_pos _) hD ?_
  rw [show K75 = 2 ^ c by rw [hc]; exact K75_def, Nat.pow_add]
  have a1 : V * (2 ^ P * 2 ^ c) * D = V * 2 ^ P * D * 2 ^ c := by ac_rfl
  rw [a1, h]
  ac_rfl

/-- Ratio, where nothing is held. -/
theorem ratR_same (d : Int) (neg : Bool) {N M N' M' : Nat} {e : Int} (hN : N ≠ 0) (hM : M ≠ 0) (hn : bl N ≤ 524288) (hm : bl M ≤ 524288) (h1 : -1099511627776 ≤ e) (h2 : e ≤ 1099511627776) (h : Same75 N M e N' M') : ratR d neg N M e = rnd d neg (zq N' M') := by
  have hh : holdZ e = e := by unfold holdZ; omega
  by_cases ht : -1100 ≤ (bl N : Int) - bl M + holdZ e
  · obtain ⟨k, hk⟩ : ∃ k, k = bl M + 60 := ⟨_, rfl⟩
    have hb : decide (N * 2 ^ k % M ≠ 0) = true → 55 ≤ bl (N * 2 ^ k / M) := fun _ => by
      have h3 : 2 ^ 55 ≤ N * 2 ^ k / M := by
        refine (Nat.le_div_iff_mul_le (show 0 < M by omega)).2 ?_
        have h4 := lt_pow_bl M
        have h5 : 2 ^ 55 * M ≤ 2 ^ 55 * 2 ^ bl M := Nat.mul_le_mul_left _ (Nat.le_of_lt h4)
        rw [← Nat.pow_add] at h5
        have h6 : 2 ^ (55 + bl M) ≤ 2 ^ k := Nat.pow_le_pow_right (by omega) (by omega)
        have h7 : 2 ^ k ≤ N * 2 ^ k := Nat.le_mul_of_pos_left _ (by omega)
        omega
      rcases Nat.lt_or_ge (bl (N * 2 ^ k / M)) 55 with g | g
      · have := lt_pow_bl (N * 2 ^ k / M)
        have h8 : 2 ^ bl (N * 2 ^ k / M) ≤ 2 ^ 55 := Nat.pow_le_pow_right (by omega) (by omega)
        omega
      · exact g
    rw [← rat_fin d neg hN hM hn hm ht hb, hh]
    exact h.gen hb d neg
  · have htt : (bl N : Int) - bl M + holdZ e < -1100 := by omega
    rw [← rat_tiny d neg hN hM hn hm htt]
    have e1 : zd (2 * 1) (-1200 - 1) = 1 := zd_tiny (V := 1) (e := -1200) (by omega) (by decide)
    rw [e1]
    obtain ⟨A, B, hAB, hM', hD, hv⟩ := h
    have e2 : zq N' M' = 1 := by
      have hlt : N' < M' := by
        have b1 := lt_pow_bl N
        have b2 : 2 ^ (bl M - 1) ≤ M := by
          rcases Nat.lt_or_ge M (2 ^ (bl M - 1)) with g | g
          · have := (bl_le_iff M (bl M - 1)).2 g
            have := bl_pos hM
            omega
          · exact g
        have hpos := bl_pos hM
        -- N 2^A < 2^(bl N + A) ≤ 2^(bl M - 1 + B) ≤ M 2^B
        have c1 : N * 2 ^ A < 2 ^ bl N * 2 ^ A := Nat.mul_lt_mul_of_pos_right b1 (two_pow_pos A)
        have c2 : 2 ^ (bl M - 1) * 2 ^ B ≤ M * 2 ^ B := Nat.mul_le_mul_right _ b2
        rw [← Nat.pow_add] at c1 c2
        have c3 : 2 ^ (bl N + A) ≤ 2 ^ (bl M - 1 + B) := Nat.pow_le_pow_right (by omega) (by omega)
        have c4 : N * 2 ^ A < M * 2 ^ B := by omega
        have c5 : N * 2 ^ A * M' < M * 2 ^ B * M' := Nat.mul_lt_mul_of_pos_right c4 hM'
        rw [hv, Nat.mul_comm (M * 2 ^ B)] at c5
        exact Nat.lt_of_mul_lt_mul_right c5
      unfold zq
      have hN' : N' ≠ 0 := fun e0 => by
        rw [e0, Nat.zero_mul] at hv
        have := Nat.mul_pos (Nat.mul_pos (show 0 < N by omega) (two_pow_pos A)) hM'
        omega
      rw [Nat.div_eq_of_lt hlt, Nat.mod_eq_of_lt hlt, if_neg hN']
    rw [e2]

/-- The odd part of a number's significand, and the exponent that goes with it. -/
def odS (x : Nat) : Nat := fbSig x / 2 ^ tz (fbSig x)
def odE (x : Nat) : Int := fbExp x + tz (fbSig x)
theorem odS_mul (x : Nat) : odS x * 2 ^ tz (fbSig x) = fbSig x := tz_div
theorem odS_pos {x : Nat} (h : mg x ≠ 0) : 0 < odS x := tz_div_pos fun e => h ((fbSig_zero x).1 e)
theorem odS_bl (x : Nat) : odS x < 2 ^ 53 := by
  have h1 := fbSig_lt x
  have h2 : odS x ≤ fbSig x := Nat.div_le_self _ _
  have e : (2 : Nat) ^ 53 = 9007199254740992 := by decide
  omega
/-- A power, as a ratio and as an odd number times a power of 2. -/
theorem pow_val (x m : Nat) : ∃ p q : Nat, (p : Int) - q = odE x * m ∧ odS x ^ m * 2 ^ p * fracD (fbN x ^ m) (fbD x ^ m) 0 = fracN (fbN x ^ m) (fbD x ^ m) 0 * 2 ^ q := by
  obtain ⟨z, hz⟩ : ∃ z, z = tz (fbSig x) := ⟨_, rfl⟩
  obtain ⟨p0, q0, hpq⟩ : ∃ p q : Nat, (p : Int) - q = fbExp x := ⟨(fbExp x).toNat, (-fbExp x).toNat, by omega⟩
  have h1 : fbN x * 2 ^ q0 = fbSig x * 2 ^ p0 * fbD x := fb_gen (fbSig x) (fbExp x) p0 q0 hpq
  have hs := odS_mul x
  rw [← hz] at hs
  have hDp : 0 < fbD x ^ m := Nat.pow_pos (fbD_pos x)
  have h2 := frac_val (n := fbN x ^ m) (d := fbD x ^ m) (e := 0) (p := 0) (q := 0) rfl
  rw [Nat.pow_zero, Nat.mul_one, Nat.mul_one] at h2
  refine ⟨(z + p0) * m, q0 * m, ?_, ?_⟩
  · unfold odE
    rw [← hz, ← hpq]
    push_cast
    rw [← Int.sub_mul]
    congr 1
    omega
  · obtain ⟨P, hP⟩ : ∃ P, P = fracN (fbN x ^ m) (fbD x ^ m) 0 := ⟨_, rfl⟩
    obtain ⟨Q, hQ⟩ : ∃ Q, Q = fracD (fbN x ^ m) (fbD x ^ m) 0 := ⟨_, rfl⟩
    rw [← hP, ← hQ] at h2 ⊢
    refine Nat.eq_of_mul_eq_mul_right hDp ?_
    have h3 : fbN x ^ m * 2 ^ (q0 * m) = odS x ^ m * 2 ^ ((z + p0) * m) * fbD x ^ m := by
      rw [Nat.pow_mul, Nat.pow_mul, ← Nat.mul_pow, ← Nat.mul_pow, ← Nat.mul_pow, h1, ← hs, Nat.pow_add]
      congr 1
      ac_rfl
    calc odS x ^ m * 2 ^ ((z + p0) * m) * Q * fbD x ^ m = odS x ^ m * 2 ^ ((z + p0) * m) * fbD x ^ m * Q := Nat.mul_right_comm _ _ _
      _ = fbN x ^ m * 2 ^ (q0 * m) * Q := by rw [h3]
      _ = fbN x ^ m * Q * 2 ^ (q0 * m) := Nat.mul_right_comm _ _ _
      _ = P * fbD x ^ m * 2 ^ (q0 * m) := by rw [h2]
      _ = P * 2 ^ (q0 * m) * fbD x ^ m := Nat.mul_right_comm _ _ _
theorem pow_bl (x m : Nat) (hm : m ≤ 1024) : bl (odS x ^ m) ≤ 54272 := by
  obtain ⟨T, hT⟩ : ∃ T : Nat, T = 54272 := ⟨_, rfl⟩
  rw [← hT, bl_le_iff]
  have h1 := odS_bl x
  by_cases h0 : m = 0
  · rw [h0, Nat.pow_zero]
    exact Nat.one_lt_two_pow (show T ≠ 0 by omega)
  · have h2 : odS x ^ m < (2 ^ 53) ^ m := Nat.pow_lt_pow_left h1 h0
    rw [← Nat.pow_mul] at h2
    have h3 : 2 ^ (53 * m) ≤ 2 ^ T := Nat.pow_le_pow_right (by omega) (by omega)
    omega
theorem odE_rng (x : Nat) : -1074 ≤ odE x ∧ odE x ≤ 1100 := by
  have h1 := fbExp_lo x
  have h2 := fbExp_hi x
  have h3 : tz (fbSig x) ≤ 53 := by
    by_cases h0 : fbSig x = 0
    · rw [h0]; decide
    · have h4 := tz_div (n := fbSig x)
      have h5 := tz_div_pos h0
      have h6 := fbSig_lt x
      rcases Nat.lt_or_ge 53 (tz (fbSig x)) with g | g
      · have h7 : 2 ^ 54 ≤ 2 ^ tz (fbSig x) := Nat.pow_le_pow_right (by omega) g
        have h8 : 2 ^ tz (fbSig x) ≤ fbSig x / 2 ^ tz (fbSig x) * 2 ^ tz (fbSig x) := Nat.le_mul_of_pos_left _ h5
        have e : (2 : Nat) ^ 54 = 18014398509481984 := by decide
        omega
      · exact g
  unfold odE
  omega
theorem odE_m (x m : Nat) (hm : m ≤ 1024) : -1099776 ≤ odE x * m ∧ odE x * m ≤ 1126400 := by
  obtain ⟨h1, h2⟩ := odE_rng x
  have a1 := Int.mul_le_mul_of_nonneg_right h2 (show (0 : Int) ≤ (m : Int) by omega)
  have a2 := Int.mul_le_mul_of_nonneg_right h1 (show (0 : Int) ≤ (m : Int) by omega)
  omega
theorem pow_pos_eq (d : Int) (neg : Bool) (x : Nat) {m : Nat} (hm : m ≤ 1024) : ofR d neg (odS x ^ m) (odE x * m) = rnd d neg (zr (fracN (fbN x ^ m) (fbD x ^ m) 0) (fracD (fbN x ^ m) (fbD x ^ m) 0)) := by
  obtain ⟨p, q, hpq, hv⟩ := pow_val x m
  obtain ⟨e1, e2⟩ := odE_m x m hm
  have hb := pow_bl x m hm
  rw [ofR_zd d neg (by omega) (by omega) (by omega)]
  rw [zd_zr (fracD_pos (n := fbN x ^ m) 0 (Nat.ne_of_gt (Nat.pow_pos (fbD_pos x)))) hpq hv]
theorem pow_neg_eq (d : Int) (neg : Bool) {x : Nat} (hx : mg x ≠ 0) {m : Nat} (hm : m ≤ 1024) (P Q : Nat) (hP : P = fracN (fbN x ^ m) (fbD x ^ m) 0) (hQ : Q = fracD (fbN x ^ m) (fbD x ^ m) 0) :
    0 < P ∧ 0 < Q ∧ ratR d neg 1 (odS x ^ m) (-(odE x * m)) = rnd d neg (zr (fracN (1 * Q) (1 * P) 0) (fracD (1 * Q) (1 * P) 0)) := by
  obtain ⟨p, q, hpq, hv⟩ := pow_val x m
  obtain ⟨e1, e2⟩ := odE_m x m hm
  have hb := pow_bl x m hm
  have hS := odS_pos hx
  have hV : 0 < odS x ^ m := Nat.pow_pos hS
  have hQp : 0 < Q := by rw [hQ]; exact fracD_pos 0 (Nat.ne_of_gt (Nat.pow_pos (fbD_pos x)))
  rw [← hP, ← hQ] at hv
  have hPp : 0 < P := by
    rcases Nat.eq_zero_or_pos P with h | h
    · rw [h, Nat.zero_mul] at hv
      have := Nat.mul_pos (Nat.mul_pos hV (two_pow_pos p)) hQp
      omega
    · exact h
  refine ⟨hPp, hQp, ?_⟩
  rw [Nat.one_mul, Nat.one_mul]
  have h2 := frac_val (n := Q) (d := P) (e := 0) (p := 0) (q := 0) rfl
  rw [Nat.pow_zero, Nat.mul_one, Nat.mul_one] at h2
  have hq' : 0 < fracD Q P 0 := fracD_pos 0 (Nat.ne_of_gt hPp)
  obtain ⟨P', hP'⟩ : ∃ z, z = fracN Q P 0 := ⟨_, rfl⟩
  obtain ⟨Q', hQ'⟩ : ∃ z, z = fracD Q P 0 := ⟨_, rfl⟩
  rw [← hP', ← hQ'] at h2 ⊢
  rw [← hQ'] at hq'
  rw [zr_eq]
  refine ratR_same d neg (by omega) (Nat.ne_of_gt hV) (by decide) (by omega) (by omega) (by omega) ?_
  obtain ⟨c, hc⟩ : ∃ c : Nat, c = 1075 := ⟨_, rfl⟩
  refine ⟨q + c, p, by omega, hq', hV, ?_⟩
  rw [show K75 = 2 ^ c by rw [hc]; exact K75_def, Nat.one_mul, Nat.pow_add]
  refine Nat.eq_of_mul_eq_mul_right hPp ?_
  calc 2 ^ q * 2 ^ c * Q' * P = P * 2 ^ q * (Q' * 2 ^ c) := by ac_rfl
    _ = odS x ^ m * 2 ^ p * Q * (Q' * 2 ^ c) := by rw [← hv]
    _ = Q * Q' * (2 ^ c * (odS x ^ m * 2 ^ p)) := by ac_rfl
    _ = P' * P * (2 ^ c * (odS x ^ m * 2 ^ p)) := by rw [h2]
    _ = P' * 2 ^ c * (odS x ^ m * 2 ^ p) * P := by ac_rfl
end Go.Proofs.YtfbjeifhpmdjaaaGreat

/-
  The contracts of the program's sums, fifth part: size, Sign, end, Round, Over. Conditions: those that each theorem names.
-/
namespace Go.Proofs.YtfbjeifhpmdjaaaGreat
open Go.RowKit Nm Rn
set_option maxRecDepth 100000
set_option linter.unusedVariables false
set_option linter.unusedSimpArgs false

/-- Words of 64 bits as words of 32. -/
def hv : List Nat → List Nat
  | [] => []
  | x :: l => x % 4294967296 :: x / 4294967296 :: hv l
theorem hv_len : ∀ l : List Nat, (hv l).length = 2 * l.length
  | [] => rfl
  | x :: l => by simp [hv, hv_len l]; omega
theorem hv_ws : ∀ {l : List Nat}, W6 l → Ws (hv l)
  | [], _ => Ws.nil
  | x :: l, h => by
    have := h.head
    exact Ws.cons (by omega) (Ws.cons (by omega) (hv_ws h.tail))
theorem hv_nv : ∀ l : List Nat, nv (hv l) = vl l
  | [] => rfl
  | x :: l => by rw [hv, nv_cons, nv_cons, hv_nv l, vl]; omega
theorem hv_app : ∀ l m : List Nat, hv (l ++ m) = hv l ++ hv m
  | [], _ => rfl
  | x :: l, m => by simp [hv, hv_app l m]
theorem hv_take {l : List Nat} {j : Nat} (h : j < l.length) : hv (l.take (j + 1)) = hv (l.take j) ++ [l[j] % 4294967296, l[j] / 4294967296] := by
  rw [List.take_succ_eq_append_getElem h, hv_app]; rfl
/-- A number is below 0 where its highest bit is set. -/
theorem mm_half : MM = 2 * (18446744073709551616 ^ 67 * 9223372036854775808) := by unfold MM; rw [Nat.pow_succ]
theorem top_core {a P r M : Nat} {T : Int} (hP : 0 < P) (hM : M = 2 * (P * 9223372036854775808)) (h : 2 * T.natAbs < M) (hv : ((r + P * a : Nat) : Int) = T % (M : Int)) (hlt : r < P) (hw : a < 18446744073709551616) : a / 9223372036854775808 = if T < 0 then 1 else 0 := by
  obtain ⟨H, hH⟩ : ∃ H, H = P * 9223372036854775808 := ⟨_, rfl⟩
  rw [← hH] at hM
  split
  · rename_i hneg
    have e : T % (M : Int) = T + (M : Int) := by
      rw [← Int.add_emod_right]
      exact Int.emod_eq_of_lt (by omega) (by omega)
    rw [e] at hv
    have hge : 9223372036854775808 ≤ a := by
      refine Nat.le_of_not_lt fun hlt2 => ?_
      have : P * a + P ≤ P * 9223372036854775808 := by
        have := Nat.mul_le_mul_left P (show a + 1 ≤ 9223372036854775808 by omega)
        rwa [Nat.mul_add, Nat.mul_one] at this
      omega
    omega
  · rename_i hnn
    have e : T % (M : Int) = T := Int.emod_eq_of_lt (by omega) (by omega)
    rw [e] at hv
    have hlt2 : a < 9223372036854775808 := by
      refine Nat.lt_of_not_le fun hge => ?_
      have := Nat.mul_le_mul_left P hge
      omega
    omega
theorem take67 {l : List Nat} (hl : l.length = 68) (h6 : W6 l) : ∃ a r, l[67]? = some a ∧ vl (l.drop 67) = a ∧ vl l = r + 18446744073709551616 ^ 67 * a ∧ r < 18446744073709551616 ^ 67 ∧ a < 18446744073709551616 := by
  have hs := vl_take_succ (l := l) (k := 67) (by omega)
  rw [List.take_of_length_le (by omega)] at hs
  refine ⟨l[67], vl (l.take 67), List.getElem?_eq_getElem _, ?_, hs, ?_, h6.get _⟩
  · rw [List.drop_eq_getElem_cons (by omega), List.drop_of_length_le (by omega), vl, vl, Nat.mul_zero, Nat.add_zero]
  · have := vl_lt (l := l.take 67) (fun x hx => h6 x (List.mem_of_mem_take hx))
    rwa [List.length_take, show min 67 l.length = 67 by omega] at this
theorem top_bit {T : Int} (h : 2 * T.natAbs < MM) : ((sw T)[67]? = some (vl ((sw T).drop 67))) ∧ (vl ((sw T).drop 67) / 9223372036854775808 = if T < 0 then 1 else 0) ∧ vl ((sw T).drop 67) < 18446744073709551616 := by
  obtain ⟨a, r, h1, h2, h3, h4, h5⟩ := take67 (sw_len T) (sw_w6 T)
  have hv := vl_sw T
  rw [h3] at hv
  rw [h2]
  exact ⟨h1, top_core (Nat.pow_pos (by decide)) mm_half h hv h4 h5, h5⟩
/-- The words of a number that is not below 0. -/
theorem vl_pos {T : Int} (h : 2 * T.natAbs < MM) (h0 : 0 ≤ T) : vl (sw T) = T.natAbs := by
  have h1 := vl_sw T
  rw [Int.emod_eq_of_lt h0 (by omega)] at h1
  omega
theorem sw_zero {T : Int} (h : 2 * T.natAbs < MM) : sw T = List.replicate 68 0 ↔ T = 0 := by
  have hz := sw_nil
  constructor
  · intro he
    have h1 := vl_sw T
    rw [he, ← hz] at h1
    have h2 := vl_sw 0
    rw [h2] at h1
    have h3 := MM_pos
    have h4 := Int.emod_emod_of_dvd
    rw [Int.zero_emod] at h1
    have h5 := Int.dvd_of_emod_eq_zero h1.symm
    obtain ⟨k, hk⟩ := h5
    rcases Int.lt_trichotomy k 0 with h6 | h6 | h6
    · have := Int.mul_le_mul_of_nonneg_left (show k ≤ -1 by omega) (show (0 : Int) ≤ MM by omega)
      omega
    · rw [hk, h6, Int.mul_zero]
    · have := Int.mul_le_mul_of_nonneg_left (show 1 ≤ k by omega) (show (0 : Int) ≤ MM by omega)
      omega
  · rintro rfl; exact hz

section
variable {w0 w : World} {L : List Bx} {W : List Sw} {g : Nat}
set_option maxHeartbeats 4000000 in
theorem tsize_any (S : Sm) (hT : 2 * S.T.natAbs < MM) (hOld : Own w0 (⟨g, 55, S.cs⟩ :: L) W w) :
    Calls Tryz.prog 65 #[.pointer (some ⟨g, 0, none⟩)] w fun e w' => ∃ A n c, e = .returned (.tuple #[.bool (decide (S.T < 0)), .slice A n c]) ∧ Wds w' A n c (nd S.T.natAbs) ∧ Ext w w' := by
  unfold Sm.cs at hOld
  obtain ⟨T, p, m, b, t⟩ := S
  simp only at hOld hT ⊢
  have HLO := Lib.hid (sw_len T)
  obtain ⟨htop, hbit, hb64⟩ := top_bit hT
  have hc67 : (sc (sw T) p m b t)[67]? = some (.int .u64 ((vl ((sw T).drop 67) : Nat) : Int)) := by
    obtain ⟨h1, h2⟩ := List.getElem?_eq_some_iff.1 htop
    rw [sc_word h1, h2]
  generalize vl ((sw T).drop 67) = top at *
  have HC67 := Lib.hid hc67
  have HBIT := Lib.hid hbit
  clear hc67 htop hbit
  have hO := Own.start w
  by_cases hneg : T < 0
  · have e1 : (top : Int) / 9223372036854775808 = 1 := by have := HBIT.out; rw [if_pos hneg] at this; omega
    have HNG : Hid (∀ (g : Nat) (w1 : World), Own w [⟨g, 55, sc (sw T) p m b t⟩] [] w1 → Calls Tryz.prog 26 #[.pointer (some ⟨g, 0, none⟩)] w1 fun e w' => e = .returned (.tuple #[]) ∧ Own w [⟨g, 55, sc (sw (-T)) m p b t⟩] [] w') := Lib.hid (fun g w1 h => tneg_any (w0 := w) (w := w1) (L := []) (W := []) (g := g) ⟨T, p, m, b, t⟩ h)
    have hA : vl (sw (-T)) = T.natAbs := by rw [vl_pos (T := -T) (by omega) (by omega)]; omega
    have HA := Lib.hid hA
    have HLA := Lib.hid (sw_len (-T))
    have HD : Hid (decide (T < 0) = true) := Lib.hid (decide_eq_true hneg)
    clear hA hT hneg HBIT
    go_enter Tryz.func65, Tryz.ntmps65
    go_wp2_with (first | ((with_reducible refine at_load (T := 55) ?_); refine own_load (T := 55) hOld 0 rfl rfl agg_sum size_sum (by rw [sc_len HLO.out]; rfl) (vs := sc (sw T) p m b t) (by rw [List.drop_zero, List.take_of_length_le (by rw [sc_len HLO.out]; omega)]) ?_) | ((with_reducible refine at_alloc (T := 55) ?_); refine own_alloc hO zero_sum rfl sc_noU ?_; clear hO; intro gt wa hO) | ((with_reducible refine at_store (T := 55) ?_); refine own_store (vs := sc (sw T) p m b t) (T := 55) hO 0 rfl rfl rfl (fun w => by rw [sc_len HLO.out]; exact size_sum w) (sc_one _ _ _ _ _) sc_noU (by rw [sc_len HLO.out]; rfl) ?_; clear hO; intro wb hO; simp only [List.set_cons_zero, spl_zsum (sc_len HLO.out)] at hO; have hc67 := (hO.cell 0 rfl 67).trans HC67.out) | (go_at_call 26; (with_reducible refine (HNG.out _ _ hO).mono ?_); rintro e w1 ⟨rfl, hO1⟩; clear hO; have hO := hO1; clear hO1) | ((with_reducible refine at_load (T := 53) ?_); refine own_load (T := 53) hO 0 rfl rfl agg_a68 size_a68 (by rw [sc_len HLA.out]; rfl) (vs := u64s (sw (-T))) (sc_words HLA.out) ?_))
    obtain ⟨i0, hi0, hz0, hz1, hz2⟩ := info_parts info_u32
    clear hi0 hz0 hz1 hz2
    have hb0 := hO.toExt
    go_loopw [6, 21] (fun v kv wr => ∃ j : Nat, kv = .int .i64 (j : Int) ∧ j ≤ 68 ∧ wr.ownsRow w.heap.size 104 1 v (2 * j) (u32s (hv ((sw (-T)).take j))) ∧ Ext w wr) (fun _ kv _ => 68 - (intOf kv).toNat)
    case atStart => exact ⟨0, rfl, by omega, World.ownsRow_nil _ _ _ _, hb0⟩
    case round =>
      obtain ⟨j, rfl, hj68, hown, hb⟩ := hrel
      clear hb0
      by_cases hlt : j < 68
      · have hjo : j < (sw (-T)).length := by rw [HLA.out]; exact hlt
        have hidx := run_idx68 (ws := sw (-T)) hlt (List.getElem?_eq_getElem hjo)
        have hx64 := (sw_w6 (-T)).get hjo
        have HT := Lib.hid (hv_take hjo)
        obtain ⟨x, hx⟩ : ∃ x, x = (sw (-T))[j] := ⟨_, rfl⟩
        rw [← hx] at hidx hx64 HT
        obtain ⟨lo, hlo⟩ : ∃ lo, lo = x % 4294967296 := ⟨_, rfl⟩
        obtain ⟨hi, hhi⟩ : ∃ hi, hi = x / 4294967296 := ⟨_, rfl⟩
        rw [← hlo, ← hhi] at HT
        have f1 : (x : Int) % 4294967296 = (lo : Int) := by omega
        have f2 : (x : Int) / 4294967296 = (hi : Int) := by omega
        have f3 : (hi : Int) % 4294967296 = (hi : Int) := by omega
        have bp0 : (0 : Int) ≤ (j : Int) := by omega
        have bp1 : (j : Int) < 68 := by omega
        have d0 : decide ((j : Int) < 68) = true := decide_eq_true (by omega)
        clear hx hlo hhi hjo
        go_wp2_with (at_builtin; refine wp_appRow rfl (.tmp 24) (.tmp 30) rfl rfl (hown.alloc _) (hb.alloc _) rfl (Row.new wr [lo, hi]) rfl (by omega) ?_; intro v' w1 hown' hE')
        go_roundw
        case rel => exact ⟨j + 1, by go_num, by omega, by rw [HT.out]; exact hown', hE'⟩
        case measure => simp [intOf]; omega
      · have hje : j = 68 := by omega
        subst hje
        rw [vl_take_all (sw_len (-T))] at hown
        obtain ⟨A1, c1, rfl, hW⟩ := Wds.of_own hown (hv_ws (sw_w6 (-T)))
        have HNM := Lib.hid (fun h => nnorm_ret A1 (2 * 68) c1 (hv (sw (-T))) wr h (by omega))
        have HWD := Lib.hid hW
        clear hown hlt hj68 hW
        go_wp2_with (go_at_call 89; refine (HNM.out HWD.out).mono ?_; rintro e w1 ⟨A2, n2, c2, rfl, hW2, hE2⟩)
        go_ret2
        rw [hv_nv, HA.out] at hW2
        rw [HD.out]
        exact ⟨A2, n2, c2, rfl, hW2, hb.trans hE2⟩
  · have e1 : (top : Int) / 9223372036854775808 = 0 := by have := HBIT.out; rw [if_neg hneg] at this; omega
    have hA : vl (sw (T)) = T.natAbs := by exact vl_pos hT (by omega)
    have HA := Lib.hid hA
    have HLA := Lib.hid (sw_len (T))
    have HD : Hid (decide (T < 0) = false) := Lib.hid (decide_eq_false hneg)
    clear hA hT hneg HBIT
    go_enter Tryz.func65, Tryz.ntmps65
    go_wp2_with (first | ((with_reducible refine at_load (T := 55) ?_); refine own_load (T := 55) hOld 0 rfl rfl agg_sum size_sum (by rw [sc_len HLO.out]; rfl) (vs := sc (sw T) p m b t) (by rw [List.drop_zero, List.take_of_length_le (by rw [sc_len HLO.out]; omega)]) ?_) | ((with_reducible refine at_alloc (T := 55) ?_); refine own_alloc hO zero_sum rfl sc_noU ?_; clear hO; intro gt wa hO) | ((with_reducible refine at_store (T := 55) ?_); refine own_store (vs := sc (sw T) p m b t) (T := 55) hO 0 rfl rfl rfl (fun w => by rw [sc_len HLO.out]; exact size_sum w) (sc_one _ _ _ _ _) sc_noU (by rw [sc_len HLO.out]; rfl) ?_; clear hO; intro wb hO; simp only [List.set_cons_zero, spl_zsum (sc_len HLO.out)] at hO; have hc67 := (hO.cell 0 rfl 67).trans HC67.out) | ((with_reducible refine at_load (T := 53) ?_); refine own_load (T := 53) hO 0 rfl rfl agg_a68 size_a68 (by rw [sc_len HLO.out]; rfl) (vs := u64s (sw T)) (sc_words HLO.out) ?_))
    obtain ⟨i0, hi0, hz0, hz1, hz2⟩ := info_parts info_u32
    clear hi0 hz0 hz1 hz2
    have hb0 := hO.toExt
    go_loopw [6, 21] (fun v kv wr => ∃ j : Nat, kv = .int .i64 (j : Int) ∧ j ≤ 68 ∧ wr.ownsRow w.heap.size 104 1 v (2 * j) (u32s (hv ((sw (T)).take j))) ∧ Ext w wr) (fun _ kv _ => 68 - (intOf kv).toNat)
    case atStart => exact ⟨0, rfl, by omega, World.ownsRow_nil _ _ _ _, hb0⟩
    case round =>
      obtain ⟨j, rfl, hj68, hown, hb⟩ := hrel
      clear hb0
      by_cases hlt : j < 68
      · have hjo : j < (sw (T)).length := by rw [HLA.out]; exact hlt
        have hidx := run_idx68 (ws := sw (T)) hlt (List.getElem?_eq_getElem hjo)
        have hx64 := (sw_w6 (T)).get hjo
        have HT := Lib.hid (hv_take hjo)
        obtain ⟨x, hx⟩ : ∃ x, x = (sw (T))[j] := ⟨_, rfl⟩
        rw [← hx] at hidx hx64 HT
        obtain ⟨lo, hlo⟩ : ∃ lo, lo = x % 4294967296 := ⟨_, rfl⟩
        obtain ⟨hi, hhi⟩ : ∃ hi, hi = x / 4294967296 := ⟨_, rfl⟩
        rw [← hlo, ← hhi] at HT
        have f1 : (x : Int) % 4294967296 = (lo : Int) := by omega
        have f2 : (x : Int) / 4294967296 = (hi : Int) := by omega
        have f3 : (hi : Int) % 4294967296 = (hi : Int) := by omega
        have bp0 : (0 : Int) ≤ (j : Int) := by omega
        have bp1 : (j : Int) < 68 := by omega
        have d0 : decide ((j : Int) < 68) = true := decide_eq_true (by omega)
        clear hx hlo hhi hjo
        go_wp2_with (at_builtin; refine wp_appRow rfl (.tmp 24) (.tmp 30) rfl rfl (hown.alloc _) (hb.alloc _) rfl (Row.new wr [lo, hi]) rfl (by omega) ?_; intro v' w1 hown' hE')
        go_roundw
        case rel => exact ⟨j + 1, by go_num, by omega, by rw [HT.out]; exact hown', hE'⟩
        case measure => simp [intOf]; omega
      · have hje : j = 68 := by omega
        subst hje
        rw [vl_take_all (sw_len (T))] at hown
        obtain ⟨A1, c1, rfl, hW⟩ := Wds.of_own hown (hv_ws (sw_w6 (T)))
        have HNM := Lib.hid (fun h => nnorm_ret A1 (2 * 68) c1 (hv (sw (T))) wr h (by omega))
        have HWD := Lib.hid hW
        clear hown hlt hj68 hW
        go_wp2_with (go_at_call 89; refine (HNM.out HWD.out).mono ?_; rintro e w1 ⟨A2, n2, c2, rfl, hW2, hE2⟩)
        go_ret2
        rw [hv_nv, HA.out] at hW2
        rw [HD.out]
        exact ⟨A2, n2, c2, rfl, hW2, hb.trans hE2⟩
end
end Go.Proofs.YtfbjeifhpmdjaaaGreat
