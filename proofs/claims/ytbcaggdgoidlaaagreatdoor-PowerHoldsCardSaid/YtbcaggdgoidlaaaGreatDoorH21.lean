/-
 The contract of the program's Ratio, of all naturals. Conditions: those that the theorem names.
-/
import Derived.Test.YtbcaggdgoidlaaaGreatDoorH20
import Derived.Test.YtbcaggdgoidlaaaGreatDoorH12
import Derived.Test.YtbcaggdgoidlaaaGreatDoorH13
namespace Go.Proofs.YtbcaggdgoidlaaaGreatDoor
open Go.RowKit Nm Rn
set_option maxRecDepth 100000
set_option linter.unusedVariables false
set_option linter.unusedSimpArgs false
theorem nw_of_big {V : Nat} (h : 524288 < bl V) : 16384 < nw V := by
 have := bl_le_nw V
 omega
theorem cn_inf (s : Bool) : cn (infP s) = infP s := cn_num (by cases s <;> decide)
set_option maxHeartbeats 8000000 in
theorem pratio_any (d : Int) (neg : Bool) (A : Option Addr) (n c : Nat) (xs : List Nat) (B : Option Addr) (m dd : Nat) (ys : List Nat) (exp : Int) (w : World) (h : Wds w A n c xs) (hn : n ≤ 8796093022208) (k : Wds w B m dd ys) (hm : m ≤ 8796093022208) :
   Calls Tryz.prog 85 #[.int .i64 d, .bool neg, .slice A n c, .slice B m dd, .int .i64 exp] w (RetFl (ratR d neg (nv xs) (nv ys) exp) w) := by
 have HL1 := Lib.hid (fun w h => nlen_any A n c xs w h (by omega))
 have HL2 := Lib.hid (fun w h => nlen_any B m dd ys w h (by omega))
 have HH := Lib.hid (fun w => hold_any exp w)
 have hSH := fun s w h h0 hs => nshl_any A n c xs s w h (by omega) h0 hs
 have hSL := fun s w h h0 h1 hsb hs => nshl_long A n c xs s w h (by omega) h0 h1 hsb hs
 have hQ := fun (A1 : Option Addr) (n1 c1 : Nat) (s : Nat) (w : World) (h : Wds w A1 n1 c1 (nd s)) (k : Wds w B m dd ys) (hs : nw s ≤ 16384) (hd : nw (nv ys) ≤ 16384) (h0 : nv ys ≠ 0) => nquo_any A1 n1 c1 (nd s) B m dd ys w h (by have := h.len; rw [nd_length] at this; omega) k hm (by rw [nv_nd]; exact hs) hd h0
 have hLG := fun e w h k h1 h2 h3 h4 e1 e2 => rlong_any d neg A n c xs B m dd ys e w h hn k hm h1 h2 h3 h4 e1 e2
 simp only [nv_nd] at hQ
 obtain ⟨V, hV⟩ : ∃ V, V = nv xs := ⟨_, rfl⟩
 obtain ⟨D, hD⟩ : ∃ D, D = nv ys := ⟨_, rfl⟩
 rw [← hV] at HL1 hSH hSL hLG ⊢
 rw [← hD] at HL2 hQ hLG ⊢
 clear hV hD
 obtain ⟨bV, hbV⟩ : ∃ b, b = bl V := ⟨_, rfl⟩
 obtain ⟨bD, hbD⟩ : ∃ b, b = bl D := ⟨_, rfl⟩
 rw [← hbV] at HL1
 rw [← hbD] at HL2
 by_cases cV : 524288 < bV
 · have HF : Hid (ratR d neg V D exp = NaNc) := Lib.hid (by unfold ratR; rw [if_pos (.inl (nw_of_big (by omega)))])
   have hca : decide ((524288 : Int) < (bV : Int)) = true := decide_eq_true (by omega)
   clear hSH hSL hQ hLG hbV hbD cV
   go_enter Tryz.func85, Tryz.ntmps85
   go_wp2_with (first | (go_at_call 99; (first | (with_reducible refine (HL1.out _ h).mono ?_) | (with_reducible refine (HL2.out _ k).mono ?_)); rintro e w' ⟨rfl, rfl⟩) | (go_at_call 66; refine (mnanc_any _).mono ?_; rintro e w' ⟨rfl, rfl⟩))
   go_ret
   exact ⟨_, rfl, by rw [NaNc_val]; omega, by rw [HF.out]; rfl, Ext.refl _⟩
 have hca : decide ((524288 : Int) < (bV : Int)) = false := decide_eq_false (by omega)
 by_cases cD : 524288 < bD
 · have HF : Hid (ratR d neg V D exp = NaNc) := Lib.hid (by unfold ratR; rw [if_pos (.inr (nw_of_big (by omega)))])
   have hcb : decide ((524288 : Int) < (bD : Int)) = true := decide_eq_true (by omega)
   clear hSH hSL hQ hLG hbV hbD cD cV
   go_enter Tryz.func85, Tryz.ntmps85
   go_wp2_with (first | (go_at_call 99; (first | (with_reducible refine (HL1.out _ h).mono ?_) | (with_reducible refine (HL2.out _ k).mono ?_)); rintro e w' ⟨rfl, rfl⟩) | (go_at_call 66; refine (mnanc_any _).mono ?_; rintro e w' ⟨rfl, rfl⟩))
   go_ret
   exact ⟨_, rfl, by rw [NaNc_val]; omega, by rw [HF.out]; rfl, Ext.refl _⟩
 have hcb : decide ((524288 : Int) < (bD : Int)) = false := decide_eq_false (by omega)
 have hVn : nw V ≤ 16384 := nw_of_bl (by omega)
 have hDn : nw D ≤ 16384 := nw_of_bl (by omega)
 by_cases hD0 : D = 0
 · have hbz : bD = 0 := by rw [hbD, hD0]; rfl
   subst hbz
   by_cases hV0 : V = 0
   · have HF : Hid (ratR d neg V D exp = NaNc) := Lib.hid (by unfold ratR; rw [if_neg (by omega), if_pos hD0, if_pos hV0])
     have hbz : bV = 0 := by rw [hbV, hV0]; rfl
     subst hbz
     clear hSH hSL hQ hLG hbV hbD cD cV hca hcb hV0 hD0
     go_enter Tryz.func85, Tryz.ntmps85
     go_wp2_with (first | (go_at_call 99; (first | (with_reducible refine (HL1.out _ h).mono ?_) | (with_reducible refine (HL2.out _ k).mono ?_)); rintro e w' ⟨rfl, rfl⟩) | (go_at_call 66; refine (mnanc_any _).mono ?_; rintro e w' ⟨rfl, rfl⟩))
     go_ret
     exact ⟨_, rfl, by rw [NaNc_val]; omega, by rw [HF.out]; rfl, Ext.refl _⟩
   · have HF : Hid (ratR d neg V D exp = infP neg) := Lib.hid (by unfold ratR; rw [if_neg (by omega), if_pos hD0, if_neg hV0])
     have hbp : 1 ≤ bV := by rw [hbV]; exact bl_pos hV0
     have hcz : ((bV : Int) == 0) = false := by rw [beq_eq_false_iff_ne]; omega
     clear hSH hSL hQ hLG hbV hbD cD cV hcb hV0 hD0
     cases neg
     · go_enter Tryz.func85, Tryz.ntmps85
       go_wp2_with (first | (go_at_call 99; (first | (with_reducible refine (HL1.out _ h).mono ?_) | (with_reducible refine (HL2.out _ k).mono ?_)); rintro e w' ⟨rfl, rfl⟩) | (go_at_call 40; refine (inf_p _).mono ?_; rintro e w' ⟨rfl, rfl⟩))
       go_ret
       exact ⟨_, rfl, infR_lt, by rw [HF.out]; exact cn_inf false, Ext.refl _⟩
     · go_enter Tryz.func85, Tryz.ntmps85
       go_wp2_with (first | (go_at_call 99; (first | (with_reducible refine (HL1.out _ h).mono ?_) | (with_reducible refine (HL2.out _ k).mono ?_)); rintro e w' ⟨rfl, rfl⟩) | (go_at_call 40; refine (inf_m _).mono ?_; rintro e w' ⟨rfl, rfl⟩))
       go_ret
       exact ⟨_, rfl, minf_lt, by rw [HF.out]; exact cn_inf true, Ext.refl _⟩
 have hbDp : 1 ≤ bD := by rw [hbD]; exact bl_pos hD0
 have hcz : ((bD : Int) == 0) = false := by rw [beq_eq_false_iff_ne]; omega
 by_cases hV0 : V = 0
 · have hbz : bV = 0 := by rw [hbV, hV0]; rfl
   have HF : Hid (ratR d neg V D exp = 0) := Lib.hid (by rw [hV0]; exact rat_zero d neg hD0 (by omega))
   subst hbz
   clear hSH hSL hQ hLG hbV hbD cD cV hca hV0 hD0
   go_enter Tryz.func85, Tryz.ntmps85
   go_wp2_with (first | (go_at_call 99; (first | (with_reducible refine (HL1.out _ h).mono ?_) | (with_reducible refine (HL2.out _ k).mono ?_)); rintro e w' ⟨rfl, rfl⟩))
   go_ret
   exact ⟨_, rfl, by omega, by rw [HF.out]; rfl, Ext.refl _⟩
 have hbVp : 1 ≤ bV := by rw [hbV]; exact bl_pos hV0
 have hcy : ((bV : Int) == 0) = false := by rw [beq_eq_false_iff_ne]; omega
 obtain ⟨H, hH⟩ : ∃ H, H = holdZ exp := ⟨_, rfl⟩
 have hH1 : -1099511627776 ≤ H ∧ H ≤ 1099511627776 := by rw [hH]; unfold holdZ; omega
 rw [← hH] at HH
 by_cases ht : (bV : Int) - bD + H < -1100
 · have hRT := rat_tiny d neg (e := exp) hV0 hD0 (by omega) (by omega) (by rw [← hbV, ← hbD, ← hH]; exact ht)
   have HNUM := Lib.hid (rat_num d neg hRT)
   have hOF := fun w => of_any d neg (some ⟨w.heap.size, 0, none⟩) 1 1 [1] (-1200) false (w.alloc (.cells #[.int .u32 1] 61)) (one_list w 0) (by omega) (by rw [show nv [1] = 1 from rfl, show nw 1 = 1 from rfl]; omega) (by omega) (by omega) (by intro h; cases h)
   simp only [Bool.toNat_false, Nat.add_zero, show nv [1] = 1 from rfl] at hOF
   rw [hRT] at hOF
   have HOF := Lib.hid hOF
   have HE0 : Hid (Ext w (w.alloc (.cells #[.int .u32 1] 61))) := Lib.hid ((Ext.refl w).alloc _)
   generalize ratR d neg V D exp = R at HOF HNUM ⊢
   clear hSH hSL hQ hLG hbV hbD hV0 hD0 hRT hOF hH
   go_enter Tryz.func85, Tryz.ntmps85
   go_wp2_with (first | (go_at_call 99; (first | (with_reducible refine (HL1.out _ h).mono ?_) | (with_reducible refine (HL2.out _ k).mono ?_)); rintro e w' ⟨rfl, rfl⟩) | (go_at_call 102; refine (HH.out _).mono ?_; rintro e w' ⟨rfl, rfl⟩))
   refine (HOF.out _).mono ?_
   rintro e w1 ⟨rfl, hE⟩
   go_wp2
   go_ret
   exact ⟨_, rfl, HNUM.out.1, HNUM.out.2, HE0.out.trans hE⟩
 have hFIN := fun (kk : Nat) hb => rat_fin d neg (k := kk) (e := exp) hV0 hD0 (by omega) (by omega) (by rw [← hbV, ← hbD, ← hH]; omega) hb
 rw [← hH] at hFIN
 have hLG1 := fun w h k => hLG H w h k hV0 hD0 (by omega) (by omega) hH1.1 hH1.2
 clear hLG
 have HLG : Hid (∀ w, Wds w A n c xs → Wds w B m dd ys → Calls Tryz.prog 106 #[.int .i64 d, .bool neg, .slice A n c, .slice B m dd, .int .i64 H] w (RetFl (ratR d neg V D exp) w)) := Lib.hid fun w h k => (hLG1 w h k).mono (by
   rintro e w' ⟨kk, rfl, hb, hE⟩
   have hf := hFIN kk hb
   have hnum := rat_num d neg hf
   exact ⟨_, rfl, by rw [hf]; exact hnum.1, by rw [hf]; exact hnum.2, hE⟩)
 clear hLG1
 by_cases c57 : 57 + (bD : Int) - (bV : Int) ≤ 0
 · generalize ratR d neg V D exp = R at HLG ⊢
   clear hSH hSL hQ hbV hbD hV0 hD0 hFIN hH
   go_enter Tryz.func85, Tryz.ntmps85
   go_wp2_with (first | (go_at_call 99; (first | (with_reducible refine (HL1.out _ h).mono ?_) | (with_reducible refine (HL2.out _ k).mono ?_)); rintro e w' ⟨rfl, rfl⟩) | (go_at_call 102; refine (HH.out _).mono ?_; rintro e w' ⟨rfl, rfl⟩))
   refine (HLG.out _ h k).mono ?_
   rintro e w1 ⟨r, rfl, hr, hc, hE⟩
   go_wp2
   go_ret
   exact ⟨_, rfl, hr, hc, hE⟩
 obtain ⟨kk, hkk⟩ : ∃ kk, kk = 57 + bD - bV := ⟨_, rfl⟩
 have hke : 57 + (bD : Int) - (bV : Int) = (kk : Int) := by omega
 have hkp : 1 ≤ kk := by omega
 by_cases cS : bV + kk ≤ 524288
 · have hmain := ((same_frac (N := V) H hD0).main (k := kk) (by rw [← hbV, ← hbD]; omega) hV0 d neg).2
   have hfin := hFIN kk (fun _ => hmain)
   have HNUM := Lib.hid (rat_num d neg hfin)
   have HSH := Lib.hid (fun w h => hSH kk w h hV0 (by rw [← hbV]; omega))
   obtain ⟨s, hs⟩ : ∃ s, s = V * 2 ^ kk := ⟨_, rfl⟩
   rw [← hs] at hmain HSH hfin
   have hsb : bl s = bV + kk := by rw [hs, bl_mul_pow kk hV0, ← hbV]
   have hnws : nw s ≤ 16384 := nw_of_bl (by rw [hsb]; omega)
   have HQ := Lib.hid (fun A1 n1 c1 w h k => hQ A1 n1 c1 s w h k hnws hDn hD0)
   obtain ⟨Q, hQe⟩ : ∃ Q, Q = s / D := ⟨_, rfl⟩
   obtain ⟨R, hR⟩ : ∃ R, R = s % D := ⟨_, rfl⟩
   rw [← hQe, ← hR] at HQ hfin
   rw [← hQe] at hmain
   have hnwQ : nw Q ≤ 16384 := Nat.le_trans (nw_mono (by rw [hQe]; exact Nat.div_le_self _ _)) hnws
   have HOF := Lib.hid (fun (A1 : Option Addr) (n1 c1 : Nat) (w : World) (h : Wds w A1 n1 c1 (nd Q)) => of_any d neg A1 n1 c1 (nd Q) (H - kk) (decide (R ≠ 0)) w h (by have := h.len; rw [nd_length] at this; omega) (by rw [nv_nd]; exact hnwQ) (by omega) (by omega) (fun _ => by rw [nv_nd]; exact hmain))
   simp only [nv_nd] at HOF
   rw [hfin] at HOF
   generalize ratR d neg V D exp = Z at HOF HNUM ⊢
   clear hSH hSL hQ hFIN HLG hbV hbD hmain hs hsb hnws hQe hR hnwQ hV0 hD0 hkk cS hfin hH
   by_cases hR0 : R = 0
   · subst hR0
     go_enter Tryz.func85, Tryz.ntmps85
     go_wp2_with (first | (go_at_call 99; (first | (with_reducible refine (HL1.out _ h).mono ?_) | (with_reducible refine (HL2.out _ k).mono ?_)); rintro e w' ⟨rfl, rfl⟩) | (go_at_call 102; refine (HH.out _).mono ?_; rintro e w' ⟨rfl, rfl⟩))
     refine (HSH.out _ h).mono ?_
     rintro e w1 ⟨A1, n1, c1, rfl, hW1, hE1⟩
     go_wp2_with fail
     refine (HQ.out _ _ _ _ hW1 (k.ext hE1)).mono ?_
     rintro e w2 ⟨A2, n2, c2, A3, n3, c3, rfl, hW2, hW3, hE2⟩
     have hn3 : n3 = 0 := by have := hW3.len; rw [nd_length, nw_zero] at this; omega
     subst hn3
     go_wp2_with fail
     refine (HOF.out _ _ _ _ hW2).mono ?_
     rintro e w3 ⟨rfl, hE3⟩
     go_wp2
     go_ret
     exact ⟨_, rfl, HNUM.out.1, HNUM.out.2, hE1.trans (hE2.trans hE3)⟩
   · have hdR : decide (R ≠ 0) = true := decide_eq_true hR0
     rw [hdR] at HOF
     have HR0 := Lib.hid hR0
     clear hR0 hdR
     go_enter Tryz.func85, Tryz.ntmps85
     go_wp2_with (first | (go_at_call 99; (first | (with_reducible refine (HL1.out _ h).mono ?_) | (with_reducible refine (HL2.out _ k).mono ?_)); rintro e w' ⟨rfl, rfl⟩) | (go_at_call 102; refine (HH.out _).mono ?_; rintro e w' ⟨rfl, rfl⟩))
     refine (HSH.out _ h).mono ?_
     rintro e w1 ⟨A1, n1, c1, rfl, hW1, hE1⟩
     go_wp2_with fail
     refine (HQ.out _ _ _ _ hW1 (k.ext hE1)).mono ?_
     rintro e w2 ⟨A2, n2, c2, A3, n3, c3, rfl, hW2, hW3, hE2⟩
     have hn3 : 0 < n3 := by
       have := hW3.len
       rw [nd_length] at this
       rcases Nat.eq_zero_or_pos n3 with e | e
       · exact absurd (nw_eq_zero.1 (by omega)) HR0.out
       · exact e
     go_wp2_with fail
     refine (HOF.out _ _ _ _ hW2).mono ?_
     rintro e w3 ⟨rfl, hE3⟩
     go_wp2
     go_ret
     exact ⟨_, rfl, HNUM.out.1, HNUM.out.2, hE1.trans (hE2.trans hE3)⟩
 · have HSL := Lib.hid (fun w h => hSL kk w h hV0 hVn (by omega) (by rw [← hbV]; omega))
   generalize ratR d neg V D exp = R at HLG ⊢
   clear hSH hSL hQ hbV hbD hV0 hD0 hFIN hH cS hkk
   go_enter Tryz.func85, Tryz.ntmps85
   go_wp2_with (first | (go_at_call 99; (first | (with_reducible refine (HL1.out _ h).mono ?_) | (with_reducible refine (HL2.out _ k).mono ?_)); rintro e w' ⟨rfl, rfl⟩) | (go_at_call 102; refine (HH.out _).mono ?_; rintro e w' ⟨rfl, rfl⟩))
   refine (HSL.out _ h).mono ?_
   rintro e w1 ⟨A1, n1, c1, rfl, hW1, hE1⟩
   go_wp2_with fail
   refine (HLG.out _ (h.ext hE1) (k.ext hE1)).mono ?_
   rintro e w1 ⟨r, rfl, hr, hc, hE⟩
   go_wp2
   go_ret
   exact ⟨_, rfl, hr, hc, hE1.trans hE⟩
end Go.Proofs.YtbcaggdgoidlaaaGreatDoor

namespace Go.Proofs.YtbcaggdgoidlaaaGreatDoor
open Go.RowKit Nm
set_option maxRecDepth 100000
set_option linter.unusedVariables false
set_option linter.unusedSimpArgs false
theorem nd_one_p : nd 1 = [1] := by rw [nd_pos (by omega)]; simp [nd_zero]
theorem unit_list (w : World) : Wds (w.alloc (.cells #[.int .u32 1] 61)) (some ⟨w.heap.size, 0, none⟩) 1 1 (nd 1) := by
 rw [nd_one_p]
 refine ⟨rfl, by omega, by unfold maxLen; omega, by intro x hx; simp at hx; omega, fun _ => ⟨_, rfl, by simp, fun k x hk => ?_⟩⟩
 match k, hk with
 | 0, hk => simp at hk; subst hk; simp [Addr.add]
 | k + 1, hk => simp at hk
structure PowRel (V N M p x n : Nat) : Prop where
 val : p * x ^ n = V ^ N
 lep : p * (x + 1) ^ n ≤ M
 lex : (x + 1) ^ n ≤ M
theorem PowRel.start (V N : Nat) : PowRel V N ((V + 1) ^ N) 1 V N := ⟨by rw [Nat.one_mul], by rw [Nat.one_mul]; exact Nat.le_refl _, Nat.le_refl _⟩
theorem sq_succ (x : Nat) : x * x + 1 ≤ (x + 1) ^ 2 := by
 rw [Nat.pow_succ, Nat.pow_one, Nat.add_mul, Nat.mul_add, Nat.one_mul]; omega
theorem PowRel.even {V N M p x m : Nat} (h : PowRel V N M p x (2 * m)) : PowRel V N M p (x * x) m := by
 have e : (x * x) ^ m = x ^ (2 * m) := by rw [Nat.pow_mul, Nat.pow_succ, Nat.pow_one]
 have l : (x * x + 1) ^ m ≤ (x + 1) ^ (2 * m) := by rw [Nat.pow_mul]; exact Nat.pow_le_pow_left (sq_succ x) m
 exact ⟨by rw [e]; exact h.val, Nat.le_trans (Nat.mul_le_mul_left p l) h.lep, Nat.le_trans l h.lex⟩
theorem PowRel.odd0 {V N M p x m : Nat} (h : PowRel V N M p x (2 * m + 1)) : PowRel V N M (p * x) x (2 * m) := by
 have hp : 0 < (x + 1) ^ (2 * m) := Nat.pow_pos (by omega)
 refine ⟨by rw [Nat.mul_assoc, ← Nat.pow_succ']; exact h.val, ?_, ?_⟩
 · refine Nat.le_trans ?_ h.lep
   rw [Nat.pow_succ', Nat.mul_assoc]
   exact Nat.mul_le_mul_left p (Nat.mul_le_mul_right _ (by omega))
 · refine Nat.le_trans ?_ h.lex
   rw [Nat.pow_succ']
   exact Nat.le_mul_of_pos_left _ (by omega)
theorem PowRel.odd {V N M p x m : Nat} (h : PowRel V N M p x (2 * m + 1)) : PowRel V N M (p * x) (x * x) m := h.odd0.even
theorem PowRel.p_le {V N M p x n : Nat} (h : PowRel V N M p x n) : p ≤ M := Nat.le_trans (Nat.le_mul_of_pos_right p (Nat.pow_pos (by omega))) h.lep
theorem PowRel.x_le {V N M p x n : Nat} (h : PowRel V N M p x n) (hn : 0 < n) : x ≤ M := by
 refine Nat.le_trans ?_ h.lex
 have := Nat.pow_le_pow_right (show 0 < x + 1 by omega) (show 1 ≤ n from hn)
 rw [Nat.pow_one] at this
 omega
theorem PowRel.done {V N M p x : Nat} (h : PowRel V N M p x 0) : p = V ^ N := by have := h.val; rwa [Nat.pow_zero, Nat.mul_one] at this
set_option maxHeartbeats 2000000 in
theorem power_any (A : Option Addr) (n c : Nat) (xs : List Nat) (N : Nat) (w : World) (h : Wds w A n c xs) (hn : n ≤ 35184372088000) (hN : N ≤ 1000000) (hM : nw ((nv xs + 1) ^ N) ≤ 1000000) :
   Calls Tryz.prog 41 #[.slice A n c, .int .i64 (N : Int)] w (RetW (nv xs ^ N) w) := by
 have HN1 := Lib.hid (fun w h => norm_any A n c xs w h hn)
 obtain ⟨V, hV⟩ : ∃ V, V = nv xs := ⟨_, rfl⟩
 rw [← hV] at HN1 hM ⊢
 obtain ⟨M, hMe⟩ : ∃ M, M = (V + 1) ^ N := ⟨_, rfl⟩
 rw [← hMe] at hM
 have HS : Hid (PowRel V N M 1 V N) := Lib.hid (by rw [hMe]; exact PowRel.start V N)
 have HM := Lib.hid hM
 have HT := Lib.hid (fun (A1 : Option Addr) (n1 c1 : Nat) (p : Nat) (A2 : Option Addr) (n2 c2 : Nat) (x : Nat) (w : World) (h1 : Wds w A1 n1 c1 (nd p)) (h2 : Wds w A2 n2 c2 (nd x)) (hp : p ≤ M) (hx : x ≤ M) => times_any A1 n1 c1 (nd p) A2 n2 c2 (nd x) w h1 (by have := h1.len; rw [nd_length] at this; have := nw_mono hp; omega) h2 (by have := h2.len; rw [nd_length] at this; have := nw_mono hx; omega))
 simp only [nv_nd] at HT
 have hU := unit_list w
 have hE0 : Ext w (w.alloc (.cells #[.int .u32 1] 61)) := (Ext.refl w).alloc _
 have h0 := h.ext hE0
 clear hV hMe hM h
 go_enter Tryz.func41, Tryz.ntmps41
 go_wp2_with fail
 generalize w.heap.size = g0 at hU ⊢
 generalize w.alloc _ = w0 at hU hE0 h0 ⊢
 refine (HN1.out _ h0).mono ?_
 rintro e w1 ⟨A1, n1, c1, rfl, hW1, hE1⟩
 have hU1 := hU.ext hE1
 have hE := hE0.trans hE1
 clear HN1 h0 hE0 hU hE1
 go_wp2
 go_loopw [1, 5, 6] (fun nv' pv xv wr => ∃ (k p x : Nat) (A1 : Option Addr) (n1 c1 : Nat) (A2 : Option Addr) (n2 c2 : Nat), k ≤ 1000000 ∧ nv' = .int .i64 (k : Int) ∧ pv = .slice A1 n1 c1 ∧ xv = .slice A2 n2 c2 ∧ Wds wr A1 n1 c1 (nd p) ∧ Wds wr A2 n2 c2 (nd x) ∧ Hid (PowRel V N M p x k) ∧ Ext w wr) (fun nv' _ _ _ => (intOf nv').toNat)
 case atStart => exact ⟨N, 1, V, _, _, _, _, _, _, hN, rfl, rfl, rfl, hU1, hW1, HS, hE⟩
 case round =>
   obtain ⟨k, p, x, A3, n3, c3, A4, n4, c4, hk, rfl, rfl, rfl, hWp, hWx, hrel, hEr⟩ := hrel
   clear hE hU1 hW1 HS
   by_cases hz : k = 0
   · subst hz
     have HD := Lib.hid hrel.out.done
     go_wp2
     go_ret
     exact ⟨_, _, _, rfl, by rw [← HD.out]; exact hWp, hEr⟩
   · have HP := Lib.hid hrel.out.p_le
     have HX := Lib.hid (hrel.out.x_le (by omega))
     rcases Nat.mod_two_eq_zero_or_one k with hpar | hpar
     · obtain ⟨m, hm⟩ : ∃ m, k = 2 * m := ⟨k / 2, by omega⟩
       have g1 : (k : Int) % 2 = 0 := by omega
       have g2 : (k : Int) / 2 = (m : Int) := by omega
       have hmp : 0 < m := by omega
       have hmk : m < k := by omega
       rw [hm] at hrel
       have HR := Lib.hid hrel.out.even
       clear hrel hpar hm
       go_wp2_with fail
       refine (HT.out _ _ _ _ _ _ _ _ _ hWx hWx HX.out HX.out).mono ?_
       rintro e w2 ⟨A5, n5, c5, rfl, hW5, hE5⟩
       go_wp2
       go_roundw
       case rel => exact ⟨m, p, x * x, _, _, _, _, _, _, by omega, rfl, rfl, rfl, hWp.ext hE5, hW5, HR, hEr.trans hE5⟩
       case measure => simp [intOf]; omega
     · obtain ⟨m, hm⟩ : ∃ m, k = 2 * m + 1 := ⟨k / 2, by omega⟩
       have g1 : (k : Int) % 2 = 1 := by omega
       have g2 : (k : Int) / 2 = (m : Int) := by omega
       have hmk : m < k := by omega
       rw [hm] at hrel
       have HR := Lib.hid hrel.out.odd
       have HR0 : m = 0 → Hid (PowRel V N M (p * x) x 0) := fun e => Lib.hid (by have := hrel.out.odd0; rwa [e] at this)
       clear hrel hpar hm
       by_cases hm0 : m = 0
       · subst hm0
         have HR1 := HR0 rfl
         go_wp2_with fail
         refine (HT.out _ _ _ _ _ _ _ _ _ hWp hWx HP.out HX.out).mono ?_
         rintro e w2 ⟨A5, n5, c5, rfl, hW5, hE5⟩
         go_wp2
         go_roundw
         case rel => exact ⟨0, p * x, x, _, _, _, _, _, _, by omega, rfl, rfl, rfl, hW5, hWx.ext hE5, HR1, hEr.trans hE5⟩
         case measure => simp [intOf]; omega
       · have hmp : 0 < m := by omega
         clear hm0 HR0
         go_wp2_with fail
         refine (HT.out _ _ _ _ _ _ _ _ _ hWp hWx HP.out HX.out).mono ?_
         rintro e w2 ⟨A5, n5, c5, rfl, hW5, hE5⟩
         have hWx2 := hWx.ext hE5
         go_wp2_with fail
         refine (HT.out _ _ _ _ _ _ _ _ _ hWx2 hWx2 HX.out HX.out).mono ?_
         rintro e w3 ⟨A6, n6, c6, rfl, hW6, hE6⟩
         go_wp2
         go_roundw
         case rel => exact ⟨m, p * x, x * x, _, _, _, _, _, _, by omega, rfl, rfl, rfl, hW5.ext hE6, hW6, HR, (hEr.trans hE5).trans hE6⟩
         case measure => simp [intOf]; omega
theorem nw_pow_le {t n b : Nat} (h : t ≤ 2 ^ b) : nw (t ^ n) ≤ b * n / 32 + 1 := by
 have h1 : t ^ n ≤ 2 ^ (b * n) := by rw [Nat.pow_mul]; exact Nat.pow_le_pow_left h n
 have h2 : nw (2 ^ (b * n)) ≤ b * n / 32 + 1 := by
   rw [nw_bl, bl_eq_of (k := b * n) (Nat.le_refl _) (Nat.pow_lt_pow_right (by omega) (by omega))]
   omega
 exact Nat.le_trans (nw_mono h1) h2
end Go.Proofs.YtbcaggdgoidlaaaGreatDoor

namespace Go.Proofs.YtbcaggdgoidlaaaGreatDoor
open Go.RowKit Nm
set_option maxRecDepth 100000
set_option linter.unusedVariables false
set_option linter.unusedSimpArgs false
theorem i64_and1 (k : Nat) (h : k < 2147483648) : bits .and .i64 (k : Int) 1 = ((k % 2 : Nat) : Int) := by
 show IntKind.i64.wrap ((BitVec.ofInt 64 (k : Int) &&& BitVec.ofInt 64 ((1 : Nat) : Int)).toNat : Nat) = _
 rw [BitVec.toNat_and, BitVec.ofInt_natCast, BitVec.ofInt_natCast, BitVec.toNat_ofNat, BitVec.toNat_ofNat, Nat.mod_eq_of_lt (by omega), Nat.mod_eq_of_lt (by omega), show (1 : Nat) = 2 ^ 1 - 1 from rfl, Nat.and_two_pow_sub_one_eq_mod, IntKind.wrap_i64]
 omega
structure PwRel (V N p x n : Nat) : Prop where
 val : p * x ^ n = V ^ N
 p1 : 1 ≤ p
 x2 : 2 ≤ x
theorem PwRel.start {V : Nat} (N : Nat) (h : 2 ≤ V) : PwRel V N 1 V N := ⟨by rw [Nat.one_mul], Nat.le_refl _, h⟩
theorem PwRel.even {V N p x m : Nat} (h : PwRel V N p x (2 * m)) : PwRel V N p (x * x) m := by
 have e : (x * x) ^ m = x ^ (2 * m) := by rw [Nat.pow_mul, Nat.pow_succ, Nat.pow_one]
 exact ⟨by rw [e]; exact h.val, h.p1, Nat.le_trans (show 2 ≤ 2 * 2 by omega) (Nat.mul_le_mul h.x2 h.x2)⟩
theorem PwRel.odd0 {V N p x m : Nat} (h : PwRel V N p x (2 * m + 1)) : PwRel V N (p * x) x (2 * m) :=
 ⟨by rw [Nat.mul_assoc, ← Nat.pow_succ']; exact h.val, Nat.le_trans (show 1 ≤ 1 * 1 by omega) (Nat.mul_le_mul h.p1 (by have := h.x2; omega)), h.x2⟩
theorem PwRel.odd {V N p x m : Nat} (h : PwRel V N p x (2 * m + 1)) : PwRel V N (p * x) (x * x) m := h.odd0.even
theorem PwRel.p_le {V N p x n : Nat} (h : PwRel V N p x n) : p ≤ V ^ N := by
 rw [← h.val]
 exact Nat.le_mul_of_pos_right p (Nat.pow_pos (by have := h.x2; omega))
theorem PwRel.x_le {V N p x n : Nat} (h : PwRel V N p x n) (hn : 0 < n) : x ≤ V ^ N := by
 rw [← h.val]
 have h1 := Nat.pow_le_pow_right (show 0 < x by have := h.x2; omega) (show 1 ≤ n from hn)
 rw [Nat.pow_one] at h1
 exact Nat.le_trans h1 (Nat.le_mul_of_pos_left _ h.p1)
theorem PwRel.done {V N p x : Nat} (h : PwRel V N p x 0) : p = V ^ N := by have := h.val; rwa [Nat.pow_zero, Nat.mul_one] at this
theorem bl_pow_le {V N : Nat} (h : N ≠ 0) : bl (V ^ N) ≤ bl V * N := by
 rw [bl_le_iff, Nat.pow_mul]
 exact Nat.pow_lt_pow_left (lt_pow_bl V) h
theorem Wds.nwe {w : World} {A : Option Addr} {n c X : Nat} (h : Wds w A n c (nd X)) : n = nw X := by have := h.len; rw [nd_length] at this; omega
theorem ncut_mul {w : World} {g n : Nat} {L : List Nat} {V : Nat} (hr : Row w g L) (hL : Ws L) (hl : L.length = n) (hv : nv L = V) (hn : n ≤ 8796093022208) :
   Calls Tryz.prog 100 #[.slice (some ⟨g, 0, none⟩) n n] w (RetW V w) := by
 rw [← hv]
 exact ncut_any _ _ _ _ _ (hr.wds hL hl (Nat.le_refl _) (by unfold maxLen; omega)) (by omega)
set_option maxHeartbeats 4000000 in
theorem npow_any (A : Option Addr) (n c : Nat) (xs : List Nat) (N : Nat) (w : World) (h : Wds w A n c xs) (hn : n ≤ 8796093022208) (hN : N ≤ 1000000) (hM : bl (nv xs) * N ≤ 524288) (hs : bl (nv xs) ≤ 524288) :
   Calls Tryz.prog 84 #[.slice A n c, .int .i64 (N : Int)] w (RetWE (nv xs ^ N) 0 w) := by
 have HN1 : Hid (∀ w, Wds w A n c xs → Calls Tryz.prog 98 #[.slice A n c] w (RetW (nv xs) w)) := Lib.hid (fun w h => by
   refine (nnorm_any A n c xs w h (by omega)).mono ?_
   rintro e w' ⟨g, m, rfl, hr, -, hm, hE⟩
   have hle : nw (nv xs) ≤ n := by have := nw_nv_le h.ws; have := h.len; omega
   exact ⟨_, _, _, rfl, hr.wds (Ws.nd _) (by rw [nd_length, hm]) (Nat.le_refl _) (by unfold maxLen; omega), hE⟩)
 have HL1 := Lib.hid (fun w h => nlen_any A n c xs w h (by omega))
 have h1 := nw_of_bl hs
 have HLG : Hid (∀ g w, w.cell? ⟨g, 0, none⟩ = some (.slice A n c) → Wds w A n c xs → Calls Tryz.prog 96 #[.slice (some ⟨g, 0, none⟩) 1 1] w fun e w' => e = .returned (.bool false) ∧ w = w') :=
   Lib.hid (fun g w a b => nlong_raw g 1 A n c xs w a b (by omega) h1)
 obtain ⟨V, hV⟩ : ∃ V, V = nv xs := ⟨_, rfl⟩
 rw [← hV] at HN1 HL1 hM hs ⊢
 have HW0 : Hid (N = 0 → V ^ N = 1) := Lib.hid (fun e => by rw [e, Nat.pow_zero])
 have HW1 : Hid (N ≠ 0 → bl V < 2 → V ^ N = V) := Lib.hid (fun e hb => by
   have : V < 2 ^ 1 := by have := lt_pow_bl V; exact Nat.lt_of_lt_of_le this (Nat.pow_le_pow_right (by omega) (by omega))
   rcases (show V = 0 ∨ V = 1 by omega) with e1 | e1
   · rw [e1, Nat.zero_pow (by omega)]
   · rw [e1, Nat.one_pow])
 have HV2 : Hid (2 ≤ bl V → 2 ≤ V) := Lib.hid (fun hb => by
   rcases Nat.lt_or_ge V 2 with h2 | h2
   · have : bl V ≤ 1 := by rw [bl_le_iff]; omega
     omega
   · exact h2)
 have HMW : Hid (N ≠ 0 → nw (V ^ N) ≤ 16384) := Lib.hid (fun e => nw_of_bl (Nat.le_trans (bl_pow_le e) hM))
 obtain ⟨bV, hbV⟩ : ∃ b, b = bl V := ⟨_, rfl⟩
 rw [← hbV] at HL1 hM HW1 HV2 hs
 obtain ⟨M, hMe⟩ : ∃ M, M = V ^ N := ⟨_, rfl⟩
 have HS : Hid (2 ≤ V → PwRel V N 1 V N) := Lib.hid (fun h => PwRel.start N h)
 have HPL : Hid (∀ p x n, PwRel V N p x n → p ≤ M) := Lib.hid (fun p x n h => by rw [hMe]; exact h.p_le)
 have HXL : Hid (∀ p x n, 0 < n → PwRel V N p x n → x ≤ M) := Lib.hid (fun p x n hn h => by rw [hMe]; exact h.x_le hn)
 have HDN : Hid (∀ p x, PwRel V N p x 0 → p = M) := Lib.hid (fun p x h => by rw [hMe]; exact h.done)
 rw [← hMe] at HW0 HW1 HMW ⊢
 have HML : Hid (∀ (A1 : Option Addr) (n1 c1 : Nat) (p : Nat) (A2 : Option Addr) (n2 c2 : Nat) (x : Nat) (w : World), nw M ≤ 16384 → Wds w A1 n1 c1 (nd p) → Wds w A2 n2 c2 (nd x) → p ≤ M → x ≤ M → Calls Tryz.prog 101 #[.slice A1 n1 c1, .slice A2 n2 c2] w fun e w' => ∃ g n L, e = .returned (.slice (some ⟨g, 0, none⟩) n n) ∧ n ≤ 100000 ∧ Row w' g L ∧ Ws L ∧ L.length = n ∧ nv L = p * x ∧ Ext w w') :=
   Lib.hid (fun A1 n1 c1 p A2 n2 c2 x w hM a b hp hx => by
     have hn1 := a.nwe
     have hn2 := b.nwe
     have hp' := nw_mono hp
     have hx' := nw_mono hx
     refine (nmul_raw A1 n1 c1 (nd p) A2 n2 c2 (nd x) w a (by omega) b (by omega)).mono ?_
     rintro e w' ⟨g, L, rfl, h1, h2, h3, h4, -, h5⟩
     rw [nv_nd, nv_nd] at h4
     exact ⟨g, _, L, rfl, by omega, h1, h2, h3, h4, h5⟩)
 have hn1 := h.alloc (.cells #[.slice A n c] 35)
 have hE0 : Ext w (w.alloc (.cells #[.slice A n c] 35)) := (Ext.refl w).alloc _
 have hcell0 : (w.alloc (.cells #[.slice A n c] 35)).cell? ⟨w.heap.size, 0, none⟩ = some (.slice A n c) := by simp
 clear hV hMe h hbV h1
 go_enter Tryz.func84, Tryz.ntmps84
 go_wp2_with fail
 generalize w.heap.size = g0 at hcell0 ⊢
 generalize w.alloc _ = w0 at hn1 hE0 hcell0 ⊢
 refine (HLG.out _ _ hcell0 hn1).mono ?_
 rintro e w' ⟨rfl, rfl⟩
 go_wp2_with fail
 refine (HN1.out _ hn1).mono ?_
 rintro e w1 ⟨A1, n1, c1, rfl, hW1, hE1⟩
 have hn2 := hn1.ext hE1
 have hE := hE0.trans hE1
 clear HN1 HLG hcell0 hE0 hE1 hn1
 go_wp2_with fail
 refine (HL1.out _ hn2).mono ?_
 rintro e w' ⟨rfl, rfl⟩
 clear HL1 hn2
 by_cases hN0 : N = 0
 · have hM1 := HW0.out hN0
   subst hN0
   subst hM1
   have hU := unit_list w1
   have hE2 := hE.alloc (.cells #[.int .u32 1] 61)
   go_wp2
   go_ret2
   exact ⟨_, _, _, rfl, hU, hE2⟩
 · by_cases hb2 : bV < 2
   · have hM1 := HW1.out hN0 hb2
     have hW1' : Wds w1 A1 n1 c1 (nd M) := by rw [hM1]; exact hW1
     clear hM1 hW1
     go_wp2
     go_ret2
     exact ⟨_, _, _, rfl, hW1', hE⟩
   · obtain ⟨b, hb⟩ : ∃ b, bV = b + 1 := ⟨bV - 1, by omega⟩
     subst hb
     have hV2 := HV2.out (by omega)
     have HR := Lib.hid (HS.out hV2)
     have HMW := Lib.hid (HMW.out hN0)
     obtain ⟨Q, hQ⟩ : ∃ Q, Q = 524288 / b := ⟨_, rfl⟩
     have hNQ : N ≤ Q := by
       rw [hQ, Nat.le_div_iff_mul_le (by omega), Nat.mul_comm]
       rw [Nat.add_mul] at hM
       omega
     have hQl : Q ≤ 524288 := by rw [hQ]; exact Nat.div_le_self _ _
     have hbe : ((b + 1 : Nat) : Int) - 1 = (b : Int) := by omega
     have hQe : (524288 : Int).tdiv (b : Int) = (Q : Int) := by rw [hQ]; rfl
     have hbp : (b : Int) ≠ 0 := by omega
     have hbp' : b ≠ 0 := by omega
     have hbl : b ≤ 524288 := by omega
     clear hQ HV2 HS HW0 HW1 hM hV2
     have hU := unit_list w1
     have hE2 := hE.alloc (.cells #[.int .u32 1] 61)
     have hW2 := hW1.alloc (.cells #[.int .u32 1] 61)
     clear hE hW1
     go_wp2
     generalize w1.heap.size = g1 at hU ⊢
     generalize w1.alloc _ = w2 at hU hE2 hW2 ⊢
     generalize ((N : Int) == 0) = z1
     generalize Value.bool (decide (Q < N)) = z2
     generalize Value.bool (decide ((b : Int) + 1 < 2)) = z3
     generalize Value.bool (decide ((N : Int) < 0)) = z4
     go_loopw [1, 6, 8] (fun nv' xv pv wr => ∃ (k p x : Nat) (A1 : Option Addr) (n1 c1 : Nat) (A2 : Option Addr) (n2 c2 : Nat), 0 < k ∧ k ≤ 1000000 ∧ nv' = .int .i64 (k : Int) ∧ pv = .slice A1 n1 c1 ∧ xv = .slice A2 n2 c2 ∧ Wds wr A1 n1 c1 (nd p) ∧ Wds wr A2 n2 c2 (nd x) ∧ Hid (PwRel V N p x k) ∧ Ext w wr) (fun nv' _ _ _ => (intOf nv').toNat)
     case atStart => exact ⟨N, 1, V, _, _, _, _, _, _, by omega, hN, rfl, rfl, rfl, hU, hW2, HR, hE2⟩
     case round =>
       obtain ⟨k, p, x, A3, n3, c3, A4, n4, c4, hk0, hk, rfl, rfl, rfl, hWp, hWx, hrel, hEr⟩ := hrel
       clear hU hW2 HR hE2 hNQ hQe hbp hbp' hbl hbe
       have hp := HPL.out _ _ _ hrel.out
       have hx := HXL.out _ _ _ hk0 hrel.out
       rcases Nat.mod_two_eq_zero_or_one k with hpar | hpar
       · obtain ⟨m, hm⟩ : ∃ m, k = 2 * m := ⟨k / 2, by omega⟩
         have g1 : bits .and .i64 (k : Int) 1 = 0 := by rw [i64_and1 k (by omega), hpar]; rfl
         have g2 : (k : Int) / 2 = (m : Int) := by omega
         have hmp : 0 < m := by omega
         have hmk : m < k := by omega
         rw [hm] at hrel
         have HR := Lib.hid hrel.out.even
         clear hrel hpar hm
         go_wp2_with fail
         refine (HML.out _ _ _ _ _ _ _ _ _ HMW.out hWx hWx hx hx).mono ?_
         rintro e w3 ⟨g5, n5, L5, rfl, hn5, hr5, hL5, hl5, hv5, hE5⟩
         go_wp2_with fail
         refine (ncut_mul hr5 hL5 hl5 hv5 (by omega)).mono ?_
         rintro e w4 ⟨A6, n6, c6, rfl, hW6, hE6⟩
         have hWp6 := (hWp.ext hE5).ext hE6
         have hEr6 := hEr.trans (hE5.trans hE6)
         clear hr5 hL5 hl5 hv5 hE5 hE6 hWp hWx hEr
         go_wp2
         go_roundw
         case rel => exact ⟨m, p, x * x, _, _, _, _, _, _, hmp, by omega, rfl, rfl, rfl, hWp6, hW6, HR, hEr6⟩
         case measure => simp only [intOf]; omega
       · obtain ⟨m, hm⟩ : ∃ m, k = 2 * m + 1 := ⟨k / 2, by omega⟩
         have g1 : bits .and .i64 (k : Int) 1 = 1 := by rw [i64_and1 k (by omega), hpar]; rfl
         have g2 : (k : Int) / 2 = (m : Int) := by omega
         have hmk : m < k := by omega
         rw [hm] at hrel
         have HR0 := Lib.hid hrel.out.odd0
         have HR := Lib.hid hrel.out.odd
         have hp2 := HPL.out _ _ _ HR0.out
         clear hrel hpar hm
         have hMl := HMW.out
         go_wp2_with fail
         refine (HML.out _ _ _ _ _ _ _ _ _ HMW.out hWp hWx hp hx).mono ?_
         rintro e w3 ⟨g5, n5, L5, rfl, hn5, hr5, hL5, hl5, hv5, hE5⟩
         go_wp2_with fail
         refine (ncut_mul hr5 hL5 hl5 hv5 (by omega)).mono ?_
         rintro e w4 ⟨A6, n6, c6, rfl, hW6, hE6⟩
         have hWx6 := (hWx.ext hE5).ext hE6
         have hEr6 := hEr.trans (hE5.trans hE6)
         have hn6 : n6 ≤ 16384 := by
           have h1 := hW6.nwe
           have h2 := nw_mono hp2
           omega
         clear hr5 hL5 hl5 hv5 hE5 hE6 hWp hWx hEr hMl
         by_cases hm0 : m = 0
         · subst hm0
           have hD := HDN.out _ _ HR0.out
           have hW6' : Wds w4 A6 n6 c6 (nd M) := by rw [← hD]; exact hW6
           clear hD hW6 HR HR0 hp hx hp2
           go_wp2
           go_ret2
           exact ⟨_, _, _, rfl, hW6', hEr6⟩
         · have hmp : 0 < m := by omega
           clear hm0
           go_wp2_with fail
           refine (HML.out _ _ _ _ _ _ _ _ _ HMW.out hWx6 hWx6 hx hx).mono ?_
           rintro e w5 ⟨g7, n7, L7, rfl, hn7, hr7, hL7, hl7, hv7, hE7⟩
           go_wp2_with fail
           refine (ncut_mul hr7 hL7 hl7 hv7 (by omega)).mono ?_
           rintro e w6 ⟨A8, n8, c8, rfl, hW8, hE8⟩
           have hW6' := (hW6.ext hE7).ext hE8
           have hEr8 := hEr6.trans (hE7.trans hE8)
           clear hr7 hL7 hl7 hv7 hE7 hE8 hW6 hWx6 hEr6
           go_wp2
           go_roundw
           case rel => exact ⟨m, p * x, x * x, _, _, _, _, _, _, hmp, by omega, rfl, rfl, rfl, hW6', hW8, HR, hEr8⟩
           case measure => simp only [intOf]; omega
end Go.Proofs.YtbcaggdgoidlaaaGreatDoor
