/-
 The contract of the document's comparison of ratios. Conditions: those that each theorem names.
-/
import Derived.Test.YtbcaggdgoidlaaaGreatDoorH29
import Derived.Test.YtbcaggdgoidlaaaGreatDoorH12
import Derived.Test.YtbcaggdgoidlaaaGreatDoorH08
import Derived.Test.YtbcaggdgoidlaaaGreatDoorH22
import Derived.Test.YtbcaggdgoidlaaaGreatDoorH27
namespace Go.Proofs.YtbcaggdgoidlaaaGreatDoor
open Go.RowKit Nm Rn
set_option maxRecDepth 100000
set_option linter.unusedVariables false
set_option linter.unusedSimpArgs false
theorem nw_mul_le (a b : Nat) : nw (a * b) ≤ nw a + nw b := by
 rw [nw_le_iff, Nat.pow_add]
 exact Nat.mul_lt_mul'' ((nw_le_iff a _).1 (Nat.le_refl _)) ((nw_le_iff b _).1 (Nat.le_refl _))
theorem cmpN_int (a b : Nat) : cmpN a b = cmpI (a : Int) b := by
 unfold cmpN cmpI; repeat' split
 all_goals omega
theorem cmpN_rng (a b : Nat) : -1 ≤ cmpN a b ∧ cmpN a b ≤ 1 := by
 unfold cmpN; repeat' split
 all_goals omega
theorem cmpI_neg (a b : Int) : cmpI (-a) (-b) = -cmpI a b := by
 unfold cmpI; repeat' split
 all_goals omega
theorem sgnZ_rng (s : Bool) (n : Nat) : -1 ≤ sgnZ s n ∧ sgnZ s n ≤ 1 := by
 unfold sgnZ; repeat' split
 all_goals omega
theorem sgn_prod (s : Bool) (N D : Nat) (hD : D ≠ 0) : (sgnZ s N = 0 ∧ sn s N * (D : Int) = 0) ∨ (sgnZ s N = 1 ∧ 0 < sn s N * (D : Int) ∧ s = false) ∨ (sgnZ s N = -1 ∧ sn s N * (D : Int) < 0 ∧ s = true) := by
 unfold sgnZ
 by_cases h : N = 0
 · subst h; left; refine ⟨rfl, ?_⟩; unfold sn; cases s <;> simp
 · right
   rw [if_neg h]
   have hp : (0 : Int) < (N : Int) * (D : Int) := Int.mul_pos (by omega) (by omega)
   cases s
   · left; exact ⟨rfl, hp, rfl⟩
   · right; exact ⟨rfl, by show -(N : Int) * (D : Int) < 0; rw [Int.neg_mul]; omega, rfl⟩
theorem rc_lt {s t : Bool} {N D N2 D2 : Nat} (hD : D ≠ 0) (hD2 : D2 ≠ 0) (h : sgnZ s N < sgnZ t N2) : rc s N D t N2 D2 = -1 := by
 unfold rc cmpI
 rcases sgn_prod s N D2 hD2 with h1 | h1 | h1 <;> rcases sgn_prod t N2 D hD with h2 | h2 | h2
 all_goals first | (exfalso; omega) | (rw [if_pos (by omega)])
theorem rc_gt {s t : Bool} {N D N2 D2 : Nat} (hD : D ≠ 0) (hD2 : D2 ≠ 0) (h : sgnZ t N2 < sgnZ s N) : rc s N D t N2 D2 = 1 := by
 unfold rc cmpI
 rcases sgn_prod s N D2 hD2 with h1 | h1 | h1 <;> rcases sgn_prod t N2 D hD with h2 | h2 | h2
 all_goals first | (exfalso; omega) | (rw [if_neg (by omega), if_pos (by omega)])
theorem rc_z {s t : Bool} {N D N2 D2 : Nat} (hD : D ≠ 0) (hD2 : D2 ≠ 0) (h : sgnZ s N = 0) (h' : sgnZ t N2 = 0) : rc s N D t N2 D2 = 0 := by
 unfold rc cmpI
 rcases sgn_prod s N D2 hD2 with h1 | h1 | h1 <;> rcases sgn_prod t N2 D hD with h2 | h2 | h2
 all_goals first | (exfalso; omega) | (rw [if_neg (by omega), if_neg (by omega)])
theorem rc_same {s t : Bool} {N D N2 D2 : Nat} (hD : D ≠ 0) (hD2 : D2 ≠ 0) (h : sgnZ s N ≠ 0) (h' : sgnZ t N2 = sgnZ s N) : rc s N D t N2 D2 = if s then -cmpN (N * D2) (N2 * D) else cmpN (N * D2) (N2 * D) := by
 have hst : s = t := by
   rcases sgn_prod s N D2 hD2 with h1 | h1 | h1 <;> rcases sgn_prod t N2 D hD with h2 | h2 | h2
   all_goals first | (exfalso; omega) | (rw [h1.2.2, h2.2.2])
 subst hst
 unfold rc
 rw [sn_mul, sn_mul, cmpN_int]
 unfold sn
 cases s
 · rfl
 · exact cmpI_neg _ _
set_option maxHeartbeats 4000000 in
theorem rcmp_any (s : Bool) (A : Option Addr) (l c : Nat) (B : Option Addr) (k d N D : Nat) (t : Bool) (A2 : Option Addr) (l2 c2 : Nat) (B2 : Option Addr) (k2 d2 N2 D2 : Nat) (w : World) (h1 : RatAt w A l c B k d N D) (h2 : RatAt w A2 l2 c2 B2 k2 d2 N2 D2)
   (hN : nw N ≤ 1073741824) (hD : nw D ≤ 1073741824) (hN2 : nw N2 ≤ 1073741824) (hD2 : nw D2 ≤ 1073741824) (hp : D ≠ 0) (hp2 : D2 ≠ 0) :
   Calls Tryz.prog 20 #[.agg #[.bool s, .slice A l c, .slice B k d], .agg #[.bool t, .slice A2 l2 c2, .slice B2 k2 d2]] w fun e w' => e = .returned (.int .i64 (rc s N D t N2 D2)) ∧ Ext w w' := by
 have hlb : l ≤ 1073741824 := by have := h1.lenN; omega
 have hkb : k ≤ 1073741824 := by have := h1.lenD; omega
 have hl2b : l2 ≤ 1073741824 := by have := h2.lenN; omega
 have hk2b : k2 ≤ 1073741824 := by have := h2.lenD; omega
 have hs1 := fun w (h : RatAt w A l c B k d N D) => rsign_any s A l c (nd N) B k d w h.1 (by omega)
 have hs2 := fun w (h : RatAt w A2 l2 c2 B2 k2 d2 N2 D2) => rsign_any t A2 l2 c2 (nd N2) B2 k2 d2 w h.1 (by omega)
 simp only [nv_nd] at hs1 hs2
 have ht1 := fun w (h : RatAt w A l c B k d N D) (h' : RatAt w A2 l2 c2 B2 k2 d2 N2 D2) => times_any A l c (nd N) B2 k2 d2 (nd D2) w h.1 (by omega) h'.2 (by omega)
 have ht2 := fun w (h : RatAt w A l c B k d N D) (h' : RatAt w A2 l2 c2 B2 k2 d2 N2 D2) => times_any A2 l2 c2 (nd N2) B k d (nd D) w h'.1 (by omega) h.2 (by omega)
 simp only [nv_nd] at ht1 ht2
 have sz1 : nw (N * D2) ≤ 2147483648 := by have := nw_mul_le N D2; omega
 have sz2 : nw (N2 * D) ≤ 2147483648 := by have := nw_mul_le N2 D; omega
 have r1 := sgnZ_rng s N
 have r2 := sgnZ_rng t N2
 have e1 := rc_lt (s := s) (t := t) (N := N) (N2 := N2) hp hp2
 have e2 := rc_gt (s := s) (t := t) (N := N) (N2 := N2) hp hp2
 have e3 := rc_z (s := s) (t := t) (N := N) (N2 := N2) hp hp2
 have e4 := rc_same (s := s) (t := t) (N := N) (N2 := N2) hp hp2
 have r3 := cmpN_rng (N * D2) (N2 * D)
 have hcm := fun (w : World) A n c B m d h hn k hm => cmp_any A n c (nd (N * D2)) B m d (nd (N2 * D)) w h hn k hm
 simp only [nv_nd] at hcm
 obtain ⟨x, hx⟩ : ∃ x, x = cmpN (N * D2) (N2 * D) := ⟨_, rfl⟩
 obtain ⟨p, hpp⟩ : ∃ p, p = sgnZ s N := ⟨_, rfl⟩
 obtain ⟨q, hqq⟩ : ∃ q, q = sgnZ t N2 := ⟨_, rfl⟩
 obtain ⟨R, hR⟩ : ∃ R, R = rc s N D t N2 D2 := ⟨_, rfl⟩
 obtain ⟨V1, hV1⟩ : ∃ V, V = N * D2 := ⟨_, rfl⟩
 obtain ⟨V2, hV2⟩ : ∃ V, V = N2 * D := ⟨_, rfl⟩
 rw [← hpp] at hs1 r1 e1 e2 e3 e4
 rw [← hqq] at hs2 r2 e1 e2 e3 e4
 rw [← hR] at e1 e2 e3 e4 ⊢
 rw [← hx] at e4 r3 hcm
 rw [← hV1] at ht1 sz1 hcm
 rw [← hV2] at ht2 sz2 hcm
 have hwr : IntKind.i64.wrap (-x) = -x := by simp [IntKind.wrap, IntKind.bits, IntKind.signed]; omega
 have HS1 := Lib.hid hs1
 have HS2 := Lib.hid hs2
 have HT1 := Lib.hid ht1
 have HT2 := Lib.hid ht2
 have HCM := Lib.hid hcm
 have HSZ := Lib.hid (And.intro sz1 sz2)
 clear hs1 hs2 ht1 ht2 hcm sz1 sz2 hx hpp hqq hR hV1 hV2 hN hD hN2 hD2 hp hp2 hlb hkb hl2b hk2b
 obtain ⟨S, hS⟩ : ∃ S : World → Prop, S = fun wz => Blk wz w.heap.size 37 #[.bool s, .slice A l c, .slice B k d] ∧ Blk wz (w.heap.size + 1) 37 #[.bool t, .slice A2 l2 c2, .slice B2 k2 d2] ∧ RatAt wz A l c B k d N D ∧ RatAt wz A2 l2 c2 B2 k2 d2 N2 D2 ∧ Ext w wz := ⟨_, rfl⟩
 have hSE : ∀ w w', S w → Ext w w' → S w' := fun w w' h1 h2 => by rw [hS] at h1 ⊢; exact ⟨h1.1.ext h2, h1.2.1.ext h2, h1.2.2.1.ext h2, h1.2.2.2.1.ext h2, h1.2.2.2.2.trans h2⟩
 have hS0 : S ((w.alloc (.cells #[.bool s, .slice A l c, .slice B k d] 37)).alloc (.cells #[.bool t, .slice A2 l2 c2, .slice B2 k2 d2] 37)) := by
   have hE : Ext w ((w.alloc (.cells #[.bool s, .slice A l c, .slice B k d] 37)).alloc (.cells #[.bool t, .slice A2 l2 c2, .slice B2 k2 d2] 37)) := ((Ext.refl w).alloc _).alloc _
   rw [hS]; exact ⟨(Blk.new w _ _).ext ((Ext.refl _).alloc _), Blk.next w _ _ _, h1.ext hE, h2.ext hE, hE⟩
 have HS := Lib.hid hS
 have HSE := Lib.hid hSE
 clear hS hSE h1 h2
 have three : q < p ∨ p < q ∨ p = q := by omega
 have HE1 := Lib.hid e1
 have HE2 := Lib.hid e2
 have HE3 := Lib.hid e3
 have HE4 := Lib.hid e4
 clear e1 e2 e3 e4
 have hsr0 := hS0
 rw [HS.out] at hsr0
 go_enter Tryz.func20, Tryz.ntmps20
 go_wp2_with fail
 refine (HS1.out _ hsr0.2.2.1).mono ?_
 rintro e w2 ⟨rfl, hE2⟩
 have hS2 := HSE.out _ _ hS0 hE2
 clear hS0 hsr0 hE2
 have hsr2 := hS2
 rw [HS.out] at hsr2
 have b0 : w2.cell? ⟨w.heap.size + 1, 0, none⟩ = some (.bool t) := hsr2.2.1.cell 0
 have b1 : w2.cell? ⟨w.heap.size + 1, 1, none⟩ = some (.slice A2 l2 c2) := hsr2.2.1.cell 1
 have b2 : w2.cell? ⟨w.heap.size + 1, 2, none⟩ = some (.slice B2 k2 d2) := hsr2.2.1.cell 2
 have hrr := hsr2.2.2.2.1
 clear hsr2
 go_wp2_with fail
 refine (HS2.out _ hrr).mono ?_
 rintro e w3 ⟨rfl, hE3⟩
 have hS3 := HSE.out _ _ hS2 hE3
 clear hS2 hE3 hrr b0 b1 b2
 rcases three with h3 | h3 | h3
 · have g1 : decide (p < q) = false := decide_eq_false (by omega)
   have g2 : decide (q < p) = true := decide_eq_true h3
   rw [HS.out] at hS3
   have hEw := hS3.2.2.2.2
   go_wp2
   go_ret
   exact ⟨ret_int (HE2.out h3).symm, hEw⟩
 · have g1 : decide (p < q) = true := decide_eq_true h3
   rw [HS.out] at hS3
   have hEw := hS3.2.2.2.2
   go_wp2
   go_ret
   exact ⟨ret_int (HE1.out h3).symm, hEw⟩
 · subst h3
   have g1 : decide (p < p) = false := decide_eq_false (by omega)
   obtain ⟨sp, hsp⟩ : ∃ sp : Nat → Sp, sp = ofList [det (.pointer (some ⟨w.heap.size, 1, none⟩)), det (.slice A l c), det (.pointer (some ⟨w.heap.size + 1, 2, none⟩)), det (.slice B2 k2 d2), anyOf (fun v wz => ∃ A n c, v = .slice A n c ∧ Wds wz A n c (nd V1)), det (.pointer (some ⟨w.heap.size + 1, 1, none⟩)), det (.slice A2 l2 c2), det (.pointer (some ⟨w.heap.size, 2, none⟩)), det (.slice B k d), anyOf (fun v wz => ∃ A n c, v = .slice A n c ∧ Wds wz A n c (nd V2))] := ⟨_, rfl⟩
   have HSP := Lib.hid hsp
   clear hsp
   have hS4 : S { w3 with drawn := w3.drawn + 1 } := HSE.out _ _ hS3 (Ext.refl w3).drew
   go_wp2_with fail
   refine wp_region_loose 10 S sp (by kernel_rfl) (by kernel_rfl) hS4 HSE.out ?_
   simp only [List.take_succ_cons, List.take_zero, List.drop_succ_cons, List.drop_zero]
   repeat (refine wpX_step (fun K hK => ?_)
           go_simp
           first
           | (refine ⟨by rw [HSP.out]; rfl, hK _ _ ?_⟩
              clear hK K)
           | (refine StepY.det (by rw [HSP.out]; rfl) ?_ ?_
              · intro wz hz hF
                have hz' := hz
                rw [HS.out] at hz'
                have g0 := hz'.1.cell 0
                have g1 := hz'.1.cell 1
                have g2 := hz'.1.cell 2
                have g3 := hz'.2.1.cell 0
                have g4 := hz'.2.1.cell 1
                have g5 := hz'.2.1.cell 2
                simp only [List.getElem?_toArray, List.getElem?_cons_zero, List.getElem?_cons_succ] at g0 g1 g2 g3 g4 g5
                clear hz' hF
                go_simp
                exact ⟨rfl, Ext.refl _⟩
              refine hK _ _ ?_
              clear hK K)
           | (refine StepY.any (by rw [HSP.out]; rfl) ?_ ?_
              · intro wz hz hF
                have hz' := hz
                rw [HS.out] at hz'
                have hx := hz'.2.2.1
                have hy := hz'.2.2.2.1
                clear hz'
                go_simp
                go_at_call 43
                first
                | (with_reducible refine (HT1.out _ hx hy).mono ?_)
                | (with_reducible refine (HT2.out _ hx hy).mono ?_)
                rintro e w2 ⟨A1, n1, c1, rfl, hW1, hE1⟩
                exact ⟨_, rfl, ⟨A1, n1, c1, rfl, hW1⟩, hE1⟩
              intro v
              refine hK _ _ ?_
              clear hK K))
   refine wpX_nil ?_
   intro w5 hz hF
   obtain ⟨wa, ea, A3, n3, c3, hv, hw3⟩ := fact_any (hF 4 (by omega)) (by rw [HSP.out]; rfl)
   obtain ⟨wb, eb, A4, n4, c4, hv', hw4⟩ := fact_any (hF 9 (by omega)) (by rw [HSP.out]; rfl)
   clear hF
   simp only [asFun, List.nil_append, List.cons_append, List.getD_cons_succ, List.getD_cons_zero] at hv hv'
   subst hv hv'
   have hk3 := hw3.ext ea
   have hk4 := hw4.ext eb
   have hl3 : n3 ≤ 2147483648 := by have h1 := hk3.len; have h2 := HSZ.out; rw [nd_length] at h1; omega
   have hl4 : n4 ≤ 2147483648 := by have h1 := hk4.len; have h2 := HSZ.out; rw [nd_length] at h1; omega
   clear ea eb hw3 hw4 HSZ
   go_wp2_with fail
   refine (HCM.out _ _ _ _ _ _ _ hk3 (by omega) hk4 (by omega)).mono ?_
   rintro e w6 ⟨rfl, qn, rfl⟩
   have hS6 := HSE.out _ _ hz ((Ext.refl w5).drewN qn)
   generalize w5.drewN qn = w6 at hS6 ⊢
   rw [HS.out] at hS6
   have hEw := hS6.2.2.2.2
   have b0 : w6.cell? ⟨w.heap.size, 0, none⟩ = some (.bool s) := hS6.1.cell 0
   clear hS6 hz hS4 hS3
   have hz0 : p = 0 ∨ p ≠ 0 := by omega
   rcases hz0 with h0 | h0
   · subst h0
     have hres := HE3.out (by first | trivial | rfl) (by first | trivial | rfl)
     cases s
     all_goals
       go_wp2
       go_ret
       exact ⟨ret_int hres.symm, hEw⟩
   · have g3 : (p == 0) = false := by rw [beq_eq_false_iff_ne]; exact h0
     have hres := HE4.out h0 (by first | trivial | rfl)
     cases s
     all_goals
       go_wp2
       go_ret
       exact ⟨ret_int hres.symm, hEw⟩
end Go.Proofs.YtbcaggdgoidlaaaGreatDoor

namespace Go.Proofs.YtbcaggdgoidlaaaGreatDoor
open Go.RowKit Nm Rn
set_option maxRecDepth 100000
set_option linter.unusedVariables false
set_option linter.unusedSimpArgs false
end Go.Proofs.YtbcaggdgoidlaaaGreatDoor

namespace Go.Proofs.YtbcaggdgoidlaaaGreatDoor
open Go.RowKit Nm Rn
set_option maxRecDepth 100000
set_option linter.unusedVariables false
set_option linter.unusedSimpArgs false
set_option maxHeartbeats 2000000 in
theorem rquoq_any (n m : Bool) (A : Option Addr) (l c : Nat) (B : Option Addr) (k d N D : Nat) (A' : Option Addr) (l' c' : Nat) (B' : Option Addr) (k' d' N' D' : Nat) (w : World)
   (h : RatAt w A l c B k d N D) (h' : RatAt w A' l' c' B' k' d' N' D') (hN : nw N ≤ 1073741824) (hD : nw D ≤ 1073741824) (hN' : nw N' ≤ 1073741824) (hD' : nw D' ≤ 1073741824) (hp : 0 < D * N') :
   Calls Tryz.prog 18 #[.agg #[.bool n, .slice A l c, .slice B k d], .agg #[.bool m, .slice A' l' c', .slice B' k' d']] w (RetR ((n != m) && decide (N * D' ≠ 0)) (fracN (N * D') (D * N') 0) (fracD (N * D') (D * N') 0) w) := by
 have hl := h.lenN
 have hk := h.lenD
 have hl' := h'.lenN
 have hk' := h'.lenD
 have hO := ((((Own.start w).add h.1).add h.2).add h'.1).add h'.2
 have hT1 := fun w h h' => times_any A l c (nd N) B' k' d' (nd D') w h (by omega) h' (by omega)
 have hT2 := fun w h h' => times_any B k d (nd D) A' l' c' (nd N') w h (by omega) h' (by omega)
 have e1 := nw_mul2 N D'
 have e2 := nw_mul2 D N'
 have hFR := fun A n1 c B n2 d w (h : Wds w A n1 c (nd (N * D'))) (k : Wds w B n2 d (nd (D * N'))) => frac_any (n != m) A n1 c (nd (N * D')) B n2 d (nd (D * N')) 0 w h (by have := h.len; rw [nd_length] at this; omega) k (by have := k.len; rw [nd_length] at this; omega) (by omega) (by omega) (by rw [nv_nd]; exact hp)
 simp only [nv_nd] at hT1 hT2 hFR
 obtain ⟨P, hP⟩ : ∃ P, P = N * D' := ⟨_, rfl⟩
 obtain ⟨Q, hQ⟩ : ∃ Q, Q = D * N' := ⟨_, rfl⟩
 rw [← hP] at hT1 hFR ⊢
 rw [← hQ] at hT2 hFR ⊢
 obtain ⟨r, hr⟩ : ∃ r, r = (n != m) := ⟨_, rfl⟩
 rw [← hr] at hFR ⊢
 obtain ⟨zz, hzz⟩ : ∃ zz, zz = (r && decide (P ≠ 0)) := ⟨_, rfl⟩
 rw [← hzz] at hFR ⊢
 clear hzz
 have HR := Lib.hid hr.symm
 have HT1 := Lib.hid hT1
 have HT2 := Lib.hid hT2
 have HFR := Lib.hid hFR
 clear hT1 hT2 hFR hP hQ hr h h' hl hk hl' hk' hN hD hN' hD' hp e1 e2
 go_enter Tryz.func18, Tryz.ntmps18
 go_wp2_with (first
   | (refine own_box (cs := [.bool n, .slice A l c, .slice B k d]) hO rfl rfl ?_; clear hO; intro ga wa hO)
   | (refine own_box (cs := [.bool m, .slice A' l' c', .slice B' k' d']) hO rfl rfl ?_; clear hO; intro gb wb hO)
   | (refine own_alloc hO zero_rat rfl rfl ?_; clear hO; intro g w1 hO))
 obtain ⟨S, hS⟩ : ∃ S : World → Prop, S = Own w [⟨g, 37, [.bool false, .slice none 0 0, .slice none 0 0]⟩, ⟨gb, 37, [.bool m, .slice A' l' c', .slice B' k' d']⟩, ⟨ga, 37, [.bool n, .slice A l c, .slice B k d]⟩] [⟨B', k', d', nd D'⟩, ⟨A', l', c', nd N'⟩, ⟨B, k, d, nd D⟩, ⟨A, l, c, nd N⟩] := ⟨_, rfl⟩
 have hSE : ∀ w w', S w → Ext w w' → S w' := fun w w' h1 h2 => by rw [hS] at h1 ⊢; exact h1.ext h2
 have hS1 : S w1.drew := by rw [hS]; exact hO.ext (Ext.refl w1).drew
 have HS := Lib.hid hS
 clear hS hO
 obtain ⟨sp, hsp⟩ : ∃ sp : Nat → Sp, sp = ofList [det (.pointer (some ⟨ga, 0, none⟩)), det (.bool n), det (.pointer (some ⟨gb, 0, none⟩)), det (.bool m), det (.bool r),
   det (.pointer (some ⟨ga, 1, none⟩)), det (.slice A l c), det (.pointer (some ⟨gb, 2, none⟩)), det (.slice B' k' d'), anyOf (fun v wz => ∃ A1 n1 c1, v = .slice A1 n1 c1 ∧ Wds wz A1 n1 c1 (nd P)),
   det (.pointer (some ⟨ga, 2, none⟩)), det (.slice B k d), det (.pointer (some ⟨gb, 1, none⟩)), det (.slice A' l' c'), anyOf (fun v wz => ∃ A1 n1 c1, v = .slice A1 n1 c1 ∧ Wds wz A1 n1 c1 (nd Q)),
   anyOf (fun v wz => ∃ A1 n1 c1 A2 n2 c2, v = .agg #[.bool zz, .slice A1 n1 c1, .slice A2 n2 c2] ∧ RatAt wz A1 n1 c1 A2 n2 c2 (fracN P Q 0) (fracD P Q 0))] := ⟨_, rfl⟩
 have HSP := Lib.hid hsp
 clear hsp
 refine wp_region_loose 16 S sp (by kernel_rfl) (by kernel_rfl) hS1 hSE ?_
 simp only [List.take_succ_cons, List.take_zero, List.drop_succ_cons, List.drop_zero]
 iterate 15
   refine wpX_step (fun K hK => ?_)
   go_simp
   first
   | (refine ⟨by rw [HSP.out]; rfl, hK _ _ ?_⟩
      clear hK K)
   | (refine StepY.det (by rw [HSP.out]; rfl) ?_ ?_
      · intro wz hz hF
        rw [HS.out] at hz
        have hf := hz.facts
        simp only [BF, CF, Nat.zero_add, Nat.reduceAdd, and_true] at hf
        have hr := HR.out
        clear hz hF
        go_simp
        first
        | exact ⟨rfl, Ext.refl _⟩
        | exact ⟨by rw [← hr]; rfl, Ext.refl _⟩
      refine hK _ _ ?_
      clear hK K)
   | (refine StepY.any (by rw [HSP.out]; rfl) ?_ ?_
      · intro wz hz hF
        rw [HS.out] at hz
        have h1 := hz.wd 3 rfl
        have h2 := hz.wd 2 rfl
        have h3 := hz.wd 1 rfl
        have h4 := hz.wd 0 rfl
        clear hz
        go_simp
        go_at_call 43
        first
        | (with_reducible refine (HT1.out _ h1 h4).mono ?_)
        | (with_reducible refine (HT2.out _ h2 h3).mono ?_)
        rintro e w2 ⟨A1, n1, c1, rfl, hW1, hE1⟩
        exact ⟨_, rfl, ⟨A1, n1, c1, rfl, hW1⟩, hE1⟩
      intro v
      refine hK _ _ ?_
      clear hK K)
 refine wpX_step (fun K hK => ?_)
 go_simp
 refine StepY.any (by rw [HSP.out]; rfl) ?_ ?_
 · intro wz hz hF
   obtain ⟨wa', ea, A1, n1, c1, hv1, hw1⟩ := hF.any 9 (by kernel_rfl) (by rw [HSP.out]; rfl)
   obtain ⟨wb', eb, A2, n2, c2, hv2, hw2⟩ := hF.any 14 (by kernel_rfl) (by rw [HSP.out]; rfl)
   clear hF
   simp only [asFun, List.nil_append, List.cons_append, List.getD_cons_succ, List.getD_cons_zero] at hv1 hv2
   subst hv1 hv2
   go_simp
   go_at_call 33
   refine (HFR.out _ _ _ _ _ _ _ (hw1.ext ea) (hw2.ext eb)).mono ?_
   rintro e w2 ⟨A3, n3, c3, A4, n4, c4, rfl, hW1, hW2, hE1⟩
   exact ⟨_, rfl, ⟨A3, n3, c3, A4, n4, c4, rfl, hW1, hW2⟩, hE1⟩
 intro v
 refine hK _ _ ?_
 clear hK K
 refine wpX_nil ?_
 intro w3 hz hF
 obtain ⟨w0, e0, A3, n3, c3, A4, n4, c4, hv, hw0⟩ := fact_any (hF 15 (by omega)) (by rw [HSP.out]; rfl)
 clear hF
 simp only [asFun, List.nil_append, List.cons_append, List.getD_cons_succ, List.getD_cons_zero] at hv
 subst hv
 rw [HS.out] at hz
 have hO := (hz.add (hw0.ext e0).1).add (hw0.ext e0).2
 clear hz hw0 e0
 go_wp2_with (refine own_store hO 0 rfl rfl rfl size_rat rfl rfl rfl ?_; clear hO; intro w4 hO)
 exact own_ret hO 0 rfl rfl rfl agg_rat size_rat rfl ⟨_, _, _, _, _, _, rfl, hO.wd 1 rfl, hO.wd 0 rfl, hO.toExt⟩
end Go.Proofs.YtbcaggdgoidlaaaGreatDoor

namespace Go.Proofs.YtbcaggdgoidlaaaGreatDoor
open Go.RowKit Nm Rn
set_option maxRecDepth 100000
set_option linter.unusedVariables false
set_option linter.unusedSimpArgs false
set_option maxHeartbeats 2000000 in
theorem rpown_any (A : Option Addr) (l c : Nat) (B : Option Addr) (k d N D e : Nat) (w : World) (h : RatAt w A l c B k d N D) (he : e ≤ 1024) (bN : bl N ≤ 3000) (bD : bl D ≤ 3000) (hD : 0 < D) :
   Calls Tryz.prog 16 #[.agg #[.bool true, .slice A l c, .slice B k d], .int .i64 (e : Int)] w (RetR (decide (e % 2 = 1) && decide (N ^ e ≠ 0)) (fracN (N ^ e) (D ^ e) 0) (fracD (N ^ e) (D ^ e) 0) w) := by
 have hl := h.lenN
 have hk := h.lenD
 have hO := ((Own.start w).add h.1).add h.2
 have hsz : ∀ V, bl V ≤ 3000 → nw V ≤ 100 ∧ nw ((V + 1) ^ e) ≤ 1000000 ∧ nw (V ^ e) ≤ 1000000 := fun V hV => by
   have h1 := nw_bl V
   obtain ⟨T, hT⟩ : ∃ T, T = 3001 := ⟨_, rfl⟩
   have h2 : (V + 1) ≤ 2 ^ T := by
     have h3 := lt_pow_bl V
     have h4 : 2 ^ bl V ≤ 2 ^ T := Nat.pow_le_pow_right (by omega) (by omega)
     omega
   have h5 := nw_pow_le (n := e) h2
   have h6 : nw (V ^ e) ≤ nw ((V + 1) ^ e) := nw_mono (Nat.pow_le_pow_left (by omega) e)
   rw [hT] at h5
   omega
 obtain ⟨s1, s2, s3⟩ := hsz N bN
 obtain ⟨t1, t2, t3⟩ := hsz D bD
 have hT1 := fun w h => power_any A l c (nd N) e w h (by omega) (by omega) (by rw [nv_nd]; exact s2)
 have hT2 := fun w h => power_any B k d (nd D) e w h (by omega) (by omega) (by rw [nv_nd]; exact t2)
 have hp : 0 < D ^ e := Nat.pow_pos hD
 have hFR := fun A n1 c B n2 d w (h : Wds w A n1 c (nd (N ^ e))) (k : Wds w B n2 d (nd (D ^ e))) => frac_any (decide (e % 2 = 1)) A n1 c (nd (N ^ e)) B n2 d (nd (D ^ e)) 0 w h (by have := h.len; rw [nd_length] at this; omega) k (by have := k.len; rw [nd_length] at this; omega) (by omega) (by omega) (by rw [nv_nd]; exact hp)
 simp only [nv_nd] at hT1 hT2 hFR
 obtain ⟨P, hP⟩ : ∃ P, P = N ^ e := ⟨_, rfl⟩
 obtain ⟨Q, hQ⟩ : ∃ Q, Q = D ^ e := ⟨_, rfl⟩
 rw [← hP] at hT1 hFR ⊢
 rw [← hQ] at hT2 hFR ⊢
 obtain ⟨par, hpar⟩ : ∃ b, b = decide (e % 2 = 1) := ⟨_, rfl⟩
 rw [← hpar] at hFR ⊢
 obtain ⟨R, hR⟩ : ∃ b, b = (par && decide (P ≠ 0)) := ⟨_, rfl⟩
 rw [← hR] at hFR ⊢
 have hq : ((e : Int) % 2 == 1) = par := by
   rw [hpar, Bool.eq_iff_iff, beq_iff_eq, decide_eq_true_eq]
   omega
 have HT1 := Lib.hid hT1
 have HT2 := Lib.hid hT2
 have HFR := Lib.hid hFR
 clear hT1 hT2 hFR hP hQ hpar hR h hl hk hsz s1 s2 s3 t1 t2 t3 bN bD hD hp
 go_enter Tryz.func16, Tryz.ntmps16
 go_wp2_with (first
   | (refine own_box (cs := [.bool true, .slice A l c, .slice B k d]) hO rfl rfl ?_; clear hO; intro ga wa hO)
   | (refine own_alloc hO zero_rat rfl rfl ?_; clear hO; intro g w1 hO))
 obtain ⟨S, hS⟩ : ∃ S : World → Prop, S = Own w [⟨g, 37, [.bool false, .slice none 0 0, .slice none 0 0]⟩, ⟨ga, 37, [.bool true, .slice A l c, .slice B k d]⟩] [⟨B, k, d, nd D⟩, ⟨A, l, c, nd N⟩] := ⟨_, rfl⟩
 have hSE : ∀ w w', S w → Ext w w' → S w' := fun w w' h1 h2 => by rw [hS] at h1 ⊢; exact h1.ext h2
 have hS1 : S w1.drew := by rw [hS]; exact hO.ext (Ext.refl w1).drew
 have HS := Lib.hid hS
 clear hS hO
 obtain ⟨sp, hsp⟩ : ∃ sp : Nat → Sp, sp = ofList [det (.pointer (some ⟨ga, 0, none⟩)), det (.bool true), det (.bool true), det (.int .i64 (e : Int)), det (.int .i64 ((e : Int) % 2)), det (.bool par), det (.bool par),
   det (.pointer (some ⟨ga, 1, none⟩)), det (.slice A l c), det (.int .i64 (e : Int)), anyOf (fun v wz => ∃ A1 n1 c1, v = .slice A1 n1 c1 ∧ Wds wz A1 n1 c1 (nd P)),
   det (.pointer (some ⟨ga, 2, none⟩)), det (.slice B k d), det (.int .i64 (e : Int)), anyOf (fun v wz => ∃ A1 n1 c1, v = .slice A1 n1 c1 ∧ Wds wz A1 n1 c1 (nd Q)),
   anyOf (fun v wz => ∃ A1 n1 c1 A2 n2 c2, v = .agg #[.bool R, .slice A1 n1 c1, .slice A2 n2 c2] ∧ RatAt wz A1 n1 c1 A2 n2 c2 (fracN P Q 0) (fracD P Q 0))] := ⟨_, rfl⟩
 have HSP := Lib.hid hsp
 clear hsp
 refine wp_region_loose 16 S sp (by kernel_rfl) (by kernel_rfl) hS1 hSE ?_
 simp only [List.take_succ_cons, List.take_zero, List.drop_succ_cons, List.drop_zero]
 iterate 15
   refine wpX_step (fun K hK => ?_)
   go_simp
   first
   | (refine ⟨by rw [HSP.out]; rfl, hK _ _ ?_⟩
      clear hK K)
   | (refine StepY.det (by rw [HSP.out]; rfl) ?_ ?_
      · intro wz hz hF
        rw [HS.out] at hz
        have hf := hz.facts
        simp only [BF, CF, Nat.zero_add, Nat.reduceAdd, and_true] at hf
        clear hz hF
        go_simp
        exact ⟨rfl, Ext.refl _⟩
      refine hK _ _ ?_
      clear hK K)
   | (refine StepY.any (by rw [HSP.out]; rfl) ?_ ?_
      · intro wz hz hF
        rw [HS.out] at hz
        have h1 := hz.wd 1 rfl
        have h2 := hz.wd 0 rfl
        clear hz
        go_simp
        go_at_call 41
        first
        | (with_reducible refine (HT1.out _ h1).mono ?_)
        | (with_reducible refine (HT2.out _ h2).mono ?_)
        rintro e w2 ⟨A1, n1, c1, rfl, hW1, hE1⟩
        exact ⟨_, rfl, ⟨A1, n1, c1, rfl, hW1⟩, hE1⟩
      intro v
      refine hK _ _ ?_
      clear hK K)
 refine wpX_step (fun K hK => ?_)
 go_simp
 refine StepY.any (by rw [HSP.out]; rfl) ?_ ?_
 · intro wz hz hF
   obtain ⟨wa', ea, A1, n1, c1, hv1, hw1⟩ := hF.any 10 (by kernel_rfl) (by rw [HSP.out]; rfl)
   obtain ⟨wb', eb, A2, n2, c2, hv2, hw2⟩ := hF.any 14 (by kernel_rfl) (by rw [HSP.out]; rfl)
   clear hF
   simp only [asFun, List.nil_append, List.cons_append, List.getD_cons_succ, List.getD_cons_zero] at hv1 hv2
   subst hv1 hv2
   go_simp
   go_at_call 33
   refine (HFR.out _ _ _ _ _ _ _ (hw1.ext ea) (hw2.ext eb)).mono ?_
   rintro e w2 ⟨A3, n3, c3, A4, n4, c4, rfl, hW1, hW2, hE1⟩
   exact ⟨_, rfl, ⟨A3, n3, c3, A4, n4, c4, rfl, hW1, hW2⟩, hE1⟩
 intro v
 refine hK _ _ ?_
 clear hK K
 refine wpX_nil ?_
 intro w3 hz hF
 obtain ⟨w0, e0, A3, n3, c3, A4, n4, c4, hv, hw0⟩ := fact_any (hF 15 (by omega)) (by rw [HSP.out]; rfl)
 clear hF
 simp only [asFun, List.nil_append, List.cons_append, List.getD_cons_succ, List.getD_cons_zero] at hv
 subst hv
 rw [HS.out] at hz
 have hO := (hz.add (hw0.ext e0).1).add (hw0.ext e0).2
 clear hz hw0 e0
 go_wp2_with (refine own_store hO 0 rfl rfl rfl size_rat rfl rfl rfl ?_; clear hO; intro w4 hO)
 exact own_ret hO 0 rfl rfl rfl agg_rat size_rat rfl ⟨_, _, _, _, _, _, rfl, hO.wd 1 rfl, hO.wd 0 rfl, hO.toExt⟩
theorem fracN_le0 (n d : Nat) : fracN n d 0 ≤ n := by
 unfold fracN
 split
 · omega
 · have h1 : ((0 : Int) + tz n - tz d).toNat ≤ tz n := by omega
   have h2 := Nat.pow_le_pow_right (n := 2) (by omega) h1
   have h3 := Nat.mul_le_mul_left (n / 2 ^ tz n) h2
   rwa [tz_div] at h3
theorem fracD_le0 {n d : Nat} (hd : d ≠ 0) : fracD n d 0 ≤ d := by
 unfold fracD
 split
 · omega
 · have h1 : (-((0 : Int) + tz n - tz d)).toNat ≤ tz d := by omega
   have h2 := Nat.pow_le_pow_right (n := 2) (by omega) h1
   have h3 := Nat.mul_le_mul_left (d / 2 ^ tz d) h2
   rwa [tz_div] at h3
theorem rpowb_any (s : Bool) (A : Option Addr) (l c : Nat) (B : Option Addr) (k d N D e : Nat) (w : World) (h : RatAt w A l c B k d N D) (he : e ≤ 1024) (bN : bl N ≤ 3000) (bD : bl D ≤ 3000) (hD : 0 < D) :
   Calls Tryz.prog 16 #[.agg #[.bool s, .slice A l c, .slice B k d], .int .i64 (e : Int)] w (RetR (pwS s e && decide (N ^ e ≠ 0)) (fracN (N ^ e) (D ^ e) 0) (fracD (N ^ e) (D ^ e) 0) w) := by
 unfold pwS
 cases s
 · rw [Bool.false_and, Bool.false_and]
   exact rpow_any A l c B k d N D e w h he bN bD hD
 · rw [Bool.true_and]
   exact rpown_any A l c B k d N D e w h he bN bD hD
theorem pow_sz {N D m : Nat} (hm : m ≤ 1024) (bN : bl N ≤ 3000) (bD : bl D ≤ 3000) (hD : 0 < D) : nw (fracN (N ^ m) (D ^ m) 0) ≤ 1000000 ∧ nw (fracD (N ^ m) (D ^ m) 0) ≤ 1000000 := by
 have hsz : ∀ V, bl V ≤ 3000 → nw (V ^ m) ≤ 1000000 := fun V hV => by
   obtain ⟨T, hT⟩ : ∃ T, T = 3001 := ⟨_, rfl⟩
   have h2 : V ≤ 2 ^ T := by
     have h3 := lt_pow_bl V
     have h4 : 2 ^ bl V ≤ 2 ^ T := Nat.pow_le_pow_right (by omega) (by omega)
     omega
   have h5 := nw_pow_le (n := m) h2
   rw [hT] at h5
   omega
 have h1 := nw_mono (fracN_le_z (N ^ m) (D ^ m))
 have h2 := nw_mono (fracD_le_z (n := N ^ m) (Nat.ne_of_gt (Nat.pow_pos (n := m) hD)))
 have h3 := hsz N bN
 have h4 := hsz D bD
 omega
end Go.Proofs.YtbcaggdgoidlaaaGreatDoor
