/-
 The contract of the document's sum of two ratios. Conditions: those that each theorem names.
-/
import Derived.Test.YtbcaggdgoidlaaaGreatDoorH30
import Derived.Test.YtbcaggdgoidlaaaGreatDoorH19
import Derived.Test.YtbcaggdgoidlaaaGreatDoorH24
import Derived.Test.YtbcaggdgoidlaaaGreatDoorH29
import Derived.Test.YtbcaggdgoidlaaaGreatDoorH27
namespace Go.Proofs.YtbcaggdgoidlaaaGreatDoor
open Go.RowKit Nm Rn
set_option maxRecDepth 100000
set_option linter.unusedVariables false
set_option linter.unusedSimpArgs false
set_option maxHeartbeats 2000000 in
theorem radd_same (n m : Bool) (A : Option Addr) (l c : Nat) (B : Option Addr) (k d N D : Nat) (A' : Option Addr) (l' c' : Nat) (B' : Option Addr) (k' d' N' D' : Nat) (w : World)
   (h : RatAt w A l c B k d N D) (h' : RatAt w A' l' c' B' k' d' N' D') (hN : nw N ≤ 1073741824) (hD : nw D ≤ 1073741824) (hN' : nw N' ≤ 1073741824) (hD' : nw D' ≤ 1073741824) (hp : 0 < D * D') (hnm : (n == m) = true) (hc : N * D' = N * D' ∧ N' * D = N' * D) :
   Calls Tryz.prog 55 #[.agg #[.bool n, .slice A l c, .slice B k d], .agg #[.bool m, .slice A' l' c', .slice B' k' d']] w (RetR (n && decide (N * D' + N' * D ≠ 0)) (fracN (N * D' + N' * D) (D * D') 0) (fracD (N * D' + N' * D) (D * D') 0) w) := by
 have hl := h.lenN
 have hk := h.lenD
 have hl' := h'.lenN
 have hk' := h'.lenD
 have hO := ((((Own.start w).add h.1).add h.2).add h'.1).add h'.2
 have hT1 := fun w h h' => times_any A l c (nd N) B' k' d' (nd D') w h (by omega) h' (by omega)
 have hT2 := fun w h h' => times_any A' l' c' (nd N') B k d (nd D) w h (by omega) h' (by omega)
 have hT3 := fun w h h' => times_any B k d (nd D) B' k' d' (nd D') w h (by omega) h' (by omega)
 have e1 := nw_mul2 N D'
 have e2 := nw_mul2 N' D
 have e3 := nw_mul2 D D'
 simp only [nv_nd] at hT1 hT2 hT3
 obtain ⟨P, hP⟩ : ∃ P, P = N * D' := ⟨_, rfl⟩
 obtain ⟨Q, hQ⟩ : ∃ Q, Q = N' * D := ⟨_, rfl⟩
 obtain ⟨R, hR⟩ : ∃ R, R = D * D' := ⟨_, rfl⟩
 rw [← hP] at hT1 e1 hc ⊢
 rw [← hQ] at hT2 e2 hc ⊢
 rw [← hR] at hT3 e3 hp ⊢
 obtain ⟨X, hX⟩ : ∃ X, X = P + Q := ⟨_, rfl⟩
 have hOP := fun A n1 c B n2 d w (h : Wds w A n1 c (nd P)) (k : Wds w B n2 d (nd Q)) => plus_any A n1 c (nd P) B n2 d (nd Q) w h (by have := h.len; rw [nd_length] at this; omega) k (by have := k.len; rw [nd_length] at this; omega)
 simp only [nv_nd] at hOP
 rw [← hX] at hOP ⊢
 have eX : nw X ≤ nw P + nw Q + 1 := by
   have h1 := lt_pow_nw P
   have h2 := lt_pow_nw Q
   have h3 : 4294967296 ^ nw P ≤ 4294967296 ^ (nw P + nw Q) := Nat.pow_le_pow_right (by omega) (by omega)
   have h4 : 4294967296 ^ nw Q ≤ 4294967296 ^ (nw P + nw Q) := Nat.pow_le_pow_right (by omega) (by omega)
   refine (nw_le_iff _ _).2 ?_
   rw [Nat.pow_succ]
   omega
 have hFR := fun A n1 c B n2 d w (h : Wds w A n1 c (nd X)) (k : Wds w B n2 d (nd R)) => frac_any n A n1 c (nd X) B n2 d (nd R) 0 w h (by have := h.len; rw [nd_length] at this; omega) k (by have := k.len; rw [nd_length] at this; omega) (by omega) (by omega) (by rw [nv_nd]; exact hp)
 simp only [nv_nd] at hFR
 clear eX
 obtain ⟨zz, hzz⟩ : ∃ zz, zz = (n && decide (X ≠ 0)) := ⟨_, rfl⟩
 rw [← hzz] at hFR ⊢
 clear hzz
 clear hc
 have HT1 := Lib.hid hT1
 have HT2 := Lib.hid hT2
 have HT3 := Lib.hid hT3
 have HFR := Lib.hid hFR
 have HOP := Lib.hid hOP
 clear hT1 hT2 hT3 hFR hOP hP hQ hR h h' hl hk hl' hk' hN hD hN' hD' hp e1 e2 e3 hX
 go_enter Tryz.func55, Tryz.ntmps55
 go_upto_region 1 with (first
   | (refine own_box (cs := [.bool n, .slice A l c, .slice B k d]) hO rfl rfl ?_; clear hO; intro ga wa hO)
   | (refine own_box (cs := [.bool m, .slice A' l' c', .slice B' k' d']) hO rfl rfl ?_; clear hO; intro gb wb hO)
   | (refine own_alloc hO zero_rat rfl rfl ?_; clear hO; intro g w1 hO))
 have hf := hO.facts
 simp only [BF, CF, Nat.zero_add, Nat.reduceAdd, and_true] at hf
 go_wp2_with fail
 refine (HT1.out _ (hO.wd 3 rfl) (hO.wd 0 rfl)).mono ?_
 rintro e w2 ⟨A5, n5, c5, rfl, hW, hE⟩
 have hO := (hO.ext hE).add hW
 clear hW hE hf
 have hf := hO.facts
 simp only [BF, CF, Nat.zero_add, Nat.reduceAdd, and_true] at hf
 go_wp2_with fail
 refine (HT2.out _ (hO.wd 2 rfl) (hO.wd 3 rfl)).mono ?_
 rintro e w3 ⟨A6, n6, c6, rfl, hW, hE⟩
 have hO := (hO.ext hE).add hW
 clear hW hE hf
 have hf := hO.facts
 simp only [BF, CF, Nat.zero_add, Nat.reduceAdd, and_true] at hf
 go_wp2_with fail
 refine (HT3.out _ (hO.wd 4 rfl) (hO.wd 2 rfl)).mono ?_
 rintro e w4 ⟨A7, n7, c7, rfl, hW, hE⟩
 have hO := (hO.ext hE).add hW
 clear hW hE hf
 have hf := hO.facts
 simp only [BF, CF, Nat.zero_add, Nat.reduceAdd, and_true] at hf
 go_wp2_with fail
 obtain ⟨S, hS⟩ : ∃ S : World → Prop, S = Own w [⟨g, 37, [.bool false, .slice none 0 0, .slice none 0 0]⟩, ⟨gb, 37, [.bool m, .slice A' l' c', .slice B' k' d']⟩, ⟨ga, 37, [.bool n, .slice A l c, .slice B k d]⟩] [⟨A7, n7, c7, nd R⟩, ⟨A6, n6, c6, nd Q⟩, ⟨A5, n5, c5, nd P⟩, ⟨B', k', d', nd D'⟩, ⟨A', l', c', nd N'⟩, ⟨B, k, d, nd D⟩, ⟨A, l, c, nd N⟩] := ⟨_, rfl⟩
 have hSE : ∀ w w', S w → Ext w w' → S w' := fun w w' h1 h2 => by rw [hS] at h1 ⊢; exact h1.ext h2
 have hS1 : S (w4).drew := by rw [hS]; exact hO.ext (Ext.refl _).drew
 have HS := Lib.hid hS
 clear hS hO hf
 obtain ⟨sp, hsp⟩ : ∃ sp : Nat → Sp, sp = ofList [det (.pointer (some ⟨ga, 0, none⟩)), det (.bool n), det (.slice A5 n5 c5), det (.slice A6 n6 c6), anyOf (fun v wz => ∃ A1 n1 c1, v = .slice A1 n1 c1 ∧ Wds wz A1 n1 c1 (nd X)), det (.slice A7 n7 c7),
   anyOf (fun v wz => ∃ A1 n1 c1 A2 n2 c2, v = .agg #[.bool zz, .slice A1 n1 c1, .slice A2 n2 c2] ∧ RatAt wz A1 n1 c1 A2 n2 c2 (fracN X R 0) (fracD X R 0))] := ⟨_, rfl⟩
 have HSP := Lib.hid hsp
 clear hsp
 refine wp_region_loose 7 S sp (by kernel_rfl) (by kernel_rfl) hS1 hSE ?_
 simp only [List.take_succ_cons, List.take_zero, List.drop_succ_cons, List.drop_zero]
 iterate 6
   refine wpX_step (fun K hK => ?_)
   go_simp
   first
   | (refine ⟨by rw [HSP.out]; rfl, hK _ _ ?_⟩
      clear hK K)
   | (refine StepY.det (by rw [HSP.out]; rfl) ?_ ?_
      · intro wz hz hF
        rw [HS.out] at hz
        have hf := hz.facts
        simp only [BF, CF, Nat.zero_add, Nat.reduceAdd, and_true] at hf
        clear hz hF
        go_simp
        exact ⟨rfl, Ext.refl _⟩
      refine hK _ _ ?_
      clear hK K)
   | (refine StepY.any (by rw [HSP.out]; rfl) ?_ ?_
      · intro wz hz hF
        rw [HS.out] at hz
        have h1 := hz.wd 1 rfl
        have h2 := hz.wd 2 rfl
        clear hz
        go_simp
        go_at_call 79
        (with_reducible refine (HOP.out _ _ _ _ _ _ _ h2 h1).mono ?_)
        rintro e w2 ⟨A1, n1, c1, rfl, hW1, hE1⟩
        exact ⟨_, rfl, ⟨A1, n1, c1, rfl, hW1⟩, hE1⟩
      intro v
      refine hK _ _ ?_
      clear hK K)
 refine wpX_step (fun K hK => ?_)
 go_simp
 refine StepY.any (by rw [HSP.out]; rfl) ?_ ?_
 · intro wz hz hF
   obtain ⟨wa', ea, A1, n1, c1, hv1, hw1⟩ := hF.any 4 (by kernel_rfl) (by rw [HSP.out]; rfl)
   clear hF
   simp only [asFun, List.nil_append, List.cons_append, List.getD_cons_succ, List.getD_cons_zero] at hv1
   subst hv1
   rw [HS.out] at hz
   go_simp
   go_at_call 33
   refine (HFR.out _ _ _ _ _ _ _ (hw1.ext ea) (hz.wd 0 rfl)).mono ?_
   rintro e w2 ⟨A3, n3, c3, A4, n4, c4, rfl, hW1, hW2, hE1⟩
   exact ⟨_, rfl, ⟨A3, n3, c3, A4, n4, c4, rfl, hW1, hW2⟩, hE1⟩
 intro v
 refine hK _ _ ?_
 clear hK K
 refine wpX_nil ?_
 intro w3 hz hF
 obtain ⟨w0, e0, A3, n3, c3, A4, n4, c4, hv, hw0⟩ := fact_any (hF 6 (by omega)) (by rw [HSP.out]; rfl)
 clear hF
 simp only [asFun, List.nil_append, List.cons_append, List.getD_cons_succ, List.getD_cons_zero] at hv
 subst hv
 rw [HS.out] at hz
 have hO := (hz.add (hw0.ext e0).1).add (hw0.ext e0).2
 clear hz hw0 e0
 go_wp2_with (refine own_store hO 0 rfl rfl rfl size_rat rfl rfl rfl ?_; clear hO; intro w4 hO)
 exact own_ret hO 0 rfl rfl rfl agg_rat size_rat rfl ⟨_, _, _, _, _, _, rfl, hO.wd 1 rfl, hO.wd 0 rfl, hO.toExt⟩
set_option maxHeartbeats 2000000 in
theorem radd_ge (n m : Bool) (A : Option Addr) (l c : Nat) (B : Option Addr) (k d N D : Nat) (A' : Option Addr) (l' c' : Nat) (B' : Option Addr) (k' d' N' D' : Nat) (w : World)
   (h : RatAt w A l c B k d N D) (h' : RatAt w A' l' c' B' k' d' N' D') (hN : nw N ≤ 1073741824) (hD : nw D ≤ 1073741824) (hN' : nw N' ≤ 1073741824) (hD' : nw D' ≤ 1073741824) (hp : 0 < D * D') (hnm : (n == m) = false) (hc : N' * D ≤ N * D') :
   Calls Tryz.prog 55 #[.agg #[.bool n, .slice A l c, .slice B k d], .agg #[.bool m, .slice A' l' c', .slice B' k' d']] w (RetR (n && decide (N * D' - N' * D ≠ 0)) (fracN (N * D' - N' * D) (D * D') 0) (fracD (N * D' - N' * D) (D * D') 0) w) := by
 have hl := h.lenN
 have hk := h.lenD
 have hl' := h'.lenN
 have hk' := h'.lenD
 have hO := ((((Own.start w).add h.1).add h.2).add h'.1).add h'.2
 have hT1 := fun w h h' => times_any A l c (nd N) B' k' d' (nd D') w h (by omega) h' (by omega)
 have hT2 := fun w h h' => times_any A' l' c' (nd N') B k d (nd D) w h (by omega) h' (by omega)
 have hT3 := fun w h h' => times_any B k d (nd D) B' k' d' (nd D') w h (by omega) h' (by omega)
 have e1 := nw_mul2 N D'
 have e2 := nw_mul2 N' D
 have e3 := nw_mul2 D D'
 simp only [nv_nd] at hT1 hT2 hT3
 obtain ⟨P, hP⟩ : ∃ P, P = N * D' := ⟨_, rfl⟩
 obtain ⟨Q, hQ⟩ : ∃ Q, Q = N' * D := ⟨_, rfl⟩
 obtain ⟨R, hR⟩ : ∃ R, R = D * D' := ⟨_, rfl⟩
 rw [← hP] at hT1 e1 hc ⊢
 rw [← hQ] at hT2 e2 hc ⊢
 rw [← hR] at hT3 e3 hp ⊢
 obtain ⟨X, hX⟩ : ∃ X, X = P - Q := ⟨_, rfl⟩
 have hOP := fun A n1 c B n2 d w (h : Wds w A n1 c (nd P)) (k : Wds w B n2 d (nd Q)) => minus_any A n1 c (nd P) B n2 d (nd Q) w h (by have := h.len; rw [nd_length] at this; omega) k (by have := k.len; rw [nd_length] at this; omega) (by rw [nv_nd, nv_nd]; omega)
 simp only [nv_nd] at hOP
 rw [← hX] at hOP ⊢
 have eX : nw X ≤ nw P + nw Q + 1 := by
   have h1 := lt_pow_nw P
   have h2 := lt_pow_nw Q
   have h3 : 4294967296 ^ nw P ≤ 4294967296 ^ (nw P + nw Q) := Nat.pow_le_pow_right (by omega) (by omega)
   have h4 : 4294967296 ^ nw Q ≤ 4294967296 ^ (nw P + nw Q) := Nat.pow_le_pow_right (by omega) (by omega)
   refine (nw_le_iff _ _).2 ?_
   rw [Nat.pow_succ]
   omega
 have hFR := fun A n1 c B n2 d w (h : Wds w A n1 c (nd X)) (k : Wds w B n2 d (nd R)) => frac_any n A n1 c (nd X) B n2 d (nd R) 0 w h (by have := h.len; rw [nd_length] at this; omega) k (by have := k.len; rw [nd_length] at this; omega) (by omega) (by omega) (by rw [nv_nd]; exact hp)
 simp only [nv_nd] at hFR
 clear eX
 obtain ⟨zz, hzz⟩ : ∃ zz, zz = (n && decide (X ≠ 0)) := ⟨_, rfl⟩
 rw [← hzz] at hFR ⊢
 clear hzz
 have hCM := fun A n1 c B n2 d w (h : Wds w A n1 c (nd P)) (k : Wds w B n2 d (nd Q)) => cmp_any A n1 c (nd P) B n2 d (nd Q) w h (by have := h.len; rw [nd_length] at this; omega) k (by have := k.len; rw [nd_length] at this; omega)
 simp only [nv_nd] at hCM
 have hcc : decide (0 ≤ cmpN P Q) = true := by
   unfold cmpN
   rw [if_neg (by omega)]; split <;> simp
 have HCM := Lib.hid hCM
 clear hCM hc
 have HT1 := Lib.hid hT1
 have HT2 := Lib.hid hT2
 have HT3 := Lib.hid hT3
 have HFR := Lib.hid hFR
 have HOP := Lib.hid hOP
 clear hT1 hT2 hT3 hFR hOP hP hQ hR h h' hl hk hl' hk' hN hD hN' hD' hp e1 e2 e3 hX
 go_enter Tryz.func55, Tryz.ntmps55
 go_upto_region 1 with (first
   | (refine own_box (cs := [.bool n, .slice A l c, .slice B k d]) hO rfl rfl ?_; clear hO; intro ga wa hO)
   | (refine own_box (cs := [.bool m, .slice A' l' c', .slice B' k' d']) hO rfl rfl ?_; clear hO; intro gb wb hO)
   | (refine own_alloc hO zero_rat rfl rfl ?_; clear hO; intro g w1 hO))
 have hf := hO.facts
 simp only [BF, CF, Nat.zero_add, Nat.reduceAdd, and_true] at hf
 go_wp2_with fail
 refine (HT1.out _ (hO.wd 3 rfl) (hO.wd 0 rfl)).mono ?_
 rintro e w2 ⟨A5, n5, c5, rfl, hW, hE⟩
 have hO := (hO.ext hE).add hW
 clear hW hE hf
 have hf := hO.facts
 simp only [BF, CF, Nat.zero_add, Nat.reduceAdd, and_true] at hf
 go_wp2_with fail
 refine (HT2.out _ (hO.wd 2 rfl) (hO.wd 3 rfl)).mono ?_
 rintro e w3 ⟨A6, n6, c6, rfl, hW, hE⟩
 have hO := (hO.ext hE).add hW
 clear hW hE hf
 have hf := hO.facts
 simp only [BF, CF, Nat.zero_add, Nat.reduceAdd, and_true] at hf
 go_wp2_with fail
 refine (HT3.out _ (hO.wd 4 rfl) (hO.wd 2 rfl)).mono ?_
 rintro e w4 ⟨A7, n7, c7, rfl, hW, hE⟩
 have hO := (hO.ext hE).add hW
 clear hW hE hf
 have hf := hO.facts
 simp only [BF, CF, Nat.zero_add, Nat.reduceAdd, and_true] at hf
 go_wp2_with fail
 refine (HCM.out _ _ _ _ _ _ _ (hO.wd 2 rfl) (hO.wd 1 rfl)).mono ?_
 rintro e w5 ⟨rfl, q, rfl⟩
 have hO := hO.ext ((Ext.refl w4).drewN q)
 clear hf
 have hf := hO.facts
 simp only [BF, CF, Nat.zero_add, Nat.reduceAdd, and_true] at hf
 go_wp2_with fail
 obtain ⟨S, hS⟩ : ∃ S : World → Prop, S = Own w [⟨g, 37, [.bool false, .slice none 0 0, .slice none 0 0]⟩, ⟨gb, 37, [.bool m, .slice A' l' c', .slice B' k' d']⟩, ⟨ga, 37, [.bool n, .slice A l c, .slice B k d]⟩] [⟨A7, n7, c7, nd R⟩, ⟨A6, n6, c6, nd Q⟩, ⟨A5, n5, c5, nd P⟩, ⟨B', k', d', nd D'⟩, ⟨A', l', c', nd N'⟩, ⟨B, k, d, nd D⟩, ⟨A, l, c, nd N⟩] := ⟨_, rfl⟩
 have hSE : ∀ w w', S w → Ext w w' → S w' := fun w w' h1 h2 => by rw [hS] at h1 ⊢; exact h1.ext h2
 have hS1 : S (w4.drewN q).drew := by rw [hS]; exact hO.ext (Ext.refl _).drew
 have HS := Lib.hid hS
 clear hS hO hf
 obtain ⟨sp, hsp⟩ : ∃ sp : Nat → Sp, sp = ofList [det (.pointer (some ⟨ga, 0, none⟩)), det (.bool n), det (.slice A5 n5 c5), det (.slice A6 n6 c6), anyOf (fun v wz => ∃ A1 n1 c1, v = .slice A1 n1 c1 ∧ Wds wz A1 n1 c1 (nd X)), det (.slice A7 n7 c7),
   anyOf (fun v wz => ∃ A1 n1 c1 A2 n2 c2, v = .agg #[.bool zz, .slice A1 n1 c1, .slice A2 n2 c2] ∧ RatAt wz A1 n1 c1 A2 n2 c2 (fracN X R 0) (fracD X R 0))] := ⟨_, rfl⟩
 have HSP := Lib.hid hsp
 clear hsp
 refine wp_region_loose 7 S sp (by kernel_rfl) (by kernel_rfl) hS1 hSE ?_
 simp only [List.take_succ_cons, List.take_zero, List.drop_succ_cons, List.drop_zero]
 iterate 6
   refine wpX_step (fun K hK => ?_)
   go_simp
   first
   | (refine ⟨by rw [HSP.out]; rfl, hK _ _ ?_⟩
      clear hK K)
   | (refine StepY.det (by rw [HSP.out]; rfl) ?_ ?_
      · intro wz hz hF
        rw [HS.out] at hz
        have hf := hz.facts
        simp only [BF, CF, Nat.zero_add, Nat.reduceAdd, and_true] at hf
        clear hz hF
        go_simp
        exact ⟨rfl, Ext.refl _⟩
      refine hK _ _ ?_
      clear hK K)
   | (refine StepY.any (by rw [HSP.out]; rfl) ?_ ?_
      · intro wz hz hF
        rw [HS.out] at hz
        have h1 := hz.wd 1 rfl
        have h2 := hz.wd 2 rfl
        clear hz
        go_simp
        go_at_call 80
        (with_reducible refine (HOP.out _ _ _ _ _ _ _ h2 h1).mono ?_)
        rintro e w2 ⟨A1, n1, c1, rfl, hW1, hE1⟩
        exact ⟨_, rfl, ⟨A1, n1, c1, rfl, hW1⟩, hE1⟩
      intro v
      refine hK _ _ ?_
      clear hK K)
 refine wpX_step (fun K hK => ?_)
 go_simp
 refine StepY.any (by rw [HSP.out]; rfl) ?_ ?_
 · intro wz hz hF
   obtain ⟨wa', ea, A1, n1, c1, hv1, hw1⟩ := hF.any 4 (by kernel_rfl) (by rw [HSP.out]; rfl)
   clear hF
   simp only [asFun, List.nil_append, List.cons_append, List.getD_cons_succ, List.getD_cons_zero] at hv1
   subst hv1
   rw [HS.out] at hz
   go_simp
   go_at_call 33
   refine (HFR.out _ _ _ _ _ _ _ (hw1.ext ea) (hz.wd 0 rfl)).mono ?_
   rintro e w2 ⟨A3, n3, c3, A4, n4, c4, rfl, hW1, hW2, hE1⟩
   exact ⟨_, rfl, ⟨A3, n3, c3, A4, n4, c4, rfl, hW1, hW2⟩, hE1⟩
 intro v
 refine hK _ _ ?_
 clear hK K
 refine wpX_nil ?_
 intro w3 hz hF
 obtain ⟨w0, e0, A3, n3, c3, A4, n4, c4, hv, hw0⟩ := fact_any (hF 6 (by omega)) (by rw [HSP.out]; rfl)
 clear hF
 simp only [asFun, List.nil_append, List.cons_append, List.getD_cons_succ, List.getD_cons_zero] at hv
 subst hv
 rw [HS.out] at hz
 have hO := (hz.add (hw0.ext e0).1).add (hw0.ext e0).2
 clear hz hw0 e0
 go_wp2_with (refine own_store hO 0 rfl rfl rfl size_rat rfl rfl rfl ?_; clear hO; intro w4 hO)
 exact own_ret hO 0 rfl rfl rfl agg_rat size_rat rfl ⟨_, _, _, _, _, _, rfl, hO.wd 1 rfl, hO.wd 0 rfl, hO.toExt⟩
set_option maxHeartbeats 2000000 in
theorem radd_lt (n m : Bool) (A : Option Addr) (l c : Nat) (B : Option Addr) (k d N D : Nat) (A' : Option Addr) (l' c' : Nat) (B' : Option Addr) (k' d' N' D' : Nat) (w : World)
   (h : RatAt w A l c B k d N D) (h' : RatAt w A' l' c' B' k' d' N' D') (hN : nw N ≤ 1073741824) (hD : nw D ≤ 1073741824) (hN' : nw N' ≤ 1073741824) (hD' : nw D' ≤ 1073741824) (hp : 0 < D * D') (hnm : (n == m) = false) (hc : N * D' < N' * D) :
   Calls Tryz.prog 55 #[.agg #[.bool n, .slice A l c, .slice B k d], .agg #[.bool m, .slice A' l' c', .slice B' k' d']] w (RetR (m && decide (N' * D - N * D' ≠ 0)) (fracN (N' * D - N * D') (D * D') 0) (fracD (N' * D - N * D') (D * D') 0) w) := by
 have hl := h.lenN
 have hk := h.lenD
 have hl' := h'.lenN
 have hk' := h'.lenD
 have hO := ((((Own.start w).add h.1).add h.2).add h'.1).add h'.2
 have hT1 := fun w h h' => times_any A l c (nd N) B' k' d' (nd D') w h (by omega) h' (by omega)
 have hT2 := fun w h h' => times_any A' l' c' (nd N') B k d (nd D) w h (by omega) h' (by omega)
 have hT3 := fun w h h' => times_any B k d (nd D) B' k' d' (nd D') w h (by omega) h' (by omega)
 have e1 := nw_mul2 N D'
 have e2 := nw_mul2 N' D
 have e3 := nw_mul2 D D'
 simp only [nv_nd] at hT1 hT2 hT3
 obtain ⟨P, hP⟩ : ∃ P, P = N * D' := ⟨_, rfl⟩
 obtain ⟨Q, hQ⟩ : ∃ Q, Q = N' * D := ⟨_, rfl⟩
 obtain ⟨R, hR⟩ : ∃ R, R = D * D' := ⟨_, rfl⟩
 rw [← hP] at hT1 e1 hc ⊢
 rw [← hQ] at hT2 e2 hc ⊢
 rw [← hR] at hT3 e3 hp ⊢
 obtain ⟨X, hX⟩ : ∃ X, X = Q - P := ⟨_, rfl⟩
 have hOP := fun A n1 c B n2 d w (h : Wds w A n1 c (nd Q)) (k : Wds w B n2 d (nd P)) => minus_any A n1 c (nd Q) B n2 d (nd P) w h (by have := h.len; rw [nd_length] at this; omega) k (by have := k.len; rw [nd_length] at this; omega) (by rw [nv_nd, nv_nd]; omega)
 simp only [nv_nd] at hOP
 rw [← hX] at hOP ⊢
 have eX : nw X ≤ nw P + nw Q + 1 := by
   have h1 := lt_pow_nw P
   have h2 := lt_pow_nw Q
   have h3 : 4294967296 ^ nw P ≤ 4294967296 ^ (nw P + nw Q) := Nat.pow_le_pow_right (by omega) (by omega)
   have h4 : 4294967296 ^ nw Q ≤ 4294967296 ^ (nw P + nw Q) := Nat.pow_le_pow_right (by omega) (by omega)
   refine (nw_le_iff _ _).2 ?_
   rw [Nat.pow_succ]
   omega
 have hFR := fun A n1 c B n2 d w (h : Wds w A n1 c (nd X)) (k : Wds w B n2 d (nd R)) => frac_any m A n1 c (nd X) B n2 d (nd R) 0 w h (by have := h.len; rw [nd_length] at this; omega) k (by have := k.len; rw [nd_length] at this; omega) (by omega) (by omega) (by rw [nv_nd]; exact hp)
 simp only [nv_nd] at hFR
 clear eX
 obtain ⟨zz, hzz⟩ : ∃ zz, zz = (m && decide (X ≠ 0)) := ⟨_, rfl⟩
 rw [← hzz] at hFR ⊢
 clear hzz
 have hCM := fun A n1 c B n2 d w (h : Wds w A n1 c (nd P)) (k : Wds w B n2 d (nd Q)) => cmp_any A n1 c (nd P) B n2 d (nd Q) w h (by have := h.len; rw [nd_length] at this; omega) k (by have := k.len; rw [nd_length] at this; omega)
 simp only [nv_nd] at hCM
 have hcc : decide (0 ≤ cmpN P Q) = false := by
   unfold cmpN
   rw [if_pos (by omega)]; simp
 have HCM := Lib.hid hCM
 clear hCM hc
 have HT1 := Lib.hid hT1
 have HT2 := Lib.hid hT2
 have HT3 := Lib.hid hT3
 have HFR := Lib.hid hFR
 have HOP := Lib.hid hOP
 clear hT1 hT2 hT3 hFR hOP hP hQ hR h h' hl hk hl' hk' hN hD hN' hD' hp e1 e2 e3 hX
 go_enter Tryz.func55, Tryz.ntmps55
 go_upto_region 1 with (first
   | (refine own_box (cs := [.bool n, .slice A l c, .slice B k d]) hO rfl rfl ?_; clear hO; intro ga wa hO)
   | (refine own_box (cs := [.bool m, .slice A' l' c', .slice B' k' d']) hO rfl rfl ?_; clear hO; intro gb wb hO)
   | (refine own_alloc hO zero_rat rfl rfl ?_; clear hO; intro g w1 hO))
 have hf := hO.facts
 simp only [BF, CF, Nat.zero_add, Nat.reduceAdd, and_true] at hf
 go_wp2_with fail
 refine (HT1.out _ (hO.wd 3 rfl) (hO.wd 0 rfl)).mono ?_
 rintro e w2 ⟨A5, n5, c5, rfl, hW, hE⟩
 have hO := (hO.ext hE).add hW
 clear hW hE hf
 have hf := hO.facts
 simp only [BF, CF, Nat.zero_add, Nat.reduceAdd, and_true] at hf
 go_wp2_with fail
 refine (HT2.out _ (hO.wd 2 rfl) (hO.wd 3 rfl)).mono ?_
 rintro e w3 ⟨A6, n6, c6, rfl, hW, hE⟩
 have hO := (hO.ext hE).add hW
 clear hW hE hf
 have hf := hO.facts
 simp only [BF, CF, Nat.zero_add, Nat.reduceAdd, and_true] at hf
 go_wp2_with fail
 refine (HT3.out _ (hO.wd 4 rfl) (hO.wd 2 rfl)).mono ?_
 rintro e w4 ⟨A7, n7, c7, rfl, hW, hE⟩
 have hO := (hO.ext hE).add hW
 clear hW hE hf
 have hf := hO.facts
 simp only [BF, CF, Nat.zero_add, Nat.reduceAdd, and_true] at hf
 go_wp2_with fail
 refine (HCM.out _ _ _ _ _ _ _ (hO.wd 2 rfl) (hO.wd 1 rfl)).mono ?_
 rintro e w5 ⟨rfl, q, rfl⟩
 have hO := hO.ext ((Ext.refl w4).drewN q)
 clear hf
 have hf := hO.facts
 simp only [BF, CF, Nat.zero_add, Nat.reduceAdd, and_true] at hf
 go_wp2_with fail
 obtain ⟨S, hS⟩ : ∃ S : World → Prop, S = Own w [⟨g, 37, [.bool false, .slice none 0 0, .slice none 0 0]⟩, ⟨gb, 37, [.bool m, .slice A' l' c', .slice B' k' d']⟩, ⟨ga, 37, [.bool n, .slice A l c, .slice B k d]⟩] [⟨A7, n7, c7, nd R⟩, ⟨A6, n6, c6, nd Q⟩, ⟨A5, n5, c5, nd P⟩, ⟨B', k', d', nd D'⟩, ⟨A', l', c', nd N'⟩, ⟨B, k, d, nd D⟩, ⟨A, l, c, nd N⟩] := ⟨_, rfl⟩
 have hSE : ∀ w w', S w → Ext w w' → S w' := fun w w' h1 h2 => by rw [hS] at h1 ⊢; exact h1.ext h2
 have hS1 : S (w4.drewN q).drew := by rw [hS]; exact hO.ext (Ext.refl _).drew
 have HS := Lib.hid hS
 clear hS hO hf
 obtain ⟨sp, hsp⟩ : ∃ sp : Nat → Sp, sp = ofList [det (.pointer (some ⟨gb, 0, none⟩)), det (.bool m), det (.slice A6 n6 c6), det (.slice A5 n5 c5), anyOf (fun v wz => ∃ A1 n1 c1, v = .slice A1 n1 c1 ∧ Wds wz A1 n1 c1 (nd X)), det (.slice A7 n7 c7),
   anyOf (fun v wz => ∃ A1 n1 c1 A2 n2 c2, v = .agg #[.bool zz, .slice A1 n1 c1, .slice A2 n2 c2] ∧ RatAt wz A1 n1 c1 A2 n2 c2 (fracN X R 0) (fracD X R 0))] := ⟨_, rfl⟩
 have HSP := Lib.hid hsp
 clear hsp
 refine wp_region_loose 7 S sp (by kernel_rfl) (by kernel_rfl) hS1 hSE ?_
 simp only [List.take_succ_cons, List.take_zero, List.drop_succ_cons, List.drop_zero]
 iterate 6
   refine wpX_step (fun K hK => ?_)
   go_simp
   first
   | (refine ⟨by rw [HSP.out]; rfl, hK _ _ ?_⟩
      clear hK K)
   | (refine StepY.det (by rw [HSP.out]; rfl) ?_ ?_
      · intro wz hz hF
        rw [HS.out] at hz
        have hf := hz.facts
        simp only [BF, CF, Nat.zero_add, Nat.reduceAdd, and_true] at hf
        clear hz hF
        go_simp
        exact ⟨rfl, Ext.refl _⟩
      refine hK _ _ ?_
      clear hK K)
   | (refine StepY.any (by rw [HSP.out]; rfl) ?_ ?_
      · intro wz hz hF
        rw [HS.out] at hz
        have h1 := hz.wd 1 rfl
        have h2 := hz.wd 2 rfl
        clear hz
        go_simp
        go_at_call 80
        (with_reducible refine (HOP.out _ _ _ _ _ _ _ h1 h2).mono ?_)
        rintro e w2 ⟨A1, n1, c1, rfl, hW1, hE1⟩
        exact ⟨_, rfl, ⟨A1, n1, c1, rfl, hW1⟩, hE1⟩
      intro v
      refine hK _ _ ?_
      clear hK K)
 refine wpX_step (fun K hK => ?_)
 go_simp
 refine StepY.any (by rw [HSP.out]; rfl) ?_ ?_
 · intro wz hz hF
   obtain ⟨wa', ea, A1, n1, c1, hv1, hw1⟩ := hF.any 4 (by kernel_rfl) (by rw [HSP.out]; rfl)
   clear hF
   simp only [asFun, List.nil_append, List.cons_append, List.getD_cons_succ, List.getD_cons_zero] at hv1
   subst hv1
   rw [HS.out] at hz
   go_simp
   go_at_call 33
   refine (HFR.out _ _ _ _ _ _ _ (hw1.ext ea) (hz.wd 0 rfl)).mono ?_
   rintro e w2 ⟨A3, n3, c3, A4, n4, c4, rfl, hW1, hW2, hE1⟩
   exact ⟨_, rfl, ⟨A3, n3, c3, A4, n4, c4, rfl, hW1, hW2⟩, hE1⟩
 intro v
 refine hK _ _ ?_
 clear hK K
 refine wpX_nil ?_
 intro w3 hz hF
 obtain ⟨w0, e0, A3, n3, c3, A4, n4, c4, hv, hw0⟩ := fact_any (hF 6 (by omega)) (by rw [HSP.out]; rfl)
 clear hF
 simp only [asFun, List.nil_append, List.cons_append, List.getD_cons_succ, List.getD_cons_zero] at hv
 subst hv
 rw [HS.out] at hz
 have hO := (hz.add (hw0.ext e0).1).add (hw0.ext e0).2
 clear hz hw0 e0
 go_wp2_with (refine own_store hO 0 rfl rfl rfl size_rat rfl rfl rfl ?_; clear hO; intro w4 hO)
 exact own_ret hO 0 rfl rfl rfl agg_rat size_rat rfl ⟨_, _, _, _, _, _, rfl, hO.wd 1 rfl, hO.wd 0 rfl, hO.toExt⟩
theorem radd_any (n m : Bool) (A : Option Addr) (l c : Nat) (B : Option Addr) (k d N D : Nat) (A' : Option Addr) (l' c' : Nat) (B' : Option Addr) (k' d' N' D' : Nat) (w : World)
   (h : RatAt w A l c B k d N D) (h' : RatAt w A' l' c' B' k' d' N' D') (hN : nw N ≤ 1073741824) (hD : nw D ≤ 1073741824) (hN' : nw N' ≤ 1073741824) (hD' : nw D' ≤ 1073741824) (hp : 0 < D * D') :
   Calls Tryz.prog 55 #[.agg #[.bool n, .slice A l c, .slice B k d], .agg #[.bool m, .slice A' l' c', .slice B' k' d']] w (RetR (aNeg n m (N * D') (N' * D) && decide (aMag n m (N * D') (N' * D) ≠ 0)) (fracN (aMag n m (N * D') (N' * D)) (D * D') 0) (fracD (aMag n m (N * D') (N' * D)) (D * D') 0) w) := by
 unfold aNeg aMag
 by_cases hnm : n = m
 · rw [if_pos hnm, if_pos hnm]
   exact radd_same n m A l c B k d N D A' l' c' B' k' d' N' D' w h h' hN hD hN' hD' hp (by simpa using hnm) ⟨rfl, rfl⟩
 · rw [if_neg hnm, if_neg hnm]
   by_cases hle : N' * D ≤ N * D'
   · rw [if_pos hle, if_pos hle]
     exact radd_ge n m A l c B k d N D A' l' c' B' k' d' N' D' w h h' hN hD hN' hD' hp (by simpa using hnm) hle
   · rw [if_neg hle, if_neg hle]
     exact radd_lt n m A l c B k d N D A' l' c' B' k' d' N' D' w h h' hN hD hN' hD' hp (by simpa using hnm) (by omega)
end Go.Proofs.YtbcaggdgoidlaaaGreatDoor

namespace Go.Proofs.YtbcaggdgoidlaaaGreatDoor
open Go.RowKit Nm Rn
set_option maxRecDepth 100000
set_option linter.unusedVariables false
set_option linter.unusedSimpArgs false
set_option maxHeartbeats 2000000 in
theorem rsubq_any (n m : Bool) (A : Option Addr) (l c : Nat) (B : Option Addr) (k d N D : Nat) (A' : Option Addr) (l' c' : Nat) (B' : Option Addr) (k' d' N' D' : Nat) (w : World)
   (h : RatAt w A l c B k d N D) (h' : RatAt w A' l' c' B' k' d' N' D') (hN : nw N ≤ 1073741824) (hD : nw D ≤ 1073741824) (hN' : nw N' ≤ 1073741824) (hD' : nw D' ≤ 1073741824) (hp : 0 < D * D') :
   Calls Tryz.prog 52 #[.agg #[.bool n, .slice A l c, .slice B k d], .agg #[.bool m, .slice A' l' c', .slice B' k' d']] w (RetR (sbS n m N D N' D') (sbN n m N D N' D') (sbD n m N D N' D') w) := by
 have hO := ((((Own.start w).add h.1).add h.2).add h'.1).add h'.2
 have HT1 := Lib.hid (fun (w : World) (h : RatAt w A' l' c' B' k' d' N' D') => rneg_any m A' l' c' B' k' d' N' D' w h hN' hD')
 obtain ⟨m2, hm2⟩ : ∃ m2, m2 = (!m && decide (N' ≠ 0)) := ⟨_, rfl⟩
 rw [← hm2] at HT1
 have HFR : Hid (∀ (A2 : Option Addr) (l2 c2 : Nat) (B2 : Option Addr) (k2 d2 : Nat) (w : World), RatAt w A l c B k d N D → RatAt w A2 l2 c2 B2 k2 d2 N' D' → Calls Tryz.prog 55 #[.agg #[.bool n, .slice A l c, .slice B k d], .agg #[.bool m2, .slice A2 l2 c2, .slice B2 k2 d2]] w (RetR (sbS n m N D N' D') (sbN n m N D N' D') (sbD n m N D N' D') w)) := Lib.hid (fun A2 l2 c2 B2 k2 d2 w h1 h2 => by
   have := radd_any n m2 A l c B k d N D A2 l2 c2 B2 k2 d2 N' D' w h1 h2 hN hD hN' hD' hp
   rw [hm2] at this
   rw [hm2]
   exact this)
 obtain ⟨s3, hs3⟩ : ∃ s, s = sbS n m N D N' D' := ⟨_, rfl⟩
 obtain ⟨N3, hN3⟩ : ∃ s, s = sbN n m N D N' D' := ⟨_, rfl⟩
 obtain ⟨D3, hD3⟩ : ∃ s, s = sbD n m N D N' D' := ⟨_, rfl⟩
 rw [← hs3, ← hN3, ← hD3] at HFR ⊢
 clear hs3 hN3 hD3 hm2 h h' hN hD hN' hD' hp
 go_enter Tryz.func52, Tryz.ntmps52
 go_wp2_with (first
   | (refine own_box (cs := [.bool n, .slice A l c, .slice B k d]) hO rfl rfl ?_; clear hO; intro ga wa hO)
   | (refine own_box (cs := [.bool m, .slice A' l' c', .slice B' k' d']) hO rfl rfl ?_; clear hO; intro gb wb hO)
   | (refine own_alloc hO zero_rat rfl rfl ?_; clear hO; intro g w1 hO))
 obtain ⟨S, hS⟩ : ∃ S : World → Prop, S = Own w [⟨g, 37, [.bool false, .slice none 0 0, .slice none 0 0]⟩, ⟨gb, 37, [.bool m, .slice A' l' c', .slice B' k' d']⟩, ⟨ga, 37, [.bool n, .slice A l c, .slice B k d]⟩] [⟨B', k', d', nd D'⟩, ⟨A', l', c', nd N'⟩, ⟨B, k, d, nd D⟩, ⟨A, l, c, nd N⟩] := ⟨_, rfl⟩
 have hSE : ∀ w w', S w → Ext w w' → S w' := fun w w' h1 h2 => by rw [hS] at h1 ⊢; exact h1.ext h2
 have hS1 : S w1.drew := by rw [hS]; exact hO.ext (Ext.refl w1).drew
 have HS := Lib.hid hS
 clear hS hO
 obtain ⟨sp, hsp⟩ : ∃ sp : Nat → Sp, sp = ofList [det (.agg #[.bool n, .slice A l c, .slice B k d]), det (.agg #[.bool m, .slice A' l' c', .slice B' k' d']),
   anyOf (fun v wz => ∃ A1 n1 c1 A2 n2 c2, v = .agg #[.bool m2, .slice A1 n1 c1, .slice A2 n2 c2] ∧ RatAt wz A1 n1 c1 A2 n2 c2 N' D'),
   anyOf (fun v wz => ∃ A1 n1 c1 A2 n2 c2, v = .agg #[.bool s3, .slice A1 n1 c1, .slice A2 n2 c2] ∧ RatAt wz A1 n1 c1 A2 n2 c2 N3 D3)] := ⟨_, rfl⟩
 have HSP := Lib.hid hsp
 clear hsp
 refine wp_region_loose 4 S sp (by kernel_rfl) (by kernel_rfl) hS1 hSE ?_
 simp only [List.take_succ_cons, List.take_zero, List.drop_succ_cons, List.drop_zero]
 iterate 2
   refine wpX_step (fun K hK => ?_)
   go_simp
   refine StepY.det (by rw [HSP.out]; rfl) ?_ ?_
   · intro wz hz hF
     rw [HS.out] at hz
     have hf := hz.facts
     simp only [BF, CF, Nat.zero_add, Nat.reduceAdd, and_true] at hf
     clear hz hF
     go_simp
     exact ⟨rfl, Ext.refl _⟩
   refine hK _ _ ?_
   clear hK K
 refine wpX_step (fun K hK => ?_)
 go_simp
 refine StepY.any (by rw [HSP.out]; rfl) ?_ ?_
 · intro wz hz hF
   rw [HS.out] at hz
   have h1 := hz.wd 1 rfl
   have h2 := hz.wd 0 rfl
   clear hz hF
   go_simp
   go_at_call 21
   refine (HT1.out _ ⟨h1, h2⟩).mono ?_
   rintro e w2 ⟨A3, n3, c3, A4, n4, c4, rfl, hW1, hW2, hE1⟩
   exact ⟨_, rfl, ⟨A3, n3, c3, A4, n4, c4, rfl, hW1, hW2⟩, hE1⟩
 intro v
 refine hK _ _ ?_
 clear hK K
 refine wpX_step (fun K hK => ?_)
 go_simp
 refine StepY.any (by rw [HSP.out]; rfl) ?_ ?_
 · intro wz hz hF
   rw [HS.out] at hz
   have h1 := hz.wd 3 rfl
   have h2 := hz.wd 2 rfl
   clear hz
   obtain ⟨wb', eb, A2, n2, c2, B2, k2, d2, hv2, hw2⟩ := hF.any 2 (by kernel_rfl) (by rw [HSP.out]; rfl)
   clear hF
   simp only [asFun, List.nil_append, List.cons_append, List.getD_cons_succ, List.getD_cons_zero] at hv2
   subst hv2
   go_simp
   go_at_call 55
   refine (HFR.out _ _ _ _ _ _ _ ⟨h1, h2⟩ (hw2.ext eb)).mono ?_
   rintro e w2 ⟨A3, n3, c3, A4, n4, c4, rfl, hW1, hW2, hE1⟩
   exact ⟨_, rfl, ⟨A3, n3, c3, A4, n4, c4, rfl, hW1, hW2⟩, hE1⟩
 intro v
 refine hK _ _ ?_
 clear hK K
 refine wpX_nil ?_
 intro w3 hz hF
 obtain ⟨w0, e0, A3, n3, c3, A4, n4, c4, hv, hw0⟩ := fact_any (hF 3 (by omega)) (by rw [HSP.out]; rfl)
 clear hF
 simp only [asFun, List.nil_append, List.cons_append, List.getD_cons_succ, List.getD_cons_zero] at hv
 subst hv
 rw [HS.out] at hz
 have hO := (hz.add (hw0.ext e0).1).add (hw0.ext e0).2
 clear hz hw0 e0
 go_wp2_with (refine own_store hO 0 rfl rfl rfl size_rat rfl rfl rfl ?_; clear hO; intro w4 hO)
 exact own_ret hO 0 rfl rfl rfl agg_rat size_rat rfl ⟨_, _, _, _, _, _, rfl, hO.wd 1 rfl, hO.wd 0 rfl, hO.toExt⟩
end Go.Proofs.YtbcaggdgoidlaaaGreatDoor
