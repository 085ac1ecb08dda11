/-
  The contract of the document's sum of two ratios. Conditions: those that each theorem names.
-/
import Derived.Test.YtjblogfbcglnmaaZ21
import Derived.Test.YtjblogfbcglnmaaZ17
import Derived.Test.YtjblogfbcglnmaaZ24
import Derived.Test.YtjblogfbcglnmaaZ07
namespace Go.Proofs.Ytjblogfbcglnmaa
open Go.RowKit Nm Rn
set_option maxRecDepth 100000
set_option linter.unusedVariables false
set_option linter.unusedSimpArgs false

set_option maxHeartbeats 2000000 in
theorem radd_same (n m : Bool) (A : Option Addr) (l c : Nat) (B : Option Addr) (k d N D : Nat) (A' : Option Addr) (l' c' : Nat) (B' : Option Addr) (k' d' N' D' : Nat) (w : World)
    (h : RatAt w A l c B k d N D) (h' : RatAt w A' l' c' B' k' d' N' D') (hN : nw N ≤ 1073741824) (hD : nw D ≤ 1073741824) (hN' : nw N' ≤ 1073741824) (hD' : nw D' ≤ 1073741824) (hp : 0 < D * D') (hnm : (n == m) = true) (hc : N * D' = N * D' ∧ N' * D = N' * D) :
    Calls Try.prog 82 #[.agg #[.bool n, .slice A l c, .slice B k d], .agg #[.bool m, .slice A' l' c', .slice B' k' d']] w (RetR (n && decide (N * D' + N' * D ≠ 0)) (fracN (N * D' + N' * D) (D * D') 0) (fracD (N * D' + N' * D) (D * D') 0) w) := by
  have hl := h.lenN
  have hk := h.lenD
  have hl' := h'.lenN
  have hk' := h'.lenD
  have hO := ((((Own.start w).add h.1).add h.2).add h'.1).add h'.2
  have hT1 := fun w h h' => times_any A l c (nd N) B' k' d' (nd D') w h (by omega) h' (by omega)
  have hT2 := fun w h h' => times_any A' l' c' (nd N') B k d (nd D) w h (by omega) h' (by omega)
  have hT3 := fun w h h' => times_any B k d (nd D) B' k' d' (nd D') w h (by omega) h' (by omega)
  have e1 := nw_mul2 N D'
  have e2 := nw_mul2 N' D
  have e3 := nw_mul2 D D'
  simp only [nv_nd] at hT1 hT2 hT3
  obtain ⟨P, hP⟩ : ∃ P, P = N * D' := ⟨_, rfl⟩
  obtain ⟨Q, hQ⟩ : ∃ Q, Q = N' * D := ⟨_, rfl⟩
  obtain ⟨R, hR⟩ : ∃ R, R = D * D' := ⟨_, rfl⟩
  rw [← hP] at hT1 e1 hc ⊢
  rw [← hQ] at hT2 e2 hc ⊢
  rw [← hR] at hT3 e3 hp ⊢
  obtain ⟨X, hX⟩ : ∃ X, X = P + Q := ⟨_, rfl⟩
  have hOP := fun A n1 c B n2 d w (h : Wds w A n1 c (nd P)) (k : Wds w B n2 d (nd Q)) => plus_any A n1 c (nd P) B n2 d (nd Q) w h (by have := h.len; rw [nd_length] at this; omega) k (by have := k.len; rw [nd_length] at this; omega)
  simp only [nv_nd] at hOP
  rw [← hX] at hOP ⊢
  have eX : nw X ≤ nw P + nw Q + 1 := by
    have h1 := lt_pow_nw P
    have h2 := lt_pow_nw Q
    have h3 : 4294967296 ^ nw P ≤ 4294967296 ^ (nw P + nw Q) := Nat.pow_le_pow_right (by omega) (by omega)
    have h4 : 4294967296 ^ nw Q ≤ 4294967296 ^ (nw P + nw Q) := Nat.pow_le_pow_right (by omega) (by omega)
    refine (nw_le_iff _ _).2 ?_
    rw [Nat.pow_succ]
    omega
  have hFR := fun A n1 c B n2 d w (h : Wds w A n1 c (nd X)) (k : Wds w B n2 d (nd R)) => frac_any n A n1 c (nd X) B n2 d (nd R) 0 w h (by have := h.len; rw [nd_length] at this; omega) k (by have := k.len; rw [nd_length] at this; omega) (by omega) (by omega) (by rw [nv_nd]; exact hp)
  simp only [nv_nd] at hFR
  clear eX
  obtain ⟨zz, hzz⟩ : ∃ zz, zz = (n && decide (X ≠ 0)) := ⟨_, rfl⟩
  rw [← hzz] at hFR ⊢
  clear hzz
  clear hc
  have HT1 := Lib.hid hT1
  have HT2 := Lib.hid hT2
  have HT3 := Lib.hid hT3
  have HFR := Lib.hid hFR
  have HOP := Lib.hid hOP
  clear hT1 hT2 hT3 hFR hOP hP hQ hR h h' hl hk hl' hk' hN hD hN' hD' hp e1 e2 e3 hX
  go_enter Try.func82, Try.ntmps82
  go_upto_region 1 with (first
    | (refine own_box (cs := [.bool n, .slice A l c, .slice B k d]) hO rfl rfl ?_; clear hO; intro ga wa hO)
    | (refine own_box (cs := [.bool m, .slice A' l' c', .slice B' k' d']) hO rfl rfl ?_; clear hO; intro gb wb hO)
    | (refine own_alloc hO zero_rat rfl rfl ?_; clear hO; intro g w1 hO))
  have hf := hO.facts
  simp only [BF, CF, Nat.zero_add, Nat.reduceAdd, and_true] at hf
  go_wp2_with fail
  refine (HT1.out _ (hO.wd 3 rfl) (hO.wd 0 rfl)).mono ?_
  rintro e w2 ⟨A5, n5, c5, rfl, hW, hE⟩
  have hO := (hO.ext hE).add hW
  clear hW hE hf
  have hf := hO.facts
  simp only [BF, CF, Nat.zero_add, Nat.reduceAdd, and_true] at hf
  go_wp2_with fail
  refine (HT2.out _ (hO.wd 2 rfl) (hO.wd 3 rfl)).mono ?_
  rintro e w3 ⟨A6, n6, c6, rfl, hW, hE⟩
  have hO := (hO.ext hE).add hW
  clear hW hE hf
  have hf := hO.facts
  simp only [BF, CF, Nat.zero_add, Nat.reduceAdd, and_true] at hf
  go_wp2_with fail
  refine (HT3.out _ (hO.wd 4 rfl) (hO.wd 2 rfl)).mono ?_
  rintro e w4 ⟨A7, n7, c7, rfl, hW, hE⟩
  have hO := (hO.ext hE).add hW
  clear hW hE hf
  have hf := hO.facts
  simp only [BF, CF, Nat.zero_add, Nat.reduceAdd, and_true] at hf
  go_wp2_with fail
  obtain ⟨S, hS⟩ : ∃ S : World → Prop, S = Own w [⟨g, 60, [.bool false, .slice none 0 0, .slice none 0 0]⟩, ⟨gb, 60, [.bool m, .slice A' l' c', .slice B' k' d']⟩, ⟨ga, 60, [.bool n, .slice A l c, .slice B k d]⟩] [⟨A7, n7, c7, nd R⟩, ⟨A6, n6, c6, nd Q⟩, ⟨A5, n5, c5, nd P⟩, ⟨B', k', d', nd D'⟩, ⟨A', l', c', nd N'⟩, ⟨B, k, d, nd D⟩, ⟨A, l, c, nd N⟩] := ⟨_, rfl⟩
  have hSE : ∀ w w', S w → Ext w w' → S w' := fun w w' h1 h2 => by rw [hS] at h1 ⊢; exact h1.ext h2
  have hS1 : S (w4).drew := by rw [hS]; exact hO.ext (Ext.refl _).drew
  have HS := Lib.hid hS
  clear hS hO hf
  obtain ⟨sp, hsp⟩ : ∃ sp : Nat → Sp, sp = ofList [det (.pointer (some ⟨ga, 0, none⟩)), det (.bool n), det (.slice A5 n5 c5), det (.slice A6 n6 c6), anyOf (fun v wz => ∃ A1 n1 c1, v = .slice A1 n1 c1 ∧ Wds wz A1 n1 c1 (nd X)), det (.slice A7 n7 c7),
    anyOf (fun v wz => ∃ A1 n1 c1 A2 n2 c2, v = .agg #[.bool zz, .slice A1 n1 c1, .slice A2 n2 c2] ∧ RatAt wz A1 n1 c1 A2 n2 c2 (fracN X R 0) (fracD X R 0))] := ⟨_, rfl⟩
  have HSP := Lib.hid hsp
  clear hsp
  refine wp_region_loose 7 S sp (by kernel_rfl) (by kernel_rfl) hS1 hSE ?_
  simp only [List.take_succ_cons, List.take_zero, List.drop_succ_cons, List.drop_zero]
  iterate 6
    refine wpX_step (fun K hK => ?_)
    go_simp
    first
    | (refine ⟨by rw [HSP.out]; rfl, hK _ _ ?_⟩
       clear hK K)
    | (refine StepY.det (by rw [HSP.out]; rfl) ?_ ?_
       · intro wz hz hF
         rw [HS.out] at hz
         have hf := hz.facts
         simp only [BF, CF, Nat.zero_add, Nat.reduceAdd, and_true] at hf
         clear hz hF
         go_simp
         exact ⟨rfl, Ext.refl _⟩
       refine hK _ _ ?_
       clear hK K)
    | (refine StepY.any (by rw [HSP.out]; rfl) ?_ ?_
       · intro wz hz hF
         rw [HS.out] at hz
         have h1 := hz.wd 1 rfl
         have h2 := hz.wd 2 rfl
         clear hz
         go_simp
         go_at_call 124
         (with_reducible refine (HOP.out _ _ _ _ _ _ _ h2 h1).mono ?_)
         rintro e w2 ⟨A1, n1, c1, rfl, hW1, hE1⟩
         exact ⟨_, rfl, ⟨A1, n1, c1, rfl, hW1⟩, hE1⟩
       intro v
       refine hK _ _ ?_
       clear hK K)
  refine wpX_step (fun K hK => ?_)
  go_simp
  refine StepY.any (by rw [HSP.out]; rfl) ?_ ?_
  · intro wz hz hF
    obtain ⟨wa', ea, A1, n1, c1, hv1, hw1⟩ := hF.any 4 (by kernel_rfl) (by rw [HSP.out]; rfl)
    clear hF
    simp only [asFun, List.nil_append, List.cons_append, List.getD_cons_succ, List.getD_cons_zero] at hv1
    subst hv1
    rw [HS.out] at hz
    go_simp
    go_at_call 88
    refine (HFR.out _ _ _ _ _ _ _ (hw1.ext ea) (hz.wd 0 rfl)).mono ?_
    rintro e w2 ⟨A3, n3, c3, A4, n4, c4, rfl, hW1, hW2, hE1⟩
    exact ⟨_, rfl, ⟨A3, n3, c3, A4, n4, c4, rfl, hW1, hW2⟩, hE1⟩
  intro v
  refine hK _ _ ?_
  clear hK K
  refine wpX_nil ?_
  intro w3 hz hF
  obtain ⟨w0, e0, A3, n3, c3, A4, n4, c4, hv, hw0⟩ := fact_any (hF 6 (by omega)) (by rw [HSP.out]; rfl)
  clear hF
  simp only [asFun, List.nil_append, List.cons_append, List.getD_cons_succ, List.getD_cons_zero] at hv
  subst hv
  rw [HS.out] at hz
  have hO := (hz.add (hw0.ext e0).1).add (hw0.ext e0).2
  clear hz hw0 e0
  go_wp2_with (refine own_store hO 0 rfl rfl rfl size_rat rfl rfl rfl ?_; clear hO; intro w4 hO)
  exact own_ret hO 0 rfl rfl rfl agg_rat size_rat rfl ⟨_, _, _, _, _, _, rfl, hO.wd 1 rfl, hO.wd 0 rfl, hO.toExt⟩

set_option maxHeartbeats 2000000 in
theorem radd_ge (n m : Bool) (A : Option Addr) (l c : Nat) (B : Option Addr) (k d N D : Nat) (A' : Option Addr) (l' c' : Nat) (B' : Option Addr) (k' d' N' D' : Nat) (w : World)
    (h : RatAt w A l c B k d N D) (h' : RatAt w A' l' c' B' k' d' N' D') (hN : nw N ≤ 1073741824) (hD : nw D ≤ 1073741824) (hN' : nw N' ≤ 1073741824) (hD' : nw D' ≤ 1073741824) (hp : 0 < D * D') (hnm : (n == m) = false) (hc : N' * D ≤ N * D') :
    Calls Try.prog 82 #[.agg #[.bool n, .slice A l c, .slice B k d], .agg #[.bool m, .slice A' l' c', .slice B' k' d']] w (RetR (n && decide (N * D' - N' * D ≠ 0)) (fracN (N * D' - N' * D) (D * D') 0) (fracD (N * D' - N' * D) (D * D') 0) w) := by
  have hl := h.lenN
  have hk := h.lenD
  have hl' := h'.lenN
  have hk' := h'.lenD
  have hO := ((((Own.start w).add h.1).add h.2).add h'.1).add h'.2
  have hT1 := fun w h h' => times_any A l c (nd N) B' k' d' (nd D') w h (by omega) h' (by omega)
  have hT2 := fun w h h' => times_any A' l' c' (nd N') B k d (nd D) w h (by omega) h' (by omega)
  have hT3 := fun w h h' => times_any B k d (nd D) B' k' d' (nd D') w h (by omega) h' (by omega)
  have e1 := nw_mul2 N D'
  have e2 := nw_mul2 N' D
  have e3 := nw_mul2 D D'
  simp only [nv_nd] at hT1 hT2 hT3
  obtain ⟨P, hP⟩ : ∃ P, P = N * D' := ⟨_, rfl⟩
  obtain ⟨Q, hQ⟩ : ∃ Q, Q = N' * D := ⟨_, rfl⟩
  obtain ⟨R, hR⟩ : ∃ R, R = D * D' := ⟨_, rfl⟩
  rw [← hP] at hT1 e1 hc ⊢
  rw [← hQ] at hT2 e2 hc ⊢
  rw [← hR] at hT3 e3 hp ⊢
  obtain ⟨X, hX⟩ : ∃ X, X = P - Q := ⟨_, rfl⟩
  have hOP := fun A n1 c B n2 d w (h : Wds w A n1 c (nd P)) (k : Wds w B n2 d (nd Q)) => minus_any A n1 c (nd P) B n2 d (nd Q) w h (by have := h.len; rw [nd_length] at this; omega) k (by have := k.len; rw [nd_length] at this; omega) (by rw [nv_nd, nv_nd]; omega)
  simp only [nv_nd] at hOP
  rw [← hX] at hOP ⊢
  have eX : nw X ≤ nw P + nw Q + 1 := by
    have h1 := lt_pow_nw P
    have h2 := lt_pow_nw Q
    have h3 : 4294967296 ^ nw P ≤ 4294967296 ^ (nw P + nw Q) := Nat.pow_le_pow_right (by omega) (by omega)
    have h4 : 4294967296 ^ nw Q ≤ 4294967296 ^ (nw P + nw Q) := Nat.pow_le_pow_right (by omega) (by omega)
    refine (nw_le_iff _ _).2 ?_
    rw [Nat.pow_succ]
    omega
  have hFR := fun A n1 c B n2 d w (h : Wds w A n1 c (nd X)) (k : Wds w B n2 d (nd R)) => frac_any n A n1 c (nd X) B n2 d (nd R) 0 w h (by have := h.len; rw [nd_length] at this; omega) k (by have := k.len; rw [nd_length] at this; omega) (by omega) (by omega) (by rw [nv_nd]; exact hp)
  simp only [nv_nd] at hFR
  clear eX
  obtain ⟨zz, hzz⟩ : ∃ zz, zz = (n && decide (X ≠ 0)) := ⟨_, rfl⟩
  rw [← hzz] at hFR ⊢
  clear hzz
  have hCM := fun A n1 c B n2 d w (h : Wds w A n1 c (nd P)) (k : Wds w B n2 d (nd Q)) => cmp_any A n1 c (nd P) B n2 d (nd Q) w h (by have := h.len; rw [nd_length] at this; omega) k (by have := k.len; rw [nd_length] at this; omega)
  simp only [nv_nd] at hCM
  have hcc : decide (0 ≤ cmpN P Q) = true := by
    unfold cmpN
    rw [if_neg (by omega)]; split <;> simp
  have HCM := Lib.hid hCM
  clear hCM hc
  have HT1 := Lib.hid hT1
  have HT2 := Lib.hid hT2
  have HT3 := Lib.hid hT3
  have HFR := Lib.hid hFR
  have HOP := Lib.hid hOP
  clear hT1 hT2 hT3 hFR hOP hP hQ hR h h' hl hk hl' hk' hN hD hN' hD' hp e1 e2 e3 hX
  go_enter Try.func82, Try.ntmps82
  go_upto_region 1 with (first
    | (refine own_box (cs := [.bool n, .slice A l c, .slice B k d]) hO rfl rfl ?_; clear hO; intro ga wa hO)
    | (refine own_box (cs := [.bool m, .slice A' l' c', .slice B' k' d']) hO rfl rfl ?_; clear hO; intro gb wb hO)
    | (refine own_alloc hO zero_rat rfl rfl ?_; clear hO; intro g w1 hO))
  have hf := hO.facts
  simp only [BF, CF, Nat.zero_add, Nat.reduceAdd, and_true] at hf
  go_wp2_with fail
  refine (HT1.out _ (hO.wd 3 rfl) (hO.wd 0 rfl)).mono ?_
  rintro e w2 ⟨A5, n5, c5, rfl, hW, hE⟩
  have hO := (hO.ext hE).add hW
  clear hW hE hf
  have hf := hO.facts
  simp only [BF, CF, Nat.zero_add, Nat.reduceAdd, and_true] at hf
  go_wp2_with fail
  refine (HT2.out _ (hO.wd 2 rfl) (hO.wd 3 rfl)).mono ?_
  rintro e w3 ⟨A6, n6, c6, rfl, hW, hE⟩
  have hO := (hO.ext hE).add hW
  clear hW hE hf
  have hf := hO.facts
  simp only [BF, CF, Nat.zero_add, Nat.reduceAdd, and_true] at hf
  go_wp2_with fail
  refine (HT3.out _ (hO.wd 4 rfl) (hO.wd 2 rfl)).mono ?_
  rintro e w4 ⟨A7, n7, c7, rfl, hW, hE⟩
  have hO := (hO.ext hE).add hW
  clear hW hE hf
  have hf := hO.facts
  simp only [BF, CF, Nat.zero_add, Nat.reduceAdd, and_true] at hf
  go_wp2_with fail
  refine (HCM.out _ _ _ _ _ _ _ (hO.wd 2 rfl) (hO.wd 1 rfl)).mono ?_
  rintro e w5 ⟨rfl, q, rfl⟩
  have hO := hO.ext ((Ext.refl w4).drewN q)
  clear hf
  have hf := hO.facts
  simp only [BF, CF, Nat.zero_add, Nat.reduceAdd, and_true] at hf
  go_wp2_with fail
  obtain ⟨S, hS⟩ : ∃ S : World → Prop, S = Own w [⟨g, 60, [.bool false, .slice none 0 0, .slice none 0 0]⟩, ⟨gb, 60, [.bool m, .slice A' l' c', .slice B' k' d']⟩, ⟨ga, 60, [.bool n, .slice A l c, .slice B k d]⟩] [⟨A7, n7, c7, nd R⟩, ⟨A6, n6, c6, nd Q⟩, ⟨A5, n5, c5, nd P⟩, ⟨B', k', d', nd D'⟩, ⟨A', l', c', nd N'⟩, ⟨B, k, d, nd D⟩, ⟨A, l, c, nd N⟩] := ⟨_, rfl⟩
  have hSE : ∀ w w', S w → Ext w w' → S w' := fun w w' h1 h2 => by rw [hS] at h1 ⊢; exact h1.ext h2
  have hS1 : S (w4.drewN q).drew := by rw [hS]; exact hO.ext (Ext.refl _).drew
  have HS := Lib.hid hS
  clear hS hO hf
  obtain ⟨sp, hsp⟩ : ∃ sp : Nat → Sp, sp = ofList [det (.pointer (some ⟨ga, 0, none⟩)), det (.bool n), det (.slice A5 n5 c5), det (.slice A6 n6 c6), anyOf (fun v wz => ∃ A1 n1 c1, v = .slice A1 n1 c1 ∧ Wds wz A1 n1 c1 (nd X)), det (.slice A7 n7 c7),
    anyOf (fun v wz => ∃ A1 n1 c1 A2 n2 c2, v = .agg #[.bool zz, .slice A1 n1 c1, .slice A2 n2 c2] ∧ RatAt wz A1 n1 c1 A2 n2 c2 (fracN X R 0) (fracD X R 0))] := ⟨_, rfl⟩
  have HSP := Lib.hid hsp
  clear hsp
  refine wp_region_loose 7 S sp (by kernel_rfl) (by kernel_rfl) hS1 hSE ?_
  simp only [List.take_succ_cons, List.take_zero, List.drop_succ_cons, List.drop_zero]
  iterate 6
    refine wpX_step (fun K hK => ?_)
    go_simp
    first
    | (refine ⟨by rw [HSP.out]; rfl, hK _ _ ?_⟩
       clear hK K)
    | (refine StepY.det (by rw [HSP.out]; rfl) ?_ ?_
       · intro wz hz hF
         rw [HS.out] at hz
         have hf := hz.facts
         simp only [BF, CF, Nat.zero_add, Nat.reduceAdd, and_true] at hf
         clear hz hF
         go_simp
         exact ⟨rfl, Ext.refl _⟩
       refine hK _ _ ?_
       clear hK K)
    | (refine StepY.any (by rw [HSP.out]; rfl) ?_ ?_
       · intro wz hz hF
         rw [HS.out] at hz
         have h1 := hz.wd 1 rfl
         have h2 := hz.wd 2 rfl
         clear hz
         go_simp
         go_at_call 125
         (with_reducible refine (HOP.out _ _ _ _ _ _ _ h2 h1).mono ?_)
         rintro e w2 ⟨A1, n1, c1, rfl, hW1, hE1⟩
         exact ⟨_, rfl, ⟨A1, n1, c1, rfl, hW1⟩, hE1⟩
       intro v
       refine hK _ _ ?_
       clear hK K)
  refine wpX_step (fun K hK => ?_)
  go_simp
  refine StepY.any (by rw [HSP.out]; rfl) ?_ ?_
  · intro wz hz hF
    obtain ⟨wa', ea, A1, n1, c1, hv1, hw1⟩ := hF.any 4 (by kernel_rfl) (by rw [HSP.out]; rfl)
    clear hF
    simp only [asFun, List.nil_append, List.cons_append, List.getD_cons_succ, List.getD_cons_zero] at hv1
    subst hv1
    rw [HS.out] at hz
    go_simp
    go_at_call 88
    refine (HFR.out _ _ _ _ _ _ _ (hw1.ext ea) (hz.wd 0 rfl)).mono ?_
    rintro e w2 ⟨A3, n3, c3, A4, n4, c4, rfl, hW1, hW2, hE1⟩
    exact ⟨_, rfl, ⟨A3, n3, c3, A4, n4, c4, rfl, hW1, hW2⟩, hE1⟩
  intro v
  refine hK _ _ ?_
  clear hK K
  refine wpX_nil ?_
  intro w3 hz hF
  obtain ⟨w0, e0, A3, n3, c3, A4, n4, c4, hv, hw0⟩ := fact_any (hF 6 (by omega)) (by rw [HSP.out]; rfl)
  clear hF
  simp only [asFun, List.nil_append, List.cons_append, List.getD_cons_succ, List.getD_cons_zero] at hv
  subst hv
  rw [HS.out] at hz
  have hO := (hz.add (hw0.ext e0).1).add (hw0.ext e0).2
  clear hz hw0 e0
  go_wp2_with (refine own_store hO 0 rfl rfl rfl size_rat rfl rfl rfl ?_; clear hO; intro w4 hO)
  exact own_ret hO 0 rfl rfl rfl agg_rat size_rat rfl ⟨_, _, _, _, _, _, rfl, hO.wd 1 rfl, hO.wd 0 rfl, hO.toExt⟩

set_option maxHeartbeats 2000000 in
theorem radd_lt (n m : Bool) (A : Option Addr) (l c : Nat) (B : Option Addr) (k d N D : Nat) (A' : Option Addr) (l' c' : Nat) (B' : Option Addr) (k' d' N' D' : Nat) (w : World)
    (h : RatAt w A l c B k d N D) (h' : RatAt w A' l' c' B' k' d' N' D') (hN : nw N ≤ 1073741824) (hD : nw D ≤ 1073741824) (hN' : nw N' ≤ 1073741824) (hD' : nw D' ≤ 1073741824) (hp : 0 < D * D') (hnm : (n == m) = false) (hc : N * D' < N' * D) :
    Calls Try.prog 82 #[.agg #[.bool n, .slice A l c, .slice B k d], .agg #[.bool m, .slice A' l' c', .slice B' k' d']] w (RetR (m && decide (N' * D - N * D' ≠ 0)) (fracN (N' * D - N * D') (D * D') 0) (fracD (N' * D - N * D') (D * D') 0) w) := by
  have hl := h.lenN
  have hk := h.lenD
  have hl' := h'.lenN
  have hk' := h'.lenD
  have hO := ((((Own.start w).add h.1).add h.2).add h'.1).add h'.2
  have hT1 := fun w h h' => times_any A l c (nd N) B' k' d' (nd D') w h (by omega) h' (by omega)
  have hT2 := fun w h h' => times_any A' l' c' (nd N') B k d (nd D) w h (by omega) h' (by omega)
  have hT3 := fun w h h' => times_any B k d (nd D) B' k' d' (nd D') w h (by omega) h' (by omega)
  have e1 := nw_mul2 N D'
  have e2 := nw_mul2 N' D
  have e3 := nw_mul2 D D'
  simp only [nv_nd] at hT1 hT2 hT3
  obtain ⟨P, hP⟩ : ∃ P, P = N * D' := ⟨_, rfl⟩
  obtain ⟨Q, hQ⟩ : ∃ Q, Q = N' * D := ⟨_, rfl⟩
  obtain ⟨R, hR⟩ : ∃ R, R = D * D' := ⟨_, rfl⟩
  rw [← hP] at hT1 e1 hc ⊢
  rw [← hQ] at hT2 e2 hc ⊢
  rw [← hR] at hT3 e3 hp ⊢
  obtain ⟨X, hX⟩ : ∃ X, X = Q - P := ⟨_, rfl⟩
  have hOP := fun A n1 c B n2 d w (h : Wds w A n1 c (nd Q)) (k : Wds w B n2 d (nd P)) => minus_any A n1 c (nd Q) B n2 d (nd P) w h (by have := h.len; rw [nd_length] at this; omega) k (by have := k.len; rw [nd_length] at this; omega) (by rw [nv_nd, nv_nd]; omega)
  simp only [nv_nd] at hOP
  rw [← hX] at hOP ⊢
  have eX : nw X ≤ nw P + nw Q + 1 := by
    have h1 := lt_pow_nw P
    have h2 := lt_pow_nw Q
    have h3 : 4294967296 ^ nw P ≤ 4294967296 ^ (nw P + nw Q) := Nat.pow_le_pow_right (by omega) (by omega)
    have h4 : 4294967296 ^ nw Q ≤ 4294967296 ^ (nw P + nw Q) := Nat.pow_le_pow_right (by omega) (by omega)
    refine (nw_le_iff _ _).2 ?_
    rw [Nat.pow_succ]
    omega
  have hFR := fun A n1 c B n2 d w (h : Wds w A n1 c (nd X)) (k : Wds w B n2 d (nd R)) => frac_any m A n1 c (nd X) B n2 d (nd R) 0 w h (by have := h.len; rw [nd_length] at this; omega) k (by have := k.len; rw [nd_length] at this; omega) (by omega) (by omega) (by rw [nv_nd]; exact hp)
  simp only [nv_nd] at hFR
  clear eX
  obtain ⟨zz, hzz⟩ : ∃ zz, zz = (m && decide (X ≠ 0)) := ⟨_, rfl⟩
  rw [← hzz] at hFR ⊢
  clear hzz
  have hCM := fun A n1 c B n2 d w (h : Wds w A n1 c (nd P)) (k : Wds w B n2 d (nd Q)) => cmp_any A n1 c (nd P) B n2 d (nd Q) w h (by have := h.len; rw [nd_length] at this; omega) k (by have := k.len; rw [nd_length] at this; omega)
  simp only [nv_nd] at hCM
  have hcc : decide (0 ≤ cmpN P Q) = false := by
    unfold cmpN
    rw [if_pos (by omega)]; simp
  have HCM := Lib.hid hCM
  clear hCM hc
  have HT1 := Lib.hid hT1
  have HT2 := Lib.hid hT2
  have HT3 := Lib.hid hT3
  have HFR := Lib.hid hFR
  have HOP := Lib.hid hOP
  clear hT1 hT2 hT3 hFR hOP hP hQ hR h h' hl hk hl' hk' hN hD hN' hD' hp e1 e2 e3 hX
  go_enter Try.func82, Try.ntmps82
  go_upto_region 1 with (first
    | (refine own_box (cs := [.bool n, .slice A l c, .slice B k d]) hO rfl rfl ?_; clear hO; intro ga wa hO)
    | (refine own_box (cs := [.bool m, .slice A' l' c', .slice B' k' d']) hO rfl rfl ?_; clear hO; intro gb wb hO)
    | (refine own_alloc hO zero_rat rfl rfl ?_; clear hO; intro g w1 hO))
  have hf := hO.facts
  simp only [BF, CF, Nat.zero_add, Nat.reduceAdd, and_true] at hf
  go_wp2_with fail
  refine (HT1.out _ (hO.wd 3 rfl) (hO.wd 0 rfl)).mono ?_
  rintro e w2 ⟨A5, n5, c5, rfl, hW, hE⟩
  have hO := (hO.ext hE).add hW
  clear hW hE hf
  have hf := hO.facts
  simp only [BF, CF, Nat.zero_add, Nat.reduceAdd, and_true] at hf
  go_wp2_with fail
  refine (HT2.out _ (hO.wd 2 rfl) (hO.wd 3 rfl)).mono ?_
  rintro e w3 ⟨A6, n6, c6, rfl, hW, hE⟩
  have hO := (hO.ext hE).add hW
  clear hW hE hf
  have hf := hO.facts
  simp only [BF, CF, Nat.zero_add, Nat.reduceAdd, and_true] at hf
  go_wp2_with fail
  refine (HT3.out _ (hO.wd 4 rfl) (hO.wd 2 rfl)).mono ?_
  rintro e w4 ⟨A7, n7, c7, rfl, hW, hE⟩
  have hO := (hO.ext hE).add hW
  clear hW hE hf
  have hf := hO.facts
  simp only [BF, CF, Nat.zero_add, Nat.reduceAdd, and_true] at hf
  go_wp2_with fail
  refine (HCM.out _ _ _ _ _ _ _ (hO.wd 2 rfl) (hO.wd 1 rfl)).mono ?_
  rintro e w5 ⟨rfl, q, rfl⟩
  have hO := hO.ext ((Ext.refl w4).drewN q)
  clear hf
  have hf := hO.facts
  simp only [BF, CF, Nat.zero_add, Nat.reduceAdd, and_true] at hf
  go_wp2_with fail
  obtain ⟨S, hS⟩ : ∃ S : World → Prop, S = Own w [⟨g, 60, [.bool false, .slice none 0 0, .slice none 0 0]⟩, ⟨gb, 60, [.bool m, .slice A' l' c', .slice B' k' d']⟩, ⟨ga, 60, [.bool n, .slice A l c, .slice B k d]⟩] [⟨A7, n7, c7, nd R⟩, ⟨A6, n6, c6, nd Q⟩, ⟨A5, n5, c5, nd P⟩, ⟨B', k', d', nd D'⟩, ⟨A', l', c', nd N'⟩, ⟨B, k, d, nd D⟩, ⟨A, l, c, nd N⟩] := ⟨_, rfl⟩
  have hSE : ∀ w w', S w → Ext w w' → S w' := fun w w' h1 h2 => by rw [hS] at h1 ⊢; exact h1.ext h2
  have hS1 : S (w4.drewN q).drew := by rw [hS]; exact hO.ext (Ext.refl _).drew
  have HS := Lib.hid hS
  clear hS hO hf
  obtain ⟨sp, hsp⟩ : ∃ sp : Nat → Sp, sp = ofList [det (.pointer (some ⟨gb, 0, none⟩)), det (.bool m), det (.slice A6 n6 c6), det (.slice A5 n5 c5), anyOf (fun v wz => ∃ A1 n1 c1, v = .slice A1 n1 c1 ∧ Wds wz A1 n1 c1 (nd X)), det (.slice A7 n7 c7),
    anyOf (fun v wz => ∃ A1 n1 c1 A2 n2 c2, v = .agg #[.bool zz, .slice A1 n1 c1, .slice A2 n2 c2] ∧ RatAt wz A1 n1 c1 A2 n2 c2 (fracN X R 0) (fracD X R 0))] := ⟨_, rfl⟩
  have HSP := Lib.hid hsp
  clear hsp
  refine wp_region_loose 7 S sp (by kernel_rfl) (by kernel_rfl) hS1 hSE ?_
  simp only [List.take_succ_cons, List.take_zero, List.drop_succ_cons, List.drop_zero]
  iterate 6
    refine wpX_step (fun K hK => ?_)
    go_simp
    first
    | (refine ⟨by rw [HSP.out]; rfl, hK _ _ ?_⟩
       clear hK K)
    | (refine StepY.det (by rw [HSP.out]; rfl) ?_ ?_
       · intro wz hz hF
         rw [HS.out] at hz
         have hf := hz.facts
         simp only [BF, CF, Nat.zero_add, Nat.reduceAdd, and_true] at hf
         clear hz hF
         go_simp
         exact ⟨rfl, Ext.refl _⟩
       refine hK _ _ ?_
       clear hK K)
    | (refine StepY.any (by rw [HSP.out]; rfl) ?_ ?_
       · intro wz hz hF
         rw [HS.out] at hz
         have h1 := hz.wd 1 rfl
         have h2 := hz.wd 2 rfl
         clear hz
         go_simp
         go_at_call 125
         (with_reducible refine (HOP.out _ _ _ _ _ _ _ h1 h2).mono ?_)
         rintro e w2 ⟨A1, n1, c1, rfl, hW1, hE1⟩
         exact ⟨_, rfl, ⟨A1, n1, c1, rfl, hW1⟩, hE1⟩
       intro v
       refine hK _ _ ?_
       clear hK K)
  refine wpX_step (fun K hK => ?_)
  go_simp
  refine StepY.any (by rw [HSP.out]; rfl) ?_ ?_
  · intro wz hz hF
    obtain ⟨wa', ea, A1, n1, c1, hv1, hw1⟩ := hF.any 4 (by kernel_rfl) (by rw [HSP.out]; rfl)
    clear hF
    simp only [asFun, List.nil_append, List.cons_append, List.getD_cons_succ, List.getD_cons_zero] at hv1
    subst hv1
    rw [HS.out] at hz
    go_simp
    go_at_call 88
    refine (HFR.out _ _ _ _ _ _ _ (hw1.ext ea) (hz.wd 0 rfl)).mono ?_
    rintro e w2 ⟨A3, n3, c3, A4, n4, c4, rfl, hW1, hW2, hE1⟩
    exact ⟨_, rfl, ⟨A3, n3, c3, A4, n4, c4, rfl, hW1, hW2⟩, hE1⟩
  intro v
  refine hK _ _ ?_
  clear hK K
  refine wpX_nil ?_
  intro w3 hz hF
  obtain ⟨w0, e0, A3, n3, c3, A4, n4, c4, hv, hw0⟩ := fact_any (hF 6 (by omega)) (by rw [HSP.out]; rfl)
  clear hF
  simp only [asFun, List.nil_append, List.cons_append, List.getD_cons_succ, List.getD_cons_zero] at hv
  subst hv
  rw [HS.out] at hz
  have hO := (hz.add (hw0.ext e0).1).add (hw0.ext e0).2
  clear hz hw0 e0
  go_wp2_with (refine own_store hO 0 rfl rfl rfl size_rat rfl rfl rfl ?_; clear hO; intro w4 hO)
  exact own_ret hO 0 rfl rfl rfl agg_rat size_rat rfl ⟨_, _, _, _, _, _, rfl, hO.wd 1 rfl, hO.wd 0 rfl, hO.toExt⟩

theorem radd_any (n m : Bool) (A : Option Addr) (l c : Nat) (B : Option Addr) (k d N D : Nat) (A' : Option Addr) (l' c' : Nat) (B' : Option Addr) (k' d' N' D' : Nat) (w : World)
    (h : RatAt w A l c B k d N D) (h' : RatAt w A' l' c' B' k' d' N' D') (hN : nw N ≤ 1073741824) (hD : nw D ≤ 1073741824) (hN' : nw N' ≤ 1073741824) (hD' : nw D' ≤ 1073741824) (hp : 0 < D * D') :
    Calls Try.prog 82 #[.agg #[.bool n, .slice A l c, .slice B k d], .agg #[.bool m, .slice A' l' c', .slice B' k' d']] w (RetR (aNeg n m (N * D') (N' * D) && decide (aMag n m (N * D') (N' * D) ≠ 0)) (fracN (aMag n m (N * D') (N' * D)) (D * D') 0) (fracD (aMag n m (N * D') (N' * D)) (D * D') 0) w) := by
  unfold aNeg aMag
  by_cases hnm : n = m
  · rw [if_pos hnm, if_pos hnm]
    exact radd_same n m A l c B k d N D A' l' c' B' k' d' N' D' w h h' hN hD hN' hD' hp (by simpa using hnm) ⟨rfl, rfl⟩
  · rw [if_neg hnm, if_neg hnm]
    by_cases hle : N' * D ≤ N * D'
    · rw [if_pos hle, if_pos hle]
      exact radd_ge n m A l c B k d N D A' l' c' B' k' d' N' D' w h h' hN hD hN' hD' hp (by simpa using hnm) hle
    · rw [if_neg hle, if_neg hle]
      exact radd_lt n m A l c B k d N D A' l' c' B' k' d' N' D' w h h' hN hD hN' hD' hp (by simpa using hnm) (by omega)
end Go.Proofs.Ytjblogfbcglnmaa

/-
  The contracts of the document's Add and Sub. Conditions: those that each theorem names.
-/
namespace Go.Proofs.Ytjblogfbcglnmaa
open Go.RowKit Nm Rn
set_option maxRecDepth 100000
set_option linter.unusedVariables false
set_option linter.unusedSimpArgs false

theorem aMag_nw {n m : Bool} {P Q k : Nat} (hP : nw P ≤ k) (hQ : nw Q ≤ k) : nw (aMag n m P Q) ≤ k + 1 := by
  have h1 := (nw_le_iff P k).1 hP
  have h2 := (nw_le_iff Q k).1 hQ
  refine (nw_le_iff _ _).2 ?_
  rw [Nat.pow_succ]
  unfold aMag
  repeat' split
  all_goals omega

set_option maxHeartbeats 2000000 in
theorem add3_any (d : Int) (x y : Nat) (w : World) (hx : x < 18446744073709551616) (hy : y < 18446744073709551616) :
    Calls Try.prog 31 #[.int .i64 d, .int .u64 (x : Int), .int .u64 (y : Int)] w fun e w' => e = .returned (.int .u64 (addR d x y : Nat)) ∧ Ext w w' := by
  have HNX := Lib.hid (fun w => isnan_any x w hx)
  have HNY := Lib.hid (fun w => isnan_any y w hy)
  have HIX := Lib.hid (fun w => isinf3_any x w hx)
  have HIY := Lib.hid (fun w => isinf3_any y w hy)
  have hV : addR d x y = if isNaN x || isNaN y then NaNc else if isInf x && isInf y && decide (x ≠ y) then NaNc else if isInf x then x else if isInf y then y else rT d ((sv x + sv y) * (K74 : Int)) := rfl
  have hne : ((x : Int) != (y : Int)) = decide (x ≠ y) := by
    rw [Bool.eq_iff_iff, bne_iff_ne, decide_eq_true_iff]; omega
  obtain ⟨V, hVV⟩ : ∃ V, V = addR d x y := ⟨_, rfl⟩
  rw [← hVV] at hV ⊢
  clear hVV
  obtain ⟨n1, h1⟩ : ∃ b, b = isNaN x := ⟨_, rfl⟩
  obtain ⟨n2, h2⟩ : ∃ b, b = isNaN y := ⟨_, rfl⟩
  obtain ⟨i1, h3⟩ : ∃ b, b = isInf x := ⟨_, rfl⟩
  obtain ⟨i2, h4⟩ : ∃ b, b = isInf y := ⟨_, rfl⟩
  obtain ⟨ne, h5⟩ : ∃ b, b = decide (x ≠ y) := ⟨_, rfl⟩
  rw [← h1] at HNX hV
  rw [← h2] at HNY hV
  rw [← h3] at HIX hV
  rw [← h4] at HIY hV
  rw [← h5] at hV hne
  clear h1 h2 h3 h4 h5
  cases n1
  case true =>
    have HV : Hid (9221120237041090561 = (V : Int)) := Lib.hid (by rw [hV, Bool.true_or, if_pos rfl, NaNc_val]; rfl)
    clear hV hx hy hne
    go_enter Try.func31, Try.ntmps31
    go_wp2_with (go_at_call 58; ((with_reducible refine (HNX.out _).mono ?_); rintro e w' ⟨rfl, rfl⟩))
    go_ret
    exact ⟨ret_int HV.out, Ext.refl _⟩
  case false =>
    cases n2
    case true =>
      have HV : Hid (9221120237041090561 = (V : Int)) := Lib.hid (by rw [hV, Bool.or_true, if_pos rfl, NaNc_val]; rfl)
      clear hV hx hy hne
      go_enter Try.func31, Try.ntmps31
      go_wp2_with (first | (go_at_call 58; ((with_reducible refine (HNX.out _).mono ?_); rintro e w' ⟨rfl, rfl⟩)) | (go_at_call 58; ((with_reducible refine (HNY.out _).mono ?_); rintro e w' ⟨rfl, rfl⟩)))
      go_ret
      exact ⟨ret_int HV.out, Ext.refl _⟩
    case false =>
      rw [Bool.or_false, if_neg (by simp)] at hV
      have hc : (i1 = true ∧ i2 = true ∧ ne = true ∧ V = NaNc) ∨ (i1 = true ∧ i2 = true ∧ ne = false ∧ V = x) ∨ (i1 = true ∧ i2 = false ∧ V = x) ∨ (i1 = false ∧ i2 = true ∧ V = y) ∨ (i1 = false ∧ i2 = false ∧ V = rT d ((sv x + sv y) * (K74 : Int))) := by
        cases i1 <;> cases i2 <;> cases ne <;> simp at hV ⊢ <;> exact hV
      clear hV
      rcases hc with ⟨rfl, rfl, rfl, hV⟩ | ⟨rfl, rfl, rfl, hV⟩ | ⟨rfl, rfl, hV⟩ | ⟨rfl, rfl, hV⟩ | ⟨rfl, rfl, hV⟩
      · have HV : Hid (9221120237041090561 = (V : Int)) := Lib.hid (by rw [hV, NaNc_val]; rfl)
        clear hV hx hy
        go_enter Try.func31, Try.ntmps31
        go_wp2_with (first | (go_at_call 58; ((with_reducible refine (HNX.out _).mono ?_); rintro e w' ⟨rfl, rfl⟩)) | (go_at_call 58; ((with_reducible refine (HNY.out _).mono ?_); rintro e w' ⟨rfl, rfl⟩)) | (go_at_call 59; ((with_reducible refine (HIX.out _).mono ?_); rintro e w' ⟨rfl, rfl⟩)) | (go_at_call 59; ((with_reducible refine (HIY.out _).mono ?_); rintro e w' ⟨rfl, rfl⟩)))
        go_ret
        exact ⟨ret_int HV.out, Ext.refl _⟩
      · have HV : Hid ((x : Int) = (V : Int)) := Lib.hid (by rw [hV])
        clear hV hx hy
        go_enter Try.func31, Try.ntmps31
        go_wp2_with (first | (go_at_call 58; ((with_reducible refine (HNX.out _).mono ?_); rintro e w' ⟨rfl, rfl⟩)) | (go_at_call 58; ((with_reducible refine (HNY.out _).mono ?_); rintro e w' ⟨rfl, rfl⟩)) | (go_at_call 59; ((with_reducible refine (HIX.out _).mono ?_); rintro e w' ⟨rfl, rfl⟩)) | (go_at_call 59; ((with_reducible refine (HIY.out _).mono ?_); rintro e w' ⟨rfl, rfl⟩)))
        go_ret
        exact ⟨ret_int HV.out, Ext.refl _⟩
      · have HV : Hid ((x : Int) = (V : Int)) := Lib.hid (by rw [hV])
        clear hV hx hy hne
        go_enter Try.func31, Try.ntmps31
        go_wp2_with (first | (go_at_call 58; ((with_reducible refine (HNX.out _).mono ?_); rintro e w' ⟨rfl, rfl⟩)) | (go_at_call 58; ((with_reducible refine (HNY.out _).mono ?_); rintro e w' ⟨rfl, rfl⟩)) | (go_at_call 59; ((with_reducible refine (HIX.out _).mono ?_); rintro e w' ⟨rfl, rfl⟩)) | (go_at_call 59; ((with_reducible refine (HIY.out _).mono ?_); rintro e w' ⟨rfl, rfl⟩)))
        go_ret
        exact ⟨ret_int HV.out, Ext.refl _⟩
      · have HV : Hid ((y : Int) = (V : Int)) := Lib.hid (by rw [hV])
        clear hV hx hy hne
        go_enter Try.func31, Try.ntmps31
        go_wp2_with (first | (go_at_call 58; ((with_reducible refine (HNX.out _).mono ?_); rintro e w' ⟨rfl, rfl⟩)) | (go_at_call 58; ((with_reducible refine (HNY.out _).mono ?_); rintro e w' ⟨rfl, rfl⟩)) | (go_at_call 59; ((with_reducible refine (HIX.out _).mono ?_); rintro e w' ⟨rfl, rfl⟩)) | (go_at_call 59; ((with_reducible refine (HIY.out _).mono ?_); rintro e w' ⟨rfl, rfl⟩)))
        go_ret
        exact ⟨ret_int HV.out, Ext.refl _⟩
      · obtain ⟨n, hn⟩ : ∃ n, n = (sg x && decide (mg x ≠ 0)) := ⟨_, rfl⟩
        obtain ⟨m, hm⟩ : ∃ m, m = (sg y && decide (mg y ≠ 0)) := ⟨_, rfl⟩
        have hf := add_ref d x y hn hm
        rw [← hV] at hf
        have hF1 := fun w => frombits_any x w hx
        have hF2 := fun w => frombits_any y w hy
        rw [← hn] at hF1
        rw [← hm] at hF2
        have b1 := fbN_bits x
        have b2 := fbD_bits x
        have b3 := fbN_bits y
        have b4 := fbD_bits y
        have p1 := fbD_pos x
        have p2 := fbD_pos y
        have hQ := Nat.mul_pos p1 p2
        have c1 := nw_mul2 (fbN x) (fbD y)
        have c2 := nw_mul2 (fbN y) (fbD x)
        have c3 := nw_mul2 (fbD x) (fbD y)
        have c4 := aMag_nw (n := n) (m := m) (P := fbN x * fbD y) (Q := fbN y * fbD x) (k := 80) (by omega) (by omega)
        have HM := Lib.hid (fun A l c B k e A' l' c' B' k' e' w h h' => radd_any n m A l c B k e (fbN x) (fbD x) A' l' c' B' k' e' (fbN y) (fbD y) w h h' (by omega) (by omega) (by omega) (by omega) hQ)
        obtain ⟨X, hX⟩ : ∃ X, X = aMag n m (fbN x * fbD y) (fbN y * fbD x) := ⟨_, rfl⟩
        obtain ⟨D, hD⟩ : ∃ D, D = fbD x * fbD y := ⟨_, rfl⟩
        rw [← hX] at c4 HM hf
        rw [← hD] at hQ c3 HM hf
        have c5 := nw_le_of (fracN_le0 X D) (Nat.le_refl _)
        have c6 := nw_le_of (fracD_le0 (n := X) (d := D) (by omega)) (Nat.le_refl _)
        have HB := Lib.hid (fun A l c B k e w h => bits3_any d (aNeg n m (fbN x * fbD y) (fbN y * fbD x) && decide (X ≠ 0)) A l c B k e (fracN X D 0) (fracD X D 0) w h (by omega) (by omega) (Nat.ne_of_gt (fracD_pos _ (by omega))))
        rw [hf] at HB
        generalize (aNeg n m (fbN x * fbD y) (fbN y * fbD x) && decide (X ≠ 0)) = zz at HM HB
        have HF1 := Lib.hid hF1
        have HF2 := Lib.hid hF2
        clear hf hF1 hF2 hV hx hy b1 b2 b3 b4 p1 p2 hQ c1 c2 c3 c4 c5 c6 hn hm hX hD hne
        go_enter Try.func31, Try.ntmps31
        go_wp2_with (first | (go_at_call 58; ((with_reducible refine (HNX.out _).mono ?_); rintro e w' ⟨rfl, rfl⟩)) | (go_at_call 58; ((with_reducible refine (HNY.out _).mono ?_); rintro e w' ⟨rfl, rfl⟩)) | (go_at_call 59; ((with_reducible refine (HIX.out _).mono ?_); rintro e w' ⟨rfl, rfl⟩)) | (go_at_call 59; ((with_reducible refine (HIY.out _).mono ?_); rintro e w' ⟨rfl, rfl⟩)))
        refine (HF1.out _).mono ?_
        rintro e w2 ⟨A1, n1, c1, B1, k1, d1, rfl, hA1, hB1, hE1⟩
        go_wp2_with fail
        refine (HF2.out _).mono ?_
        rintro e w3 ⟨A2, n2, c2, B2, k2, d2, rfl, hA2, hB2, hE2⟩
        go_wp2_with fail
        refine (HM.out _ _ _ _ _ _ _ _ _ _ _ _ _ ⟨hA1.ext hE2, hB1.ext hE2⟩ ⟨hA2, hB2⟩).mono ?_
        rintro e w4 ⟨A3, n3, c3, B3, k3, d3, rfl, hA3, hB3, hE3⟩
        go_wp2_with fail
        refine (HB.out _ _ _ _ _ _ _ ⟨hA3, hB3⟩).mono ?_
        rintro e w5 ⟨rfl, hE4⟩
        go_wp2
        go_ret
        exact ⟨rfl, ((hE1.trans hE2).trans hE3).trans hE4⟩

theorem plN_nan (b : Nat) : isNaN (plN b) = isNaN b := by
  unfold plN
  by_cases h : b = 9223372036854775808
  · rw [if_pos h, h]; rfl
  · rw [if_neg h]
    cases hn : isNaN b
    · rw [if_neg (by simp)]; exact hn
    · rw [if_pos rfl]; rfl
theorem addR_plN (d : Int) (x b : Nat) : addR d x (plN b) = addR d x b := by
  unfold addR
  rw [plN_nan]
  cases hn : isNaN b
  · cases hm : isNaN x
    · have hp : plN b = if b = 9223372036854775808 then 0 else b := by unfold plN; rw [hn]; rfl
      by_cases h : b = 9223372036854775808
      · rw [hp, if_pos h, h]
        have e1 : sv 0 = sv 9223372036854775808 := by
          unfold sv; rw [show mg 0 = 0 from rfl, show mg 9223372036854775808 = 0 from rfl, rv_zero]; simp
        have e2 : isInf 0 = false := rfl
        have e3 : isInf 9223372036854775808 = false := rfl
        rw [e1, e2, e3, Bool.and_false, Bool.false_and, Bool.false_and]
        rfl
      · rw [hp, if_neg h]
    · rfl
  · simp
set_option maxHeartbeats 400000 in
theorem turn3_any (b : Nat) (w : World) (h : b < 18446744073709551616) :
    Calls Try.prog 83 #[.int .u64 (b : Int)] w fun e w' => e = .returned (.int .u64 (plN (ng b) : Nat)) ∧ w = w' := by
  have hg : bits .xor .u64 (b : Int) 9223372036854775808 = (ng b : Int) := by
    rw [show (9223372036854775808 : Int) = ((9223372036854775808 : Nat) : Int) from rfl, u64_xor_nat _ _ h (by omega), ng_xor h]
  have HP := Lib.hid (fun w => plain3_any (ng b) w (ng_lt h))
  clear h
  go_enter Try.func83, Try.ntmps83
  go_wp2_with fail
  refine (HP.out _).mono ?_
  rintro e w1 ⟨rfl, rfl⟩
  go_wp2
  go_ret
  exact ⟨rfl, rfl⟩
theorem plN_lt {b : Nat} (h : b < 18446744073709551616) : plN b < 18446744073709551616 := by
  unfold plN; repeat' split
  all_goals omega
set_option maxHeartbeats 400000 in
theorem sub3_any (d : Int) (x y : Nat) (w : World) (hx : x < 18446744073709551616) (hy : y < 18446744073709551616) :
    Calls Try.prog 33 #[.int .i64 d, .int .u64 (x : Int), .int .u64 (y : Int)] w fun e w' => e = .returned (.int .u64 (addR d x (ng y) : Nat)) ∧ Ext w w' := by
  have hA := fun w => add3_any d x (plN (ng y)) w hx (plN_lt (ng_lt hy))
  rw [addR_plN] at hA
  have HA := Lib.hid hA
  have HT := Lib.hid (fun w => turn3_any y w hy)
  clear hA hx hy
  go_enter Try.func33, Try.ntmps33
  go_wp2_with fail
  refine (HT.out _).mono ?_
  rintro e w1 ⟨rfl, rfl⟩
  go_wp2_with fail
  refine (HA.out _).mono ?_
  rintro e w2 ⟨rfl, hE⟩
  go_wp2
  go_ret
  exact ⟨rfl, hE⟩
end Go.Proofs.Ytjblogfbcglnmaa

/-
  The walk through RoundSums. Conditions: those that each theorem names.
-/
namespace Go.Proofs.Ytjblogfbcglnmaa
open Go.RowKit Nm Rn
set_option maxRecDepth 100000
set_option linter.unusedVariables false
set_option linter.unusedSimpArgs false

set_option maxHeartbeats 1000000 in
theorem sums_walk (d : Int) (x y : Nat) (w : World) (hx : x < 18446744073709551616) (hy : y < 18446744073709551616) :
    Calls Try.prog 7 #[.int .i64 d, .int .u64 (x : Int), .int .u64 (y : Int)] w fun e w' => e = .returned (.bool true) ∧ Ext w w' := by
  have HA := Lib.hid (fun w => radd_any_ d x y w hx hy)
  have HB := Lib.hid (fun w => add3_any d x y w hx hy)
  have HC := Lib.hid (fun w => rsub_any d x y w hx hy)
  have HD := Lib.hid (fun w => sub3_any d x y w hx hy)
  have HL := Lib.hid (fun r w h => lbits_any r w h)
  obtain ⟨V, hV⟩ : ∃ V, V = addR d x y := ⟨_, rfl⟩
  obtain ⟨U, hU⟩ : ∃ U, U = addR d x (ng y) := ⟨_, rfl⟩
  rw [← hV] at HA HB
  rw [← hU] at HC HD
  clear hV hU hx hy
  go_enter Try.func7, Try.ntmps7
  go_wp2_with (go_at_call 18; refine (fl_any _ _).mono ?_; rintro e w' ⟨rfl, rfl⟩)
  refine (HA.out _).mono ?_
  rintro e w1 ⟨r, rfl, hr, hc, hE⟩
  go_wp2_with fail
  refine (HL.out r _ hr).mono ?_
  rintro e w2 ⟨rfl, rfl⟩
  rw [hc]
  clear hc hr
  go_wp2_with fail
  refine (HB.out _).mono ?_
  rintro e w3 ⟨rfl, hE3⟩
  go_wp2_with (go_at_call 18; refine (fl_any _ _).mono ?_; rintro e w' ⟨rfl, rfl⟩)
  refine (HC.out _).mono ?_
  rintro e w4 ⟨r2, rfl, hr, hc, hE4⟩
  go_wp2_with fail
  refine (HL.out r2 _ hr).mono ?_
  rintro e w5 ⟨rfl, rfl⟩
  rw [hc]
  clear hc hr
  go_wp2_with fail
  refine (HD.out _).mono ?_
  rintro e w6 ⟨rfl, hE6⟩
  go_wp2
  go_ret
  exact ⟨by simp, ((hE.trans hE3).trans hE4).trans hE6⟩
end Go.Proofs.Ytjblogfbcglnmaa
