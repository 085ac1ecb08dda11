/-
  The contract of the document's sum of two ratios. Conditions: those that each theorem names.
-/
import Derived.Test.YtfbjeifhpmdjaaaGreatP14
import Derived.Test.YtfbjeifhpmdjaaaGreatP08
import Derived.Test.YtfbjeifhpmdjaaaGreatP06
import Derived.Test.YtfbjeifhpmdjaaaGreatP07
import Derived.Test.YtfbjeifhpmdjaaaGreatP11
namespace Go.Proofs.YtfbjeifhpmdjaaaGreat
open Go.RowKit Nm Rn
set_option maxRecDepth 100000
set_option linter.unusedVariables false
set_option linter.unusedSimpArgs false

set_option maxHeartbeats 2000000 in
theorem radd_same (n m : Bool) (A : Option Addr) (l c : Nat) (B : Option Addr) (k d N D : Nat) (A' : Option Addr) (l' c' : Nat) (B' : Option Addr) (k' d' N' D' : Nat) (w : World)
    (h : RatAt w A l c B k d N D) (h' : RatAt w A' l' c' B' k' d' N' D') (hN : nw N ≤ 1073741824) (hD : nw D ≤ 1073741824) (hN' : nw N' ≤ 1073741824) (hD' : nw D' ≤ 1073741824) (hp : 0 < D * D') (hnm : (n == m) = true) (hc : N * D' = N * D' ∧ N' * D = N' * D) :
    Calls Tryz.prog 56 #[.agg #[.bool n, .slice A l c, .slice B k d], .agg #[.bool m, .slice A' l' c', .slice B' k' d']] w (RetR (n && decide (N * D' + N' * D ≠ 0)) (fracN (N * D' + N' * D) (D * D') 0) (fracD (N * D' + N' * D) (D * D') 0) w) := by
  have hl := h.lenN
  have hk := h.lenD
  have hl' := h'.lenN
  have hk' := h'.lenD
  have hO := ((((Own.start w).add h.1).add h.2).add h'.1).add h'.2
  have hT1 := fun w h h' => times_any A l c (nd N) B' k' d' (nd D') w h (by omega) h' (by omega)
  have hT2 := fun w h h' => times_any A' l' c' (nd N') B k d (nd D) w h (by omega) h' (by omega)
  have hT3 := fun w h h' => times_any B k d (nd D) B' k' d' (nd D') w h (by omega) h' (by omega)
  have e1 := nw_mul2 N D'
  have e2 := nw_mul2 N' D
  have e3 := nw_mul2 D D'
  simp only [nv_nd] at hT1 hT2 hT3
  obtain ⟨P, hP⟩ : ∃ P, P = N * D' := ⟨_, rfl⟩
  obtain ⟨Q, hQ⟩ : ∃ Q, Q = N' * D := ⟨_, rfl⟩
  obtain ⟨R, hR⟩ : ∃ R, R = D * D' := ⟨_, rfl⟩
  rw [← hP] at hT1 e1 hc ⊢
  rw [← hQ] at hT2 e2 hc ⊢
  rw [← hR] at hT3 e3 hp ⊢
  obtain ⟨X, hX⟩ : ∃ X, X = P + Q := ⟨_, rfl⟩
  have hOP := fun A n1 c B n2 d w (h : Wds w A n1 c (nd P)) (k : Wds w B n2 d (nd Q)) => plus_any A n1 c (nd P) B n2 d (nd Q) w h (by have := h.len; rw [nd_length] at this; omega) k (by have := k.len; rw [nd_length] at this; omega)
  simp only [nv_nd] at hOP
  rw [← hX] at hOP ⊢
  have eX : nw X ≤ nw P + nw Q + 1 := by
    have h1 := lt_pow_nw P
    have h2 := lt_pow_nw Q
    have h3 : 4294967296 ^ nw P ≤ 4294967296 ^ (nw P + nw Q) := Nat.pow_le_pow_right (by omega) (by omega)
    have h4 : 4294967296 ^ nw Q ≤ 4294967296 ^ (nw P + nw Q) := Nat.pow_le_pow_right (by omega) (by omega)
    refine (nw_le_iff _ _).2 ?_
    rw [Nat.pow_succ]
    omega
  have hFR := fun A n1 c B n2 d w (h : Wds w A n1 c (nd X)) (k : Wds w B n2 d (nd R)) => frac_any n A n1 c (nd X) B n2 d (nd R) 0 w h (by have := h.len; rw [nd_length] at this; omega) k (by have := k.len; rw [nd_length] at this; omega) (by omega) (by omega) (by rw [nv_nd]; exact hp)
  simp only [nv_nd] at hFR
  clear eX
  obtain ⟨zz, hzz⟩ : ∃ zz, zz = (n && decide (X ≠ 0)) := ⟨_, rfl⟩
  rw [← hzz] at hFR ⊢
  clear hzz
  clear hc
  have HT1 := Lib.hid hT1
  have HT2 := Lib.hid hT2
  have HT3 := Lib.hid hT3
  have HFR := Lib.hid hFR
  have HOP := Lib.hid hOP
  clear hT1 hT2 hT3 hFR hOP hP hQ hR h h' hl hk hl' hk' hN hD hN' hD' hp e1 e2 e3 hX
  go_enter Tryz.func56, Tryz.ntmps56
  go_upto_region 1 with (first
    | (refine own_box (cs := [.bool n, .slice A l c, .slice B k d]) hO rfl rfl ?_; clear hO; intro ga wa hO)
    | (refine own_box (cs := [.bool m, .slice A' l' c', .slice B' k' d']) hO rfl rfl ?_; clear hO; intro gb wb hO)
    | (refine own_alloc hO zero_rat rfl rfl ?_; clear hO; intro g w1 hO))
  have hf := hO.facts
  simp only [BF, CF, Nat.zero_add, Nat.reduceAdd, and_true] at hf
  go_wp2_with fail
  refine (HT1.out _ (hO.wd 3 rfl) (hO.wd 0 rfl)).mono ?_
  rintro e w2 ⟨A5, n5, c5, rfl, hW, hE⟩
  have hO := (hO.ext hE).add hW
  clear hW hE hf
  have hf := hO.facts
  simp only [BF, CF, Nat.zero_add, Nat.reduceAdd, and_true] at hf
  go_wp2_with fail
  refine (HT2.out _ (hO.wd 2 rfl) (hO.wd 3 rfl)).mono ?_
  rintro e w3 ⟨A6, n6, c6, rfl, hW, hE⟩
  have hO := (hO.ext hE).add hW
  clear hW hE hf
  have hf := hO.facts
  simp only [BF, CF, Nat.zero_add, Nat.reduceAdd, and_true] at hf
  go_wp2_with fail
  refine (HT3.out _ (hO.wd 4 rfl) (hO.wd 2 rfl)).mono ?_
  rintro e w4 ⟨A7, n7, c7, rfl, hW, hE⟩
  have hO := (hO.ext hE).add hW
  clear hW hE hf
  have hf := hO.facts
  simp only [BF, CF, Nat.zero_add, Nat.reduceAdd, and_true] at hf
  go_wp2_with fail
  obtain ⟨S, hS⟩ : ∃ S : World → Prop, S = Own w [⟨g, 38, [.bool false, .slice none 0 0, .slice none 0 0]⟩, ⟨gb, 38, [.bool m, .slice A' l' c', .slice B' k' d']⟩, ⟨ga, 38, [.bool n, .slice A l c, .slice B k d]⟩] [⟨A7, n7, c7, nd R⟩, ⟨A6, n6, c6, nd Q⟩, ⟨A5, n5, c5, nd P⟩, ⟨B', k', d', nd D'⟩, ⟨A', l', c', nd N'⟩, ⟨B, k, d, nd D⟩, ⟨A, l, c, nd N⟩] := ⟨_, rfl⟩
  have hSE : ∀ w w', S w → Ext w w' → S w' := fun w w' h1 h2 => by rw [hS] at h1 ⊢; exact h1.ext h2
  have hS1 : S (w4).drew := by rw [hS]; exact hO.ext (Ext.refl _).drew
  have HS := Lib.hid hS
  clear hS hO hf
  obtain ⟨sp, hsp⟩ : ∃ sp : Nat → Sp, sp = ofList [det (.pointer (some ⟨ga, 0, none⟩)), det (.bool n), det (.slice A5 n5 c5), det (.slice A6 n6 c6), anyOf (fun v wz => ∃ A1 n1 c1, v = .slice A1 n1 c1 ∧ Wds wz A1 n1 c1 (nd X)), det (.slice A7 n7 c7),
    anyOf (fun v wz => ∃ A1 n1 c1 A2 n2 c2, v = .agg #[.bool zz, .slice A1 n1 c1, .slice A2 n2 c2] ∧ RatAt wz A1 n1 c1 A2 n2 c2 (fracN X R 0) (fracD X R 0))] := ⟨_, rfl⟩
  have HSP := Lib.hid hsp
  clear hsp
  refine wp_region_loose 7 S sp (by kernel_rfl) (by kernel_rfl) hS1 hSE ?_
  simp only [List.take_succ_cons, List.take_zero, List.drop_succ_cons, List.drop_zero]
  iterate 6
    refine wpX_step (fun K hK => ?_)
    go_simp
    first
    | (refine ⟨by rw [HSP.out]; rfl, hK _ _ ?_⟩
       clear hK K)
    | (refine StepY.det (by rw [HSP.out]; rfl) ?_ ?_
       · intro wz hz hF
         rw [HS.out] at hz
         have hf := hz.facts
         simp only [BF, CF, Nat.zero_add, Nat.reduceAdd, and_true] at hf
         clear hz hF
         go_simp
         exact ⟨rfl, Ext.refl _⟩
       refine hK _ _ ?_
       clear hK K)
    | (refine StepY.any (by rw [HSP.out]; rfl) ?_ ?_
       · intro wz hz hF
         rw [HS.out] at hz
         have h1 := hz.wd 1 rfl
         have h2 := hz.wd 2 rfl
         clear hz
         go_simp
         go_at_call 83
         (with_reducible refine (HOP.out _ _ _ _ _ _ _ h2 h1).mono ?_)
         rintro e w2 ⟨A1, n1, c1, rfl, hW1, hE1⟩
         exact ⟨_, rfl, ⟨A1, n1, c1, rfl, hW1⟩, hE1⟩
       intro v
       refine hK _ _ ?_
       clear hK K)
  refine wpX_step (fun K hK => ?_)
  go_simp
  refine StepY.any (by rw [HSP.out]; rfl) ?_ ?_
  · intro wz hz hF
    obtain ⟨wa', ea, A1, n1, c1, hv1, hw1⟩ := hF.any 4 (by kernel_rfl) (by rw [HSP.out]; rfl)
    clear hF
    simp only [asFun, List.nil_append, List.cons_append, List.getD_cons_succ, List.getD_cons_zero] at hv1
    subst hv1
    rw [HS.out] at hz
    go_simp
    go_at_call 79
    refine (HFR.out _ _ _ _ _ _ _ (hw1.ext ea) (hz.wd 0 rfl)).mono ?_
    rintro e w2 ⟨A3, n3, c3, A4, n4, c4, rfl, hW1, hW2, hE1⟩
    exact ⟨_, rfl, ⟨A3, n3, c3, A4, n4, c4, rfl, hW1, hW2⟩, hE1⟩
  intro v
  refine hK _ _ ?_
  clear hK K
  refine wpX_nil ?_
  intro w3 hz hF
  obtain ⟨w0, e0, A3, n3, c3, A4, n4, c4, hv, hw0⟩ := fact_any (hF 6 (by omega)) (by rw [HSP.out]; rfl)
  clear hF
  simp only [asFun, List.nil_append, List.cons_append, List.getD_cons_succ, List.getD_cons_zero] at hv
  subst hv
  rw [HS.out] at hz
  have hO := (hz.add (hw0.ext e0).1).add (hw0.ext e0).2
  clear hz hw0 e0
  go_wp2_with (refine own_store hO 0 rfl rfl rfl size_rat rfl rfl rfl ?_; clear hO; intro w4 hO)
  exact own_ret hO 0 rfl rfl rfl agg_rat size_rat rfl ⟨_, _, _, _, _, _, rfl, hO.wd 1 rfl, hO.wd 0 rfl, hO.toExt⟩

set_option maxHeartbeats 2000000 in
theorem radd_ge (n m : Bool) (A : Option Addr) (l c : Nat) (B : Option Addr) (k d N D : Nat) (A' : Option Addr) (l' c' : Nat) (B' : Option Addr) (k' d' N' D' : Nat) (w : World)
    (h : RatAt w A l c B k d N D) (h' : RatAt w A' l' c' B' k' d' N' D') (hN : nw N ≤ 1073741824) (hD : nw D ≤ 1073741824) (hN' : nw N' ≤ 1073741824) (hD' : nw D' ≤ 1073741824) (hp : 0 < D * D') (hnm : (n == m) = false) (hc : N' * D ≤ N * D') :
    Calls Tryz.prog 56 #[.agg #[.bool n, .slice A l c, .slice B k d], .agg #[.bool m, .slice A' l' c', .slice B' k' d']] w (RetR (n && decide (N * D' - N' * D ≠ 0)) (fracN (N * D' - N' * D) (D * D') 0) (fracD (N * D' - N' * D) (D * D') 0) w) := by
  have hl := h.lenN
  have hk := h.lenD
  have hl' := h'.lenN
  have hk' := h'.lenD
  have hO := ((((Own.start w).add h.1).add h.2).add h'.1).add h'.2
  have hT1 := fun w h h' => times_any A l c (nd N) B' k' d' (nd D') w h (by omega) h' (by omega)
  have hT2 := fun w h h' => times_any A' l' c' (nd N') B k d (nd D) w h (by omega) h' (by omega)
  have hT3 := fun w h h' => times_any B k d (nd D) B' k' d' (nd D') w h (by omega) h' (by omega)
  have e1 := nw_mul2 N D'
  have e2 := nw_mul2 N' D
  have e3 := nw_mul2 D D'
  simp only [nv_nd] at hT1 hT2 hT3
  obtain ⟨P, hP⟩ : ∃ P, P = N * D' := ⟨_, rfl⟩
  obtain ⟨Q, hQ⟩ : ∃ Q, Q = N' * D := ⟨_, rfl⟩
  obtain ⟨R, hR⟩ : ∃ R, R = D * D' := ⟨_, rfl⟩
  rw [← hP] at hT1 e1 hc ⊢
  rw [← hQ] at hT2 e2 hc ⊢
  rw [← hR] at hT3 e3 hp ⊢
  obtain ⟨X, hX⟩ : ∃ X, X = P - Q := ⟨_, rfl⟩
  have hOP := fun A n1 c B n2 d w (h : Wds w A n1 c (nd P)) (k : Wds w B n2 d (nd Q)) => minus_any A n1 c (nd P) B n2 d (nd Q) w h (by have := h.len; rw [nd_length] at this; omega) k (by have := k.len; rw [nd_length] at this; omega) (by rw [nv_nd, nv_nd]; omega)
  simp only [nv_nd] at hOP
  rw [← hX] at hOP ⊢
  have eX : nw X ≤ nw P + nw Q + 1 := by
    have h1 := lt_pow_nw P
    have h2 := lt_pow_nw Q
    have h3 : 4294967296 ^ nw P ≤ 4294967296 ^ (nw P + nw Q) := Nat.pow_le_pow_right (by omega) (by omega)
    have h4 : 4294967296 ^ nw Q ≤ 4294967296 ^ (nw P + nw Q) := Nat.pow_le_pow_right (by omega) (by omega)
    refine (nw_le_iff _ _).2 ?_
    rw [Nat.pow_succ]
    omega
  have hFR := fun A n1 c B n2 d w (h : Wds w A n1 c (nd X)) (k : Wds w B n2 d (nd R)) => frac_any n A n1 c (nd X) B n2 d (nd R) 0 w h (by have := h.len; rw [nd_length] at this; omega) k (by have := k.len; rw [nd_length] at this; omega) (by omega) (by omega) (by rw [nv_nd]; exact hp)
  simp only [nv_nd] at hFR
  clear eX
  obtain ⟨zz, hzz⟩ : ∃ zz, zz = (n && decide (X ≠ 0)) := ⟨_, rfl⟩
  rw [← hzz] at hFR ⊢
  clear hzz
  have hCM := fun A n1 c B n2 d w (h : Wds w A n1 c (nd P)) (k : Wds w B n2 d (nd Q)) => cmp_any A n1 c (nd P) B n2 d (nd Q) w h (by have := h.len; rw [nd_length] at this; omega) k (by have := k.len; rw [nd_length] at this; omega)
  simp only [nv_nd] at hCM
  have hcc : decide (0 ≤ cmpN P Q) = true := by
    unfold cmpN
    rw [if_neg (by omega)]; split <;> simp
  have HCM := Lib.hid hCM
  clear hCM hc
  have HT1 := Lib.hid hT1
  have HT2 := Lib.hid hT2
  have HT3 := Lib.hid hT3
  have HFR := Lib.hid hFR
  have HOP := Lib.hid hOP
  clear hT1 hT2 hT3 hFR hOP hP hQ hR h h' hl hk hl' hk' hN hD hN' hD' hp e1 e2 e3 hX
  go_enter Tryz.func56, Tryz.ntmps56
  go_upto_region 1 with (first
    | (refine own_box (cs := [.bool n, .slice A l c, .slice B k d]) hO rfl rfl ?_; clear hO; intro ga wa hO)
    | (refine own_box (cs := [.bool m, .slice A' l' c', .slice B' k' d']) hO rfl rfl ?_; clear hO; intro gb wb hO)
    | (refine own_alloc hO zero_rat rfl rfl ?_; clear hO; intro g w1 hO))
  have hf := hO.facts
  simp only [BF, CF, Nat.zero_add, Nat.reduceAdd, and_true] at hf
  go_wp2_with fail
  refine (HT1.out _ (hO.wd 3 rfl) (hO.wd 0 rfl)).mono ?_
  rintro e w2 ⟨A5, n5, c5, rfl, hW, hE⟩
  have hO := (hO.ext hE).add hW
  clear hW hE hf
  have hf := hO.facts
  simp only [BF, CF, Nat.zero_add, Nat.reduceAdd, and_true] at hf
  go_wp2_with fail
  refine (HT2.out _ (hO.wd 2 rfl) (hO.wd 3 rfl)).mono ?_
  rintro e w3 ⟨A6, n6, c6, rfl, hW, hE⟩
  have hO := (hO.ext hE).add hW
  clear hW hE hf
  have hf := hO.facts
  simp only [BF, CF, Nat.zero_add, Nat.reduceAdd, and_true] at hf
  go_wp2_with fail
  refine (HT3.out _ (hO.wd 4 rfl) (hO.wd 2 rfl)).mono ?_
  rintro e w4 ⟨A7, n7, c7, rfl, hW, hE⟩
  have hO := (hO.ext hE).add hW
  clear hW hE hf
  have hf := hO.facts
  simp only [BF, CF, Nat.zero_add, Nat.reduceAdd, and_true] at hf
  go_wp2_with fail
  refine (HCM.out _ _ _ _ _ _ _ (hO.wd 2 rfl) (hO.wd 1 rfl)).mono ?_
  rintro e w5 ⟨rfl, q, rfl⟩
  have hO := hO.ext ((Ext.refl w4).drewN q)
  clear hf
  have hf := hO.facts
  simp only [BF, CF, Nat.zero_add, Nat.reduceAdd, and_true] at hf
  go_wp2_with fail
  obtain ⟨S, hS⟩ : ∃ S : World → Prop, S = Own w [⟨g, 38, [.bool false, .slice none 0 0, .slice none 0 0]⟩, ⟨gb, 38, [.bool m, .slice A' l' c', .slice B' k' d']⟩, ⟨ga, 38, [.bool n, .slice A l c, .slice B k d]⟩] [⟨A7, n7, c7, nd R⟩, ⟨A6, n6, c6, nd Q⟩, ⟨A5, n5, c5, nd P⟩, ⟨B', k', d', nd D'⟩, ⟨A', l', c', nd N'⟩, ⟨B, k, d, nd D⟩, ⟨A, l, c, nd N⟩] := ⟨_, rfl⟩
  have hSE : ∀ w w', S w → Ext w w' → S w' := fun w w' h1 h2 => by rw [hS] at h1 ⊢; exact h1.ext h2
  have hS1 : S (w4.drewN q).drew := by rw [hS]; exact hO.ext (Ext.refl _).drew
  have HS := Lib.hid hS
  clear hS hO hf
  obtain ⟨sp, hsp⟩ : ∃ sp : Nat → Sp, sp = ofList [det (.pointer (some ⟨ga, 0, none⟩)), det (.bool n), det (.slice A5 n5 c5), det (.slice A6 n6 c6), anyOf (fun v wz => ∃ A1 n1 c1, v = .slice A1 n1 c1 ∧ Wds wz A1 n1 c1 (nd X)), det (.slice A7 n7 c7),
    anyOf (fun v wz => ∃ A1 n1 c1 A2 n2 c2, v = .agg #[.bool zz, .slice A1 n1 c1, .slice A2 n2 c2] ∧ RatAt wz A1 n1 c1 A2 n2 c2 (fracN X R 0) (fracD X R 0))] := ⟨_, rfl⟩
  have HSP := Lib.hid hsp
  clear hsp
  refine wp_region_loose 7 S sp (by kernel_rfl) (by kernel_rfl) hS1 hSE ?_
  simp only [List.take_succ_cons, List.take_zero, List.drop_succ_cons, List.drop_zero]
  iterate 6
    refine wpX_step (fun K hK => ?_)
    go_simp
    first
    | (refine ⟨by rw [HSP.out]; rfl, hK _ _ ?_⟩
       clear hK K)
    | (refine StepY.det (by rw [HSP.out]; rfl) ?_ ?_
       · intro wz hz hF
         rw [HS.out] at hz
         have hf := hz.facts
         simp only [BF, CF, Nat.zero_add, Nat.reduceAdd, and_true] at hf
         clear hz hF
         go_simp
         exact ⟨rfl, Ext.refl _⟩
       refine hK _ _ ?_
       clear hK K)
    | (refine StepY.any (by rw [HSP.out]; rfl) ?_ ?_
       · intro wz hz hF
         rw [HS.out] at hz
         have h1 := hz.wd 1 rfl
         have h2 := hz.wd 2 rfl
         clear hz
         go_simp
         go_at_call 85
         (with_reducible refine (HOP.out _ _ _ _ _ _ _ h2 h1).mono ?_)
         rintro e w2 ⟨A1, n1, c1, rfl, hW1, hE1⟩
         exact ⟨_, rfl, ⟨A1, n1, c1, rfl, hW1⟩, hE1⟩
       intro v
       refine hK _ _ ?_
       clear hK K)
  refine wpX_step (fun K hK => ?_)
  go_simp
  refine StepY.any (by rw [HSP.out]; rfl) ?_ ?_
  · intro wz hz hF
    obtain ⟨wa', ea, A1, n1, c1, hv1, hw1⟩ := hF.any 4 (by kernel_rfl) (by rw [HSP.out]; rfl)
    clear hF
    simp only [asFun, List.nil_append, List.cons_append, List.getD_cons_succ, List.getD_cons_zero] at hv1
    subst hv1
    rw [HS.out] at hz
    go_simp
    go_at_call 79
    refine (HFR.out _ _ _ _ _ _ _ (hw1.ext ea) (hz.wd 0 rfl)).mono ?_
    rintro e w2 ⟨A3, n3, c3, A4, n4, c4, rfl, hW1, hW2, hE1⟩
    exact ⟨_, rfl, ⟨A3, n3, c3, A4, n4, c4, rfl, hW1, hW2⟩, hE1⟩
  intro v
  refine hK _ _ ?_
  clear hK K
  refine wpX_nil ?_
  intro w3 hz hF
  obtain ⟨w0, e0, A3, n3, c3, A4, n4, c4, hv, hw0⟩ := fact_any (hF 6 (by omega)) (by rw [HSP.out]; rfl)
  clear hF
  simp only [asFun, List.nil_append, List.cons_append, List.getD_cons_succ, List.getD_cons_zero] at hv
  subst hv
  rw [HS.out] at hz
  have hO := (hz.add (hw0.ext e0).1).add (hw0.ext e0).2
  clear hz hw0 e0
  go_wp2_with (refine own_store hO 0 rfl rfl rfl size_rat rfl rfl rfl ?_; clear hO; intro w4 hO)
  exact own_ret hO 0 rfl rfl rfl agg_rat size_rat rfl ⟨_, _, _, _, _, _, rfl, hO.wd 1 rfl, hO.wd 0 rfl, hO.toExt⟩

set_option maxHeartbeats 2000000 in
theorem radd_lt (n m : Bool) (A : Option Addr) (l c : Nat) (B : Option Addr) (k d N D : Nat) (A' : Option Addr) (l' c' : Nat) (B' : Option Addr) (k' d' N' D' : Nat) (w : World)
    (h : RatAt w A l c B k d N D) (h' : RatAt w A' l' c' B' k' d' N' D') (hN : nw N ≤ 1073741824) (hD : nw D ≤ 1073741824) (hN' : nw N' ≤ 1073741824) (hD' : nw D' ≤ 1073741824) (hp : 0 < D * D') (hnm : (n == m) = false) (hc : N * D' < N' * D) :
    Calls Tryz.prog 56 #[.agg #[.bool n, .slice A l c, .slice B k d], .agg #[.bool m, .slice A' l' c', .slice B' k' d']] w (RetR (m && decide (N' * D - N * D' ≠ 0)) (fracN (N' * D - N * D') (D * D') 0) (fracD (N' * D - N * D') (D * D') 0) w) := by
  have hl := h.lenN
  have hk := h.lenD
  have hl' := h'.lenN
  have hk' := h'.lenD
  have hO := ((((Own.start w).add h.1).add h.2).add h'.1).add h'.2
  have hT1 := fun w h h' => times_any A l c (nd N) B' k' d' (nd D') w h (by omega) h' (by omega)
  have hT2 := fun w h h' => times_any A' l' c' (nd N') B k d (nd D) w h (by omega) h' (by omega)
  have hT3 := fun w h h' => times_any B k d (nd D) B' k' d' (nd D') w h (by omega) h' (by omega)
  have e1 := nw_mul2 N D'
  have e2 := nw_mul2 N' D
  have e3 := nw_mul2 D D'
  simp only [nv_nd] at hT1 hT2 hT3
  obtain ⟨P, hP⟩ : ∃ P, P = N * D' := ⟨_, rfl⟩
  obtain ⟨Q, hQ⟩ : ∃ Q, Q = N' * D := ⟨_, rfl⟩
  obtain ⟨R, hR⟩ : ∃ R, R = D * D' := ⟨_, rfl⟩
  rw [← hP] at hT1 e1 hc ⊢
  rw [← hQ] at hT2 e2 hc ⊢
  rw [← hR] at hT3 e3 hp ⊢
  obtain ⟨X, hX⟩ : ∃ X, X = Q - P := ⟨_, rfl⟩
  have hOP := fun A n1 c B n2 d w (h : Wds w A n1 c (nd Q)) (k : Wds w B n2 d (nd P)) => minus_any A n1 c (nd Q) B n2 d (nd P) w h (by have := h.len; rw [nd_length] at this; omega) k (by have := k.len; rw [nd_length] at this; omega) (by rw [nv_nd, nv_nd]; omega)
  simp only [nv_nd] at hOP
  rw [← hX] at hOP ⊢
  have eX : nw X ≤ nw P + nw Q + 1 := by
    have h1 := lt_pow_nw P
    have h2 := lt_pow_nw Q
    have h3 : 4294967296 ^ nw P ≤ 4294967296 ^ (nw P + nw Q) := Nat.pow_le_pow_right (by omega) (by omega)
    have h4 : 4294967296 ^ nw Q ≤ 4294967296 ^ (nw P + nw Q) := Nat.pow_le_pow_right (by omega) (by omega)
    refine (nw_le_iff _ _).2 ?_
    rw [Nat.pow_succ]
    omega
  have hFR := fun A n1 c B n2 d w (h : Wds w A n1 c (nd X)) (k : Wds w B n2 d (nd R)) => frac_any m A n1 c (nd X) B n2 d (nd R) 0 w h (by have := h.len; rw [nd_length] at this; omega) k (by have := k.len; rw [nd_length] at this; omega) (by omega) (by omega) (by rw [nv_nd]; exact hp)
  simp only [nv_nd] at hFR
  clear eX
  obtain ⟨zz, hzz⟩ : ∃ zz, zz = (m && decide (X ≠ 0)) := ⟨_, rfl⟩
  rw [← hzz] at hFR ⊢
  clear hzz
  have hCM := fun A n1 c B n2 d w (h : Wds w A n1 c (nd P)) (k : Wds w B n2 d (nd Q)) => cmp_any A n1 c (nd P) B n2 d (nd Q) w h (by have := h.len; rw [nd_length] at this; omega) k (by have := k.len; rw [nd_length] at this; omega)
  simp only [nv_nd] at hCM
  have hcc : decide (0 ≤ cmpN P Q) = false := by
    unfold cmpN
    rw [if_pos (by omega)]; simp
  have HCM := Lib.hid hCM
  clear hCM hc
  have HT1 := Lib.hid hT1
  have HT2 := Lib.hid hT2
  have HT3 := Lib.hid hT3
  have HFR := Lib.hid hFR
  have HOP := Lib.hid hOP
  clear hT1 hT2 hT3 hFR hOP hP hQ hR h h' hl hk hl' hk' hN hD hN' hD' hp e1 e2 e3 hX
  go_enter Tryz.func56, Tryz.ntmps56
  go_upto_region 1 with (first
    | (refine own_box (cs := [.bool n, .slice A l c, .slice B k d]) hO rfl rfl ?_; clear hO; intro ga wa hO)
    | (refine own_box (cs := [.bool m, .slice A' l' c', .slice B' k' d']) hO rfl rfl ?_; clear hO; intro gb wb hO)
    | (refine own_alloc hO zero_rat rfl rfl ?_; clear hO; intro g w1 hO))
  have hf := hO.facts
  simp only [BF, CF, Nat.zero_add, Nat.reduceAdd, and_true] at hf
  go_wp2_with fail
  refine (HT1.out _ (hO.wd 3 rfl) (hO.wd 0 rfl)).mono ?_
  rintro e w2 ⟨A5, n5, c5, rfl, hW, hE⟩
  have hO := (hO.ext hE).add hW
  clear hW hE hf
  have hf := hO.facts
  simp only [BF, CF, Nat.zero_add, Nat.reduceAdd, and_true] at hf
  go_wp2_with fail
  refine (HT2.out _ (hO.wd 2 rfl) (hO.wd 3 rfl)).mono ?_
  rintro e w3 ⟨A6, n6, c6, rfl, hW, hE⟩
  have hO := (hO.ext hE).add hW
  clear hW hE hf
  have hf := hO.facts
  simp only [BF, CF, Nat.zero_add, Nat.reduceAdd, and_true] at hf
  go_wp2_with fail
  refine (HT3.out _ (hO.wd 4 rfl) (hO.wd 2 rfl)).mono ?_
  rintro e w4 ⟨A7, n7, c7, rfl, hW, hE⟩
  have hO := (hO.ext hE).add hW
  clear hW hE hf
  have hf := hO.facts
  simp only [BF, CF, Nat.zero_add, Nat.reduceAdd, and_true] at hf
  go_wp2_with fail
  refine (HCM.out _ _ _ _ _ _ _ (hO.wd 2 rfl) (hO.wd 1 rfl)).mono ?_
  rintro e w5 ⟨rfl, q, rfl⟩
  have hO := hO.ext ((Ext.refl w4).drewN q)
  clear hf
  have hf := hO.facts
  simp only [BF, CF, Nat.zero_add, Nat.reduceAdd, and_true] at hf
  go_wp2_with fail
  obtain ⟨S, hS⟩ : ∃ S : World → Prop, S = Own w [⟨g, 38, [.bool false, .slice none 0 0, .slice none 0 0]⟩, ⟨gb, 38, [.bool m, .slice A' l' c', .slice B' k' d']⟩, ⟨ga, 38, [.bool n, .slice A l c, .slice B k d]⟩] [⟨A7, n7, c7, nd R⟩, ⟨A6, n6, c6, nd Q⟩, ⟨A5, n5, c5, nd P⟩, ⟨B', k', d', nd D'⟩, ⟨A', l', c', nd N'⟩, ⟨B, k, d, nd D⟩, ⟨A, l, c, nd N⟩] := ⟨_, rfl⟩
  have hSE : ∀ w w', S w → Ext w w' → S w' := fun w w' h1 h2 => by rw [hS] at h1 ⊢; exact h1.ext h2
  have hS1 : S (w4.drewN q).drew := by rw [hS]; exact hO.ext (Ext.refl _).drew
  have HS := Lib.hid hS
  clear hS hO hf
  obtain ⟨sp, hsp⟩ : ∃ sp : Nat → Sp, sp = ofList [det (.pointer (some ⟨gb, 0, none⟩)), det (.bool m), det (.slice A6 n6 c6), det (.slice A5 n5 c5), anyOf (fun v wz => ∃ A1 n1 c1, v = .slice A1 n1 c1 ∧ Wds wz A1 n1 c1 (nd X)), det (.slice A7 n7 c7),
    anyOf (fun v wz => ∃ A1 n1 c1 A2 n2 c2, v = .agg #[.bool zz, .slice A1 n1 c1, .slice A2 n2 c2] ∧ RatAt wz A1 n1 c1 A2 n2 c2 (fracN X R 0) (fracD X R 0))] := ⟨_, rfl⟩
  have HSP := Lib.hid hsp
  clear hsp
  refine wp_region_loose 7 S sp (by kernel_rfl) (by kernel_rfl) hS1 hSE ?_
  simp only [List.take_succ_cons, List.take_zero, List.drop_succ_cons, List.drop_zero]
  iterate 6
    refine wpX_step (fun K hK => ?_)
    go_simp
    first
    | (refine ⟨by rw [HSP.out]; rfl, hK _ _ ?_⟩
       clear hK K)
    | (refine StepY.det (by rw [HSP.out]; rfl) ?_ ?_
       · intro wz hz hF
         rw [HS.out] at hz
         have hf := hz.facts
         simp only [BF, CF, Nat.zero_add, Nat.reduceAdd, and_true] at hf
         clear hz hF
         go_simp
         exact ⟨rfl, Ext.refl _⟩
       refine hK _ _ ?_
       clear hK K)
    | (refine StepY.any (by rw [HSP.out]; rfl) ?_ ?_
       · intro wz hz hF
         rw [HS.out] at hz
         have h1 := hz.wd 1 rfl
         have h2 := hz.wd 2 rfl
         clear hz
         go_simp
         go_at_call 85
         (with_reducible refine (HOP.out _ _ _ _ _ _ _ h1 h2).mono ?_)
         rintro e w2 ⟨A1, n1, c1, rfl, hW1, hE1⟩
         exact ⟨_, rfl, ⟨A1, n1, c1, rfl, hW1⟩, hE1⟩
       intro v
       refine hK _ _ ?_
       clear hK K)
  refine wpX_step (fun K hK => ?_)
  go_simp
  refine StepY.any (by rw [HSP.out]; rfl) ?_ ?_
  · intro wz hz hF
    obtain ⟨wa', ea, A1, n1, c1, hv1, hw1⟩ := hF.any 4 (by kernel_rfl) (by rw [HSP.out]; rfl)
    clear hF
    simp only [asFun, List.nil_append, List.cons_append, List.getD_cons_succ, List.getD_cons_zero] at hv1
    subst hv1
    rw [HS.out] at hz
    go_simp
    go_at_call 79
    refine (HFR.out _ _ _ _ _ _ _ (hw1.ext ea) (hz.wd 0 rfl)).mono ?_
    rintro e w2 ⟨A3, n3, c3, A4, n4, c4, rfl, hW1, hW2, hE1⟩
    exact ⟨_, rfl, ⟨A3, n3, c3, A4, n4, c4, rfl, hW1, hW2⟩, hE1⟩
  intro v
  refine hK _ _ ?_
  clear hK K
  refine wpX_nil ?_
  intro w3 hz hF
  obtain ⟨w0, e0, A3, n3, c3, A4, n4, c4, hv, hw0⟩ := fact_any (hF 6 (by omega)) (by rw [HSP.out]; rfl)
  clear hF
  simp only [asFun, List.nil_append, List.cons_append, List.getD_cons_succ, List.getD_cons_zero] at hv
  subst hv
  rw [HS.out] at hz
  have hO := (hz.add (hw0.ext e0).1).add (hw0.ext e0).2
  clear hz hw0 e0
  go_wp2_with (refine own_store hO 0 rfl rfl rfl size_rat rfl rfl rfl ?_; clear hO; intro w4 hO)
  exact own_ret hO 0 rfl rfl rfl agg_rat size_rat rfl ⟨_, _, _, _, _, _, rfl, hO.wd 1 rfl, hO.wd 0 rfl, hO.toExt⟩

theorem radd_any (n m : Bool) (A : Option Addr) (l c : Nat) (B : Option Addr) (k d N D : Nat) (A' : Option Addr) (l' c' : Nat) (B' : Option Addr) (k' d' N' D' : Nat) (w : World)
    (h : RatAt w A l c B k d N D) (h' : RatAt w A' l' c' B' k' d' N' D') (hN : nw N ≤ 1073741824) (hD : nw D ≤ 1073741824) (hN' : nw N' ≤ 1073741824) (hD' : nw D' ≤ 1073741824) (hp : 0 < D * D') :
    Calls Tryz.prog 56 #[.agg #[.bool n, .slice A l c, .slice B k d], .agg #[.bool m, .slice A' l' c', .slice B' k' d']] w (RetR (aNeg n m (N * D') (N' * D) && decide (aMag n m (N * D') (N' * D) ≠ 0)) (fracN (aMag n m (N * D') (N' * D)) (D * D') 0) (fracD (aMag n m (N * D') (N' * D)) (D * D') 0) w) := by
  unfold aNeg aMag
  by_cases hnm : n = m
  · rw [if_pos hnm, if_pos hnm]
    exact radd_same n m A l c B k d N D A' l' c' B' k' d' N' D' w h h' hN hD hN' hD' hp (by simpa using hnm) ⟨rfl, rfl⟩
  · rw [if_neg hnm, if_neg hnm]
    by_cases hle : N' * D ≤ N * D'
    · rw [if_pos hle, if_pos hle]
      exact radd_ge n m A l c B k d N D A' l' c' B' k' d' N' D' w h h' hN hD hN' hD' hp (by simpa using hnm) hle
    · rw [if_neg hle, if_neg hle]
      exact radd_lt n m A l c B k d N D A' l' c' B' k' d' N' D' w h h' hN hD hN' hD' hp (by simpa using hnm) (by omega)
end Go.Proofs.YtfbjeifhpmdjaaaGreat

/-
  Contracts of the document's ratios: what they are worth. Conditions: those that each theorem names.
-/
namespace Go.Proofs.YtfbjeifhpmdjaaaGreat
open Go.RowKit Nm Rn
set_option maxRecDepth 100000
set_option linter.unusedVariables false
set_option linter.unusedSimpArgs false

theorem sgnZ_dr {T : Int} {s : Bool} {N D : Nat} (h : DR T s N D) : sgnZ s N = if T < 0 then -1 else if T = 0 then 0 else 1 := by
  have h1 := h.zero
  have h2 := h.sign
  unfold sgnZ
  by_cases h0 : N = 0
  · rw [if_pos h0, if_neg (by have := h1.1 h0; omega), if_pos (h1.1 h0)]
  · rw [if_neg h0, h2]
    have : T ≠ 0 := fun e => h0 (h1.2 e)
    by_cases hT : T < 0
    · rw [decide_eq_true hT, if_pos rfl, if_pos hT]
    · rw [decide_eq_false hT, if_neg (by simp), if_neg hT, if_neg this]
def RetDR (T : Int) (w : World) (e : Ending) (w' : World) : Prop :=
  ∃ s N D A l c B k d, e = .returned (.agg #[.bool s, .slice A l c, .slice B k d]) ∧ Hid (DR T s N D) ∧ RatAt w' A l c B k d N D ∧ Ext w w'
section
variable {w : World} {T V : Int} {s r : Bool} {N D M E m : Nat} {A B C F : Option Addr} {l c k d l' c' k' d' : Nat}
theorem rmul_dr {x y : Nat} (hs : s = (sg x && decide (mg x ≠ 0))) (hr : r = (sg y && decide (mg y ≠ 0))) (h : RatAt w A l c B k d (fbN x) (fbD x)) (h' : RatAt w C l' c' F k' d' (fbN y) (fbD y)) :
    Calls Tryz.prog 60 #[.agg #[.bool s, .slice A l c, .slice B k d], .agg #[.bool r, .slice C l' c', .slice F k' d']] w (RetDR (sv x * sv y) w) := by
  have b1 := fbN_bits x
  have b2 := fbD_bits x
  have b3 := fbN_bits y
  have b4 := fbD_bits y
  have hp := Nat.mul_pos (fbD_pos x) (fbD_pos y)
  refine (rmulq_any _ _ A l c B k d (fbN x) (fbD x) C l' c' F k' d' (fbN y) (fbD y) w h h' (by omega) (by omega) (by omega) (by omega) hp).mono ?_
  rintro e w' ⟨A1, n1, c1, A2, n2, c2, rfl, h1, h2, hE⟩
  exact ⟨_, _, _, _, _, _, _, _, _, rfl, Lib.hid (DR.two x y hs hr), ⟨h1, h2⟩, hE⟩
theorem radd_dr4 (h : DR T s N D) (g : DR V r M E) (hT : nw T.natAbs ≤ 1000000) (hV : nw V.natAbs ≤ 1000000) (hr : RatAt w A l c B k d N D) (hr' : RatAt w C l' c' F k' d' M E) :
    Calls Tryz.prog 56 #[.agg #[.bool s, .slice A l c, .slice B k d], .agg #[.bool r, .slice C l' c', .slice F k' d']] w (RetDR (T + V) w) := by
  have b1 := h.nwN
  have b2 := h.nwD
  have b3 := g.nwN
  have b4 := g.nwD
  refine (radd_any _ _ A l c B k d N D C l' c' F k' d' M E w hr hr' (by omega) (by omega) (by omega) (by omega) (Nat.mul_pos h.pos g.pos)).mono ?_
  rintro e w' ⟨A1, n1, c1, A2, n2, c2, rfl, h1, h2, hE⟩
  exact ⟨_, _, _, _, _, _, _, _, _, rfl, Lib.hid (h.add g), ⟨h1, h2⟩, hE⟩
theorem radd_dr (h : DR T s N D) (g : DR V r M E) (hT : nw T.natAbs ≤ 136) (hV : nw V.natAbs ≤ 136) (hr : RatAt w A l c B k d N D) (hr' : RatAt w C l' c' F k' d' M E) :
    Calls Tryz.prog 56 #[.agg #[.bool s, .slice A l c, .slice B k d], .agg #[.bool r, .slice C l' c', .slice F k' d']] w (RetDR (T + V) w) := by
  have b1 := h.nwN
  have b2 := h.nwD
  have b3 := g.nwN
  have b4 := g.nwD
  refine (radd_any _ _ A l c B k d N D C l' c' F k' d' M E w hr hr' (by omega) (by omega) (by omega) (by omega) (Nat.mul_pos h.pos g.pos)).mono ?_
  rintro e w' ⟨A1, n1, c1, A2, n2, c2, rfl, h1, h2, hE⟩
  exact ⟨_, _, _, _, _, _, _, _, _, rfl, Lib.hid (h.add g), ⟨h1, h2⟩, hE⟩
theorem rsign_dr (h : DR T s N D) (hT : nw T.natAbs ≤ 136) (hr : RatAt w A l c B k d N D) :
    Calls Tryz.prog 75 #[.agg #[.bool s, .slice A l c, .slice B k d]] w fun e w' => e = .returned (.int .i64 (if T < 0 then -1 else if T = 0 then 0 else 1)) ∧ Ext w w' := by
  have h1 := h.nwN
  have h2 := hr.lenN
  have := rsign_any s A l c (nd N) B k d w hr.1 (by omega)
  rwa [nv_nd, sgnZ_dr h] at this
end
end Go.Proofs.YtfbjeifhpmdjaaaGreat

/-
  Plain, over whatever program: the boxes' cells alone; where a walk stands. Conditions: those that each theorem names.
-/
namespace Go.Proofs.YtfbjeifhpmdjaaaGreat
open Go Go.RowKit Nm
set_option linter.unusedVariables false
set_option linter.unusedSimpArgs false

/-- The cells of the boxes alone: what is told so keeps a store from being walked cell by cell. -/
def CC (w : World) (g : Nat) : Nat → List Value → Prop
  | _, [] => True
  | i, v :: vs => w.cell? ⟨g, i, none⟩ = some v ∧ CC w g (i + 1) vs
def BC (w : World) : List Bx → Prop
  | [] => True
  | b :: L => CC w b.g 0 b.cs ∧ BC w L
theorem CC.of {w : World} {g : Nat} : ∀ {i : Nat} {cs : List Value}, CF w g i cs → CC w g i cs
  | _, [], _ => trivial
  | _, _ :: _, h => ⟨h.1, CC.of h.2.2⟩
theorem BC.of {w : World} : ∀ {L : List Bx}, BF w L → BC w L
  | [], _ => trivial
  | _ :: _, h => ⟨CC.of h.2.1, BC.of h.2.2⟩
theorem Own.cells {w0 w : World} {L : List Bx} {W : List Sw} (h : Own w0 L W w) : BC w L := BC.of h.facts
section
variable {P : Program} {ops : Array Oper} {Q : Exit → Act → World → Prop} {a : Act} {w : World} {rest : List Oper} {T ty : TypeId} {ps : String} {af : Array Edge} {x y : Operand} {d : Tmp}
/-- Where the walk stands: each of these says nothing, and lets an arm be passed by quickly. -/
theorem at_store (h : wpList P ops Q ({ dst := none, op := .store T x y, type := ty, pos := ps, after := af, guard := none } :: rest) a w) : wpList P ops Q ({ dst := none, op := .store T x y, type := ty, pos := ps, after := af, guard := none } :: rest) a w := h
theorem at_box (h : wpList P ops Q ({ dst := some d, op := .box T x, type := ty, pos := ps, after := af, guard := none } :: rest) a w) : wpList P ops Q ({ dst := some d, op := .box T x, type := ty, pos := ps, after := af, guard := none } :: rest) a w := h
theorem at_alloc (h : wpList P ops Q ({ dst := some d, op := .alloc T, type := ty, pos := ps, after := af, guard := none } :: rest) a w) : wpList P ops Q ({ dst := some d, op := .alloc T, type := ty, pos := ps, after := af, guard := none } :: rest) a w := h
end
end Go.Proofs.YtfbjeifhpmdjaaaGreat

/-
  Plain, over whatever program: boxes that a call is handed and may turn; loads of whole parts of boxes. Conditions: those that each theorem names.
-/
namespace Go.Proofs.YtfbjeifhpmdjaaaGreat
open Go Go.RowKit Nm
set_option linter.unusedVariables false
set_option linter.unusedSimpArgs false

section
variable {w0 w w' : World} {L L' : List Bx} {W : List Sw}
theorem Own.perm (h : Own w0 L W w) (hp : L.Perm L') : Own w0 L' W w :=
  ⟨h.1, fun b hb => h.2.1 b (hp.mem_iff.2 hb), (hp.map Bx.g).nodup_iff.1 h.2.2.1, h.2.2.2⟩
theorem Own.sub (h : Own w0 L W w) (hs : L'.Sublist L) : Own w0 L' W w :=
  ⟨h.1, fun b hb => h.2.1 b (hs.subset hb), h.2.2.1.sublist (hs.map Bx.g), h.2.2.2⟩
theorem Own.tail {b : Bx} (h : Own w0 (b :: L) W w) : Own w0 L W w := h.sub (List.sublist_cons_self _ _)
theorem Own.swap {b c : Bx} (h : Own w0 (b :: c :: L) W w) : Own w0 (c :: b :: L) W w := h.perm (List.Perm.swap _ _ _)
theorem Own.drop2 {b c : Bx} (h : Own w0 (b :: c :: L) W w) : Own w0 (b :: L) W w := h.sub (List.Sublist.cons_cons _ (List.sublist_cons_self _ _))
theorem Own.forget {W' : List Sw} (h : Own w0 L W w) (hW : ∀ s ∈ W', s ∈ W) : Own w0 L W' w := ⟨h.1, h.2.1, h.2.2.1, fun s hs => h.2.2.2 s (hW s hs)⟩
/-- One cell of a box that is known whole. -/
theorem Own.cell (h : Own w0 L W w) (i : Nat) {b : Bx} (hi : L[i]? = some b) (j : Nat) : w.cell? ⟨b.g, j, none⟩ = b.cs[j]? := by
  have := (h.2.1 b (List.mem_of_getElem? hi)).2.1.cell j
  simpa using this
theorem Own.frozen (h : Own w0 L W w) (i : Nat) {b : Bx} (hi : L[i]? = some b) (j : Nat) : w.frozen? ⟨b.g, j, none⟩ = false :=
  (h.2.1 b (List.mem_of_getElem? hi)).2.1.frozen j
end

section
variable {P : Program} {ops : Array Oper} {Q : Exit → Act → World → Prop} {a : Act} {w w0 : World} {rest : List Oper} {L : List Bx} {W : List Sw} {T ty : TypeId} {ps : String} {af : Array Edge} {x y : Operand} {d : Tmp}
theorem at_load (h : wpList P ops Q ({ dst := some d, op := .load T x, type := ty, pos := ps, after := af, guard := none } :: rest) a w) : wpList P ops Q ({ dst := some d, op := .load T x, type := ty, pos := ps, after := af, guard := none } :: rest) a w := h
/-- A part of a box is read whole. -/
theorem own_load (hO : Own w0 L W w) (i : Nat) {b : Bx} (hb : L[i]? = some b) {off n : Nat} (hx : a.eval x = .pointer (some ⟨b.g, off, none⟩)) (hag : ∀ w, (isAgg T).run P w = .ok true w) (hsz : ∀ w, (sizeOf T).run P w = .ok n w) (hle : Nat.ble (off + n) b.cs.length = true) {vs : List Value} (hvs : (b.cs.drop off).take n = vs)
    (h : wpList P ops Q rest (a.put (some d) (.agg vs.toArray)) w) :
    wpList P ops Q ({ dst := some d, op := .load T x, type := ty, pos := ps, after := af, guard := none } :: rest) a w := by
  refine wpList_of_run rfl ?_ h
  have hB := (hO.2.1 b (List.mem_of_getElem? hb)).2.1
  have := run_loadCells (P := P) (off := off) hB n 0 #[] (by have := Nat.le_of_ble_eq_true hle; omega)
  simp [execOp, Instr.loadAt, hx, Instr.sureAddr, loadVar, hag, hsz, loadCells, this, hvs]
end

/-- Words of 64 bits as cells. -/
def u64s (xs : List Nat) : List Value := xs.map fun (x : Nat) => Value.int .u64 (x : Int)
theorem u64s_len (xs : List Nat) : (u64s xs).length = xs.length := by simp [u64s]
theorem u64s_noU (xs : List Nat) : (u64s xs).any isU = false := by
  induction xs with
  | nil => rfl
  | cons x xs ih => simp [u64s, isU]
theorem u64s_set (xs : List Nat) (i x : Nat) : (u64s xs).set i (.int .u64 (x : Int)) = u64s (xs.set i x) := by simp [u64s, List.map_set]
theorem u64s_get {xs : List Nat} {i : Nat} (h : i < xs.length) : (u64s xs)[i]? = some (.int .u64 (xs[i] : Int)) := by simp [u64s, h]

/-- The cells of a sum: its words, what else it has taken, its terms. -/
def sc (ws : List Nat) (p m n : Bool) (t : Nat) : List Value := u64s ws ++ [.bool p, .bool m, .bool n, .int .u64 (t : Int)]
section
variable {ws : List Nat} {p m n : Bool} {t : Nat}
theorem sc_len (h : ws.length = 68) : (sc ws p m n t).length = 72 := by simp [sc, u64s_len, h]
theorem sc_noU : (sc ws p m n t).any isU = false := by rw [sc, List.any_append, u64s_noU]; rfl
theorem sc_word {i : Nat} (hi : i < ws.length) : (sc ws p m n t)[i]? = some (.int .u64 (ws[i] : Int)) := by
  rw [sc, List.getElem?_append_left (by rw [u64s_len]; exact hi), u64s_get hi]
theorem sc_at (h : ws.length = 68) (k : Nat) : (sc ws p m n t)[68 + k]? = [Value.bool p, .bool m, .bool n, .int .u64 (t : Int)][k]? := by
  rw [sc, List.getElem?_append_right (by rw [u64s_len]; omega), u64s_len, h, Nat.add_sub_cancel_left]
theorem sc_setw {i : Nat} (hi : i < ws.length) (x : Nat) : (sc ws p m n t).set i (.int .u64 (x : Int)) = sc (ws.set i x) p m n t := by
  rw [sc, List.set_append_left _ _ (by rw [u64s_len]; exact hi), u64s_set]; rfl
theorem sc_set (h : ws.length = 68) (k : Nat) (v : Value) : (sc ws p m n t).set (68 + k) v = u64s ws ++ [Value.bool p, .bool m, .bool n, .int .u64 (t : Int)].set k v := by
  rw [sc, List.set_append_right _ _ (by rw [u64s_len]; omega), u64s_len, h, Nat.add_sub_cancel_left]
theorem sc_setp (h : ws.length = 68) (b : Bool) : (sc ws p m n t).set 68 (.bool b) = sc ws b m n t := sc_set h 0 _
theorem sc_setm (h : ws.length = 68) (b : Bool) : (sc ws p m n t).set 69 (.bool b) = sc ws p b n t := sc_set h 1 _
theorem sc_setn (h : ws.length = 68) (b : Bool) : (sc ws p m n t).set 70 (.bool b) = sc ws p m b t := sc_set h 2 _
theorem sc_sett (h : ws.length = 68) (x : Nat) : (sc ws p m n t).set 71 (.int .u64 (x : Int)) = sc ws p m n x := sc_set h 3 _
theorem sc_p (h : ws.length = 68) : (sc ws p m n t)[68]? = some (.bool p) := sc_at h 0
theorem sc_m (h : ws.length = 68) : (sc ws p m n t)[69]? = some (.bool m) := sc_at h 1
theorem sc_n (h : ws.length = 68) : (sc ws p m n t)[70]? = some (.bool n) := sc_at h 2
theorem sc_t (h : ws.length = 68) : (sc ws p m n t)[71]? = some (.int .u64 (t : Int)) := sc_at h 3
theorem sc_words (h : ws.length = 68) : ((sc ws p m n t).drop 0).take 68 = u64s ws := by
  rw [List.drop_zero, sc, List.take_append_of_le_length (by rw [u64s_len]; omega), List.take_of_length_le (by rw [u64s_len]; omega)]
end
end Go.Proofs.YtfbjeifhpmdjaaaGreat
