/-
  The contract of the document's sum of two ratios. Conditions: those that each theorem names.
-/
import Derived.Test.YtllfcklgljdgeaaZ24
import Derived.Test.YtllfcklgljdgeaaZ20
import Derived.Test.YtllfcklgljdgeaaZ03
namespace Go.Proofs.Ytllfcklgljdgeaa
open Go.RowKit Nm Rn
set_option maxRecDepth 100000
set_option linter.unusedVariables false
set_option linter.unusedSimpArgs false

set_option maxHeartbeats 2000000 in
theorem radd_same (n m : Bool) (A : Option Addr) (l c : Nat) (B : Option Addr) (k d N D : Nat) (A' : Option Addr) (l' c' : Nat) (B' : Option Addr) (k' d' N' D' : Nat) (w : World)
    (h : RatAt w A l c B k d N D) (h' : RatAt w A' l' c' B' k' d' N' D') (hN : nw N ≤ 1073741824) (hD : nw D ≤ 1073741824) (hN' : nw N' ≤ 1073741824) (hD' : nw D' ≤ 1073741824) (hp : 0 < D * D') (hnm : (n == m) = true) (hc : N * D' = N * D' ∧ N' * D = N' * D) :
    Calls Try.prog 74 #[.agg #[.bool n, .slice A l c, .slice B k d], .agg #[.bool m, .slice A' l' c', .slice B' k' d']] w (RetR (n && decide (N * D' + N' * D ≠ 0)) (fracN (N * D' + N' * D) (D * D') 0) (fracD (N * D' + N' * D) (D * D') 0) w) := by
  have hl := h.lenN
  have hk := h.lenD
  have hl' := h'.lenN
  have hk' := h'.lenD
  have hO := ((((Own.start w).add h.1).add h.2).add h'.1).add h'.2
  have hT1 := fun w h h' => times_any A l c (nd N) B' k' d' (nd D') w h (by omega) h' (by omega)
  have hT2 := fun w h h' => times_any A' l' c' (nd N') B k d (nd D) w h (by omega) h' (by omega)
  have hT3 := fun w h h' => times_any B k d (nd D) B' k' d' (nd D') w h (by omega) h' (by omega)
  have e1 := nw_mul2 N D'
  have e2 := nw_mul2 N' D
  have e3 := nw_mul2 D D'
  simp only [nv_nd] at hT1 hT2 hT3
  obtain ⟨P, hP⟩ : ∃ P, P = N * D' := ⟨_, rfl⟩
  obtain ⟨Q, hQ⟩ : ∃ Q, Q = N' * D := ⟨_, rfl⟩
  obtain ⟨R, hR⟩ : ∃ R, R = D * D' := ⟨_, rfl⟩
  rw [← hP] at hT1 e1 hc ⊢
  rw [← hQ] at hT2 e2 hc ⊢
  rw [← hR] at hT3 e3 hp ⊢
  obtain ⟨X, hX⟩ : ∃ X, X = P + Q := ⟨_, rfl⟩
  have hOP := fun A n1 c B n2 d w (h : Wds w A n1 c (nd P)) (k : Wds w B n2 d (nd Q)) => plus_any A n1 c (nd P) B n2 d (nd Q) w h (by have := h.len; rw [nd_length] at this; omega) k (by have := k.len; rw [nd_length] at this; omega)
  simp only [nv_nd] at hOP
  rw [← hX] at hOP ⊢
  have eX : nw X ≤ nw P + nw Q + 1 := by
    have h1 := lt_pow_nw P
    have h2 := lt_pow_nw Q
    have h3 : 4294967296 ^ nw P ≤ 4294967296 ^ (nw P + nw Q) := Nat.pow_le_pow_right (by omega) (by omega)
    have h4 : 4294967296 ^ nw Q ≤ 4294967296 ^ (nw P + nw Q) := Nat.pow_le_pow_right (by omega) (by omega)
    refine (nw_le_iff _ _).2 ?_
    rw [Nat.pow_succ]
    omega
  have hFR := fun A n1 c B n2 d w (h : Wds w A n1 c (nd X)) (k : Wds w B n2 d (nd R)) => frac_any n A n1 c (nd X) B n2 d (nd R) 0 w h (by have := h.len; rw [nd_length] at this; omega) k (by have := k.len; rw [nd_length] at this; omega) (by omega) (by omega) (by rw [nv_nd]; exact hp)
  simp only [nv_nd] at hFR
  clear eX
  obtain ⟨zz, hzz⟩ : ∃ zz, zz = (n && decide (X ≠ 0)) := ⟨_, rfl⟩
  rw [← hzz] at hFR ⊢
  clear hzz
  clear hc
  have HT1 := Lib.hid hT1
  have HT2 := Lib.hid hT2
  have HT3 := Lib.hid hT3
  have HFR := Lib.hid hFR
  have HOP := Lib.hid hOP
  clear hT1 hT2 hT3 hFR hOP hP hQ hR h h' hl hk hl' hk' hN hD hN' hD' hp e1 e2 e3 hX
  go_enter Try.func74, Try.ntmps74
  go_upto_region 1 with (first
    | (refine own_box (cs := [.bool n, .slice A l c, .slice B k d]) hO rfl rfl ?_; clear hO; intro ga wa hO)
    | (refine own_box (cs := [.bool m, .slice A' l' c', .slice B' k' d']) hO rfl rfl ?_; clear hO; intro gb wb hO)
    | (refine own_alloc hO zero_rat rfl rfl ?_; clear hO; intro g w1 hO))
  have hf := hO.facts
  simp only [BF, CF, Nat.zero_add, Nat.reduceAdd, and_true] at hf
  go_wp2_with fail
  refine (HT1.out _ (hO.wd 3 rfl) (hO.wd 0 rfl)).mono ?_
  rintro e w2 ⟨A5, n5, c5, rfl, hW, hE⟩
  have hO := (hO.ext hE).add hW
  clear hW hE hf
  have hf := hO.facts
  simp only [BF, CF, Nat.zero_add, Nat.reduceAdd, and_true] at hf
  go_wp2_with fail
  refine (HT2.out _ (hO.wd 2 rfl) (hO.wd 3 rfl)).mono ?_
  rintro e w3 ⟨A6, n6, c6, rfl, hW, hE⟩
  have hO := (hO.ext hE).add hW
  clear hW hE hf
  have hf := hO.facts
  simp only [BF, CF, Nat.zero_add, Nat.reduceAdd, and_true] at hf
  go_wp2_with fail
  refine (HT3.out _ (hO.wd 4 rfl) (hO.wd 2 rfl)).mono ?_
  rintro e w4 ⟨A7, n7, c7, rfl, hW, hE⟩
  have hO := (hO.ext hE).add hW
  clear hW hE hf
  have hf := hO.facts
  simp only [BF, CF, Nat.zero_add, Nat.reduceAdd, and_true] at hf
  go_wp2_with fail
  obtain ⟨S, hS⟩ : ∃ S : World → Prop, S = Own w [⟨g, 45, [.bool false, .slice none 0 0, .slice none 0 0]⟩, ⟨gb, 45, [.bool m, .slice A' l' c', .slice B' k' d']⟩, ⟨ga, 45, [.bool n, .slice A l c, .slice B k d]⟩] [⟨A7, n7, c7, nd R⟩, ⟨A6, n6, c6, nd Q⟩, ⟨A5, n5, c5, nd P⟩, ⟨B', k', d', nd D'⟩, ⟨A', l', c', nd N'⟩, ⟨B, k, d, nd D⟩, ⟨A, l, c, nd N⟩] := ⟨_, rfl⟩
  have hSE : ∀ w w', S w → Ext w w' → S w' := fun w w' h1 h2 => by rw [hS] at h1 ⊢; exact h1.ext h2
  have hS1 : S (w4).drew := by rw [hS]; exact hO.ext (Ext.refl _).drew
  have HS := Lib.hid hS
  clear hS hO hf
  obtain ⟨sp, hsp⟩ : ∃ sp : Nat → Sp, sp = ofList [det (.pointer (some ⟨ga, 0, none⟩)), det (.bool n), det (.slice A5 n5 c5), det (.slice A6 n6 c6), anyOf (fun v wz => ∃ A1 n1 c1, v = .slice A1 n1 c1 ∧ Wds wz A1 n1 c1 (nd X)), det (.slice A7 n7 c7),
    anyOf (fun v wz => ∃ A1 n1 c1 A2 n2 c2, v = .agg #[.bool zz, .slice A1 n1 c1, .slice A2 n2 c2] ∧ RatAt wz A1 n1 c1 A2 n2 c2 (fracN X R 0) (fracD X R 0))] := ⟨_, rfl⟩
  have HSP := Lib.hid hsp
  clear hsp
  refine wp_region_loose 7 S sp (by kernel_rfl) (by kernel_rfl) hS1 hSE ?_
  simp only [List.take_succ_cons, List.take_zero, List.drop_succ_cons, List.drop_zero]
  iterate 6
    refine wpX_step (fun K hK => ?_)
    go_simp
    first
    | (refine ⟨by rw [HSP.out]; rfl, hK _ _ ?_⟩
       clear hK K)
    | (refine StepY.det (by rw [HSP.out]; rfl) ?_ ?_
       · intro wz hz hF
         rw [HS.out] at hz
         have hf := hz.facts
         simp only [BF, CF, Nat.zero_add, Nat.reduceAdd, and_true] at hf
         clear hz hF
         go_simp
         exact ⟨rfl, Ext.refl _⟩
       refine hK _ _ ?_
       clear hK K)
    | (refine StepY.any (by rw [HSP.out]; rfl) ?_ ?_
       · intro wz hz hF
         rw [HS.out] at hz
         have h1 := hz.wd 1 rfl
         have h2 := hz.wd 2 rfl
         clear hz
         go_simp
         go_at_call 107
         (with_reducible refine (HOP.out _ _ _ _ _ _ _ h2 h1).mono ?_)
         rintro e w2 ⟨A1, n1, c1, rfl, hW1, hE1⟩
         exact ⟨_, rfl, ⟨A1, n1, c1, rfl, hW1⟩, hE1⟩
       intro v
       refine hK _ _ ?_
       clear hK K)
  refine wpX_step (fun K hK => ?_)
  go_simp
  refine StepY.any (by rw [HSP.out]; rfl) ?_ ?_
  · intro wz hz hF
    obtain ⟨wa', ea, A1, n1, c1, hv1, hw1⟩ := hF.any 4 (by kernel_rfl) (by rw [HSP.out]; rfl)
    clear hF
    simp only [asFun, List.nil_append, List.cons_append, List.getD_cons_succ, List.getD_cons_zero] at hv1
    subst hv1
    rw [HS.out] at hz
    go_simp
    go_at_call 96
    refine (HFR.out _ _ _ _ _ _ _ (hw1.ext ea) (hz.wd 0 rfl)).mono ?_
    rintro e w2 ⟨A3, n3, c3, A4, n4, c4, rfl, hW1, hW2, hE1⟩
    exact ⟨_, rfl, ⟨A3, n3, c3, A4, n4, c4, rfl, hW1, hW2⟩, hE1⟩
  intro v
  refine hK _ _ ?_
  clear hK K
  refine wpX_nil ?_
  intro w3 hz hF
  obtain ⟨w0, e0, A3, n3, c3, A4, n4, c4, hv, hw0⟩ := fact_any (hF 6 (by omega)) (by rw [HSP.out]; rfl)
  clear hF
  simp only [asFun, List.nil_append, List.cons_append, List.getD_cons_succ, List.getD_cons_zero] at hv
  subst hv
  rw [HS.out] at hz
  have hO := (hz.add (hw0.ext e0).1).add (hw0.ext e0).2
  clear hz hw0 e0
  go_wp2_with (refine own_store hO 0 rfl rfl rfl size_rat rfl rfl rfl ?_; clear hO; intro w4 hO)
  exact own_ret hO 0 rfl rfl rfl agg_rat size_rat rfl ⟨_, _, _, _, _, _, rfl, hO.wd 1 rfl, hO.wd 0 rfl, hO.toExt⟩

set_option maxHeartbeats 2000000 in
theorem radd_ge (n m : Bool) (A : Option Addr) (l c : Nat) (B : Option Addr) (k d N D : Nat) (A' : Option Addr) (l' c' : Nat) (B' : Option Addr) (k' d' N' D' : Nat) (w : World)
    (h : RatAt w A l c B k d N D) (h' : RatAt w A' l' c' B' k' d' N' D') (hN : nw N ≤ 1073741824) (hD : nw D ≤ 1073741824) (hN' : nw N' ≤ 1073741824) (hD' : nw D' ≤ 1073741824) (hp : 0 < D * D') (hnm : (n == m) = false) (hc : N' * D ≤ N * D') :
    Calls Try.prog 74 #[.agg #[.bool n, .slice A l c, .slice B k d], .agg #[.bool m, .slice A' l' c', .slice B' k' d']] w (RetR (n && decide (N * D' - N' * D ≠ 0)) (fracN (N * D' - N' * D) (D * D') 0) (fracD (N * D' - N' * D) (D * D') 0) w) := by
  have hl := h.lenN
  have hk := h.lenD
  have hl' := h'.lenN
  have hk' := h'.lenD
  have hO := ((((Own.start w).add h.1).add h.2).add h'.1).add h'.2
  have hT1 := fun w h h' => times_any A l c (nd N) B' k' d' (nd D') w h (by omega) h' (by omega)
  have hT2 := fun w h h' => times_any A' l' c' (nd N') B k d (nd D) w h (by omega) h' (by omega)
  have hT3 := fun w h h' => times_any B k d (nd D) B' k' d' (nd D') w h (by omega) h' (by omega)
  have e1 := nw_mul2 N D'
  have e2 := nw_mul2 N' D
  have e3 := nw_mul2 D D'
  simp only [nv_nd] at hT1 hT2 hT3
  obtain ⟨P, hP⟩ : ∃ P, P = N * D' := ⟨_, rfl⟩
  obtain ⟨Q, hQ⟩ : ∃ Q, Q = N' * D := ⟨_, rfl⟩
  obtain ⟨R, hR⟩ : ∃ R, R = D * D' := ⟨_, rfl⟩
  rw [← hP] at hT1 e1 hc ⊢
  rw [← hQ] at hT2 e2 hc ⊢
  rw [← hR] at hT3 e3 hp ⊢
  obtain ⟨X, hX⟩ : ∃ X, X = P - Q := ⟨_, rfl⟩
  have hOP := fun A n1 c B n2 d w (h : Wds w A n1 c (nd P)) (k : Wds w B n2 d (nd Q)) => minus_any A n1 c (nd P) B n2 d (nd Q) w h (by have := h.len; rw [nd_length] at this; omega) k (by have := k.len; rw [nd_length] at this; omega) (by rw [nv_nd, nv_nd]; omega)
  simp only [nv_nd] at hOP
  rw [← hX] at hOP ⊢
  have eX : nw X ≤ nw P + nw Q + 1 := by
    have h1 := lt_pow_nw P
    have h2 := lt_pow_nw Q
    have h3 : 4294967296 ^ nw P ≤ 4294967296 ^ (nw P + nw Q) := Nat.pow_le_pow_right (by omega) (by omega)
    have h4 : 4294967296 ^ nw Q ≤ 4294967296 ^ (nw P + nw Q) := Nat.pow_le_pow_right (by omega) (by omega)
    refine (nw_le_iff _ _).2 ?_
    rw [Nat.pow_succ]
    omega
  have hFR := fun A n1 c B n2 d w (h : Wds w A n1 c (nd X)) (k : Wds w B n2 d (nd R)) => frac_any n A n1 c (nd X) B n2 d (nd R) 0 w h (by have := h.len; rw [nd_length] at this; omega) k (by have := k.len; rw [nd_length] at this; omega) (by omega) (by omega) (by rw [nv_nd]; exact hp)
  simp only [nv_nd] at hFR
  clear eX
  obtain ⟨zz, hzz⟩ : ∃ zz, zz = (n && decide (X ≠ 0)) := ⟨_, rfl⟩
  rw [← hzz] at hFR ⊢
  clear hzz
  have hCM := fun A n1 c B n2 d w (h : Wds w A n1 c (nd P)) (k : Wds w B n2 d (nd Q)) => cmp_any A n1 c (nd P) B n2 d (nd Q) w h (by have := h.len; rw [nd_length] at this; omega) k (by have := k.len; rw [nd_length] at this; omega)
  simp only [nv_nd] at hCM
  have hcc : decide (0 ≤ cmpN P Q) = true := by
    unfold cmpN
    rw [if_neg (by omega)]; split <;> simp
  have HCM := Lib.hid hCM
  clear hCM hc
  have HT1 := Lib.hid hT1
  have HT2 := Lib.hid hT2
  have HT3 := Lib.hid hT3
  have HFR := Lib.hid hFR
  have HOP := Lib.hid hOP
  clear hT1 hT2 hT3 hFR hOP hP hQ hR h h' hl hk hl' hk' hN hD hN' hD' hp e1 e2 e3 hX
  go_enter Try.func74, Try.ntmps74
  go_upto_region 1 with (first
    | (refine own_box (cs := [.bool n, .slice A l c, .slice B k d]) hO rfl rfl ?_; clear hO; intro ga wa hO)
    | (refine own_box (cs := [.bool m, .slice A' l' c', .slice B' k' d']) hO rfl rfl ?_; clear hO; intro gb wb hO)
    | (refine own_alloc hO zero_rat rfl rfl ?_; clear hO; intro g w1 hO))
  have hf := hO.facts
  simp only [BF, CF, Nat.zero_add, Nat.reduceAdd, and_true] at hf
  go_wp2_with fail
  refine (HT1.out _ (hO.wd 3 rfl) (hO.wd 0 rfl)).mono ?_
  rintro e w2 ⟨A5, n5, c5, rfl, hW, hE⟩
  have hO := (hO.ext hE).add hW
  clear hW hE hf
  have hf := hO.facts
  simp only [BF, CF, Nat.zero_add, Nat.reduceAdd, and_true] at hf
  go_wp2_with fail
  refine (HT2.out _ (hO.wd 2 rfl) (hO.wd 3 rfl)).mono ?_
  rintro e w3 ⟨A6, n6, c6, rfl, hW, hE⟩
  have hO := (hO.ext hE).add hW
  clear hW hE hf
  have hf := hO.facts
  simp only [BF, CF, Nat.zero_add, Nat.reduceAdd, and_true] at hf
  go_wp2_with fail
  refine (HT3.out _ (hO.wd 4 rfl) (hO.wd 2 rfl)).mono ?_
  rintro e w4 ⟨A7, n7, c7, rfl, hW, hE⟩
  have hO := (hO.ext hE).add hW
  clear hW hE hf
  have hf := hO.facts
  simp only [BF, CF, Nat.zero_add, Nat.reduceAdd, and_true] at hf
  go_wp2_with fail
  refine (HCM.out _ _ _ _ _ _ _ (hO.wd 2 rfl) (hO.wd 1 rfl)).mono ?_
  rintro e w5 ⟨rfl, q, rfl⟩
  have hO := hO.ext ((Ext.refl w4).drewN q)
  clear hf
  have hf := hO.facts
  simp only [BF, CF, Nat.zero_add, Nat.reduceAdd, and_true] at hf
  go_wp2_with fail
  obtain ⟨S, hS⟩ : ∃ S : World → Prop, S = Own w [⟨g, 45, [.bool false, .slice none 0 0, .slice none 0 0]⟩, ⟨gb, 45, [.bool m, .slice A' l' c', .slice B' k' d']⟩, ⟨ga, 45, [.bool n, .slice A l c, .slice B k d]⟩] [⟨A7, n7, c7, nd R⟩, ⟨A6, n6, c6, nd Q⟩, ⟨A5, n5, c5, nd P⟩, ⟨B', k', d', nd D'⟩, ⟨A', l', c', nd N'⟩, ⟨B, k, d, nd D⟩, ⟨A, l, c, nd N⟩] := ⟨_, rfl⟩
  have hSE : ∀ w w', S w → Ext w w' → S w' := fun w w' h1 h2 => by rw [hS] at h1 ⊢; exact h1.ext h2
  have hS1 : S (w4.drewN q).drew := by rw [hS]; exact hO.ext (Ext.refl _).drew
  have HS := Lib.hid hS
  clear hS hO hf
  obtain ⟨sp, hsp⟩ : ∃ sp : Nat → Sp, sp = ofList [det (.pointer (some ⟨ga, 0, none⟩)), det (.bool n), det (.slice A5 n5 c5), det (.slice A6 n6 c6), anyOf (fun v wz => ∃ A1 n1 c1, v = .slice A1 n1 c1 ∧ Wds wz A1 n1 c1 (nd X)), det (.slice A7 n7 c7),
    anyOf (fun v wz => ∃ A1 n1 c1 A2 n2 c2, v = .agg #[.bool zz, .slice A1 n1 c1, .slice A2 n2 c2] ∧ RatAt wz A1 n1 c1 A2 n2 c2 (fracN X R 0) (fracD X R 0))] := ⟨_, rfl⟩
  have HSP := Lib.hid hsp
  clear hsp
  refine wp_region_loose 7 S sp (by kernel_rfl) (by kernel_rfl) hS1 hSE ?_
  simp only [List.take_succ_cons, List.take_zero, List.drop_succ_cons, List.drop_zero]
  iterate 6
    refine wpX_step (fun K hK => ?_)
    go_simp
    first
    | (refine ⟨by rw [HSP.out]; rfl, hK _ _ ?_⟩
       clear hK K)
    | (refine StepY.det (by rw [HSP.out]; rfl) ?_ ?_
       · intro wz hz hF
         rw [HS.out] at hz
         have hf := hz.facts
         simp only [BF, CF, Nat.zero_add, Nat.reduceAdd, and_true] at hf
         clear hz hF
         go_simp
         exact ⟨rfl, Ext.refl _⟩
       refine hK _ _ ?_
       clear hK K)
    | (refine StepY.any (by rw [HSP.out]; rfl) ?_ ?_
       · intro wz hz hF
         rw [HS.out] at hz
         have h1 := hz.wd 1 rfl
         have h2 := hz.wd 2 rfl
         clear hz
         go_simp
         go_at_call 108
         (with_reducible refine (HOP.out _ _ _ _ _ _ _ h2 h1).mono ?_)
         rintro e w2 ⟨A1, n1, c1, rfl, hW1, hE1⟩
         exact ⟨_, rfl, ⟨A1, n1, c1, rfl, hW1⟩, hE1⟩
       intro v
       refine hK _ _ ?_
       clear hK K)
  refine wpX_step (fun K hK => ?_)
  go_simp
  refine StepY.any (by rw [HSP.out]; rfl) ?_ ?_
  · intro wz hz hF
    obtain ⟨wa', ea, A1, n1, c1, hv1, hw1⟩ := hF.any 4 (by kernel_rfl) (by rw [HSP.out]; rfl)
    clear hF
    simp only [asFun, List.nil_append, List.cons_append, List.getD_cons_succ, List.getD_cons_zero] at hv1
    subst hv1
    rw [HS.out] at hz
    go_simp
    go_at_call 96
    refine (HFR.out _ _ _ _ _ _ _ (hw1.ext ea) (hz.wd 0 rfl)).mono ?_
    rintro e w2 ⟨A3, n3, c3, A4, n4, c4, rfl, hW1, hW2, hE1⟩
    exact ⟨_, rfl, ⟨A3, n3, c3, A4, n4, c4, rfl, hW1, hW2⟩, hE1⟩
  intro v
  refine hK _ _ ?_
  clear hK K
  refine wpX_nil ?_
  intro w3 hz hF
  obtain ⟨w0, e0, A3, n3, c3, A4, n4, c4, hv, hw0⟩ := fact_any (hF 6 (by omega)) (by rw [HSP.out]; rfl)
  clear hF
  simp only [asFun, List.nil_append, List.cons_append, List.getD_cons_succ, List.getD_cons_zero] at hv
  subst hv
  rw [HS.out] at hz
  have hO := (hz.add (hw0.ext e0).1).add (hw0.ext e0).2
  clear hz hw0 e0
  go_wp2_with (refine own_store hO 0 rfl rfl rfl size_rat rfl rfl rfl ?_; clear hO; intro w4 hO)
  exact own_ret hO 0 rfl rfl rfl agg_rat size_rat rfl ⟨_, _, _, _, _, _, rfl, hO.wd 1 rfl, hO.wd 0 rfl, hO.toExt⟩

set_option maxHeartbeats 2000000 in
theorem radd_lt (n m : Bool) (A : Option Addr) (l c : Nat) (B : Option Addr) (k d N D : Nat) (A' : Option Addr) (l' c' : Nat) (B' : Option Addr) (k' d' N' D' : Nat) (w : World)
    (h : RatAt w A l c B k d N D) (h' : RatAt w A' l' c' B' k' d' N' D') (hN : nw N ≤ 1073741824) (hD : nw D ≤ 1073741824) (hN' : nw N' ≤ 1073741824) (hD' : nw D' ≤ 1073741824) (hp : 0 < D * D') (hnm : (n == m) = false) (hc : N * D' < N' * D) :
    Calls Try.prog 74 #[.agg #[.bool n, .slice A l c, .slice B k d], .agg #[.bool m, .slice A' l' c', .slice B' k' d']] w (RetR (m && decide (N' * D - N * D' ≠ 0)) (fracN (N' * D - N * D') (D * D') 0) (fracD (N' * D - N * D') (D * D') 0) w) := by
  have hl := h.lenN
  have hk := h.lenD
  have hl' := h'.lenN
  have hk' := h'.lenD
  have hO := ((((Own.start w).add h.1).add h.2).add h'.1).add h'.2
  have hT1 := fun w h h' => times_any A l c (nd N) B' k' d' (nd D') w h (by omega) h' (by omega)
  have hT2 := fun w h h' => times_any A' l' c' (nd N') B k d (nd D) w h (by omega) h' (by omega)
  have hT3 := fun w h h' => times_any B k d (nd D) B' k' d' (nd D') w h (by omega) h' (by omega)
  have e1 := nw_mul2 N D'
  have e2 := nw_mul2 N' D
  have e3 := nw_mul2 D D'
  simp only [nv_nd] at hT1 hT2 hT3
  obtain ⟨P, hP⟩ : ∃ P, P = N * D' := ⟨_, rfl⟩
  obtain ⟨Q, hQ⟩ : ∃ Q, Q = N' * D := ⟨_, rfl⟩
  obtain ⟨R, hR⟩ : ∃ R, R = D * D' := ⟨_, rfl⟩
  rw [← hP] at hT1 e1 hc ⊢
  rw [← hQ] at hT2 e2 hc ⊢
  rw [← hR] at hT3 e3 hp ⊢
  obtain ⟨X, hX⟩ : ∃ X, X = Q - P := ⟨_, rfl⟩
  have hOP := fun A n1 c B n2 d w (h : Wds w A n1 c (nd Q)) (k : Wds w B n2 d (nd P)) => minus_any A n1 c (nd Q) B n2 d (nd P) w h (by have := h.len; rw [nd_length] at this; omega) k (by have := k.len; rw [nd_length] at this; omega) (by rw [nv_nd, nv_nd]; omega)
  simp only [nv_nd] at hOP
  rw [← hX] at hOP ⊢
  have eX : nw X ≤ nw P + nw Q + 1 := by
    have h1 := lt_pow_nw P
    have h2 := lt_pow_nw Q
    have h3 : 4294967296 ^ nw P ≤ 4294967296 ^ (nw P + nw Q) := Nat.pow_le_pow_right (by omega) (by omega)
    have h4 : 4294967296 ^ nw Q ≤ 4294967296 ^ (nw P + nw Q) := Nat.pow_le_pow_right (by omega) (by omega)
    refine (nw_le_iff _ _).2 ?_
    rw [Nat.pow_succ]
    omega
  have hFR := fun A n1 c B n2 d w (h : Wds w A n1 c (nd X)) (k : Wds w B n2 d (nd R)) => frac_any m A n1 c (nd X) B n2 d (nd R) 0 w h (by have := h.len; rw [nd_length] at this; omega) k (by have := k.len; rw [nd_length] at this; omega) (by omega) (by omega) (by rw [nv_nd]; exact hp)
  simp only [nv_nd] at hFR
  clear eX
  obtain ⟨zz, hzz⟩ : ∃ zz, zz = (m && decide (X ≠ 0)) := ⟨_, rfl⟩
  rw [← hzz] at hFR ⊢
  clear hzz
  have hCM := fun A n1 c B n2 d w (h : Wds w A n1 c (nd P)) (k : Wds w B n2 d (nd Q)) => cmp_any A n1 c (nd P) B n2 d (nd Q) w h (by have := h.len; rw [nd_length] at this; omega) k (by have := k.len; rw [nd_length] at this; omega)
  simp only [nv_nd] at hCM
  have hcc : decide (0 ≤ cmpN P Q) = false := by
    unfold cmpN
    rw [if_pos (by omega)]; simp
  have HCM := Lib.hid hCM
  clear hCM hc
  have HT1 := Lib.hid hT1
  have HT2 := Lib.hid hT2
  have HT3 := Lib.hid hT3
  have HFR := Lib.hid hFR
  have HOP := Lib.hid hOP
  clear hT1 hT2 hT3 hFR hOP hP hQ hR h h' hl hk hl' hk' hN hD hN' hD' hp e1 e2 e3 hX
  go_enter Try.func74, Try.ntmps74
  go_upto_region 1 with (first
    | (refine own_box (cs := [.bool n, .slice A l c, .slice B k d]) hO rfl rfl ?_; clear hO; intro ga wa hO)
    | (refine own_box (cs := [.bool m, .slice A' l' c', .slice B' k' d']) hO rfl rfl ?_; clear hO; intro gb wb hO)
    | (refine own_alloc hO zero_rat rfl rfl ?_; clear hO; intro g w1 hO))
  have hf := hO.facts
  simp only [BF, CF, Nat.zero_add, Nat.reduceAdd, and_true] at hf
  go_wp2_with fail
  refine (HT1.out _ (hO.wd 3 rfl) (hO.wd 0 rfl)).mono ?_
  rintro e w2 ⟨A5, n5, c5, rfl, hW, hE⟩
  have hO := (hO.ext hE).add hW
  clear hW hE hf
  have hf := hO.facts
  simp only [BF, CF, Nat.zero_add, Nat.reduceAdd, and_true] at hf
  go_wp2_with fail
  refine (HT2.out _ (hO.wd 2 rfl) (hO.wd 3 rfl)).mono ?_
  rintro e w3 ⟨A6, n6, c6, rfl, hW, hE⟩
  have hO := (hO.ext hE).add hW
  clear hW hE hf
  have hf := hO.facts
  simp only [BF, CF, Nat.zero_add, Nat.reduceAdd, and_true] at hf
  go_wp2_with fail
  refine (HT3.out _ (hO.wd 4 rfl) (hO.wd 2 rfl)).mono ?_
  rintro e w4 ⟨A7, n7, c7, rfl, hW, hE⟩
  have hO := (hO.ext hE).add hW
  clear hW hE hf
  have hf := hO.facts
  simp only [BF, CF, Nat.zero_add, Nat.reduceAdd, and_true] at hf
  go_wp2_with fail
  refine (HCM.out _ _ _ _ _ _ _ (hO.wd 2 rfl) (hO.wd 1 rfl)).mono ?_
  rintro e w5 ⟨rfl, q, rfl⟩
  have hO := hO.ext ((Ext.refl w4).drewN q)
  clear hf
  have hf := hO.facts
  simp only [BF, CF, Nat.zero_add, Nat.reduceAdd, and_true] at hf
  go_wp2_with fail
  obtain ⟨S, hS⟩ : ∃ S : World → Prop, S = Own w [⟨g, 45, [.bool false, .slice none 0 0, .slice none 0 0]⟩, ⟨gb, 45, [.bool m, .slice A' l' c', .slice B' k' d']⟩, ⟨ga, 45, [.bool n, .slice A l c, .slice B k d]⟩] [⟨A7, n7, c7, nd R⟩, ⟨A6, n6, c6, nd Q⟩, ⟨A5, n5, c5, nd P⟩, ⟨B', k', d', nd D'⟩, ⟨A', l', c', nd N'⟩, ⟨B, k, d, nd D⟩, ⟨A, l, c, nd N⟩] := ⟨_, rfl⟩
  have hSE : ∀ w w', S w → Ext w w' → S w' := fun w w' h1 h2 => by rw [hS] at h1 ⊢; exact h1.ext h2
  have hS1 : S (w4.drewN q).drew := by rw [hS]; exact hO.ext (Ext.refl _).drew
  have HS := Lib.hid hS
  clear hS hO hf
  obtain ⟨sp, hsp⟩ : ∃ sp : Nat → Sp, sp = ofList [det (.pointer (some ⟨gb, 0, none⟩)), det (.bool m), det (.slice A6 n6 c6), det (.slice A5 n5 c5), anyOf (fun v wz => ∃ A1 n1 c1, v = .slice A1 n1 c1 ∧ Wds wz A1 n1 c1 (nd X)), det (.slice A7 n7 c7),
    anyOf (fun v wz => ∃ A1 n1 c1 A2 n2 c2, v = .agg #[.bool zz, .slice A1 n1 c1, .slice A2 n2 c2] ∧ RatAt wz A1 n1 c1 A2 n2 c2 (fracN X R 0) (fracD X R 0))] := ⟨_, rfl⟩
  have HSP := Lib.hid hsp
  clear hsp
  refine wp_region_loose 7 S sp (by kernel_rfl) (by kernel_rfl) hS1 hSE ?_
  simp only [List.take_succ_cons, List.take_zero, List.drop_succ_cons, List.drop_zero]
  iterate 6
    refine wpX_step (fun K hK => ?_)
    go_simp
    first
    | (refine ⟨by rw [HSP.out]; rfl, hK _ _ ?_⟩
       clear hK K)
    | (refine StepY.det (by rw [HSP.out]; rfl) ?_ ?_
       · intro wz hz hF
         rw [HS.out] at hz
         have hf := hz.facts
         simp only [BF, CF, Nat.zero_add, Nat.reduceAdd, and_true] at hf
         clear hz hF
         go_simp
         exact ⟨rfl, Ext.refl _⟩
       refine hK _ _ ?_
       clear hK K)
    | (refine StepY.any (by rw [HSP.out]; rfl) ?_ ?_
       · intro wz hz hF
         rw [HS.out] at hz
         have h1 := hz.wd 1 rfl
         have h2 := hz.wd 2 rfl
         clear hz
         go_simp
         go_at_call 108
         (with_reducible refine (HOP.out _ _ _ _ _ _ _ h1 h2).mono ?_)
         rintro e w2 ⟨A1, n1, c1, rfl, hW1, hE1⟩
         exact ⟨_, rfl, ⟨A1, n1, c1, rfl, hW1⟩, hE1⟩
       intro v
       refine hK _ _ ?_
       clear hK K)
  refine wpX_step (fun K hK => ?_)
  go_simp
  refine StepY.any (by rw [HSP.out]; rfl) ?_ ?_
  · intro wz hz hF
    obtain ⟨wa', ea, A1, n1, c1, hv1, hw1⟩ := hF.any 4 (by kernel_rfl) (by rw [HSP.out]; rfl)
    clear hF
    simp only [asFun, List.nil_append, List.cons_append, List.getD_cons_succ, List.getD_cons_zero] at hv1
    subst hv1
    rw [HS.out] at hz
    go_simp
    go_at_call 96
    refine (HFR.out _ _ _ _ _ _ _ (hw1.ext ea) (hz.wd 0 rfl)).mono ?_
    rintro e w2 ⟨A3, n3, c3, A4, n4, c4, rfl, hW1, hW2, hE1⟩
    exact ⟨_, rfl, ⟨A3, n3, c3, A4, n4, c4, rfl, hW1, hW2⟩, hE1⟩
  intro v
  refine hK _ _ ?_
  clear hK K
  refine wpX_nil ?_
  intro w3 hz hF
  obtain ⟨w0, e0, A3, n3, c3, A4, n4, c4, hv, hw0⟩ := fact_any (hF 6 (by omega)) (by rw [HSP.out]; rfl)
  clear hF
  simp only [asFun, List.nil_append, List.cons_append, List.getD_cons_succ, List.getD_cons_zero] at hv
  subst hv
  rw [HS.out] at hz
  have hO := (hz.add (hw0.ext e0).1).add (hw0.ext e0).2
  clear hz hw0 e0
  go_wp2_with (refine own_store hO 0 rfl rfl rfl size_rat rfl rfl rfl ?_; clear hO; intro w4 hO)
  exact own_ret hO 0 rfl rfl rfl agg_rat size_rat rfl ⟨_, _, _, _, _, _, rfl, hO.wd 1 rfl, hO.wd 0 rfl, hO.toExt⟩

theorem radd_any (n m : Bool) (A : Option Addr) (l c : Nat) (B : Option Addr) (k d N D : Nat) (A' : Option Addr) (l' c' : Nat) (B' : Option Addr) (k' d' N' D' : Nat) (w : World)
    (h : RatAt w A l c B k d N D) (h' : RatAt w A' l' c' B' k' d' N' D') (hN : nw N ≤ 1073741824) (hD : nw D ≤ 1073741824) (hN' : nw N' ≤ 1073741824) (hD' : nw D' ≤ 1073741824) (hp : 0 < D * D') :
    Calls Try.prog 74 #[.agg #[.bool n, .slice A l c, .slice B k d], .agg #[.bool m, .slice A' l' c', .slice B' k' d']] w (RetR (aNeg n m (N * D') (N' * D) && decide (aMag n m (N * D') (N' * D) ≠ 0)) (fracN (aMag n m (N * D') (N' * D)) (D * D') 0) (fracD (aMag n m (N * D') (N' * D)) (D * D') 0) w) := by
  unfold aNeg aMag
  by_cases hnm : n = m
  · rw [if_pos hnm, if_pos hnm]
    exact radd_same n m A l c B k d N D A' l' c' B' k' d' N' D' w h h' hN hD hN' hD' hp (by simpa using hnm) ⟨rfl, rfl⟩
  · rw [if_neg hnm, if_neg hnm]
    by_cases hle : N' * D ≤ N * D'
    · rw [if_pos hle, if_pos hle]
      exact radd_ge n m A l c B k d N D A' l' c' B' k' d' N' D' w h h' hN hD hN' hD' hp (by simpa using hnm) hle
    · rw [if_neg hle, if_neg hle]
      exact radd_lt n m A l c B k d N D A' l' c' B' k' d' N' D' w h h' hN hD hN' hD' hp (by simpa using hnm) (by omega)
end Go.Proofs.Ytllfcklgljdgeaa

/-
  The contracts of the document's bounds: the bound of a pattern, its negative. Conditions: those that each theorem names.
-/
namespace Go.Proofs.Ytllfcklgljdgeaa
open Go.RowKit Nm Rn
set_option maxRecDepth 100000
set_option linter.unusedVariables false
set_option linter.unusedSimpArgs false

/-- Not a word. -/
def notU : Value → Bool
  | .int .u32 _ => false
  | _ => true
def NoU (cs : Array Value) : Prop := ∀ (i : Nat) (x : Int), cs[i]? ≠ some (Value.int .u32 x)
theorem NoU.of {cs : Array Value} (h : cs.toList.all notU = true) : NoU cs := by
  intro i x hx
  have h1 : (Value.int .u32 x) ∈ cs.toList := by
    rw [← Array.getElem?_toList] at hx
    exact List.mem_of_getElem? hx
  have := List.all_eq_true.1 h _ h1
  simp [notU] at this
theorem NoU.set {cs : Array Value} (h : NoU cs) (i : Nat) {u : Value} (hu : notU u = true) : NoU (cs.setIfInBounds i u) := by
  intro j x hj
  rw [Array.getElem?_setIfInBounds] at hj
  split at hj
  · split at hj
    · injection hj with hj; subst hj; simp [notU] at hu
    · cases hj
  · exact h j x hj
section
variable {w w' : World} {g : Nat} {t : TypeId} {cs : Array Value}
theorem Wds.set_u {A : Option Addr} {n c : Nat} {xs : List Nat} (h : Wds w A n c xs) (hb : Blk w g t cs) (hcs : NoU cs) (i : Nat) (u : Value) : Wds (w.setCell ⟨g, i, none⟩ u) A n c xs := by
  refine ⟨h.1, h.2.1, h.2.2.1, h.2.2.2.1, fun hn => ?_⟩
  obtain ⟨ad, e, hlt, hc⟩ := h.2.2.2.2 hn
  have hne : ad.block ≠ g := by
    intro hg
    have hx1 : 0 < xs.length := by have := h.1; omega
    have h1 := hc 0 _ (List.getElem?_eq_getElem hx1)
    have h2 : w.heap[(ad.add 0).block]? = some (.cells cs t (0, 0)) := by rw [block_of_add, hg]; exact hb
    unfold World.cell? at h1
    rw [h2] at h1
    simp only at h1
    split at h1
    · cases h1
    · exact hcs _ _ h1
  refine ⟨ad, e, by simpa [World.setCell] using hlt, fun k x hk => ?_⟩
  rw [← hc k x hk]
  exact World.cell?_of_block (Below.heap_setCell w ⟨g, i, none⟩ u _ (by rw [block_of_add]; exact hne))
/-- A ratio's naturals, beside a block of the call's own that is written. -/
structure RatBox (w : World) (g : Nat) (t : TypeId) (cs : Array Value) (A : Option Addr) (l c : Nat) (B : Option Addr) (k d N D : Nat) : Prop where
  rat : RatAt w A l c B k d N D
  blk : Blk w g t cs
  nou : NoU cs
theorem RatBox.set {A : Option Addr} {l c : Nat} {B : Option Addr} {k d N D : Nat} (h : RatBox w g t cs A l c B k d N D) (i : Nat) {u : Value} (hu : notU u = true) : RatBox (w.setCell ⟨g, i, none⟩ u) g t (cs.setIfInBounds i u) A l c B k d N D :=
  ⟨⟨h.rat.1.set_u h.blk h.nou i u, h.rat.2.set_u h.blk h.nou i u⟩, h.blk.set_ i u, h.nou.set i hu⟩
theorem RatBox.set4 {A : Option Addr} {l c : Nat} {B : Option Addr} {k d N D : Nat} (h : RatBox w g t cs A l c B k d N D) {u0 u1 u2 u3 : Value} (h0 : notU u0 = true) (h1 : notU u1 = true) (h2 : notU u2 = true) (h3 : notU u3 = true) :
    RatBox ((((w.setCell ⟨g, 0, none⟩ u0).setCell ⟨g, 1, none⟩ u1).setCell ⟨g, 2, none⟩ u2).setCell ⟨g, 3, none⟩ u3) g t ((((cs.setIfInBounds 0 u0).setIfInBounds 1 u1).setIfInBounds 2 u2).setIfInBounds 3 u3) A l c B k d N D := (((h.set 0 h0).set 1 h1).set 2 h2).set 3 h3
end

/-- What is answered: a bound. -/
def RetEnd (i : Int) (neg : Bool) (N D : Nat) (w : World) (e : Ending) (w' : World) : Prop :=
  ∃ A l c B k d, e = .returned (.agg #[.int .i64 i, .bool neg, .slice A l c, .slice B k d]) ∧ RatAt w' A l c B k d N D ∧ Ext w w'

/-- The bound of a pattern that is no NaN and no -0. -/
def bI (x : Nat) : Int := if x = infR then 1 else if x = minf then -1 else 0
def bNeg (x : Nat) : Bool := if x = infR then false else if x = minf then false else (sg x && decide (mg x ≠ 0))
def bN (x : Nat) : Nat := if x = infR then fracN 0 1 0 else if x = minf then fracN 0 1 0 else fbN x
def bD (x : Nat) : Nat := if x = infR then fracD 0 1 0 else if x = minf then fracD 0 1 0 else fbD x

set_option maxHeartbeats 2000000 in
theorem bound_any (x : Nat) (w : World) (hx : x < 18446744073709551616) (hp : plN x = x) :
    Calls Try.prog 48 #[.int .u64 (x : Int)] w (RetEnd (bI x) (bNeg x) (bN x) (bD x) w) := by
  have hint := fun w => int_any 0 w (by omega)
  have hfb := fun w => frombits_any x w hx
  have hpl := fun w => plain3_any x w hx
  rw [hp] at hpl
  have HINT := Lib.hid hint
  have HPL := Lib.hid hpl
  by_cases h1 : x = infR
  · have e1 : ((x : Int) == 9218868437227405312) = true := by rw [beq_iff_eq, h1, infR_val]; rfl
    rw [show bI x = 1 by unfold bI; rw [if_pos h1], show bNeg x = false by unfold bNeg; rw [if_pos h1], show bN x = fracN 0 1 0 by unfold bN; rw [if_pos h1], show bD x = fracD 0 1 0 by unfold bD; rw [if_pos h1]]
    obtain ⟨N, hN⟩ : ∃ N, N = fracN 0 1 0 := ⟨_, rfl⟩
    obtain ⟨D, hD⟩ : ∃ D, D = fracD 0 1 0 := ⟨_, rfl⟩
    rw [← hN, ← hD]
    have HI2 := Lib.hid (fun w => hN ▸ hD ▸ HINT.out w)
    clear hint hfb hpl hp h1 hN hD HINT HPL hx
    go_enter Try.func48, Try.ntmps48
    go_wp2_with fail
    refine (HI2.out _).mono ?_
    rintro e w2 ⟨A2, n2, c2, A3, n3, c3, rfl, hr1, hr2, hE⟩
    have hblk := (Blk.new w 47 #[.int .i64 0, .bool false, .slice none 0 0, .slice none 0 0]).ext hE
    have hEw := ((Ext.refl w).alloc (.cells #[.int .i64 0, .bool false, .slice none 0 0, .slice none 0 0] 47)).trans hE
    obtain ⟨G, hG⟩ : ∃ G, G = w.heap.size := ⟨_, rfl⟩
    rw [← hG] at hblk
    rw [← hG]
    have hGw : w.heap.size ≤ G := by omega
    have hGl := hblk.lt
    have q0 : w2.cell? ⟨G, 0, none⟩ = some (.int .i64 0) := hblk.cell 0
    have q1 : w2.cell? ⟨G, 1, none⟩ = some (.bool false) := hblk.cell 1
    have q2 : w2.cell? ⟨G, 2, none⟩ = some (.slice none 0 0) := hblk.cell 2
    have q3 : w2.cell? ⟨G, 3, none⟩ = some (.slice none 0 0) := hblk.cell 3
    have f0 := hblk.frozen 0
    have f1 := hblk.frozen 1
    have f2 := hblk.frozen 2
    have f3 := hblk.frozen 3
    have HB := Lib.hid (RatBox.mk (N := N) (D := D) ⟨hr1, hr2⟩ hblk (NoU.of rfl))
    clear hG hr1 hr2 hblk
    go_wp2
    exact bodyPost_ret (v := .agg #[.int .i64 1, .bool false, .slice A2 n2 c2, .slice A3 n3 c3]) (by simp [results, Try.results48, go_sem, hGl, q0, q1, q2, q3]) rfl
      ⟨_, _, _, _, _, _, rfl, (HB.out.set4 rfl rfl rfl rfl).rat, (hEw.set3 hGw _ _ _).setCell (by show w.heap.size ≤ G; omega) _⟩
  · have e1 : ((x : Int) == 9218868437227405312) = false := by rw [beq_eq_false_iff_ne]; rw [infR_val] at h1; omega
    by_cases h2 : x = minf
    · have e2 : ((x : Int) == 18442240474082181120) = true := by rw [beq_iff_eq, h2, minf_val]; rfl
      rw [show bI x = -1 by unfold bI; rw [if_neg h1, if_pos h2], show bNeg x = false by unfold bNeg; rw [if_neg h1, if_pos h2], show bN x = fracN 0 1 0 by unfold bN; rw [if_neg h1, if_pos h2], show bD x = fracD 0 1 0 by unfold bD; rw [if_neg h1, if_pos h2]]
      obtain ⟨N, hN⟩ : ∃ N, N = fracN 0 1 0 := ⟨_, rfl⟩
      obtain ⟨D, hD⟩ : ∃ D, D = fracD 0 1 0 := ⟨_, rfl⟩
      rw [← hN, ← hD]
      have HI2 := Lib.hid (fun w => hN ▸ hD ▸ HINT.out w)
      clear hint hfb hpl hp h1 h2 hN hD HINT HPL hx
      go_enter Try.func48, Try.ntmps48
      go_wp2_with fail
      refine (HI2.out _).mono ?_
      rintro e w2 ⟨A2, n2, c2, A3, n3, c3, rfl, hr1, hr2, hE⟩
      have hblk := (Blk.new w 47 #[.int .i64 0, .bool false, .slice none 0 0, .slice none 0 0]).ext hE
      have hEw := ((Ext.refl w).alloc (.cells #[.int .i64 0, .bool false, .slice none 0 0, .slice none 0 0] 47)).trans hE
      obtain ⟨G, hG⟩ : ∃ G, G = w.heap.size := ⟨_, rfl⟩
      rw [← hG] at hblk
      rw [← hG]
      have hGw : w.heap.size ≤ G := by omega
      have hGl := hblk.lt
      have q0 : w2.cell? ⟨G, 0, none⟩ = some (.int .i64 0) := hblk.cell 0
      have q1 : w2.cell? ⟨G, 1, none⟩ = some (.bool false) := hblk.cell 1
      have q2 : w2.cell? ⟨G, 2, none⟩ = some (.slice none 0 0) := hblk.cell 2
      have q3 : w2.cell? ⟨G, 3, none⟩ = some (.slice none 0 0) := hblk.cell 3
      have f0 := hblk.frozen 0
      have f1 := hblk.frozen 1
      have f2 := hblk.frozen 2
      have f3 := hblk.frozen 3
      have HB := Lib.hid (RatBox.mk (N := N) (D := D) ⟨hr1, hr2⟩ hblk (NoU.of rfl))
      clear hG hr1 hr2 hblk
      go_wp2
      exact bodyPost_ret (v := .agg #[.int .i64 (-1), .bool false, .slice A2 n2 c2, .slice A3 n3 c3]) (by simp [results, Try.results48, go_sem, hGl, q0, q1, q2, q3]) rfl
        ⟨_, _, _, _, _, _, rfl, (HB.out.set4 rfl rfl rfl rfl).rat, (hEw.set3 hGw _ _ _).setCell (by show w.heap.size ≤ G; omega) _⟩
    · have e2 : ((x : Int) == 18442240474082181120) = false := by rw [beq_eq_false_iff_ne]; rw [minf_val] at h2; omega
      rw [show bI x = 0 by unfold bI; rw [if_neg h1, if_neg h2], show bNeg x = (sg x && decide (mg x ≠ 0)) by unfold bNeg; rw [if_neg h1, if_neg h2], show bN x = fbN x by unfold bN; rw [if_neg h1, if_neg h2], show bD x = fbD x by unfold bD; rw [if_neg h1, if_neg h2]]
      obtain ⟨N, hN⟩ : ∃ N, N = fbN x := ⟨_, rfl⟩
      obtain ⟨D, hD⟩ : ∃ D, D = fbD x := ⟨_, rfl⟩
      obtain ⟨z, hz⟩ : ∃ z, z = (sg x && decide (mg x ≠ 0)) := ⟨_, rfl⟩
      rw [← hN, ← hD, ← hz] at hfb ⊢
      have HFB := Lib.hid hfb
      clear hint hfb hpl hp h1 h2 hN hD hz HINT hx
      go_enter Try.func48, Try.ntmps48
      go_wp2_with fail
      refine (HPL.out _).mono ?_
      rintro e w1 ⟨rfl, rfl⟩
      go_wp2_with fail
      refine (HFB.out _).mono ?_
      rintro e w2 ⟨A2, n2, c2, A3, n3, c3, rfl, hr1, hr2, hE⟩
      have hblk := (Blk.new w 47 #[.int .i64 0, .bool false, .slice none 0 0, .slice none 0 0]).ext hE
      have hEw := ((Ext.refl w).alloc (.cells #[.int .i64 0, .bool false, .slice none 0 0, .slice none 0 0] 47)).trans hE
      obtain ⟨G, hG⟩ : ∃ G, G = w.heap.size := ⟨_, rfl⟩
      rw [← hG] at hblk
      rw [← hG]
      have hGw : w.heap.size ≤ G := by omega
      have hGl := hblk.lt
      have q0 : w2.cell? ⟨G, 0, none⟩ = some (.int .i64 0) := hblk.cell 0
      have q1 : w2.cell? ⟨G, 1, none⟩ = some (.bool false) := hblk.cell 1
      have q2 : w2.cell? ⟨G, 2, none⟩ = some (.slice none 0 0) := hblk.cell 2
      have q3 : w2.cell? ⟨G, 3, none⟩ = some (.slice none 0 0) := hblk.cell 3
      have f0 := hblk.frozen 0
      have f1 := hblk.frozen 1
      have f2 := hblk.frozen 2
      have f3 := hblk.frozen 3
      have HB := Lib.hid (RatBox.mk (N := N) (D := D) ⟨hr1, hr2⟩ hblk (NoU.of rfl))
      clear hG hr1 hr2 hblk
      go_wp2
      exact bodyPost_ret (v := .agg #[.int .i64 0, .bool z, .slice A2 n2 c2, .slice A3 n3 c3]) (by simp [results, Try.results48, go_sem, hGl, q0, q1, q2, q3]) rfl
        ⟨_, _, _, _, _, _, rfl, (HB.out.set4 rfl rfl rfl rfl).rat, (hEw.set3 hGw _ _ _).setCell (by show w.heap.size ≤ G; omega) _⟩
end Go.Proofs.Ytllfcklgljdgeaa
