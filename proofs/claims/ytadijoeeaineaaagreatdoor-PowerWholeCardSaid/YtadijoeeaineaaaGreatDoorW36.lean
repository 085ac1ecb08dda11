/-
  The contract of the document's differences of ratios. Conditions: those that each theorem names.
-/
import Derived.Test.YtadijoeeaineaaaGreatDoorW35
import Derived.Test.YtadijoeeaineaaaGreatDoorW33
import Derived.Test.YtadijoeeaineaaaGreatDoorW26
import Derived.Test.YtadijoeeaineaaaGreatDoorW31
namespace Go.Proofs.YtadijoeeaineaaaGreatDoor
open Go.RowKit Nm Rn
set_option maxRecDepth 100000
set_option linter.unusedVariables false
set_option linter.unusedSimpArgs false

set_option maxHeartbeats 2000000 in
theorem rsubq_any (n m : Bool) (A : Option Addr) (l c : Nat) (B : Option Addr) (k d N D : Nat) (A' : Option Addr) (l' c' : Nat) (B' : Option Addr) (k' d' N' D' : Nat) (w : World)
    (h : RatAt w A l c B k d N D) (h' : RatAt w A' l' c' B' k' d' N' D') (hN : nw N ≤ 1073741824) (hD : nw D ≤ 1073741824) (hN' : nw N' ≤ 1073741824) (hD' : nw D' ≤ 1073741824) (hp : 0 < D * D') :
    Calls Tryz.prog 18 #[.agg #[.bool n, .slice A l c, .slice B k d], .agg #[.bool m, .slice A' l' c', .slice B' k' d']] w (RetR (sbS n m N D N' D') (sbN n m N D N' D') (sbD n m N D N' D') w) := by
  have hO := ((((Own.start w).add h.1).add h.2).add h'.1).add h'.2
  have HT1 := Lib.hid (fun (w : World) (h : RatAt w A' l' c' B' k' d' N' D') => rneg_any m A' l' c' B' k' d' N' D' w h hN' hD')
  obtain ⟨m2, hm2⟩ : ∃ m2, m2 = (!m && decide (N' ≠ 0)) := ⟨_, rfl⟩
  rw [← hm2] at HT1
  have HFR : Hid (∀ (A2 : Option Addr) (l2 c2 : Nat) (B2 : Option Addr) (k2 d2 : Nat) (w : World), RatAt w A l c B k d N D → RatAt w A2 l2 c2 B2 k2 d2 N' D' → Calls Tryz.prog 47 #[.agg #[.bool n, .slice A l c, .slice B k d], .agg #[.bool m2, .slice A2 l2 c2, .slice B2 k2 d2]] w (RetR (sbS n m N D N' D') (sbN n m N D N' D') (sbD n m N D N' D') w)) := Lib.hid (fun A2 l2 c2 B2 k2 d2 w h1 h2 => by
    have := radd_any n m2 A l c B k d N D A2 l2 c2 B2 k2 d2 N' D' w h1 h2 hN hD hN' hD' hp
    rw [hm2] at this
    rw [hm2]
    exact this)
  obtain ⟨s3, hs3⟩ : ∃ s, s = sbS n m N D N' D' := ⟨_, rfl⟩
  obtain ⟨N3, hN3⟩ : ∃ s, s = sbN n m N D N' D' := ⟨_, rfl⟩
  obtain ⟨D3, hD3⟩ : ∃ s, s = sbD n m N D N' D' := ⟨_, rfl⟩
  rw [← hs3, ← hN3, ← hD3] at HFR ⊢
  clear hs3 hN3 hD3 hm2 h h' hN hD hN' hD' hp
  go_enter Tryz.func18, Tryz.ntmps18
  go_wp2_with (first
    | (refine own_box (cs := [.bool n, .slice A l c, .slice B k d]) hO rfl rfl ?_; clear hO; intro ga wa hO)
    | (refine own_box (cs := [.bool m, .slice A' l' c', .slice B' k' d']) hO rfl rfl ?_; clear hO; intro gb wb hO)
    | (refine own_alloc hO zero_rat rfl rfl ?_; clear hO; intro g w1 hO))
  obtain ⟨S, hS⟩ : ∃ S : World → Prop, S = Own w [⟨g, 40, [.bool false, .slice none 0 0, .slice none 0 0]⟩, ⟨gb, 40, [.bool m, .slice A' l' c', .slice B' k' d']⟩, ⟨ga, 40, [.bool n, .slice A l c, .slice B k d]⟩] [⟨B', k', d', nd D'⟩, ⟨A', l', c', nd N'⟩, ⟨B, k, d, nd D⟩, ⟨A, l, c, nd N⟩] := ⟨_, rfl⟩
  have hSE : ∀ w w', S w → Ext w w' → S w' := fun w w' h1 h2 => by rw [hS] at h1 ⊢; exact h1.ext h2
  have hS1 : S w1.drew := by rw [hS]; exact hO.ext (Ext.refl w1).drew
  have HS := Lib.hid hS
  clear hS hO
  obtain ⟨sp, hsp⟩ : ∃ sp : Nat → Sp, sp = ofList [det (.agg #[.bool n, .slice A l c, .slice B k d]), det (.agg #[.bool m, .slice A' l' c', .slice B' k' d']),
    anyOf (fun v wz => ∃ A1 n1 c1 A2 n2 c2, v = .agg #[.bool m2, .slice A1 n1 c1, .slice A2 n2 c2] ∧ RatAt wz A1 n1 c1 A2 n2 c2 N' D'),
    anyOf (fun v wz => ∃ A1 n1 c1 A2 n2 c2, v = .agg #[.bool s3, .slice A1 n1 c1, .slice A2 n2 c2] ∧ RatAt wz A1 n1 c1 A2 n2 c2 N3 D3)] := ⟨_, rfl⟩
  have HSP := Lib.hid hsp
  clear hsp
  refine wp_region_loose 4 S sp (by kernel_rfl) (by kernel_rfl) hS1 hSE ?_
  simp only [List.take_succ_cons, List.take_zero, List.drop_succ_cons, List.drop_zero]
  iterate 2
    refine wpX_step (fun K hK => ?_)
    go_simp
    refine StepY.det (by rw [HSP.out]; rfl) ?_ ?_
    · intro wz hz hF
      rw [HS.out] at hz
      have hf := hz.facts
      simp only [BF, CF, Nat.zero_add, Nat.reduceAdd, and_true] at hf
      clear hz hF
      go_simp
      exact ⟨rfl, Ext.refl _⟩
    refine hK _ _ ?_
    clear hK K
  refine wpX_step (fun K hK => ?_)
  go_simp
  refine StepY.any (by rw [HSP.out]; rfl) ?_ ?_
  · intro wz hz hF
    rw [HS.out] at hz
    have h1 := hz.wd 1 rfl
    have h2 := hz.wd 0 rfl
    clear hz hF
    go_simp
    go_at_call 48
    refine (HT1.out _ ⟨h1, h2⟩).mono ?_
    rintro e w2 ⟨A3, n3, c3, A4, n4, c4, rfl, hW1, hW2, hE1⟩
    exact ⟨_, rfl, ⟨A3, n3, c3, A4, n4, c4, rfl, hW1, hW2⟩, hE1⟩
  intro v
  refine hK _ _ ?_
  clear hK K
  refine wpX_step (fun K hK => ?_)
  go_simp
  refine StepY.any (by rw [HSP.out]; rfl) ?_ ?_
  · intro wz hz hF
    rw [HS.out] at hz
    have h1 := hz.wd 3 rfl
    have h2 := hz.wd 2 rfl
    clear hz
    obtain ⟨wb', eb, A2, n2, c2, B2, k2, d2, hv2, hw2⟩ := hF.any 2 (by kernel_rfl) (by rw [HSP.out]; rfl)
    clear hF
    simp only [asFun, List.nil_append, List.cons_append, List.getD_cons_succ, List.getD_cons_zero] at hv2
    subst hv2
    go_simp
    go_at_call 47
    refine (HFR.out _ _ _ _ _ _ _ ⟨h1, h2⟩ (hw2.ext eb)).mono ?_
    rintro e w2 ⟨A3, n3, c3, A4, n4, c4, rfl, hW1, hW2, hE1⟩
    exact ⟨_, rfl, ⟨A3, n3, c3, A4, n4, c4, rfl, hW1, hW2⟩, hE1⟩
  intro v
  refine hK _ _ ?_
  clear hK K
  refine wpX_nil ?_
  intro w3 hz hF
  obtain ⟨w0, e0, A3, n3, c3, A4, n4, c4, hv, hw0⟩ := fact_any (hF 3 (by omega)) (by rw [HSP.out]; rfl)
  clear hF
  simp only [asFun, List.nil_append, List.cons_append, List.getD_cons_succ, List.getD_cons_zero] at hv
  subst hv
  rw [HS.out] at hz
  have hO := (hz.add (hw0.ext e0).1).add (hw0.ext e0).2
  clear hz hw0 e0
  go_wp2_with (refine own_store hO 0 rfl rfl rfl size_rat rfl rfl rfl ?_; clear hO; intro w4 hO)
  exact own_ret hO 0 rfl rfl rfl agg_rat size_rat rfl ⟨_, _, _, _, _, _, rfl, hO.wd 1 rfl, hO.wd 0 rfl, hO.toExt⟩
end Go.Proofs.YtadijoeeaineaaaGreatDoor

/-
  The contract of the document's comparison of ratios. Conditions: those that each theorem names.
-/
namespace Go.Proofs.YtadijoeeaineaaaGreatDoor
open Go.RowKit Nm Rn
set_option maxRecDepth 100000
set_option linter.unusedVariables false
set_option linter.unusedSimpArgs false

theorem nw_mul_le (a b : Nat) : nw (a * b) ≤ nw a + nw b := by
  rw [nw_le_iff, Nat.pow_add]
  exact Nat.mul_lt_mul'' ((nw_le_iff a _).1 (Nat.le_refl _)) ((nw_le_iff b _).1 (Nat.le_refl _))
theorem cmpN_int (a b : Nat) : cmpN a b = cmpI (a : Int) b := by
  unfold cmpN cmpI; repeat' split
  all_goals omega
theorem cmpN_rng (a b : Nat) : -1 ≤ cmpN a b ∧ cmpN a b ≤ 1 := by
  unfold cmpN; repeat' split
  all_goals omega
theorem cmpI_neg (a b : Int) : cmpI (-a) (-b) = -cmpI a b := by
  unfold cmpI; repeat' split
  all_goals omega
theorem sgnZ_rng (s : Bool) (n : Nat) : -1 ≤ sgnZ s n ∧ sgnZ s n ≤ 1 := by
  unfold sgnZ; repeat' split
  all_goals omega
theorem sgn_prod (s : Bool) (N D : Nat) (hD : D ≠ 0) : (sgnZ s N = 0 ∧ sn s N * (D : Int) = 0) ∨ (sgnZ s N = 1 ∧ 0 < sn s N * (D : Int) ∧ s = false) ∨ (sgnZ s N = -1 ∧ sn s N * (D : Int) < 0 ∧ s = true) := by
  unfold sgnZ
  by_cases h : N = 0
  · subst h; left; refine ⟨rfl, ?_⟩; unfold sn; cases s <;> simp
  · right
    rw [if_neg h]
    have hp : (0 : Int) < (N : Int) * (D : Int) := Int.mul_pos (by omega) (by omega)
    cases s
    · left; exact ⟨rfl, hp, rfl⟩
    · right; exact ⟨rfl, by show -(N : Int) * (D : Int) < 0; rw [Int.neg_mul]; omega, rfl⟩
theorem rc_lt {s t : Bool} {N D N2 D2 : Nat} (hD : D ≠ 0) (hD2 : D2 ≠ 0) (h : sgnZ s N < sgnZ t N2) : rc s N D t N2 D2 = -1 := by
  unfold rc cmpI
  rcases sgn_prod s N D2 hD2 with h1 | h1 | h1 <;> rcases sgn_prod t N2 D hD with h2 | h2 | h2
  all_goals first | (exfalso; omega) | (rw [if_pos (by omega)])
theorem rc_gt {s t : Bool} {N D N2 D2 : Nat} (hD : D ≠ 0) (hD2 : D2 ≠ 0) (h : sgnZ t N2 < sgnZ s N) : rc s N D t N2 D2 = 1 := by
  unfold rc cmpI
  rcases sgn_prod s N D2 hD2 with h1 | h1 | h1 <;> rcases sgn_prod t N2 D hD with h2 | h2 | h2
  all_goals first | (exfalso; omega) | (rw [if_neg (by omega), if_pos (by omega)])
theorem rc_z {s t : Bool} {N D N2 D2 : Nat} (hD : D ≠ 0) (hD2 : D2 ≠ 0) (h : sgnZ s N = 0) (h' : sgnZ t N2 = 0) : rc s N D t N2 D2 = 0 := by
  unfold rc cmpI
  rcases sgn_prod s N D2 hD2 with h1 | h1 | h1 <;> rcases sgn_prod t N2 D hD with h2 | h2 | h2
  all_goals first | (exfalso; omega) | (rw [if_neg (by omega), if_neg (by omega)])
theorem rc_same {s t : Bool} {N D N2 D2 : Nat} (hD : D ≠ 0) (hD2 : D2 ≠ 0) (h : sgnZ s N ≠ 0) (h' : sgnZ t N2 = sgnZ s N) : rc s N D t N2 D2 = if s then -cmpN (N * D2) (N2 * D) else cmpN (N * D2) (N2 * D) := by
  have hst : s = t := by
    rcases sgn_prod s N D2 hD2 with h1 | h1 | h1 <;> rcases sgn_prod t N2 D hD with h2 | h2 | h2
    all_goals first | (exfalso; omega) | (rw [h1.2.2, h2.2.2])
  subst hst
  unfold rc
  rw [sn_mul, sn_mul, cmpN_int]
  unfold sn
  cases s
  · rfl
  · exact cmpI_neg _ _

set_option maxHeartbeats 4000000 in
theorem rcmp_any (s : Bool) (A : Option Addr) (l c : Nat) (B : Option Addr) (k d N D : Nat) (t : Bool) (A2 : Option Addr) (l2 c2 : Nat) (B2 : Option Addr) (k2 d2 N2 D2 : Nat) (w : World) (h1 : RatAt w A l c B k d N D) (h2 : RatAt w A2 l2 c2 B2 k2 d2 N2 D2)
    (hN : nw N ≤ 1073741824) (hD : nw D ≤ 1073741824) (hN2 : nw N2 ≤ 1073741824) (hD2 : nw D2 ≤ 1073741824) (hp : D ≠ 0) (hp2 : D2 ≠ 0) :
    Calls Tryz.prog 17 #[.agg #[.bool s, .slice A l c, .slice B k d], .agg #[.bool t, .slice A2 l2 c2, .slice B2 k2 d2]] w fun e w' => e = .returned (.int .i64 (rc s N D t N2 D2)) ∧ Ext w w' := by
  have hlb : l ≤ 1073741824 := by have := h1.lenN; omega
  have hkb : k ≤ 1073741824 := by have := h1.lenD; omega
  have hl2b : l2 ≤ 1073741824 := by have := h2.lenN; omega
  have hk2b : k2 ≤ 1073741824 := by have := h2.lenD; omega
  have hs1 := fun w (h : RatAt w A l c B k d N D) => rsign_any s A l c (nd N) B k d w h.1 (by omega)
  have hs2 := fun w (h : RatAt w A2 l2 c2 B2 k2 d2 N2 D2) => rsign_any t A2 l2 c2 (nd N2) B2 k2 d2 w h.1 (by omega)
  simp only [nv_nd] at hs1 hs2
  have ht1 := fun w (h : RatAt w A l c B k d N D) (h' : RatAt w A2 l2 c2 B2 k2 d2 N2 D2) => times_any A l c (nd N) B2 k2 d2 (nd D2) w h.1 (by omega) h'.2 (by omega)
  have ht2 := fun w (h : RatAt w A l c B k d N D) (h' : RatAt w A2 l2 c2 B2 k2 d2 N2 D2) => times_any A2 l2 c2 (nd N2) B k d (nd D) w h'.1 (by omega) h.2 (by omega)
  simp only [nv_nd] at ht1 ht2
  have sz1 : nw (N * D2) ≤ 2147483648 := by have := nw_mul_le N D2; omega
  have sz2 : nw (N2 * D) ≤ 2147483648 := by have := nw_mul_le N2 D; omega
  have r1 := sgnZ_rng s N
  have r2 := sgnZ_rng t N2
  have e1 := rc_lt (s := s) (t := t) (N := N) (N2 := N2) hp hp2
  have e2 := rc_gt (s := s) (t := t) (N := N) (N2 := N2) hp hp2
  have e3 := rc_z (s := s) (t := t) (N := N) (N2 := N2) hp hp2
  have e4 := rc_same (s := s) (t := t) (N := N) (N2 := N2) hp hp2
  have r3 := cmpN_rng (N * D2) (N2 * D)
  have hcm := fun (w : World) A n c B m d h hn k hm => cmp_any A n c (nd (N * D2)) B m d (nd (N2 * D)) w h hn k hm
  simp only [nv_nd] at hcm
  obtain ⟨x, hx⟩ : ∃ x, x = cmpN (N * D2) (N2 * D) := ⟨_, rfl⟩
  obtain ⟨p, hpp⟩ : ∃ p, p = sgnZ s N := ⟨_, rfl⟩
  obtain ⟨q, hqq⟩ : ∃ q, q = sgnZ t N2 := ⟨_, rfl⟩
  obtain ⟨R, hR⟩ : ∃ R, R = rc s N D t N2 D2 := ⟨_, rfl⟩
  obtain ⟨V1, hV1⟩ : ∃ V, V = N * D2 := ⟨_, rfl⟩
  obtain ⟨V2, hV2⟩ : ∃ V, V = N2 * D := ⟨_, rfl⟩
  rw [← hpp] at hs1 r1 e1 e2 e3 e4
  rw [← hqq] at hs2 r2 e1 e2 e3 e4
  rw [← hR] at e1 e2 e3 e4 ⊢
  rw [← hx] at e4 r3 hcm
  rw [← hV1] at ht1 sz1 hcm
  rw [← hV2] at ht2 sz2 hcm
  have hwr : IntKind.i64.wrap (-x) = -x := by simp [IntKind.wrap, IntKind.bits, IntKind.signed]; omega
  have HS1 := Lib.hid hs1
  have HS2 := Lib.hid hs2
  have HT1 := Lib.hid ht1
  have HT2 := Lib.hid ht2
  have HCM := Lib.hid hcm
  have HSZ := Lib.hid (And.intro sz1 sz2)
  clear hs1 hs2 ht1 ht2 hcm sz1 sz2 hx hpp hqq hR hV1 hV2 hN hD hN2 hD2 hp hp2 hlb hkb hl2b hk2b
  obtain ⟨S, hS⟩ : ∃ S : World → Prop, S = fun wz => Blk wz w.heap.size 40 #[.bool s, .slice A l c, .slice B k d] ∧ Blk wz (w.heap.size + 1) 40 #[.bool t, .slice A2 l2 c2, .slice B2 k2 d2] ∧ RatAt wz A l c B k d N D ∧ RatAt wz A2 l2 c2 B2 k2 d2 N2 D2 ∧ Ext w wz := ⟨_, rfl⟩
  have hSE : ∀ w w', S w → Ext w w' → S w' := fun w w' h1 h2 => by rw [hS] at h1 ⊢; exact ⟨h1.1.ext h2, h1.2.1.ext h2, h1.2.2.1.ext h2, h1.2.2.2.1.ext h2, h1.2.2.2.2.trans h2⟩
  have hS0 : S ((w.alloc (.cells #[.bool s, .slice A l c, .slice B k d] 40)).alloc (.cells #[.bool t, .slice A2 l2 c2, .slice B2 k2 d2] 40)) := by
    have hE : Ext w ((w.alloc (.cells #[.bool s, .slice A l c, .slice B k d] 40)).alloc (.cells #[.bool t, .slice A2 l2 c2, .slice B2 k2 d2] 40)) := ((Ext.refl w).alloc _).alloc _
    rw [hS]; exact ⟨(Blk.new w _ _).ext ((Ext.refl _).alloc _), Blk.next w _ _ _, h1.ext hE, h2.ext hE, hE⟩
  have HS := Lib.hid hS
  have HSE := Lib.hid hSE
  clear hS hSE h1 h2
  have three : q < p ∨ p < q ∨ p = q := by omega
  have HE1 := Lib.hid e1
  have HE2 := Lib.hid e2
  have HE3 := Lib.hid e3
  have HE4 := Lib.hid e4
  clear e1 e2 e3 e4
  have hsr0 := hS0
  rw [HS.out] at hsr0
  go_enter Tryz.func17, Tryz.ntmps17
  go_wp2_with fail
  refine (HS1.out _ hsr0.2.2.1).mono ?_
  rintro e w2 ⟨rfl, hE2⟩
  have hS2 := HSE.out _ _ hS0 hE2
  clear hS0 hsr0 hE2
  have hsr2 := hS2
  rw [HS.out] at hsr2
  have b0 : w2.cell? ⟨w.heap.size + 1, 0, none⟩ = some (.bool t) := hsr2.2.1.cell 0
  have b1 : w2.cell? ⟨w.heap.size + 1, 1, none⟩ = some (.slice A2 l2 c2) := hsr2.2.1.cell 1
  have b2 : w2.cell? ⟨w.heap.size + 1, 2, none⟩ = some (.slice B2 k2 d2) := hsr2.2.1.cell 2
  have hrr := hsr2.2.2.2.1
  clear hsr2
  go_wp2_with fail
  refine (HS2.out _ hrr).mono ?_
  rintro e w3 ⟨rfl, hE3⟩
  have hS3 := HSE.out _ _ hS2 hE3
  clear hS2 hE3 hrr b0 b1 b2
  rcases three with h3 | h3 | h3
  · have g1 : decide (p < q) = false := decide_eq_false (by omega)
    have g2 : decide (q < p) = true := decide_eq_true h3
    rw [HS.out] at hS3
    have hEw := hS3.2.2.2.2
    go_wp2
    go_ret
    exact ⟨ret_int (HE2.out h3).symm, hEw⟩
  · have g1 : decide (p < q) = true := decide_eq_true h3
    rw [HS.out] at hS3
    have hEw := hS3.2.2.2.2
    go_wp2
    go_ret
    exact ⟨ret_int (HE1.out h3).symm, hEw⟩
  · subst h3
    have g1 : decide (p < p) = false := decide_eq_false (by omega)
    obtain ⟨sp, hsp⟩ : ∃ sp : Nat → Sp, sp = ofList [det (.pointer (some ⟨w.heap.size, 1, none⟩)), det (.slice A l c), det (.pointer (some ⟨w.heap.size + 1, 2, none⟩)), det (.slice B2 k2 d2), anyOf (fun v wz => ∃ A n c, v = .slice A n c ∧ Wds wz A n c (nd V1)), det (.pointer (some ⟨w.heap.size + 1, 1, none⟩)), det (.slice A2 l2 c2), det (.pointer (some ⟨w.heap.size, 2, none⟩)), det (.slice B k d), anyOf (fun v wz => ∃ A n c, v = .slice A n c ∧ Wds wz A n c (nd V2))] := ⟨_, rfl⟩
    have HSP := Lib.hid hsp
    clear hsp
    have hS4 : S { w3 with drawn := w3.drawn + 1 } := HSE.out _ _ hS3 (Ext.refl w3).drew
    go_wp2_with fail
    refine wp_region_loose 10 S sp (by kernel_rfl) (by kernel_rfl) hS4 HSE.out ?_
    simp only [List.take_succ_cons, List.take_zero, List.drop_succ_cons, List.drop_zero]
    repeat (refine wpX_step (fun K hK => ?_)
            go_simp
            first
            | (refine ⟨by rw [HSP.out]; rfl, hK _ _ ?_⟩
               clear hK K)
            | (refine StepY.det (by rw [HSP.out]; rfl) ?_ ?_
               · intro wz hz hF
                 have hz' := hz
                 rw [HS.out] at hz'
                 have g0 := hz'.1.cell 0
                 have g1 := hz'.1.cell 1
                 have g2 := hz'.1.cell 2
                 have g3 := hz'.2.1.cell 0
                 have g4 := hz'.2.1.cell 1
                 have g5 := hz'.2.1.cell 2
                 simp only [List.getElem?_toArray, List.getElem?_cons_zero, List.getElem?_cons_succ] at g0 g1 g2 g3 g4 g5
                 clear hz' hF
                 go_simp
                 exact ⟨rfl, Ext.refl _⟩
               refine hK _ _ ?_
               clear hK K)
            | (refine StepY.any (by rw [HSP.out]; rfl) ?_ ?_
               · intro wz hz hF
                 have hz' := hz
                 rw [HS.out] at hz'
                 have hx := hz'.2.2.1
                 have hy := hz'.2.2.2.1
                 clear hz'
                 go_simp
                 go_at_call 46
                 first
                 | (with_reducible refine (HT1.out _ hx hy).mono ?_)
                 | (with_reducible refine (HT2.out _ hx hy).mono ?_)
                 rintro e w2 ⟨A1, n1, c1, rfl, hW1, hE1⟩
                 exact ⟨_, rfl, ⟨A1, n1, c1, rfl, hW1⟩, hE1⟩
               intro v
               refine hK _ _ ?_
               clear hK K))
    refine wpX_nil ?_
    intro w5 hz hF
    obtain ⟨wa, ea, A3, n3, c3, hv, hw3⟩ := fact_any (hF 4 (by omega)) (by rw [HSP.out]; rfl)
    obtain ⟨wb, eb, A4, n4, c4, hv', hw4⟩ := fact_any (hF 9 (by omega)) (by rw [HSP.out]; rfl)
    clear hF
    simp only [asFun, List.nil_append, List.cons_append, List.getD_cons_succ, List.getD_cons_zero] at hv hv'
    subst hv hv'
    have hk3 := hw3.ext ea
    have hk4 := hw4.ext eb
    have hl3 : n3 ≤ 2147483648 := by have h1 := hk3.len; have h2 := HSZ.out; rw [nd_length] at h1; omega
    have hl4 : n4 ≤ 2147483648 := by have h1 := hk4.len; have h2 := HSZ.out; rw [nd_length] at h1; omega
    clear ea eb hw3 hw4 HSZ
    go_wp2_with fail
    refine (HCM.out _ _ _ _ _ _ _ hk3 (by omega) hk4 (by omega)).mono ?_
    rintro e w6 ⟨rfl, qn, rfl⟩
    have hS6 := HSE.out _ _ hz ((Ext.refl w5).drewN qn)
    generalize w5.drewN qn = w6 at hS6 ⊢
    rw [HS.out] at hS6
    have hEw := hS6.2.2.2.2
    have b0 : w6.cell? ⟨w.heap.size, 0, none⟩ = some (.bool s) := hS6.1.cell 0
    clear hS6 hz hS4 hS3
    have hz0 : p = 0 ∨ p ≠ 0 := by omega
    rcases hz0 with h0 | h0
    · subst h0
      have hres := HE3.out (by first | trivial | rfl) (by first | trivial | rfl)
      cases s
      all_goals
        go_wp2
        go_ret
        exact ⟨ret_int hres.symm, hEw⟩
    · have g3 : (p == 0) = false := by rw [beq_eq_false_iff_ne]; exact h0
      have hres := HE4.out h0 (by first | trivial | rfl)
      cases s
      all_goals
        go_wp2
        go_ret
        exact ⟨ret_int hres.symm, hEw⟩
end Go.Proofs.YtadijoeeaineaaaGreatDoor
