/-
  The contract of the law's tight, the nearest one above. Conditions: those that each theorem names.
-/
import Derived.Test.YtmcfflecaklpcaaZ46
import Derived.Test.YtmcfflecaklpcaaZ36
import Derived.Test.YtmcfflecaklpcaaZ26
namespace Go.Proofs.Ytmcfflecaklpcaa
open Go.RowKit Nm Rn
set_option maxRecDepth 100000
set_option linter.unusedVariables false
set_option linter.unusedSimpArgs false

set_option maxHeartbeats 16000000 in
theorem tight_100 (s : Bool) (A : Option Addr) (l c : Nat) (B : Option Addr) (k d N D LO HI : Nat) (w : World) (h : RatAt w A l c B k d N D)
    (f1 : ((LO : Int) == 9221120237041090561) = false) (f3 : ((LO : Int) == 9218868437227405312) = false) (f5 : ((LO : Int) == 9223372036854775808) = false)
    (f2 : ((HI : Int) == 9221120237041090561) = false) (f4 : ((HI : Int) == 18442240474082181120) = false) (f6 : ((HI : Int) == 9223372036854775808) = false) (f7 : ((LO : Int) == (HI : Int)) = false) (f8 : ((HI : Int) == (LO : Int)) = false)
    (f9 : ((HI : Int) != (LO : Int)) = true)
    (ls hs ks q1 q2 : Bool) (lN lD hN hD kN kD q1N q1D q2N q2D : Nat) (cc : Int)
    (HST : Hid (∀ w, Calls Try.prog 68 #[.int .u64 (LO : Int)] w fun e w' => e = .returned (.int .u64 (HI : Nat)) ∧ w = w'))
    (HFK : Hid (∀ w, Calls Try.prog 17 #[.int .u64 18442240474082181119] w (RetR ks kN kD w)))
    (HFL : Hid (∀ w, Calls Try.prog 16 #[.int .u64 (LO : Int)] w fun e w' => e = .returned (.bool false) ∧ w = w'))
    (HFH : Hid (∀ w, Calls Try.prog 16 #[.int .u64 (HI : Int)] w fun e w' => e = .returned (.bool false) ∧ w = w'))
    (HFT : Hid (∀ (A1 : Option Addr) (n1 c1 : Nat) (A2 : Option Addr) (n2 c2 : Nat) (w : World), Wds w A1 n1 c1 (nd 1) → Wds w A2 n2 c2 (nd 1) → Calls Try.prog 55 #[.bool true, .slice A1 n1 c1, .slice A2 n2 c2, .int .i64 1024] w (RetR ls lN lD w)))
    (HFF : Hid (∀ (A1 : Option Addr) (n1 c1 : Nat) (A2 : Option Addr) (n2 c2 : Nat) (w : World), Wds w A1 n1 c1 (nd 1) → Wds w A2 n2 c2 (nd 1) → Calls Try.prog 55 #[.bool false, .slice A1 n1 c1, .slice A2 n2 c2, .int .i64 1024] w (RetR hs hN hD w)))
    (HS1 : Hid (∀ {A1 : Option Addr} {l1 c1 : Nat} {B1 : Option Addr} {k1 d1 : Nat} {w : World}, RatAt w A l c B k d N D → RatAt w A1 l1 c1 B1 k1 d1 lN lD → Calls Try.prog 69 #[.agg #[.bool s, .slice A l c, .slice B k d], .agg #[.bool ls, .slice A1 l1 c1, .slice B1 k1 d1]] w (RetR q1 q1N q1D w)))
    (HS2 : Hid (∀ {A1 : Option Addr} {l1 c1 : Nat} {B1 : Option Addr} {k1 d1 : Nat} {w : World}, RatAt w A1 l1 c1 B1 k1 d1 hN hD → RatAt w A l c B k d N D → Calls Try.prog 69 #[.agg #[.bool hs, .slice A1 l1 c1, .slice B1 k1 d1], .agg #[.bool s, .slice A l c, .slice B k d]] w (RetR q2 q2N q2D w)))
    (HCM : Hid (∀ {A1 : Option Addr} {l1 c1 : Nat} {B1 : Option Addr} {k1 d1 : Nat} {A2 : Option Addr} {l2 c2 : Nat} {B2 : Option Addr} {k2 d2 : Nat} {w : World}, RatAt w A1 l1 c1 B1 k1 d1 q1N q1D → RatAt w A2 l2 c2 B2 k2 d2 q2N q2D → Calls Try.prog 18 #[.agg #[.bool q1, .slice A1 l1 c1, .slice B1 k1 d1], .agg #[.bool q2, .slice A2 l2 c2, .slice B2 k2 d2]] w fun e w' => e = .returned (.int .i64 cc) ∧ Ext w w'))
    (hcc : Hid (cc = 1 ∨ (cc = 0 ∧ bits .and .u64 (HI : Int) 1 = 0))) :
    Calls Try.prog 24 #[.agg #[.bool s, .slice A l c, .slice B k d], .int .u64 (LO : Int), .int .u64 (HI : Int), .int .u64 (HI : Int)] w fun e w' => e = .returned (.bool true) ∧ Ext w w' := by
  have hO := ((Own.start w).add h.1).add h.2
  have hf : True := trivial
  clear h
  go_enter Try.func24, Try.ntmps24
  go_wp2_with (first | ((with_reducible refine at_box ?_); refine own_box (cs := [.bool s, .slice A l c, .slice B k d]) hO rfl rfl ?_; clear hO; intro ga wa hO; clear hf; have hf := hO.cells; simp only [BC, CC, Nat.zero_add, Nat.reduceAdd, and_true] at hf) | (go_at_call 68; refine (HST.out _).mono ?_; rintro e w' ⟨rfl, rfl⟩))
  refine (HFK.out _).mono ?_
  rintro e w2 ⟨A0, n0, c0, B0, m0, e0, rfl, hW1, hW2, hE1⟩
  have hO := ((hO.ext hE1).add hW1).add hW2
  clear hW1 hW2 hE1
  clear hf
  have hf := hO.cells
  simp only [BC, CC, Nat.zero_add, Nat.reduceAdd, and_true] at hf
  go_wp2_with (first | ((with_reducible refine at_alloc ?_); refine own_alloc hO zero_rat rfl rfl ?_; clear hO; intro g9 w3 hO; clear hf; have hf := hO.cells; simp only [BC, CC, Nat.zero_add, Nat.reduceAdd, and_true] at hf) | ((with_reducible refine at_store (T := 35) ?_); refine own_store (T := 35) hO 0 rfl rfl rfl size_rat rfl rfl rfl ?_; clear hO; intro w4 hO; simp only [List.set_cons_zero, List.set_cons_succ, spl, List.take_succ_cons, List.take_zero, List.nil_append, List.cons_append, List.length_cons, List.length_nil, List.drop_succ_cons, List.drop_zero, List.drop_nil, Nat.reduceAdd, Nat.zero_add, List.append_nil] at hO; clear hf; have hf := hO.cells; simp only [BC, CC, Nat.zero_add, Nat.reduceAdd, and_true] at hf) | (go_at_call 16; ((with_reducible refine (HFL.out _).mono ?_); rintro e w' ⟨rfl, rfl⟩)) | (go_at_call 16; ((with_reducible refine (HFH.out _).mono ?_); rintro e w' ⟨rfl, rfl⟩)))
  have HU1 := Lib.hid ((unit_list w4).alloc (.cells #[.int .u32 1] 80))
  have HU2 := Lib.hid (unit_list2 w4)
  have HOO := Lib.hid ((hO.ext ((Ext.refl w4).alloc (.cells #[.int .u32 1] 80))).ext ((Ext.refl (w4.alloc (.cells #[.int .u32 1] 80))).alloc (.cells #[.int .u32 1] 80)))
  clear hO hf
  go_wp2_with fail
  refine (HFT.out _ _ _ _ _ _ _ HU1.out HU2.out).mono ?_
  rintro e w5 ⟨A1, n1, c1, B1, m1, e1, rfl, hW1, hW2, hE1⟩
  have hO := ((HOO.out.ext hE1).add hW1).add hW2
  clear hW1 hW2 hE1 HOO HU1 HU2
  have hf := hO.cells
  simp only [BC, CC, Nat.zero_add, Nat.reduceAdd, and_true] at hf
  go_wp2_with (first | ((with_reducible refine at_store (T := 35) ?_); refine own_store (T := 35) hO 0 rfl rfl rfl size_rat rfl rfl rfl ?_; clear hO; intro w7 hO; simp only [List.set_cons_zero, List.set_cons_succ, spl, List.take_succ_cons, List.take_zero, List.nil_append, List.cons_append, List.length_cons, List.length_nil, List.drop_succ_cons, List.drop_zero, List.drop_nil, Nat.reduceAdd, Nat.zero_add, List.append_nil] at hO; clear hf; have hf := hO.cells; simp only [BC, CC, Nat.zero_add, Nat.reduceAdd, and_true] at hf))
  have HU1 := Lib.hid ((unit_list w7).alloc (.cells #[.int .u32 1] 80))
  have HU2 := Lib.hid (unit_list2 w7)
  have HOO := Lib.hid ((hO.ext ((Ext.refl w7).alloc (.cells #[.int .u32 1] 80))).ext ((Ext.refl (w7.alloc (.cells #[.int .u32 1] 80))).alloc (.cells #[.int .u32 1] 80)))
  clear hO hf
  refine (HFF.out _ _ _ _ _ _ _ HU1.out HU2.out).mono ?_
  rintro e w8 ⟨A2, n2, c2, B2, m2, e2, rfl, hW1, hW2, hE1⟩
  have hO := ((HOO.out.ext hE1).add hW1).add hW2
  clear hW1 hW2 hE1 HOO HU1 HU2
  have hf := hO.cells
  simp only [BC, CC, Nat.zero_add, Nat.reduceAdd, and_true] at hf
  go_wp2_with (first | ((with_reducible refine at_alloc ?_); refine own_alloc hO zero_rat rfl rfl ?_; clear hO; intro g10 w9 hO; clear hf; have hf := hO.cells; simp only [BC, CC, Nat.zero_add, Nat.reduceAdd, and_true] at hf) | ((with_reducible refine at_store (T := 35) ?_); refine own_store (T := 35) hO 0 rfl rfl rfl size_rat rfl rfl rfl ?_; clear hO; intro w10 hO; simp only [List.set_cons_zero, List.set_cons_succ, spl, List.take_succ_cons, List.take_zero, List.nil_append, List.cons_append, List.length_cons, List.length_nil, List.drop_succ_cons, List.drop_zero, List.drop_nil, Nat.reduceAdd, Nat.zero_add, List.append_nil] at hO; clear hf; have hf := hO.cells; simp only [BC, CC, Nat.zero_add, Nat.reduceAdd, and_true] at hf) | (go_at_call 16; ((with_reducible refine (HFL.out _).mono ?_); rintro e w' ⟨rfl, rfl⟩)) | (go_at_call 16; ((with_reducible refine (HFH.out _).mono ?_); rintro e w' ⟨rfl, rfl⟩)))
  obtain ⟨S, hS⟩ : ∃ S : World → Prop, S = Own w [⟨g10, 35, [.bool hs, .slice A2 n2 c2, .slice B2 m2 e2]⟩, ⟨g9, 35, [.bool ls, .slice A1 n1 c1, .slice B1 m1 e1]⟩, ⟨ga, 35, [.bool s, .slice A l c, .slice B k d]⟩] [⟨B2, m2, e2, nd hD⟩, ⟨A2, n2, c2, nd hN⟩, ⟨B1, m1, e1, nd lD⟩, ⟨A1, n1, c1, nd lN⟩, ⟨B0, m0, e0, nd kD⟩, ⟨A0, n0, c0, nd kN⟩, ⟨B, k, d, nd D⟩, ⟨A, l, c, nd N⟩] := ⟨_, rfl⟩
  have hSE : ∀ w w', S w → Ext w w' → S w' := fun w w' h1 h2 => by rw [hS] at h1 ⊢; exact h1.ext h2
  have hS1 : S w10.drew := by rw [hS]; exact hO.ext (Ext.refl w10).drew
  have HS := Lib.hid hS
  clear hS hO hf
  obtain ⟨sp, hsp⟩ : ∃ sp : Nat → Sp, sp = ofList [det (.agg #[.bool s, .slice A l c, .slice B k d]), det (.agg #[.bool ls, .slice A1 n1 c1, .slice B1 m1 e1]),
    anyOf (fun v wz => ∃ A1 n1 c1 A2 n2 c2, v = .agg #[.bool q1, .slice A1 n1 c1, .slice A2 n2 c2] ∧ RatAt wz A1 n1 c1 A2 n2 c2 q1N q1D), det (.agg #[.bool hs, .slice A2 n2 c2, .slice B2 m2 e2]), det (.agg #[.bool s, .slice A l c, .slice B k d]),
    anyOf (fun v wz => ∃ A1 n1 c1 A2 n2 c2, v = .agg #[.bool q2, .slice A1 n1 c1, .slice A2 n2 c2] ∧ RatAt wz A1 n1 c1 A2 n2 c2 q2N q2D), det (.int .i64 cc)] := ⟨_, rfl⟩
  have HSP := Lib.hid hsp
  clear hsp
  refine wp_region_loose 7 S sp (by kernel_rfl) (by kernel_rfl) hS1 hSE ?_
  simp only [List.take_succ_cons, List.take_zero, List.drop_succ_cons, List.drop_zero]
  refine wpX_step (fun K hK => ?_)
  go_simp
  refine StepY.det (by rw [HSP.out]; rfl) ?_ ?_
  · intro wz hz hF
    rw [HS.out] at hz
    have hf := hz.cells
    simp only [BC, CC, Nat.zero_add, Nat.reduceAdd, and_true] at hf
    clear hz hF
    go_simp
    exact ⟨rfl, Ext.refl _⟩
  refine hK _ _ ?_
  clear hK K
  refine wpX_step (fun K hK => ?_)
  go_simp
  refine StepY.det (by rw [HSP.out]; rfl) ?_ ?_
  · intro wz hz hF
    rw [HS.out] at hz
    have hf := hz.cells
    simp only [BC, CC, Nat.zero_add, Nat.reduceAdd, and_true] at hf
    clear hz hF
    go_simp
    exact ⟨rfl, Ext.refl _⟩
  refine hK _ _ ?_
  clear hK K
  refine wpX_step (fun K hK => ?_)
  go_simp
  refine StepY.any (by rw [HSP.out]; rfl) ?_ ?_
  · intro wz hz hF
    clear hF
    rw [HS.out] at hz
    have h1 : RatAt wz _ _ _ _ _ _ _ _ := ⟨hz.wd 7 rfl, hz.wd 6 rfl⟩
    have h2 : RatAt wz _ _ _ _ _ _ _ _ := ⟨hz.wd 3 rfl, hz.wd 2 rfl⟩
    clear hz
    go_simp
    refine (HS1.out h1 h2).mono ?_
    rintro e w2 ⟨A3, n3, c3, A4, n4, c4, rfl, hW1, hW2, hE1⟩
    exact ⟨_, rfl, ⟨A3, n3, c3, A4, n4, c4, rfl, hW1, hW2⟩, hE1⟩
  intro v
  refine hK _ _ ?_
  clear hK K
  refine wpX_step (fun K hK => ?_)
  go_simp
  refine StepY.det (by rw [HSP.out]; rfl) ?_ ?_
  · intro wz hz hF
    rw [HS.out] at hz
    have hf := hz.cells
    simp only [BC, CC, Nat.zero_add, Nat.reduceAdd, and_true] at hf
    clear hz hF
    go_simp
    exact ⟨rfl, Ext.refl _⟩
  refine hK _ _ ?_
  clear hK K
  refine wpX_step (fun K hK => ?_)
  go_simp
  refine StepY.det (by rw [HSP.out]; rfl) ?_ ?_
  · intro wz hz hF
    rw [HS.out] at hz
    have hf := hz.cells
    simp only [BC, CC, Nat.zero_add, Nat.reduceAdd, and_true] at hf
    clear hz hF
    go_simp
    exact ⟨rfl, Ext.refl _⟩
  refine hK _ _ ?_
  clear hK K
  refine wpX_step (fun K hK => ?_)
  go_simp
  refine StepY.any (by rw [HSP.out]; rfl) ?_ ?_
  · intro wz hz hF
    clear hF
    rw [HS.out] at hz
    have h1 : RatAt wz _ _ _ _ _ _ _ _ := ⟨hz.wd 1 rfl, hz.wd 0 rfl⟩
    have h2 : RatAt wz _ _ _ _ _ _ _ _ := ⟨hz.wd 7 rfl, hz.wd 6 rfl⟩
    clear hz
    go_simp
    refine (HS2.out h1 h2).mono ?_
    rintro e w2 ⟨A3, n3, c3, A4, n4, c4, rfl, hW1, hW2, hE1⟩
    exact ⟨_, rfl, ⟨A3, n3, c3, A4, n4, c4, rfl, hW1, hW2⟩, hE1⟩
  intro v
  refine hK _ _ ?_
  clear hK K
  refine wpX_step (fun K hK => ?_)
  go_simp
  refine StepY.det (by rw [HSP.out]; rfl) ?_ ?_
  · intro wz hz hF
    obtain ⟨wa', ea, A5, n5, c5, A6, n6, c6, hv1, hw1⟩ := hF.any 2 (by kernel_rfl) (by rw [HSP.out]; rfl)
    obtain ⟨wb', eb, A7, n7, c7, A8, n8, c8, hv2, hw2⟩ := hF.any 5 (by kernel_rfl) (by rw [HSP.out]; rfl)
    clear hF
    simp only [asFun, List.nil_append, List.cons_append, List.getD_cons_succ, List.getD_cons_zero] at hv1 hv2
    subst hv1 hv2
    go_simp
    refine (HCM.out (hw1.ext ea) (hw2.ext eb)).mono ?_
    rintro e w2 ⟨rfl, hE1⟩
    exact ⟨_, rfl, rfl, hE1⟩
  refine hK _ _ ?_
  clear hK K
  refine wpX_nil ?_
  intro w14 hz hF
  clear hF
  rw [HS.out] at hz
  have hE := hz.toExt
  clear hz
  rcases hcc.out with rfl | ⟨rfl, hev⟩
  all_goals
    go_wp2
    go_ret
    exact ⟨by first | rfl | simp, hE⟩

set_option maxHeartbeats 16000000 in
theorem tight_101 (s : Bool) (A : Option Addr) (l c : Nat) (B : Option Addr) (k d N D LO HI : Nat) (w : World) (h : RatAt w A l c B k d N D)
    (f1 : ((LO : Int) == 9221120237041090561) = false) (f3 : ((LO : Int) == 9218868437227405312) = false) (f5 : ((LO : Int) == 9223372036854775808) = false)
    (f2 : ((HI : Int) == 9221120237041090561) = false) (f4 : ((HI : Int) == 18442240474082181120) = false) (f6 : ((HI : Int) == 9223372036854775808) = false) (f7 : ((LO : Int) == (HI : Int)) = false) (f8 : ((HI : Int) == (LO : Int)) = false)
    (f9 : ((HI : Int) != (LO : Int)) = true)
    (ls hs ks q1 q2 : Bool) (lN lD hN hD kN kD q1N q1D q2N q2D fN fD : Nat) (cc : Int)
    (HST : Hid (∀ w, Calls Try.prog 68 #[.int .u64 (LO : Int)] w fun e w' => e = .returned (.int .u64 (HI : Nat)) ∧ w = w'))
    (HFK : Hid (∀ w, Calls Try.prog 17 #[.int .u64 18442240474082181119] w (RetR ks kN kD w)))
    (HFL : Hid (∀ w, Calls Try.prog 16 #[.int .u64 (LO : Int)] w fun e w' => e = .returned (.bool false) ∧ w = w'))
    (HFH : Hid (∀ w, Calls Try.prog 16 #[.int .u64 (HI : Int)] w fun e w' => e = .returned (.bool true) ∧ w = w'))
    (HFT : Hid (∀ (A1 : Option Addr) (n1 c1 : Nat) (A2 : Option Addr) (n2 c2 : Nat) (w : World), Wds w A1 n1 c1 (nd 1) → Wds w A2 n2 c2 (nd 1) → Calls Try.prog 55 #[.bool true, .slice A1 n1 c1, .slice A2 n2 c2, .int .i64 1024] w (RetR ls lN lD w)))
    (HFF : Hid (∀ (A1 : Option Addr) (n1 c1 : Nat) (A2 : Option Addr) (n2 c2 : Nat) (w : World), Wds w A1 n1 c1 (nd 1) → Wds w A2 n2 c2 (nd 1) → Calls Try.prog 55 #[.bool false, .slice A1 n1 c1, .slice A2 n2 c2, .int .i64 1024] w (RetR false fN fD w)))
    (HHI : Hid (∀ w, Calls Try.prog 17 #[.int .u64 (HI : Int)] w (RetR hs hN hD w)))
    (HR2 : Hid (∀ {A1 : Option Addr} {l1 c1 : Nat} {B1 : Option Addr} {k1 d1 : Nat} {w : World}, RatAt w A l c B k d N D → RatAt w A1 l1 c1 B1 k1 d1 hN hD → Calls Try.prog 18 #[.agg #[.bool s, .slice A l c, .slice B k d], .agg #[.bool hs, .slice A1 l1 c1, .slice B1 k1 d1]] w fun e w' => e = .returned (.int .i64 (-1)) ∧ Ext w w'))
    (HS1 : Hid (∀ {A1 : Option Addr} {l1 c1 : Nat} {B1 : Option Addr} {k1 d1 : Nat} {w : World}, RatAt w A l c B k d N D → RatAt w A1 l1 c1 B1 k1 d1 lN lD → Calls Try.prog 69 #[.agg #[.bool s, .slice A l c, .slice B k d], .agg #[.bool ls, .slice A1 l1 c1, .slice B1 k1 d1]] w (RetR q1 q1N q1D w)))
    (HS2 : Hid (∀ {A1 : Option Addr} {l1 c1 : Nat} {B1 : Option Addr} {k1 d1 : Nat} {w : World}, RatAt w A1 l1 c1 B1 k1 d1 hN hD → RatAt w A l c B k d N D → Calls Try.prog 69 #[.agg #[.bool hs, .slice A1 l1 c1, .slice B1 k1 d1], .agg #[.bool s, .slice A l c, .slice B k d]] w (RetR q2 q2N q2D w)))
    (HCM : Hid (∀ {A1 : Option Addr} {l1 c1 : Nat} {B1 : Option Addr} {k1 d1 : Nat} {A2 : Option Addr} {l2 c2 : Nat} {B2 : Option Addr} {k2 d2 : Nat} {w : World}, RatAt w A1 l1 c1 B1 k1 d1 q1N q1D → RatAt w A2 l2 c2 B2 k2 d2 q2N q2D → Calls Try.prog 18 #[.agg #[.bool q1, .slice A1 l1 c1, .slice B1 k1 d1], .agg #[.bool q2, .slice A2 l2 c2, .slice B2 k2 d2]] w fun e w' => e = .returned (.int .i64 cc) ∧ Ext w w'))
    (hcc : Hid (cc = 1 ∨ (cc = 0 ∧ bits .and .u64 (HI : Int) 1 = 0))) :
    Calls Try.prog 24 #[.agg #[.bool s, .slice A l c, .slice B k d], .int .u64 (LO : Int), .int .u64 (HI : Int), .int .u64 (HI : Int)] w fun e w' => e = .returned (.bool true) ∧ Ext w w' := by
  have hO := ((Own.start w).add h.1).add h.2
  have hf : True := trivial
  clear h
  go_enter Try.func24, Try.ntmps24
  go_wp2_with (first | ((with_reducible refine at_box ?_); refine own_box (cs := [.bool s, .slice A l c, .slice B k d]) hO rfl rfl ?_; clear hO; intro ga wa hO; clear hf; have hf := hO.cells; simp only [BC, CC, Nat.zero_add, Nat.reduceAdd, and_true] at hf) | (go_at_call 68; refine (HST.out _).mono ?_; rintro e w' ⟨rfl, rfl⟩))
  refine (HFK.out _).mono ?_
  rintro e w2 ⟨A0, n0, c0, B0, m0, e0, rfl, hW1, hW2, hE1⟩
  have hO := ((hO.ext hE1).add hW1).add hW2
  clear hW1 hW2 hE1
  clear hf
  have hf := hO.cells
  simp only [BC, CC, Nat.zero_add, Nat.reduceAdd, and_true] at hf
  go_wp2_with (first | ((with_reducible refine at_alloc ?_); refine own_alloc hO zero_rat rfl rfl ?_; clear hO; intro g9 w3 hO; clear hf; have hf := hO.cells; simp only [BC, CC, Nat.zero_add, Nat.reduceAdd, and_true] at hf) | ((with_reducible refine at_store (T := 35) ?_); refine own_store (T := 35) hO 0 rfl rfl rfl size_rat rfl rfl rfl ?_; clear hO; intro w4 hO; simp only [List.set_cons_zero, List.set_cons_succ, spl, List.take_succ_cons, List.take_zero, List.nil_append, List.cons_append, List.length_cons, List.length_nil, List.drop_succ_cons, List.drop_zero, List.drop_nil, Nat.reduceAdd, Nat.zero_add, List.append_nil] at hO; clear hf; have hf := hO.cells; simp only [BC, CC, Nat.zero_add, Nat.reduceAdd, and_true] at hf) | (go_at_call 16; ((with_reducible refine (HFL.out _).mono ?_); rintro e w' ⟨rfl, rfl⟩)) | (go_at_call 16; ((with_reducible refine (HFH.out _).mono ?_); rintro e w' ⟨rfl, rfl⟩)))
  have HU1 := Lib.hid ((unit_list w4).alloc (.cells #[.int .u32 1] 80))
  have HU2 := Lib.hid (unit_list2 w4)
  have HOO := Lib.hid ((hO.ext ((Ext.refl w4).alloc (.cells #[.int .u32 1] 80))).ext ((Ext.refl (w4.alloc (.cells #[.int .u32 1] 80))).alloc (.cells #[.int .u32 1] 80)))
  clear hO hf
  go_wp2_with fail
  refine (HFT.out _ _ _ _ _ _ _ HU1.out HU2.out).mono ?_
  rintro e w5 ⟨A1, n1, c1, B1, m1, e1, rfl, hW1, hW2, hE1⟩
  have hO := ((HOO.out.ext hE1).add hW1).add hW2
  clear hW1 hW2 hE1 HOO HU1 HU2
  have hf := hO.cells
  simp only [BC, CC, Nat.zero_add, Nat.reduceAdd, and_true] at hf
  go_wp2_with (first | ((with_reducible refine at_store (T := 35) ?_); refine own_store (T := 35) hO 0 rfl rfl rfl size_rat rfl rfl rfl ?_; clear hO; intro w7 hO; simp only [List.set_cons_zero, List.set_cons_succ, spl, List.take_succ_cons, List.take_zero, List.nil_append, List.cons_append, List.length_cons, List.length_nil, List.drop_succ_cons, List.drop_zero, List.drop_nil, Nat.reduceAdd, Nat.zero_add, List.append_nil] at hO; clear hf; have hf := hO.cells; simp only [BC, CC, Nat.zero_add, Nat.reduceAdd, and_true] at hf))
  have HU1 := Lib.hid ((unit_list w7).alloc (.cells #[.int .u32 1] 80))
  have HU2 := Lib.hid (unit_list2 w7)
  have HOO := Lib.hid ((hO.ext ((Ext.refl w7).alloc (.cells #[.int .u32 1] 80))).ext ((Ext.refl (w7.alloc (.cells #[.int .u32 1] 80))).alloc (.cells #[.int .u32 1] 80)))
  clear hO hf
  refine (HFF.out _ _ _ _ _ _ _ HU1.out HU2.out).mono ?_
  rintro e w8 ⟨A2, n2, c2, B2, m2, e2, rfl, hW1, hW2, hE1⟩
  have hO := ((HOO.out.ext hE1).add hW1).add hW2
  clear hW1 hW2 hE1 HOO HU1 HU2
  have hf := hO.cells
  simp only [BC, CC, Nat.zero_add, Nat.reduceAdd, and_true] at hf
  go_wp2_with (first | ((with_reducible refine at_alloc ?_); refine own_alloc hO zero_rat rfl rfl ?_; clear hO; intro g10 w9 hO; clear hf; have hf := hO.cells; simp only [BC, CC, Nat.zero_add, Nat.reduceAdd, and_true] at hf) | ((with_reducible refine at_store (T := 35) ?_); refine own_store (T := 35) hO 0 rfl rfl rfl size_rat rfl rfl rfl ?_; clear hO; intro w10 hO; simp only [List.set_cons_zero, List.set_cons_succ, spl, List.take_succ_cons, List.take_zero, List.nil_append, List.cons_append, List.length_cons, List.length_nil, List.drop_succ_cons, List.drop_zero, List.drop_nil, Nat.reduceAdd, Nat.zero_add, List.append_nil] at hO; clear hf; have hf := hO.cells; simp only [BC, CC, Nat.zero_add, Nat.reduceAdd, and_true] at hf) | (go_at_call 16; ((with_reducible refine (HFL.out _).mono ?_); rintro e w' ⟨rfl, rfl⟩)) | (go_at_call 16; ((with_reducible refine (HFH.out _).mono ?_); rintro e w' ⟨rfl, rfl⟩)))
  refine (HHI.out _).mono ?_
  rintro e w11 ⟨A3, n3, c3, B3, m3, e3, rfl, hW1, hW2, hE1⟩
  have hO := ((hO.ext hE1).add hW1).add hW2
  clear hW1 hW2 hE1
  clear hf
  have hf := hO.cells
  simp only [BC, CC, Nat.zero_add, Nat.reduceAdd, and_true] at hf
  go_wp2_with (first | ((with_reducible refine at_store (T := 35) ?_); refine own_store (T := 35) hO 0 rfl rfl rfl size_rat rfl rfl rfl ?_; clear hO; intro w12 hO; simp only [List.set_cons_zero, List.set_cons_succ, spl, List.take_succ_cons, List.take_zero, List.nil_append, List.cons_append, List.length_cons, List.length_nil, List.drop_succ_cons, List.drop_zero, List.drop_nil, Nat.reduceAdd, Nat.zero_add, List.append_nil] at hO; clear hf; have hf := hO.cells; simp only [BC, CC, Nat.zero_add, Nat.reduceAdd, and_true] at hf))
  refine (HR2.out ⟨hO.wd 9 rfl, hO.wd 8 rfl⟩ ⟨hO.wd 1 rfl, hO.wd 0 rfl⟩).mono ?_
  rintro e w13 ⟨rfl, hE1⟩
  have hO := hO.ext hE1
  clear hE1
  clear hf
  have hf := hO.cells
  simp only [BC, CC, Nat.zero_add, Nat.reduceAdd, and_true] at hf
  go_wp2_with fail
  obtain ⟨S, hS⟩ : ∃ S : World → Prop, S = Own w [⟨g10, 35, [.bool hs, .slice A3 n3 c3, .slice B3 m3 e3]⟩, ⟨g9, 35, [.bool ls, .slice A1 n1 c1, .slice B1 m1 e1]⟩, ⟨ga, 35, [.bool s, .slice A l c, .slice B k d]⟩] [⟨B3, m3, e3, nd hD⟩, ⟨A3, n3, c3, nd hN⟩, ⟨B2, m2, e2, nd fD⟩, ⟨A2, n2, c2, nd fN⟩, ⟨B1, m1, e1, nd lD⟩, ⟨A1, n1, c1, nd lN⟩, ⟨B0, m0, e0, nd kD⟩, ⟨A0, n0, c0, nd kN⟩, ⟨B, k, d, nd D⟩, ⟨A, l, c, nd N⟩] := ⟨_, rfl⟩
  have hSE : ∀ w w', S w → Ext w w' → S w' := fun w w' h1 h2 => by rw [hS] at h1 ⊢; exact h1.ext h2
  have hS1 : S w13.drew := by rw [hS]; exact hO.ext (Ext.refl w13).drew
  have HS := Lib.hid hS
  clear hS hO hf
  obtain ⟨sp, hsp⟩ : ∃ sp : Nat → Sp, sp = ofList [det (.agg #[.bool s, .slice A l c, .slice B k d]), det (.agg #[.bool ls, .slice A1 n1 c1, .slice B1 m1 e1]),
    anyOf (fun v wz => ∃ A1 n1 c1 A2 n2 c2, v = .agg #[.bool q1, .slice A1 n1 c1, .slice A2 n2 c2] ∧ RatAt wz A1 n1 c1 A2 n2 c2 q1N q1D), det (.agg #[.bool hs, .slice A3 n3 c3, .slice B3 m3 e3]), det (.agg #[.bool s, .slice A l c, .slice B k d]),
    anyOf (fun v wz => ∃ A1 n1 c1 A2 n2 c2, v = .agg #[.bool q2, .slice A1 n1 c1, .slice A2 n2 c2] ∧ RatAt wz A1 n1 c1 A2 n2 c2 q2N q2D), det (.int .i64 cc)] := ⟨_, rfl⟩
  have HSP := Lib.hid hsp
  clear hsp
  refine wp_region_loose 7 S sp (by kernel_rfl) (by kernel_rfl) hS1 hSE ?_
  simp only [List.take_succ_cons, List.take_zero, List.drop_succ_cons, List.drop_zero]
  refine wpX_step (fun K hK => ?_)
  go_simp
  refine StepY.det (by rw [HSP.out]; rfl) ?_ ?_
  · intro wz hz hF
    rw [HS.out] at hz
    have hf := hz.cells
    simp only [BC, CC, Nat.zero_add, Nat.reduceAdd, and_true] at hf
    clear hz hF
    go_simp
    exact ⟨rfl, Ext.refl _⟩
  refine hK _ _ ?_
  clear hK K
  refine wpX_step (fun K hK => ?_)
  go_simp
  refine StepY.det (by rw [HSP.out]; rfl) ?_ ?_
  · intro wz hz hF
    rw [HS.out] at hz
    have hf := hz.cells
    simp only [BC, CC, Nat.zero_add, Nat.reduceAdd, and_true] at hf
    clear hz hF
    go_simp
    exact ⟨rfl, Ext.refl _⟩
  refine hK _ _ ?_
  clear hK K
  refine wpX_step (fun K hK => ?_)
  go_simp
  refine StepY.any (by rw [HSP.out]; rfl) ?_ ?_
  · intro wz hz hF
    clear hF
    rw [HS.out] at hz
    have h1 : RatAt wz _ _ _ _ _ _ _ _ := ⟨hz.wd 9 rfl, hz.wd 8 rfl⟩
    have h2 : RatAt wz _ _ _ _ _ _ _ _ := ⟨hz.wd 5 rfl, hz.wd 4 rfl⟩
    clear hz
    go_simp
    refine (HS1.out h1 h2).mono ?_
    rintro e w2 ⟨A3, n3, c3, A4, n4, c4, rfl, hW1, hW2, hE1⟩
    exact ⟨_, rfl, ⟨A3, n3, c3, A4, n4, c4, rfl, hW1, hW2⟩, hE1⟩
  intro v
  refine hK _ _ ?_
  clear hK K
  refine wpX_step (fun K hK => ?_)
  go_simp
  refine StepY.det (by rw [HSP.out]; rfl) ?_ ?_
  · intro wz hz hF
    rw [HS.out] at hz
    have hf := hz.cells
    simp only [BC, CC, Nat.zero_add, Nat.reduceAdd, and_true] at hf
    clear hz hF
    go_simp
    exact ⟨rfl, Ext.refl _⟩
  refine hK _ _ ?_
  clear hK K
  refine wpX_step (fun K hK => ?_)
  go_simp
  refine StepY.det (by rw [HSP.out]; rfl) ?_ ?_
  · intro wz hz hF
    rw [HS.out] at hz
    have hf := hz.cells
    simp only [BC, CC, Nat.zero_add, Nat.reduceAdd, and_true] at hf
    clear hz hF
    go_simp
    exact ⟨rfl, Ext.refl _⟩
  refine hK _ _ ?_
  clear hK K
  refine wpX_step (fun K hK => ?_)
  go_simp
  refine StepY.any (by rw [HSP.out]; rfl) ?_ ?_
  · intro wz hz hF
    clear hF
    rw [HS.out] at hz
    have h1 : RatAt wz _ _ _ _ _ _ _ _ := ⟨hz.wd 1 rfl, hz.wd 0 rfl⟩
    have h2 : RatAt wz _ _ _ _ _ _ _ _ := ⟨hz.wd 9 rfl, hz.wd 8 rfl⟩
    clear hz
    go_simp
    refine (HS2.out h1 h2).mono ?_
    rintro e w2 ⟨A3, n3, c3, A4, n4, c4, rfl, hW1, hW2, hE1⟩
    exact ⟨_, rfl, ⟨A3, n3, c3, A4, n4, c4, rfl, hW1, hW2⟩, hE1⟩
  intro v
  refine hK _ _ ?_
  clear hK K
  refine wpX_step (fun K hK => ?_)
  go_simp
  refine StepY.det (by rw [HSP.out]; rfl) ?_ ?_
  · intro wz hz hF
    obtain ⟨wa', ea, A5, n5, c5, A6, n6, c6, hv1, hw1⟩ := hF.any 2 (by kernel_rfl) (by rw [HSP.out]; rfl)
    obtain ⟨wb', eb, A7, n7, c7, A8, n8, c8, hv2, hw2⟩ := hF.any 5 (by kernel_rfl) (by rw [HSP.out]; rfl)
    clear hF
    simp only [asFun, List.nil_append, List.cons_append, List.getD_cons_succ, List.getD_cons_zero] at hv1 hv2
    subst hv1 hv2
    go_simp
    refine (HCM.out (hw1.ext ea) (hw2.ext eb)).mono ?_
    rintro e w2 ⟨rfl, hE1⟩
    exact ⟨_, rfl, rfl, hE1⟩
  refine hK _ _ ?_
  clear hK K
  refine wpX_nil ?_
  intro w14 hz hF
  clear hF
  rw [HS.out] at hz
  have hE := hz.toExt
  clear hz
  rcases hcc.out with rfl | ⟨rfl, hev⟩
  all_goals
    go_wp2
    go_ret
    exact ⟨by first | rfl | simp, hE⟩

set_option maxHeartbeats 16000000 in
theorem tight_110 (s : Bool) (A : Option Addr) (l c : Nat) (B : Option Addr) (k d N D LO HI : Nat) (w : World) (h : RatAt w A l c B k d N D)
    (f1 : ((LO : Int) == 9221120237041090561) = false) (f3 : ((LO : Int) == 9218868437227405312) = false) (f5 : ((LO : Int) == 9223372036854775808) = false)
    (f2 : ((HI : Int) == 9221120237041090561) = false) (f4 : ((HI : Int) == 18442240474082181120) = false) (f6 : ((HI : Int) == 9223372036854775808) = false) (f7 : ((LO : Int) == (HI : Int)) = false) (f8 : ((HI : Int) == (LO : Int)) = false)
    (f9 : ((HI : Int) != (LO : Int)) = true)
    (ls hs ks q1 q2 : Bool) (lN lD hN hD kN kD q1N q1D q2N q2D : Nat) (cc : Int)
    (HST : Hid (∀ w, Calls Try.prog 68 #[.int .u64 (LO : Int)] w fun e w' => e = .returned (.int .u64 (HI : Nat)) ∧ w = w'))
    (HFK : Hid (∀ w, Calls Try.prog 17 #[.int .u64 18442240474082181119] w (RetR ks kN kD w)))
    (HFL : Hid (∀ w, Calls Try.prog 16 #[.int .u64 (LO : Int)] w fun e w' => e = .returned (.bool true) ∧ w = w'))
    (HFH : Hid (∀ w, Calls Try.prog 16 #[.int .u64 (HI : Int)] w fun e w' => e = .returned (.bool false) ∧ w = w'))
    (HLO : Hid (∀ w, Calls Try.prog 17 #[.int .u64 (LO : Int)] w (RetR ls lN lD w)))
    (HR1 : Hid (∀ {A1 : Option Addr} {l1 c1 : Nat} {B1 : Option Addr} {k1 d1 : Nat} {w : World}, RatAt w A1 l1 c1 B1 k1 d1 lN lD → RatAt w A l c B k d N D → Calls Try.prog 18 #[.agg #[.bool ls, .slice A1 l1 c1, .slice B1 k1 d1], .agg #[.bool s, .slice A l c, .slice B k d]] w fun e w' => e = .returned (.int .i64 (-1)) ∧ Ext w w'))
    (HFF : Hid (∀ (A1 : Option Addr) (n1 c1 : Nat) (A2 : Option Addr) (n2 c2 : Nat) (w : World), Wds w A1 n1 c1 (nd 1) → Wds w A2 n2 c2 (nd 1) → Calls Try.prog 55 #[.bool false, .slice A1 n1 c1, .slice A2 n2 c2, .int .i64 1024] w (RetR hs hN hD w)))
    (HS1 : Hid (∀ {A1 : Option Addr} {l1 c1 : Nat} {B1 : Option Addr} {k1 d1 : Nat} {w : World}, RatAt w A l c B k d N D → RatAt w A1 l1 c1 B1 k1 d1 lN lD → Calls Try.prog 69 #[.agg #[.bool s, .slice A l c, .slice B k d], .agg #[.bool ls, .slice A1 l1 c1, .slice B1 k1 d1]] w (RetR q1 q1N q1D w)))
    (HS2 : Hid (∀ {A1 : Option Addr} {l1 c1 : Nat} {B1 : Option Addr} {k1 d1 : Nat} {w : World}, RatAt w A1 l1 c1 B1 k1 d1 hN hD → RatAt w A l c B k d N D → Calls Try.prog 69 #[.agg #[.bool hs, .slice A1 l1 c1, .slice B1 k1 d1], .agg #[.bool s, .slice A l c, .slice B k d]] w (RetR q2 q2N q2D w)))
    (HCM : Hid (∀ {A1 : Option Addr} {l1 c1 : Nat} {B1 : Option Addr} {k1 d1 : Nat} {A2 : Option Addr} {l2 c2 : Nat} {B2 : Option Addr} {k2 d2 : Nat} {w : World}, RatAt w A1 l1 c1 B1 k1 d1 q1N q1D → RatAt w A2 l2 c2 B2 k2 d2 q2N q2D → Calls Try.prog 18 #[.agg #[.bool q1, .slice A1 l1 c1, .slice B1 k1 d1], .agg #[.bool q2, .slice A2 l2 c2, .slice B2 k2 d2]] w fun e w' => e = .returned (.int .i64 cc) ∧ Ext w w'))
    (hcc : Hid (cc = 1 ∨ (cc = 0 ∧ bits .and .u64 (HI : Int) 1 = 0))) :
    Calls Try.prog 24 #[.agg #[.bool s, .slice A l c, .slice B k d], .int .u64 (LO : Int), .int .u64 (HI : Int), .int .u64 (HI : Int)] w fun e w' => e = .returned (.bool true) ∧ Ext w w' := by
  have hO := ((Own.start w).add h.1).add h.2
  have hf : True := trivial
  clear h
  go_enter Try.func24, Try.ntmps24
  go_wp2_with (first | ((with_reducible refine at_box ?_); refine own_box (cs := [.bool s, .slice A l c, .slice B k d]) hO rfl rfl ?_; clear hO; intro ga wa hO; clear hf; have hf := hO.cells; simp only [BC, CC, Nat.zero_add, Nat.reduceAdd, and_true] at hf) | (go_at_call 68; refine (HST.out _).mono ?_; rintro e w' ⟨rfl, rfl⟩))
  refine (HFK.out _).mono ?_
  rintro e w2 ⟨A0, n0, c0, B0, m0, e0, rfl, hW1, hW2, hE1⟩
  have hO := ((hO.ext hE1).add hW1).add hW2
  clear hW1 hW2 hE1
  clear hf
  have hf := hO.cells
  simp only [BC, CC, Nat.zero_add, Nat.reduceAdd, and_true] at hf
  go_wp2_with (first | ((with_reducible refine at_alloc ?_); refine own_alloc hO zero_rat rfl rfl ?_; clear hO; intro g9 w3 hO; clear hf; have hf := hO.cells; simp only [BC, CC, Nat.zero_add, Nat.reduceAdd, and_true] at hf) | ((with_reducible refine at_store (T := 35) ?_); refine own_store (T := 35) hO 0 rfl rfl rfl size_rat rfl rfl rfl ?_; clear hO; intro w4 hO; simp only [List.set_cons_zero, List.set_cons_succ, spl, List.take_succ_cons, List.take_zero, List.nil_append, List.cons_append, List.length_cons, List.length_nil, List.drop_succ_cons, List.drop_zero, List.drop_nil, Nat.reduceAdd, Nat.zero_add, List.append_nil] at hO; clear hf; have hf := hO.cells; simp only [BC, CC, Nat.zero_add, Nat.reduceAdd, and_true] at hf) | (go_at_call 16; ((with_reducible refine (HFL.out _).mono ?_); rintro e w' ⟨rfl, rfl⟩)) | (go_at_call 16; ((with_reducible refine (HFH.out _).mono ?_); rintro e w' ⟨rfl, rfl⟩)))
  refine (HLO.out _).mono ?_
  rintro e w5 ⟨A1, n1, c1, B1, m1, e1, rfl, hW1, hW2, hE1⟩
  have hO := ((hO.ext hE1).add hW1).add hW2
  clear hW1 hW2 hE1
  clear hf
  have hf := hO.cells
  simp only [BC, CC, Nat.zero_add, Nat.reduceAdd, and_true] at hf
  go_wp2_with (first | ((with_reducible refine at_store (T := 35) ?_); refine own_store (T := 35) hO 0 rfl rfl rfl size_rat rfl rfl rfl ?_; clear hO; intro w6 hO; simp only [List.set_cons_zero, List.set_cons_succ, spl, List.take_succ_cons, List.take_zero, List.nil_append, List.cons_append, List.length_cons, List.length_nil, List.drop_succ_cons, List.drop_zero, List.drop_nil, Nat.reduceAdd, Nat.zero_add, List.append_nil] at hO; clear hf; have hf := hO.cells; simp only [BC, CC, Nat.zero_add, Nat.reduceAdd, and_true] at hf))
  refine (HR1.out ⟨hO.wd 1 rfl, hO.wd 0 rfl⟩ ⟨hO.wd 5 rfl, hO.wd 4 rfl⟩).mono ?_
  rintro e w7 ⟨rfl, hE1⟩
  have hO := hO.ext hE1
  clear hE1
  clear hf
  have hf := hO.cells
  simp only [BC, CC, Nat.zero_add, Nat.reduceAdd, and_true] at hf
  have HU1 := Lib.hid ((unit_list w7).alloc (.cells #[.int .u32 1] 80))
  have HU2 := Lib.hid (unit_list2 w7)
  have HOO := Lib.hid ((hO.ext ((Ext.refl w7).alloc (.cells #[.int .u32 1] 80))).ext ((Ext.refl (w7.alloc (.cells #[.int .u32 1] 80))).alloc (.cells #[.int .u32 1] 80)))
  clear hO hf
  go_wp2_with fail
  refine (HFF.out _ _ _ _ _ _ _ HU1.out HU2.out).mono ?_
  rintro e w8 ⟨A2, n2, c2, B2, m2, e2, rfl, hW1, hW2, hE1⟩
  have hO := ((HOO.out.ext hE1).add hW1).add hW2
  clear hW1 hW2 hE1 HOO HU1 HU2
  have hf := hO.cells
  simp only [BC, CC, Nat.zero_add, Nat.reduceAdd, and_true] at hf
  go_wp2_with (first | ((with_reducible refine at_alloc ?_); refine own_alloc hO zero_rat rfl rfl ?_; clear hO; intro g10 w9 hO; clear hf; have hf := hO.cells; simp only [BC, CC, Nat.zero_add, Nat.reduceAdd, and_true] at hf) | ((with_reducible refine at_store (T := 35) ?_); refine own_store (T := 35) hO 0 rfl rfl rfl size_rat rfl rfl rfl ?_; clear hO; intro w10 hO; simp only [List.set_cons_zero, List.set_cons_succ, spl, List.take_succ_cons, List.take_zero, List.nil_append, List.cons_append, List.length_cons, List.length_nil, List.drop_succ_cons, List.drop_zero, List.drop_nil, Nat.reduceAdd, Nat.zero_add, List.append_nil] at hO; clear hf; have hf := hO.cells; simp only [BC, CC, Nat.zero_add, Nat.reduceAdd, and_true] at hf) | (go_at_call 16; ((with_reducible refine (HFL.out _).mono ?_); rintro e w' ⟨rfl, rfl⟩)) | (go_at_call 16; ((with_reducible refine (HFH.out _).mono ?_); rintro e w' ⟨rfl, rfl⟩)))
  obtain ⟨S, hS⟩ : ∃ S : World → Prop, S = Own w [⟨g10, 35, [.bool hs, .slice A2 n2 c2, .slice B2 m2 e2]⟩, ⟨g9, 35, [.bool ls, .slice A1 n1 c1, .slice B1 m1 e1]⟩, ⟨ga, 35, [.bool s, .slice A l c, .slice B k d]⟩] [⟨B2, m2, e2, nd hD⟩, ⟨A2, n2, c2, nd hN⟩, ⟨B1, m1, e1, nd lD⟩, ⟨A1, n1, c1, nd lN⟩, ⟨B0, m0, e0, nd kD⟩, ⟨A0, n0, c0, nd kN⟩, ⟨B, k, d, nd D⟩, ⟨A, l, c, nd N⟩] := ⟨_, rfl⟩
  have hSE : ∀ w w', S w → Ext w w' → S w' := fun w w' h1 h2 => by rw [hS] at h1 ⊢; exact h1.ext h2
  have hS1 : S w10.drew := by rw [hS]; exact hO.ext (Ext.refl w10).drew
  have HS := Lib.hid hS
  clear hS hO hf
  obtain ⟨sp, hsp⟩ : ∃ sp : Nat → Sp, sp = ofList [det (.agg #[.bool s, .slice A l c, .slice B k d]), det (.agg #[.bool ls, .slice A1 n1 c1, .slice B1 m1 e1]),
    anyOf (fun v wz => ∃ A1 n1 c1 A2 n2 c2, v = .agg #[.bool q1, .slice A1 n1 c1, .slice A2 n2 c2] ∧ RatAt wz A1 n1 c1 A2 n2 c2 q1N q1D), det (.agg #[.bool hs, .slice A2 n2 c2, .slice B2 m2 e2]), det (.agg #[.bool s, .slice A l c, .slice B k d]),
    anyOf (fun v wz => ∃ A1 n1 c1 A2 n2 c2, v = .agg #[.bool q2, .slice A1 n1 c1, .slice A2 n2 c2] ∧ RatAt wz A1 n1 c1 A2 n2 c2 q2N q2D), det (.int .i64 cc)] := ⟨_, rfl⟩
  have HSP := Lib.hid hsp
  clear hsp
  refine wp_region_loose 7 S sp (by kernel_rfl) (by kernel_rfl) hS1 hSE ?_
  simp only [List.take_succ_cons, List.take_zero, List.drop_succ_cons, List.drop_zero]
  refine wpX_step (fun K hK => ?_)
  go_simp
  refine StepY.det (by rw [HSP.out]; rfl) ?_ ?_
  · intro wz hz hF
    rw [HS.out] at hz
    have hf := hz.cells
    simp only [BC, CC, Nat.zero_add, Nat.reduceAdd, and_true] at hf
    clear hz hF
    go_simp
    exact ⟨rfl, Ext.refl _⟩
  refine hK _ _ ?_
  clear hK K
  refine wpX_step (fun K hK => ?_)
  go_simp
  refine StepY.det (by rw [HSP.out]; rfl) ?_ ?_
  · intro wz hz hF
    rw [HS.out] at hz
    have hf := hz.cells
    simp only [BC, CC, Nat.zero_add, Nat.reduceAdd, and_true] at hf
    clear hz hF
    go_simp
    exact ⟨rfl, Ext.refl _⟩
  refine hK _ _ ?_
  clear hK K
  refine wpX_step (fun K hK => ?_)
  go_simp
  refine StepY.any (by rw [HSP.out]; rfl) ?_ ?_
  · intro wz hz hF
    clear hF
    rw [HS.out] at hz
    have h1 : RatAt wz _ _ _ _ _ _ _ _ := ⟨hz.wd 7 rfl, hz.wd 6 rfl⟩
    have h2 : RatAt wz _ _ _ _ _ _ _ _ := ⟨hz.wd 3 rfl, hz.wd 2 rfl⟩
    clear hz
    go_simp
    refine (HS1.out h1 h2).mono ?_
    rintro e w2 ⟨A3, n3, c3, A4, n4, c4, rfl, hW1, hW2, hE1⟩
    exact ⟨_, rfl, ⟨A3, n3, c3, A4, n4, c4, rfl, hW1, hW2⟩, hE1⟩
  intro v
  refine hK _ _ ?_
  clear hK K
  refine wpX_step (fun K hK => ?_)
  go_simp
  refine StepY.det (by rw [HSP.out]; rfl) ?_ ?_
  · intro wz hz hF
    rw [HS.out] at hz
    have hf := hz.cells
    simp only [BC, CC, Nat.zero_add, Nat.reduceAdd, and_true] at hf
    clear hz hF
    go_simp
    exact ⟨rfl, Ext.refl _⟩
  refine hK _ _ ?_
  clear hK K
  refine wpX_step (fun K hK => ?_)
  go_simp
  refine StepY.det (by rw [HSP.out]; rfl) ?_ ?_
  · intro wz hz hF
    rw [HS.out] at hz
    have hf := hz.cells
    simp only [BC, CC, Nat.zero_add, Nat.reduceAdd, and_true] at hf
    clear hz hF
    go_simp
    exact ⟨rfl, Ext.refl _⟩
  refine hK _ _ ?_
  clear hK K
  refine wpX_step (fun K hK => ?_)
  go_simp
  refine StepY.any (by rw [HSP.out]; rfl) ?_ ?_
  · intro wz hz hF
    clear hF
    rw [HS.out] at hz
    have h1 : RatAt wz _ _ _ _ _ _ _ _ := ⟨hz.wd 1 rfl, hz.wd 0 rfl⟩
    have h2 : RatAt wz _ _ _ _ _ _ _ _ := ⟨hz.wd 7 rfl, hz.wd 6 rfl⟩
    clear hz
    go_simp
    refine (HS2.out h1 h2).mono ?_
    rintro e w2 ⟨A3, n3, c3, A4, n4, c4, rfl, hW1, hW2, hE1⟩
    exact ⟨_, rfl, ⟨A3, n3, c3, A4, n4, c4, rfl, hW1, hW2⟩, hE1⟩
  intro v
  refine hK _ _ ?_
  clear hK K
  refine wpX_step (fun K hK => ?_)
  go_simp
  refine StepY.det (by rw [HSP.out]; rfl) ?_ ?_
  · intro wz hz hF
    obtain ⟨wa', ea, A5, n5, c5, A6, n6, c6, hv1, hw1⟩ := hF.any 2 (by kernel_rfl) (by rw [HSP.out]; rfl)
    obtain ⟨wb', eb, A7, n7, c7, A8, n8, c8, hv2, hw2⟩ := hF.any 5 (by kernel_rfl) (by rw [HSP.out]; rfl)
    clear hF
    simp only [asFun, List.nil_append, List.cons_append, List.getD_cons_succ, List.getD_cons_zero] at hv1 hv2
    subst hv1 hv2
    go_simp
    refine (HCM.out (hw1.ext ea) (hw2.ext eb)).mono ?_
    rintro e w2 ⟨rfl, hE1⟩
    exact ⟨_, rfl, rfl, hE1⟩
  refine hK _ _ ?_
  clear hK K
  refine wpX_nil ?_
  intro w14 hz hF
  clear hF
  rw [HS.out] at hz
  have hE := hz.toExt
  clear hz
  rcases hcc.out with rfl | ⟨rfl, hev⟩
  all_goals
    go_wp2
    go_ret
    exact ⟨by first | rfl | simp, hE⟩

set_option maxHeartbeats 16000000 in
theorem tight_111 (s : Bool) (A : Option Addr) (l c : Nat) (B : Option Addr) (k d N D LO HI : Nat) (w : World) (h : RatAt w A l c B k d N D)
    (f1 : ((LO : Int) == 9221120237041090561) = false) (f3 : ((LO : Int) == 9218868437227405312) = false) (f5 : ((LO : Int) == 9223372036854775808) = false)
    (f2 : ((HI : Int) == 9221120237041090561) = false) (f4 : ((HI : Int) == 18442240474082181120) = false) (f6 : ((HI : Int) == 9223372036854775808) = false) (f7 : ((LO : Int) == (HI : Int)) = false) (f8 : ((HI : Int) == (LO : Int)) = false)
    (f9 : ((HI : Int) != (LO : Int)) = true)
    (ls hs ks q1 q2 : Bool) (lN lD hN hD kN kD q1N q1D q2N q2D fN fD : Nat) (cc : Int)
    (HST : Hid (∀ w, Calls Try.prog 68 #[.int .u64 (LO : Int)] w fun e w' => e = .returned (.int .u64 (HI : Nat)) ∧ w = w'))
    (HFK : Hid (∀ w, Calls Try.prog 17 #[.int .u64 18442240474082181119] w (RetR ks kN kD w)))
    (HFL : Hid (∀ w, Calls Try.prog 16 #[.int .u64 (LO : Int)] w fun e w' => e = .returned (.bool true) ∧ w = w'))
    (HFH : Hid (∀ w, Calls Try.prog 16 #[.int .u64 (HI : Int)] w fun e w' => e = .returned (.bool true) ∧ w = w'))
    (HLO : Hid (∀ w, Calls Try.prog 17 #[.int .u64 (LO : Int)] w (RetR ls lN lD w)))
    (HR1 : Hid (∀ {A1 : Option Addr} {l1 c1 : Nat} {B1 : Option Addr} {k1 d1 : Nat} {w : World}, RatAt w A1 l1 c1 B1 k1 d1 lN lD → RatAt w A l c B k d N D → Calls Try.prog 18 #[.agg #[.bool ls, .slice A1 l1 c1, .slice B1 k1 d1], .agg #[.bool s, .slice A l c, .slice B k d]] w fun e w' => e = .returned (.int .i64 (-1)) ∧ Ext w w'))
    (HFF : Hid (∀ (A1 : Option Addr) (n1 c1 : Nat) (A2 : Option Addr) (n2 c2 : Nat) (w : World), Wds w A1 n1 c1 (nd 1) → Wds w A2 n2 c2 (nd 1) → Calls Try.prog 55 #[.bool false, .slice A1 n1 c1, .slice A2 n2 c2, .int .i64 1024] w (RetR false fN fD w)))
    (HHI : Hid (∀ w, Calls Try.prog 17 #[.int .u64 (HI : Int)] w (RetR hs hN hD w)))
    (HR2 : Hid (∀ {A1 : Option Addr} {l1 c1 : Nat} {B1 : Option Addr} {k1 d1 : Nat} {w : World}, RatAt w A l c B k d N D → RatAt w A1 l1 c1 B1 k1 d1 hN hD → Calls Try.prog 18 #[.agg #[.bool s, .slice A l c, .slice B k d], .agg #[.bool hs, .slice A1 l1 c1, .slice B1 k1 d1]] w fun e w' => e = .returned (.int .i64 (-1)) ∧ Ext w w'))
    (HS1 : Hid (∀ {A1 : Option Addr} {l1 c1 : Nat} {B1 : Option Addr} {k1 d1 : Nat} {w : World}, RatAt w A l c B k d N D → RatAt w A1 l1 c1 B1 k1 d1 lN lD → Calls Try.prog 69 #[.agg #[.bool s, .slice A l c, .slice B k d], .agg #[.bool ls, .slice A1 l1 c1, .slice B1 k1 d1]] w (RetR q1 q1N q1D w)))
    (HS2 : Hid (∀ {A1 : Option Addr} {l1 c1 : Nat} {B1 : Option Addr} {k1 d1 : Nat} {w : World}, RatAt w A1 l1 c1 B1 k1 d1 hN hD → RatAt w A l c B k d N D → Calls Try.prog 69 #[.agg #[.bool hs, .slice A1 l1 c1, .slice B1 k1 d1], .agg #[.bool s, .slice A l c, .slice B k d]] w (RetR q2 q2N q2D w)))
    (HCM : Hid (∀ {A1 : Option Addr} {l1 c1 : Nat} {B1 : Option Addr} {k1 d1 : Nat} {A2 : Option Addr} {l2 c2 : Nat} {B2 : Option Addr} {k2 d2 : Nat} {w : World}, RatAt w A1 l1 c1 B1 k1 d1 q1N q1D → RatAt w A2 l2 c2 B2 k2 d2 q2N q2D → Calls Try.prog 18 #[.agg #[.bool q1, .slice A1 l1 c1, .slice B1 k1 d1], .agg #[.bool q2, .slice A2 l2 c2, .slice B2 k2 d2]] w fun e w' => e = .returned (.int .i64 cc) ∧ Ext w w'))
    (hcc : Hid (cc = 1 ∨ (cc = 0 ∧ bits .and .u64 (HI : Int) 1 = 0))) :
    Calls Try.prog 24 #[.agg #[.bool s, .slice A l c, .slice B k d], .int .u64 (LO : Int), .int .u64 (HI : Int), .int .u64 (HI : Int)] w fun e w' => e = .returned (.bool true) ∧ Ext w w' := by
  have hO := ((Own.start w).add h.1).add h.2
  have hf : True := trivial
  clear h
  go_enter Try.func24, Try.ntmps24
  go_wp2_with (first | ((with_reducible refine at_box ?_); refine own_box (cs := [.bool s, .slice A l c, .slice B k d]) hO rfl rfl ?_; clear hO; intro ga wa hO; clear hf; have hf := hO.cells; simp only [BC, CC, Nat.zero_add, Nat.reduceAdd, and_true] at hf) | (go_at_call 68; refine (HST.out _).mono ?_; rintro e w' ⟨rfl, rfl⟩))
  refine (HFK.out _).mono ?_
  rintro e w2 ⟨A0, n0, c0, B0, m0, e0, rfl, hW1, hW2, hE1⟩
  have hO := ((hO.ext hE1).add hW1).add hW2
  clear hW1 hW2 hE1
  clear hf
  have hf := hO.cells
  simp only [BC, CC, Nat.zero_add, Nat.reduceAdd, and_true] at hf
  go_wp2_with (first | ((with_reducible refine at_alloc ?_); refine own_alloc hO zero_rat rfl rfl ?_; clear hO; intro g9 w3 hO; clear hf; have hf := hO.cells; simp only [BC, CC, Nat.zero_add, Nat.reduceAdd, and_true] at hf) | ((with_reducible refine at_store (T := 35) ?_); refine own_store (T := 35) hO 0 rfl rfl rfl size_rat rfl rfl rfl ?_; clear hO; intro w4 hO; simp only [List.set_cons_zero, List.set_cons_succ, spl, List.take_succ_cons, List.take_zero, List.nil_append, List.cons_append, List.length_cons, List.length_nil, List.drop_succ_cons, List.drop_zero, List.drop_nil, Nat.reduceAdd, Nat.zero_add, List.append_nil] at hO; clear hf; have hf := hO.cells; simp only [BC, CC, Nat.zero_add, Nat.reduceAdd, and_true] at hf) | (go_at_call 16; ((with_reducible refine (HFL.out _).mono ?_); rintro e w' ⟨rfl, rfl⟩)) | (go_at_call 16; ((with_reducible refine (HFH.out _).mono ?_); rintro e w' ⟨rfl, rfl⟩)))
  refine (HLO.out _).mono ?_
  rintro e w5 ⟨A1, n1, c1, B1, m1, e1, rfl, hW1, hW2, hE1⟩
  have hO := ((hO.ext hE1).add hW1).add hW2
  clear hW1 hW2 hE1
  clear hf
  have hf := hO.cells
  simp only [BC, CC, Nat.zero_add, Nat.reduceAdd, and_true] at hf
  go_wp2_with (first | ((with_reducible refine at_store (T := 35) ?_); refine own_store (T := 35) hO 0 rfl rfl rfl size_rat rfl rfl rfl ?_; clear hO; intro w6 hO; simp only [List.set_cons_zero, List.set_cons_succ, spl, List.take_succ_cons, List.take_zero, List.nil_append, List.cons_append, List.length_cons, List.length_nil, List.drop_succ_cons, List.drop_zero, List.drop_nil, Nat.reduceAdd, Nat.zero_add, List.append_nil] at hO; clear hf; have hf := hO.cells; simp only [BC, CC, Nat.zero_add, Nat.reduceAdd, and_true] at hf))
  refine (HR1.out ⟨hO.wd 1 rfl, hO.wd 0 rfl⟩ ⟨hO.wd 5 rfl, hO.wd 4 rfl⟩).mono ?_
  rintro e w7 ⟨rfl, hE1⟩
  have hO := hO.ext hE1
  clear hE1
  clear hf
  have hf := hO.cells
  simp only [BC, CC, Nat.zero_add, Nat.reduceAdd, and_true] at hf
  have HU1 := Lib.hid ((unit_list w7).alloc (.cells #[.int .u32 1] 80))
  have HU2 := Lib.hid (unit_list2 w7)
  have HOO := Lib.hid ((hO.ext ((Ext.refl w7).alloc (.cells #[.int .u32 1] 80))).ext ((Ext.refl (w7.alloc (.cells #[.int .u32 1] 80))).alloc (.cells #[.int .u32 1] 80)))
  clear hO hf
  go_wp2_with fail
  refine (HFF.out _ _ _ _ _ _ _ HU1.out HU2.out).mono ?_
  rintro e w8 ⟨A2, n2, c2, B2, m2, e2, rfl, hW1, hW2, hE1⟩
  have hO := ((HOO.out.ext hE1).add hW1).add hW2
  clear hW1 hW2 hE1 HOO HU1 HU2
  have hf := hO.cells
  simp only [BC, CC, Nat.zero_add, Nat.reduceAdd, and_true] at hf
  go_wp2_with (first | ((with_reducible refine at_alloc ?_); refine own_alloc hO zero_rat rfl rfl ?_; clear hO; intro g10 w9 hO; clear hf; have hf := hO.cells; simp only [BC, CC, Nat.zero_add, Nat.reduceAdd, and_true] at hf) | ((with_reducible refine at_store (T := 35) ?_); refine own_store (T := 35) hO 0 rfl rfl rfl size_rat rfl rfl rfl ?_; clear hO; intro w10 hO; simp only [List.set_cons_zero, List.set_cons_succ, spl, List.take_succ_cons, List.take_zero, List.nil_append, List.cons_append, List.length_cons, List.length_nil, List.drop_succ_cons, List.drop_zero, List.drop_nil, Nat.reduceAdd, Nat.zero_add, List.append_nil] at hO; clear hf; have hf := hO.cells; simp only [BC, CC, Nat.zero_add, Nat.reduceAdd, and_true] at hf) | (go_at_call 16; ((with_reducible refine (HFL.out _).mono ?_); rintro e w' ⟨rfl, rfl⟩)) | (go_at_call 16; ((with_reducible refine (HFH.out _).mono ?_); rintro e w' ⟨rfl, rfl⟩)))
  refine (HHI.out _).mono ?_
  rintro e w11 ⟨A3, n3, c3, B3, m3, e3, rfl, hW1, hW2, hE1⟩
  have hO := ((hO.ext hE1).add hW1).add hW2
  clear hW1 hW2 hE1
  clear hf
  have hf := hO.cells
  simp only [BC, CC, Nat.zero_add, Nat.reduceAdd, and_true] at hf
  go_wp2_with (first | ((with_reducible refine at_store (T := 35) ?_); refine own_store (T := 35) hO 0 rfl rfl rfl size_rat rfl rfl rfl ?_; clear hO; intro w12 hO; simp only [List.set_cons_zero, List.set_cons_succ, spl, List.take_succ_cons, List.take_zero, List.nil_append, List.cons_append, List.length_cons, List.length_nil, List.drop_succ_cons, List.drop_zero, List.drop_nil, Nat.reduceAdd, Nat.zero_add, List.append_nil] at hO; clear hf; have hf := hO.cells; simp only [BC, CC, Nat.zero_add, Nat.reduceAdd, and_true] at hf))
  refine (HR2.out ⟨hO.wd 9 rfl, hO.wd 8 rfl⟩ ⟨hO.wd 1 rfl, hO.wd 0 rfl⟩).mono ?_
  rintro e w13 ⟨rfl, hE1⟩
  have hO := hO.ext hE1
  clear hE1
  clear hf
  have hf := hO.cells
  simp only [BC, CC, Nat.zero_add, Nat.reduceAdd, and_true] at hf
  go_wp2_with fail
  obtain ⟨S, hS⟩ : ∃ S : World → Prop, S = Own w [⟨g10, 35, [.bool hs, .slice A3 n3 c3, .slice B3 m3 e3]⟩, ⟨g9, 35, [.bool ls, .slice A1 n1 c1, .slice B1 m1 e1]⟩, ⟨ga, 35, [.bool s, .slice A l c, .slice B k d]⟩] [⟨B3, m3, e3, nd hD⟩, ⟨A3, n3, c3, nd hN⟩, ⟨B2, m2, e2, nd fD⟩, ⟨A2, n2, c2, nd fN⟩, ⟨B1, m1, e1, nd lD⟩, ⟨A1, n1, c1, nd lN⟩, ⟨B0, m0, e0, nd kD⟩, ⟨A0, n0, c0, nd kN⟩, ⟨B, k, d, nd D⟩, ⟨A, l, c, nd N⟩] := ⟨_, rfl⟩
  have hSE : ∀ w w', S w → Ext w w' → S w' := fun w w' h1 h2 => by rw [hS] at h1 ⊢; exact h1.ext h2
  have hS1 : S w13.drew := by rw [hS]; exact hO.ext (Ext.refl w13).drew
  have HS := Lib.hid hS
  clear hS hO hf
  obtain ⟨sp, hsp⟩ : ∃ sp : Nat → Sp, sp = ofList [det (.agg #[.bool s, .slice A l c, .slice B k d]), det (.agg #[.bool ls, .slice A1 n1 c1, .slice B1 m1 e1]),
    anyOf (fun v wz => ∃ A1 n1 c1 A2 n2 c2, v = .agg #[.bool q1, .slice A1 n1 c1, .slice A2 n2 c2] ∧ RatAt wz A1 n1 c1 A2 n2 c2 q1N q1D), det (.agg #[.bool hs, .slice A3 n3 c3, .slice B3 m3 e3]), det (.agg #[.bool s, .slice A l c, .slice B k d]),
    anyOf (fun v wz => ∃ A1 n1 c1 A2 n2 c2, v = .agg #[.bool q2, .slice A1 n1 c1, .slice A2 n2 c2] ∧ RatAt wz A1 n1 c1 A2 n2 c2 q2N q2D), det (.int .i64 cc)] := ⟨_, rfl⟩
  have HSP := Lib.hid hsp
  clear hsp
  refine wp_region_loose 7 S sp (by kernel_rfl) (by kernel_rfl) hS1 hSE ?_
  simp only [List.take_succ_cons, List.take_zero, List.drop_succ_cons, List.drop_zero]
  refine wpX_step (fun K hK => ?_)
  go_simp
  refine StepY.det (by rw [HSP.out]; rfl) ?_ ?_
  · intro wz hz hF
    rw [HS.out] at hz
    have hf := hz.cells
    simp only [BC, CC, Nat.zero_add, Nat.reduceAdd, and_true] at hf
    clear hz hF
    go_simp
    exact ⟨rfl, Ext.refl _⟩
  refine hK _ _ ?_
  clear hK K
  refine wpX_step (fun K hK => ?_)
  go_simp
  refine StepY.det (by rw [HSP.out]; rfl) ?_ ?_
  · intro wz hz hF
    rw [HS.out] at hz
    have hf := hz.cells
    simp only [BC, CC, Nat.zero_add, Nat.reduceAdd, and_true] at hf
    clear hz hF
    go_simp
    exact ⟨rfl, Ext.refl _⟩
  refine hK _ _ ?_
  clear hK K
  refine wpX_step (fun K hK => ?_)
  go_simp
  refine StepY.any (by rw [HSP.out]; rfl) ?_ ?_
  · intro wz hz hF
    clear hF
    rw [HS.out] at hz
    have h1 : RatAt wz _ _ _ _ _ _ _ _ := ⟨hz.wd 9 rfl, hz.wd 8 rfl⟩
    have h2 : RatAt wz _ _ _ _ _ _ _ _ := ⟨hz.wd 5 rfl, hz.wd 4 rfl⟩
    clear hz
    go_simp
    refine (HS1.out h1 h2).mono ?_
    rintro e w2 ⟨A3, n3, c3, A4, n4, c4, rfl, hW1, hW2, hE1⟩
    exact ⟨_, rfl, ⟨A3, n3, c3, A4, n4, c4, rfl, hW1, hW2⟩, hE1⟩
  intro v
  refine hK _ _ ?_
  clear hK K
  refine wpX_step (fun K hK => ?_)
  go_simp
  refine StepY.det (by rw [HSP.out]; rfl) ?_ ?_
  · intro wz hz hF
    rw [HS.out] at hz
    have hf := hz.cells
    simp only [BC, CC, Nat.zero_add, Nat.reduceAdd, and_true] at hf
    clear hz hF
    go_simp
    exact ⟨rfl, Ext.refl _⟩
  refine hK _ _ ?_
  clear hK K
  refine wpX_step (fun K hK => ?_)
  go_simp
  refine StepY.det (by rw [HSP.out]; rfl) ?_ ?_
  · intro wz hz hF
    rw [HS.out] at hz
    have hf := hz.cells
    simp only [BC, CC, Nat.zero_add, Nat.reduceAdd, and_true] at hf
    clear hz hF
    go_simp
    exact ⟨rfl, Ext.refl _⟩
  refine hK _ _ ?_
  clear hK K
  refine wpX_step (fun K hK => ?_)
  go_simp
  refine StepY.any (by rw [HSP.out]; rfl) ?_ ?_
  · intro wz hz hF
    clear hF
    rw [HS.out] at hz
    have h1 : RatAt wz _ _ _ _ _ _ _ _ := ⟨hz.wd 1 rfl, hz.wd 0 rfl⟩
    have h2 : RatAt wz _ _ _ _ _ _ _ _ := ⟨hz.wd 9 rfl, hz.wd 8 rfl⟩
    clear hz
    go_simp
    refine (HS2.out h1 h2).mono ?_
    rintro e w2 ⟨A3, n3, c3, A4, n4, c4, rfl, hW1, hW2, hE1⟩
    exact ⟨_, rfl, ⟨A3, n3, c3, A4, n4, c4, rfl, hW1, hW2⟩, hE1⟩
  intro v
  refine hK _ _ ?_
  clear hK K
  refine wpX_step (fun K hK => ?_)
  go_simp
  refine StepY.det (by rw [HSP.out]; rfl) ?_ ?_
  · intro wz hz hF
    obtain ⟨wa', ea, A5, n5, c5, A6, n6, c6, hv1, hw1⟩ := hF.any 2 (by kernel_rfl) (by rw [HSP.out]; rfl)
    obtain ⟨wb', eb, A7, n7, c7, A8, n8, c8, hv2, hw2⟩ := hF.any 5 (by kernel_rfl) (by rw [HSP.out]; rfl)
    clear hF
    simp only [asFun, List.nil_append, List.cons_append, List.getD_cons_succ, List.getD_cons_zero] at hv1 hv2
    subst hv1 hv2
    go_simp
    refine (HCM.out (hw1.ext ea) (hw2.ext eb)).mono ?_
    rintro e w2 ⟨rfl, hE1⟩
    exact ⟨_, rfl, rfl, hE1⟩
  refine hK _ _ ?_
  clear hK K
  refine wpX_nil ?_
  intro w14 hz hF
  clear hF
  rw [HS.out] at hz
  have hE := hz.toExt
  clear hz
  rcases hcc.out with rfl | ⟨rfl, hev⟩
  all_goals
    go_wp2
    go_ret
    exact ⟨by first | rfl | simp, hE⟩

end Go.Proofs.Ytmcfflecaklpcaa
