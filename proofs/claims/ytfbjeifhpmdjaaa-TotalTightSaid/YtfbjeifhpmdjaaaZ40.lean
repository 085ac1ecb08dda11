/-
  The contract of layer 4's about. Conditions: those that each theorem names.
-/
import Derived.Test.YtfbjeifhpmdjaaaZ27
import Derived.Test.YtfbjeifhpmdjaaaZ38
import Derived.Test.YtfbjeifhpmdjaaaZ39
import Derived.Test.YtfbjeifhpmdjaaaZ26
namespace Go.Proofs.Ytfbjeifhpmdjaaa
open Go.RowKit Nm Rn
set_option maxRecDepth 100000
set_option linter.unusedVariables false
set_option linter.unusedSimpArgs false

set_option maxHeartbeats 1000000 in
theorem step4_any (b : Nat) (w : World) (h : b < 18446744073709551616) : Calls Try.prog 62 #[.int .u64 (b : Int)] w fun e w' => e = .returned (.int .u64 (stepP b : Nat)) ∧ w = w' := by
  by_cases h1 : b = 9223372036854775809 ∨ b = 9223372036854775808
  · have e : stepP b = 0 := if_pos h1
    rw [e]
    rcases h1 with rfl | rfl
    · clear h e
      go_enter Try.func62, Try.ntmps62
      go_wp2
      go_ret
      exact ⟨rfl, rfl⟩
    · clear h e
      go_enter Try.func62, Try.ntmps62
      go_wp2
      go_ret
      exact ⟨rfl, rfl⟩
  · have n1 : ((b : Int) == 9223372036854775809) = false := by rw [beq_eq_false_iff_ne]; omega
    have n2 : ((b : Int) == 9223372036854775808) = false := by rw [beq_eq_false_iff_ne]; omega
    by_cases h2 : 9223372036854775808 < b
    · have e : stepP b = b - 1 := by unfold stepP; rw [if_neg h1, if_pos h2]
      have HF := Lib.hid (show ((b : Int) - 1) = ((b - 1 : Nat) : Int) by omega)
      rw [e]
      clear h1 e
      go_enter Try.func62, Try.ntmps62
      go_wp2
      go_ret
      exact ⟨ret_int HF.out, rfl⟩
    · have e : stepP b = b + 1 := by unfold stepP; rw [if_neg h1, if_neg h2]
      have HF := Lib.hid (show ((b : Int) + 1) = ((b + 1 : Nat) : Int) by omega)
      rw [e]
      clear h1 e
      go_enter Try.func62, Try.ntmps62
      go_wp2
      go_ret
      exact ⟨ret_int HF.out, rfl⟩


set_option maxHeartbeats 4000000 in
theorem about_eq (s : Bool) (A : Option Addr) (l c : Nat) (B : Option Addr) (k d N D : Nat) (LO : Nat) (w : World) (h : RatAt w A l c B k d N D) (f1 : ((LO : Int) == 9221120237041090561) = false) (f2 : ((LO : Int) == 9221120237041090561) = false) (f3 : ((LO : Int) == 9218868437227405312) = false) (f4 : ((LO : Int) == 18442240474082181120) = false) (f5 : ((LO : Int) == 9223372036854775808) = false) (f6 : ((LO : Int) == 9223372036854775808) = false)
    (ls : Bool) (lN lD : Nat) (HLO : Hid (∀ w, Calls Try.prog 22 #[.int .u64 (LO : Int)] w (RetR ls lN lD w))) (HFL : Hid (∀ w, Calls Try.prog 48 #[.int .u64 (LO : Int)] w fun e w' => e = .returned (.bool true) ∧ w = w')) (HR1 : Hid (∀ {A1 : Option Addr} {l1 c1 : Nat} {B1 : Option Addr} {k1 d1 : Nat} {w : World}, RatAt w A1 l1 c1 B1 k1 d1 lN lD → RatAt w A l c B k d N D → Calls Try.prog 61 #[.agg #[.bool ls, .slice A1 l1 c1, .slice B1 k1 d1], .agg #[.bool s, .slice A l c, .slice B k d]] w fun e w' => e = .returned (.int .i64 0) ∧ Ext w w')) :
    Calls Try.prog 26 #[.agg #[.bool s, .slice A l c, .slice B k d], .int .u64 (LO : Int), .int .u64 (LO : Int)] w fun e w' => e = .returned (.bool true) ∧ Ext w w' := by
  have hO := ((Own.start w).add h.1).add h.2
  have hf : True := trivial
  clear h
  go_enter Try.func26, Try.ntmps26
  go_upto_region 4 with ((with_reducible refine at_box ?_); refine own_box (cs := [.bool s, .slice A l c, .slice B k d]) hO rfl rfl ?_; clear hO; intro ga wa hO; clear hf; have hf := hO.cells; simp only [BC, CC, Nat.zero_add, Nat.reduceAdd, and_true] at hf)
  obtain ⟨S, hS⟩ : ∃ S : World → Prop, S = Own w [⟨ga, 43, [.bool s, .slice A l c, .slice B k d]⟩] [⟨B, k, d, nd D⟩, ⟨A, l, c, nd N⟩] := ⟨_, rfl⟩
  have hSE : ∀ w w', S w → Ext w w' → S w' := fun w w' h1 h2 => by rw [hS] at h1 ⊢; exact h1.ext h2
  have hS1 : S wa.drew := by rw [hS]; exact hO.ext (Ext.refl wa).drew
  have HS := Lib.hid hS
  clear hS hO hf
  obtain ⟨sp, hsp⟩ : ∃ sp : Nat → Sp, sp = ofList [det (.int .u64 (LO : Int)), det (.bool true), det (.bool true), det (.int .u64 (LO : Int)), anyOf (fun v wz => ∃ A1 n1 c1 A2 n2 c2, v = .agg #[.bool ls, .slice A1 n1 c1, .slice A2 n2 c2] ∧ RatAt wz A1 n1 c1 A2 n2 c2 lN lD), det (.agg #[.bool s, .slice A l c, .slice B k d]), det (.int .i64 0)] := ⟨_, rfl⟩
  have HSP := Lib.hid hsp
  clear hsp
  refine wp_region_loose 7 S sp (by kernel_rfl) (by kernel_rfl) hS1 hSE ?_
  simp only [List.take_succ_cons, List.take_zero, List.drop_succ_cons, List.drop_zero]
  refine wpX_step (fun K hK => ?_)
  go_simp
  refine StepY.det (by rw [HSP.out]; rfl) ?_ ?_
  · intro wz hz hF
    clear hz hF
    go_simp
    exact ⟨rfl, Ext.refl _⟩
  refine hK _ _ ?_
  clear hK K
  refine wpX_step (fun K hK => ?_)
  go_simp
  refine StepY.det (by rw [HSP.out]; rfl) ?_ ?_
  · intro wz hz hF
    clear hz hF
    go_simp
    refine (HFL.out _).mono ?_
    rintro e w5 ⟨rfl, rfl⟩
    exact ⟨_, rfl, rfl, Ext.refl _⟩
  refine hK _ _ ?_
  clear hK K
  iterate 2
    refine wpX_step (fun K hK => ?_)
    go_simp
    refine StepY.det (by rw [HSP.out]; rfl) ?_ ?_
    · intro wz hz hF
      clear hz hF
      go_simp
      exact ⟨rfl, Ext.refl _⟩
    refine hK _ _ ?_
    clear hK K
  refine wpX_step (fun K hK => ?_)
  go_simp
  refine StepY.any (by rw [HSP.out]; rfl) ?_ ?_
  · intro wz hz hF
    clear hz hF
    go_simp
    refine (HLO.out _).mono ?_
    rintro e w2 ⟨A3, n3, c3, A4, n4, c4, rfl, hW1, hW2, hE1⟩
    exact ⟨_, rfl, ⟨A3, n3, c3, A4, n4, c4, rfl, hW1, hW2⟩, hE1⟩
  intro v1
  refine hK _ _ ?_
  clear hK K
  refine wpX_step (fun K hK => ?_)
  go_simp
  refine StepY.det (by rw [HSP.out]; rfl) ?_ ?_
  · intro wz hz hF
    rw [HS.out] at hz
    have hf := hz.cells
    simp only [BC, CC, Nat.zero_add, Nat.reduceAdd, and_true] at hf
    clear hz hF
    go_simp
    exact ⟨rfl, Ext.refl _⟩
  refine hK _ _ ?_
  clear hK K
  refine wpX_step (fun K hK => ?_)
  go_simp
  refine StepY.det (by rw [HSP.out]; rfl) ?_ ?_
  · intro wz hz hF
    obtain ⟨wa', ea, A5, n5, c5, A6, n6, c6, hv1, hw1⟩ := hF.any 4 (by kernel_rfl) (by rw [HSP.out]; rfl)
    rw [HS.out] at hz
    have hR : RatAt wz _ _ _ _ _ _ _ _ := ⟨hz.wd 1 rfl, hz.wd 0 rfl⟩
    clear hz hF
    simp only [asFun, List.nil_append, List.cons_append, List.getD_cons_succ, List.getD_cons_zero] at hv1
    subst hv1
    go_simp
    refine (HR1.out (hw1.ext ea) hR).mono ?_
    rintro e w2 ⟨rfl, hE1⟩
    exact ⟨_, rfl, rfl, hE1⟩
  refine hK _ _ ?_
  clear hK K
  refine wpX_nil ?_
  intro wq hz hF
  clear hF
  rw [HS.out] at hz
  have hO := hz
  clear hz HS HSP
  have hf := hO.cells
  simp only [BC, CC, Nat.zero_add, Nat.reduceAdd, and_true] at hf
  go_wp2_with fail
  go_ret
  exact ⟨rfl, hO.toExt⟩

set_option maxHeartbeats 4000000 in
theorem about_11 (s : Bool) (A : Option Addr) (l c : Nat) (B : Option Addr) (k d N D : Nat) (LO HI : Nat) (w : World) (h : RatAt w A l c B k d N D) (f1 : ((LO : Int) == 9221120237041090561) = false) (f2 : ((HI : Int) == 9221120237041090561) = false) (f3 : ((LO : Int) == 9218868437227405312) = false) (f4 : ((HI : Int) == 18442240474082181120) = false) (f5 : ((LO : Int) == 9223372036854775808) = false) (f6 : ((HI : Int) == 9223372036854775808) = false) (f7 : ((LO : Int) == (HI : Int)) = false)
    (HSTP : Hid (∀ w, Calls Try.prog 62 #[.int .u64 (LO : Int)] w fun e w' => e = .returned (.int .u64 (HI : Int)) ∧ w = w')) (HFL : Hid (∀ w, Calls Try.prog 48 #[.int .u64 (LO : Int)] w fun e w' => e = .returned (.bool true) ∧ w = w')) (HFH : Hid (∀ w, Calls Try.prog 48 #[.int .u64 (HI : Int)] w fun e w' => e = .returned (.bool true) ∧ w = w')) (ls : Bool) (lN lD : Nat) (HLO : Hid (∀ w, Calls Try.prog 22 #[.int .u64 (LO : Int)] w (RetR ls lN lD w))) (HR1 : Hid (∀ {A1 : Option Addr} {l1 c1 : Nat} {B1 : Option Addr} {k1 d1 : Nat} {w : World}, RatAt w A1 l1 c1 B1 k1 d1 lN lD → RatAt w A l c B k d N D → Calls Try.prog 61 #[.agg #[.bool ls, .slice A1 l1 c1, .slice B1 k1 d1], .agg #[.bool s, .slice A l c, .slice B k d]] w fun e w' => e = .returned (.int .i64 (-1)) ∧ Ext w w')) (hs : Bool) (hN hD : Nat) (HHI : Hid (∀ w, Calls Try.prog 22 #[.int .u64 (HI : Int)] w (RetR hs hN hD w))) (HR2 : Hid (∀ {A1 : Option Addr} {l1 c1 : Nat} {B1 : Option Addr} {k1 d1 : Nat} {w : World}, RatAt w A l c B k d N D → RatAt w A1 l1 c1 B1 k1 d1 hN hD → Calls Try.prog 61 #[.agg #[.bool s, .slice A l c, .slice B k d], .agg #[.bool hs, .slice A1 l1 c1, .slice B1 k1 d1]] w fun e w' => e = .returned (.int .i64 (-1)) ∧ Ext w w')) :
    Calls Try.prog 26 #[.agg #[.bool s, .slice A l c, .slice B k d], .int .u64 (LO : Int), .int .u64 (HI : Int)] w fun e w' => e = .returned (.bool true) ∧ Ext w w' := by
  have hO := ((Own.start w).add h.1).add h.2
  have hf : True := trivial
  clear h
  go_enter Try.func26, Try.ntmps26
  go_upto_region 7 with (first | ((with_reducible refine at_box ?_); refine own_box (cs := [.bool s, .slice A l c, .slice B k d]) hO rfl rfl ?_; clear hO; intro ga wa hO; clear hf; have hf := hO.cells; simp only [BC, CC, Nat.zero_add, Nat.reduceAdd, and_true] at hf) | (go_at_call 62; (with_reducible refine (HSTP.out _).mono ?_); rintro e w2 ⟨rfl, rfl⟩))
  obtain ⟨S, hS⟩ : ∃ S : World → Prop, S = Own w [⟨ga, 43, [.bool s, .slice A l c, .slice B k d]⟩] [⟨B, k, d, nd D⟩, ⟨A, l, c, nd N⟩] := ⟨_, rfl⟩
  have hSE : ∀ w w', S w → Ext w w' → S w' := fun w w' h1 h2 => by rw [hS] at h1 ⊢; exact h1.ext h2
  have hS1 : S wa.drew := by rw [hS]; exact hO.ext (Ext.refl wa).drew
  have HS := Lib.hid hS
  clear hS hO hf
  obtain ⟨sp, hsp⟩ : ∃ sp : Nat → Sp, sp = ofList [det (.int .u64 (LO : Int)), det (.bool true), det (.bool false), det (.bool false), det (.int .u64 (LO : Int)), anyOf (fun v wz => ∃ A1 n1 c1 A2 n2 c2, v = .agg #[.bool ls, .slice A1 n1 c1, .slice A2 n2 c2] ∧ RatAt wz A1 n1 c1 A2 n2 c2 lN lD), det (.agg #[.bool s, .slice A l c, .slice B k d]), det (.int .i64 (-1)), det (.bool true), det (.bool true), det (.bool true), det (.int .u64 (HI : Int)), det (.bool true), det (.bool false), det (.bool false), det (.agg #[.bool s, .slice A l c, .slice B k d]), det (.int .u64 (HI : Int)), anyOf (fun v wz => ∃ A1 n1 c1 A2 n2 c2, v = .agg #[.bool hs, .slice A1 n1 c1, .slice A2 n2 c2] ∧ RatAt wz A1 n1 c1 A2 n2 c2 hN hD), det (.int .i64 (-1))] := ⟨_, rfl⟩
  have HSP := Lib.hid hsp
  clear hsp
  refine wp_region_loose 19 S sp (by kernel_rfl) (by kernel_rfl) hS1 hSE ?_
  simp only [List.take_succ_cons, List.take_zero, List.drop_succ_cons, List.drop_zero]
  refine wpX_step (fun K hK => ?_)
  go_simp
  refine StepY.det (by rw [HSP.out]; rfl) ?_ ?_
  · intro wz hz hF
    clear hz hF
    go_simp
    exact ⟨rfl, Ext.refl _⟩
  refine hK _ _ ?_
  clear hK K
  refine wpX_step (fun K hK => ?_)
  go_simp
  refine StepY.det (by rw [HSP.out]; rfl) ?_ ?_
  · intro wz hz hF
    clear hz hF
    go_simp
    refine (HFL.out _).mono ?_
    rintro e w5 ⟨rfl, rfl⟩
    exact ⟨_, rfl, rfl, Ext.refl _⟩
  refine hK _ _ ?_
  clear hK K
  iterate 3
    refine wpX_step (fun K hK => ?_)
    go_simp
    refine StepY.det (by rw [HSP.out]; rfl) ?_ ?_
    · intro wz hz hF
      clear hz hF
      go_simp
      exact ⟨rfl, Ext.refl _⟩
    refine hK _ _ ?_
    clear hK K
  refine wpX_step (fun K hK => ?_)
  go_simp
  refine StepY.any (by rw [HSP.out]; rfl) ?_ ?_
  · intro wz hz hF
    clear hz hF
    go_simp
    refine (HLO.out _).mono ?_
    rintro e w2 ⟨A3, n3, c3, A4, n4, c4, rfl, hW1, hW2, hE1⟩
    exact ⟨_, rfl, ⟨A3, n3, c3, A4, n4, c4, rfl, hW1, hW2⟩, hE1⟩
  intro v1
  refine hK _ _ ?_
  clear hK K
  refine wpX_step (fun K hK => ?_)
  go_simp
  refine StepY.det (by rw [HSP.out]; rfl) ?_ ?_
  · intro wz hz hF
    rw [HS.out] at hz
    have hf := hz.cells
    simp only [BC, CC, Nat.zero_add, Nat.reduceAdd, and_true] at hf
    clear hz hF
    go_simp
    exact ⟨rfl, Ext.refl _⟩
  refine hK _ _ ?_
  clear hK K
  refine wpX_step (fun K hK => ?_)
  go_simp
  refine StepY.det (by rw [HSP.out]; rfl) ?_ ?_
  · intro wz hz hF
    obtain ⟨wa', ea, A5, n5, c5, A6, n6, c6, hv1, hw1⟩ := hF.any 5 (by kernel_rfl) (by rw [HSP.out]; rfl)
    rw [HS.out] at hz
    have hR : RatAt wz _ _ _ _ _ _ _ _ := ⟨hz.wd 1 rfl, hz.wd 0 rfl⟩
    clear hz hF
    simp only [asFun, List.nil_append, List.cons_append, List.getD_cons_succ, List.getD_cons_zero] at hv1
    subst hv1
    go_simp
    refine (HR1.out (hw1.ext ea) hR).mono ?_
    rintro e w2 ⟨rfl, hE1⟩
    exact ⟨_, rfl, rfl, hE1⟩
  refine hK _ _ ?_
  clear hK K
  iterate 4
    refine wpX_step (fun K hK => ?_)
    go_simp
    refine StepY.det (by rw [HSP.out]; rfl) ?_ ?_
    · intro wz hz hF
      clear hz hF
      go_simp
      exact ⟨rfl, Ext.refl _⟩
    refine hK _ _ ?_
    clear hK K
  refine wpX_step (fun K hK => ?_)
  go_simp
  refine StepY.det (by rw [HSP.out]; rfl) ?_ ?_
  · intro wz hz hF
    clear hz hF
    go_simp
    refine (HFH.out _).mono ?_
    rintro e w5 ⟨rfl, rfl⟩
    exact ⟨_, rfl, rfl, Ext.refl _⟩
  refine hK _ _ ?_
  clear hK K
  iterate 4
    refine wpX_step (fun K hK => ?_)
    go_simp
    refine StepY.det (by rw [HSP.out]; rfl) ?_ ?_
    · intro wz hz hF
      rw [HS.out] at hz
      have hf := hz.cells
      simp only [BC, CC, Nat.zero_add, Nat.reduceAdd, and_true] at hf
      clear hz hF
      go_simp
      exact ⟨rfl, Ext.refl _⟩
    refine hK _ _ ?_
    clear hK K
  refine wpX_step (fun K hK => ?_)
  go_simp
  refine StepY.any (by rw [HSP.out]; rfl) ?_ ?_
  · intro wz hz hF
    clear hz hF
    go_simp
    refine (HHI.out _).mono ?_
    rintro e w2 ⟨A3, n3, c3, A4, n4, c4, rfl, hW1, hW2, hE1⟩
    exact ⟨_, rfl, ⟨A3, n3, c3, A4, n4, c4, rfl, hW1, hW2⟩, hE1⟩
  intro v2
  refine hK _ _ ?_
  clear hK K
  refine wpX_step (fun K hK => ?_)
  go_simp
  refine StepY.det (by rw [HSP.out]; rfl) ?_ ?_
  · intro wz hz hF
    obtain ⟨wa', ea, A5, n5, c5, A6, n6, c6, hv1, hw1⟩ := hF.any 17 (by kernel_rfl) (by rw [HSP.out]; rfl)
    rw [HS.out] at hz
    have hR : RatAt wz _ _ _ _ _ _ _ _ := ⟨hz.wd 1 rfl, hz.wd 0 rfl⟩
    clear hz hF
    simp only [asFun, List.nil_append, List.cons_append, List.getD_cons_succ, List.getD_cons_zero] at hv1
    subst hv1
    go_simp
    refine (HR2.out hR (hw1.ext ea)).mono ?_
    rintro e w2 ⟨rfl, hE1⟩
    exact ⟨_, rfl, rfl, hE1⟩
  refine hK _ _ ?_
  clear hK K
  refine wpX_nil ?_
  intro wq hz hF
  clear hF
  rw [HS.out] at hz
  have hO := hz
  clear hz HS HSP
  have hf := hO.cells
  simp only [BC, CC, Nat.zero_add, Nat.reduceAdd, and_true] at hf
  go_wp2_with fail
  go_ret
  exact ⟨rfl, hO.toExt⟩

set_option maxHeartbeats 4000000 in
theorem about_10 (s : Bool) (A : Option Addr) (l c : Nat) (B : Option Addr) (k d N D : Nat) (LO HI : Nat) (w : World) (h : RatAt w A l c B k d N D) (f1 : ((LO : Int) == 9221120237041090561) = false) (f2 : ((HI : Int) == 9221120237041090561) = false) (f3 : ((LO : Int) == 9218868437227405312) = false) (f4 : ((HI : Int) == 18442240474082181120) = false) (f5 : ((LO : Int) == 9223372036854775808) = false) (f6 : ((HI : Int) == 9223372036854775808) = false) (f7 : ((LO : Int) == (HI : Int)) = false)
    (HSTP : Hid (∀ w, Calls Try.prog 62 #[.int .u64 (LO : Int)] w fun e w' => e = .returned (.int .u64 (HI : Int)) ∧ w = w')) (HFL : Hid (∀ w, Calls Try.prog 48 #[.int .u64 (LO : Int)] w fun e w' => e = .returned (.bool true) ∧ w = w')) (HFH : Hid (∀ w, Calls Try.prog 48 #[.int .u64 (HI : Int)] w fun e w' => e = .returned (.bool false) ∧ w = w')) (ls : Bool) (lN lD : Nat) (HLO : Hid (∀ w, Calls Try.prog 22 #[.int .u64 (LO : Int)] w (RetR ls lN lD w))) (HR1 : Hid (∀ {A1 : Option Addr} {l1 c1 : Nat} {B1 : Option Addr} {k1 d1 : Nat} {w : World}, RatAt w A1 l1 c1 B1 k1 d1 lN lD → RatAt w A l c B k d N D → Calls Try.prog 61 #[.agg #[.bool ls, .slice A1 l1 c1, .slice B1 k1 d1], .agg #[.bool s, .slice A l c, .slice B k d]] w fun e w' => e = .returned (.int .i64 (-1)) ∧ Ext w w')) :
    Calls Try.prog 26 #[.agg #[.bool s, .slice A l c, .slice B k d], .int .u64 (LO : Int), .int .u64 (HI : Int)] w fun e w' => e = .returned (.bool true) ∧ Ext w w' := by
  have hO := ((Own.start w).add h.1).add h.2
  have hf : True := trivial
  clear h
  go_enter Try.func26, Try.ntmps26
  go_upto_region 7 with (first | ((with_reducible refine at_box ?_); refine own_box (cs := [.bool s, .slice A l c, .slice B k d]) hO rfl rfl ?_; clear hO; intro ga wa hO; clear hf; have hf := hO.cells; simp only [BC, CC, Nat.zero_add, Nat.reduceAdd, and_true] at hf) | (go_at_call 62; (with_reducible refine (HSTP.out _).mono ?_); rintro e w2 ⟨rfl, rfl⟩))
  obtain ⟨S, hS⟩ : ∃ S : World → Prop, S = Own w [⟨ga, 43, [.bool s, .slice A l c, .slice B k d]⟩] [⟨B, k, d, nd D⟩, ⟨A, l, c, nd N⟩] := ⟨_, rfl⟩
  have hSE : ∀ w w', S w → Ext w w' → S w' := fun w w' h1 h2 => by rw [hS] at h1 ⊢; exact h1.ext h2
  have hS1 : S wa.drew := by rw [hS]; exact hO.ext (Ext.refl wa).drew
  have HS := Lib.hid hS
  clear hS hO hf
  obtain ⟨sp, hsp⟩ : ∃ sp : Nat → Sp, sp = ofList [det (.int .u64 (LO : Int)), det (.bool true), det (.bool false), det (.bool false), det (.int .u64 (LO : Int)), anyOf (fun v wz => ∃ A1 n1 c1 A2 n2 c2, v = .agg #[.bool ls, .slice A1 n1 c1, .slice A2 n2 c2] ∧ RatAt wz A1 n1 c1 A2 n2 c2 lN lD), det (.agg #[.bool s, .slice A l c, .slice B k d]), det (.int .i64 (-1)), det (.bool true), det (.bool true), det (.bool true), det (.int .u64 (HI : Int)), det (.bool false), det (.bool true), det (.bool true), det undef, det undef, det undef, det undef] := ⟨_, rfl⟩
  have HSP := Lib.hid hsp
  clear hsp
  refine wp_region_loose 19 S sp (by kernel_rfl) (by kernel_rfl) hS1 hSE ?_
  simp only [List.take_succ_cons, List.take_zero, List.drop_succ_cons, List.drop_zero]
  refine wpX_step (fun K hK => ?_)
  go_simp
  refine StepY.det (by rw [HSP.out]; rfl) ?_ ?_
  · intro wz hz hF
    clear hz hF
    go_simp
    exact ⟨rfl, Ext.refl _⟩
  refine hK _ _ ?_
  clear hK K
  refine wpX_step (fun K hK => ?_)
  go_simp
  refine StepY.det (by rw [HSP.out]; rfl) ?_ ?_
  · intro wz hz hF
    clear hz hF
    go_simp
    refine (HFL.out _).mono ?_
    rintro e w5 ⟨rfl, rfl⟩
    exact ⟨_, rfl, rfl, Ext.refl _⟩
  refine hK _ _ ?_
  clear hK K
  iterate 3
    refine wpX_step (fun K hK => ?_)
    go_simp
    refine StepY.det (by rw [HSP.out]; rfl) ?_ ?_
    · intro wz hz hF
      clear hz hF
      go_simp
      exact ⟨rfl, Ext.refl _⟩
    refine hK _ _ ?_
    clear hK K
  refine wpX_step (fun K hK => ?_)
  go_simp
  refine StepY.any (by rw [HSP.out]; rfl) ?_ ?_
  · intro wz hz hF
    clear hz hF
    go_simp
    refine (HLO.out _).mono ?_
    rintro e w2 ⟨A3, n3, c3, A4, n4, c4, rfl, hW1, hW2, hE1⟩
    exact ⟨_, rfl, ⟨A3, n3, c3, A4, n4, c4, rfl, hW1, hW2⟩, hE1⟩
  intro v1
  refine hK _ _ ?_
  clear hK K
  refine wpX_step (fun K hK => ?_)
  go_simp
  refine StepY.det (by rw [HSP.out]; rfl) ?_ ?_
  · intro wz hz hF
    rw [HS.out] at hz
    have hf := hz.cells
    simp only [BC, CC, Nat.zero_add, Nat.reduceAdd, and_true] at hf
    clear hz hF
    go_simp
    exact ⟨rfl, Ext.refl _⟩
  refine hK _ _ ?_
  clear hK K
  refine wpX_step (fun K hK => ?_)
  go_simp
  refine StepY.det (by rw [HSP.out]; rfl) ?_ ?_
  · intro wz hz hF
    obtain ⟨wa', ea, A5, n5, c5, A6, n6, c6, hv1, hw1⟩ := hF.any 5 (by kernel_rfl) (by rw [HSP.out]; rfl)
    rw [HS.out] at hz
    have hR : RatAt wz _ _ _ _ _ _ _ _ := ⟨hz.wd 1 rfl, hz.wd 0 rfl⟩
    clear hz hF
    simp only [asFun, List.nil_append, List.cons_append, List.getD_cons_succ, List.getD_cons_zero] at hv1
    subst hv1
    go_simp
    refine (HR1.out (hw1.ext ea) hR).mono ?_
    rintro e w2 ⟨rfl, hE1⟩
    exact ⟨_, rfl, rfl, hE1⟩
  refine hK _ _ ?_
  clear hK K
  iterate 4
    refine wpX_step (fun K hK => ?_)
    go_simp
    refine StepY.det (by rw [HSP.out]; rfl) ?_ ?_
    · intro wz hz hF
      clear hz hF
      go_simp
      exact ⟨rfl, Ext.refl _⟩
    refine hK _ _ ?_
    clear hK K
  refine wpX_step (fun K hK => ?_)
  go_simp
  refine StepY.det (by rw [HSP.out]; rfl) ?_ ?_
  · intro wz hz hF
    clear hz hF
    go_simp
    refine (HFH.out _).mono ?_
    rintro e w5 ⟨rfl, rfl⟩
    exact ⟨_, rfl, rfl, Ext.refl _⟩
  refine hK _ _ ?_
  clear hK K
  iterate 6
    refine wpX_step (fun K hK => ?_)
    go_simp
    first
    | refine ⟨by rw [HSP.out]; rfl, hK _ _ ?_⟩
      clear hK K
    | refine StepY.det (by rw [HSP.out]; rfl) ?_ ?_
      · intro wz hz hF
        clear hz hF
        go_simp
        exact ⟨rfl, Ext.refl _⟩
      refine hK _ _ ?_
      clear hK K
  refine wpX_nil ?_
  intro wq hz hF
  clear hF
  rw [HS.out] at hz
  have hO := hz
  clear hz HS HSP
  have hf := hO.cells
  simp only [BC, CC, Nat.zero_add, Nat.reduceAdd, and_true] at hf
  go_wp2_with fail
  go_ret
  exact ⟨rfl, hO.toExt⟩

set_option maxHeartbeats 4000000 in
theorem about_01 (s : Bool) (A : Option Addr) (l c : Nat) (B : Option Addr) (k d N D : Nat) (LO HI : Nat) (w : World) (h : RatAt w A l c B k d N D) (f1 : ((LO : Int) == 9221120237041090561) = false) (f2 : ((HI : Int) == 9221120237041090561) = false) (f3 : ((LO : Int) == 9218868437227405312) = false) (f4 : ((HI : Int) == 18442240474082181120) = false) (f5 : ((LO : Int) == 9223372036854775808) = false) (f6 : ((HI : Int) == 9223372036854775808) = false) (f7 : ((LO : Int) == (HI : Int)) = false)
    (HSTP : Hid (∀ w, Calls Try.prog 62 #[.int .u64 (LO : Int)] w fun e w' => e = .returned (.int .u64 (HI : Int)) ∧ w = w')) (HFL : Hid (∀ w, Calls Try.prog 48 #[.int .u64 (LO : Int)] w fun e w' => e = .returned (.bool false) ∧ w = w')) (HFH : Hid (∀ w, Calls Try.prog 48 #[.int .u64 (HI : Int)] w fun e w' => e = .returned (.bool true) ∧ w = w')) (hs : Bool) (hN hD : Nat) (HHI : Hid (∀ w, Calls Try.prog 22 #[.int .u64 (HI : Int)] w (RetR hs hN hD w))) (HR2 : Hid (∀ {A1 : Option Addr} {l1 c1 : Nat} {B1 : Option Addr} {k1 d1 : Nat} {w : World}, RatAt w A l c B k d N D → RatAt w A1 l1 c1 B1 k1 d1 hN hD → Calls Try.prog 61 #[.agg #[.bool s, .slice A l c, .slice B k d], .agg #[.bool hs, .slice A1 l1 c1, .slice B1 k1 d1]] w fun e w' => e = .returned (.int .i64 (-1)) ∧ Ext w w')) :
    Calls Try.prog 26 #[.agg #[.bool s, .slice A l c, .slice B k d], .int .u64 (LO : Int), .int .u64 (HI : Int)] w fun e w' => e = .returned (.bool true) ∧ Ext w w' := by
  have hO := ((Own.start w).add h.1).add h.2
  have hf : True := trivial
  clear h
  go_enter Try.func26, Try.ntmps26
  go_upto_region 7 with (first | ((with_reducible refine at_box ?_); refine own_box (cs := [.bool s, .slice A l c, .slice B k d]) hO rfl rfl ?_; clear hO; intro ga wa hO; clear hf; have hf := hO.cells; simp only [BC, CC, Nat.zero_add, Nat.reduceAdd, and_true] at hf) | (go_at_call 62; (with_reducible refine (HSTP.out _).mono ?_); rintro e w2 ⟨rfl, rfl⟩))
  obtain ⟨S, hS⟩ : ∃ S : World → Prop, S = Own w [⟨ga, 43, [.bool s, .slice A l c, .slice B k d]⟩] [⟨B, k, d, nd D⟩, ⟨A, l, c, nd N⟩] := ⟨_, rfl⟩
  have hSE : ∀ w w', S w → Ext w w' → S w' := fun w w' h1 h2 => by rw [hS] at h1 ⊢; exact h1.ext h2
  have hS1 : S wa.drew := by rw [hS]; exact hO.ext (Ext.refl wa).drew
  have HS := Lib.hid hS
  clear hS hO hf
  obtain ⟨sp, hsp⟩ : ∃ sp : Nat → Sp, sp = ofList [det (.int .u64 (LO : Int)), det (.bool false), det (.bool true), det (.bool true), det undef, det undef, det undef, det undef, det undef, det (.bool true), det (.bool true), det (.int .u64 (HI : Int)), det (.bool true), det (.bool false), det (.bool false), det (.agg #[.bool s, .slice A l c, .slice B k d]), det (.int .u64 (HI : Int)), anyOf (fun v wz => ∃ A1 n1 c1 A2 n2 c2, v = .agg #[.bool hs, .slice A1 n1 c1, .slice A2 n2 c2] ∧ RatAt wz A1 n1 c1 A2 n2 c2 hN hD), det (.int .i64 (-1))] := ⟨_, rfl⟩
  have HSP := Lib.hid hsp
  clear hsp
  refine wp_region_loose 19 S sp (by kernel_rfl) (by kernel_rfl) hS1 hSE ?_
  simp only [List.take_succ_cons, List.take_zero, List.drop_succ_cons, List.drop_zero]
  refine wpX_step (fun K hK => ?_)
  go_simp
  refine StepY.det (by rw [HSP.out]; rfl) ?_ ?_
  · intro wz hz hF
    clear hz hF
    go_simp
    exact ⟨rfl, Ext.refl _⟩
  refine hK _ _ ?_
  clear hK K
  refine wpX_step (fun K hK => ?_)
  go_simp
  refine StepY.det (by rw [HSP.out]; rfl) ?_ ?_
  · intro wz hz hF
    clear hz hF
    go_simp
    refine (HFL.out _).mono ?_
    rintro e w5 ⟨rfl, rfl⟩
    exact ⟨_, rfl, rfl, Ext.refl _⟩
  refine hK _ _ ?_
  clear hK K
  iterate 10
    refine wpX_step (fun K hK => ?_)
    go_simp
    first
    | refine ⟨by rw [HSP.out]; rfl, hK _ _ ?_⟩
      clear hK K
    | refine StepY.det (by rw [HSP.out]; rfl) ?_ ?_
      · intro wz hz hF
        clear hz hF
        go_simp
        exact ⟨rfl, Ext.refl _⟩
      refine hK _ _ ?_
      clear hK K
  refine wpX_step (fun K hK => ?_)
  go_simp
  refine StepY.det (by rw [HSP.out]; rfl) ?_ ?_
  · intro wz hz hF
    clear hz hF
    go_simp
    refine (HFH.out _).mono ?_
    rintro e w5 ⟨rfl, rfl⟩
    exact ⟨_, rfl, rfl, Ext.refl _⟩
  refine hK _ _ ?_
  clear hK K
  iterate 4
    refine wpX_step (fun K hK => ?_)
    go_simp
    refine StepY.det (by rw [HSP.out]; rfl) ?_ ?_
    · intro wz hz hF
      rw [HS.out] at hz
      have hf := hz.cells
      simp only [BC, CC, Nat.zero_add, Nat.reduceAdd, and_true] at hf
      clear hz hF
      go_simp
      exact ⟨rfl, Ext.refl _⟩
    refine hK _ _ ?_
    clear hK K
  refine wpX_step (fun K hK => ?_)
  go_simp
  refine StepY.any (by rw [HSP.out]; rfl) ?_ ?_
  · intro wz hz hF
    clear hz hF
    go_simp
    refine (HHI.out _).mono ?_
    rintro e w2 ⟨A3, n3, c3, A4, n4, c4, rfl, hW1, hW2, hE1⟩
    exact ⟨_, rfl, ⟨A3, n3, c3, A4, n4, c4, rfl, hW1, hW2⟩, hE1⟩
  intro v1
  refine hK _ _ ?_
  clear hK K
  refine wpX_step (fun K hK => ?_)
  go_simp
  refine StepY.det (by rw [HSP.out]; rfl) ?_ ?_
  · intro wz hz hF
    obtain ⟨wa', ea, A5, n5, c5, A6, n6, c6, hv1, hw1⟩ := hF.any 17 (by kernel_rfl) (by rw [HSP.out]; rfl)
    rw [HS.out] at hz
    have hR : RatAt wz _ _ _ _ _ _ _ _ := ⟨hz.wd 1 rfl, hz.wd 0 rfl⟩
    clear hz hF
    simp only [asFun, List.nil_append, List.cons_append, List.getD_cons_succ, List.getD_cons_zero] at hv1
    subst hv1
    go_simp
    refine (HR2.out hR (hw1.ext ea)).mono ?_
    rintro e w2 ⟨rfl, hE1⟩
    exact ⟨_, rfl, rfl, hE1⟩
  refine hK _ _ ?_
  clear hK K
  refine wpX_nil ?_
  intro wq hz hF
  clear hF
  rw [HS.out] at hz
  have hO := hz
  clear hz HS HSP
  have hf := hO.cells
  simp only [BC, CC, Nat.zero_add, Nat.reduceAdd, and_true] at hf
  go_wp2_with fail
  go_ret
  exact ⟨rfl, hO.toExt⟩

theorem cmpI_lt {a b : Int} (h : a < b) : cmpI a b = -1 := if_pos h
theorem cmpI_eq0 {a b : Int} (h : a = b) : cmpI a b = 0 := by unfold cmpI; rw [if_neg (by omega), if_neg (by omega)]
theorem fin_dec {b : Nat} (h : mg b ≤ infR) : (!decide (b / 4503599627370496 % 2048 = 2047)) = decide (mg b < infR) := by
  rw [infR_val] at h ⊢
  unfold mg at h ⊢
  rw [Bool.eq_iff_iff]
  simp
  omega
theorem about_any (s : Bool) (A : Option Addr) (l c : Nat) (B : Option Addr) (k d N D : Nat) (LO HI NE : Nat) (w : World) (h : RatAt w A l c B k d N D) (hD : 0 < D) (hT : Tg (sn s N * (K74 : Int)) (D : Int) LO HI NE) (bN : nw N ≤ 1000000) (bD : nw D ≤ 1000000) :
    Calls Try.prog 26 #[.agg #[.bool s, .slice A l c, .slice B k d], .int .u64 (LO : Int), .int .u64 (HI : Int)] w fun e w' => e = .returned (.bool true) ∧ Ext w w' := by
  obtain ⟨l1, h1, n1, l2, h2, l3, h3, l4, h4, hor⟩ := hT
  have hiv := infR_val
  have hmv := minf_val
  have f1 : ((LO : Int) == 9221120237041090561) = false := by rw [beq_eq_false_iff_ne]; intro e; have : LO = 9221120237041090561 := by omega
                                                              rw [this] at l2; revert l2; decide
  have f2 : ((HI : Int) == 9221120237041090561) = false := by rw [beq_eq_false_iff_ne]; intro e; have : HI = 9221120237041090561 := by omega
                                                              rw [this] at h2; revert h2; decide
  have f3 : ((LO : Int) == 9218868437227405312) = false := by rw [beq_eq_false_iff_ne]; omega
  have f4 : ((HI : Int) == 18442240474082181120) = false := by rw [beq_eq_false_iff_ne]; omega
  have f5 : ((LO : Int) == 9223372036854775808) = false := by rw [beq_eq_false_iff_ne]; omega
  have f6 : ((HI : Int) == 9223372036854775808) = false := by rw [beq_eq_false_iff_ne]; omega
  have HFL : ∀ w, Calls Try.prog 48 #[.int .u64 (LO : Int)] w fun e w' => e = .returned (.bool (decide (mg LO < infR))) ∧ w = w' := fun w => by
    have := fin4_any LO w l1
    rwa [fin_dec l2] at this
  have HFH : ∀ w, Calls Try.prog 48 #[.int .u64 (HI : Int)] w fun e w' => e = .returned (.bool (decide (mg HI < infR))) ∧ w = w' := fun w => by
    have := fin4_any HI w h1
    rwa [fin_dec h2] at this
  have small : ∀ b, nw (fbN b) ≤ 1073741824 ∧ nw (fbD b) ≤ 1073741824 := fun b => ⟨Nat.le_trans (fbN_bits b) (by omega), Nat.le_trans (fbD_bits b) (by omega)⟩
  have CM1 : ∀ b v, cmpI (endV b * (D : Int)) (sn s N * (K74 : Int)) = v → ∀ {A1 : Option Addr} {l1 c1 : Nat} {B1 : Option Addr} {k1 d1 : Nat} {w : World}, RatAt w A1 l1 c1 B1 k1 d1 (fbN b) (fbD b) → RatAt w A l c B k d N D → Calls Try.prog 61 #[.agg #[.bool (sg b && decide (mg b ≠ 0)), .slice A1 l1 c1, .slice B1 k1 d1], .agg #[.bool s, .slice A l c, .slice B k d]] w fun e w' => e = .returned (.int .i64 v) ∧ Ext w w' := by
    intro b v hv A1 l1 c1 B1 k1 d1 w ha hb
    have := rcmp_any (sg b && decide (mg b ≠ 0)) A1 l1 c1 B1 k1 d1 (fbN b) (fbD b) s A l c B k d N D w ha hb (small b).1 (small b).2 (by omega) (by omega) (Nat.ne_of_gt (fbD_pos b)) (Nat.ne_of_gt hD)
    rwa [(rc_end (ev_bits b) s hD).1, hv] at this
  have CM2 : ∀ b v, cmpI (sn s N * (K74 : Int)) (endV b * (D : Int)) = v → ∀ {A1 : Option Addr} {l1 c1 : Nat} {B1 : Option Addr} {k1 d1 : Nat} {w : World}, RatAt w A l c B k d N D → RatAt w A1 l1 c1 B1 k1 d1 (fbN b) (fbD b) → Calls Try.prog 61 #[.agg #[.bool s, .slice A l c, .slice B k d], .agg #[.bool (sg b && decide (mg b ≠ 0)), .slice A1 l1 c1, .slice B1 k1 d1]] w fun e w' => e = .returned (.int .i64 v) ∧ Ext w w' := by
    intro b v hv A1 l1 c1 B1 k1 d1 w hb ha
    have := rcmp_any s A l c B k d N D (sg b && decide (mg b ≠ 0)) A1 l1 c1 B1 k1 d1 (fbN b) (fbD b) w hb ha (by omega) (by omega) (small b).1 (small b).2 (Nat.ne_of_gt hD) (Nat.ne_of_gt (fbD_pos b))
    rwa [(rc_end (ev_bits b) s hD).2, hv] at this
  rcases hor with ⟨rfl, _, hf, hv⟩ | ⟨hne, hst, _, hlo, hhi, _, _, _⟩
  · rw [decide_eq_true hf] at HFL
    exact about_eq s A l c B k d N D LO w h f1 f1 f3 f4 f5 f5 _ _ _ (Lib.hid (fun w => frombits_any LO w l1)) (Lib.hid HFL) (Lib.hid (CM1 LO 0 (cmpI_eq0 hv)))
  · have f7 : ((LO : Int) == (HI : Int)) = false := by rw [beq_eq_false_iff_ne]; omega
    have HSTP := Lib.hid (fun w => step4_any LO w l1)
    rw [hst] at HSTP
    by_cases c1 : mg LO < infR
    · rw [decide_eq_true c1] at HFL
      by_cases c2 : mg HI < infR
      · rw [decide_eq_true c2] at HFH
        exact about_11 s A l c B k d N D LO HI w h f1 f2 f3 f4 f5 f6 f7 HSTP (Lib.hid HFL) (Lib.hid HFH) _ _ _ (Lib.hid (fun w => frombits_any LO w l1)) (Lib.hid (CM1 LO (-1) (cmpI_lt (hlo c1)))) _ _ _ (Lib.hid (fun w => frombits_any HI w h1)) (Lib.hid (CM2 HI (-1) (cmpI_lt (hhi c2))))
      · rw [decide_eq_false c2] at HFH
        exact about_10 s A l c B k d N D LO HI w h f1 f2 f3 f4 f5 f6 f7 HSTP (Lib.hid HFL) (Lib.hid HFH) _ _ _ (Lib.hid (fun w => frombits_any LO w l1)) (Lib.hid (CM1 LO (-1) (cmpI_lt (hlo c1))))
    · rw [decide_eq_false c1] at HFL
      have c2 : mg HI < infR := by
        have e1 : mg LO = 9218868437227405312 := by omega
        rw [← hst]
        unfold stepP
        have hm : LO = 9218868437227405312 ∨ LO = 18442240474082181120 := by unfold mg at e1; omega
        rcases hm with rfl | rfl
        · exact absurd hiv.symm l3
        · rw [hiv]; decide
      rw [decide_eq_true c2] at HFH
      exact about_01 s A l c B k d N D LO HI w h f1 f2 f3 f4 f5 f6 f7 HSTP (Lib.hid HFL) (Lib.hid HFH) _ _ _ (Lib.hid (fun w => frombits_any HI w h1)) (Lib.hid (CM2 HI (-1) (cmpI_lt (hhi c2))))
end Go.Proofs.Ytfbjeifhpmdjaaa

/-
  The contract of the document's quotient of ratios. Conditions: those that each theorem names.
-/
namespace Go.Proofs.Ytfbjeifhpmdjaaa
open Go.RowKit Nm Rn
set_option maxRecDepth 100000
set_option linter.unusedVariables false
set_option linter.unusedSimpArgs false

set_option maxHeartbeats 2000000 in
theorem rquoq_any (n m : Bool) (A : Option Addr) (l c : Nat) (B : Option Addr) (k d N D : Nat) (A' : Option Addr) (l' c' : Nat) (B' : Option Addr) (k' d' N' D' : Nat) (w : World)
    (h : RatAt w A l c B k d N D) (h' : RatAt w A' l' c' B' k' d' N' D') (hN : nw N ≤ 1073741824) (hD : nw D ≤ 1073741824) (hN' : nw N' ≤ 1073741824) (hD' : nw D' ≤ 1073741824) (hp : 0 < D * N') :
    Calls Try.prog 27 #[.agg #[.bool n, .slice A l c, .slice B k d], .agg #[.bool m, .slice A' l' c', .slice B' k' d']] w (RetR ((n != m) && decide (N * D' ≠ 0)) (fracN (N * D') (D * N') 0) (fracD (N * D') (D * N') 0) w) := by
  have hl := h.lenN
  have hk := h.lenD
  have hl' := h'.lenN
  have hk' := h'.lenD
  have hO := ((((Own.start w).add h.1).add h.2).add h'.1).add h'.2
  have hT1 := fun w h h' => times_any A l c (nd N) B' k' d' (nd D') w h (by omega) h' (by omega)
  have hT2 := fun w h h' => times_any B k d (nd D) A' l' c' (nd N') w h (by omega) h' (by omega)
  have e1 := nw_mul2 N D'
  have e2 := nw_mul2 D N'
  have hFR := fun A n1 c B n2 d w (h : Wds w A n1 c (nd (N * D'))) (k : Wds w B n2 d (nd (D * N'))) => frac_any (n != m) A n1 c (nd (N * D')) B n2 d (nd (D * N')) 0 w h (by have := h.len; rw [nd_length] at this; omega) k (by have := k.len; rw [nd_length] at this; omega) (by omega) (by omega) (by rw [nv_nd]; exact hp)
  simp only [nv_nd] at hT1 hT2 hFR
  obtain ⟨P, hP⟩ : ∃ P, P = N * D' := ⟨_, rfl⟩
  obtain ⟨Q, hQ⟩ : ∃ Q, Q = D * N' := ⟨_, rfl⟩
  rw [← hP] at hT1 hFR ⊢
  rw [← hQ] at hT2 hFR ⊢
  obtain ⟨r, hr⟩ : ∃ r, r = (n != m) := ⟨_, rfl⟩
  rw [← hr] at hFR ⊢
  obtain ⟨zz, hzz⟩ : ∃ zz, zz = (r && decide (P ≠ 0)) := ⟨_, rfl⟩
  rw [← hzz] at hFR ⊢
  clear hzz
  have HR := Lib.hid hr.symm
  have HT1 := Lib.hid hT1
  have HT2 := Lib.hid hT2
  have HFR := Lib.hid hFR
  clear hT1 hT2 hFR hP hQ hr h h' hl hk hl' hk' hN hD hN' hD' hp e1 e2
  go_enter Try.func27, Try.ntmps27
  go_wp2_with (first
    | (refine own_box (cs := [.bool n, .slice A l c, .slice B k d]) hO rfl rfl ?_; clear hO; intro ga wa hO)
    | (refine own_box (cs := [.bool m, .slice A' l' c', .slice B' k' d']) hO rfl rfl ?_; clear hO; intro gb wb hO)
    | (refine own_alloc hO zero_rat rfl rfl ?_; clear hO; intro g w1 hO))
  obtain ⟨S, hS⟩ : ∃ S : World → Prop, S = Own w [⟨g, 43, [.bool false, .slice none 0 0, .slice none 0 0]⟩, ⟨gb, 43, [.bool m, .slice A' l' c', .slice B' k' d']⟩, ⟨ga, 43, [.bool n, .slice A l c, .slice B k d]⟩] [⟨B', k', d', nd D'⟩, ⟨A', l', c', nd N'⟩, ⟨B, k, d, nd D⟩, ⟨A, l, c, nd N⟩] := ⟨_, rfl⟩
  have hSE : ∀ w w', S w → Ext w w' → S w' := fun w w' h1 h2 => by rw [hS] at h1 ⊢; exact h1.ext h2
  have hS1 : S w1.drew := by rw [hS]; exact hO.ext (Ext.refl w1).drew
  have HS := Lib.hid hS
  clear hS hO
  obtain ⟨sp, hsp⟩ : ∃ sp : Nat → Sp, sp = ofList [det (.pointer (some ⟨ga, 0, none⟩)), det (.bool n), det (.pointer (some ⟨gb, 0, none⟩)), det (.bool m), det (.bool r),
    det (.pointer (some ⟨ga, 1, none⟩)), det (.slice A l c), det (.pointer (some ⟨gb, 2, none⟩)), det (.slice B' k' d'), anyOf (fun v wz => ∃ A1 n1 c1, v = .slice A1 n1 c1 ∧ Wds wz A1 n1 c1 (nd P)),
    det (.pointer (some ⟨ga, 2, none⟩)), det (.slice B k d), det (.pointer (some ⟨gb, 1, none⟩)), det (.slice A' l' c'), anyOf (fun v wz => ∃ A1 n1 c1, v = .slice A1 n1 c1 ∧ Wds wz A1 n1 c1 (nd Q)),
    anyOf (fun v wz => ∃ A1 n1 c1 A2 n2 c2, v = .agg #[.bool zz, .slice A1 n1 c1, .slice A2 n2 c2] ∧ RatAt wz A1 n1 c1 A2 n2 c2 (fracN P Q 0) (fracD P Q 0))] := ⟨_, rfl⟩
  have HSP := Lib.hid hsp
  clear hsp
  refine wp_region_loose 16 S sp (by kernel_rfl) (by kernel_rfl) hS1 hSE ?_
  simp only [List.take_succ_cons, List.take_zero, List.drop_succ_cons, List.drop_zero]
  iterate 15
    refine wpX_step (fun K hK => ?_)
    go_simp
    first
    | (refine ⟨by rw [HSP.out]; rfl, hK _ _ ?_⟩
       clear hK K)
    | (refine StepY.det (by rw [HSP.out]; rfl) ?_ ?_
       · intro wz hz hF
         rw [HS.out] at hz
         have hf := hz.facts
         simp only [BF, CF, Nat.zero_add, Nat.reduceAdd, and_true] at hf
         have hr := HR.out
         clear hz hF
         go_simp
         first
         | exact ⟨rfl, Ext.refl _⟩
         | exact ⟨by rw [← hr]; rfl, Ext.refl _⟩
       refine hK _ _ ?_
       clear hK K)
    | (refine StepY.any (by rw [HSP.out]; rfl) ?_ ?_
       · intro wz hz hF
         rw [HS.out] at hz
         have h1 := hz.wd 3 rfl
         have h2 := hz.wd 2 rfl
         have h3 := hz.wd 1 rfl
         have h4 := hz.wd 0 rfl
         clear hz
         go_simp
         go_at_call 56
         first
         | (with_reducible refine (HT1.out _ h1 h4).mono ?_)
         | (with_reducible refine (HT2.out _ h2 h3).mono ?_)
         rintro e w2 ⟨A1, n1, c1, rfl, hW1, hE1⟩
         exact ⟨_, rfl, ⟨A1, n1, c1, rfl, hW1⟩, hE1⟩
       intro v
       refine hK _ _ ?_
       clear hK K)
  refine wpX_step (fun K hK => ?_)
  go_simp
  refine StepY.any (by rw [HSP.out]; rfl) ?_ ?_
  · intro wz hz hF
    obtain ⟨wa', ea, A1, n1, c1, hv1, hw1⟩ := hF.any 9 (by kernel_rfl) (by rw [HSP.out]; rfl)
    obtain ⟨wb', eb, A2, n2, c2, hv2, hw2⟩ := hF.any 14 (by kernel_rfl) (by rw [HSP.out]; rfl)
    clear hF
    simp only [asFun, List.nil_append, List.cons_append, List.getD_cons_succ, List.getD_cons_zero] at hv1 hv2
    subst hv1 hv2
    go_simp
    go_at_call 54
    refine (HFR.out _ _ _ _ _ _ _ (hw1.ext ea) (hw2.ext eb)).mono ?_
    rintro e w2 ⟨A3, n3, c3, A4, n4, c4, rfl, hW1, hW2, hE1⟩
    exact ⟨_, rfl, ⟨A3, n3, c3, A4, n4, c4, rfl, hW1, hW2⟩, hE1⟩
  intro v
  refine hK _ _ ?_
  clear hK K
  refine wpX_nil ?_
  intro w3 hz hF
  obtain ⟨w0, e0, A3, n3, c3, A4, n4, c4, hv, hw0⟩ := fact_any (hF 15 (by omega)) (by rw [HSP.out]; rfl)
  clear hF
  simp only [asFun, List.nil_append, List.cons_append, List.getD_cons_succ, List.getD_cons_zero] at hv
  subst hv
  rw [HS.out] at hz
  have hO := (hz.add (hw0.ext e0).1).add (hw0.ext e0).2
  clear hz hw0 e0
  go_wp2_with (refine own_store hO 0 rfl rfl rfl size_rat rfl rfl rfl ?_; clear hO; intro w4 hO)
  exact own_ret hO 0 rfl rfl rfl agg_rat size_rat rfl ⟨_, _, _, _, _, _, rfl, hO.wd 1 rfl, hO.wd 0 rfl, hO.toExt⟩
end Go.Proofs.Ytfbjeifhpmdjaaa
