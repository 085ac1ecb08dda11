/-
 Chapter 7's law package: limit, holds of any ratio. Conditions: those that each theorem names.
-/
import Derived.Test.YtbcaggdgoidlaaaGreatDoorH28
import Derived.Test.YtbcaggdgoidlaaaGreatDoorH29
import Derived.Test.YtbcaggdgoidlaaaGreatDoorH30
import Derived.Test.YtbcaggdgoidlaaaGreatDoorH12
import Derived.Test.YtbcaggdgoidlaaaGreatDoorH13
import Derived.Deep.CutRange
namespace Go.Proofs.YtbcaggdgoidlaaaGreatDoor
open Go.RowKit Nm Rn
set_option maxRecDepth 100000
set_option linter.unusedVariables false
set_option linter.unusedSimpArgs false
theorem zero_It (w : World) : (zeroValue 24).run Tryz.prog w = .ok (.agg #[.int .u64 0, .int .u64 0]) w := by kernel_rfl
theorem size_It (w : World) : (sizeOf 24).run Tryz.prog w = .ok 2 w := by kernel_rfl
def limI (n : Int) : Int := if n < -64 ∨ 64 < n then 3 else n
set_option maxHeartbeats 1000000 in
theorem limit7_any (n : Int) (w : World) : Calls Tryz.prog 5 #[.int .i64 n] w fun e w' => e = .returned (.int .i64 (limI n)) ∧ w = w' := by
 unfold limI
 by_cases h1 : n < -64
 · have g1 : decide (n < -64) = true := decide_eq_true h1
   rw [if_pos (.inl h1)]
   clear h1
   go_enter Tryz.func5, Tryz.ntmps5
   go_wp2
   go_ret
   exact ⟨rfl, rfl⟩
 · have g1 : decide (n < -64) = false := decide_eq_false h1
   by_cases h2 : 64 < n
   · have g2 : decide (64 < n) = true := decide_eq_true h2
     rw [if_pos (.inr h2)]
     clear h1 h2
     go_enter Tryz.func5, Tryz.ntmps5
     go_wp2
     go_ret
     exact ⟨rfl, rfl⟩
   · have g2 : decide (64 < n) = false := decide_eq_false h2
     rw [if_neg (by omega)]
     clear h1 h2
     go_enter Tryz.func5, Tryz.ntmps5
     go_wp2
     go_ret
     exact ⟨rfl, rfl⟩
set_option maxHeartbeats 8000000 in
theorem holds7_ii (y1 y2 e1 e2 : Nat) (s1 : Bool) (A1 : Option Addr) (l1 c1 : Nat) (B1 : Option Addr) (k1 d1 : Nat) (N1 D1 : Nat) (w : World) (h1 : RatAt w A1 l1 c1 B1 k1 d1 N1 D1) (HV : Hid (∀ w, Calls Tryz.prog 37 #[.agg #[.int .u64 (y1 : Int), .int .u64 (y2 : Int)]] w fun e w' => e = .returned (.bool true) ∧ Ext w w')) (HEM : Hid (∀ w, Calls Tryz.prog 6 #[] w (RetI e1 e2 w)))
   (hq : ∀ w, (binOp .eql 24 (.agg #[.int .u64 (y1 : Int), .int .u64 (y2 : Int)]) (.agg #[.int .u64 (e1 : Int), .int .u64 (e2 : Int)])).run Tryz.prog w = .ok (.bool false) w) (hlo : ((y1 : Int) == 18442240474082181120) = true) (hhi : ((y2 : Int) == 9218868437227405312) = true) :
   Calls Tryz.prog 14 #[.agg #[.float .f64 y1, .float .f64 y2], .agg #[.bool s1, .slice A1 l1 c1, .slice B1 k1 d1]] w fun e w' => e = .returned (.bool true) ∧ Ext w w' := by
 have hO := ((Own.start w).add h1.1).add h1.2
 have hf : True := trivial
 have HOU := Lib.hid (fun w => out7_any y1 y2 w)
 clear h1
 go_enter Tryz.func14, Tryz.ntmps14
 go_wp2_with (first | ((with_reducible refine at_box ?_); refine own_box (cs := [.float .f64 y1, .float .f64 y2]) hO rfl rfl ?_; clear hO; intro ga wa hO; clear hf; have hf := hO.cells; simp only [BC, CC, Nat.zero_add, Nat.reduceAdd, and_true] at hf) | ((with_reducible refine at_box ?_); refine own_box (cs := [.bool s1, .slice A1 l1 c1, .slice B1 k1 d1]) hO rfl rfl ?_; clear hO; intro gb wb hO; clear hf; have hf := hO.cells; simp only [BC, CC, Nat.zero_add, Nat.reduceAdd, and_true] at hf))
 refine (HOU.out _).mono ?_
 rintro e w3 ⟨rfl, hE1⟩
 have hO := hO.ext hE1
 clear hE1
 clear hf
 have hf := hO.cells
 simp only [BC, CC, Nat.zero_add, Nat.reduceAdd, and_true] at hf
 go_upto_region 2 with (first | ((with_reducible refine at_alloc ?_); refine own_alloc hO zero_It rfl rfl ?_; clear hO; intro g5 wc hO; clear hf; have hf := hO.cells; simp only [BC, CC, Nat.zero_add, Nat.reduceAdd, and_true] at hf) | ((with_reducible refine at_store (T := 24) ?_); refine own_store (T := 24) hO 0 rfl rfl rfl size_It rfl rfl rfl ?_; clear hO; intro wd hO; simp only [List.set_cons_zero, List.set_cons_succ, spl, List.take_succ_cons, List.take_zero, List.nil_append, List.cons_append, List.length_cons, List.length_nil, List.drop_succ_cons, List.drop_zero, List.drop_nil, Nat.reduceAdd, Nat.zero_add, List.append_nil] at hO; clear hf; have hf := hO.cells; simp only [BC, CC, Nat.zero_add, Nat.reduceAdd, and_true] at hf))
 obtain ⟨S, hS⟩ : ∃ S : World → Prop, S = Own w [⟨g5, 24, [.int .u64 (y1 : Int), .int .u64 (y2 : Int)]⟩, ⟨gb, 37, [.bool s1, .slice A1 l1 c1, .slice B1 k1 d1]⟩, ⟨ga, 32, [.float .f64 y1, .float .f64 y2]⟩] [⟨B1, k1, d1, nd D1⟩, ⟨A1, l1, c1, nd N1⟩] := ⟨_, rfl⟩
 have hSE : ∀ w w', S w → Ext w w' → S w' := fun w w' h1 h2 => by rw [hS] at h1 ⊢; exact h1.ext h2
 have hS1 : S wd.drew := by rw [hS]; exact hO.ext (Ext.refl wd).drew
 have HS := Lib.hid hS
 clear hS hO hf
 obtain ⟨sp, hsp⟩ : ∃ sp : Nat → Sp, sp = ofList [det (.agg #[.int .u64 (y1 : Int), .int .u64 (y2 : Int)]), det (.bool true), det (.bool false), det (.bool false), det (.agg #[.int .u64 (y1 : Int), .int .u64 (y2 : Int)]), det (.agg #[.int .u64 (e1 : Int), .int .u64 (e2 : Int)]), det (.bool false)] := ⟨_, rfl⟩
 have HSP := Lib.hid hsp
 clear hsp
 refine wp_region_loose 7 S sp (by kernel_rfl) (by kernel_rfl) hS1 hSE ?_
 simp only [List.take_succ_cons, List.take_zero, List.drop_succ_cons, List.drop_zero]
 refine wpX_step (fun K hK => ?_)
 go_simp
 refine StepY.det (by rw [HSP.out]; rfl) ?_ ?_
 · intro wz hz hF
   rw [HS.out] at hz
   have hf := hz.cells
   simp only [BC, CC, Nat.zero_add, Nat.reduceAdd, and_true] at hf
   clear hz hF
   go_simp
   exact ⟨rfl, Ext.refl _⟩
 refine hK _ _ ?_
 clear hK K
 refine wpX_step (fun K hK => ?_)
 go_simp
 refine StepY.det (by rw [HSP.out]; rfl) ?_ ?_
 · intro wz hz hF
   clear hz hF
   go_simp
   refine (HV.out _).mono ?_
   rintro e w2 ⟨rfl, hE1⟩
   exact ⟨_, rfl, rfl, hE1⟩
 refine hK _ _ ?_
 clear hK K
 iterate 3
   refine wpX_step (fun K hK => ?_)
   go_simp
   refine StepY.det (by rw [HSP.out]; rfl) ?_ ?_
   · intro wz hz hF
     rw [HS.out] at hz
     have hf := hz.cells
     simp only [BC, CC, Nat.zero_add, Nat.reduceAdd, and_true] at hf
     clear hz hF
     go_simp
     exact ⟨rfl, Ext.refl _⟩
   refine hK _ _ ?_
   clear hK K
 refine wpX_step (fun K hK => ?_)
 go_simp
 refine StepY.det (by rw [HSP.out]; rfl) ?_ ?_
 · intro wz hz hF
   clear hz hF
   go_simp
   refine (HEM.out _).mono ?_
   rintro e w2 ⟨rfl, hE1⟩
   exact ⟨_, rfl, rfl, hE1⟩
 refine hK _ _ ?_
 clear hK K
 refine wpX_step (fun K hK => ?_)
 go_simp
 refine StepY.det (by rw [HSP.out]; rfl) ?_ ?_
 · intro wz hz hF
   clear hz hF
   go_simp
   exact ⟨rfl, Ext.refl _⟩
 refine hK _ _ ?_
 clear hK K
 refine wpX_nil ?_
 intro wq hz hF
 clear hF
 rw [HS.out] at hz
 have hO := hz
 clear hz HS HSP
 have hf := hO.cells
 simp only [BC, CC, Nat.zero_add, Nat.reduceAdd, and_true] at hf
 go_upto_region 4 with fail
 obtain ⟨S, hS⟩ : ∃ S : World → Prop, S = Own w [⟨g5, 24, [.int .u64 (y1 : Int), .int .u64 (y2 : Int)]⟩, ⟨gb, 37, [.bool s1, .slice A1 l1 c1, .slice B1 k1 d1]⟩, ⟨ga, 32, [.float .f64 y1, .float .f64 y2]⟩] [⟨B1, k1, d1, nd D1⟩, ⟨A1, l1, c1, nd N1⟩] := ⟨_, rfl⟩
 have hSE : ∀ w w', S w → Ext w w' → S w' := fun w w' h1 h2 => by rw [hS] at h1 ⊢; exact h1.ext h2
 have hS1 : S wq.drew := by rw [hS]; exact hO.ext (Ext.refl wq).drew
 have HS := Lib.hid hS
 clear hS hO hf
 obtain ⟨sp, hsp⟩ : ∃ sp : Nat → Sp, sp = ofList [det (.pointer (some ⟨g5, 0, none⟩)), det (.int .u64 (y1 : Int)), det (.bool true), det (.bool true), det undef, det undef, det undef, det undef, det undef, det undef, det (.bool true), det (.bool true), det (.pointer (some ⟨g5, 1, none⟩)), det (.int .u64 (y2 : Int)), det (.bool true), det (.bool true), det undef, det undef, det undef, det undef, det undef, det undef, det (.bool true), det (.bool true)] := ⟨_, rfl⟩
 have HSP := Lib.hid hsp
 clear hsp
 refine wp_region_loose 24 S sp (by kernel_rfl) (by kernel_rfl) hS1 hSE ?_
 simp only [List.take_succ_cons, List.take_zero, List.drop_succ_cons, List.drop_zero]
 iterate 24
   refine wpX_step (fun K hK => ?_)
   go_simp
   first
   | refine ⟨by rw [HSP.out]; rfl, hK _ _ ?_⟩
     clear hK K
   | refine StepY.det (by rw [HSP.out]; rfl) ?_ ?_
     · intro wz hz hF
       rw [HS.out] at hz
       have hf := hz.cells
       simp only [BC, CC, Nat.zero_add, Nat.reduceAdd, and_true] at hf
       clear hz hF
       go_simp
       exact ⟨rfl, Ext.refl _⟩
     refine hK _ _ ?_
     clear hK K
 refine wpX_nil ?_
 intro wq hz hF
 clear hF
 rw [HS.out] at hz
 have hO := hz
 clear hz HS HSP
 have hf := hO.cells
 simp only [BC, CC, Nat.zero_add, Nat.reduceAdd, and_true] at hf
 go_wp2
 go_ret
 exact ⟨rfl, hO.toExt⟩
set_option maxHeartbeats 8000000 in
theorem holds7_ic (y1 y2 e1 e2 : Nat) (s1 : Bool) (A1 : Option Addr) (l1 c1 : Nat) (B1 : Option Addr) (k1 d1 : Nat) (N1 D1 : Nat) (w : World) (h1 : RatAt w A1 l1 c1 B1 k1 d1 N1 D1) (HV : Hid (∀ w, Calls Tryz.prog 37 #[.agg #[.int .u64 (y1 : Int), .int .u64 (y2 : Int)]] w fun e w' => e = .returned (.bool true) ∧ Ext w w')) (HEM : Hid (∀ w, Calls Tryz.prog 6 #[] w (RetI e1 e2 w)))
   (hq : ∀ w, (binOp .eql 24 (.agg #[.int .u64 (y1 : Int), .int .u64 (y2 : Int)]) (.agg #[.int .u64 (e1 : Int), .int .u64 (e2 : Int)])).run Tryz.prog w = .ok (.bool false) w) (hlo : ((y1 : Int) == 18442240474082181120) = true) (hhi : ((y2 : Int) == 9218868437227405312) = false)
   (s3 : Bool) (N3 D3 : Nat) (HB2 : Hid (∀ w, Calls Tryz.prog 12 #[.int .u64 (y2 : Int)] w (RetR s3 N3 D3 w))) (r2 : Int) (hr2 : decide (r2 ≤ 0) = true) (HC2 : Hid (∀ (A3 : Option Addr) (l3 c3 : Nat) (B3 : Option Addr) (k3 d3 : Nat) (w : World), RatAt w A1 l1 c1 B1 k1 d1 N1 D1 → RatAt w A3 l3 c3 B3 k3 d3 N3 D3 → Calls Tryz.prog 20 #[.agg #[.bool s1, .slice A1 l1 c1, .slice B1 k1 d1], .agg #[.bool s3, .slice A3 l3 c3, .slice B3 k3 d3]] w fun e w' => e = .returned (.int .i64 r2) ∧ Ext w w')) :
   Calls Tryz.prog 14 #[.agg #[.float .f64 y1, .float .f64 y2], .agg #[.bool s1, .slice A1 l1 c1, .slice B1 k1 d1]] w fun e w' => e = .returned (.bool true) ∧ Ext w w' := by
 have hO := ((Own.start w).add h1.1).add h1.2
 have hf : True := trivial
 have HOU := Lib.hid (fun w => out7_any y1 y2 w)
 clear h1
 go_enter Tryz.func14, Tryz.ntmps14
 go_wp2_with (first | ((with_reducible refine at_box ?_); refine own_box (cs := [.float .f64 y1, .float .f64 y2]) hO rfl rfl ?_; clear hO; intro ga wa hO; clear hf; have hf := hO.cells; simp only [BC, CC, Nat.zero_add, Nat.reduceAdd, and_true] at hf) | ((with_reducible refine at_box ?_); refine own_box (cs := [.bool s1, .slice A1 l1 c1, .slice B1 k1 d1]) hO rfl rfl ?_; clear hO; intro gb wb hO; clear hf; have hf := hO.cells; simp only [BC, CC, Nat.zero_add, Nat.reduceAdd, and_true] at hf))
 refine (HOU.out _).mono ?_
 rintro e w3 ⟨rfl, hE1⟩
 have hO := hO.ext hE1
 clear hE1
 clear hf
 have hf := hO.cells
 simp only [BC, CC, Nat.zero_add, Nat.reduceAdd, and_true] at hf
 go_upto_region 2 with (first | ((with_reducible refine at_alloc ?_); refine own_alloc hO zero_It rfl rfl ?_; clear hO; intro g5 wc hO; clear hf; have hf := hO.cells; simp only [BC, CC, Nat.zero_add, Nat.reduceAdd, and_true] at hf) | ((with_reducible refine at_store (T := 24) ?_); refine own_store (T := 24) hO 0 rfl rfl rfl size_It rfl rfl rfl ?_; clear hO; intro wd hO; simp only [List.set_cons_zero, List.set_cons_succ, spl, List.take_succ_cons, List.take_zero, List.nil_append, List.cons_append, List.length_cons, List.length_nil, List.drop_succ_cons, List.drop_zero, List.drop_nil, Nat.reduceAdd, Nat.zero_add, List.append_nil] at hO; clear hf; have hf := hO.cells; simp only [BC, CC, Nat.zero_add, Nat.reduceAdd, and_true] at hf))
 obtain ⟨S, hS⟩ : ∃ S : World → Prop, S = Own w [⟨g5, 24, [.int .u64 (y1 : Int), .int .u64 (y2 : Int)]⟩, ⟨gb, 37, [.bool s1, .slice A1 l1 c1, .slice B1 k1 d1]⟩, ⟨ga, 32, [.float .f64 y1, .float .f64 y2]⟩] [⟨B1, k1, d1, nd D1⟩, ⟨A1, l1, c1, nd N1⟩] := ⟨_, rfl⟩
 have hSE : ∀ w w', S w → Ext w w' → S w' := fun w w' h1 h2 => by rw [hS] at h1 ⊢; exact h1.ext h2
 have hS1 : S wd.drew := by rw [hS]; exact hO.ext (Ext.refl wd).drew
 have HS := Lib.hid hS
 clear hS hO hf
 obtain ⟨sp, hsp⟩ : ∃ sp : Nat → Sp, sp = ofList [det (.agg #[.int .u64 (y1 : Int), .int .u64 (y2 : Int)]), det (.bool true), det (.bool false), det (.bool false), det (.agg #[.int .u64 (y1 : Int), .int .u64 (y2 : Int)]), det (.agg #[.int .u64 (e1 : Int), .int .u64 (e2 : Int)]), det (.bool false)] := ⟨_, rfl⟩
 have HSP := Lib.hid hsp
 clear hsp
 refine wp_region_loose 7 S sp (by kernel_rfl) (by kernel_rfl) hS1 hSE ?_
 simp only [List.take_succ_cons, List.take_zero, List.drop_succ_cons, List.drop_zero]
 refine wpX_step (fun K hK => ?_)
 go_simp
 refine StepY.det (by rw [HSP.out]; rfl) ?_ ?_
 · intro wz hz hF
   rw [HS.out] at hz
   have hf := hz.cells
   simp only [BC, CC, Nat.zero_add, Nat.reduceAdd, and_true] at hf
   clear hz hF
   go_simp
   exact ⟨rfl, Ext.refl _⟩
 refine hK _ _ ?_
 clear hK K
 refine wpX_step (fun K hK => ?_)
 go_simp
 refine StepY.det (by rw [HSP.out]; rfl) ?_ ?_
 · intro wz hz hF
   clear hz hF
   go_simp
   refine (HV.out _).mono ?_
   rintro e w2 ⟨rfl, hE1⟩
   exact ⟨_, rfl, rfl, hE1⟩
 refine hK _ _ ?_
 clear hK K
 iterate 3
   refine wpX_step (fun K hK => ?_)
   go_simp
   refine StepY.det (by rw [HSP.out]; rfl) ?_ ?_
   · intro wz hz hF
     rw [HS.out] at hz
     have hf := hz.cells
     simp only [BC, CC, Nat.zero_add, Nat.reduceAdd, and_true] at hf
     clear hz hF
     go_simp
     exact ⟨rfl, Ext.refl _⟩
   refine hK _ _ ?_
   clear hK K
 refine wpX_step (fun K hK => ?_)
 go_simp
 refine StepY.det (by rw [HSP.out]; rfl) ?_ ?_
 · intro wz hz hF
   clear hz hF
   go_simp
   refine (HEM.out _).mono ?_
   rintro e w2 ⟨rfl, hE1⟩
   exact ⟨_, rfl, rfl, hE1⟩
 refine hK _ _ ?_
 clear hK K
 refine wpX_step (fun K hK => ?_)
 go_simp
 refine StepY.det (by rw [HSP.out]; rfl) ?_ ?_
 · intro wz hz hF
   clear hz hF
   go_simp
   exact ⟨rfl, Ext.refl _⟩
 refine hK _ _ ?_
 clear hK K
 refine wpX_nil ?_
 intro wq hz hF
 clear hF
 rw [HS.out] at hz
 have hO := hz
 clear hz HS HSP
 have hf := hO.cells
 simp only [BC, CC, Nat.zero_add, Nat.reduceAdd, and_true] at hf
 go_upto_region 4 with fail
 obtain ⟨S, hS⟩ : ∃ S : World → Prop, S = Own w [⟨g5, 24, [.int .u64 (y1 : Int), .int .u64 (y2 : Int)]⟩, ⟨gb, 37, [.bool s1, .slice A1 l1 c1, .slice B1 k1 d1]⟩, ⟨ga, 32, [.float .f64 y1, .float .f64 y2]⟩] [⟨B1, k1, d1, nd D1⟩, ⟨A1, l1, c1, nd N1⟩] := ⟨_, rfl⟩
 have hSE : ∀ w w', S w → Ext w w' → S w' := fun w w' h1 h2 => by rw [hS] at h1 ⊢; exact h1.ext h2
 have hS1 : S wq.drew := by rw [hS]; exact hO.ext (Ext.refl wq).drew
 have HS := Lib.hid hS
 clear hS hO hf
 obtain ⟨sp, hsp⟩ : ∃ sp : Nat → Sp, sp = ofList [det (.pointer (some ⟨g5, 0, none⟩)), det (.int .u64 (y1 : Int)), det (.bool true), det (.bool true), det undef, det undef, det undef, det undef, det undef, det undef, det (.bool true), det (.bool true), det (.pointer (some ⟨g5, 1, none⟩)), det (.int .u64 (y2 : Int)), det (.bool false), det (.bool false), det (.agg #[.bool s1, .slice A1 l1 c1, .slice B1 k1 d1]), det (.pointer (some ⟨g5, 1, none⟩)), det (.int .u64 (y2 : Int)), anyOf (fun v wz => ∃ A l c B k d, v = .agg #[.bool s3, .slice A l c, .slice B k d] ∧ RatAt wz A l c B k d N3 D3), det (.int .i64 r2), det (.bool true), det (.bool true), det (.bool true)] := ⟨_, rfl⟩
 have HSP := Lib.hid hsp
 clear hsp
 refine wp_region_loose 24 S sp (by kernel_rfl) (by kernel_rfl) hS1 hSE ?_
 simp only [List.take_succ_cons, List.take_zero, List.drop_succ_cons, List.drop_zero]
 iterate 19
   refine wpX_step (fun K hK => ?_)
   go_simp
   first
   | refine ⟨by rw [HSP.out]; rfl, hK _ _ ?_⟩
     clear hK K
   | refine StepY.det (by rw [HSP.out]; rfl) ?_ ?_
     · intro wz hz hF
       rw [HS.out] at hz
       have hf := hz.cells
       simp only [BC, CC, Nat.zero_add, Nat.reduceAdd, and_true] at hf
       clear hz hF
       go_simp
       exact ⟨rfl, Ext.refl _⟩
     refine hK _ _ ?_
     clear hK K
 refine wpX_step (fun K hK => ?_)
 go_simp
 refine StepY.any (by rw [HSP.out]; rfl) ?_ ?_
 · intro wz hz hF
   clear hz hF
   go_simp
   refine (HB2.out _).mono ?_
   rintro e w2 ⟨A3, n3, c3, A4, n4, c4, rfl, hW1, hW2, hE1⟩
   exact ⟨_, rfl, ⟨A3, n3, c3, A4, n4, c4, rfl, hW1, hW2⟩, hE1⟩
 intro v1
 refine hK _ _ ?_
 clear hK K
 refine wpX_step (fun K hK => ?_)
 go_simp
 refine StepY.det (by rw [HSP.out]; rfl) ?_ ?_
 · intro wz hz hF
   obtain ⟨wa', ea, A5, n5, c5, A6, n6, c6, hv1, hw1⟩ := hF.any 19 (by kernel_rfl) (by rw [HSP.out]; rfl)
   rw [HS.out] at hz
   have hR : RatAt wz _ _ _ _ _ _ _ _ := ⟨hz.wd 1 rfl, hz.wd 0 rfl⟩
   clear hz hF
   simp only [asFun, List.nil_append, List.cons_append, List.getD_cons_succ, List.getD_cons_zero] at hv1
   subst hv1
   go_simp
   refine (HC2.out _ _ _ _ _ _ _ hR (hw1.ext ea)).mono ?_
   rintro e w2 ⟨rfl, hE1⟩
   exact ⟨_, rfl, rfl, hE1⟩
 refine hK _ _ ?_
 clear hK K
 iterate 3
   refine wpX_step (fun K hK => ?_)
   go_simp
   refine StepY.det (by rw [HSP.out]; rfl) ?_ ?_
   · intro wz hz hF
     clear hz hF
     go_simp
     exact ⟨rfl, Ext.refl _⟩
   refine hK _ _ ?_
   clear hK K
 refine wpX_nil ?_
 intro wq hz hF
 clear hF
 rw [HS.out] at hz
 have hO := hz
 clear hz HS HSP
 have hf := hO.cells
 simp only [BC, CC, Nat.zero_add, Nat.reduceAdd, and_true] at hf
 go_wp2
 go_ret
 exact ⟨rfl, hO.toExt⟩
set_option maxHeartbeats 8000000 in
theorem holds7_ci (y1 y2 e1 e2 : Nat) (s1 : Bool) (A1 : Option Addr) (l1 c1 : Nat) (B1 : Option Addr) (k1 d1 : Nat) (N1 D1 : Nat) (w : World) (h1 : RatAt w A1 l1 c1 B1 k1 d1 N1 D1) (HV : Hid (∀ w, Calls Tryz.prog 37 #[.agg #[.int .u64 (y1 : Int), .int .u64 (y2 : Int)]] w fun e w' => e = .returned (.bool true) ∧ Ext w w')) (HEM : Hid (∀ w, Calls Tryz.prog 6 #[] w (RetI e1 e2 w)))
   (hq : ∀ w, (binOp .eql 24 (.agg #[.int .u64 (y1 : Int), .int .u64 (y2 : Int)]) (.agg #[.int .u64 (e1 : Int), .int .u64 (e2 : Int)])).run Tryz.prog w = .ok (.bool false) w) (hlo : ((y1 : Int) == 18442240474082181120) = false) (hhi : ((y2 : Int) == 9218868437227405312) = true)
   (s2 : Bool) (N2 D2 : Nat) (HB1 : Hid (∀ w, Calls Tryz.prog 12 #[.int .u64 (y1 : Int)] w (RetR s2 N2 D2 w))) (r1 : Int) (hr1 : decide (r1 ≤ 0) = true) (HC1 : Hid (∀ (A2 : Option Addr) (l2 c2 : Nat) (B2 : Option Addr) (k2 d2 : Nat) (w : World), RatAt w A2 l2 c2 B2 k2 d2 N2 D2 → RatAt w A1 l1 c1 B1 k1 d1 N1 D1 → Calls Tryz.prog 20 #[.agg #[.bool s2, .slice A2 l2 c2, .slice B2 k2 d2], .agg #[.bool s1, .slice A1 l1 c1, .slice B1 k1 d1]] w fun e w' => e = .returned (.int .i64 r1) ∧ Ext w w')) :
   Calls Tryz.prog 14 #[.agg #[.float .f64 y1, .float .f64 y2], .agg #[.bool s1, .slice A1 l1 c1, .slice B1 k1 d1]] w fun e w' => e = .returned (.bool true) ∧ Ext w w' := by
 have hO := ((Own.start w).add h1.1).add h1.2
 have hf : True := trivial
 have HOU := Lib.hid (fun w => out7_any y1 y2 w)
 clear h1
 go_enter Tryz.func14, Tryz.ntmps14
 go_wp2_with (first | ((with_reducible refine at_box ?_); refine own_box (cs := [.float .f64 y1, .float .f64 y2]) hO rfl rfl ?_; clear hO; intro ga wa hO; clear hf; have hf := hO.cells; simp only [BC, CC, Nat.zero_add, Nat.reduceAdd, and_true] at hf) | ((with_reducible refine at_box ?_); refine own_box (cs := [.bool s1, .slice A1 l1 c1, .slice B1 k1 d1]) hO rfl rfl ?_; clear hO; intro gb wb hO; clear hf; have hf := hO.cells; simp only [BC, CC, Nat.zero_add, Nat.reduceAdd, and_true] at hf))
 refine (HOU.out _).mono ?_
 rintro e w3 ⟨rfl, hE1⟩
 have hO := hO.ext hE1
 clear hE1
 clear hf
 have hf := hO.cells
 simp only [BC, CC, Nat.zero_add, Nat.reduceAdd, and_true] at hf
 go_upto_region 2 with (first | ((with_reducible refine at_alloc ?_); refine own_alloc hO zero_It rfl rfl ?_; clear hO; intro g5 wc hO; clear hf; have hf := hO.cells; simp only [BC, CC, Nat.zero_add, Nat.reduceAdd, and_true] at hf) | ((with_reducible refine at_store (T := 24) ?_); refine own_store (T := 24) hO 0 rfl rfl rfl size_It rfl rfl rfl ?_; clear hO; intro wd hO; simp only [List.set_cons_zero, List.set_cons_succ, spl, List.take_succ_cons, List.take_zero, List.nil_append, List.cons_append, List.length_cons, List.length_nil, List.drop_succ_cons, List.drop_zero, List.drop_nil, Nat.reduceAdd, Nat.zero_add, List.append_nil] at hO; clear hf; have hf := hO.cells; simp only [BC, CC, Nat.zero_add, Nat.reduceAdd, and_true] at hf))
 obtain ⟨S, hS⟩ : ∃ S : World → Prop, S = Own w [⟨g5, 24, [.int .u64 (y1 : Int), .int .u64 (y2 : Int)]⟩, ⟨gb, 37, [.bool s1, .slice A1 l1 c1, .slice B1 k1 d1]⟩, ⟨ga, 32, [.float .f64 y1, .float .f64 y2]⟩] [⟨B1, k1, d1, nd D1⟩, ⟨A1, l1, c1, nd N1⟩] := ⟨_, rfl⟩
 have hSE : ∀ w w', S w → Ext w w' → S w' := fun w w' h1 h2 => by rw [hS] at h1 ⊢; exact h1.ext h2
 have hS1 : S wd.drew := by rw [hS]; exact hO.ext (Ext.refl wd).drew
 have HS := Lib.hid hS
 clear hS hO hf
 obtain ⟨sp, hsp⟩ : ∃ sp : Nat → Sp, sp = ofList [det (.agg #[.int .u64 (y1 : Int), .int .u64 (y2 : Int)]), det (.bool true), det (.bool false), det (.bool false), det (.agg #[.int .u64 (y1 : Int), .int .u64 (y2 : Int)]), det (.agg #[.int .u64 (e1 : Int), .int .u64 (e2 : Int)]), det (.bool false)] := ⟨_, rfl⟩
 have HSP := Lib.hid hsp
 clear hsp
 refine wp_region_loose 7 S sp (by kernel_rfl) (by kernel_rfl) hS1 hSE ?_
 simp only [List.take_succ_cons, List.take_zero, List.drop_succ_cons, List.drop_zero]
 refine wpX_step (fun K hK => ?_)
 go_simp
 refine StepY.det (by rw [HSP.out]; rfl) ?_ ?_
 · intro wz hz hF
   rw [HS.out] at hz
   have hf := hz.cells
   simp only [BC, CC, Nat.zero_add, Nat.reduceAdd, and_true] at hf
   clear hz hF
   go_simp
   exact ⟨rfl, Ext.refl _⟩
 refine hK _ _ ?_
 clear hK K
 refine wpX_step (fun K hK => ?_)
 go_simp
 refine StepY.det (by rw [HSP.out]; rfl) ?_ ?_
 · intro wz hz hF
   clear hz hF
   go_simp
   refine (HV.out _).mono ?_
   rintro e w2 ⟨rfl, hE1⟩
   exact ⟨_, rfl, rfl, hE1⟩
 refine hK _ _ ?_
 clear hK K
 iterate 3
   refine wpX_step (fun K hK => ?_)
   go_simp
   refine StepY.det (by rw [HSP.out]; rfl) ?_ ?_
   · intro wz hz hF
     rw [HS.out] at hz
     have hf := hz.cells
     simp only [BC, CC, Nat.zero_add, Nat.reduceAdd, and_true] at hf
     clear hz hF
     go_simp
     exact ⟨rfl, Ext.refl _⟩
   refine hK _ _ ?_
   clear hK K
 refine wpX_step (fun K hK => ?_)
 go_simp
 refine StepY.det (by rw [HSP.out]; rfl) ?_ ?_
 · intro wz hz hF
   clear hz hF
   go_simp
   refine (HEM.out _).mono ?_
   rintro e w2 ⟨rfl, hE1⟩
   exact ⟨_, rfl, rfl, hE1⟩
 refine hK _ _ ?_
 clear hK K
 refine wpX_step (fun K hK => ?_)
 go_simp
 refine StepY.det (by rw [HSP.out]; rfl) ?_ ?_
 · intro wz hz hF
   clear hz hF
   go_simp
   exact ⟨rfl, Ext.refl _⟩
 refine hK _ _ ?_
 clear hK K
 refine wpX_nil ?_
 intro wq hz hF
 clear hF
 rw [HS.out] at hz
 have hO := hz
 clear hz HS HSP
 have hf := hO.cells
 simp only [BC, CC, Nat.zero_add, Nat.reduceAdd, and_true] at hf
 go_upto_region 4 with fail
 obtain ⟨S, hS⟩ : ∃ S : World → Prop, S = Own w [⟨g5, 24, [.int .u64 (y1 : Int), .int .u64 (y2 : Int)]⟩, ⟨gb, 37, [.bool s1, .slice A1 l1 c1, .slice B1 k1 d1]⟩, ⟨ga, 32, [.float .f64 y1, .float .f64 y2]⟩] [⟨B1, k1, d1, nd D1⟩, ⟨A1, l1, c1, nd N1⟩] := ⟨_, rfl⟩
 have hSE : ∀ w w', S w → Ext w w' → S w' := fun w w' h1 h2 => by rw [hS] at h1 ⊢; exact h1.ext h2
 have hS1 : S wq.drew := by rw [hS]; exact hO.ext (Ext.refl wq).drew
 have HS := Lib.hid hS
 clear hS hO hf
 obtain ⟨sp, hsp⟩ : ∃ sp : Nat → Sp, sp = ofList [det (.pointer (some ⟨g5, 0, none⟩)), det (.int .u64 (y1 : Int)), det (.bool false), det (.bool false), det (.pointer (some ⟨g5, 0, none⟩)), det (.int .u64 (y1 : Int)), anyOf (fun v wz => ∃ A l c B k d, v = .agg #[.bool s2, .slice A l c, .slice B k d] ∧ RatAt wz A l c B k d N2 D2), det (.agg #[.bool s1, .slice A1 l1 c1, .slice B1 k1 d1]), det (.int .i64 r1), det (.bool true), det (.bool true), det (.bool true), det (.pointer (some ⟨g5, 1, none⟩)), det (.int .u64 (y2 : Int)), det (.bool true), det (.bool true), det undef, det undef, det undef, det undef, det undef, det undef, det (.bool true), det (.bool true)] := ⟨_, rfl⟩
 have HSP := Lib.hid hsp
 clear hsp
 refine wp_region_loose 24 S sp (by kernel_rfl) (by kernel_rfl) hS1 hSE ?_
 simp only [List.take_succ_cons, List.take_zero, List.drop_succ_cons, List.drop_zero]
 iterate 6
   refine wpX_step (fun K hK => ?_)
   go_simp
   refine StepY.det (by rw [HSP.out]; rfl) ?_ ?_
   · intro wz hz hF
     rw [HS.out] at hz
     have hf := hz.cells
     simp only [BC, CC, Nat.zero_add, Nat.reduceAdd, and_true] at hf
     clear hz hF
     go_simp
     exact ⟨rfl, Ext.refl _⟩
   refine hK _ _ ?_
   clear hK K
 refine wpX_step (fun K hK => ?_)
 go_simp
 refine StepY.any (by rw [HSP.out]; rfl) ?_ ?_
 · intro wz hz hF
   clear hz hF
   go_simp
   refine (HB1.out _).mono ?_
   rintro e w2 ⟨A3, n3, c3, A4, n4, c4, rfl, hW1, hW2, hE1⟩
   exact ⟨_, rfl, ⟨A3, n3, c3, A4, n4, c4, rfl, hW1, hW2⟩, hE1⟩
 intro v1
 refine hK _ _ ?_
 clear hK K
 refine wpX_step (fun K hK => ?_)
 go_simp
 refine StepY.det (by rw [HSP.out]; rfl) ?_ ?_
 · intro wz hz hF
   rw [HS.out] at hz
   have hf := hz.cells
   simp only [BC, CC, Nat.zero_add, Nat.reduceAdd, and_true] at hf
   clear hz hF
   go_simp
   exact ⟨rfl, Ext.refl _⟩
 refine hK _ _ ?_
 clear hK K
 refine wpX_step (fun K hK => ?_)
 go_simp
 refine StepY.det (by rw [HSP.out]; rfl) ?_ ?_
 · intro wz hz hF
   obtain ⟨wa', ea, A5, n5, c5, A6, n6, c6, hv1, hw1⟩ := hF.any 6 (by kernel_rfl) (by rw [HSP.out]; rfl)
   rw [HS.out] at hz
   have hR : RatAt wz _ _ _ _ _ _ _ _ := ⟨hz.wd 1 rfl, hz.wd 0 rfl⟩
   clear hz hF
   simp only [asFun, List.nil_append, List.cons_append, List.getD_cons_succ, List.getD_cons_zero] at hv1
   subst hv1
   go_simp
   refine (HC1.out _ _ _ _ _ _ _ (hw1.ext ea) hR).mono ?_
   rintro e w2 ⟨rfl, hE1⟩
   exact ⟨_, rfl, rfl, hE1⟩
 refine hK _ _ ?_
 clear hK K
 iterate 15
   refine wpX_step (fun K hK => ?_)
   go_simp
   first
   | refine ⟨by rw [HSP.out]; rfl, hK _ _ ?_⟩
     clear hK K
   | refine StepY.det (by rw [HSP.out]; rfl) ?_ ?_
     · intro wz hz hF
       rw [HS.out] at hz
       have hf := hz.cells
       simp only [BC, CC, Nat.zero_add, Nat.reduceAdd, and_true] at hf
       clear hz hF
       go_simp
       exact ⟨rfl, Ext.refl _⟩
     refine hK _ _ ?_
     clear hK K
 refine wpX_nil ?_
 intro wq hz hF
 clear hF
 rw [HS.out] at hz
 have hO := hz
 clear hz HS HSP
 have hf := hO.cells
 simp only [BC, CC, Nat.zero_add, Nat.reduceAdd, and_true] at hf
 go_wp2
 go_ret
 exact ⟨rfl, hO.toExt⟩
set_option maxHeartbeats 8000000 in
theorem holds7_cc (y1 y2 e1 e2 : Nat) (s1 : Bool) (A1 : Option Addr) (l1 c1 : Nat) (B1 : Option Addr) (k1 d1 : Nat) (N1 D1 : Nat) (w : World) (h1 : RatAt w A1 l1 c1 B1 k1 d1 N1 D1) (HV : Hid (∀ w, Calls Tryz.prog 37 #[.agg #[.int .u64 (y1 : Int), .int .u64 (y2 : Int)]] w fun e w' => e = .returned (.bool true) ∧ Ext w w')) (HEM : Hid (∀ w, Calls Tryz.prog 6 #[] w (RetI e1 e2 w)))
   (hq : ∀ w, (binOp .eql 24 (.agg #[.int .u64 (y1 : Int), .int .u64 (y2 : Int)]) (.agg #[.int .u64 (e1 : Int), .int .u64 (e2 : Int)])).run Tryz.prog w = .ok (.bool false) w) (hlo : ((y1 : Int) == 18442240474082181120) = false) (hhi : ((y2 : Int) == 9218868437227405312) = false)
   (s2 : Bool) (N2 D2 : Nat) (HB1 : Hid (∀ w, Calls Tryz.prog 12 #[.int .u64 (y1 : Int)] w (RetR s2 N2 D2 w))) (r1 : Int) (hr1 : decide (r1 ≤ 0) = true) (HC1 : Hid (∀ (A2 : Option Addr) (l2 c2 : Nat) (B2 : Option Addr) (k2 d2 : Nat) (w : World), RatAt w A2 l2 c2 B2 k2 d2 N2 D2 → RatAt w A1 l1 c1 B1 k1 d1 N1 D1 → Calls Tryz.prog 20 #[.agg #[.bool s2, .slice A2 l2 c2, .slice B2 k2 d2], .agg #[.bool s1, .slice A1 l1 c1, .slice B1 k1 d1]] w fun e w' => e = .returned (.int .i64 r1) ∧ Ext w w'))
   (s3 : Bool) (N3 D3 : Nat) (HB2 : Hid (∀ w, Calls Tryz.prog 12 #[.int .u64 (y2 : Int)] w (RetR s3 N3 D3 w))) (r2 : Int) (hr2 : decide (r2 ≤ 0) = true) (HC2 : Hid (∀ (A3 : Option Addr) (l3 c3 : Nat) (B3 : Option Addr) (k3 d3 : Nat) (w : World), RatAt w A1 l1 c1 B1 k1 d1 N1 D1 → RatAt w A3 l3 c3 B3 k3 d3 N3 D3 → Calls Tryz.prog 20 #[.agg #[.bool s1, .slice A1 l1 c1, .slice B1 k1 d1], .agg #[.bool s3, .slice A3 l3 c3, .slice B3 k3 d3]] w fun e w' => e = .returned (.int .i64 r2) ∧ Ext w w')) :
   Calls Tryz.prog 14 #[.agg #[.float .f64 y1, .float .f64 y2], .agg #[.bool s1, .slice A1 l1 c1, .slice B1 k1 d1]] w fun e w' => e = .returned (.bool true) ∧ Ext w w' := by
 have hO := ((Own.start w).add h1.1).add h1.2
 have hf : True := trivial
 have HOU := Lib.hid (fun w => out7_any y1 y2 w)
 clear h1
 go_enter Tryz.func14, Tryz.ntmps14
 go_wp2_with (first | ((with_reducible refine at_box ?_); refine own_box (cs := [.float .f64 y1, .float .f64 y2]) hO rfl rfl ?_; clear hO; intro ga wa hO; clear hf; have hf := hO.cells; simp only [BC, CC, Nat.zero_add, Nat.reduceAdd, and_true] at hf) | ((with_reducible refine at_box ?_); refine own_box (cs := [.bool s1, .slice A1 l1 c1, .slice B1 k1 d1]) hO rfl rfl ?_; clear hO; intro gb wb hO; clear hf; have hf := hO.cells; simp only [BC, CC, Nat.zero_add, Nat.reduceAdd, and_true] at hf))
 refine (HOU.out _).mono ?_
 rintro e w3 ⟨rfl, hE1⟩
 have hO := hO.ext hE1
 clear hE1
 clear hf
 have hf := hO.cells
 simp only [BC, CC, Nat.zero_add, Nat.reduceAdd, and_true] at hf
 go_upto_region 2 with (first | ((with_reducible refine at_alloc ?_); refine own_alloc hO zero_It rfl rfl ?_; clear hO; intro g5 wc hO; clear hf; have hf := hO.cells; simp only [BC, CC, Nat.zero_add, Nat.reduceAdd, and_true] at hf) | ((with_reducible refine at_store (T := 24) ?_); refine own_store (T := 24) hO 0 rfl rfl rfl size_It rfl rfl rfl ?_; clear hO; intro wd hO; simp only [List.set_cons_zero, List.set_cons_succ, spl, List.take_succ_cons, List.take_zero, List.nil_append, List.cons_append, List.length_cons, List.length_nil, List.drop_succ_cons, List.drop_zero, List.drop_nil, Nat.reduceAdd, Nat.zero_add, List.append_nil] at hO; clear hf; have hf := hO.cells; simp only [BC, CC, Nat.zero_add, Nat.reduceAdd, and_true] at hf))
 obtain ⟨S, hS⟩ : ∃ S : World → Prop, S = Own w [⟨g5, 24, [.int .u64 (y1 : Int), .int .u64 (y2 : Int)]⟩, ⟨gb, 37, [.bool s1, .slice A1 l1 c1, .slice B1 k1 d1]⟩, ⟨ga, 32, [.float .f64 y1, .float .f64 y2]⟩] [⟨B1, k1, d1, nd D1⟩, ⟨A1, l1, c1, nd N1⟩] := ⟨_, rfl⟩
 have hSE : ∀ w w', S w → Ext w w' → S w' := fun w w' h1 h2 => by rw [hS] at h1 ⊢; exact h1.ext h2
 have hS1 : S wd.drew := by rw [hS]; exact hO.ext (Ext.refl wd).drew
 have HS := Lib.hid hS
 clear hS hO hf
 obtain ⟨sp, hsp⟩ : ∃ sp : Nat → Sp, sp = ofList [det (.agg #[.int .u64 (y1 : Int), .int .u64 (y2 : Int)]), det (.bool true), det (.bool false), det (.bool false), det (.agg #[.int .u64 (y1 : Int), .int .u64 (y2 : Int)]), det (.agg #[.int .u64 (e1 : Int), .int .u64 (e2 : Int)]), det (.bool false)] := ⟨_, rfl⟩
 have HSP := Lib.hid hsp
 clear hsp
 refine wp_region_loose 7 S sp (by kernel_rfl) (by kernel_rfl) hS1 hSE ?_
 simp only [List.take_succ_cons, List.take_zero, List.drop_succ_cons, List.drop_zero]
 refine wpX_step (fun K hK => ?_)
 go_simp
 refine StepY.det (by rw [HSP.out]; rfl) ?_ ?_
 · intro wz hz hF
   rw [HS.out] at hz
   have hf := hz.cells
   simp only [BC, CC, Nat.zero_add, Nat.reduceAdd, and_true] at hf
   clear hz hF
   go_simp
   exact ⟨rfl, Ext.refl _⟩
 refine hK _ _ ?_
 clear hK K
 refine wpX_step (fun K hK => ?_)
 go_simp
 refine StepY.det (by rw [HSP.out]; rfl) ?_ ?_
 · intro wz hz hF
   clear hz hF
   go_simp
   refine (HV.out _).mono ?_
   rintro e w2 ⟨rfl, hE1⟩
   exact ⟨_, rfl, rfl, hE1⟩
 refine hK _ _ ?_
 clear hK K
 iterate 3
   refine wpX_step (fun K hK => ?_)
   go_simp
   refine StepY.det (by rw [HSP.out]; rfl) ?_ ?_
   · intro wz hz hF
     rw [HS.out] at hz
     have hf := hz.cells
     simp only [BC, CC, Nat.zero_add, Nat.reduceAdd, and_true] at hf
     clear hz hF
     go_simp
     exact ⟨rfl, Ext.refl _⟩
   refine hK _ _ ?_
   clear hK K
 refine wpX_step (fun K hK => ?_)
 go_simp
 refine StepY.det (by rw [HSP.out]; rfl) ?_ ?_
 · intro wz hz hF
   clear hz hF
   go_simp
   refine (HEM.out _).mono ?_
   rintro e w2 ⟨rfl, hE1⟩
   exact ⟨_, rfl, rfl, hE1⟩
 refine hK _ _ ?_
 clear hK K
 refine wpX_step (fun K hK => ?_)
 go_simp
 refine StepY.det (by rw [HSP.out]; rfl) ?_ ?_
 · intro wz hz hF
   clear hz hF
   go_simp
   exact ⟨rfl, Ext.refl _⟩
 refine hK _ _ ?_
 clear hK K
 refine wpX_nil ?_
 intro wq hz hF
 clear hF
 rw [HS.out] at hz
 have hO := hz
 clear hz HS HSP
 have hf := hO.cells
 simp only [BC, CC, Nat.zero_add, Nat.reduceAdd, and_true] at hf
 go_upto_region 4 with fail
 obtain ⟨S, hS⟩ : ∃ S : World → Prop, S = Own w [⟨g5, 24, [.int .u64 (y1 : Int), .int .u64 (y2 : Int)]⟩, ⟨gb, 37, [.bool s1, .slice A1 l1 c1, .slice B1 k1 d1]⟩, ⟨ga, 32, [.float .f64 y1, .float .f64 y2]⟩] [⟨B1, k1, d1, nd D1⟩, ⟨A1, l1, c1, nd N1⟩] := ⟨_, rfl⟩
 have hSE : ∀ w w', S w → Ext w w' → S w' := fun w w' h1 h2 => by rw [hS] at h1 ⊢; exact h1.ext h2
 have hS1 : S wq.drew := by rw [hS]; exact hO.ext (Ext.refl wq).drew
 have HS := Lib.hid hS
 clear hS hO hf
 obtain ⟨sp, hsp⟩ : ∃ sp : Nat → Sp, sp = ofList [det (.pointer (some ⟨g5, 0, none⟩)), det (.int .u64 (y1 : Int)), det (.bool false), det (.bool false), det (.pointer (some ⟨g5, 0, none⟩)), det (.int .u64 (y1 : Int)), anyOf (fun v wz => ∃ A l c B k d, v = .agg #[.bool s2, .slice A l c, .slice B k d] ∧ RatAt wz A l c B k d N2 D2), det (.agg #[.bool s1, .slice A1 l1 c1, .slice B1 k1 d1]), det (.int .i64 r1), det (.bool true), det (.bool true), det (.bool true), det (.pointer (some ⟨g5, 1, none⟩)), det (.int .u64 (y2 : Int)), det (.bool false), det (.bool false), det (.agg #[.bool s1, .slice A1 l1 c1, .slice B1 k1 d1]), det (.pointer (some ⟨g5, 1, none⟩)), det (.int .u64 (y2 : Int)), anyOf (fun v wz => ∃ A l c B k d, v = .agg #[.bool s3, .slice A l c, .slice B k d] ∧ RatAt wz A l c B k d N3 D3), det (.int .i64 r2), det (.bool true), det (.bool true), det (.bool true)] := ⟨_, rfl⟩
 have HSP := Lib.hid hsp
 clear hsp
 refine wp_region_loose 24 S sp (by kernel_rfl) (by kernel_rfl) hS1 hSE ?_
 simp only [List.take_succ_cons, List.take_zero, List.drop_succ_cons, List.drop_zero]
 iterate 6
   refine wpX_step (fun K hK => ?_)
   go_simp
   refine StepY.det (by rw [HSP.out]; rfl) ?_ ?_
   · intro wz hz hF
     rw [HS.out] at hz
     have hf := hz.cells
     simp only [BC, CC, Nat.zero_add, Nat.reduceAdd, and_true] at hf
     clear hz hF
     go_simp
     exact ⟨rfl, Ext.refl _⟩
   refine hK _ _ ?_
   clear hK K
 refine wpX_step (fun K hK => ?_)
 go_simp
 refine StepY.any (by rw [HSP.out]; rfl) ?_ ?_
 · intro wz hz hF
   clear hz hF
   go_simp
   refine (HB1.out _).mono ?_
   rintro e w2 ⟨A3, n3, c3, A4, n4, c4, rfl, hW1, hW2, hE1⟩
   exact ⟨_, rfl, ⟨A3, n3, c3, A4, n4, c4, rfl, hW1, hW2⟩, hE1⟩
 intro v1
 refine hK _ _ ?_
 clear hK K
 refine wpX_step (fun K hK => ?_)
 go_simp
 refine StepY.det (by rw [HSP.out]; rfl) ?_ ?_
 · intro wz hz hF
   rw [HS.out] at hz
   have hf := hz.cells
   simp only [BC, CC, Nat.zero_add, Nat.reduceAdd, and_true] at hf
   clear hz hF
   go_simp
   exact ⟨rfl, Ext.refl _⟩
 refine hK _ _ ?_
 clear hK K
 refine wpX_step (fun K hK => ?_)
 go_simp
 refine StepY.det (by rw [HSP.out]; rfl) ?_ ?_
 · intro wz hz hF
   obtain ⟨wa', ea, A5, n5, c5, A6, n6, c6, hv1, hw1⟩ := hF.any 6 (by kernel_rfl) (by rw [HSP.out]; rfl)
   rw [HS.out] at hz
   have hR : RatAt wz _ _ _ _ _ _ _ _ := ⟨hz.wd 1 rfl, hz.wd 0 rfl⟩
   clear hz hF
   simp only [asFun, List.nil_append, List.cons_append, List.getD_cons_succ, List.getD_cons_zero] at hv1
   subst hv1
   go_simp
   refine (HC1.out _ _ _ _ _ _ _ (hw1.ext ea) hR).mono ?_
   rintro e w2 ⟨rfl, hE1⟩
   exact ⟨_, rfl, rfl, hE1⟩
 refine hK _ _ ?_
 clear hK K
 iterate 10
   refine wpX_step (fun K hK => ?_)
   go_simp
   refine StepY.det (by rw [HSP.out]; rfl) ?_ ?_
   · intro wz hz hF
     rw [HS.out] at hz
     have hf := hz.cells
     simp only [BC, CC, Nat.zero_add, Nat.reduceAdd, and_true] at hf
     clear hz hF
     go_simp
     exact ⟨rfl, Ext.refl _⟩
   refine hK _ _ ?_
   clear hK K
 refine wpX_step (fun K hK => ?_)
 go_simp
 refine StepY.any (by rw [HSP.out]; rfl) ?_ ?_
 · intro wz hz hF
   clear hz hF
   go_simp
   refine (HB2.out _).mono ?_
   rintro e w2 ⟨A3, n3, c3, A4, n4, c4, rfl, hW1, hW2, hE1⟩
   exact ⟨_, rfl, ⟨A3, n3, c3, A4, n4, c4, rfl, hW1, hW2⟩, hE1⟩
 intro v2
 refine hK _ _ ?_
 clear hK K
 refine wpX_step (fun K hK => ?_)
 go_simp
 refine StepY.det (by rw [HSP.out]; rfl) ?_ ?_
 · intro wz hz hF
   obtain ⟨wa', ea, A5, n5, c5, A6, n6, c6, hv1, hw1⟩ := hF.any 19 (by kernel_rfl) (by rw [HSP.out]; rfl)
   rw [HS.out] at hz
   have hR : RatAt wz _ _ _ _ _ _ _ _ := ⟨hz.wd 1 rfl, hz.wd 0 rfl⟩
   clear hz hF
   simp only [asFun, List.nil_append, List.cons_append, List.getD_cons_succ, List.getD_cons_zero] at hv1
   subst hv1
   go_simp
   refine (HC2.out _ _ _ _ _ _ _ hR (hw1.ext ea)).mono ?_
   rintro e w2 ⟨rfl, hE1⟩
   exact ⟨_, rfl, rfl, hE1⟩
 refine hK _ _ ?_
 clear hK K
 iterate 3
   refine wpX_step (fun K hK => ?_)
   go_simp
   refine StepY.det (by rw [HSP.out]; rfl) ?_ ?_
   · intro wz hz hF
     clear hz hF
     go_simp
     exact ⟨rfl, Ext.refl _⟩
   refine hK _ _ ?_
   clear hK K
 refine wpX_nil ?_
 intro wq hz hF
 clear hF
 rw [HS.out] at hz
 have hO := hz
 clear hz HS HSP
 have hf := hO.cells
 simp only [BC, CC, Nat.zero_add, Nat.reduceAdd, and_true] at hf
 go_wp2
 go_ret
 exact ⟨rfl, hO.toExt⟩
structure HdX (s : Bool) (N D y1 y2 : Nat) : Prop where
 c1 : y1 = minf ∨ rcL y1 s N D ≤ 0
 c2 : y2 = infR ∨ rcR s N D y2 ≤ 0
theorem holds7_gen {sS : Bool} {N D y1 y2 : Nat} (n1 : nw N ≤ 1000000) (n2 : nw D ≤ 1000000) (pD : 0 < D) (hy : PnE y1 y2) (hv : vldB y1 y2 = true) (h : HdX sS N D y1 y2) : ∀ (A : Option Addr) (l c : Nat) (B : Option Addr) (k d : Nat) (w : World), RatAt w A l c B k d N D →
   Calls Tryz.prog 14 #[.agg #[.float .f64 y1, .float .f64 y2], .agg #[.bool sS, .slice A l c, .slice B k d]] w fun e w' => e = .returned (.bool true) ∧ Ext w w' := by
 intro A l c B k d w h1
 have HV := Lib.hid (fun w => hv ▸ valid6_any y1 y2 w hy.la hy.lb)
 have HEM := Lib.hid (fun w => empty6_any w)
 have hq := eqI' (a := (y1 : Int)) (b := (y2 : Int)) (c := (infR : Int)) (d := (minf : Int)) (E := false) (by
   rw [Bool.and_eq_false_iff, beq_eq_false_iff_ne]
   have := hy.ia
   exact .inl (by omega))
 have im := minf_val
 have ii := infR_val
 have a1 := fbN_bits y1
 have a2 := fbD_bits y1
 have a3 := fbN_bits y2
 have a4 := fbD_bits y2
 have d1 := fbD_pos y1
 have d2 := fbD_pos y2
 have HC1 : Hid (∀ (A2 : Option Addr) (l2 c2 : Nat) (B2 : Option Addr) (k2 d2 : Nat) (w : World), RatAt w A2 l2 c2 B2 k2 d2 (fbN y1) (fbD y1) → RatAt w A l c B k d N D → Calls Tryz.prog 20 #[.agg #[.bool (sg y1 && decide (mg y1 ≠ 0)), .slice A2 l2 c2, .slice B2 k2 d2], .agg #[.bool sS, .slice A l c, .slice B k d]] w fun e w' => e = .returned (.int .i64 (rcL y1 sS N D)) ∧ Ext w w') :=
   Lib.hid fun A2 l2 c2 B2 k2 d2 w g g' => rcmp_any _ A2 l2 c2 B2 k2 d2 _ _ _ A l c B k d _ _ w g g' (by omega) (by omega) (by omega) (by omega) (by omega) (by omega)
 have HC2 : Hid (∀ (A2 : Option Addr) (l2 c2 : Nat) (B2 : Option Addr) (k2 d2 : Nat) (w : World), RatAt w A l c B k d N D → RatAt w A2 l2 c2 B2 k2 d2 (fbN y2) (fbD y2) → Calls Tryz.prog 20 #[.agg #[.bool sS, .slice A l c, .slice B k d], .agg #[.bool (sg y2 && decide (mg y2 ≠ 0)), .slice A2 l2 c2, .slice B2 k2 d2]] w fun e w' => e = .returned (.int .i64 (rcR sS N D y2)) ∧ Ext w w') :=
   Lib.hid fun A2 l2 c2 B2 k2 d2 w g g' => rcmp_any _ A l c B k d _ _ _ A2 l2 c2 B2 k2 d2 _ _ w g g' (by omega) (by omega) (by omega) (by omega) (by omega) (by omega)
 have HB1 := Lib.hid (fun w => frombits_any y1 w hy.la)
 have HB2 := Lib.hid (fun w => frombits_any y2 w hy.lb)
 by_cases c1 : y1 = minf
 · have g1 : ((y1 : Int) == 18442240474082181120) = true := by rw [beq_iff_eq]; omega
   by_cases c2 : y2 = infR
   · have g2 : ((y2 : Int) == 9218868437227405312) = true := by rw [beq_iff_eq]; omega
     exact holds7_ii (s1 := sS) (h1 := h1) (HV := HV) (HEM := HEM) (hq := hq) (hlo := g1) (hhi := g2)
   · have g2 : ((y2 : Int) == 9218868437227405312) = false := by rw [beq_eq_false_iff_ne]; omega
     have h2 := h.c2.resolve_left c2
     exact holds7_ic (h1 := h1) (HV := HV) (HEM := HEM) (hq := hq) (hlo := g1) (hhi := g2) (HB2 := HB2) (hr2 := decide_eq_true h2) (HC2 := HC2)
 · have g1 : ((y1 : Int) == 18442240474082181120) = false := by rw [beq_eq_false_iff_ne]; omega
   have k1 := h.c1.resolve_left c1
   by_cases c2 : y2 = infR
   · have g2 : ((y2 : Int) == 9218868437227405312) = true := by rw [beq_iff_eq]; omega
     exact holds7_ci (h1 := h1) (HV := HV) (HEM := HEM) (hq := hq) (hlo := g1) (hhi := g2) (HB1 := HB1) (hr1 := decide_eq_true k1) (HC1 := HC1)
   · have g2 : ((y2 : Int) == 9218868437227405312) = false := by rw [beq_eq_false_iff_ne]; omega
     have h2 := h.c2.resolve_left c2
     exact holds7_cc (h1 := h1) (HV := HV) (HEM := HEM) (hq := hq) (hlo := g1) (hhi := g2) (HB1 := HB1) (hr1 := decide_eq_true k1) (HC1 := HC1) (HB2 := HB2) (hr2 := decide_eq_true h2) (HC2 := HC2)
end Go.Proofs.YtbcaggdgoidlaaaGreatDoor
