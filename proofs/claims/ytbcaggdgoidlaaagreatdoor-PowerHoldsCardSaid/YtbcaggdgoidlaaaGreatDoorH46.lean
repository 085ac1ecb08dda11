/-
 The walk through PowerHolds, where an interval is empty. Conditions: those that each theorem names.
-/
import Derived.Test.YtbcaggdgoidlaaaGreatDoorH37
import Derived.Test.YtbcaggdgoidlaaaGreatDoorH43
import Derived.Test.YtbcaggdgoidlaaaGreatDoorH44
import Derived.Test.YtbcaggdgoidlaaaGreatDoorH45
namespace Go.Proofs.YtbcaggdgoidlaaaGreatDoor
open Go.RowKit Nm Rn
set_option maxRecDepth 100000
set_option linter.unusedVariables false
set_option linter.unusedSimpArgs false
set_option maxHeartbeats 16000000 in
theorem holds_ex (x1 x2 y1 y2 p q r t pa pb : Nat) (n0 M : Int) (w : World) (HT : Hid (Tab w)) (HLV : Hid (∀ w, Tab w → Calls Tryz.prog 7 #[] w (fun e w' => e = .returned (.bool true) ∧ Ext w w')))
   (HRX : Hid (∀ w, Calls Tryz.prog 4 #[.agg #[.int .u64 (x1 : Int), .int .u64 (x2 : Int)]] w (RetI p q w))) (HRY : Hid (∀ w, Calls Tryz.prog 4 #[.agg #[.int .u64 (y1 : Int), .int .u64 (y2 : Int)]] w (RetI r t w))) (HLM : Hid (∀ w, Calls Tryz.prog 5 #[.int .i64 n0] w fun e w' => e = .returned (.int .i64 M) ∧ w = w'))
   (HEM : Hid (∀ w, Calls Tryz.prog 6 #[] w (RetI infR minf w))) (HIX : Hid (∀ w, Calls Tryz.prog 10 #[.agg #[.int .u64 (p : Int), .int .u64 (q : Int)]] w (RetF p q w))) (HIY : Hid (∀ w, Calls Tryz.prog 10 #[.agg #[.int .u64 (r : Int), .int .u64 (t : Int)]] w (RetF r t w)))
   (qx : (∀ w, (binOp .eql 24 (.agg #[.int .u64 (p : Int), .int .u64 (q : Int)]) (.agg #[.int .u64 (infR : Int), .int .u64 (minf : Int)])).run Tryz.prog w = .ok (.bool true) w)) (qe : (∀ w, (binOp .eql 24 (.agg #[.int .u64 (infR : Int), .int .u64 (minf : Int)]) (.agg #[.int .u64 (infR : Int), .int .u64 (minf : Int)])).run Tryz.prog w = .ok (.bool true) w)) (HMN : Hid (∀ w, Calls Tryz.prog 9 #[.agg #[.float .f64 p, .float .f64 q], .agg #[.float .f64 r, .float .f64 t]] w (RetF infR minf w))) (HMX : Hid (∀ w, Calls Tryz.prog 11 #[.agg #[.float .f64 p, .float .f64 q], .agg #[.float .f64 r, .float .f64 t]] w (RetF infR minf w))) (HOU : Hid (∀ w, Calls Tryz.prog 8 #[.agg #[.float .f64 infR, .float .f64 minf]] w (RetI infR minf w))) :
   Calls Tryz.prog 3 #[.agg #[.int .u64 (x1 : Int), .int .u64 (x2 : Int)], .agg #[.int .u64 (y1 : Int), .int .u64 (y2 : Int)], .int .u64 (pa : Int), .int .u64 (pb : Int), .int .i64 n0] w (fun e w' => e = .returned (.bool true) ∧ Ext w w') := by
 obtain ⟨rI, hrI⟩ : ∃ z, z = infR := ⟨_, rfl⟩
 obtain ⟨rM, hrM⟩ : ∃ z, z = minf := ⟨_, rfl⟩
 rw [← hrI, ← hrM] at HEM HMN HMX HOU qx qe
 clear hrI hrM
 have hO := Own.start w
 have hf : True := trivial
 go_enter Tryz.func3, Tryz.ntmps3
 go_wp2_with (first | ((with_reducible refine at_box ?_); refine own_box (cs := [.int .u64 (x1 : Int), .int .u64 (x2 : Int)]) hO rfl rfl ?_; clear hO; intro g5 wa hO; clear hf; have hf := hO.cells; simp only [BC, CC, Nat.zero_add, Nat.reduceAdd, and_true] at hf) | ((with_reducible refine at_box ?_); refine own_box (cs := [.int .u64 (y1 : Int), .int .u64 (y2 : Int)]) hO rfl rfl ?_; clear hO; intro g6 wb hO; clear hf; have hf := hO.cells; simp only [BC, CC, Nat.zero_add, Nat.reduceAdd, and_true] at hf))
 refine (HRX.out _).mono ?_
 rintro e w1 ⟨rfl, hE1⟩
 have hO := hO.ext hE1
 clear hE1
 clear hf
 have hf := hO.cells
 simp only [BC, CC, Nat.zero_add, Nat.reduceAdd, and_true] at hf
 go_wp2_with ((with_reducible refine at_store (T := 24) ?_); refine own_store (T := 24) hO 1 rfl rfl rfl size_It rfl rfl rfl ?_; clear hO; intro w2 hO; simp only [List.set_cons_zero, List.set_cons_succ, spl, Nat.reduceAdd, Nat.zero_add] at hO; clear hf; have hf := hO.cells; simp only [BC, CC, Nat.zero_add, Nat.reduceAdd, and_true] at hf)
 refine (HRY.out _).mono ?_
 rintro e w3 ⟨rfl, hE1⟩
 have hO := hO.ext hE1
 clear hE1
 clear hf
 have hf := hO.cells
 simp only [BC, CC, Nat.zero_add, Nat.reduceAdd, and_true] at hf
 go_upto_region 4 with (first | ((with_reducible refine at_store (T := 24) ?_); refine own_store (T := 24) hO 0 rfl rfl rfl size_It rfl rfl rfl ?_; clear hO; intro w4 hO; simp only [List.set_cons_zero, List.set_cons_succ, spl, Nat.reduceAdd, Nat.zero_add] at hO; clear hf; have hf := hO.cells; simp only [BC, CC, Nat.zero_add, Nat.reduceAdd, and_true] at hf) | (go_at_call 5; (with_reducible refine (HLM.out _).mono ?_); rintro e w5 ⟨rfl, rfl⟩))
 obtain ⟨S, hS⟩ : ∃ S : World → Prop, S = Own w [⟨g6, 24, [.int .u64 (r : Int), .int .u64 (t : Int)]⟩, ⟨g5, 24, [.int .u64 (p : Int), .int .u64 (q : Int)]⟩] [] := ⟨_, rfl⟩
 have hSE : ∀ w w', S w → Ext w w' → S w' := fun w w' h1 h2 => by rw [hS] at h1 ⊢; exact h1.ext h2
 have hS1 : S w4.drew := by rw [hS]; exact hO.ext (Ext.refl w4).drew
 have HS := Lib.hid hS
 clear hS hO hf
 obtain ⟨sp, hsp⟩ : ∃ sp : Nat → Sp, sp = ofList [det (.agg #[.int .u64 (p : Int), .int .u64 (q : Int)]), det (.agg #[.int .u64 (rI : Int), .int .u64 (rM : Int)]), det (.bool true), det (.bool true), det undef, det undef, det undef] := ⟨_, rfl⟩
 have HSP := Lib.hid hsp
 clear hsp
 refine wp_region_loose 7 S sp (by kernel_rfl) (by kernel_rfl) hS1 hSE ?_
 simp only [List.take_succ_cons, List.take_zero, List.drop_succ_cons, List.drop_zero]
 refine wpX_step (fun K hK => ?_)
 go_simp
 refine StepY.det (by rw [HSP.out]; rfl) ?_ ?_
 · intro wz hz hF
   rw [HS.out] at hz
   have hf := hz.cells
   simp only [BC, CC, Nat.zero_add, Nat.reduceAdd, and_true] at hf
   clear hz hF
   go_simp
   exact ⟨rfl, Ext.refl _⟩
 refine hK _ _ ?_
 clear hK K
 refine wpX_step (fun K hK => ?_)
 go_simp
 refine StepY.det (by rw [HSP.out]; rfl) ?_ ?_
 · intro wz hz hF
   clear hz hF
   go_simp
   refine (HEM.out _).mono ?_
   rintro e w2 ⟨rfl, hE1⟩
   exact ⟨_, rfl, rfl, hE1⟩
 refine hK _ _ ?_
 clear hK K
 iterate 5
   refine wpX_step (fun K hK => ?_)
   go_simp
   first
   | refine ⟨by rw [HSP.out]; rfl, hK _ _ ?_⟩
     clear hK K
   | refine StepY.det (by rw [HSP.out]; rfl) ?_ ?_
     · intro wz hz hF
       clear hz hF
       go_simp
       exact ⟨rfl, Ext.refl _⟩
     refine hK _ _ ?_
     clear hK K
 refine wpX_nil ?_
 intro wq hz hF
 clear hF
 rw [HS.out] at hz
 have hO := hz
 clear hz HS HSP
 have hf := hO.cells
 simp only [BC, CC, Nat.zero_add, Nat.reduceAdd, and_true] at hf
 go_upto_region 5 with fail
 obtain ⟨S, hS⟩ : ∃ S : World → Prop, S = Own w [⟨g6, 24, [.int .u64 (r : Int), .int .u64 (t : Int)]⟩, ⟨g5, 24, [.int .u64 (p : Int), .int .u64 (q : Int)]⟩] [] := ⟨_, rfl⟩
 have hSE : ∀ w w', S w → Ext w w' → S w' := fun w w' h1 h2 => by rw [hS] at h1 ⊢; exact h1.ext h2
 have hS1 : S wq.drew := by rw [hS]; exact hO.ext (Ext.refl wq).drew
 have HS := Lib.hid hS
 clear hS hO hf
 obtain ⟨sp, hsp⟩ : ∃ sp : Nat → Sp, sp = ofList [det (.bool true), det (.bool true), det (.agg #[.int .u64 (p : Int), .int .u64 (q : Int)]), det (.agg #[.float .f64 p, .float .f64 q]), det (.agg #[.int .u64 (r : Int), .int .u64 (t : Int)]), det (.agg #[.float .f64 r, .float .f64 t]), det (.agg #[.float .f64 rI, .float .f64 rM]), det (.agg #[.int .u64 (rI : Int), .int .u64 (rM : Int)]), det (.agg #[.int .u64 (rI : Int), .int .u64 (rM : Int)]), det (.bool true), det (.bool true), det (.bool true), det (.agg #[.int .u64 (p : Int), .int .u64 (q : Int)]), det (.agg #[.float .f64 p, .float .f64 q]), det (.agg #[.int .u64 (r : Int), .int .u64 (t : Int)]), det (.agg #[.float .f64 r, .float .f64 t]), det (.agg #[.float .f64 rI, .float .f64 rM]), det (.agg #[.int .u64 (rI : Int), .int .u64 (rM : Int)]), det (.agg #[.int .u64 (rI : Int), .int .u64 (rM : Int)]), det (.bool true), det (.bool true)] := ⟨_, rfl⟩
 have HSP := Lib.hid hsp
 clear hsp
 refine wp_region_loose 21 S sp (by kernel_rfl) (by kernel_rfl) hS1 hSE ?_
 simp only [List.take_succ_cons, List.take_zero, List.drop_succ_cons, List.drop_zero]
 refine wpX_step (fun K hK => ?_)
 go_simp
 refine StepY.det (by rw [HSP.out]; rfl) ?_ ?_
 · intro wz hz hF
   rw [HS.out] at hz
   have hT := HT.out.ext hz.toExt
   clear hz hF
   go_simp
   refine (HLV.out _ hT).mono ?_
   rintro e w2 ⟨rfl, hE1⟩
   exact ⟨_, rfl, rfl, hE1⟩
 refine hK _ _ ?_
 clear hK K
 iterate 2
   refine wpX_step (fun K hK => ?_)
   go_simp
   refine StepY.det (by rw [HSP.out]; rfl) ?_ ?_
   · intro wz hz hF
     rw [HS.out] at hz
     have hf := hz.cells
     simp only [BC, CC, Nat.zero_add, Nat.reduceAdd, and_true] at hf
     clear hz hF
     go_simp
     exact ⟨rfl, Ext.refl _⟩
   refine hK _ _ ?_
   clear hK K
 refine wpX_step (fun K hK => ?_)
 go_simp
 refine StepY.det (by rw [HSP.out]; rfl) ?_ ?_
 · intro wz hz hF
   clear hz hF
   go_simp
   refine (HIX.out _).mono ?_
   rintro e w2 ⟨rfl, hE1⟩
   exact ⟨_, rfl, rfl, hE1⟩
 refine hK _ _ ?_
 clear hK K
 refine wpX_step (fun K hK => ?_)
 go_simp
 refine StepY.det (by rw [HSP.out]; rfl) ?_ ?_
 · intro wz hz hF
   rw [HS.out] at hz
   have hf := hz.cells
   simp only [BC, CC, Nat.zero_add, Nat.reduceAdd, and_true] at hf
   clear hz hF
   go_simp
   exact ⟨rfl, Ext.refl _⟩
 refine hK _ _ ?_
 clear hK K
 refine wpX_step (fun K hK => ?_)
 go_simp
 refine StepY.det (by rw [HSP.out]; rfl) ?_ ?_
 · intro wz hz hF
   clear hz hF
   go_simp
   refine (HIY.out _).mono ?_
   rintro e w2 ⟨rfl, hE1⟩
   exact ⟨_, rfl, rfl, hE1⟩
 refine hK _ _ ?_
 clear hK K
 refine wpX_step (fun K hK => ?_)
 go_simp
 refine StepY.det (by rw [HSP.out]; rfl) ?_ ?_
 · intro wz hz hF
   clear hz hF
   go_simp
   refine (HMN.out _).mono ?_
   rintro e w2 ⟨rfl, hE1⟩
   exact ⟨_, rfl, rfl, hE1⟩
 refine hK _ _ ?_
 clear hK K
 refine wpX_step (fun K hK => ?_)
 go_simp
 refine StepY.det (by rw [HSP.out]; rfl) ?_ ?_
 · intro wz hz hF
   clear hz hF
   go_simp
   refine (HOU.out _).mono ?_
   rintro e w2 ⟨rfl, hE1⟩
   exact ⟨_, rfl, rfl, hE1⟩
 refine hK _ _ ?_
 clear hK K
 refine wpX_step (fun K hK => ?_)
 go_simp
 refine StepY.det (by rw [HSP.out]; rfl) ?_ ?_
 · intro wz hz hF
   clear hz hF
   go_simp
   refine (HEM.out _).mono ?_
   rintro e w2 ⟨rfl, hE1⟩
   exact ⟨_, rfl, rfl, hE1⟩
 refine hK _ _ ?_
 clear hK K
 iterate 4
   refine wpX_step (fun K hK => ?_)
   go_simp
   refine StepY.det (by rw [HSP.out]; rfl) ?_ ?_
   · intro wz hz hF
     rw [HS.out] at hz
     have hf := hz.cells
     simp only [BC, CC, Nat.zero_add, Nat.reduceAdd, and_true] at hf
     clear hz hF
     go_simp
     exact ⟨rfl, Ext.refl _⟩
   refine hK _ _ ?_
   clear hK K
 refine wpX_step (fun K hK => ?_)
 go_simp
 refine StepY.det (by rw [HSP.out]; rfl) ?_ ?_
 · intro wz hz hF
   clear hz hF
   go_simp
   refine (HIX.out _).mono ?_
   rintro e w2 ⟨rfl, hE1⟩
   exact ⟨_, rfl, rfl, hE1⟩
 refine hK _ _ ?_
 clear hK K
 refine wpX_step (fun K hK => ?_)
 go_simp
 refine StepY.det (by rw [HSP.out]; rfl) ?_ ?_
 · intro wz hz hF
   rw [HS.out] at hz
   have hf := hz.cells
   simp only [BC, CC, Nat.zero_add, Nat.reduceAdd, and_true] at hf
   clear hz hF
   go_simp
   exact ⟨rfl, Ext.refl _⟩
 refine hK _ _ ?_
 clear hK K
 refine wpX_step (fun K hK => ?_)
 go_simp
 refine StepY.det (by rw [HSP.out]; rfl) ?_ ?_
 · intro wz hz hF
   clear hz hF
   go_simp
   refine (HIY.out _).mono ?_
   rintro e w2 ⟨rfl, hE1⟩
   exact ⟨_, rfl, rfl, hE1⟩
 refine hK _ _ ?_
 clear hK K
 refine wpX_step (fun K hK => ?_)
 go_simp
 refine StepY.det (by rw [HSP.out]; rfl) ?_ ?_
 · intro wz hz hF
   clear hz hF
   go_simp
   refine (HMX.out _).mono ?_
   rintro e w2 ⟨rfl, hE1⟩
   exact ⟨_, rfl, rfl, hE1⟩
 refine hK _ _ ?_
 clear hK K
 refine wpX_step (fun K hK => ?_)
 go_simp
 refine StepY.det (by rw [HSP.out]; rfl) ?_ ?_
 · intro wz hz hF
   clear hz hF
   go_simp
   refine (HOU.out _).mono ?_
   rintro e w2 ⟨rfl, hE1⟩
   exact ⟨_, rfl, rfl, hE1⟩
 refine hK _ _ ?_
 clear hK K
 refine wpX_step (fun K hK => ?_)
 go_simp
 refine StepY.det (by rw [HSP.out]; rfl) ?_ ?_
 · intro wz hz hF
   clear hz hF
   go_simp
   refine (HEM.out _).mono ?_
   rintro e w2 ⟨rfl, hE1⟩
   exact ⟨_, rfl, rfl, hE1⟩
 refine hK _ _ ?_
 clear hK K
 iterate 2
   refine wpX_step (fun K hK => ?_)
   go_simp
   refine StepY.det (by rw [HSP.out]; rfl) ?_ ?_
   · intro wz hz hF
     clear hz hF
     go_simp
     exact ⟨rfl, Ext.refl _⟩
   refine hK _ _ ?_
   clear hK K
 refine wpX_nil ?_
 intro wq hz hF
 clear hF
 rw [HS.out] at hz
 have hO := hz
 clear hz HS HSP
 have hf := hO.cells
 simp only [BC, CC, Nat.zero_add, Nat.reduceAdd, and_true] at hf
 go_wp2_with fail
 go_ret
 exact ⟨rfl, hO.toExt⟩
set_option maxHeartbeats 16000000 in
theorem holds_ey (x1 x2 y1 y2 p q r t pa pb : Nat) (n0 M : Int) (w : World) (HT : Hid (Tab w)) (HLV : Hid (∀ w, Tab w → Calls Tryz.prog 7 #[] w (fun e w' => e = .returned (.bool true) ∧ Ext w w')))
   (HRX : Hid (∀ w, Calls Tryz.prog 4 #[.agg #[.int .u64 (x1 : Int), .int .u64 (x2 : Int)]] w (RetI p q w))) (HRY : Hid (∀ w, Calls Tryz.prog 4 #[.agg #[.int .u64 (y1 : Int), .int .u64 (y2 : Int)]] w (RetI r t w))) (HLM : Hid (∀ w, Calls Tryz.prog 5 #[.int .i64 n0] w fun e w' => e = .returned (.int .i64 M) ∧ w = w'))
   (HEM : Hid (∀ w, Calls Tryz.prog 6 #[] w (RetI infR minf w))) (HIX : Hid (∀ w, Calls Tryz.prog 10 #[.agg #[.int .u64 (p : Int), .int .u64 (q : Int)]] w (RetF p q w))) (HIY : Hid (∀ w, Calls Tryz.prog 10 #[.agg #[.int .u64 (r : Int), .int .u64 (t : Int)]] w (RetF r t w)))
   (qx : (∀ w, (binOp .eql 24 (.agg #[.int .u64 (p : Int), .int .u64 (q : Int)]) (.agg #[.int .u64 (infR : Int), .int .u64 (minf : Int)])).run Tryz.prog w = .ok (.bool false) w)) (qy : (∀ w, (binOp .eql 24 (.agg #[.int .u64 (r : Int), .int .u64 (t : Int)]) (.agg #[.int .u64 (infR : Int), .int .u64 (minf : Int)])).run Tryz.prog w = .ok (.bool true) w)) (qe : (∀ w, (binOp .eql 24 (.agg #[.int .u64 (infR : Int), .int .u64 (minf : Int)]) (.agg #[.int .u64 (infR : Int), .int .u64 (minf : Int)])).run Tryz.prog w = .ok (.bool true) w)) (HMN : Hid (∀ w, Calls Tryz.prog 9 #[.agg #[.float .f64 p, .float .f64 q], .agg #[.float .f64 r, .float .f64 t]] w (RetF infR minf w))) (HMX : Hid (∀ w, Calls Tryz.prog 11 #[.agg #[.float .f64 p, .float .f64 q], .agg #[.float .f64 r, .float .f64 t]] w (RetF infR minf w))) (HOU : Hid (∀ w, Calls Tryz.prog 8 #[.agg #[.float .f64 infR, .float .f64 minf]] w (RetI infR minf w))) :
   Calls Tryz.prog 3 #[.agg #[.int .u64 (x1 : Int), .int .u64 (x2 : Int)], .agg #[.int .u64 (y1 : Int), .int .u64 (y2 : Int)], .int .u64 (pa : Int), .int .u64 (pb : Int), .int .i64 n0] w (fun e w' => e = .returned (.bool true) ∧ Ext w w') := by
 obtain ⟨rI, hrI⟩ : ∃ z, z = infR := ⟨_, rfl⟩
 obtain ⟨rM, hrM⟩ : ∃ z, z = minf := ⟨_, rfl⟩
 rw [← hrI, ← hrM] at HEM HMN HMX HOU qx qe qy
 clear hrI hrM
 have hO := Own.start w
 have hf : True := trivial
 go_enter Tryz.func3, Tryz.ntmps3
 go_wp2_with (first | ((with_reducible refine at_box ?_); refine own_box (cs := [.int .u64 (x1 : Int), .int .u64 (x2 : Int)]) hO rfl rfl ?_; clear hO; intro g5 wa hO; clear hf; have hf := hO.cells; simp only [BC, CC, Nat.zero_add, Nat.reduceAdd, and_true] at hf) | ((with_reducible refine at_box ?_); refine own_box (cs := [.int .u64 (y1 : Int), .int .u64 (y2 : Int)]) hO rfl rfl ?_; clear hO; intro g6 wb hO; clear hf; have hf := hO.cells; simp only [BC, CC, Nat.zero_add, Nat.reduceAdd, and_true] at hf))
 refine (HRX.out _).mono ?_
 rintro e w1 ⟨rfl, hE1⟩
 have hO := hO.ext hE1
 clear hE1
 clear hf
 have hf := hO.cells
 simp only [BC, CC, Nat.zero_add, Nat.reduceAdd, and_true] at hf
 go_wp2_with ((with_reducible refine at_store (T := 24) ?_); refine own_store (T := 24) hO 1 rfl rfl rfl size_It rfl rfl rfl ?_; clear hO; intro w2 hO; simp only [List.set_cons_zero, List.set_cons_succ, spl, Nat.reduceAdd, Nat.zero_add] at hO; clear hf; have hf := hO.cells; simp only [BC, CC, Nat.zero_add, Nat.reduceAdd, and_true] at hf)
 refine (HRY.out _).mono ?_
 rintro e w3 ⟨rfl, hE1⟩
 have hO := hO.ext hE1
 clear hE1
 clear hf
 have hf := hO.cells
 simp only [BC, CC, Nat.zero_add, Nat.reduceAdd, and_true] at hf
 go_upto_region 4 with (first | ((with_reducible refine at_store (T := 24) ?_); refine own_store (T := 24) hO 0 rfl rfl rfl size_It rfl rfl rfl ?_; clear hO; intro w4 hO; simp only [List.set_cons_zero, List.set_cons_succ, spl, Nat.reduceAdd, Nat.zero_add] at hO; clear hf; have hf := hO.cells; simp only [BC, CC, Nat.zero_add, Nat.reduceAdd, and_true] at hf) | (go_at_call 5; (with_reducible refine (HLM.out _).mono ?_); rintro e w5 ⟨rfl, rfl⟩))
 obtain ⟨S, hS⟩ : ∃ S : World → Prop, S = Own w [⟨g6, 24, [.int .u64 (r : Int), .int .u64 (t : Int)]⟩, ⟨g5, 24, [.int .u64 (p : Int), .int .u64 (q : Int)]⟩] [] := ⟨_, rfl⟩
 have hSE : ∀ w w', S w → Ext w w' → S w' := fun w w' h1 h2 => by rw [hS] at h1 ⊢; exact h1.ext h2
 have hS1 : S w4.drew := by rw [hS]; exact hO.ext (Ext.refl w4).drew
 have HS := Lib.hid hS
 clear hS hO hf
 obtain ⟨sp, hsp⟩ : ∃ sp : Nat → Sp, sp = ofList [det (.agg #[.int .u64 (p : Int), .int .u64 (q : Int)]), det (.agg #[.int .u64 (rI : Int), .int .u64 (rM : Int)]), det (.bool false), det (.bool false), det (.agg #[.int .u64 (r : Int), .int .u64 (t : Int)]), det (.agg #[.int .u64 (rI : Int), .int .u64 (rM : Int)]), det (.bool true)] := ⟨_, rfl⟩
 have HSP := Lib.hid hsp
 clear hsp
 refine wp_region_loose 7 S sp (by kernel_rfl) (by kernel_rfl) hS1 hSE ?_
 simp only [List.take_succ_cons, List.take_zero, List.drop_succ_cons, List.drop_zero]
 refine wpX_step (fun K hK => ?_)
 go_simp
 refine StepY.det (by rw [HSP.out]; rfl) ?_ ?_
 · intro wz hz hF
   rw [HS.out] at hz
   have hf := hz.cells
   simp only [BC, CC, Nat.zero_add, Nat.reduceAdd, and_true] at hf
   clear hz hF
   go_simp
   exact ⟨rfl, Ext.refl _⟩
 refine hK _ _ ?_
 clear hK K
 refine wpX_step (fun K hK => ?_)
 go_simp
 refine StepY.det (by rw [HSP.out]; rfl) ?_ ?_
 · intro wz hz hF
   clear hz hF
   go_simp
   refine (HEM.out _).mono ?_
   rintro e w2 ⟨rfl, hE1⟩
   exact ⟨_, rfl, rfl, hE1⟩
 refine hK _ _ ?_
 clear hK K
 iterate 3
   refine wpX_step (fun K hK => ?_)
   go_simp
   refine StepY.det (by rw [HSP.out]; rfl) ?_ ?_
   · intro wz hz hF
     rw [HS.out] at hz
     have hf := hz.cells
     simp only [BC, CC, Nat.zero_add, Nat.reduceAdd, and_true] at hf
     clear hz hF
     go_simp
     exact ⟨rfl, Ext.refl _⟩
   refine hK _ _ ?_
   clear hK K
 refine wpX_step (fun K hK => ?_)
 go_simp
 refine StepY.det (by rw [HSP.out]; rfl) ?_ ?_
 · intro wz hz hF
   clear hz hF
   go_simp
   refine (HEM.out _).mono ?_
   rintro e w2 ⟨rfl, hE1⟩
   exact ⟨_, rfl, rfl, hE1⟩
 refine hK _ _ ?_
 clear hK K
 refine wpX_step (fun K hK => ?_)
 go_simp
 refine StepY.det (by rw [HSP.out]; rfl) ?_ ?_
 · intro wz hz hF
   clear hz hF
   go_simp
   exact ⟨rfl, Ext.refl _⟩
 refine hK _ _ ?_
 clear hK K
 refine wpX_nil ?_
 intro wq hz hF
 clear hF
 rw [HS.out] at hz
 have hO := hz
 clear hz HS HSP
 have hf := hO.cells
 simp only [BC, CC, Nat.zero_add, Nat.reduceAdd, and_true] at hf
 go_upto_region 5 with fail
 obtain ⟨S, hS⟩ : ∃ S : World → Prop, S = Own w [⟨g6, 24, [.int .u64 (r : Int), .int .u64 (t : Int)]⟩, ⟨g5, 24, [.int .u64 (p : Int), .int .u64 (q : Int)]⟩] [] := ⟨_, rfl⟩
 have hSE : ∀ w w', S w → Ext w w' → S w' := fun w w' h1 h2 => by rw [hS] at h1 ⊢; exact h1.ext h2
 have hS1 : S wq.drew := by rw [hS]; exact hO.ext (Ext.refl wq).drew
 have HS := Lib.hid hS
 clear hS hO hf
 obtain ⟨sp, hsp⟩ : ∃ sp : Nat → Sp, sp = ofList [det (.bool true), det (.bool true), det (.agg #[.int .u64 (p : Int), .int .u64 (q : Int)]), det (.agg #[.float .f64 p, .float .f64 q]), det (.agg #[.int .u64 (r : Int), .int .u64 (t : Int)]), det (.agg #[.float .f64 r, .float .f64 t]), det (.agg #[.float .f64 rI, .float .f64 rM]), det (.agg #[.int .u64 (rI : Int), .int .u64 (rM : Int)]), det (.agg #[.int .u64 (rI : Int), .int .u64 (rM : Int)]), det (.bool true), det (.bool true), det (.bool true), det (.agg #[.int .u64 (p : Int), .int .u64 (q : Int)]), det (.agg #[.float .f64 p, .float .f64 q]), det (.agg #[.int .u64 (r : Int), .int .u64 (t : Int)]), det (.agg #[.float .f64 r, .float .f64 t]), det (.agg #[.float .f64 rI, .float .f64 rM]), det (.agg #[.int .u64 (rI : Int), .int .u64 (rM : Int)]), det (.agg #[.int .u64 (rI : Int), .int .u64 (rM : Int)]), det (.bool true), det (.bool true)] := ⟨_, rfl⟩
 have HSP := Lib.hid hsp
 clear hsp
 refine wp_region_loose 21 S sp (by kernel_rfl) (by kernel_rfl) hS1 hSE ?_
 simp only [List.take_succ_cons, List.take_zero, List.drop_succ_cons, List.drop_zero]
 refine wpX_step (fun K hK => ?_)
 go_simp
 refine StepY.det (by rw [HSP.out]; rfl) ?_ ?_
 · intro wz hz hF
   rw [HS.out] at hz
   have hT := HT.out.ext hz.toExt
   clear hz hF
   go_simp
   refine (HLV.out _ hT).mono ?_
   rintro e w2 ⟨rfl, hE1⟩
   exact ⟨_, rfl, rfl, hE1⟩
 refine hK _ _ ?_
 clear hK K
 iterate 2
   refine wpX_step (fun K hK => ?_)
   go_simp
   refine StepY.det (by rw [HSP.out]; rfl) ?_ ?_
   · intro wz hz hF
     rw [HS.out] at hz
     have hf := hz.cells
     simp only [BC, CC, Nat.zero_add, Nat.reduceAdd, and_true] at hf
     clear hz hF
     go_simp
     exact ⟨rfl, Ext.refl _⟩
   refine hK _ _ ?_
   clear hK K
 refine wpX_step (fun K hK => ?_)
 go_simp
 refine StepY.det (by rw [HSP.out]; rfl) ?_ ?_
 · intro wz hz hF
   clear hz hF
   go_simp
   refine (HIX.out _).mono ?_
   rintro e w2 ⟨rfl, hE1⟩
   exact ⟨_, rfl, rfl, hE1⟩
 refine hK _ _ ?_
 clear hK K
 refine wpX_step (fun K hK => ?_)
 go_simp
 refine StepY.det (by rw [HSP.out]; rfl) ?_ ?_
 · intro wz hz hF
   rw [HS.out] at hz
   have hf := hz.cells
   simp only [BC, CC, Nat.zero_add, Nat.reduceAdd, and_true] at hf
   clear hz hF
   go_simp
   exact ⟨rfl, Ext.refl _⟩
 refine hK _ _ ?_
 clear hK K
 refine wpX_step (fun K hK => ?_)
 go_simp
 refine StepY.det (by rw [HSP.out]; rfl) ?_ ?_
 · intro wz hz hF
   clear hz hF
   go_simp
   refine (HIY.out _).mono ?_
   rintro e w2 ⟨rfl, hE1⟩
   exact ⟨_, rfl, rfl, hE1⟩
 refine hK _ _ ?_
 clear hK K
 refine wpX_step (fun K hK => ?_)
 go_simp
 refine StepY.det (by rw [HSP.out]; rfl) ?_ ?_
 · intro wz hz hF
   clear hz hF
   go_simp
   refine (HMN.out _).mono ?_
   rintro e w2 ⟨rfl, hE1⟩
   exact ⟨_, rfl, rfl, hE1⟩
 refine hK _ _ ?_
 clear hK K
 refine wpX_step (fun K hK => ?_)
 go_simp
 refine StepY.det (by rw [HSP.out]; rfl) ?_ ?_
 · intro wz hz hF
   clear hz hF
   go_simp
   refine (HOU.out _).mono ?_
   rintro e w2 ⟨rfl, hE1⟩
   exact ⟨_, rfl, rfl, hE1⟩
 refine hK _ _ ?_
 clear hK K
 refine wpX_step (fun K hK => ?_)
 go_simp
 refine StepY.det (by rw [HSP.out]; rfl) ?_ ?_
 · intro wz hz hF
   clear hz hF
   go_simp
   refine (HEM.out _).mono ?_
   rintro e w2 ⟨rfl, hE1⟩
   exact ⟨_, rfl, rfl, hE1⟩
 refine hK _ _ ?_
 clear hK K
 iterate 4
   refine wpX_step (fun K hK => ?_)
   go_simp
   refine StepY.det (by rw [HSP.out]; rfl) ?_ ?_
   · intro wz hz hF
     rw [HS.out] at hz
     have hf := hz.cells
     simp only [BC, CC, Nat.zero_add, Nat.reduceAdd, and_true] at hf
     clear hz hF
     go_simp
     exact ⟨rfl, Ext.refl _⟩
   refine hK _ _ ?_
   clear hK K
 refine wpX_step (fun K hK => ?_)
 go_simp
 refine StepY.det (by rw [HSP.out]; rfl) ?_ ?_
 · intro wz hz hF
   clear hz hF
   go_simp
   refine (HIX.out _).mono ?_
   rintro e w2 ⟨rfl, hE1⟩
   exact ⟨_, rfl, rfl, hE1⟩
 refine hK _ _ ?_
 clear hK K
 refine wpX_step (fun K hK => ?_)
 go_simp
 refine StepY.det (by rw [HSP.out]; rfl) ?_ ?_
 · intro wz hz hF
   rw [HS.out] at hz
   have hf := hz.cells
   simp only [BC, CC, Nat.zero_add, Nat.reduceAdd, and_true] at hf
   clear hz hF
   go_simp
   exact ⟨rfl, Ext.refl _⟩
 refine hK _ _ ?_
 clear hK K
 refine wpX_step (fun K hK => ?_)
 go_simp
 refine StepY.det (by rw [HSP.out]; rfl) ?_ ?_
 · intro wz hz hF
   clear hz hF
   go_simp
   refine (HIY.out _).mono ?_
   rintro e w2 ⟨rfl, hE1⟩
   exact ⟨_, rfl, rfl, hE1⟩
 refine hK _ _ ?_
 clear hK K
 refine wpX_step (fun K hK => ?_)
 go_simp
 refine StepY.det (by rw [HSP.out]; rfl) ?_ ?_
 · intro wz hz hF
   clear hz hF
   go_simp
   refine (HMX.out _).mono ?_
   rintro e w2 ⟨rfl, hE1⟩
   exact ⟨_, rfl, rfl, hE1⟩
 refine hK _ _ ?_
 clear hK K
 refine wpX_step (fun K hK => ?_)
 go_simp
 refine StepY.det (by rw [HSP.out]; rfl) ?_ ?_
 · intro wz hz hF
   clear hz hF
   go_simp
   refine (HOU.out _).mono ?_
   rintro e w2 ⟨rfl, hE1⟩
   exact ⟨_, rfl, rfl, hE1⟩
 refine hK _ _ ?_
 clear hK K
 refine wpX_step (fun K hK => ?_)
 go_simp
 refine StepY.det (by rw [HSP.out]; rfl) ?_ ?_
 · intro wz hz hF
   clear hz hF
   go_simp
   refine (HEM.out _).mono ?_
   rintro e w2 ⟨rfl, hE1⟩
   exact ⟨_, rfl, rfl, hE1⟩
 refine hK _ _ ?_
 clear hK K
 iterate 2
   refine wpX_step (fun K hK => ?_)
   go_simp
   refine StepY.det (by rw [HSP.out]; rfl) ?_ ?_
   · intro wz hz hF
     clear hz hF
     go_simp
     exact ⟨rfl, Ext.refl _⟩
   refine hK _ _ ?_
   clear hK K
 refine wpX_nil ?_
 intro wq hz hF
 clear hF
 rw [HS.out] at hz
 have hO := hz
 clear hz HS HSP
 have hf := hO.cells
 simp only [BC, CC, Nat.zero_add, Nat.reduceAdd, and_true] at hf
 go_wp2_with fail
 go_ret
 exact ⟨rfl, hO.toExt⟩
end Go.Proofs.YtbcaggdgoidlaaaGreatDoor
