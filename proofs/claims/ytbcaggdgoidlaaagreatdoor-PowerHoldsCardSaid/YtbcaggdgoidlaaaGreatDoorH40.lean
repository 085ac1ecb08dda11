/-
 The contract of the program's powers of intervals, walk by walk. Conditions: those that each theorem names.
-/
import Derived.Test.YtbcaggdgoidlaaaGreatDoorH37
import Derived.Test.YtbcaggdgoidlaaaGreatDoorH38
import Derived.Test.YtbcaggdgoidlaaaGreatDoorH39
import Derived.Test.YtbcaggdgoidlaaaGreatDoorH12
import Derived.Test.YtbcaggdgoidlaaaGreatDoorH13
namespace Go.Proofs.YtbcaggdgoidlaaaGreatDoor
open Go.RowKit Nm Rn
set_option maxRecDepth 100000
set_option linter.unusedVariables false
set_option linter.unusedSimpArgs false
theorem size_f64 (w : World) : (sizeOf 30).run Tryz.prog w = .ok 1 w := by kernel_rfl
def PowTo (d : Int) (x : Nat) (n : Int) (V : Nat) : Prop := ∀ w, Tab w → Calls Tryz.prog 39 #[.int .i64 d, .float .f64 x, .int .i64 n] w fun e w' => e = .returned (.float .f64 V) ∧ Ext w w'
set_option maxHeartbeats 4000000 in
theorem pown_e (x1 x2 a1 a2 : Nat) (n : Int) (w : World) (hTb : Tab w) (HR : Hid (∀ w, Calls Tryz.prog 30 #[.agg #[.float .f64 x1, .float .f64 x2]] w (RetF a1 a2 w))) (hq : ∀ w, (binOp .eql 32 (.agg #[.float .f64 a1, .float .f64 a2]) (.agg #[.float .f64 infR, .float .f64 minf])).run Tryz.prog w = .ok (.bool true) w)  :
   Calls Tryz.prog 15 #[.agg #[.float .f64 x1, .float .f64 x2], .int .i64 n] w (RetF a1 a2 w) := by
 have HT := Lib.hid hTb
 have HEM := Lib.hid (fun w => iempty_any w)
 have HEN := Lib.hid (fun w => ientire_any w)
 obtain ⟨rI, hrI⟩ : ∃ r, r = infR := ⟨_, rfl⟩
 obtain ⟨rM, hrM⟩ : ∃ r, r = minf := ⟨_, rfl⟩
 rw [← hrI, ← hrM] at HEM HEN hq
 try rw [← hrI, ← hrM]
 clear hTb hrI hrM
 have hO := Own.start w
 have hf : True := trivial
 go_enter Tryz.func15, Tryz.ntmps15
 go_wp2_with (first | ((with_reducible refine at_box ?_); refine own_box (cs := [.float .f64 x1, .float .f64 x2]) hO rfl rfl ?_; clear hO; intro ga wa hO; clear hf; have hf := hO.cells; simp only [BC, CC, Nat.zero_add, Nat.reduceAdd, and_true] at hf) | ((with_reducible refine at_alloc ?_); refine own_alloc hO zero_iv rfl rfl ?_; clear hO; intro g wb hO; clear hf; have hf := hO.cells; simp only [BC, CC, Nat.zero_add, Nat.reduceAdd, and_true] at hf))
 refine (HR.out _).mono ?_
 rintro e w3 ⟨rfl, hE1⟩
 have hO := hO.ext hE1
 clear hE1
 clear hf
 have hf := hO.cells
 simp only [BC, CC, Nat.zero_add, Nat.reduceAdd, and_true] at hf
 go_wp2_with ((with_reducible refine at_store (T := 32) ?_); refine own_store (T := 32) hO 1 rfl rfl rfl size_iv rfl rfl rfl ?_; clear hO; intro w4 hO; simp only [List.set_cons_zero, List.set_cons_succ, spl, Nat.reduceAdd, Nat.zero_add] at hO; clear hf; have hf := hO.cells; simp only [BC, CC, Nat.zero_add, Nat.reduceAdd, and_true] at hf)
 obtain ⟨S, hS⟩ : ∃ S : World → Prop, S = Own w [⟨g, 32, [.float .f64 0, .float .f64 0]⟩, ⟨ga, 32, [.float .f64 a1, .float .f64 a2]⟩] [] := ⟨_, rfl⟩
 have hSE : ∀ w w', S w → Ext w w' → S w' := fun w w' h1 h2 => by rw [hS] at h1 ⊢; exact h1.ext h2
 have hS1 : S w4.drew := by rw [hS]; exact hO.ext (Ext.refl w4).drew
 have HS := Lib.hid hS
 clear hS hO hf
 obtain ⟨sp, hsp⟩ : ∃ sp : Nat → Sp, sp = ofList [det (.agg #[.float .f64 a1, .float .f64 a2]), det (.agg #[.float .f64 rI, .float .f64 rM]), det (.bool true)] := ⟨_, rfl⟩
 have HSP := Lib.hid hsp
 clear hsp
 refine wp_region_loose 3 S sp (by kernel_rfl) (by kernel_rfl) hS1 hSE ?_
 simp only [List.take_succ_cons, List.take_zero, List.drop_succ_cons, List.drop_zero]
 refine wpX_step (fun K hK => ?_)
 go_simp
 refine StepY.det (by rw [HSP.out]; rfl) ?_ ?_
 · intro wz hz hF
   rw [HS.out] at hz
   have hf := hz.cells
   simp only [BC, CC, Nat.zero_add, Nat.reduceAdd, and_true] at hf
   clear hz hF
   go_simp
   exact ⟨rfl, Ext.refl _⟩
 refine hK _ _ ?_
 clear hK K
 refine wpX_step (fun K hK => ?_)
 go_simp
 refine StepY.det (by rw [HSP.out]; rfl) ?_ ?_
 · intro wz hz hF
   clear hz hF
   go_simp
   refine (HEM.out _).mono ?_
   rintro e w5 ⟨rfl, hE1⟩
   exact ⟨_, rfl, rfl, hE1⟩
 refine hK _ _ ?_
 clear hK K
 refine wpX_step (fun K hK => ?_)
 go_simp
 refine StepY.det (by rw [HSP.out]; rfl) ?_ ?_
 · intro wz hz hF
   clear hz hF
   go_simp
   exact ⟨rfl, Ext.refl _⟩
 refine hK _ _ ?_
 clear hK K
 refine wpX_nil ?_
 intro wq hz hF
 clear hF
 rw [HS.out] at hz
 have hO := hz
 clear hz HS HSP
 have hf := hO.cells
 simp only [BC, CC, Nat.zero_add, Nat.reduceAdd, and_true] at hf
 go_wp2_with ((with_reducible refine at_store (T := 32) ?_); refine own_store (T := 32) hO 0 rfl rfl rfl size_iv rfl rfl rfl ?_; clear hO; intro w6 hO; simp only [List.set_cons_zero, List.set_cons_succ, spl, Nat.reduceAdd, Nat.zero_add] at hO; clear hf; have hf := hO.cells; simp only [BC, CC, Nat.zero_add, Nat.reduceAdd, and_true] at hf)
 exact own_ret hO 0 rfl rfl rfl agg_iv size_iv rfl ⟨rfl, hO.toExt⟩
set_option maxHeartbeats 4000000 in
theorem pown_b1 (x1 x2 a1 a2 : Nat) (n : Int) (w : World) (hTb : Tab w) (HR : Hid (∀ w, Calls Tryz.prog 30 #[.agg #[.float .f64 x1, .float .f64 x2]] w (RetF a1 a2 w))) (hq : ∀ w, (binOp .eql 32 (.agg #[.float .f64 a1, .float .f64 a2]) (.agg #[.float .f64 infR, .float .f64 minf])).run Tryz.prog w = .ok (.bool false) w) (h1 : decide (n < -1024) = true) :
   Calls Tryz.prog 15 #[.agg #[.float .f64 x1, .float .f64 x2], .int .i64 n] w (RetF minf infR w) := by
 have HT := Lib.hid hTb
 have HEM := Lib.hid (fun w => iempty_any w)
 have HEN := Lib.hid (fun w => ientire_any w)
 obtain ⟨rI, hrI⟩ : ∃ r, r = infR := ⟨_, rfl⟩
 obtain ⟨rM, hrM⟩ : ∃ r, r = minf := ⟨_, rfl⟩
 rw [← hrI, ← hrM] at HEM HEN hq
 try rw [← hrI, ← hrM]
 clear hTb hrI hrM
 have hO := Own.start w
 have hf : True := trivial
 go_enter Tryz.func15, Tryz.ntmps15
 go_wp2_with (first | ((with_reducible refine at_box ?_); refine own_box (cs := [.float .f64 x1, .float .f64 x2]) hO rfl rfl ?_; clear hO; intro ga wa hO; clear hf; have hf := hO.cells; simp only [BC, CC, Nat.zero_add, Nat.reduceAdd, and_true] at hf) | ((with_reducible refine at_alloc ?_); refine own_alloc hO zero_iv rfl rfl ?_; clear hO; intro g wb hO; clear hf; have hf := hO.cells; simp only [BC, CC, Nat.zero_add, Nat.reduceAdd, and_true] at hf))
 refine (HR.out _).mono ?_
 rintro e w3 ⟨rfl, hE1⟩
 have hO := hO.ext hE1
 clear hE1
 clear hf
 have hf := hO.cells
 simp only [BC, CC, Nat.zero_add, Nat.reduceAdd, and_true] at hf
 go_wp2_with ((with_reducible refine at_store (T := 32) ?_); refine own_store (T := 32) hO 1 rfl rfl rfl size_iv rfl rfl rfl ?_; clear hO; intro w4 hO; simp only [List.set_cons_zero, List.set_cons_succ, spl, Nat.reduceAdd, Nat.zero_add] at hO; clear hf; have hf := hO.cells; simp only [BC, CC, Nat.zero_add, Nat.reduceAdd, and_true] at hf)
 obtain ⟨S, hS⟩ : ∃ S : World → Prop, S = Own w [⟨g, 32, [.float .f64 0, .float .f64 0]⟩, ⟨ga, 32, [.float .f64 a1, .float .f64 a2]⟩] [] := ⟨_, rfl⟩
 have hSE : ∀ w w', S w → Ext w w' → S w' := fun w w' h1 h2 => by rw [hS] at h1 ⊢; exact h1.ext h2
 have hS1 : S w4.drew := by rw [hS]; exact hO.ext (Ext.refl w4).drew
 have HS := Lib.hid hS
 clear hS hO hf
 obtain ⟨sp, hsp⟩ : ∃ sp : Nat → Sp, sp = ofList [det (.agg #[.float .f64 a1, .float .f64 a2]), det (.agg #[.float .f64 rI, .float .f64 rM]), det (.bool false)] := ⟨_, rfl⟩
 have HSP := Lib.hid hsp
 clear hsp
 refine wp_region_loose 3 S sp (by kernel_rfl) (by kernel_rfl) hS1 hSE ?_
 simp only [List.take_succ_cons, List.take_zero, List.drop_succ_cons, List.drop_zero]
 refine wpX_step (fun K hK => ?_)
 go_simp
 refine StepY.det (by rw [HSP.out]; rfl) ?_ ?_
 · intro wz hz hF
   rw [HS.out] at hz
   have hf := hz.cells
   simp only [BC, CC, Nat.zero_add, Nat.reduceAdd, and_true] at hf
   clear hz hF
   go_simp
   exact ⟨rfl, Ext.refl _⟩
 refine hK _ _ ?_
 clear hK K
 refine wpX_step (fun K hK => ?_)
 go_simp
 refine StepY.det (by rw [HSP.out]; rfl) ?_ ?_
 · intro wz hz hF
   clear hz hF
   go_simp
   refine (HEM.out _).mono ?_
   rintro e w5 ⟨rfl, hE1⟩
   exact ⟨_, rfl, rfl, hE1⟩
 refine hK _ _ ?_
 clear hK K
 refine wpX_step (fun K hK => ?_)
 go_simp
 refine StepY.det (by rw [HSP.out]; rfl) ?_ ?_
 · intro wz hz hF
   clear hz hF
   go_simp
   exact ⟨rfl, Ext.refl _⟩
 refine hK _ _ ?_
 clear hK K
 refine wpX_nil ?_
 intro wq hz hF
 clear hF
 rw [HS.out] at hz
 have hO := hz
 clear hz HS HSP
 have hf := hO.cells
 simp only [BC, CC, Nat.zero_add, Nat.reduceAdd, and_true] at hf
 go_wp2_with fail
 refine (HEN.out _).mono ?_
 rintro e w5 ⟨rfl, hE1⟩
 have hO := hO.ext hE1
 clear hE1
 clear hf
 have hf := hO.cells
 simp only [BC, CC, Nat.zero_add, Nat.reduceAdd, and_true] at hf
 go_wp2_with ((with_reducible refine at_store (T := 32) ?_); refine own_store (T := 32) hO 0 rfl rfl rfl size_iv rfl rfl rfl ?_; clear hO; intro w6 hO; simp only [List.set_cons_zero, List.set_cons_succ, spl, Nat.reduceAdd, Nat.zero_add] at hO; clear hf; have hf := hO.cells; simp only [BC, CC, Nat.zero_add, Nat.reduceAdd, and_true] at hf)
 exact own_ret hO 0 rfl rfl rfl agg_iv size_iv rfl ⟨rfl, hO.toExt⟩
set_option maxHeartbeats 4000000 in
theorem pown_b2 (x1 x2 a1 a2 : Nat) (n : Int) (w : World) (hTb : Tab w) (HR : Hid (∀ w, Calls Tryz.prog 30 #[.agg #[.float .f64 x1, .float .f64 x2]] w (RetF a1 a2 w))) (hq : ∀ w, (binOp .eql 32 (.agg #[.float .f64 a1, .float .f64 a2]) (.agg #[.float .f64 infR, .float .f64 minf])).run Tryz.prog w = .ok (.bool false) w) (h1 : decide (n < -1024) = false) (h2 : decide (1024 < n) = true) :
   Calls Tryz.prog 15 #[.agg #[.float .f64 x1, .float .f64 x2], .int .i64 n] w (RetF minf infR w) := by
 have HT := Lib.hid hTb
 have HEM := Lib.hid (fun w => iempty_any w)
 have HEN := Lib.hid (fun w => ientire_any w)
 obtain ⟨rI, hrI⟩ : ∃ r, r = infR := ⟨_, rfl⟩
 obtain ⟨rM, hrM⟩ : ∃ r, r = minf := ⟨_, rfl⟩
 rw [← hrI, ← hrM] at HEM HEN hq
 try rw [← hrI, ← hrM]
 clear hTb hrI hrM
 have hO := Own.start w
 have hf : True := trivial
 go_enter Tryz.func15, Tryz.ntmps15
 go_wp2_with (first | ((with_reducible refine at_box ?_); refine own_box (cs := [.float .f64 x1, .float .f64 x2]) hO rfl rfl ?_; clear hO; intro ga wa hO; clear hf; have hf := hO.cells; simp only [BC, CC, Nat.zero_add, Nat.reduceAdd, and_true] at hf) | ((with_reducible refine at_alloc ?_); refine own_alloc hO zero_iv rfl rfl ?_; clear hO; intro g wb hO; clear hf; have hf := hO.cells; simp only [BC, CC, Nat.zero_add, Nat.reduceAdd, and_true] at hf))
 refine (HR.out _).mono ?_
 rintro e w3 ⟨rfl, hE1⟩
 have hO := hO.ext hE1
 clear hE1
 clear hf
 have hf := hO.cells
 simp only [BC, CC, Nat.zero_add, Nat.reduceAdd, and_true] at hf
 go_wp2_with ((with_reducible refine at_store (T := 32) ?_); refine own_store (T := 32) hO 1 rfl rfl rfl size_iv rfl rfl rfl ?_; clear hO; intro w4 hO; simp only [List.set_cons_zero, List.set_cons_succ, spl, Nat.reduceAdd, Nat.zero_add] at hO; clear hf; have hf := hO.cells; simp only [BC, CC, Nat.zero_add, Nat.reduceAdd, and_true] at hf)
 obtain ⟨S, hS⟩ : ∃ S : World → Prop, S = Own w [⟨g, 32, [.float .f64 0, .float .f64 0]⟩, ⟨ga, 32, [.float .f64 a1, .float .f64 a2]⟩] [] := ⟨_, rfl⟩
 have hSE : ∀ w w', S w → Ext w w' → S w' := fun w w' h1 h2 => by rw [hS] at h1 ⊢; exact h1.ext h2
 have hS1 : S w4.drew := by rw [hS]; exact hO.ext (Ext.refl w4).drew
 have HS := Lib.hid hS
 clear hS hO hf
 obtain ⟨sp, hsp⟩ : ∃ sp : Nat → Sp, sp = ofList [det (.agg #[.float .f64 a1, .float .f64 a2]), det (.agg #[.float .f64 rI, .float .f64 rM]), det (.bool false)] := ⟨_, rfl⟩
 have HSP := Lib.hid hsp
 clear hsp
 refine wp_region_loose 3 S sp (by kernel_rfl) (by kernel_rfl) hS1 hSE ?_
 simp only [List.take_succ_cons, List.take_zero, List.drop_succ_cons, List.drop_zero]
 refine wpX_step (fun K hK => ?_)
 go_simp
 refine StepY.det (by rw [HSP.out]; rfl) ?_ ?_
 · intro wz hz hF
   rw [HS.out] at hz
   have hf := hz.cells
   simp only [BC, CC, Nat.zero_add, Nat.reduceAdd, and_true] at hf
   clear hz hF
   go_simp
   exact ⟨rfl, Ext.refl _⟩
 refine hK _ _ ?_
 clear hK K
 refine wpX_step (fun K hK => ?_)
 go_simp
 refine StepY.det (by rw [HSP.out]; rfl) ?_ ?_
 · intro wz hz hF
   clear hz hF
   go_simp
   refine (HEM.out _).mono ?_
   rintro e w5 ⟨rfl, hE1⟩
   exact ⟨_, rfl, rfl, hE1⟩
 refine hK _ _ ?_
 clear hK K
 refine wpX_step (fun K hK => ?_)
 go_simp
 refine StepY.det (by rw [HSP.out]; rfl) ?_ ?_
 · intro wz hz hF
   clear hz hF
   go_simp
   exact ⟨rfl, Ext.refl _⟩
 refine hK _ _ ?_
 clear hK K
 refine wpX_nil ?_
 intro wq hz hF
 clear hF
 rw [HS.out] at hz
 have hO := hz
 clear hz HS HSP
 have hf := hO.cells
 simp only [BC, CC, Nat.zero_add, Nat.reduceAdd, and_true] at hf
 go_wp2_with fail
 refine (HEN.out _).mono ?_
 rintro e w5 ⟨rfl, hE1⟩
 have hO := hO.ext hE1
 clear hE1
 clear hf
 have hf := hO.cells
 simp only [BC, CC, Nat.zero_add, Nat.reduceAdd, and_true] at hf
 go_wp2_with ((with_reducible refine at_store (T := 32) ?_); refine own_store (T := 32) hO 0 rfl rfl rfl size_iv rfl rfl rfl ?_; clear hO; intro w6 hO; simp only [List.set_cons_zero, List.set_cons_succ, spl, Nat.reduceAdd, Nat.zero_add] at hO; clear hf; have hf := hO.cells; simp only [BC, CC, Nat.zero_add, Nat.reduceAdd, and_true] at hf)
 exact own_ret hO 0 rfl rfl rfl agg_iv size_iv rfl ⟨rfl, hO.toExt⟩
set_option maxHeartbeats 4000000 in
theorem pown_0 (x1 x2 a1 a2 : Nat) (n : Int) (w : World) (hTb : Tab w) (HR : Hid (∀ w, Calls Tryz.prog 30 #[.agg #[.float .f64 x1, .float .f64 x2]] w (RetF a1 a2 w))) (hq : ∀ w, (binOp .eql 32 (.agg #[.float .f64 a1, .float .f64 a2]) (.agg #[.float .f64 infR, .float .f64 minf])).run Tryz.prog w = .ok (.bool false) w) (h1 : decide (n < -1024) = false) (h2 : decide (1024 < n) = false) (h3 : (n == 0) = true) :
   Calls Tryz.prog 15 #[.agg #[.float .f64 x1, .float .f64 x2], .int .i64 n] w (RetF 4607182418800017408 4607182418800017408 w) := by
 have HT := Lib.hid hTb
 have HEM := Lib.hid (fun w => iempty_any w)
 have HEN := Lib.hid (fun w => ientire_any w)
 obtain ⟨rI, hrI⟩ : ∃ r, r = infR := ⟨_, rfl⟩
 obtain ⟨rM, hrM⟩ : ∃ r, r = minf := ⟨_, rfl⟩
 rw [← hrI, ← hrM] at HEM HEN hq
 try rw [← hrI, ← hrM]
 clear hTb hrI hrM
 have hO := Own.start w
 have hf : True := trivial
 go_enter Tryz.func15, Tryz.ntmps15
 go_wp2_with (first | ((with_reducible refine at_box ?_); refine own_box (cs := [.float .f64 x1, .float .f64 x2]) hO rfl rfl ?_; clear hO; intro ga wa hO; clear hf; have hf := hO.cells; simp only [BC, CC, Nat.zero_add, Nat.reduceAdd, and_true] at hf) | ((with_reducible refine at_alloc ?_); refine own_alloc hO zero_iv rfl rfl ?_; clear hO; intro g wb hO; clear hf; have hf := hO.cells; simp only [BC, CC, Nat.zero_add, Nat.reduceAdd, and_true] at hf))
 refine (HR.out _).mono ?_
 rintro e w3 ⟨rfl, hE1⟩
 have hO := hO.ext hE1
 clear hE1
 clear hf
 have hf := hO.cells
 simp only [BC, CC, Nat.zero_add, Nat.reduceAdd, and_true] at hf
 go_wp2_with ((with_reducible refine at_store (T := 32) ?_); refine own_store (T := 32) hO 1 rfl rfl rfl size_iv rfl rfl rfl ?_; clear hO; intro w4 hO; simp only [List.set_cons_zero, List.set_cons_succ, spl, Nat.reduceAdd, Nat.zero_add] at hO; clear hf; have hf := hO.cells; simp only [BC, CC, Nat.zero_add, Nat.reduceAdd, and_true] at hf)
 obtain ⟨S, hS⟩ : ∃ S : World → Prop, S = Own w [⟨g, 32, [.float .f64 0, .float .f64 0]⟩, ⟨ga, 32, [.float .f64 a1, .float .f64 a2]⟩] [] := ⟨_, rfl⟩
 have hSE : ∀ w w', S w → Ext w w' → S w' := fun w w' h1 h2 => by rw [hS] at h1 ⊢; exact h1.ext h2
 have hS1 : S w4.drew := by rw [hS]; exact hO.ext (Ext.refl w4).drew
 have HS := Lib.hid hS
 clear hS hO hf
 obtain ⟨sp, hsp⟩ : ∃ sp : Nat → Sp, sp = ofList [det (.agg #[.float .f64 a1, .float .f64 a2]), det (.agg #[.float .f64 rI, .float .f64 rM]), det (.bool false)] := ⟨_, rfl⟩
 have HSP := Lib.hid hsp
 clear hsp
 refine wp_region_loose 3 S sp (by kernel_rfl) (by kernel_rfl) hS1 hSE ?_
 simp only [List.take_succ_cons, List.take_zero, List.drop_succ_cons, List.drop_zero]
 refine wpX_step (fun K hK => ?_)
 go_simp
 refine StepY.det (by rw [HSP.out]; rfl) ?_ ?_
 · intro wz hz hF
   rw [HS.out] at hz
   have hf := hz.cells
   simp only [BC, CC, Nat.zero_add, Nat.reduceAdd, and_true] at hf
   clear hz hF
   go_simp
   exact ⟨rfl, Ext.refl _⟩
 refine hK _ _ ?_
 clear hK K
 refine wpX_step (fun K hK => ?_)
 go_simp
 refine StepY.det (by rw [HSP.out]; rfl) ?_ ?_
 · intro wz hz hF
   clear hz hF
   go_simp
   refine (HEM.out _).mono ?_
   rintro e w5 ⟨rfl, hE1⟩
   exact ⟨_, rfl, rfl, hE1⟩
 refine hK _ _ ?_
 clear hK K
 refine wpX_step (fun K hK => ?_)
 go_simp
 refine StepY.det (by rw [HSP.out]; rfl) ?_ ?_
 · intro wz hz hF
   clear hz hF
   go_simp
   exact ⟨rfl, Ext.refl _⟩
 refine hK _ _ ?_
 clear hK K
 refine wpX_nil ?_
 intro wq hz hF
 clear hF
 rw [HS.out] at hz
 have hO := hz
 clear hz HS HSP
 have hf := hO.cells
 simp only [BC, CC, Nat.zero_add, Nat.reduceAdd, and_true] at hf
 go_wp2_with ((with_reducible refine at_store (T := 32) ?_); refine own_store (T := 32) hO 0 rfl rfl rfl size_iv rfl rfl rfl ?_; clear hO; intro w6 hO; simp only [List.set_cons_zero, List.set_cons_succ, spl, Nat.reduceAdd, Nat.zero_add] at hO; clear hf; have hf := hO.cells; simp only [BC, CC, Nat.zero_add, Nat.reduceAdd, and_true] at hf)
 exact own_ret hO 0 rfl rfl rfl agg_iv size_iv rfl ⟨rfl, hO.toExt⟩
set_option maxHeartbeats 4000000 in
theorem pown_od_p (x1 x2 a1 a2 : Nat) (n : Int) (w : World) (hTb : Tab w) (HR : Hid (∀ w, Calls Tryz.prog 30 #[.agg #[.float .f64 x1, .float .f64 x2]] w (RetF a1 a2 w))) (hq : ∀ w, (binOp .eql 32 (.agg #[.float .f64 a1, .float .f64 a2]) (.agg #[.float .f64 infR, .float .f64 minf])).run Tryz.prog w = .ok (.bool false) w) (h1 : decide (n < -1024) = false) (h2 : decide (1024 < n) = false) (h3 : (n == 0) = false) (h4 : (n.tmod 2 == 0) = false) (h5 : decide (0 < n) = true) (V1 V2 : Nat) (H1 : Hid (PowTo (-1) a1 n V1)) (H2 : Hid (PowTo 1 a2 n V2)) :
   Calls Tryz.prog 15 #[.agg #[.float .f64 x1, .float .f64 x2], .int .i64 n] w (RetF V1 V2 w) := by
 have HT := Lib.hid hTb
 have HEM := Lib.hid (fun w => iempty_any w)
 have HEN := Lib.hid (fun w => ientire_any w)
 obtain ⟨rI, hrI⟩ : ∃ r, r = infR := ⟨_, rfl⟩
 obtain ⟨rM, hrM⟩ : ∃ r, r = minf := ⟨_, rfl⟩
 rw [← hrI, ← hrM] at HEM HEN hq
 try rw [← hrI, ← hrM]
 clear hTb hrI hrM
 have hO := Own.start w
 have hf : True := trivial
 go_enter Tryz.func15, Tryz.ntmps15
 go_wp2_with (first | ((with_reducible refine at_box ?_); refine own_box (cs := [.float .f64 x1, .float .f64 x2]) hO rfl rfl ?_; clear hO; intro ga wa hO; clear hf; have hf := hO.cells; simp only [BC, CC, Nat.zero_add, Nat.reduceAdd, and_true] at hf) | ((with_reducible refine at_alloc ?_); refine own_alloc hO zero_iv rfl rfl ?_; clear hO; intro g wb hO; clear hf; have hf := hO.cells; simp only [BC, CC, Nat.zero_add, Nat.reduceAdd, and_true] at hf))
 refine (HR.out _).mono ?_
 rintro e w3 ⟨rfl, hE1⟩
 have hO := hO.ext hE1
 clear hE1
 clear hf
 have hf := hO.cells
 simp only [BC, CC, Nat.zero_add, Nat.reduceAdd, and_true] at hf
 go_wp2_with ((with_reducible refine at_store (T := 32) ?_); refine own_store (T := 32) hO 1 rfl rfl rfl size_iv rfl rfl rfl ?_; clear hO; intro w4 hO; simp only [List.set_cons_zero, List.set_cons_succ, spl, Nat.reduceAdd, Nat.zero_add] at hO; clear hf; have hf := hO.cells; simp only [BC, CC, Nat.zero_add, Nat.reduceAdd, and_true] at hf)
 obtain ⟨S, hS⟩ : ∃ S : World → Prop, S = Own w [⟨g, 32, [.float .f64 0, .float .f64 0]⟩, ⟨ga, 32, [.float .f64 a1, .float .f64 a2]⟩] [] := ⟨_, rfl⟩
 have hSE : ∀ w w', S w → Ext w w' → S w' := fun w w' h1 h2 => by rw [hS] at h1 ⊢; exact h1.ext h2
 have hS1 : S w4.drew := by rw [hS]; exact hO.ext (Ext.refl w4).drew
 have HS := Lib.hid hS
 clear hS hO hf
 obtain ⟨sp, hsp⟩ : ∃ sp : Nat → Sp, sp = ofList [det (.agg #[.float .f64 a1, .float .f64 a2]), det (.agg #[.float .f64 rI, .float .f64 rM]), det (.bool false)] := ⟨_, rfl⟩
 have HSP := Lib.hid hsp
 clear hsp
 refine wp_region_loose 3 S sp (by kernel_rfl) (by kernel_rfl) hS1 hSE ?_
 simp only [List.take_succ_cons, List.take_zero, List.drop_succ_cons, List.drop_zero]
 refine wpX_step (fun K hK => ?_)
 go_simp
 refine StepY.det (by rw [HSP.out]; rfl) ?_ ?_
 · intro wz hz hF
   rw [HS.out] at hz
   have hf := hz.cells
   simp only [BC, CC, Nat.zero_add, Nat.reduceAdd, and_true] at hf
   clear hz hF
   go_simp
   exact ⟨rfl, Ext.refl _⟩
 refine hK _ _ ?_
 clear hK K
 refine wpX_step (fun K hK => ?_)
 go_simp
 refine StepY.det (by rw [HSP.out]; rfl) ?_ ?_
 · intro wz hz hF
   clear hz hF
   go_simp
   refine (HEM.out _).mono ?_
   rintro e w5 ⟨rfl, hE1⟩
   exact ⟨_, rfl, rfl, hE1⟩
 refine hK _ _ ?_
 clear hK K
 refine wpX_step (fun K hK => ?_)
 go_simp
 refine StepY.det (by rw [HSP.out]; rfl) ?_ ?_
 · intro wz hz hF
   clear hz hF
   go_simp
   exact ⟨rfl, Ext.refl _⟩
 refine hK _ _ ?_
 clear hK K
 refine wpX_nil ?_
 intro wq hz hF
 clear hF
 rw [HS.out] at hz
 have hO := hz
 clear hz HS HSP
 have hf := hO.cells
 simp only [BC, CC, Nat.zero_add, Nat.reduceAdd, and_true] at hf
 go_upto_region 11 with fail
 obtain ⟨S, hS⟩ : ∃ S : World → Prop, S = Own w [⟨g, 32, [.float .f64 0, .float .f64 0]⟩, ⟨ga, 32, [.float .f64 a1, .float .f64 a2]⟩] [] := ⟨_, rfl⟩
 have hSE : ∀ w w', S w → Ext w w' → S w' := fun w w' h1 h2 => by rw [hS] at h1 ⊢; exact h1.ext h2
 have hS1 : S wq.drew := by rw [hS]; exact hO.ext (Ext.refl wq).drew
 have HS := Lib.hid hS
 clear hS hO hf
 obtain ⟨sp, hsp⟩ : ∃ sp : Nat → Sp, sp = ofList [det (.pointer (some ⟨ga, 0, none⟩)), det (.float .f64 a1), det (.int .i64 n), det (.float .f64 V1), det (.pointer (some ⟨ga, 1, none⟩)), det (.float .f64 a2), det (.int .i64 n), det (.float .f64 V2), det (.agg #[.float .f64 V1, .float .f64 V2])] := ⟨_, rfl⟩
 have HSP := Lib.hid hsp
 clear hsp
 refine wp_region_loose 9 S sp (by kernel_rfl) (by kernel_rfl) hS1 hSE ?_
 simp only [List.take_succ_cons, List.take_zero, List.drop_succ_cons, List.drop_zero]
 refine wpX_step (fun K hK => ?_)
 go_simp
 refine StepY.det (by rw [HSP.out]; rfl) ?_ ?_
 · intro wz hz hF
   clear hz hF
   go_simp
   exact ⟨rfl, Ext.refl _⟩
 refine hK _ _ ?_
 clear hK K
 refine wpX_step (fun K hK => ?_)
 go_simp
 refine StepY.det (by rw [HSP.out]; rfl) ?_ ?_
 · intro wz hz hF
   rw [HS.out] at hz
   have hf := hz.cells
   simp only [BC, CC, Nat.zero_add, Nat.reduceAdd, and_true] at hf
   clear hz hF
   go_simp
   exact ⟨rfl, Ext.refl _⟩
 refine hK _ _ ?_
 clear hK K
 refine wpX_step (fun K hK => ?_)
 go_simp
 refine StepY.det (by rw [HSP.out]; rfl) ?_ ?_
 · intro wz hz hF
   clear hz hF
   go_simp
   exact ⟨rfl, Ext.refl _⟩
 refine hK _ _ ?_
 clear hK K
 refine wpX_step (fun K hK => ?_)
 go_simp
 refine StepY.det (by rw [HSP.out]; rfl) ?_ ?_
 · intro wz hz hF
   rw [HS.out] at hz
   have hX := hz.toExt
   clear hF hz
   go_simp
   refine (H1.out _ (HT.out.ext hX)).mono ?_
   rintro e w2 ⟨rfl, hE1⟩
   exact ⟨_, rfl, rfl, hE1⟩
 refine hK _ _ ?_
 clear hK K
 refine wpX_step (fun K hK => ?_)
 go_simp
 refine StepY.det (by rw [HSP.out]; rfl) ?_ ?_
 · intro wz hz hF
   clear hz hF
   go_simp
   exact ⟨rfl, Ext.refl _⟩
 refine hK _ _ ?_
 clear hK K
 refine wpX_step (fun K hK => ?_)
 go_simp
 refine StepY.det (by rw [HSP.out]; rfl) ?_ ?_
 · intro wz hz hF
   rw [HS.out] at hz
   have hf := hz.cells
   simp only [BC, CC, Nat.zero_add, Nat.reduceAdd, and_true] at hf
   clear hz hF
   go_simp
   exact ⟨rfl, Ext.refl _⟩
 refine hK _ _ ?_
 clear hK K
 refine wpX_step (fun K hK => ?_)
 go_simp
 refine StepY.det (by rw [HSP.out]; rfl) ?_ ?_
 · intro wz hz hF
   clear hz hF
   go_simp
   exact ⟨rfl, Ext.refl _⟩
 refine hK _ _ ?_
 clear hK K
 refine wpX_step (fun K hK => ?_)
 go_simp
 refine StepY.det (by rw [HSP.out]; rfl) ?_ ?_
 · intro wz hz hF
   rw [HS.out] at hz
   have hX := hz.toExt
   clear hF hz
   go_simp
   refine (H2.out _ (HT.out.ext hX)).mono ?_
   rintro e w2 ⟨rfl, hE1⟩
   exact ⟨_, rfl, rfl, hE1⟩
 refine hK _ _ ?_
 clear hK K
 refine wpX_step (fun K hK => ?_)
 go_simp
 refine StepY.det (by rw [HSP.out]; rfl) ?_ ?_
 · intro wz hz hF
   clear hz hF
   go_simp
   exact ⟨rfl, Ext.refl _⟩
 refine hK _ _ ?_
 clear hK K
 refine wpX_nil ?_
 intro wq hz hF
 clear hF
 rw [HS.out] at hz
 have hO := hz
 clear hz HS HSP
 have hf := hO.cells
 simp only [BC, CC, Nat.zero_add, Nat.reduceAdd, and_true] at hf
 go_wp2_with ((with_reducible refine at_store (T := 32) ?_); refine own_store (T := 32) hO 0 rfl rfl rfl size_iv rfl rfl rfl ?_; clear hO; intro w6 hO; simp only [List.set_cons_zero, List.set_cons_succ, spl, Nat.reduceAdd, Nat.zero_add] at hO; clear hf; have hf := hO.cells; simp only [BC, CC, Nat.zero_add, Nat.reduceAdd, and_true] at hf)
 exact own_ret hO 0 rfl rfl rfl agg_iv size_iv rfl ⟨rfl, hO.toExt⟩
set_option maxHeartbeats 4000000 in
theorem pown_od_ee (x1 x2 a1 a2 : Nat) (n : Int) (w : World) (hTb : Tab w) (HR : Hid (∀ w, Calls Tryz.prog 30 #[.agg #[.float .f64 x1, .float .f64 x2]] w (RetF a1 a2 w))) (hq : ∀ w, (binOp .eql 32 (.agg #[.float .f64 a1, .float .f64 a2]) (.agg #[.float .f64 infR, .float .f64 minf])).run Tryz.prog w = .ok (.bool false) w) (h1 : decide (n < -1024) = false) (h2 : decide (1024 < n) = false) (h3 : (n == 0) = false) (h4 : (n.tmod 2 == 0) = false) (h5 : decide (0 < n) = false) (q1eq : (FloatKind.f64.format.order a1 0 == some .eq) = true) (q2eq : (FloatKind.f64.format.order a2 0 == some .eq) = true) :
   Calls Tryz.prog 15 #[.agg #[.float .f64 x1, .float .f64 x2], .int .i64 n] w (RetF infR minf w) := by
 have HT := Lib.hid hTb
 have HEM := Lib.hid (fun w => iempty_any w)
 have HEN := Lib.hid (fun w => ientire_any w)
 obtain ⟨rI, hrI⟩ : ∃ r, r = infR := ⟨_, rfl⟩
 obtain ⟨rM, hrM⟩ : ∃ r, r = minf := ⟨_, rfl⟩
 rw [← hrI, ← hrM] at HEM HEN hq
 try rw [← hrI, ← hrM]
 clear hTb hrI hrM
 have hO := Own.start w
 have hf : True := trivial
 go_enter Tryz.func15, Tryz.ntmps15
 go_wp2_with (first | ((with_reducible refine at_box ?_); refine own_box (cs := [.float .f64 x1, .float .f64 x2]) hO rfl rfl ?_; clear hO; intro ga wa hO; clear hf; have hf := hO.cells; simp only [BC, CC, Nat.zero_add, Nat.reduceAdd, and_true] at hf) | ((with_reducible refine at_alloc ?_); refine own_alloc hO zero_iv rfl rfl ?_; clear hO; intro g wb hO; clear hf; have hf := hO.cells; simp only [BC, CC, Nat.zero_add, Nat.reduceAdd, and_true] at hf))
 refine (HR.out _).mono ?_
 rintro e w3 ⟨rfl, hE1⟩
 have hO := hO.ext hE1
 clear hE1
 clear hf
 have hf := hO.cells
 simp only [BC, CC, Nat.zero_add, Nat.reduceAdd, and_true] at hf
 go_wp2_with ((with_reducible refine at_store (T := 32) ?_); refine own_store (T := 32) hO 1 rfl rfl rfl size_iv rfl rfl rfl ?_; clear hO; intro w4 hO; simp only [List.set_cons_zero, List.set_cons_succ, spl, Nat.reduceAdd, Nat.zero_add] at hO; clear hf; have hf := hO.cells; simp only [BC, CC, Nat.zero_add, Nat.reduceAdd, and_true] at hf)
 obtain ⟨S, hS⟩ : ∃ S : World → Prop, S = Own w [⟨g, 32, [.float .f64 0, .float .f64 0]⟩, ⟨ga, 32, [.float .f64 a1, .float .f64 a2]⟩] [] := ⟨_, rfl⟩
 have hSE : ∀ w w', S w → Ext w w' → S w' := fun w w' h1 h2 => by rw [hS] at h1 ⊢; exact h1.ext h2
 have hS1 : S w4.drew := by rw [hS]; exact hO.ext (Ext.refl w4).drew
 have HS := Lib.hid hS
 clear hS hO hf
 obtain ⟨sp, hsp⟩ : ∃ sp : Nat → Sp, sp = ofList [det (.agg #[.float .f64 a1, .float .f64 a2]), det (.agg #[.float .f64 rI, .float .f64 rM]), det (.bool false)] := ⟨_, rfl⟩
 have HSP := Lib.hid hsp
 clear hsp
 refine wp_region_loose 3 S sp (by kernel_rfl) (by kernel_rfl) hS1 hSE ?_
 simp only [List.take_succ_cons, List.take_zero, List.drop_succ_cons, List.drop_zero]
 refine wpX_step (fun K hK => ?_)
 go_simp
 refine StepY.det (by rw [HSP.out]; rfl) ?_ ?_
 · intro wz hz hF
   rw [HS.out] at hz
   have hf := hz.cells
   simp only [BC, CC, Nat.zero_add, Nat.reduceAdd, and_true] at hf
   clear hz hF
   go_simp
   exact ⟨rfl, Ext.refl _⟩
 refine hK _ _ ?_
 clear hK K
 refine wpX_step (fun K hK => ?_)
 go_simp
 refine StepY.det (by rw [HSP.out]; rfl) ?_ ?_
 · intro wz hz hF
   clear hz hF
   go_simp
   refine (HEM.out _).mono ?_
   rintro e w5 ⟨rfl, hE1⟩
   exact ⟨_, rfl, rfl, hE1⟩
 refine hK _ _ ?_
 clear hK K
 refine wpX_step (fun K hK => ?_)
 go_simp
 refine StepY.det (by rw [HSP.out]; rfl) ?_ ?_
 · intro wz hz hF
   clear hz hF
   go_simp
   exact ⟨rfl, Ext.refl _⟩
 refine hK _ _ ?_
 clear hK K
 refine wpX_nil ?_
 intro wq hz hF
 clear hF
 rw [HS.out] at hz
 have hO := hz
 clear hz HS HSP
 have hf := hO.cells
 simp only [BC, CC, Nat.zero_add, Nat.reduceAdd, and_true] at hf
 go_wp2_with fail
 refine (HEM.out _).mono ?_
 rintro e w5 ⟨rfl, hE1⟩
 have hO := hO.ext hE1
 clear hE1
 clear hf
 have hf := hO.cells
 simp only [BC, CC, Nat.zero_add, Nat.reduceAdd, and_true] at hf
 go_wp2_with ((with_reducible refine at_store (T := 32) ?_); refine own_store (T := 32) hO 0 rfl rfl rfl size_iv rfl rfl rfl ?_; clear hO; intro w6 hO; simp only [List.set_cons_zero, List.set_cons_succ, spl, Nat.reduceAdd, Nat.zero_add] at hO; clear hf; have hf := hO.cells; simp only [BC, CC, Nat.zero_add, Nat.reduceAdd, and_true] at hf)
 exact own_ret hO 0 rfl rfl rfl agg_iv size_iv rfl ⟨rfl, hO.toExt⟩
set_option maxHeartbeats 4000000 in
theorem pown_od_en (x1 x2 a1 a2 : Nat) (n : Int) (w : World) (hTb : Tab w) (HR : Hid (∀ w, Calls Tryz.prog 30 #[.agg #[.float .f64 x1, .float .f64 x2]] w (RetF a1 a2 w))) (hq : ∀ w, (binOp .eql 32 (.agg #[.float .f64 a1, .float .f64 a2]) (.agg #[.float .f64 infR, .float .f64 minf])).run Tryz.prog w = .ok (.bool false) w) (h1 : decide (n < -1024) = false) (h2 : decide (1024 < n) = false) (h3 : (n == 0) = false) (h4 : (n.tmod 2 == 0) = false) (h5 : decide (0 < n) = false) (q1eq : (FloatKind.f64.format.order a1 0 == some .eq) = false) (q1lt : (FloatKind.f64.format.order a1 0 == some .lt) = true) (q2gt : (FloatKind.f64.format.order a2 0 == some .gt) = true) :
   Calls Tryz.prog 15 #[.agg #[.float .f64 x1, .float .f64 x2], .int .i64 n] w (RetF minf infR w) := by
 have HT := Lib.hid hTb
 have HEM := Lib.hid (fun w => iempty_any w)
 have HEN := Lib.hid (fun w => ientire_any w)
 obtain ⟨rI, hrI⟩ : ∃ r, r = infR := ⟨_, rfl⟩
 obtain ⟨rM, hrM⟩ : ∃ r, r = minf := ⟨_, rfl⟩
 rw [← hrI, ← hrM] at HEM HEN hq
 try rw [← hrI, ← hrM]
 clear hTb hrI hrM
 have hO := Own.start w
 have hf : True := trivial
 go_enter Tryz.func15, Tryz.ntmps15
 go_wp2_with (first | ((with_reducible refine at_box ?_); refine own_box (cs := [.float .f64 x1, .float .f64 x2]) hO rfl rfl ?_; clear hO; intro ga wa hO; clear hf; have hf := hO.cells; simp only [BC, CC, Nat.zero_add, Nat.reduceAdd, and_true] at hf) | ((with_reducible refine at_alloc ?_); refine own_alloc hO zero_iv rfl rfl ?_; clear hO; intro g wb hO; clear hf; have hf := hO.cells; simp only [BC, CC, Nat.zero_add, Nat.reduceAdd, and_true] at hf))
 refine (HR.out _).mono ?_
 rintro e w3 ⟨rfl, hE1⟩
 have hO := hO.ext hE1
 clear hE1
 clear hf
 have hf := hO.cells
 simp only [BC, CC, Nat.zero_add, Nat.reduceAdd, and_true] at hf
 go_wp2_with ((with_reducible refine at_store (T := 32) ?_); refine own_store (T := 32) hO 1 rfl rfl rfl size_iv rfl rfl rfl ?_; clear hO; intro w4 hO; simp only [List.set_cons_zero, List.set_cons_succ, spl, Nat.reduceAdd, Nat.zero_add] at hO; clear hf; have hf := hO.cells; simp only [BC, CC, Nat.zero_add, Nat.reduceAdd, and_true] at hf)
 obtain ⟨S, hS⟩ : ∃ S : World → Prop, S = Own w [⟨g, 32, [.float .f64 0, .float .f64 0]⟩, ⟨ga, 32, [.float .f64 a1, .float .f64 a2]⟩] [] := ⟨_, rfl⟩
 have hSE : ∀ w w', S w → Ext w w' → S w' := fun w w' h1 h2 => by rw [hS] at h1 ⊢; exact h1.ext h2
 have hS1 : S w4.drew := by rw [hS]; exact hO.ext (Ext.refl w4).drew
 have HS := Lib.hid hS
 clear hS hO hf
 obtain ⟨sp, hsp⟩ : ∃ sp : Nat → Sp, sp = ofList [det (.agg #[.float .f64 a1, .float .f64 a2]), det (.agg #[.float .f64 rI, .float .f64 rM]), det (.bool false)] := ⟨_, rfl⟩
 have HSP := Lib.hid hsp
 clear hsp
 refine wp_region_loose 3 S sp (by kernel_rfl) (by kernel_rfl) hS1 hSE ?_
 simp only [List.take_succ_cons, List.take_zero, List.drop_succ_cons, List.drop_zero]
 refine wpX_step (fun K hK => ?_)
 go_simp
 refine StepY.det (by rw [HSP.out]; rfl) ?_ ?_
 · intro wz hz hF
   rw [HS.out] at hz
   have hf := hz.cells
   simp only [BC, CC, Nat.zero_add, Nat.reduceAdd, and_true] at hf
   clear hz hF
   go_simp
   exact ⟨rfl, Ext.refl _⟩
 refine hK _ _ ?_
 clear hK K
 refine wpX_step (fun K hK => ?_)
 go_simp
 refine StepY.det (by rw [HSP.out]; rfl) ?_ ?_
 · intro wz hz hF
   clear hz hF
   go_simp
   refine (HEM.out _).mono ?_
   rintro e w5 ⟨rfl, hE1⟩
   exact ⟨_, rfl, rfl, hE1⟩
 refine hK _ _ ?_
 clear hK K
 refine wpX_step (fun K hK => ?_)
 go_simp
 refine StepY.det (by rw [HSP.out]; rfl) ?_ ?_
 · intro wz hz hF
   clear hz hF
   go_simp
   exact ⟨rfl, Ext.refl _⟩
 refine hK _ _ ?_
 clear hK K
 refine wpX_nil ?_
 intro wq hz hF
 clear hF
 rw [HS.out] at hz
 have hO := hz
 clear hz HS HSP
 have hf := hO.cells
 simp only [BC, CC, Nat.zero_add, Nat.reduceAdd, and_true] at hf
 go_wp2_with fail
 refine (HEN.out _).mono ?_
 rintro e w5 ⟨rfl, hE1⟩
 have hO := hO.ext hE1
 clear hE1
 clear hf
 have hf := hO.cells
 simp only [BC, CC, Nat.zero_add, Nat.reduceAdd, and_true] at hf
 go_wp2_with ((with_reducible refine at_store (T := 32) ?_); refine own_store (T := 32) hO 0 rfl rfl rfl size_iv rfl rfl rfl ?_; clear hO; intro w6 hO; simp only [List.set_cons_zero, List.set_cons_succ, spl, Nat.reduceAdd, Nat.zero_add] at hO; clear hf; have hf := hO.cells; simp only [BC, CC, Nat.zero_add, Nat.reduceAdd, and_true] at hf)
 exact own_ret hO 0 rfl rfl rfl agg_iv size_iv rfl ⟨rfl, hO.toExt⟩
set_option maxHeartbeats 4000000 in
theorem pown_od_nA (x1 x2 a1 a2 : Nat) (n : Int) (w : World) (hTb : Tab w) (HR : Hid (∀ w, Calls Tryz.prog 30 #[.agg #[.float .f64 x1, .float .f64 x2]] w (RetF a1 a2 w))) (hq : ∀ w, (binOp .eql 32 (.agg #[.float .f64 a1, .float .f64 a2]) (.agg #[.float .f64 infR, .float .f64 minf])).run Tryz.prog w = .ok (.bool false) w) (h1 : decide (n < -1024) = false) (h2 : decide (1024 < n) = false) (h3 : (n == 0) = false) (h4 : (n.tmod 2 == 0) = false) (h5 : decide (0 < n) = false) (q1eq : (FloatKind.f64.format.order a1 0 == some .eq) = false) (q1lt : (FloatKind.f64.format.order a1 0 == some .lt) = false) (r2 : (FloatKind.f64.format.order a2 0 != some .eq) = true) (r1 : (FloatKind.f64.format.order a1 0 != some .eq) = true) (V1 V2 : Nat) (H1 : Hid (PowTo (-1) a2 n V1)) (H2 : Hid (PowTo 1 a1 n V2)) :
   Calls Tryz.prog 15 #[.agg #[.float .f64 x1, .float .f64 x2], .int .i64 n] w (RetF V1 V2 w) := by
 have HT := Lib.hid hTb
 have HEM := Lib.hid (fun w => iempty_any w)
 have HEN := Lib.hid (fun w => ientire_any w)
 obtain ⟨rI, hrI⟩ : ∃ r, r = infR := ⟨_, rfl⟩
 obtain ⟨rM, hrM⟩ : ∃ r, r = minf := ⟨_, rfl⟩
 rw [← hrI, ← hrM] at HEM HEN hq
 clear hTb hrI hrM
 have hO := Own.start w
 have hf : True := trivial
 go_enter Tryz.func15, Tryz.ntmps15
 go_wp2_with (first | ((with_reducible refine at_box ?_); refine own_box (cs := [.float .f64 x1, .float .f64 x2]) hO rfl rfl ?_; clear hO; intro ga wa hO; clear hf; have hf := hO.cells; simp only [BC, CC, Nat.zero_add, Nat.reduceAdd, and_true] at hf) | ((with_reducible refine at_alloc ?_); refine own_alloc hO zero_iv rfl rfl ?_; clear hO; intro g wb hO; clear hf; have hf := hO.cells; simp only [BC, CC, Nat.zero_add, Nat.reduceAdd, and_true] at hf))
 refine (HR.out _).mono ?_
 rintro e w3 ⟨rfl, hE1⟩
 have hO := hO.ext hE1
 clear hE1
 clear hf
 have hf := hO.cells
 simp only [BC, CC, Nat.zero_add, Nat.reduceAdd, and_true] at hf
 go_wp2_with ((with_reducible refine at_store (T := 32) ?_); refine own_store (T := 32) hO 1 rfl rfl rfl size_iv rfl rfl rfl ?_; clear hO; intro w4 hO; simp only [List.set_cons_zero, List.set_cons_succ, spl, Nat.reduceAdd, Nat.zero_add] at hO; clear hf; have hf := hO.cells; simp only [BC, CC, Nat.zero_add, Nat.reduceAdd, and_true] at hf)
 obtain ⟨S, hS⟩ : ∃ S : World → Prop, S = Own w [⟨g, 32, [.float .f64 0, .float .f64 0]⟩, ⟨ga, 32, [.float .f64 a1, .float .f64 a2]⟩] [] := ⟨_, rfl⟩
 have hSE : ∀ w w', S w → Ext w w' → S w' := fun w w' h1 h2 => by rw [hS] at h1 ⊢; exact h1.ext h2
 have hS1 : S w4.drew := by rw [hS]; exact hO.ext (Ext.refl w4).drew
 have HS := Lib.hid hS
 clear hS hO hf
 obtain ⟨sp, hsp⟩ : ∃ sp : Nat → Sp, sp = ofList [det (.agg #[.float .f64 a1, .float .f64 a2]), det (.agg #[.float .f64 rI, .float .f64 rM]), det (.bool false)] := ⟨_, rfl⟩
 have HSP := Lib.hid hsp
 clear hsp
 refine wp_region_loose 3 S sp (by kernel_rfl) (by kernel_rfl) hS1 hSE ?_
 simp only [List.take_succ_cons, List.take_zero, List.drop_succ_cons, List.drop_zero]
 refine wpX_step (fun K hK => ?_)
 go_simp
 refine StepY.det (by rw [HSP.out]; rfl) ?_ ?_
 · intro wz hz hF
   rw [HS.out] at hz
   have hf := hz.cells
   simp only [BC, CC, Nat.zero_add, Nat.reduceAdd, and_true] at hf
   clear hz hF
   go_simp
   exact ⟨rfl, Ext.refl _⟩
 refine hK _ _ ?_
 clear hK K
 refine wpX_step (fun K hK => ?_)
 go_simp
 refine StepY.det (by rw [HSP.out]; rfl) ?_ ?_
 · intro wz hz hF
   clear hz hF
   go_simp
   refine (HEM.out _).mono ?_
   rintro e w5 ⟨rfl, hE1⟩
   exact ⟨_, rfl, rfl, hE1⟩
 refine hK _ _ ?_
 clear hK K
 refine wpX_step (fun K hK => ?_)
 go_simp
 refine StepY.det (by rw [HSP.out]; rfl) ?_ ?_
 · intro wz hz hF
   clear hz hF
   go_simp
   exact ⟨rfl, Ext.refl _⟩
 refine hK _ _ ?_
 clear hK K
 refine wpX_nil ?_
 intro wq hz hF
 clear hF
 rw [HS.out] at hz
 have hO := hz
 clear hz HS HSP
 have hf := hO.cells
 simp only [BC, CC, Nat.zero_add, Nat.reduceAdd, and_true] at hf
 go_wp2_with (first | ((go_at_call 40); ((with_reducible refine (inf_m _).mono ?_); rintro e w' ⟨rfl, rfl⟩)) | ((go_at_call 40); ((with_reducible refine (inf_p _).mono ?_); rintro e w' ⟨rfl, rfl⟩)) | ((with_reducible refine at_alloc ?_); refine own_alloc hO zero_iv rfl rfl ?_; clear hO; intro gy w7 hO; clear hf; have hf := hO.cells; simp only [BC, CC, Nat.zero_add, Nat.reduceAdd, and_true] at hf) | ((with_reducible refine at_store (T := 32) ?_); refine own_store (T := 32) hO 0 rfl rfl rfl size_iv rfl rfl rfl ?_; clear hO; intro w8 hO; simp only [List.set_cons_zero, List.set_cons_succ, spl, Nat.reduceAdd, Nat.zero_add] at hO; clear hf; have hf := hO.cells; simp only [BC, CC, Nat.zero_add, Nat.reduceAdd, and_true] at hf))
 refine (H1.out _ (HT.out.ext hO.toExt)).mono ?_
 rintro e w9 ⟨rfl, hE1⟩
 have hO := hO.ext hE1
 clear hE1
 clear hf
 have hf := hO.cells
 simp only [BC, CC, Nat.zero_add, Nat.reduceAdd, and_true] at hf
 go_wp2_with (first | ((with_reducible refine at_store (T := 30) ?_); refine own_store (vs := [.float .f64 V1]) (T := 30) hO 0 rfl rfl rfl size_f64 rfl rfl rfl ?_; clear hO; intro w10 hO; simp only [List.set_cons_zero, List.set_cons_succ, spl, Nat.reduceAdd, Nat.zero_add] at hO; clear hf; have hf := hO.cells; simp only [BC, CC, Nat.zero_add, Nat.reduceAdd, and_true] at hf) | ((with_reducible refine at_store (T := 32) ?_); refine own_store (T := 32) hO 1 rfl rfl rfl size_iv rfl rfl rfl ?_; clear hO; intro w12 hO; simp only [List.set_cons_zero, List.set_cons_succ, spl, Nat.reduceAdd, Nat.zero_add] at hO; clear hf; have hf := hO.cells; simp only [BC, CC, Nat.zero_add, Nat.reduceAdd, and_true] at hf))
 refine (H2.out _ (HT.out.ext hO.toExt)).mono ?_
 rintro e w9 ⟨rfl, hE1⟩
 have hO := hO.ext hE1
 clear hE1
 clear hf
 have hf := hO.cells
 simp only [BC, CC, Nat.zero_add, Nat.reduceAdd, and_true] at hf
 go_wp2_with (first | ((with_reducible refine at_store (T := 30) ?_); refine own_store (vs := [.float .f64 V2]) (T := 30) hO 0 rfl rfl rfl size_f64 rfl rfl rfl ?_; clear hO; intro w11 hO; simp only [List.set_cons_zero, List.set_cons_succ, spl, Nat.reduceAdd, Nat.zero_add] at hO; clear hf; have hf := hO.cells; simp only [BC, CC, Nat.zero_add, Nat.reduceAdd, and_true] at hf) | ((with_reducible refine at_store (T := 32) ?_); refine own_store (T := 32) hO 1 rfl rfl rfl size_iv rfl rfl rfl ?_; clear hO; intro w12 hO; simp only [List.set_cons_zero, List.set_cons_succ, spl, Nat.reduceAdd, Nat.zero_add] at hO; clear hf; have hf := hO.cells; simp only [BC, CC, Nat.zero_add, Nat.reduceAdd, and_true] at hf))
 exact own_ret hO 1 rfl rfl rfl agg_iv size_iv rfl ⟨rfl, hO.toExt⟩
set_option maxHeartbeats 4000000 in
theorem pown_od_nB (x1 x2 a1 a2 : Nat) (n : Int) (w : World) (hTb : Tab w) (HR : Hid (∀ w, Calls Tryz.prog 30 #[.agg #[.float .f64 x1, .float .f64 x2]] w (RetF a1 a2 w))) (hq : ∀ w, (binOp .eql 32 (.agg #[.float .f64 a1, .float .f64 a2]) (.agg #[.float .f64 infR, .float .f64 minf])).run Tryz.prog w = .ok (.bool false) w) (h1 : decide (n < -1024) = false) (h2 : decide (1024 < n) = false) (h3 : (n == 0) = false) (h4 : (n.tmod 2 == 0) = false) (h5 : decide (0 < n) = false) (q1eq : (FloatKind.f64.format.order a1 0 == some .eq) = false) (q1lt : (FloatKind.f64.format.order a1 0 == some .lt) = true) (q2gt : (FloatKind.f64.format.order a2 0 == some .gt) = false) (r2 : (FloatKind.f64.format.order a2 0 != some .eq) = true) (r1 : (FloatKind.f64.format.order a1 0 != some .eq) = true) (V1 V2 : Nat) (H1 : Hid (PowTo (-1) a2 n V1)) (H2 : Hid (PowTo 1 a1 n V2)) :
   Calls Tryz.prog 15 #[.agg #[.float .f64 x1, .float .f64 x2], .int .i64 n] w (RetF V1 V2 w) := by
 have HT := Lib.hid hTb
 have HEM := Lib.hid (fun w => iempty_any w)
 have HEN := Lib.hid (fun w => ientire_any w)
 obtain ⟨rI, hrI⟩ : ∃ r, r = infR := ⟨_, rfl⟩
 obtain ⟨rM, hrM⟩ : ∃ r, r = minf := ⟨_, rfl⟩
 rw [← hrI, ← hrM] at HEM HEN hq
 clear hTb hrI hrM
 have hO := Own.start w
 have hf : True := trivial
 go_enter Tryz.func15, Tryz.ntmps15
 go_wp2_with (first | ((with_reducible refine at_box ?_); refine own_box (cs := [.float .f64 x1, .float .f64 x2]) hO rfl rfl ?_; clear hO; intro ga wa hO; clear hf; have hf := hO.cells; simp only [BC, CC, Nat.zero_add, Nat.reduceAdd, and_true] at hf) | ((with_reducible refine at_alloc ?_); refine own_alloc hO zero_iv rfl rfl ?_; clear hO; intro g wb hO; clear hf; have hf := hO.cells; simp only [BC, CC, Nat.zero_add, Nat.reduceAdd, and_true] at hf))
 refine (HR.out _).mono ?_
 rintro e w3 ⟨rfl, hE1⟩
 have hO := hO.ext hE1
 clear hE1
 clear hf
 have hf := hO.cells
 simp only [BC, CC, Nat.zero_add, Nat.reduceAdd, and_true] at hf
 go_wp2_with ((with_reducible refine at_store (T := 32) ?_); refine own_store (T := 32) hO 1 rfl rfl rfl size_iv rfl rfl rfl ?_; clear hO; intro w4 hO; simp only [List.set_cons_zero, List.set_cons_succ, spl, Nat.reduceAdd, Nat.zero_add] at hO; clear hf; have hf := hO.cells; simp only [BC, CC, Nat.zero_add, Nat.reduceAdd, and_true] at hf)
 obtain ⟨S, hS⟩ : ∃ S : World → Prop, S = Own w [⟨g, 32, [.float .f64 0, .float .f64 0]⟩, ⟨ga, 32, [.float .f64 a1, .float .f64 a2]⟩] [] := ⟨_, rfl⟩
 have hSE : ∀ w w', S w → Ext w w' → S w' := fun w w' h1 h2 => by rw [hS] at h1 ⊢; exact h1.ext h2
 have hS1 : S w4.drew := by rw [hS]; exact hO.ext (Ext.refl w4).drew
 have HS := Lib.hid hS
 clear hS hO hf
 obtain ⟨sp, hsp⟩ : ∃ sp : Nat → Sp, sp = ofList [det (.agg #[.float .f64 a1, .float .f64 a2]), det (.agg #[.float .f64 rI, .float .f64 rM]), det (.bool false)] := ⟨_, rfl⟩
 have HSP := Lib.hid hsp
 clear hsp
 refine wp_region_loose 3 S sp (by kernel_rfl) (by kernel_rfl) hS1 hSE ?_
 simp only [List.take_succ_cons, List.take_zero, List.drop_succ_cons, List.drop_zero]
 refine wpX_step (fun K hK => ?_)
 go_simp
 refine StepY.det (by rw [HSP.out]; rfl) ?_ ?_
 · intro wz hz hF
   rw [HS.out] at hz
   have hf := hz.cells
   simp only [BC, CC, Nat.zero_add, Nat.reduceAdd, and_true] at hf
   clear hz hF
   go_simp
   exact ⟨rfl, Ext.refl _⟩
 refine hK _ _ ?_
 clear hK K
 refine wpX_step (fun K hK => ?_)
 go_simp
 refine StepY.det (by rw [HSP.out]; rfl) ?_ ?_
 · intro wz hz hF
   clear hz hF
   go_simp
   refine (HEM.out _).mono ?_
   rintro e w5 ⟨rfl, hE1⟩
   exact ⟨_, rfl, rfl, hE1⟩
 refine hK _ _ ?_
 clear hK K
 refine wpX_step (fun K hK => ?_)
 go_simp
 refine StepY.det (by rw [HSP.out]; rfl) ?_ ?_
 · intro wz hz hF
   clear hz hF
   go_simp
   exact ⟨rfl, Ext.refl _⟩
 refine hK _ _ ?_
 clear hK K
 refine wpX_nil ?_
 intro wq hz hF
 clear hF
 rw [HS.out] at hz
 have hO := hz
 clear hz HS HSP
 have hf := hO.cells
 simp only [BC, CC, Nat.zero_add, Nat.reduceAdd, and_true] at hf
 go_wp2_with (first | ((go_at_call 40); ((with_reducible refine (inf_m _).mono ?_); rintro e w' ⟨rfl, rfl⟩)) | ((go_at_call 40); ((with_reducible refine (inf_p _).mono ?_); rintro e w' ⟨rfl, rfl⟩)) | ((with_reducible refine at_alloc ?_); refine own_alloc hO zero_iv rfl rfl ?_; clear hO; intro gy w7 hO; clear hf; have hf := hO.cells; simp only [BC, CC, Nat.zero_add, Nat.reduceAdd, and_true] at hf) | ((with_reducible refine at_store (T := 32) ?_); refine own_store (T := 32) hO 0 rfl rfl rfl size_iv rfl rfl rfl ?_; clear hO; intro w8 hO; simp only [List.set_cons_zero, List.set_cons_succ, spl, Nat.reduceAdd, Nat.zero_add] at hO; clear hf; have hf := hO.cells; simp only [BC, CC, Nat.zero_add, Nat.reduceAdd, and_true] at hf))
 refine (H1.out _ (HT.out.ext hO.toExt)).mono ?_
 rintro e w9 ⟨rfl, hE1⟩
 have hO := hO.ext hE1
 clear hE1
 clear hf
 have hf := hO.cells
 simp only [BC, CC, Nat.zero_add, Nat.reduceAdd, and_true] at hf
 go_wp2_with (first | ((with_reducible refine at_store (T := 30) ?_); refine own_store (vs := [.float .f64 V1]) (T := 30) hO 0 rfl rfl rfl size_f64 rfl rfl rfl ?_; clear hO; intro w10 hO; simp only [List.set_cons_zero, List.set_cons_succ, spl, Nat.reduceAdd, Nat.zero_add] at hO; clear hf; have hf := hO.cells; simp only [BC, CC, Nat.zero_add, Nat.reduceAdd, and_true] at hf) | ((with_reducible refine at_store (T := 32) ?_); refine own_store (T := 32) hO 1 rfl rfl rfl size_iv rfl rfl rfl ?_; clear hO; intro w12 hO; simp only [List.set_cons_zero, List.set_cons_succ, spl, Nat.reduceAdd, Nat.zero_add] at hO; clear hf; have hf := hO.cells; simp only [BC, CC, Nat.zero_add, Nat.reduceAdd, and_true] at hf))
 refine (H2.out _ (HT.out.ext hO.toExt)).mono ?_
 rintro e w9 ⟨rfl, hE1⟩
 have hO := hO.ext hE1
 clear hE1
 clear hf
 have hf := hO.cells
 simp only [BC, CC, Nat.zero_add, Nat.reduceAdd, and_true] at hf
 go_wp2_with (first | ((with_reducible refine at_store (T := 30) ?_); refine own_store (vs := [.float .f64 V2]) (T := 30) hO 0 rfl rfl rfl size_f64 rfl rfl rfl ?_; clear hO; intro w11 hO; simp only [List.set_cons_zero, List.set_cons_succ, spl, Nat.reduceAdd, Nat.zero_add] at hO; clear hf; have hf := hO.cells; simp only [BC, CC, Nat.zero_add, Nat.reduceAdd, and_true] at hf) | ((with_reducible refine at_store (T := 32) ?_); refine own_store (T := 32) hO 1 rfl rfl rfl size_iv rfl rfl rfl ?_; clear hO; intro w12 hO; simp only [List.set_cons_zero, List.set_cons_succ, spl, Nat.reduceAdd, Nat.zero_add] at hO; clear hf; have hf := hO.cells; simp only [BC, CC, Nat.zero_add, Nat.reduceAdd, and_true] at hf))
 exact own_ret hO 1 rfl rfl rfl agg_iv size_iv rfl ⟨rfl, hO.toExt⟩
set_option maxHeartbeats 4000000 in
theorem pown_od_nC (x1 x2 a1 a2 : Nat) (n : Int) (w : World) (hTb : Tab w) (HR : Hid (∀ w, Calls Tryz.prog 30 #[.agg #[.float .f64 x1, .float .f64 x2]] w (RetF a1 a2 w))) (hq : ∀ w, (binOp .eql 32 (.agg #[.float .f64 a1, .float .f64 a2]) (.agg #[.float .f64 infR, .float .f64 minf])).run Tryz.prog w = .ok (.bool false) w) (h1 : decide (n < -1024) = false) (h2 : decide (1024 < n) = false) (h3 : (n == 0) = false) (h4 : (n.tmod 2 == 0) = false) (h5 : decide (0 < n) = false) (q1eq : (FloatKind.f64.format.order a1 0 == some .eq) = false) (q1lt : (FloatKind.f64.format.order a1 0 == some .lt) = true) (q2gt : (FloatKind.f64.format.order a2 0 == some .gt) = false) (r2 : (FloatKind.f64.format.order a2 0 != some .eq) = false) (r1 : (FloatKind.f64.format.order a1 0 != some .eq) = true) (V1 V2 : Nat) (H2 : Hid (PowTo 1 a1 n V2)) :
   Calls Tryz.prog 15 #[.agg #[.float .f64 x1, .float .f64 x2], .int .i64 n] w (RetF minf V2 w) := by
 have HT := Lib.hid hTb
 have HEM := Lib.hid (fun w => iempty_any w)
 have HEN := Lib.hid (fun w => ientire_any w)
 obtain ⟨rI, hrI⟩ : ∃ r, r = infR := ⟨_, rfl⟩
 obtain ⟨rM, hrM⟩ : ∃ r, r = minf := ⟨_, rfl⟩
 rw [← hrI, ← hrM] at HEM HEN hq
 clear hTb hrI hrM
 have hO := Own.start w
 have hf : True := trivial
 go_enter Tryz.func15, Tryz.ntmps15
 go_wp2_with (first | ((with_reducible refine at_box ?_); refine own_box (cs := [.float .f64 x1, .float .f64 x2]) hO rfl rfl ?_; clear hO; intro ga wa hO; clear hf; have hf := hO.cells; simp only [BC, CC, Nat.zero_add, Nat.reduceAdd, and_true] at hf) | ((with_reducible refine at_alloc ?_); refine own_alloc hO zero_iv rfl rfl ?_; clear hO; intro g wb hO; clear hf; have hf := hO.cells; simp only [BC, CC, Nat.zero_add, Nat.reduceAdd, and_true] at hf))
 refine (HR.out _).mono ?_
 rintro e w3 ⟨rfl, hE1⟩
 have hO := hO.ext hE1
 clear hE1
 clear hf
 have hf := hO.cells
 simp only [BC, CC, Nat.zero_add, Nat.reduceAdd, and_true] at hf
 go_wp2_with ((with_reducible refine at_store (T := 32) ?_); refine own_store (T := 32) hO 1 rfl rfl rfl size_iv rfl rfl rfl ?_; clear hO; intro w4 hO; simp only [List.set_cons_zero, List.set_cons_succ, spl, Nat.reduceAdd, Nat.zero_add] at hO; clear hf; have hf := hO.cells; simp only [BC, CC, Nat.zero_add, Nat.reduceAdd, and_true] at hf)
 obtain ⟨S, hS⟩ : ∃ S : World → Prop, S = Own w [⟨g, 32, [.float .f64 0, .float .f64 0]⟩, ⟨ga, 32, [.float .f64 a1, .float .f64 a2]⟩] [] := ⟨_, rfl⟩
 have hSE : ∀ w w', S w → Ext w w' → S w' := fun w w' h1 h2 => by rw [hS] at h1 ⊢; exact h1.ext h2
 have hS1 : S w4.drew := by rw [hS]; exact hO.ext (Ext.refl w4).drew
 have HS := Lib.hid hS
 clear hS hO hf
 obtain ⟨sp, hsp⟩ : ∃ sp : Nat → Sp, sp = ofList [det (.agg #[.float .f64 a1, .float .f64 a2]), det (.agg #[.float .f64 rI, .float .f64 rM]), det (.bool false)] := ⟨_, rfl⟩
 have HSP := Lib.hid hsp
 clear hsp
 refine wp_region_loose 3 S sp (by kernel_rfl) (by kernel_rfl) hS1 hSE ?_
 simp only [List.take_succ_cons, List.take_zero, List.drop_succ_cons, List.drop_zero]
 refine wpX_step (fun K hK => ?_)
 go_simp
 refine StepY.det (by rw [HSP.out]; rfl) ?_ ?_
 · intro wz hz hF
   rw [HS.out] at hz
   have hf := hz.cells
   simp only [BC, CC, Nat.zero_add, Nat.reduceAdd, and_true] at hf
   clear hz hF
   go_simp
   exact ⟨rfl, Ext.refl _⟩
 refine hK _ _ ?_
 clear hK K
 refine wpX_step (fun K hK => ?_)
 go_simp
 refine StepY.det (by rw [HSP.out]; rfl) ?_ ?_
 · intro wz hz hF
   clear hz hF
   go_simp
   refine (HEM.out _).mono ?_
   rintro e w5 ⟨rfl, hE1⟩
   exact ⟨_, rfl, rfl, hE1⟩
 refine hK _ _ ?_
 clear hK K
 refine wpX_step (fun K hK => ?_)
 go_simp
 refine StepY.det (by rw [HSP.out]; rfl) ?_ ?_
 · intro wz hz hF
   clear hz hF
   go_simp
   exact ⟨rfl, Ext.refl _⟩
 refine hK _ _ ?_
 clear hK K
 refine wpX_nil ?_
 intro wq hz hF
 clear hF
 rw [HS.out] at hz
 have hO := hz
 clear hz HS HSP
 have hf := hO.cells
 simp only [BC, CC, Nat.zero_add, Nat.reduceAdd, and_true] at hf
 go_wp2_with (first | ((go_at_call 40); ((with_reducible refine (inf_m _).mono ?_); rintro e w' ⟨rfl, rfl⟩)) | ((go_at_call 40); ((with_reducible refine (inf_p _).mono ?_); rintro e w' ⟨rfl, rfl⟩)) | ((with_reducible refine at_alloc ?_); refine own_alloc hO zero_iv rfl rfl ?_; clear hO; intro gy w7 hO; clear hf; have hf := hO.cells; simp only [BC, CC, Nat.zero_add, Nat.reduceAdd, and_true] at hf) | ((with_reducible refine at_store (T := 32) ?_); refine own_store (T := 32) hO 0 rfl rfl rfl size_iv rfl rfl rfl ?_; clear hO; intro w8 hO; simp only [List.set_cons_zero, List.set_cons_succ, spl, Nat.reduceAdd, Nat.zero_add] at hO; clear hf; have hf := hO.cells; simp only [BC, CC, Nat.zero_add, Nat.reduceAdd, and_true] at hf))
 refine (H2.out _ (HT.out.ext hO.toExt)).mono ?_
 rintro e w9 ⟨rfl, hE1⟩
 have hO := hO.ext hE1
 clear hE1
 clear hf
 have hf := hO.cells
 simp only [BC, CC, Nat.zero_add, Nat.reduceAdd, and_true] at hf
 go_wp2_with (first | ((with_reducible refine at_store (T := 30) ?_); refine own_store (vs := [.float .f64 V2]) (T := 30) hO 0 rfl rfl rfl size_f64 rfl rfl rfl ?_; clear hO; intro w11 hO; simp only [List.set_cons_zero, List.set_cons_succ, spl, Nat.reduceAdd, Nat.zero_add] at hO; clear hf; have hf := hO.cells; simp only [BC, CC, Nat.zero_add, Nat.reduceAdd, and_true] at hf) | ((with_reducible refine at_store (T := 32) ?_); refine own_store (T := 32) hO 1 rfl rfl rfl size_iv rfl rfl rfl ?_; clear hO; intro w12 hO; simp only [List.set_cons_zero, List.set_cons_succ, spl, Nat.reduceAdd, Nat.zero_add] at hO; clear hf; have hf := hO.cells; simp only [BC, CC, Nat.zero_add, Nat.reduceAdd, and_true] at hf))
 exact own_ret hO 1 rfl rfl rfl agg_iv size_iv rfl ⟨rfl, hO.toExt⟩
set_option maxHeartbeats 4000000 in
theorem pown_od_nD (x1 x2 a1 a2 : Nat) (n : Int) (w : World) (hTb : Tab w) (HR : Hid (∀ w, Calls Tryz.prog 30 #[.agg #[.float .f64 x1, .float .f64 x2]] w (RetF a1 a2 w))) (hq : ∀ w, (binOp .eql 32 (.agg #[.float .f64 a1, .float .f64 a2]) (.agg #[.float .f64 infR, .float .f64 minf])).run Tryz.prog w = .ok (.bool false) w) (h1 : decide (n < -1024) = false) (h2 : decide (1024 < n) = false) (h3 : (n == 0) = false) (h4 : (n.tmod 2 == 0) = false) (h5 : decide (0 < n) = false) (q1eq : (FloatKind.f64.format.order a1 0 == some .eq) = true) (q2eq : (FloatKind.f64.format.order a2 0 == some .eq) = false) (q1lt : (FloatKind.f64.format.order a1 0 == some .lt) = false) (r2 : (FloatKind.f64.format.order a2 0 != some .eq) = true) (r1 : (FloatKind.f64.format.order a1 0 != some .eq) = false) (V1 V2 : Nat) (H1 : Hid (PowTo (-1) a2 n V1)) :
   Calls Tryz.prog 15 #[.agg #[.float .f64 x1, .float .f64 x2], .int .i64 n] w (RetF V1 infR w) := by
 have HT := Lib.hid hTb
 have HEM := Lib.hid (fun w => iempty_any w)
 have HEN := Lib.hid (fun w => ientire_any w)
 obtain ⟨rI, hrI⟩ : ∃ r, r = infR := ⟨_, rfl⟩
 obtain ⟨rM, hrM⟩ : ∃ r, r = minf := ⟨_, rfl⟩
 rw [← hrI, ← hrM] at HEM HEN hq
 clear hTb hrI hrM
 have hO := Own.start w
 have hf : True := trivial
 go_enter Tryz.func15, Tryz.ntmps15
 go_wp2_with (first | ((with_reducible refine at_box ?_); refine own_box (cs := [.float .f64 x1, .float .f64 x2]) hO rfl rfl ?_; clear hO; intro ga wa hO; clear hf; have hf := hO.cells; simp only [BC, CC, Nat.zero_add, Nat.reduceAdd, and_true] at hf) | ((with_reducible refine at_alloc ?_); refine own_alloc hO zero_iv rfl rfl ?_; clear hO; intro g wb hO; clear hf; have hf := hO.cells; simp only [BC, CC, Nat.zero_add, Nat.reduceAdd, and_true] at hf))
 refine (HR.out _).mono ?_
 rintro e w3 ⟨rfl, hE1⟩
 have hO := hO.ext hE1
 clear hE1
 clear hf
 have hf := hO.cells
 simp only [BC, CC, Nat.zero_add, Nat.reduceAdd, and_true] at hf
 go_wp2_with ((with_reducible refine at_store (T := 32) ?_); refine own_store (T := 32) hO 1 rfl rfl rfl size_iv rfl rfl rfl ?_; clear hO; intro w4 hO; simp only [List.set_cons_zero, List.set_cons_succ, spl, Nat.reduceAdd, Nat.zero_add] at hO; clear hf; have hf := hO.cells; simp only [BC, CC, Nat.zero_add, Nat.reduceAdd, and_true] at hf)
 obtain ⟨S, hS⟩ : ∃ S : World → Prop, S = Own w [⟨g, 32, [.float .f64 0, .float .f64 0]⟩, ⟨ga, 32, [.float .f64 a1, .float .f64 a2]⟩] [] := ⟨_, rfl⟩
 have hSE : ∀ w w', S w → Ext w w' → S w' := fun w w' h1 h2 => by rw [hS] at h1 ⊢; exact h1.ext h2
 have hS1 : S w4.drew := by rw [hS]; exact hO.ext (Ext.refl w4).drew
 have HS := Lib.hid hS
 clear hS hO hf
 obtain ⟨sp, hsp⟩ : ∃ sp : Nat → Sp, sp = ofList [det (.agg #[.float .f64 a1, .float .f64 a2]), det (.agg #[.float .f64 rI, .float .f64 rM]), det (.bool false)] := ⟨_, rfl⟩
 have HSP := Lib.hid hsp
 clear hsp
 refine wp_region_loose 3 S sp (by kernel_rfl) (by kernel_rfl) hS1 hSE ?_
 simp only [List.take_succ_cons, List.take_zero, List.drop_succ_cons, List.drop_zero]
 refine wpX_step (fun K hK => ?_)
 go_simp
 refine StepY.det (by rw [HSP.out]; rfl) ?_ ?_
 · intro wz hz hF
   rw [HS.out] at hz
   have hf := hz.cells
   simp only [BC, CC, Nat.zero_add, Nat.reduceAdd, and_true] at hf
   clear hz hF
   go_simp
   exact ⟨rfl, Ext.refl _⟩
 refine hK _ _ ?_
 clear hK K
 refine wpX_step (fun K hK => ?_)
 go_simp
 refine StepY.det (by rw [HSP.out]; rfl) ?_ ?_
 · intro wz hz hF
   clear hz hF
   go_simp
   refine (HEM.out _).mono ?_
   rintro e w5 ⟨rfl, hE1⟩
   exact ⟨_, rfl, rfl, hE1⟩
 refine hK _ _ ?_
 clear hK K
 refine wpX_step (fun K hK => ?_)
 go_simp
 refine StepY.det (by rw [HSP.out]; rfl) ?_ ?_
 · intro wz hz hF
   clear hz hF
   go_simp
   exact ⟨rfl, Ext.refl _⟩
 refine hK _ _ ?_
 clear hK K
 refine wpX_nil ?_
 intro wq hz hF
 clear hF
 rw [HS.out] at hz
 have hO := hz
 clear hz HS HSP
 have hf := hO.cells
 simp only [BC, CC, Nat.zero_add, Nat.reduceAdd, and_true] at hf
 go_wp2_with (first | ((go_at_call 40); ((with_reducible refine (inf_m _).mono ?_); rintro e w' ⟨rfl, rfl⟩)) | ((go_at_call 40); ((with_reducible refine (inf_p _).mono ?_); rintro e w' ⟨rfl, rfl⟩)) | ((with_reducible refine at_alloc ?_); refine own_alloc hO zero_iv rfl rfl ?_; clear hO; intro gy w7 hO; clear hf; have hf := hO.cells; simp only [BC, CC, Nat.zero_add, Nat.reduceAdd, and_true] at hf) | ((with_reducible refine at_store (T := 32) ?_); refine own_store (T := 32) hO 0 rfl rfl rfl size_iv rfl rfl rfl ?_; clear hO; intro w8 hO; simp only [List.set_cons_zero, List.set_cons_succ, spl, Nat.reduceAdd, Nat.zero_add] at hO; clear hf; have hf := hO.cells; simp only [BC, CC, Nat.zero_add, Nat.reduceAdd, and_true] at hf))
 refine (H1.out _ (HT.out.ext hO.toExt)).mono ?_
 rintro e w9 ⟨rfl, hE1⟩
 have hO := hO.ext hE1
 clear hE1
 clear hf
 have hf := hO.cells
 simp only [BC, CC, Nat.zero_add, Nat.reduceAdd, and_true] at hf
 go_wp2_with (first | ((with_reducible refine at_store (T := 30) ?_); refine own_store (vs := [.float .f64 V1]) (T := 30) hO 0 rfl rfl rfl size_f64 rfl rfl rfl ?_; clear hO; intro w10 hO; simp only [List.set_cons_zero, List.set_cons_succ, spl, Nat.reduceAdd, Nat.zero_add] at hO; clear hf; have hf := hO.cells; simp only [BC, CC, Nat.zero_add, Nat.reduceAdd, and_true] at hf) | ((with_reducible refine at_store (T := 32) ?_); refine own_store (T := 32) hO 1 rfl rfl rfl size_iv rfl rfl rfl ?_; clear hO; intro w12 hO; simp only [List.set_cons_zero, List.set_cons_succ, spl, Nat.reduceAdd, Nat.zero_add] at hO; clear hf; have hf := hO.cells; simp only [BC, CC, Nat.zero_add, Nat.reduceAdd, and_true] at hf))
 exact own_ret hO 1 rfl rfl rfl agg_iv size_iv rfl ⟨rfl, hO.toExt⟩
set_option maxHeartbeats 4000000 in
theorem pown_ev_p (x1 x2 a1 a2 : Nat) (n : Int) (w : World) (hTb : Tab w) (HR : Hid (∀ w, Calls Tryz.prog 30 #[.agg #[.float .f64 x1, .float .f64 x2]] w (RetF a1 a2 w))) (hq : ∀ w, (binOp .eql 32 (.agg #[.float .f64 a1, .float .f64 a2]) (.agg #[.float .f64 infR, .float .f64 minf])).run Tryz.prog w = .ok (.bool false) w) (h1 : decide (n < -1024) = false) (h2 : decide (1024 < n) = false) (h3 : (n == 0) = false) (h4 : (n.tmod 2 == 0) = true) (b1 b2 : Nat) (HA : Hid (∀ w, Calls Tryz.prog 22 #[.agg #[.float .f64 a1, .float .f64 a2]] w (RetF b1 b2 w))) (h5 : decide (0 < n) = true) (V1 V2 : Nat) (H1 : Hid (PowTo (-1) b1 n V1)) (H2 : Hid (PowTo 1 b2 n V2)) :
   Calls Tryz.prog 15 #[.agg #[.float .f64 x1, .float .f64 x2], .int .i64 n] w (RetF V1 V2 w) := by
 have HT := Lib.hid hTb
 have HEM := Lib.hid (fun w => iempty_any w)
 have HEN := Lib.hid (fun w => ientire_any w)
 obtain ⟨rI, hrI⟩ : ∃ r, r = infR := ⟨_, rfl⟩
 obtain ⟨rM, hrM⟩ : ∃ r, r = minf := ⟨_, rfl⟩
 rw [← hrI, ← hrM] at HEM HEN hq
 try rw [← hrI, ← hrM]
 clear hTb hrI hrM
 have hO := Own.start w
 have hf : True := trivial
 go_enter Tryz.func15, Tryz.ntmps15
 go_wp2_with (first | ((with_reducible refine at_box ?_); refine own_box (cs := [.float .f64 x1, .float .f64 x2]) hO rfl rfl ?_; clear hO; intro ga wa hO; clear hf; have hf := hO.cells; simp only [BC, CC, Nat.zero_add, Nat.reduceAdd, and_true] at hf) | ((with_reducible refine at_alloc ?_); refine own_alloc hO zero_iv rfl rfl ?_; clear hO; intro g wb hO; clear hf; have hf := hO.cells; simp only [BC, CC, Nat.zero_add, Nat.reduceAdd, and_true] at hf))
 refine (HR.out _).mono ?_
 rintro e w3 ⟨rfl, hE1⟩
 have hO := hO.ext hE1
 clear hE1
 clear hf
 have hf := hO.cells
 simp only [BC, CC, Nat.zero_add, Nat.reduceAdd, and_true] at hf
 go_wp2_with ((with_reducible refine at_store (T := 32) ?_); refine own_store (T := 32) hO 1 rfl rfl rfl size_iv rfl rfl rfl ?_; clear hO; intro w4 hO; simp only [List.set_cons_zero, List.set_cons_succ, spl, Nat.reduceAdd, Nat.zero_add] at hO; clear hf; have hf := hO.cells; simp only [BC, CC, Nat.zero_add, Nat.reduceAdd, and_true] at hf)
 obtain ⟨S, hS⟩ : ∃ S : World → Prop, S = Own w [⟨g, 32, [.float .f64 0, .float .f64 0]⟩, ⟨ga, 32, [.float .f64 a1, .float .f64 a2]⟩] [] := ⟨_, rfl⟩
 have hSE : ∀ w w', S w → Ext w w' → S w' := fun w w' h1 h2 => by rw [hS] at h1 ⊢; exact h1.ext h2
 have hS1 : S w4.drew := by rw [hS]; exact hO.ext (Ext.refl w4).drew
 have HS := Lib.hid hS
 clear hS hO hf
 obtain ⟨sp, hsp⟩ : ∃ sp : Nat → Sp, sp = ofList [det (.agg #[.float .f64 a1, .float .f64 a2]), det (.agg #[.float .f64 rI, .float .f64 rM]), det (.bool false)] := ⟨_, rfl⟩
 have HSP := Lib.hid hsp
 clear hsp
 refine wp_region_loose 3 S sp (by kernel_rfl) (by kernel_rfl) hS1 hSE ?_
 simp only [List.take_succ_cons, List.take_zero, List.drop_succ_cons, List.drop_zero]
 refine wpX_step (fun K hK => ?_)
 go_simp
 refine StepY.det (by rw [HSP.out]; rfl) ?_ ?_
 · intro wz hz hF
   rw [HS.out] at hz
   have hf := hz.cells
   simp only [BC, CC, Nat.zero_add, Nat.reduceAdd, and_true] at hf
   clear hz hF
   go_simp
   exact ⟨rfl, Ext.refl _⟩
 refine hK _ _ ?_
 clear hK K
 refine wpX_step (fun K hK => ?_)
 go_simp
 refine StepY.det (by rw [HSP.out]; rfl) ?_ ?_
 · intro wz hz hF
   clear hz hF
   go_simp
   refine (HEM.out _).mono ?_
   rintro e w5 ⟨rfl, hE1⟩
   exact ⟨_, rfl, rfl, hE1⟩
 refine hK _ _ ?_
 clear hK K
 refine wpX_step (fun K hK => ?_)
 go_simp
 refine StepY.det (by rw [HSP.out]; rfl) ?_ ?_
 · intro wz hz hF
   clear hz hF
   go_simp
   exact ⟨rfl, Ext.refl _⟩
 refine hK _ _ ?_
 clear hK K
 refine wpX_nil ?_
 intro wq hz hF
 clear hF
 rw [HS.out] at hz
 have hO := hz
 clear hz HS HSP
 have hf := hO.cells
 simp only [BC, CC, Nat.zero_add, Nat.reduceAdd, and_true] at hf
 go_wp2_with fail
 refine (HA.out _).mono ?_
 rintro e w5 ⟨rfl, hE1⟩
 have hO := hO.ext hE1
 clear hE1
 clear hf
 have hf := hO.cells
 simp only [BC, CC, Nat.zero_add, Nat.reduceAdd, and_true] at hf
 go_upto_region 11 with ((with_reducible refine at_store (T := 32) ?_); refine own_store (T := 32) hO 1 rfl rfl rfl size_iv rfl rfl rfl ?_; clear hO; intro w6 hO; simp only [List.set_cons_zero, List.set_cons_succ, spl, Nat.reduceAdd, Nat.zero_add] at hO; clear hf; have hf := hO.cells; simp only [BC, CC, Nat.zero_add, Nat.reduceAdd, and_true] at hf)
 obtain ⟨S, hS⟩ : ∃ S : World → Prop, S = Own w [⟨g, 32, [.float .f64 0, .float .f64 0]⟩, ⟨ga, 32, [.float .f64 b1, .float .f64 b2]⟩] [] := ⟨_, rfl⟩
 have hSE : ∀ w w', S w → Ext w w' → S w' := fun w w' h1 h2 => by rw [hS] at h1 ⊢; exact h1.ext h2
 have hS1 : S w6.drew := by rw [hS]; exact hO.ext (Ext.refl w6).drew
 have HS := Lib.hid hS
 clear hS hO hf
 obtain ⟨sp, hsp⟩ : ∃ sp : Nat → Sp, sp = ofList [det (.pointer (some ⟨ga, 0, none⟩)), det (.float .f64 b1), det (.int .i64 n), det (.float .f64 V1), det (.pointer (some ⟨ga, 1, none⟩)), det (.float .f64 b2), det (.int .i64 n), det (.float .f64 V2), det (.agg #[.float .f64 V1, .float .f64 V2])] := ⟨_, rfl⟩
 have HSP := Lib.hid hsp
 clear hsp
 refine wp_region_loose 9 S sp (by kernel_rfl) (by kernel_rfl) hS1 hSE ?_
 simp only [List.take_succ_cons, List.take_zero, List.drop_succ_cons, List.drop_zero]
 refine wpX_step (fun K hK => ?_)
 go_simp
 refine StepY.det (by rw [HSP.out]; rfl) ?_ ?_
 · intro wz hz hF
   clear hz hF
   go_simp
   exact ⟨rfl, Ext.refl _⟩
 refine hK _ _ ?_
 clear hK K
 refine wpX_step (fun K hK => ?_)
 go_simp
 refine StepY.det (by rw [HSP.out]; rfl) ?_ ?_
 · intro wz hz hF
   rw [HS.out] at hz
   have hf := hz.cells
   simp only [BC, CC, Nat.zero_add, Nat.reduceAdd, and_true] at hf
   clear hz hF
   go_simp
   exact ⟨rfl, Ext.refl _⟩
 refine hK _ _ ?_
 clear hK K
 refine wpX_step (fun K hK => ?_)
 go_simp
 refine StepY.det (by rw [HSP.out]; rfl) ?_ ?_
 · intro wz hz hF
   clear hz hF
   go_simp
   exact ⟨rfl, Ext.refl _⟩
 refine hK _ _ ?_
 clear hK K
 refine wpX_step (fun K hK => ?_)
 go_simp
 refine StepY.det (by rw [HSP.out]; rfl) ?_ ?_
 · intro wz hz hF
   rw [HS.out] at hz
   have hX := hz.toExt
   clear hF hz
   go_simp
   refine (H1.out _ (HT.out.ext hX)).mono ?_
   rintro e w2 ⟨rfl, hE1⟩
   exact ⟨_, rfl, rfl, hE1⟩
 refine hK _ _ ?_
 clear hK K
 refine wpX_step (fun K hK => ?_)
 go_simp
 refine StepY.det (by rw [HSP.out]; rfl) ?_ ?_
 · intro wz hz hF
   clear hz hF
   go_simp
   exact ⟨rfl, Ext.refl _⟩
 refine hK _ _ ?_
 clear hK K
 refine wpX_step (fun K hK => ?_)
 go_simp
 refine StepY.det (by rw [HSP.out]; rfl) ?_ ?_
 · intro wz hz hF
   rw [HS.out] at hz
   have hf := hz.cells
   simp only [BC, CC, Nat.zero_add, Nat.reduceAdd, and_true] at hf
   clear hz hF
   go_simp
   exact ⟨rfl, Ext.refl _⟩
 refine hK _ _ ?_
 clear hK K
 refine wpX_step (fun K hK => ?_)
 go_simp
 refine StepY.det (by rw [HSP.out]; rfl) ?_ ?_
 · intro wz hz hF
   clear hz hF
   go_simp
   exact ⟨rfl, Ext.refl _⟩
 refine hK _ _ ?_
 clear hK K
 refine wpX_step (fun K hK => ?_)
 go_simp
 refine StepY.det (by rw [HSP.out]; rfl) ?_ ?_
 · intro wz hz hF
   rw [HS.out] at hz
   have hX := hz.toExt
   clear hF hz
   go_simp
   refine (H2.out _ (HT.out.ext hX)).mono ?_
   rintro e w2 ⟨rfl, hE1⟩
   exact ⟨_, rfl, rfl, hE1⟩
 refine hK _ _ ?_
 clear hK K
 refine wpX_step (fun K hK => ?_)
 go_simp
 refine StepY.det (by rw [HSP.out]; rfl) ?_ ?_
 · intro wz hz hF
   clear hz hF
   go_simp
   exact ⟨rfl, Ext.refl _⟩
 refine hK _ _ ?_
 clear hK K
 refine wpX_nil ?_
 intro wq hz hF
 clear hF
 rw [HS.out] at hz
 have hO := hz
 clear hz HS HSP
 have hf := hO.cells
 simp only [BC, CC, Nat.zero_add, Nat.reduceAdd, and_true] at hf
 go_wp2_with ((with_reducible refine at_store (T := 32) ?_); refine own_store (T := 32) hO 0 rfl rfl rfl size_iv rfl rfl rfl ?_; clear hO; intro w6 hO; simp only [List.set_cons_zero, List.set_cons_succ, spl, Nat.reduceAdd, Nat.zero_add] at hO; clear hf; have hf := hO.cells; simp only [BC, CC, Nat.zero_add, Nat.reduceAdd, and_true] at hf)
 exact own_ret hO 0 rfl rfl rfl agg_iv size_iv rfl ⟨rfl, hO.toExt⟩
set_option maxHeartbeats 4000000 in
theorem pown_ev_ee (x1 x2 a1 a2 : Nat) (n : Int) (w : World) (hTb : Tab w) (HR : Hid (∀ w, Calls Tryz.prog 30 #[.agg #[.float .f64 x1, .float .f64 x2]] w (RetF a1 a2 w))) (hq : ∀ w, (binOp .eql 32 (.agg #[.float .f64 a1, .float .f64 a2]) (.agg #[.float .f64 infR, .float .f64 minf])).run Tryz.prog w = .ok (.bool false) w) (h1 : decide (n < -1024) = false) (h2 : decide (1024 < n) = false) (h3 : (n == 0) = false) (h4 : (n.tmod 2 == 0) = true) (b1 b2 : Nat) (HA : Hid (∀ w, Calls Tryz.prog 22 #[.agg #[.float .f64 a1, .float .f64 a2]] w (RetF b1 b2 w))) (h5 : decide (0 < n) = false) (q1eq : (FloatKind.f64.format.order b1 0 == some .eq) = true) (q2eq : (FloatKind.f64.format.order b2 0 == some .eq) = true) :
   Calls Tryz.prog 15 #[.agg #[.float .f64 x1, .float .f64 x2], .int .i64 n] w (RetF infR minf w) := by
 have HT := Lib.hid hTb
 have HEM := Lib.hid (fun w => iempty_any w)
 have HEN := Lib.hid (fun w => ientire_any w)
 obtain ⟨rI, hrI⟩ : ∃ r, r = infR := ⟨_, rfl⟩
 obtain ⟨rM, hrM⟩ : ∃ r, r = minf := ⟨_, rfl⟩
 rw [← hrI, ← hrM] at HEM HEN hq
 try rw [← hrI, ← hrM]
 clear hTb hrI hrM
 have hO := Own.start w
 have hf : True := trivial
 go_enter Tryz.func15, Tryz.ntmps15
 go_wp2_with (first | ((with_reducible refine at_box ?_); refine own_box (cs := [.float .f64 x1, .float .f64 x2]) hO rfl rfl ?_; clear hO; intro ga wa hO; clear hf; have hf := hO.cells; simp only [BC, CC, Nat.zero_add, Nat.reduceAdd, and_true] at hf) | ((with_reducible refine at_alloc ?_); refine own_alloc hO zero_iv rfl rfl ?_; clear hO; intro g wb hO; clear hf; have hf := hO.cells; simp only [BC, CC, Nat.zero_add, Nat.reduceAdd, and_true] at hf))
 refine (HR.out _).mono ?_
 rintro e w3 ⟨rfl, hE1⟩
 have hO := hO.ext hE1
 clear hE1
 clear hf
 have hf := hO.cells
 simp only [BC, CC, Nat.zero_add, Nat.reduceAdd, and_true] at hf
 go_wp2_with ((with_reducible refine at_store (T := 32) ?_); refine own_store (T := 32) hO 1 rfl rfl rfl size_iv rfl rfl rfl ?_; clear hO; intro w4 hO; simp only [List.set_cons_zero, List.set_cons_succ, spl, Nat.reduceAdd, Nat.zero_add] at hO; clear hf; have hf := hO.cells; simp only [BC, CC, Nat.zero_add, Nat.reduceAdd, and_true] at hf)
 obtain ⟨S, hS⟩ : ∃ S : World → Prop, S = Own w [⟨g, 32, [.float .f64 0, .float .f64 0]⟩, ⟨ga, 32, [.float .f64 a1, .float .f64 a2]⟩] [] := ⟨_, rfl⟩
 have hSE : ∀ w w', S w → Ext w w' → S w' := fun w w' h1 h2 => by rw [hS] at h1 ⊢; exact h1.ext h2
 have hS1 : S w4.drew := by rw [hS]; exact hO.ext (Ext.refl w4).drew
 have HS := Lib.hid hS
 clear hS hO hf
 obtain ⟨sp, hsp⟩ : ∃ sp : Nat → Sp, sp = ofList [det (.agg #[.float .f64 a1, .float .f64 a2]), det (.agg #[.float .f64 rI, .float .f64 rM]), det (.bool false)] := ⟨_, rfl⟩
 have HSP := Lib.hid hsp
 clear hsp
 refine wp_region_loose 3 S sp (by kernel_rfl) (by kernel_rfl) hS1 hSE ?_
 simp only [List.take_succ_cons, List.take_zero, List.drop_succ_cons, List.drop_zero]
 refine wpX_step (fun K hK => ?_)
 go_simp
 refine StepY.det (by rw [HSP.out]; rfl) ?_ ?_
 · intro wz hz hF
   rw [HS.out] at hz
   have hf := hz.cells
   simp only [BC, CC, Nat.zero_add, Nat.reduceAdd, and_true] at hf
   clear hz hF
   go_simp
   exact ⟨rfl, Ext.refl _⟩
 refine hK _ _ ?_
 clear hK K
 refine wpX_step (fun K hK => ?_)
 go_simp
 refine StepY.det (by rw [HSP.out]; rfl) ?_ ?_
 · intro wz hz hF
   clear hz hF
   go_simp
   refine (HEM.out _).mono ?_
   rintro e w5 ⟨rfl, hE1⟩
   exact ⟨_, rfl, rfl, hE1⟩
 refine hK _ _ ?_
 clear hK K
 refine wpX_step (fun K hK => ?_)
 go_simp
 refine StepY.det (by rw [HSP.out]; rfl) ?_ ?_
 · intro wz hz hF
   clear hz hF
   go_simp
   exact ⟨rfl, Ext.refl _⟩
 refine hK _ _ ?_
 clear hK K
 refine wpX_nil ?_
 intro wq hz hF
 clear hF
 rw [HS.out] at hz
 have hO := hz
 clear hz HS HSP
 have hf := hO.cells
 simp only [BC, CC, Nat.zero_add, Nat.reduceAdd, and_true] at hf
 go_wp2_with fail
 refine (HA.out _).mono ?_
 rintro e w5 ⟨rfl, hE1⟩
 have hO := hO.ext hE1
 clear hE1
 clear hf
 have hf := hO.cells
 simp only [BC, CC, Nat.zero_add, Nat.reduceAdd, and_true] at hf
 go_wp2_with (first | ((with_reducible refine at_store (T := 32) ?_); refine own_store (T := 32) hO 1 rfl rfl rfl size_iv rfl rfl rfl ?_; clear hO; intro w6 hO; simp only [List.set_cons_zero, List.set_cons_succ, spl, Nat.reduceAdd, Nat.zero_add] at hO; clear hf; have hf := hO.cells; simp only [BC, CC, Nat.zero_add, Nat.reduceAdd, and_true] at hf) | fail)
 refine (HEM.out _).mono ?_
 rintro e w5 ⟨rfl, hE1⟩
 have hO := hO.ext hE1
 clear hE1
 clear hf
 have hf := hO.cells
 simp only [BC, CC, Nat.zero_add, Nat.reduceAdd, and_true] at hf
 go_wp2_with ((with_reducible refine at_store (T := 32) ?_); refine own_store (T := 32) hO 0 rfl rfl rfl size_iv rfl rfl rfl ?_; clear hO; intro w6 hO; simp only [List.set_cons_zero, List.set_cons_succ, spl, Nat.reduceAdd, Nat.zero_add] at hO; clear hf; have hf := hO.cells; simp only [BC, CC, Nat.zero_add, Nat.reduceAdd, and_true] at hf)
 exact own_ret hO 0 rfl rfl rfl agg_iv size_iv rfl ⟨rfl, hO.toExt⟩
set_option maxHeartbeats 4000000 in
theorem pown_ev_en (x1 x2 a1 a2 : Nat) (n : Int) (w : World) (hTb : Tab w) (HR : Hid (∀ w, Calls Tryz.prog 30 #[.agg #[.float .f64 x1, .float .f64 x2]] w (RetF a1 a2 w))) (hq : ∀ w, (binOp .eql 32 (.agg #[.float .f64 a1, .float .f64 a2]) (.agg #[.float .f64 infR, .float .f64 minf])).run Tryz.prog w = .ok (.bool false) w) (h1 : decide (n < -1024) = false) (h2 : decide (1024 < n) = false) (h3 : (n == 0) = false) (h4 : (n.tmod 2 == 0) = true) (b1 b2 : Nat) (HA : Hid (∀ w, Calls Tryz.prog 22 #[.agg #[.float .f64 a1, .float .f64 a2]] w (RetF b1 b2 w))) (h5 : decide (0 < n) = false) (q1eq : (FloatKind.f64.format.order b1 0 == some .eq) = false) (q1lt : (FloatKind.f64.format.order b1 0 == some .lt) = true) (q2gt : (FloatKind.f64.format.order b2 0 == some .gt) = true) :
   Calls Tryz.prog 15 #[.agg #[.float .f64 x1, .float .f64 x2], .int .i64 n] w (RetF minf infR w) := by
 have HT := Lib.hid hTb
 have HEM := Lib.hid (fun w => iempty_any w)
 have HEN := Lib.hid (fun w => ientire_any w)
 obtain ⟨rI, hrI⟩ : ∃ r, r = infR := ⟨_, rfl⟩
 obtain ⟨rM, hrM⟩ : ∃ r, r = minf := ⟨_, rfl⟩
 rw [← hrI, ← hrM] at HEM HEN hq
 try rw [← hrI, ← hrM]
 clear hTb hrI hrM
 have hO := Own.start w
 have hf : True := trivial
 go_enter Tryz.func15, Tryz.ntmps15
 go_wp2_with (first | ((with_reducible refine at_box ?_); refine own_box (cs := [.float .f64 x1, .float .f64 x2]) hO rfl rfl ?_; clear hO; intro ga wa hO; clear hf; have hf := hO.cells; simp only [BC, CC, Nat.zero_add, Nat.reduceAdd, and_true] at hf) | ((with_reducible refine at_alloc ?_); refine own_alloc hO zero_iv rfl rfl ?_; clear hO; intro g wb hO; clear hf; have hf := hO.cells; simp only [BC, CC, Nat.zero_add, Nat.reduceAdd, and_true] at hf))
 refine (HR.out _).mono ?_
 rintro e w3 ⟨rfl, hE1⟩
 have hO := hO.ext hE1
 clear hE1
 clear hf
 have hf := hO.cells
 simp only [BC, CC, Nat.zero_add, Nat.reduceAdd, and_true] at hf
 go_wp2_with ((with_reducible refine at_store (T := 32) ?_); refine own_store (T := 32) hO 1 rfl rfl rfl size_iv rfl rfl rfl ?_; clear hO; intro w4 hO; simp only [List.set_cons_zero, List.set_cons_succ, spl, Nat.reduceAdd, Nat.zero_add] at hO; clear hf; have hf := hO.cells; simp only [BC, CC, Nat.zero_add, Nat.reduceAdd, and_true] at hf)
 obtain ⟨S, hS⟩ : ∃ S : World → Prop, S = Own w [⟨g, 32, [.float .f64 0, .float .f64 0]⟩, ⟨ga, 32, [.float .f64 a1, .float .f64 a2]⟩] [] := ⟨_, rfl⟩
 have hSE : ∀ w w', S w → Ext w w' → S w' := fun w w' h1 h2 => by rw [hS] at h1 ⊢; exact h1.ext h2
 have hS1 : S w4.drew := by rw [hS]; exact hO.ext (Ext.refl w4).drew
 have HS := Lib.hid hS
 clear hS hO hf
 obtain ⟨sp, hsp⟩ : ∃ sp : Nat → Sp, sp = ofList [det (.agg #[.float .f64 a1, .float .f64 a2]), det (.agg #[.float .f64 rI, .float .f64 rM]), det (.bool false)] := ⟨_, rfl⟩
 have HSP := Lib.hid hsp
 clear hsp
 refine wp_region_loose 3 S sp (by kernel_rfl) (by kernel_rfl) hS1 hSE ?_
 simp only [List.take_succ_cons, List.take_zero, List.drop_succ_cons, List.drop_zero]
 refine wpX_step (fun K hK => ?_)
 go_simp
 refine StepY.det (by rw [HSP.out]; rfl) ?_ ?_
 · intro wz hz hF
   rw [HS.out] at hz
   have hf := hz.cells
   simp only [BC, CC, Nat.zero_add, Nat.reduceAdd, and_true] at hf
   clear hz hF
   go_simp
   exact ⟨rfl, Ext.refl _⟩
 refine hK _ _ ?_
 clear hK K
 refine wpX_step (fun K hK => ?_)
 go_simp
 refine StepY.det (by rw [HSP.out]; rfl) ?_ ?_
 · intro wz hz hF
   clear hz hF
   go_simp
   refine (HEM.out _).mono ?_
   rintro e w5 ⟨rfl, hE1⟩
   exact ⟨_, rfl, rfl, hE1⟩
 refine hK _ _ ?_
 clear hK K
 refine wpX_step (fun K hK => ?_)
 go_simp
 refine StepY.det (by rw [HSP.out]; rfl) ?_ ?_
 · intro wz hz hF
   clear hz hF
   go_simp
   exact ⟨rfl, Ext.refl _⟩
 refine hK _ _ ?_
 clear hK K
 refine wpX_nil ?_
 intro wq hz hF
 clear hF
 rw [HS.out] at hz
 have hO := hz
 clear hz HS HSP
 have hf := hO.cells
 simp only [BC, CC, Nat.zero_add, Nat.reduceAdd, and_true] at hf
 go_wp2_with fail
 refine (HA.out _).mono ?_
 rintro e w5 ⟨rfl, hE1⟩
 have hO := hO.ext hE1
 clear hE1
 clear hf
 have hf := hO.cells
 simp only [BC, CC, Nat.zero_add, Nat.reduceAdd, and_true] at hf
 go_wp2_with (first | ((with_reducible refine at_store (T := 32) ?_); refine own_store (T := 32) hO 1 rfl rfl rfl size_iv rfl rfl rfl ?_; clear hO; intro w6 hO; simp only [List.set_cons_zero, List.set_cons_succ, spl, Nat.reduceAdd, Nat.zero_add] at hO; clear hf; have hf := hO.cells; simp only [BC, CC, Nat.zero_add, Nat.reduceAdd, and_true] at hf) | fail)
 refine (HEN.out _).mono ?_
 rintro e w5 ⟨rfl, hE1⟩
 have hO := hO.ext hE1
 clear hE1
 clear hf
 have hf := hO.cells
 simp only [BC, CC, Nat.zero_add, Nat.reduceAdd, and_true] at hf
 go_wp2_with ((with_reducible refine at_store (T := 32) ?_); refine own_store (T := 32) hO 0 rfl rfl rfl size_iv rfl rfl rfl ?_; clear hO; intro w6 hO; simp only [List.set_cons_zero, List.set_cons_succ, spl, Nat.reduceAdd, Nat.zero_add] at hO; clear hf; have hf := hO.cells; simp only [BC, CC, Nat.zero_add, Nat.reduceAdd, and_true] at hf)
 exact own_ret hO 0 rfl rfl rfl agg_iv size_iv rfl ⟨rfl, hO.toExt⟩
set_option maxHeartbeats 4000000 in
theorem pown_ev_nA (x1 x2 a1 a2 : Nat) (n : Int) (w : World) (hTb : Tab w) (HR : Hid (∀ w, Calls Tryz.prog 30 #[.agg #[.float .f64 x1, .float .f64 x2]] w (RetF a1 a2 w))) (hq : ∀ w, (binOp .eql 32 (.agg #[.float .f64 a1, .float .f64 a2]) (.agg #[.float .f64 infR, .float .f64 minf])).run Tryz.prog w = .ok (.bool false) w) (h1 : decide (n < -1024) = false) (h2 : decide (1024 < n) = false) (h3 : (n == 0) = false) (h4 : (n.tmod 2 == 0) = true) (b1 b2 : Nat) (HA : Hid (∀ w, Calls Tryz.prog 22 #[.agg #[.float .f64 a1, .float .f64 a2]] w (RetF b1 b2 w))) (h5 : decide (0 < n) = false) (q1eq : (FloatKind.f64.format.order b1 0 == some .eq) = false) (q1lt : (FloatKind.f64.format.order b1 0 == some .lt) = false) (r2 : (FloatKind.f64.format.order b2 0 != some .eq) = true) (r1 : (FloatKind.f64.format.order b1 0 != some .eq) = true) (V1 V2 : Nat) (H1 : Hid (PowTo (-1) b2 n V1)) (H2 : Hid (PowTo 1 b1 n V2)) :
   Calls Tryz.prog 15 #[.agg #[.float .f64 x1, .float .f64 x2], .int .i64 n] w (RetF V1 V2 w) := by
 have HT := Lib.hid hTb
 have HEM := Lib.hid (fun w => iempty_any w)
 have HEN := Lib.hid (fun w => ientire_any w)
 obtain ⟨rI, hrI⟩ : ∃ r, r = infR := ⟨_, rfl⟩
 obtain ⟨rM, hrM⟩ : ∃ r, r = minf := ⟨_, rfl⟩
 rw [← hrI, ← hrM] at HEM HEN hq
 clear hTb hrI hrM
 have hO := Own.start w
 have hf : True := trivial
 go_enter Tryz.func15, Tryz.ntmps15
 go_wp2_with (first | ((with_reducible refine at_box ?_); refine own_box (cs := [.float .f64 x1, .float .f64 x2]) hO rfl rfl ?_; clear hO; intro ga wa hO; clear hf; have hf := hO.cells; simp only [BC, CC, Nat.zero_add, Nat.reduceAdd, and_true] at hf) | ((with_reducible refine at_alloc ?_); refine own_alloc hO zero_iv rfl rfl ?_; clear hO; intro g wb hO; clear hf; have hf := hO.cells; simp only [BC, CC, Nat.zero_add, Nat.reduceAdd, and_true] at hf))
 refine (HR.out _).mono ?_
 rintro e w3 ⟨rfl, hE1⟩
 have hO := hO.ext hE1
 clear hE1
 clear hf
 have hf := hO.cells
 simp only [BC, CC, Nat.zero_add, Nat.reduceAdd, and_true] at hf
 go_wp2_with ((with_reducible refine at_store (T := 32) ?_); refine own_store (T := 32) hO 1 rfl rfl rfl size_iv rfl rfl rfl ?_; clear hO; intro w4 hO; simp only [List.set_cons_zero, List.set_cons_succ, spl, Nat.reduceAdd, Nat.zero_add] at hO; clear hf; have hf := hO.cells; simp only [BC, CC, Nat.zero_add, Nat.reduceAdd, and_true] at hf)
 obtain ⟨S, hS⟩ : ∃ S : World → Prop, S = Own w [⟨g, 32, [.float .f64 0, .float .f64 0]⟩, ⟨ga, 32, [.float .f64 a1, .float .f64 a2]⟩] [] := ⟨_, rfl⟩
 have hSE : ∀ w w', S w → Ext w w' → S w' := fun w w' h1 h2 => by rw [hS] at h1 ⊢; exact h1.ext h2
 have hS1 : S w4.drew := by rw [hS]; exact hO.ext (Ext.refl w4).drew
 have HS := Lib.hid hS
 clear hS hO hf
 obtain ⟨sp, hsp⟩ : ∃ sp : Nat → Sp, sp = ofList [det (.agg #[.float .f64 a1, .float .f64 a2]), det (.agg #[.float .f64 rI, .float .f64 rM]), det (.bool false)] := ⟨_, rfl⟩
 have HSP := Lib.hid hsp
 clear hsp
 refine wp_region_loose 3 S sp (by kernel_rfl) (by kernel_rfl) hS1 hSE ?_
 simp only [List.take_succ_cons, List.take_zero, List.drop_succ_cons, List.drop_zero]
 refine wpX_step (fun K hK => ?_)
 go_simp
 refine StepY.det (by rw [HSP.out]; rfl) ?_ ?_
 · intro wz hz hF
   rw [HS.out] at hz
   have hf := hz.cells
   simp only [BC, CC, Nat.zero_add, Nat.reduceAdd, and_true] at hf
   clear hz hF
   go_simp
   exact ⟨rfl, Ext.refl _⟩
 refine hK _ _ ?_
 clear hK K
 refine wpX_step (fun K hK => ?_)
 go_simp
 refine StepY.det (by rw [HSP.out]; rfl) ?_ ?_
 · intro wz hz hF
   clear hz hF
   go_simp
   refine (HEM.out _).mono ?_
   rintro e w5 ⟨rfl, hE1⟩
   exact ⟨_, rfl, rfl, hE1⟩
 refine hK _ _ ?_
 clear hK K
 refine wpX_step (fun K hK => ?_)
 go_simp
 refine StepY.det (by rw [HSP.out]; rfl) ?_ ?_
 · intro wz hz hF
   clear hz hF
   go_simp
   exact ⟨rfl, Ext.refl _⟩
 refine hK _ _ ?_
 clear hK K
 refine wpX_nil ?_
 intro wq hz hF
 clear hF
 rw [HS.out] at hz
 have hO := hz
 clear hz HS HSP
 have hf := hO.cells
 simp only [BC, CC, Nat.zero_add, Nat.reduceAdd, and_true] at hf
 go_wp2_with fail
 refine (HA.out _).mono ?_
 rintro e w5 ⟨rfl, hE1⟩
 have hO := hO.ext hE1
 clear hE1
 clear hf
 have hf := hO.cells
 simp only [BC, CC, Nat.zero_add, Nat.reduceAdd, and_true] at hf
 go_wp2_with (first | ((with_reducible refine at_store (T := 32) ?_); refine own_store (T := 32) hO 1 rfl rfl rfl size_iv rfl rfl rfl ?_; clear hO; intro w6 hO; simp only [List.set_cons_zero, List.set_cons_succ, spl, Nat.reduceAdd, Nat.zero_add] at hO; clear hf; have hf := hO.cells; simp only [BC, CC, Nat.zero_add, Nat.reduceAdd, and_true] at hf) | (first | ((go_at_call 40); ((with_reducible refine (inf_m _).mono ?_); rintro e w' ⟨rfl, rfl⟩)) | ((go_at_call 40); ((with_reducible refine (inf_p _).mono ?_); rintro e w' ⟨rfl, rfl⟩)) | ((with_reducible refine at_alloc ?_); refine own_alloc hO zero_iv rfl rfl ?_; clear hO; intro gy w7 hO; clear hf; have hf := hO.cells; simp only [BC, CC, Nat.zero_add, Nat.reduceAdd, and_true] at hf) | ((with_reducible refine at_store (T := 32) ?_); refine own_store (T := 32) hO 0 rfl rfl rfl size_iv rfl rfl rfl ?_; clear hO; intro w8 hO; simp only [List.set_cons_zero, List.set_cons_succ, spl, Nat.reduceAdd, Nat.zero_add] at hO; clear hf; have hf := hO.cells; simp only [BC, CC, Nat.zero_add, Nat.reduceAdd, and_true] at hf)))
 refine (H1.out _ (HT.out.ext hO.toExt)).mono ?_
 rintro e w9 ⟨rfl, hE1⟩
 have hO := hO.ext hE1
 clear hE1
 clear hf
 have hf := hO.cells
 simp only [BC, CC, Nat.zero_add, Nat.reduceAdd, and_true] at hf
 go_wp2_with (first | ((with_reducible refine at_store (T := 30) ?_); refine own_store (vs := [.float .f64 V1]) (T := 30) hO 0 rfl rfl rfl size_f64 rfl rfl rfl ?_; clear hO; intro w10 hO; simp only [List.set_cons_zero, List.set_cons_succ, spl, Nat.reduceAdd, Nat.zero_add] at hO; clear hf; have hf := hO.cells; simp only [BC, CC, Nat.zero_add, Nat.reduceAdd, and_true] at hf) | ((with_reducible refine at_store (T := 32) ?_); refine own_store (T := 32) hO 1 rfl rfl rfl size_iv rfl rfl rfl ?_; clear hO; intro w12 hO; simp only [List.set_cons_zero, List.set_cons_succ, spl, Nat.reduceAdd, Nat.zero_add] at hO; clear hf; have hf := hO.cells; simp only [BC, CC, Nat.zero_add, Nat.reduceAdd, and_true] at hf))
 refine (H2.out _ (HT.out.ext hO.toExt)).mono ?_
 rintro e w9 ⟨rfl, hE1⟩
 have hO := hO.ext hE1
 clear hE1
 clear hf
 have hf := hO.cells
 simp only [BC, CC, Nat.zero_add, Nat.reduceAdd, and_true] at hf
 go_wp2_with (first | ((with_reducible refine at_store (T := 30) ?_); refine own_store (vs := [.float .f64 V2]) (T := 30) hO 0 rfl rfl rfl size_f64 rfl rfl rfl ?_; clear hO; intro w11 hO; simp only [List.set_cons_zero, List.set_cons_succ, spl, Nat.reduceAdd, Nat.zero_add] at hO; clear hf; have hf := hO.cells; simp only [BC, CC, Nat.zero_add, Nat.reduceAdd, and_true] at hf) | ((with_reducible refine at_store (T := 32) ?_); refine own_store (T := 32) hO 1 rfl rfl rfl size_iv rfl rfl rfl ?_; clear hO; intro w12 hO; simp only [List.set_cons_zero, List.set_cons_succ, spl, Nat.reduceAdd, Nat.zero_add] at hO; clear hf; have hf := hO.cells; simp only [BC, CC, Nat.zero_add, Nat.reduceAdd, and_true] at hf))
 exact own_ret hO 1 rfl rfl rfl agg_iv size_iv rfl ⟨rfl, hO.toExt⟩
set_option maxHeartbeats 4000000 in
theorem pown_ev_nB (x1 x2 a1 a2 : Nat) (n : Int) (w : World) (hTb : Tab w) (HR : Hid (∀ w, Calls Tryz.prog 30 #[.agg #[.float .f64 x1, .float .f64 x2]] w (RetF a1 a2 w))) (hq : ∀ w, (binOp .eql 32 (.agg #[.float .f64 a1, .float .f64 a2]) (.agg #[.float .f64 infR, .float .f64 minf])).run Tryz.prog w = .ok (.bool false) w) (h1 : decide (n < -1024) = false) (h2 : decide (1024 < n) = false) (h3 : (n == 0) = false) (h4 : (n.tmod 2 == 0) = true) (b1 b2 : Nat) (HA : Hid (∀ w, Calls Tryz.prog 22 #[.agg #[.float .f64 a1, .float .f64 a2]] w (RetF b1 b2 w))) (h5 : decide (0 < n) = false) (q1eq : (FloatKind.f64.format.order b1 0 == some .eq) = false) (q1lt : (FloatKind.f64.format.order b1 0 == some .lt) = true) (q2gt : (FloatKind.f64.format.order b2 0 == some .gt) = false) (r2 : (FloatKind.f64.format.order b2 0 != some .eq) = true) (r1 : (FloatKind.f64.format.order b1 0 != some .eq) = true) (V1 V2 : Nat) (H1 : Hid (PowTo (-1) b2 n V1)) (H2 : Hid (PowTo 1 b1 n V2)) :
   Calls Tryz.prog 15 #[.agg #[.float .f64 x1, .float .f64 x2], .int .i64 n] w (RetF V1 V2 w) := by
 have HT := Lib.hid hTb
 have HEM := Lib.hid (fun w => iempty_any w)
 have HEN := Lib.hid (fun w => ientire_any w)
 obtain ⟨rI, hrI⟩ : ∃ r, r = infR := ⟨_, rfl⟩
 obtain ⟨rM, hrM⟩ : ∃ r, r = minf := ⟨_, rfl⟩
 rw [← hrI, ← hrM] at HEM HEN hq
 clear hTb hrI hrM
 have hO := Own.start w
 have hf : True := trivial
 go_enter Tryz.func15, Tryz.ntmps15
 go_wp2_with (first | ((with_reducible refine at_box ?_); refine own_box (cs := [.float .f64 x1, .float .f64 x2]) hO rfl rfl ?_; clear hO; intro ga wa hO; clear hf; have hf := hO.cells; simp only [BC, CC, Nat.zero_add, Nat.reduceAdd, and_true] at hf) | ((with_reducible refine at_alloc ?_); refine own_alloc hO zero_iv rfl rfl ?_; clear hO; intro g wb hO; clear hf; have hf := hO.cells; simp only [BC, CC, Nat.zero_add, Nat.reduceAdd, and_true] at hf))
 refine (HR.out _).mono ?_
 rintro e w3 ⟨rfl, hE1⟩
 have hO := hO.ext hE1
 clear hE1
 clear hf
 have hf := hO.cells
 simp only [BC, CC, Nat.zero_add, Nat.reduceAdd, and_true] at hf
 go_wp2_with ((with_reducible refine at_store (T := 32) ?_); refine own_store (T := 32) hO 1 rfl rfl rfl size_iv rfl rfl rfl ?_; clear hO; intro w4 hO; simp only [List.set_cons_zero, List.set_cons_succ, spl, Nat.reduceAdd, Nat.zero_add] at hO; clear hf; have hf := hO.cells; simp only [BC, CC, Nat.zero_add, Nat.reduceAdd, and_true] at hf)
 obtain ⟨S, hS⟩ : ∃ S : World → Prop, S = Own w [⟨g, 32, [.float .f64 0, .float .f64 0]⟩, ⟨ga, 32, [.float .f64 a1, .float .f64 a2]⟩] [] := ⟨_, rfl⟩
 have hSE : ∀ w w', S w → Ext w w' → S w' := fun w w' h1 h2 => by rw [hS] at h1 ⊢; exact h1.ext h2
 have hS1 : S w4.drew := by rw [hS]; exact hO.ext (Ext.refl w4).drew
 have HS := Lib.hid hS
 clear hS hO hf
 obtain ⟨sp, hsp⟩ : ∃ sp : Nat → Sp, sp = ofList [det (.agg #[.float .f64 a1, .float .f64 a2]), det (.agg #[.float .f64 rI, .float .f64 rM]), det (.bool false)] := ⟨_, rfl⟩
 have HSP := Lib.hid hsp
 clear hsp
 refine wp_region_loose 3 S sp (by kernel_rfl) (by kernel_rfl) hS1 hSE ?_
 simp only [List.take_succ_cons, List.take_zero, List.drop_succ_cons, List.drop_zero]
 refine wpX_step (fun K hK => ?_)
 go_simp
 refine StepY.det (by rw [HSP.out]; rfl) ?_ ?_
 · intro wz hz hF
   rw [HS.out] at hz
   have hf := hz.cells
   simp only [BC, CC, Nat.zero_add, Nat.reduceAdd, and_true] at hf
   clear hz hF
   go_simp
   exact ⟨rfl, Ext.refl _⟩
 refine hK _ _ ?_
 clear hK K
 refine wpX_step (fun K hK => ?_)
 go_simp
 refine StepY.det (by rw [HSP.out]; rfl) ?_ ?_
 · intro wz hz hF
   clear hz hF
   go_simp
   refine (HEM.out _).mono ?_
   rintro e w5 ⟨rfl, hE1⟩
   exact ⟨_, rfl, rfl, hE1⟩
 refine hK _ _ ?_
 clear hK K
 refine wpX_step (fun K hK => ?_)
 go_simp
 refine StepY.det (by rw [HSP.out]; rfl) ?_ ?_
 · intro wz hz hF
   clear hz hF
   go_simp
   exact ⟨rfl, Ext.refl _⟩
 refine hK _ _ ?_
 clear hK K
 refine wpX_nil ?_
 intro wq hz hF
 clear hF
 rw [HS.out] at hz
 have hO := hz
 clear hz HS HSP
 have hf := hO.cells
 simp only [BC, CC, Nat.zero_add, Nat.reduceAdd, and_true] at hf
 go_wp2_with fail
 refine (HA.out _).mono ?_
 rintro e w5 ⟨rfl, hE1⟩
 have hO := hO.ext hE1
 clear hE1
 clear hf
 have hf := hO.cells
 simp only [BC, CC, Nat.zero_add, Nat.reduceAdd, and_true] at hf
 go_wp2_with (first | ((with_reducible refine at_store (T := 32) ?_); refine own_store (T := 32) hO 1 rfl rfl rfl size_iv rfl rfl rfl ?_; clear hO; intro w6 hO; simp only [List.set_cons_zero, List.set_cons_succ, spl, Nat.reduceAdd, Nat.zero_add] at hO; clear hf; have hf := hO.cells; simp only [BC, CC, Nat.zero_add, Nat.reduceAdd, and_true] at hf) | (first | ((go_at_call 40); ((with_reducible refine (inf_m _).mono ?_); rintro e w' ⟨rfl, rfl⟩)) | ((go_at_call 40); ((with_reducible refine (inf_p _).mono ?_); rintro e w' ⟨rfl, rfl⟩)) | ((with_reducible refine at_alloc ?_); refine own_alloc hO zero_iv rfl rfl ?_; clear hO; intro gy w7 hO; clear hf; have hf := hO.cells; simp only [BC, CC, Nat.zero_add, Nat.reduceAdd, and_true] at hf) | ((with_reducible refine at_store (T := 32) ?_); refine own_store (T := 32) hO 0 rfl rfl rfl size_iv rfl rfl rfl ?_; clear hO; intro w8 hO; simp only [List.set_cons_zero, List.set_cons_succ, spl, Nat.reduceAdd, Nat.zero_add] at hO; clear hf; have hf := hO.cells; simp only [BC, CC, Nat.zero_add, Nat.reduceAdd, and_true] at hf)))
 refine (H1.out _ (HT.out.ext hO.toExt)).mono ?_
 rintro e w9 ⟨rfl, hE1⟩
 have hO := hO.ext hE1
 clear hE1
 clear hf
 have hf := hO.cells
 simp only [BC, CC, Nat.zero_add, Nat.reduceAdd, and_true] at hf
 go_wp2_with (first | ((with_reducible refine at_store (T := 30) ?_); refine own_store (vs := [.float .f64 V1]) (T := 30) hO 0 rfl rfl rfl size_f64 rfl rfl rfl ?_; clear hO; intro w10 hO; simp only [List.set_cons_zero, List.set_cons_succ, spl, Nat.reduceAdd, Nat.zero_add] at hO; clear hf; have hf := hO.cells; simp only [BC, CC, Nat.zero_add, Nat.reduceAdd, and_true] at hf) | ((with_reducible refine at_store (T := 32) ?_); refine own_store (T := 32) hO 1 rfl rfl rfl size_iv rfl rfl rfl ?_; clear hO; intro w12 hO; simp only [List.set_cons_zero, List.set_cons_succ, spl, Nat.reduceAdd, Nat.zero_add] at hO; clear hf; have hf := hO.cells; simp only [BC, CC, Nat.zero_add, Nat.reduceAdd, and_true] at hf))
 refine (H2.out _ (HT.out.ext hO.toExt)).mono ?_
 rintro e w9 ⟨rfl, hE1⟩
 have hO := hO.ext hE1
 clear hE1
 clear hf
 have hf := hO.cells
 simp only [BC, CC, Nat.zero_add, Nat.reduceAdd, and_true] at hf
 go_wp2_with (first | ((with_reducible refine at_store (T := 30) ?_); refine own_store (vs := [.float .f64 V2]) (T := 30) hO 0 rfl rfl rfl size_f64 rfl rfl rfl ?_; clear hO; intro w11 hO; simp only [List.set_cons_zero, List.set_cons_succ, spl, Nat.reduceAdd, Nat.zero_add] at hO; clear hf; have hf := hO.cells; simp only [BC, CC, Nat.zero_add, Nat.reduceAdd, and_true] at hf) | ((with_reducible refine at_store (T := 32) ?_); refine own_store (T := 32) hO 1 rfl rfl rfl size_iv rfl rfl rfl ?_; clear hO; intro w12 hO; simp only [List.set_cons_zero, List.set_cons_succ, spl, Nat.reduceAdd, Nat.zero_add] at hO; clear hf; have hf := hO.cells; simp only [BC, CC, Nat.zero_add, Nat.reduceAdd, and_true] at hf))
 exact own_ret hO 1 rfl rfl rfl agg_iv size_iv rfl ⟨rfl, hO.toExt⟩
set_option maxHeartbeats 4000000 in
theorem pown_ev_nC (x1 x2 a1 a2 : Nat) (n : Int) (w : World) (hTb : Tab w) (HR : Hid (∀ w, Calls Tryz.prog 30 #[.agg #[.float .f64 x1, .float .f64 x2]] w (RetF a1 a2 w))) (hq : ∀ w, (binOp .eql 32 (.agg #[.float .f64 a1, .float .f64 a2]) (.agg #[.float .f64 infR, .float .f64 minf])).run Tryz.prog w = .ok (.bool false) w) (h1 : decide (n < -1024) = false) (h2 : decide (1024 < n) = false) (h3 : (n == 0) = false) (h4 : (n.tmod 2 == 0) = true) (b1 b2 : Nat) (HA : Hid (∀ w, Calls Tryz.prog 22 #[.agg #[.float .f64 a1, .float .f64 a2]] w (RetF b1 b2 w))) (h5 : decide (0 < n) = false) (q1eq : (FloatKind.f64.format.order b1 0 == some .eq) = false) (q1lt : (FloatKind.f64.format.order b1 0 == some .lt) = true) (q2gt : (FloatKind.f64.format.order b2 0 == some .gt) = false) (r2 : (FloatKind.f64.format.order b2 0 != some .eq) = false) (r1 : (FloatKind.f64.format.order b1 0 != some .eq) = true) (V1 V2 : Nat) (H2 : Hid (PowTo 1 b1 n V2)) :
   Calls Tryz.prog 15 #[.agg #[.float .f64 x1, .float .f64 x2], .int .i64 n] w (RetF minf V2 w) := by
 have HT := Lib.hid hTb
 have HEM := Lib.hid (fun w => iempty_any w)
 have HEN := Lib.hid (fun w => ientire_any w)
 obtain ⟨rI, hrI⟩ : ∃ r, r = infR := ⟨_, rfl⟩
 obtain ⟨rM, hrM⟩ : ∃ r, r = minf := ⟨_, rfl⟩
 rw [← hrI, ← hrM] at HEM HEN hq
 clear hTb hrI hrM
 have hO := Own.start w
 have hf : True := trivial
 go_enter Tryz.func15, Tryz.ntmps15
 go_wp2_with (first | ((with_reducible refine at_box ?_); refine own_box (cs := [.float .f64 x1, .float .f64 x2]) hO rfl rfl ?_; clear hO; intro ga wa hO; clear hf; have hf := hO.cells; simp only [BC, CC, Nat.zero_add, Nat.reduceAdd, and_true] at hf) | ((with_reducible refine at_alloc ?_); refine own_alloc hO zero_iv rfl rfl ?_; clear hO; intro g wb hO; clear hf; have hf := hO.cells; simp only [BC, CC, Nat.zero_add, Nat.reduceAdd, and_true] at hf))
 refine (HR.out _).mono ?_
 rintro e w3 ⟨rfl, hE1⟩
 have hO := hO.ext hE1
 clear hE1
 clear hf
 have hf := hO.cells
 simp only [BC, CC, Nat.zero_add, Nat.reduceAdd, and_true] at hf
 go_wp2_with ((with_reducible refine at_store (T := 32) ?_); refine own_store (T := 32) hO 1 rfl rfl rfl size_iv rfl rfl rfl ?_; clear hO; intro w4 hO; simp only [List.set_cons_zero, List.set_cons_succ, spl, Nat.reduceAdd, Nat.zero_add] at hO; clear hf; have hf := hO.cells; simp only [BC, CC, Nat.zero_add, Nat.reduceAdd, and_true] at hf)
 obtain ⟨S, hS⟩ : ∃ S : World → Prop, S = Own w [⟨g, 32, [.float .f64 0, .float .f64 0]⟩, ⟨ga, 32, [.float .f64 a1, .float .f64 a2]⟩] [] := ⟨_, rfl⟩
 have hSE : ∀ w w', S w → Ext w w' → S w' := fun w w' h1 h2 => by rw [hS] at h1 ⊢; exact h1.ext h2
 have hS1 : S w4.drew := by rw [hS]; exact hO.ext (Ext.refl w4).drew
 have HS := Lib.hid hS
 clear hS hO hf
 obtain ⟨sp, hsp⟩ : ∃ sp : Nat → Sp, sp = ofList [det (.agg #[.float .f64 a1, .float .f64 a2]), det (.agg #[.float .f64 rI, .float .f64 rM]), det (.bool false)] := ⟨_, rfl⟩
 have HSP := Lib.hid hsp
 clear hsp
 refine wp_region_loose 3 S sp (by kernel_rfl) (by kernel_rfl) hS1 hSE ?_
 simp only [List.take_succ_cons, List.take_zero, List.drop_succ_cons, List.drop_zero]
 refine wpX_step (fun K hK => ?_)
 go_simp
 refine StepY.det (by rw [HSP.out]; rfl) ?_ ?_
 · intro wz hz hF
   rw [HS.out] at hz
   have hf := hz.cells
   simp only [BC, CC, Nat.zero_add, Nat.reduceAdd, and_true] at hf
   clear hz hF
   go_simp
   exact ⟨rfl, Ext.refl _⟩
 refine hK _ _ ?_
 clear hK K
 refine wpX_step (fun K hK => ?_)
 go_simp
 refine StepY.det (by rw [HSP.out]; rfl) ?_ ?_
 · intro wz hz hF
   clear hz hF
   go_simp
   refine (HEM.out _).mono ?_
   rintro e w5 ⟨rfl, hE1⟩
   exact ⟨_, rfl, rfl, hE1⟩
 refine hK _ _ ?_
 clear hK K
 refine wpX_step (fun K hK => ?_)
 go_simp
 refine StepY.det (by rw [HSP.out]; rfl) ?_ ?_
 · intro wz hz hF
   clear hz hF
   go_simp
   exact ⟨rfl, Ext.refl _⟩
 refine hK _ _ ?_
 clear hK K
 refine wpX_nil ?_
 intro wq hz hF
 clear hF
 rw [HS.out] at hz
 have hO := hz
 clear hz HS HSP
 have hf := hO.cells
 simp only [BC, CC, Nat.zero_add, Nat.reduceAdd, and_true] at hf
 go_wp2_with fail
 refine (HA.out _).mono ?_
 rintro e w5 ⟨rfl, hE1⟩
 have hO := hO.ext hE1
 clear hE1
 clear hf
 have hf := hO.cells
 simp only [BC, CC, Nat.zero_add, Nat.reduceAdd, and_true] at hf
 go_wp2_with (first | ((with_reducible refine at_store (T := 32) ?_); refine own_store (T := 32) hO 1 rfl rfl rfl size_iv rfl rfl rfl ?_; clear hO; intro w6 hO; simp only [List.set_cons_zero, List.set_cons_succ, spl, Nat.reduceAdd, Nat.zero_add] at hO; clear hf; have hf := hO.cells; simp only [BC, CC, Nat.zero_add, Nat.reduceAdd, and_true] at hf) | (first | ((go_at_call 40); ((with_reducible refine (inf_m _).mono ?_); rintro e w' ⟨rfl, rfl⟩)) | ((go_at_call 40); ((with_reducible refine (inf_p _).mono ?_); rintro e w' ⟨rfl, rfl⟩)) | ((with_reducible refine at_alloc ?_); refine own_alloc hO zero_iv rfl rfl ?_; clear hO; intro gy w7 hO; clear hf; have hf := hO.cells; simp only [BC, CC, Nat.zero_add, Nat.reduceAdd, and_true] at hf) | ((with_reducible refine at_store (T := 32) ?_); refine own_store (T := 32) hO 0 rfl rfl rfl size_iv rfl rfl rfl ?_; clear hO; intro w8 hO; simp only [List.set_cons_zero, List.set_cons_succ, spl, Nat.reduceAdd, Nat.zero_add] at hO; clear hf; have hf := hO.cells; simp only [BC, CC, Nat.zero_add, Nat.reduceAdd, and_true] at hf)))
 refine (H2.out _ (HT.out.ext hO.toExt)).mono ?_
 rintro e w9 ⟨rfl, hE1⟩
 have hO := hO.ext hE1
 clear hE1
 clear hf
 have hf := hO.cells
 simp only [BC, CC, Nat.zero_add, Nat.reduceAdd, and_true] at hf
 go_wp2_with (first | ((with_reducible refine at_store (T := 30) ?_); refine own_store (vs := [.float .f64 V2]) (T := 30) hO 0 rfl rfl rfl size_f64 rfl rfl rfl ?_; clear hO; intro w11 hO; simp only [List.set_cons_zero, List.set_cons_succ, spl, Nat.reduceAdd, Nat.zero_add] at hO; clear hf; have hf := hO.cells; simp only [BC, CC, Nat.zero_add, Nat.reduceAdd, and_true] at hf) | ((with_reducible refine at_store (T := 32) ?_); refine own_store (T := 32) hO 1 rfl rfl rfl size_iv rfl rfl rfl ?_; clear hO; intro w12 hO; simp only [List.set_cons_zero, List.set_cons_succ, spl, Nat.reduceAdd, Nat.zero_add] at hO; clear hf; have hf := hO.cells; simp only [BC, CC, Nat.zero_add, Nat.reduceAdd, and_true] at hf))
 exact own_ret hO 1 rfl rfl rfl agg_iv size_iv rfl ⟨rfl, hO.toExt⟩
set_option maxHeartbeats 4000000 in
theorem pown_ev_nD (x1 x2 a1 a2 : Nat) (n : Int) (w : World) (hTb : Tab w) (HR : Hid (∀ w, Calls Tryz.prog 30 #[.agg #[.float .f64 x1, .float .f64 x2]] w (RetF a1 a2 w))) (hq : ∀ w, (binOp .eql 32 (.agg #[.float .f64 a1, .float .f64 a2]) (.agg #[.float .f64 infR, .float .f64 minf])).run Tryz.prog w = .ok (.bool false) w) (h1 : decide (n < -1024) = false) (h2 : decide (1024 < n) = false) (h3 : (n == 0) = false) (h4 : (n.tmod 2 == 0) = true) (b1 b2 : Nat) (HA : Hid (∀ w, Calls Tryz.prog 22 #[.agg #[.float .f64 a1, .float .f64 a2]] w (RetF b1 b2 w))) (h5 : decide (0 < n) = false) (q1eq : (FloatKind.f64.format.order b1 0 == some .eq) = true) (q2eq : (FloatKind.f64.format.order b2 0 == some .eq) = false) (q1lt : (FloatKind.f64.format.order b1 0 == some .lt) = false) (r2 : (FloatKind.f64.format.order b2 0 != some .eq) = true) (r1 : (FloatKind.f64.format.order b1 0 != some .eq) = false) (V1 V2 : Nat) (H1 : Hid (PowTo (-1) b2 n V1)) :
   Calls Tryz.prog 15 #[.agg #[.float .f64 x1, .float .f64 x2], .int .i64 n] w (RetF V1 infR w) := by
 have HT := Lib.hid hTb
 have HEM := Lib.hid (fun w => iempty_any w)
 have HEN := Lib.hid (fun w => ientire_any w)
 obtain ⟨rI, hrI⟩ : ∃ r, r = infR := ⟨_, rfl⟩
 obtain ⟨rM, hrM⟩ : ∃ r, r = minf := ⟨_, rfl⟩
 rw [← hrI, ← hrM] at HEM HEN hq
 clear hTb hrI hrM
 have hO := Own.start w
 have hf : True := trivial
 go_enter Tryz.func15, Tryz.ntmps15
 go_wp2_with (first | ((with_reducible refine at_box ?_); refine own_box (cs := [.float .f64 x1, .float .f64 x2]) hO rfl rfl ?_; clear hO; intro ga wa hO; clear hf; have hf := hO.cells; simp only [BC, CC, Nat.zero_add, Nat.reduceAdd, and_true] at hf) | ((with_reducible refine at_alloc ?_); refine own_alloc hO zero_iv rfl rfl ?_; clear hO; intro g wb hO; clear hf; have hf := hO.cells; simp only [BC, CC, Nat.zero_add, Nat.reduceAdd, and_true] at hf))
 refine (HR.out _).mono ?_
 rintro e w3 ⟨rfl, hE1⟩
 have hO := hO.ext hE1
 clear hE1
 clear hf
 have hf := hO.cells
 simp only [BC, CC, Nat.zero_add, Nat.reduceAdd, and_true] at hf
 go_wp2_with ((with_reducible refine at_store (T := 32) ?_); refine own_store (T := 32) hO 1 rfl rfl rfl size_iv rfl rfl rfl ?_; clear hO; intro w4 hO; simp only [List.set_cons_zero, List.set_cons_succ, spl, Nat.reduceAdd, Nat.zero_add] at hO; clear hf; have hf := hO.cells; simp only [BC, CC, Nat.zero_add, Nat.reduceAdd, and_true] at hf)
 obtain ⟨S, hS⟩ : ∃ S : World → Prop, S = Own w [⟨g, 32, [.float .f64 0, .float .f64 0]⟩, ⟨ga, 32, [.float .f64 a1, .float .f64 a2]⟩] [] := ⟨_, rfl⟩
 have hSE : ∀ w w', S w → Ext w w' → S w' := fun w w' h1 h2 => by rw [hS] at h1 ⊢; exact h1.ext h2
 have hS1 : S w4.drew := by rw [hS]; exact hO.ext (Ext.refl w4).drew
 have HS := Lib.hid hS
 clear hS hO hf
 obtain ⟨sp, hsp⟩ : ∃ sp : Nat → Sp, sp = ofList [det (.agg #[.float .f64 a1, .float .f64 a2]), det (.agg #[.float .f64 rI, .float .f64 rM]), det (.bool false)] := ⟨_, rfl⟩
 have HSP := Lib.hid hsp
 clear hsp
 refine wp_region_loose 3 S sp (by kernel_rfl) (by kernel_rfl) hS1 hSE ?_
 simp only [List.take_succ_cons, List.take_zero, List.drop_succ_cons, List.drop_zero]
 refine wpX_step (fun K hK => ?_)
 go_simp
 refine StepY.det (by rw [HSP.out]; rfl) ?_ ?_
 · intro wz hz hF
   rw [HS.out] at hz
   have hf := hz.cells
   simp only [BC, CC, Nat.zero_add, Nat.reduceAdd, and_true] at hf
   clear hz hF
   go_simp
   exact ⟨rfl, Ext.refl _⟩
 refine hK _ _ ?_
 clear hK K
 refine wpX_step (fun K hK => ?_)
 go_simp
 refine StepY.det (by rw [HSP.out]; rfl) ?_ ?_
 · intro wz hz hF
   clear hz hF
   go_simp
   refine (HEM.out _).mono ?_
   rintro e w5 ⟨rfl, hE1⟩
   exact ⟨_, rfl, rfl, hE1⟩
 refine hK _ _ ?_
 clear hK K
 refine wpX_step (fun K hK => ?_)
 go_simp
 refine StepY.det (by rw [HSP.out]; rfl) ?_ ?_
 · intro wz hz hF
   clear hz hF
   go_simp
   exact ⟨rfl, Ext.refl _⟩
 refine hK _ _ ?_
 clear hK K
 refine wpX_nil ?_
 intro wq hz hF
 clear hF
 rw [HS.out] at hz
 have hO := hz
 clear hz HS HSP
 have hf := hO.cells
 simp only [BC, CC, Nat.zero_add, Nat.reduceAdd, and_true] at hf
 go_wp2_with fail
 refine (HA.out _).mono ?_
 rintro e w5 ⟨rfl, hE1⟩
 have hO := hO.ext hE1
 clear hE1
 clear hf
 have hf := hO.cells
 simp only [BC, CC, Nat.zero_add, Nat.reduceAdd, and_true] at hf
 go_wp2_with (first | ((with_reducible refine at_store (T := 32) ?_); refine own_store (T := 32) hO 1 rfl rfl rfl size_iv rfl rfl rfl ?_; clear hO; intro w6 hO; simp only [List.set_cons_zero, List.set_cons_succ, spl, Nat.reduceAdd, Nat.zero_add] at hO; clear hf; have hf := hO.cells; simp only [BC, CC, Nat.zero_add, Nat.reduceAdd, and_true] at hf) | (first | ((go_at_call 40); ((with_reducible refine (inf_m _).mono ?_); rintro e w' ⟨rfl, rfl⟩)) | ((go_at_call 40); ((with_reducible refine (inf_p _).mono ?_); rintro e w' ⟨rfl, rfl⟩)) | ((with_reducible refine at_alloc ?_); refine own_alloc hO zero_iv rfl rfl ?_; clear hO; intro gy w7 hO; clear hf; have hf := hO.cells; simp only [BC, CC, Nat.zero_add, Nat.reduceAdd, and_true] at hf) | ((with_reducible refine at_store (T := 32) ?_); refine own_store (T := 32) hO 0 rfl rfl rfl size_iv rfl rfl rfl ?_; clear hO; intro w8 hO; simp only [List.set_cons_zero, List.set_cons_succ, spl, Nat.reduceAdd, Nat.zero_add] at hO; clear hf; have hf := hO.cells; simp only [BC, CC, Nat.zero_add, Nat.reduceAdd, and_true] at hf)))
 refine (H1.out _ (HT.out.ext hO.toExt)).mono ?_
 rintro e w9 ⟨rfl, hE1⟩
 have hO := hO.ext hE1
 clear hE1
 clear hf
 have hf := hO.cells
 simp only [BC, CC, Nat.zero_add, Nat.reduceAdd, and_true] at hf
 go_wp2_with (first | ((with_reducible refine at_store (T := 30) ?_); refine own_store (vs := [.float .f64 V1]) (T := 30) hO 0 rfl rfl rfl size_f64 rfl rfl rfl ?_; clear hO; intro w10 hO; simp only [List.set_cons_zero, List.set_cons_succ, spl, Nat.reduceAdd, Nat.zero_add] at hO; clear hf; have hf := hO.cells; simp only [BC, CC, Nat.zero_add, Nat.reduceAdd, and_true] at hf) | ((with_reducible refine at_store (T := 32) ?_); refine own_store (T := 32) hO 1 rfl rfl rfl size_iv rfl rfl rfl ?_; clear hO; intro w12 hO; simp only [List.set_cons_zero, List.set_cons_succ, spl, Nat.reduceAdd, Nat.zero_add] at hO; clear hf; have hf := hO.cells; simp only [BC, CC, Nat.zero_add, Nat.reduceAdd, and_true] at hf))
 exact own_ret hO 1 rfl rfl rfl agg_iv size_iv rfl ⟨rfl, hO.toExt⟩
end Go.Proofs.YtbcaggdgoidlaaaGreatDoor
