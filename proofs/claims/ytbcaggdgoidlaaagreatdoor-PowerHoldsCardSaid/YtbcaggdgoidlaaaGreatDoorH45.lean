/-
 The contracts of the program's steps of intervals. Conditions: those that each theorem names.
-/
import Derived.Test.YtbcaggdgoidlaaaGreatDoorH43
import Derived.Test.YtbcaggdgoidlaaaGreatDoorH33
import Derived.Test.YtbcaggdgoidlaaaGreatDoorH37
import Derived.Test.YtbcaggdgoidlaaaGreatDoorH38
import Derived.Test.YtbcaggdgoidlaaaGreatDoorH12
import Derived.Test.YtbcaggdgoidlaaaGreatDoorH13
namespace Go.Proofs.YtbcaggdgoidlaaaGreatDoor
open Go.RowKit Nm Rn
set_option maxRecDepth 100000
set_option linter.unusedVariables false
set_option linter.unusedSimpArgs false
set_option maxHeartbeats 4000000 in
theorem over0_e (x1 x2 a b : Nat) (w : World) (HR : Hid (∀ w, Calls Tryz.prog 30 #[.agg #[.float .f64 x1, .float .f64 x2]] w (RetF a b w)))
   (hq : ∀ w, (binOp .eql 32 (.agg #[.float .f64 a, .float .f64 b]) (.agg #[.float .f64 infR, .float .f64 minf])).run Tryz.prog w = .ok (.bool true) w) :
   Calls Tryz.prog 58 #[.agg #[.func (.func 73) #[] #[]], .agg #[.float .f64 x1, .float .f64 x2]] w (RetF a b w) := by
 have hO := Own.start w
 have hf : True := trivial
 have HEM := Lib.hid (fun w => iempty_any w)
 obtain ⟨I1, hI1⟩ : ∃ r, r = infR := ⟨_, rfl⟩
 obtain ⟨I2, hI2⟩ : ∃ r, r = minf := ⟨_, rfl⟩
 rw [← hI1, ← hI2] at HEM hq
 clear hI1 hI2
 go_enter Tryz.func58, Tryz.ntmps58
 go_wp2_with (first | ((with_reducible refine at_box ?_); refine own_box (cs := [.func (.func 73) #[] #[]]) hO rfl rfl ?_; clear hO; intro g2 wa hO; clear hf; have hf := hO.cells; simp only [BC, CC, Nat.zero_add, Nat.reduceAdd, and_true] at hf) | ((with_reducible refine at_box ?_); refine own_box (cs := [.float .f64 x1, .float .f64 x2]) hO rfl rfl ?_; clear hO; intro g3 wb hO; clear hf; have hf := hO.cells; simp only [BC, CC, Nat.zero_add, Nat.reduceAdd, and_true] at hf) | ((with_reducible refine at_alloc ?_); refine own_alloc hO zero_iv rfl rfl ?_; clear hO; intro g4 wc hO; clear hf; have hf := hO.cells; simp only [BC, CC, Nat.zero_add, Nat.reduceAdd, and_true] at hf))
 refine (HR.out _).mono ?_
 rintro e w2 ⟨rfl, hE1⟩
 have hO := hO.ext hE1
 clear hE1
 clear hf
 have hf := hO.cells
 simp only [BC, CC, Nat.zero_add, Nat.reduceAdd, and_true] at hf
 go_wp2_with ((with_reducible refine at_store (T := 32) ?_); refine own_store (T := 32) hO 1 rfl rfl rfl size_iv rfl rfl rfl ?_; clear hO; intro w3 hO; simp only [List.set_cons_zero, List.set_cons_succ, spl, Nat.reduceAdd, Nat.zero_add] at hO; clear hf; have hf := hO.cells; simp only [BC, CC, Nat.zero_add, Nat.reduceAdd, and_true] at hf)
 obtain ⟨S, hS⟩ : ∃ S : World → Prop, S = Own w [⟨g4, 32, [.float .f64 0, .float .f64 0]⟩, ⟨g3, 32, [.float .f64 a, .float .f64 b]⟩, ⟨g2, 74, [.func (.func 73) #[] #[]]⟩] [] := ⟨_, rfl⟩
 have HSE : Hid (∀ w w', S w → Ext w w' → S w') := Lib.hid (fun w w' h1 h2 => by rw [hS] at h1 ⊢; exact h1.ext h2)
 have hS1 : S w3.drew := by rw [hS]; exact hO.ext (Ext.refl w3).drew
 have HS := Lib.hid hS
 clear hS hO hf
 obtain ⟨sp, hsp⟩ : ∃ sp : Nat → Sp, sp = ofList [det (.agg #[.float .f64 a, .float .f64 b]), det (.agg #[.float .f64 I1, .float .f64 I2])] := ⟨_, rfl⟩
 have HSP := Lib.hid hsp
 clear hsp
 refine wp_region_loose 2 S sp (by kernel_rfl) (by kernel_rfl) hS1 HSE.out ?_
 simp only [List.take_succ_cons, List.take_zero, List.drop_succ_cons, List.drop_zero]
 iterate 2
   refine wpX_step (fun K hK => ?_)
   go_simp
   refine StepY.det (by rw [HSP.out]; rfl) ?_ ?_
   · intro wz hz hF
     rw [HS.out] at hz
     have hf := hz.cells
     simp only [BC, CC, Nat.zero_add, Nat.reduceAdd, and_true] at hf
     clear hz hF
     go_simp
     first
     | exact ⟨rfl, Ext.refl _⟩
     | (refine (HEM.out _).mono ?_
        rintro e w5 ⟨rfl, hE5⟩
        exact ⟨_, rfl, rfl, hE5⟩)
   refine hK _ _ ?_
   clear hK K
 refine wpX_nil ?_
 intro w4 hz4 hF
 clear hF
 rw [HS.out] at hz4
 have hO := hz4
 have hf := hO.cells
 simp only [BC, CC, Nat.zero_add, Nat.reduceAdd, and_true] at hf
 clear hz4 hS1 HSP
 go_wp2_with ((with_reducible refine at_store (T := 32) ?_); refine own_store (T := 32) hO 0 rfl rfl rfl size_iv rfl rfl rfl ?_; clear hO; intro w5 hO; simp only [List.set_cons_zero, List.set_cons_succ, spl, Nat.reduceAdd, Nat.zero_add] at hO; clear hf; have hf := hO.cells; simp only [BC, CC, Nat.zero_add, Nat.reduceAdd, and_true] at hf)
 exact own_ret hO 0 rfl rfl rfl agg_iv size_iv rfl ⟨rfl, hO.toExt⟩
set_option maxHeartbeats 4000000 in
theorem over0_f (x1 x2 a b p q r1 r2 : Nat) (w : World) (HR : Hid (∀ w, Calls Tryz.prog 30 #[.agg #[.float .f64 x1, .float .f64 x2]] w (RetF a b w)))
   (hq : ∀ w, (binOp .eql 32 (.agg #[.float .f64 a, .float .f64 b]) (.agg #[.float .f64 infR, .float .f64 minf])).run Tryz.prog w = .ok (.bool false) w)
   (H1 : Hid (∀ w, Calls Tryz.prog 73 #[.float .f64 a] w fun e w' => e = .returned (.float .f64 p) ∧ w = w')) (H2 : Hid (∀ w, Calls Tryz.prog 73 #[.float .f64 b] w fun e w' => e = .returned (.float .f64 q) ∧ w = w'))
   (HR2 : Hid (∀ w, Calls Tryz.prog 30 #[.agg #[.float .f64 p, .float .f64 q]] w (RetF r1 r2 w))) :
   Calls Tryz.prog 58 #[.agg #[.func (.func 73) #[] #[]], .agg #[.float .f64 x1, .float .f64 x2]] w (RetF r1 r2 w) := by
 have hO := Own.start w
 have hf : True := trivial
 have HEM := Lib.hid (fun w => iempty_any w)
 obtain ⟨I1, hI1⟩ : ∃ r, r = infR := ⟨_, rfl⟩
 obtain ⟨I2, hI2⟩ : ∃ r, r = minf := ⟨_, rfl⟩
 rw [← hI1, ← hI2] at HEM hq
 clear hI1 hI2
 go_enter Tryz.func58, Tryz.ntmps58
 go_wp2_with (first | ((with_reducible refine at_box ?_); refine own_box (cs := [.func (.func 73) #[] #[]]) hO rfl rfl ?_; clear hO; intro g2 wa hO; clear hf; have hf := hO.cells; simp only [BC, CC, Nat.zero_add, Nat.reduceAdd, and_true] at hf) | ((with_reducible refine at_box ?_); refine own_box (cs := [.float .f64 x1, .float .f64 x2]) hO rfl rfl ?_; clear hO; intro g3 wb hO; clear hf; have hf := hO.cells; simp only [BC, CC, Nat.zero_add, Nat.reduceAdd, and_true] at hf) | ((with_reducible refine at_alloc ?_); refine own_alloc hO zero_iv rfl rfl ?_; clear hO; intro g4 wc hO; clear hf; have hf := hO.cells; simp only [BC, CC, Nat.zero_add, Nat.reduceAdd, and_true] at hf))
 refine (HR.out _).mono ?_
 rintro e w2 ⟨rfl, hE1⟩
 have hO := hO.ext hE1
 clear hE1
 clear hf
 have hf := hO.cells
 simp only [BC, CC, Nat.zero_add, Nat.reduceAdd, and_true] at hf
 go_wp2_with ((with_reducible refine at_store (T := 32) ?_); refine own_store (T := 32) hO 1 rfl rfl rfl size_iv rfl rfl rfl ?_; clear hO; intro w3 hO; simp only [List.set_cons_zero, List.set_cons_succ, spl, Nat.reduceAdd, Nat.zero_add] at hO; clear hf; have hf := hO.cells; simp only [BC, CC, Nat.zero_add, Nat.reduceAdd, and_true] at hf)
 obtain ⟨S, hS⟩ : ∃ S : World → Prop, S = Own w [⟨g4, 32, [.float .f64 0, .float .f64 0]⟩, ⟨g3, 32, [.float .f64 a, .float .f64 b]⟩, ⟨g2, 74, [.func (.func 73) #[] #[]]⟩] [] := ⟨_, rfl⟩
 have HSE : Hid (∀ w w', S w → Ext w w' → S w') := Lib.hid (fun w w' h1 h2 => by rw [hS] at h1 ⊢; exact h1.ext h2)
 have hS1 : S w3.drew := by rw [hS]; exact hO.ext (Ext.refl w3).drew
 have HS := Lib.hid hS
 clear hS hO hf
 obtain ⟨sp, hsp⟩ : ∃ sp : Nat → Sp, sp = ofList [det (.agg #[.float .f64 a, .float .f64 b]), det (.agg #[.float .f64 I1, .float .f64 I2])] := ⟨_, rfl⟩
 have HSP := Lib.hid hsp
 clear hsp
 refine wp_region_loose 2 S sp (by kernel_rfl) (by kernel_rfl) hS1 HSE.out ?_
 simp only [List.take_succ_cons, List.take_zero, List.drop_succ_cons, List.drop_zero]
 iterate 2
   refine wpX_step (fun K hK => ?_)
   go_simp
   refine StepY.det (by rw [HSP.out]; rfl) ?_ ?_
   · intro wz hz hF
     rw [HS.out] at hz
     have hf := hz.cells
     simp only [BC, CC, Nat.zero_add, Nat.reduceAdd, and_true] at hf
     clear hz hF
     go_simp
     first
     | exact ⟨rfl, Ext.refl _⟩
     | (refine (HEM.out _).mono ?_
        rintro e w5 ⟨rfl, hE5⟩
        exact ⟨_, rfl, rfl, hE5⟩)
   refine hK _ _ ?_
   clear hK K
 refine wpX_nil ?_
 intro w4 hz4 hF
 clear hF
 rw [HS.out] at hz4
 have hO := hz4
 have hf := hO.cells
 simp only [BC, CC, Nat.zero_add, Nat.reduceAdd, and_true] at hf
 clear hz4 hS1 HSP
 go_wp2_with fail
 have hS2 : S w4.drew := by rw [HS.out]; exact hO.ext (Ext.refl w4).drew
 clear hO hf
 obtain ⟨sp2, hsp⟩ : ∃ sp : Nat → Sp, sp = ofList [det (.pointer (some ⟨g2, 0, none⟩)), det (.func (.func 73) #[] #[]), det (.pointer (some ⟨g3, 0, none⟩)), det (.float .f64 a), det (.float .f64 p), det (.pointer (some ⟨g2, 0, none⟩)), det (.func (.func 73) #[] #[]), det (.pointer (some ⟨g3, 1, none⟩)), det (.float .f64 b), det (.float .f64 q), det (.agg #[.float .f64 p, .float .f64 q]), det (.agg #[.float .f64 r1, .float .f64 r2])] := ⟨_, rfl⟩
 have HSP2 := Lib.hid hsp
 clear hsp
 refine wp_region_loose 12 S sp2 (by kernel_rfl) (by kernel_rfl) hS2 HSE.out ?_
 simp only [List.take_succ_cons, List.take_zero, List.drop_succ_cons, List.drop_zero]
 iterate 12
   refine wpX_step (fun K hK => ?_)
   go_simp
   refine StepY.det (by rw [HSP2.out]; rfl) ?_ ?_
   · intro wz hz hF
     rw [HS.out] at hz
     have hf := hz.cells
     simp only [BC, CC, Nat.zero_add, Nat.reduceAdd, and_true] at hf
     clear hz hF
     go_simp
     first
     | exact ⟨rfl, Ext.refl _⟩
     | ((with_reducible refine (H1.out _).mono ?_)
        rintro e w5 ⟨rfl, rfl⟩
        exact ⟨_, rfl, rfl, Ext.refl _⟩)
     | ((with_reducible refine (H2.out _).mono ?_)
        rintro e w5 ⟨rfl, rfl⟩
        exact ⟨_, rfl, rfl, Ext.refl _⟩)
     | (refine (HR2.out _).mono ?_
        rintro e w5 ⟨rfl, hE5⟩
        exact ⟨_, rfl, rfl, hE5⟩)
   refine hK _ _ ?_
   clear hK K
 refine wpX_nil ?_
 intro w6 hz6 hF
 clear hF
 rw [HS.out] at hz6
 have hO := hz6
 have hf := hO.cells
 simp only [BC, CC, Nat.zero_add, Nat.reduceAdd, and_true] at hf
 clear hz6
 go_wp2_with ((with_reducible refine at_store (T := 32) ?_); refine own_store (T := 32) hO 0 rfl rfl rfl size_iv rfl rfl rfl ?_; clear hO; intro w7 hO; simp only [List.set_cons_zero, List.set_cons_succ, spl, Nat.reduceAdd, Nat.zero_add] at hO; clear hf; have hf := hO.cells; simp only [BC, CC, Nat.zero_add, Nat.reduceAdd, and_true] at hf)
 exact own_ret hO 0 rfl rfl rfl agg_iv size_iv rfl ⟨rfl, hO.toExt⟩
theorem over0_any (x1 x2 : Nat) (w : World) (hx1 : x1 < 18446744073709551616) (hx2 : x2 < 18446744073709551616) :
   Calls Tryz.prog 58 #[.agg #[.func (.func 73) #[] #[]], .agg #[.float .f64 x1, .float .f64 x2]] w (RetF (piLo 0 x1 x2) (piHi 0 x1 x2) w) := by
 have HR := Lib.hid (fun w => iread_any x1 x2 w hx1 hx2)
 by_cases he : emp x1 x2
 · have e1 : piLo 0 x1 x2 = infR := if_pos he
   have e2 : piHi 0 x1 x2 = minf := if_pos he
   rw [e1, e2]
   rw [he.1, he.2] at HR
   exact over0_e x1 x2 infR minf w HR (eqF' (by decide) (by decide) (by decide) (by decide) rfl)
 · have e1 : piLo 0 x1 x2 = rdLo (stF 0 (rdLo x1 x2)) (stF 0 (rdHi x1 x2)) := if_neg he
   have e2 : piHi 0 x1 x2 = rdHi (stF 0 (rdLo x1 x2)) (stF 0 (rdHi x1 x2)) := if_neg he
   rw [e1, e2]
   obtain ⟨g1, g2, g3, g4, g5, g6, _, g8⟩ := rd_ends hx1 hx2 he
   have hq := eqF' (E := false) g1 g2 (show infR < 18446744073709551616 by decide) (show minf < 18446744073709551616 by decide) (by
     rw [eq_key g3 nan_inf, eq_key g4 nan_minf, key_inf, key_minf, Bool.and_eq_false_iff, decide_eq_false_iff_not, decide_eq_false_iff_not, key_eq_inf g1 g3]
     exact .inl g5)
   have s1 := stF_facts 0 g1 g3
   have s2 := stF_facts 0 g2 g4
   exact over0_f x1 x2 _ _ _ _ _ _ w HR hq (Lib.hid fun w => psign_any g1 g3 w) (Lib.hid fun w => psign_any g2 g4 w) (Lib.hid fun w => iread_any _ _ w s1.1 s2.1)
set_option maxHeartbeats 2000000 in
theorem pst0_any (x1 x2 : Nat) (w : World) (hx1 : x1 < 18446744073709551616) (hx2 : x2 < 18446744073709551616) :
   Calls Tryz.prog 46 #[.agg #[.float .f64 x1, .float .f64 x2]] w (RetF (piLo 0 x1 x2) (piHi 0 x1 x2) w) := by
 have HOV := Lib.hid (fun w => over0_any x1 x2 w hx1 hx2)
 obtain ⟨r1, hr1⟩ : ∃ r, r = piLo 0 x1 x2 := ⟨_, rfl⟩
 obtain ⟨r2, hr2⟩ : ∃ r, r = piHi 0 x1 x2 := ⟨_, rfl⟩
 rw [← hr1, ← hr2] at HOV ⊢
 clear hr1 hr2 hx1 hx2
 have hO := Own.start w
 have hf : True := trivial
 go_enter Tryz.func46, Tryz.ntmps46
 go_wp2_with (first | ((with_reducible refine at_box ?_); refine own_box (cs := [.float .f64 x1, .float .f64 x2]) hO rfl rfl ?_; clear hO; intro ga wa hO; clear hf; have hf := hO.cells; simp only [BC, CC, Nat.zero_add, Nat.reduceAdd, and_true] at hf) | ((with_reducible refine at_alloc ?_); refine own_alloc hO zero_iv rfl rfl ?_; clear hO; intro gb wb hO; clear hf; have hf := hO.cells; simp only [BC, CC, Nat.zero_add, Nat.reduceAdd, and_true] at hf))
 refine (HOV.out _).mono ?_
 rintro e w2 ⟨rfl, hE1⟩
 have hO := hO.ext hE1
 clear hE1
 clear hf
 have hf := hO.cells
 simp only [BC, CC, Nat.zero_add, Nat.reduceAdd, and_true] at hf
 go_wp2_with ((with_reducible refine at_store (T := 32) ?_); refine own_store (T := 32) hO 0 rfl rfl rfl size_iv rfl rfl rfl ?_; clear hO; intro w3 hO; simp only [List.set_cons_zero, List.set_cons_succ, spl, Nat.reduceAdd, Nat.zero_add] at hO; clear hf; have hf := hO.cells; simp only [BC, CC, Nat.zero_add, Nat.reduceAdd, and_true] at hf)
 exact own_ret hO 0 rfl rfl rfl agg_iv size_iv rfl ⟨rfl, hO.toExt⟩
set_option maxHeartbeats 4000000 in
theorem over1_e (x1 x2 a b : Nat) (w : World) (HR : Hid (∀ w, Calls Tryz.prog 30 #[.agg #[.float .f64 x1, .float .f64 x2]] w (RetF a b w)))
   (hq : ∀ w, (binOp .eql 32 (.agg #[.float .f64 a, .float .f64 b]) (.agg #[.float .f64 infR, .float .f64 minf])).run Tryz.prog w = .ok (.bool true) w) :
   Calls Tryz.prog 58 #[.agg #[.func (.func 74) #[] #[]], .agg #[.float .f64 x1, .float .f64 x2]] w (RetF a b w) := by
 have hO := Own.start w
 have hf : True := trivial
 have HEM := Lib.hid (fun w => iempty_any w)
 obtain ⟨I1, hI1⟩ : ∃ r, r = infR := ⟨_, rfl⟩
 obtain ⟨I2, hI2⟩ : ∃ r, r = minf := ⟨_, rfl⟩
 rw [← hI1, ← hI2] at HEM hq
 clear hI1 hI2
 go_enter Tryz.func58, Tryz.ntmps58
 go_wp2_with (first | ((with_reducible refine at_box ?_); refine own_box (cs := [.func (.func 74) #[] #[]]) hO rfl rfl ?_; clear hO; intro g2 wa hO; clear hf; have hf := hO.cells; simp only [BC, CC, Nat.zero_add, Nat.reduceAdd, and_true] at hf) | ((with_reducible refine at_box ?_); refine own_box (cs := [.float .f64 x1, .float .f64 x2]) hO rfl rfl ?_; clear hO; intro g3 wb hO; clear hf; have hf := hO.cells; simp only [BC, CC, Nat.zero_add, Nat.reduceAdd, and_true] at hf) | ((with_reducible refine at_alloc ?_); refine own_alloc hO zero_iv rfl rfl ?_; clear hO; intro g4 wc hO; clear hf; have hf := hO.cells; simp only [BC, CC, Nat.zero_add, Nat.reduceAdd, and_true] at hf))
 refine (HR.out _).mono ?_
 rintro e w2 ⟨rfl, hE1⟩
 have hO := hO.ext hE1
 clear hE1
 clear hf
 have hf := hO.cells
 simp only [BC, CC, Nat.zero_add, Nat.reduceAdd, and_true] at hf
 go_wp2_with ((with_reducible refine at_store (T := 32) ?_); refine own_store (T := 32) hO 1 rfl rfl rfl size_iv rfl rfl rfl ?_; clear hO; intro w3 hO; simp only [List.set_cons_zero, List.set_cons_succ, spl, Nat.reduceAdd, Nat.zero_add] at hO; clear hf; have hf := hO.cells; simp only [BC, CC, Nat.zero_add, Nat.reduceAdd, and_true] at hf)
 obtain ⟨S, hS⟩ : ∃ S : World → Prop, S = Own w [⟨g4, 32, [.float .f64 0, .float .f64 0]⟩, ⟨g3, 32, [.float .f64 a, .float .f64 b]⟩, ⟨g2, 74, [.func (.func 74) #[] #[]]⟩] [] := ⟨_, rfl⟩
 have HSE : Hid (∀ w w', S w → Ext w w' → S w') := Lib.hid (fun w w' h1 h2 => by rw [hS] at h1 ⊢; exact h1.ext h2)
 have hS1 : S w3.drew := by rw [hS]; exact hO.ext (Ext.refl w3).drew
 have HS := Lib.hid hS
 clear hS hO hf
 obtain ⟨sp, hsp⟩ : ∃ sp : Nat → Sp, sp = ofList [det (.agg #[.float .f64 a, .float .f64 b]), det (.agg #[.float .f64 I1, .float .f64 I2])] := ⟨_, rfl⟩
 have HSP := Lib.hid hsp
 clear hsp
 refine wp_region_loose 2 S sp (by kernel_rfl) (by kernel_rfl) hS1 HSE.out ?_
 simp only [List.take_succ_cons, List.take_zero, List.drop_succ_cons, List.drop_zero]
 iterate 2
   refine wpX_step (fun K hK => ?_)
   go_simp
   refine StepY.det (by rw [HSP.out]; rfl) ?_ ?_
   · intro wz hz hF
     rw [HS.out] at hz
     have hf := hz.cells
     simp only [BC, CC, Nat.zero_add, Nat.reduceAdd, and_true] at hf
     clear hz hF
     go_simp
     first
     | exact ⟨rfl, Ext.refl _⟩
     | (refine (HEM.out _).mono ?_
        rintro e w5 ⟨rfl, hE5⟩
        exact ⟨_, rfl, rfl, hE5⟩)
   refine hK _ _ ?_
   clear hK K
 refine wpX_nil ?_
 intro w4 hz4 hF
 clear hF
 rw [HS.out] at hz4
 have hO := hz4
 have hf := hO.cells
 simp only [BC, CC, Nat.zero_add, Nat.reduceAdd, and_true] at hf
 clear hz4 hS1 HSP
 go_wp2_with ((with_reducible refine at_store (T := 32) ?_); refine own_store (T := 32) hO 0 rfl rfl rfl size_iv rfl rfl rfl ?_; clear hO; intro w5 hO; simp only [List.set_cons_zero, List.set_cons_succ, spl, Nat.reduceAdd, Nat.zero_add] at hO; clear hf; have hf := hO.cells; simp only [BC, CC, Nat.zero_add, Nat.reduceAdd, and_true] at hf)
 exact own_ret hO 0 rfl rfl rfl agg_iv size_iv rfl ⟨rfl, hO.toExt⟩
set_option maxHeartbeats 4000000 in
theorem over1_f (x1 x2 a b p q r1 r2 : Nat) (w : World) (HR : Hid (∀ w, Calls Tryz.prog 30 #[.agg #[.float .f64 x1, .float .f64 x2]] w (RetF a b w)))
   (hq : ∀ w, (binOp .eql 32 (.agg #[.float .f64 a, .float .f64 b]) (.agg #[.float .f64 infR, .float .f64 minf])).run Tryz.prog w = .ok (.bool false) w)
   (H1 : Hid (∀ w, Calls Tryz.prog 74 #[.float .f64 a] w fun e w' => e = .returned (.float .f64 p) ∧ w = w')) (H2 : Hid (∀ w, Calls Tryz.prog 74 #[.float .f64 b] w fun e w' => e = .returned (.float .f64 q) ∧ w = w'))
   (HR2 : Hid (∀ w, Calls Tryz.prog 30 #[.agg #[.float .f64 p, .float .f64 q]] w (RetF r1 r2 w))) :
   Calls Tryz.prog 58 #[.agg #[.func (.func 74) #[] #[]], .agg #[.float .f64 x1, .float .f64 x2]] w (RetF r1 r2 w) := by
 have hO := Own.start w
 have hf : True := trivial
 have HEM := Lib.hid (fun w => iempty_any w)
 obtain ⟨I1, hI1⟩ : ∃ r, r = infR := ⟨_, rfl⟩
 obtain ⟨I2, hI2⟩ : ∃ r, r = minf := ⟨_, rfl⟩
 rw [← hI1, ← hI2] at HEM hq
 clear hI1 hI2
 go_enter Tryz.func58, Tryz.ntmps58
 go_wp2_with (first | ((with_reducible refine at_box ?_); refine own_box (cs := [.func (.func 74) #[] #[]]) hO rfl rfl ?_; clear hO; intro g2 wa hO; clear hf; have hf := hO.cells; simp only [BC, CC, Nat.zero_add, Nat.reduceAdd, and_true] at hf) | ((with_reducible refine at_box ?_); refine own_box (cs := [.float .f64 x1, .float .f64 x2]) hO rfl rfl ?_; clear hO; intro g3 wb hO; clear hf; have hf := hO.cells; simp only [BC, CC, Nat.zero_add, Nat.reduceAdd, and_true] at hf) | ((with_reducible refine at_alloc ?_); refine own_alloc hO zero_iv rfl rfl ?_; clear hO; intro g4 wc hO; clear hf; have hf := hO.cells; simp only [BC, CC, Nat.zero_add, Nat.reduceAdd, and_true] at hf))
 refine (HR.out _).mono ?_
 rintro e w2 ⟨rfl, hE1⟩
 have hO := hO.ext hE1
 clear hE1
 clear hf
 have hf := hO.cells
 simp only [BC, CC, Nat.zero_add, Nat.reduceAdd, and_true] at hf
 go_wp2_with ((with_reducible refine at_store (T := 32) ?_); refine own_store (T := 32) hO 1 rfl rfl rfl size_iv rfl rfl rfl ?_; clear hO; intro w3 hO; simp only [List.set_cons_zero, List.set_cons_succ, spl, Nat.reduceAdd, Nat.zero_add] at hO; clear hf; have hf := hO.cells; simp only [BC, CC, Nat.zero_add, Nat.reduceAdd, and_true] at hf)
 obtain ⟨S, hS⟩ : ∃ S : World → Prop, S = Own w [⟨g4, 32, [.float .f64 0, .float .f64 0]⟩, ⟨g3, 32, [.float .f64 a, .float .f64 b]⟩, ⟨g2, 74, [.func (.func 74) #[] #[]]⟩] [] := ⟨_, rfl⟩
 have HSE : Hid (∀ w w', S w → Ext w w' → S w') := Lib.hid (fun w w' h1 h2 => by rw [hS] at h1 ⊢; exact h1.ext h2)
 have hS1 : S w3.drew := by rw [hS]; exact hO.ext (Ext.refl w3).drew
 have HS := Lib.hid hS
 clear hS hO hf
 obtain ⟨sp, hsp⟩ : ∃ sp : Nat → Sp, sp = ofList [det (.agg #[.float .f64 a, .float .f64 b]), det (.agg #[.float .f64 I1, .float .f64 I2])] := ⟨_, rfl⟩
 have HSP := Lib.hid hsp
 clear hsp
 refine wp_region_loose 2 S sp (by kernel_rfl) (by kernel_rfl) hS1 HSE.out ?_
 simp only [List.take_succ_cons, List.take_zero, List.drop_succ_cons, List.drop_zero]
 iterate 2
   refine wpX_step (fun K hK => ?_)
   go_simp
   refine StepY.det (by rw [HSP.out]; rfl) ?_ ?_
   · intro wz hz hF
     rw [HS.out] at hz
     have hf := hz.cells
     simp only [BC, CC, Nat.zero_add, Nat.reduceAdd, and_true] at hf
     clear hz hF
     go_simp
     first
     | exact ⟨rfl, Ext.refl _⟩
     | (refine (HEM.out _).mono ?_
        rintro e w5 ⟨rfl, hE5⟩
        exact ⟨_, rfl, rfl, hE5⟩)
   refine hK _ _ ?_
   clear hK K
 refine wpX_nil ?_
 intro w4 hz4 hF
 clear hF
 rw [HS.out] at hz4
 have hO := hz4
 have hf := hO.cells
 simp only [BC, CC, Nat.zero_add, Nat.reduceAdd, and_true] at hf
 clear hz4 hS1 HSP
 go_wp2_with fail
 have hS2 : S w4.drew := by rw [HS.out]; exact hO.ext (Ext.refl w4).drew
 clear hO hf
 obtain ⟨sp2, hsp⟩ : ∃ sp : Nat → Sp, sp = ofList [det (.pointer (some ⟨g2, 0, none⟩)), det (.func (.func 74) #[] #[]), det (.pointer (some ⟨g3, 0, none⟩)), det (.float .f64 a), det (.float .f64 p), det (.pointer (some ⟨g2, 0, none⟩)), det (.func (.func 74) #[] #[]), det (.pointer (some ⟨g3, 1, none⟩)), det (.float .f64 b), det (.float .f64 q), det (.agg #[.float .f64 p, .float .f64 q]), det (.agg #[.float .f64 r1, .float .f64 r2])] := ⟨_, rfl⟩
 have HSP2 := Lib.hid hsp
 clear hsp
 refine wp_region_loose 12 S sp2 (by kernel_rfl) (by kernel_rfl) hS2 HSE.out ?_
 simp only [List.take_succ_cons, List.take_zero, List.drop_succ_cons, List.drop_zero]
 iterate 12
   refine wpX_step (fun K hK => ?_)
   go_simp
   refine StepY.det (by rw [HSP2.out]; rfl) ?_ ?_
   · intro wz hz hF
     rw [HS.out] at hz
     have hf := hz.cells
     simp only [BC, CC, Nat.zero_add, Nat.reduceAdd, and_true] at hf
     clear hz hF
     go_simp
     first
     | exact ⟨rfl, Ext.refl _⟩
     | ((with_reducible refine (H1.out _).mono ?_)
        rintro e w5 ⟨rfl, rfl⟩
        exact ⟨_, rfl, rfl, Ext.refl _⟩)
     | ((with_reducible refine (H2.out _).mono ?_)
        rintro e w5 ⟨rfl, rfl⟩
        exact ⟨_, rfl, rfl, Ext.refl _⟩)
     | (refine (HR2.out _).mono ?_
        rintro e w5 ⟨rfl, hE5⟩
        exact ⟨_, rfl, rfl, hE5⟩)
   refine hK _ _ ?_
   clear hK K
 refine wpX_nil ?_
 intro w6 hz6 hF
 clear hF
 rw [HS.out] at hz6
 have hO := hz6
 have hf := hO.cells
 simp only [BC, CC, Nat.zero_add, Nat.reduceAdd, and_true] at hf
 clear hz6
 go_wp2_with ((with_reducible refine at_store (T := 32) ?_); refine own_store (T := 32) hO 0 rfl rfl rfl size_iv rfl rfl rfl ?_; clear hO; intro w7 hO; simp only [List.set_cons_zero, List.set_cons_succ, spl, Nat.reduceAdd, Nat.zero_add] at hO; clear hf; have hf := hO.cells; simp only [BC, CC, Nat.zero_add, Nat.reduceAdd, and_true] at hf)
 exact own_ret hO 0 rfl rfl rfl agg_iv size_iv rfl ⟨rfl, hO.toExt⟩
theorem over1_any (x1 x2 : Nat) (w : World) (hx1 : x1 < 18446744073709551616) (hx2 : x2 < 18446744073709551616) :
   Calls Tryz.prog 58 #[.agg #[.func (.func 74) #[] #[]], .agg #[.float .f64 x1, .float .f64 x2]] w (RetF (piLo 1 x1 x2) (piHi 1 x1 x2) w) := by
 have HR := Lib.hid (fun w => iread_any x1 x2 w hx1 hx2)
 by_cases he : emp x1 x2
 · have e1 : piLo 1 x1 x2 = infR := if_pos he
   have e2 : piHi 1 x1 x2 = minf := if_pos he
   rw [e1, e2]
   rw [he.1, he.2] at HR
   exact over1_e x1 x2 infR minf w HR (eqF' (by decide) (by decide) (by decide) (by decide) rfl)
 · have e1 : piLo 1 x1 x2 = rdLo (stF 1 (rdLo x1 x2)) (stF 1 (rdHi x1 x2)) := if_neg he
   have e2 : piHi 1 x1 x2 = rdHi (stF 1 (rdLo x1 x2)) (stF 1 (rdHi x1 x2)) := if_neg he
   rw [e1, e2]
   obtain ⟨g1, g2, g3, g4, g5, g6, _, g8⟩ := rd_ends hx1 hx2 he
   have hq := eqF' (E := false) g1 g2 (show infR < 18446744073709551616 by decide) (show minf < 18446744073709551616 by decide) (by
     rw [eq_key g3 nan_inf, eq_key g4 nan_minf, key_inf, key_minf, Bool.and_eq_false_iff, decide_eq_false_iff_not, decide_eq_false_iff_not, key_eq_inf g1 g3]
     exact .inl g5)
   have s1 := stF_facts 1 g1 g3
   have s2 := stF_facts 1 g2 g4
   exact over1_f x1 x2 _ _ _ _ _ _ w HR hq (Lib.hid fun w => mfloor_any g1 g3 w) (Lib.hid fun w => mfloor_any g2 g4 w) (Lib.hid fun w => iread_any _ _ w s1.1 s2.1)
set_option maxHeartbeats 2000000 in
theorem pst1_any (x1 x2 : Nat) (w : World) (hx1 : x1 < 18446744073709551616) (hx2 : x2 < 18446744073709551616) :
   Calls Tryz.prog 47 #[.agg #[.float .f64 x1, .float .f64 x2]] w (RetF (piLo 1 x1 x2) (piHi 1 x1 x2) w) := by
 have HOV := Lib.hid (fun w => over1_any x1 x2 w hx1 hx2)
 obtain ⟨r1, hr1⟩ : ∃ r, r = piLo 1 x1 x2 := ⟨_, rfl⟩
 obtain ⟨r2, hr2⟩ : ∃ r, r = piHi 1 x1 x2 := ⟨_, rfl⟩
 rw [← hr1, ← hr2] at HOV ⊢
 clear hr1 hr2 hx1 hx2
 have hO := Own.start w
 have hf : True := trivial
 go_enter Tryz.func47, Tryz.ntmps47
 go_wp2_with (first | ((with_reducible refine at_box ?_); refine own_box (cs := [.float .f64 x1, .float .f64 x2]) hO rfl rfl ?_; clear hO; intro ga wa hO; clear hf; have hf := hO.cells; simp only [BC, CC, Nat.zero_add, Nat.reduceAdd, and_true] at hf) | ((with_reducible refine at_alloc ?_); refine own_alloc hO zero_iv rfl rfl ?_; clear hO; intro gb wb hO; clear hf; have hf := hO.cells; simp only [BC, CC, Nat.zero_add, Nat.reduceAdd, and_true] at hf))
 refine (HOV.out _).mono ?_
 rintro e w2 ⟨rfl, hE1⟩
 have hO := hO.ext hE1
 clear hE1
 clear hf
 have hf := hO.cells
 simp only [BC, CC, Nat.zero_add, Nat.reduceAdd, and_true] at hf
 go_wp2_with ((with_reducible refine at_store (T := 32) ?_); refine own_store (T := 32) hO 0 rfl rfl rfl size_iv rfl rfl rfl ?_; clear hO; intro w3 hO; simp only [List.set_cons_zero, List.set_cons_succ, spl, Nat.reduceAdd, Nat.zero_add] at hO; clear hf; have hf := hO.cells; simp only [BC, CC, Nat.zero_add, Nat.reduceAdd, and_true] at hf)
 exact own_ret hO 0 rfl rfl rfl agg_iv size_iv rfl ⟨rfl, hO.toExt⟩
set_option maxHeartbeats 4000000 in
theorem over2_e (x1 x2 a b : Nat) (w : World) (HR : Hid (∀ w, Calls Tryz.prog 30 #[.agg #[.float .f64 x1, .float .f64 x2]] w (RetF a b w)))
   (hq : ∀ w, (binOp .eql 32 (.agg #[.float .f64 a, .float .f64 b]) (.agg #[.float .f64 infR, .float .f64 minf])).run Tryz.prog w = .ok (.bool true) w) :
   Calls Tryz.prog 58 #[.agg #[.func (.func 75) #[] #[]], .agg #[.float .f64 x1, .float .f64 x2]] w (RetF a b w) := by
 have hO := Own.start w
 have hf : True := trivial
 have HEM := Lib.hid (fun w => iempty_any w)
 obtain ⟨I1, hI1⟩ : ∃ r, r = infR := ⟨_, rfl⟩
 obtain ⟨I2, hI2⟩ : ∃ r, r = minf := ⟨_, rfl⟩
 rw [← hI1, ← hI2] at HEM hq
 clear hI1 hI2
 go_enter Tryz.func58, Tryz.ntmps58
 go_wp2_with (first | ((with_reducible refine at_box ?_); refine own_box (cs := [.func (.func 75) #[] #[]]) hO rfl rfl ?_; clear hO; intro g2 wa hO; clear hf; have hf := hO.cells; simp only [BC, CC, Nat.zero_add, Nat.reduceAdd, and_true] at hf) | ((with_reducible refine at_box ?_); refine own_box (cs := [.float .f64 x1, .float .f64 x2]) hO rfl rfl ?_; clear hO; intro g3 wb hO; clear hf; have hf := hO.cells; simp only [BC, CC, Nat.zero_add, Nat.reduceAdd, and_true] at hf) | ((with_reducible refine at_alloc ?_); refine own_alloc hO zero_iv rfl rfl ?_; clear hO; intro g4 wc hO; clear hf; have hf := hO.cells; simp only [BC, CC, Nat.zero_add, Nat.reduceAdd, and_true] at hf))
 refine (HR.out _).mono ?_
 rintro e w2 ⟨rfl, hE1⟩
 have hO := hO.ext hE1
 clear hE1
 clear hf
 have hf := hO.cells
 simp only [BC, CC, Nat.zero_add, Nat.reduceAdd, and_true] at hf
 go_wp2_with ((with_reducible refine at_store (T := 32) ?_); refine own_store (T := 32) hO 1 rfl rfl rfl size_iv rfl rfl rfl ?_; clear hO; intro w3 hO; simp only [List.set_cons_zero, List.set_cons_succ, spl, Nat.reduceAdd, Nat.zero_add] at hO; clear hf; have hf := hO.cells; simp only [BC, CC, Nat.zero_add, Nat.reduceAdd, and_true] at hf)
 obtain ⟨S, hS⟩ : ∃ S : World → Prop, S = Own w [⟨g4, 32, [.float .f64 0, .float .f64 0]⟩, ⟨g3, 32, [.float .f64 a, .float .f64 b]⟩, ⟨g2, 74, [.func (.func 75) #[] #[]]⟩] [] := ⟨_, rfl⟩
 have HSE : Hid (∀ w w', S w → Ext w w' → S w') := Lib.hid (fun w w' h1 h2 => by rw [hS] at h1 ⊢; exact h1.ext h2)
 have hS1 : S w3.drew := by rw [hS]; exact hO.ext (Ext.refl w3).drew
 have HS := Lib.hid hS
 clear hS hO hf
 obtain ⟨sp, hsp⟩ : ∃ sp : Nat → Sp, sp = ofList [det (.agg #[.float .f64 a, .float .f64 b]), det (.agg #[.float .f64 I1, .float .f64 I2])] := ⟨_, rfl⟩
 have HSP := Lib.hid hsp
 clear hsp
 refine wp_region_loose 2 S sp (by kernel_rfl) (by kernel_rfl) hS1 HSE.out ?_
 simp only [List.take_succ_cons, List.take_zero, List.drop_succ_cons, List.drop_zero]
 iterate 2
   refine wpX_step (fun K hK => ?_)
   go_simp
   refine StepY.det (by rw [HSP.out]; rfl) ?_ ?_
   · intro wz hz hF
     rw [HS.out] at hz
     have hf := hz.cells
     simp only [BC, CC, Nat.zero_add, Nat.reduceAdd, and_true] at hf
     clear hz hF
     go_simp
     first
     | exact ⟨rfl, Ext.refl _⟩
     | (refine (HEM.out _).mono ?_
        rintro e w5 ⟨rfl, hE5⟩
        exact ⟨_, rfl, rfl, hE5⟩)
   refine hK _ _ ?_
   clear hK K
 refine wpX_nil ?_
 intro w4 hz4 hF
 clear hF
 rw [HS.out] at hz4
 have hO := hz4
 have hf := hO.cells
 simp only [BC, CC, Nat.zero_add, Nat.reduceAdd, and_true] at hf
 clear hz4 hS1 HSP
 go_wp2_with ((with_reducible refine at_store (T := 32) ?_); refine own_store (T := 32) hO 0 rfl rfl rfl size_iv rfl rfl rfl ?_; clear hO; intro w5 hO; simp only [List.set_cons_zero, List.set_cons_succ, spl, Nat.reduceAdd, Nat.zero_add] at hO; clear hf; have hf := hO.cells; simp only [BC, CC, Nat.zero_add, Nat.reduceAdd, and_true] at hf)
 exact own_ret hO 0 rfl rfl rfl agg_iv size_iv rfl ⟨rfl, hO.toExt⟩
set_option maxHeartbeats 4000000 in
theorem over2_f (x1 x2 a b p q r1 r2 : Nat) (w : World) (HR : Hid (∀ w, Calls Tryz.prog 30 #[.agg #[.float .f64 x1, .float .f64 x2]] w (RetF a b w)))
   (hq : ∀ w, (binOp .eql 32 (.agg #[.float .f64 a, .float .f64 b]) (.agg #[.float .f64 infR, .float .f64 minf])).run Tryz.prog w = .ok (.bool false) w)
   (H1 : Hid (∀ w, Calls Tryz.prog 75 #[.float .f64 a] w fun e w' => e = .returned (.float .f64 p) ∧ w = w')) (H2 : Hid (∀ w, Calls Tryz.prog 75 #[.float .f64 b] w fun e w' => e = .returned (.float .f64 q) ∧ w = w'))
   (HR2 : Hid (∀ w, Calls Tryz.prog 30 #[.agg #[.float .f64 p, .float .f64 q]] w (RetF r1 r2 w))) :
   Calls Tryz.prog 58 #[.agg #[.func (.func 75) #[] #[]], .agg #[.float .f64 x1, .float .f64 x2]] w (RetF r1 r2 w) := by
 have hO := Own.start w
 have hf : True := trivial
 have HEM := Lib.hid (fun w => iempty_any w)
 obtain ⟨I1, hI1⟩ : ∃ r, r = infR := ⟨_, rfl⟩
 obtain ⟨I2, hI2⟩ : ∃ r, r = minf := ⟨_, rfl⟩
 rw [← hI1, ← hI2] at HEM hq
 clear hI1 hI2
 go_enter Tryz.func58, Tryz.ntmps58
 go_wp2_with (first | ((with_reducible refine at_box ?_); refine own_box (cs := [.func (.func 75) #[] #[]]) hO rfl rfl ?_; clear hO; intro g2 wa hO; clear hf; have hf := hO.cells; simp only [BC, CC, Nat.zero_add, Nat.reduceAdd, and_true] at hf) | ((with_reducible refine at_box ?_); refine own_box (cs := [.float .f64 x1, .float .f64 x2]) hO rfl rfl ?_; clear hO; intro g3 wb hO; clear hf; have hf := hO.cells; simp only [BC, CC, Nat.zero_add, Nat.reduceAdd, and_true] at hf) | ((with_reducible refine at_alloc ?_); refine own_alloc hO zero_iv rfl rfl ?_; clear hO; intro g4 wc hO; clear hf; have hf := hO.cells; simp only [BC, CC, Nat.zero_add, Nat.reduceAdd, and_true] at hf))
 refine (HR.out _).mono ?_
 rintro e w2 ⟨rfl, hE1⟩
 have hO := hO.ext hE1
 clear hE1
 clear hf
 have hf := hO.cells
 simp only [BC, CC, Nat.zero_add, Nat.reduceAdd, and_true] at hf
 go_wp2_with ((with_reducible refine at_store (T := 32) ?_); refine own_store (T := 32) hO 1 rfl rfl rfl size_iv rfl rfl rfl ?_; clear hO; intro w3 hO; simp only [List.set_cons_zero, List.set_cons_succ, spl, Nat.reduceAdd, Nat.zero_add] at hO; clear hf; have hf := hO.cells; simp only [BC, CC, Nat.zero_add, Nat.reduceAdd, and_true] at hf)
 obtain ⟨S, hS⟩ : ∃ S : World → Prop, S = Own w [⟨g4, 32, [.float .f64 0, .float .f64 0]⟩, ⟨g3, 32, [.float .f64 a, .float .f64 b]⟩, ⟨g2, 74, [.func (.func 75) #[] #[]]⟩] [] := ⟨_, rfl⟩
 have HSE : Hid (∀ w w', S w → Ext w w' → S w') := Lib.hid (fun w w' h1 h2 => by rw [hS] at h1 ⊢; exact h1.ext h2)
 have hS1 : S w3.drew := by rw [hS]; exact hO.ext (Ext.refl w3).drew
 have HS := Lib.hid hS
 clear hS hO hf
 obtain ⟨sp, hsp⟩ : ∃ sp : Nat → Sp, sp = ofList [det (.agg #[.float .f64 a, .float .f64 b]), det (.agg #[.float .f64 I1, .float .f64 I2])] := ⟨_, rfl⟩
 have HSP := Lib.hid hsp
 clear hsp
 refine wp_region_loose 2 S sp (by kernel_rfl) (by kernel_rfl) hS1 HSE.out ?_
 simp only [List.take_succ_cons, List.take_zero, List.drop_succ_cons, List.drop_zero]
 iterate 2
   refine wpX_step (fun K hK => ?_)
   go_simp
   refine StepY.det (by rw [HSP.out]; rfl) ?_ ?_
   · intro wz hz hF
     rw [HS.out] at hz
     have hf := hz.cells
     simp only [BC, CC, Nat.zero_add, Nat.reduceAdd, and_true] at hf
     clear hz hF
     go_simp
     first
     | exact ⟨rfl, Ext.refl _⟩
     | (refine (HEM.out _).mono ?_
        rintro e w5 ⟨rfl, hE5⟩
        exact ⟨_, rfl, rfl, hE5⟩)
   refine hK _ _ ?_
   clear hK K
 refine wpX_nil ?_
 intro w4 hz4 hF
 clear hF
 rw [HS.out] at hz4
 have hO := hz4
 have hf := hO.cells
 simp only [BC, CC, Nat.zero_add, Nat.reduceAdd, and_true] at hf
 clear hz4 hS1 HSP
 go_wp2_with fail
 have hS2 : S w4.drew := by rw [HS.out]; exact hO.ext (Ext.refl w4).drew
 clear hO hf
 obtain ⟨sp2, hsp⟩ : ∃ sp : Nat → Sp, sp = ofList [det (.pointer (some ⟨g2, 0, none⟩)), det (.func (.func 75) #[] #[]), det (.pointer (some ⟨g3, 0, none⟩)), det (.float .f64 a), det (.float .f64 p), det (.pointer (some ⟨g2, 0, none⟩)), det (.func (.func 75) #[] #[]), det (.pointer (some ⟨g3, 1, none⟩)), det (.float .f64 b), det (.float .f64 q), det (.agg #[.float .f64 p, .float .f64 q]), det (.agg #[.float .f64 r1, .float .f64 r2])] := ⟨_, rfl⟩
 have HSP2 := Lib.hid hsp
 clear hsp
 refine wp_region_loose 12 S sp2 (by kernel_rfl) (by kernel_rfl) hS2 HSE.out ?_
 simp only [List.take_succ_cons, List.take_zero, List.drop_succ_cons, List.drop_zero]
 iterate 12
   refine wpX_step (fun K hK => ?_)
   go_simp
   refine StepY.det (by rw [HSP2.out]; rfl) ?_ ?_
   · intro wz hz hF
     rw [HS.out] at hz
     have hf := hz.cells
     simp only [BC, CC, Nat.zero_add, Nat.reduceAdd, and_true] at hf
     clear hz hF
     go_simp
     first
     | exact ⟨rfl, Ext.refl _⟩
     | ((with_reducible refine (H1.out _).mono ?_)
        rintro e w5 ⟨rfl, rfl⟩
        exact ⟨_, rfl, rfl, Ext.refl _⟩)
     | ((with_reducible refine (H2.out _).mono ?_)
        rintro e w5 ⟨rfl, rfl⟩
        exact ⟨_, rfl, rfl, Ext.refl _⟩)
     | (refine (HR2.out _).mono ?_
        rintro e w5 ⟨rfl, hE5⟩
        exact ⟨_, rfl, rfl, hE5⟩)
   refine hK _ _ ?_
   clear hK K
 refine wpX_nil ?_
 intro w6 hz6 hF
 clear hF
 rw [HS.out] at hz6
 have hO := hz6
 have hf := hO.cells
 simp only [BC, CC, Nat.zero_add, Nat.reduceAdd, and_true] at hf
 clear hz6
 go_wp2_with ((with_reducible refine at_store (T := 32) ?_); refine own_store (T := 32) hO 0 rfl rfl rfl size_iv rfl rfl rfl ?_; clear hO; intro w7 hO; simp only [List.set_cons_zero, List.set_cons_succ, spl, Nat.reduceAdd, Nat.zero_add] at hO; clear hf; have hf := hO.cells; simp only [BC, CC, Nat.zero_add, Nat.reduceAdd, and_true] at hf)
 exact own_ret hO 0 rfl rfl rfl agg_iv size_iv rfl ⟨rfl, hO.toExt⟩
theorem over2_any (x1 x2 : Nat) (w : World) (hx1 : x1 < 18446744073709551616) (hx2 : x2 < 18446744073709551616) :
   Calls Tryz.prog 58 #[.agg #[.func (.func 75) #[] #[]], .agg #[.float .f64 x1, .float .f64 x2]] w (RetF (piLo 2 x1 x2) (piHi 2 x1 x2) w) := by
 have HR := Lib.hid (fun w => iread_any x1 x2 w hx1 hx2)
 by_cases he : emp x1 x2
 · have e1 : piLo 2 x1 x2 = infR := if_pos he
   have e2 : piHi 2 x1 x2 = minf := if_pos he
   rw [e1, e2]
   rw [he.1, he.2] at HR
   exact over2_e x1 x2 infR minf w HR (eqF' (by decide) (by decide) (by decide) (by decide) rfl)
 · have e1 : piLo 2 x1 x2 = rdLo (stF 2 (rdLo x1 x2)) (stF 2 (rdHi x1 x2)) := if_neg he
   have e2 : piHi 2 x1 x2 = rdHi (stF 2 (rdLo x1 x2)) (stF 2 (rdHi x1 x2)) := if_neg he
   rw [e1, e2]
   obtain ⟨g1, g2, g3, g4, g5, g6, _, g8⟩ := rd_ends hx1 hx2 he
   have hq := eqF' (E := false) g1 g2 (show infR < 18446744073709551616 by decide) (show minf < 18446744073709551616 by decide) (by
     rw [eq_key g3 nan_inf, eq_key g4 nan_minf, key_inf, key_minf, Bool.and_eq_false_iff, decide_eq_false_iff_not, decide_eq_false_iff_not, key_eq_inf g1 g3]
     exact .inl g5)
   have s1 := stF_facts 2 g1 g3
   have s2 := stF_facts 2 g2 g4
   exact over2_f x1 x2 _ _ _ _ _ _ w HR hq (Lib.hid fun w => mceil_any g1 g3 w) (Lib.hid fun w => mceil_any g2 g4 w) (Lib.hid fun w => iread_any _ _ w s1.1 s2.1)
set_option maxHeartbeats 2000000 in
theorem pst2_any (x1 x2 : Nat) (w : World) (hx1 : x1 < 18446744073709551616) (hx2 : x2 < 18446744073709551616) :
   Calls Tryz.prog 48 #[.agg #[.float .f64 x1, .float .f64 x2]] w (RetF (piLo 2 x1 x2) (piHi 2 x1 x2) w) := by
 have HOV := Lib.hid (fun w => over2_any x1 x2 w hx1 hx2)
 obtain ⟨r1, hr1⟩ : ∃ r, r = piLo 2 x1 x2 := ⟨_, rfl⟩
 obtain ⟨r2, hr2⟩ : ∃ r, r = piHi 2 x1 x2 := ⟨_, rfl⟩
 rw [← hr1, ← hr2] at HOV ⊢
 clear hr1 hr2 hx1 hx2
 have hO := Own.start w
 have hf : True := trivial
 go_enter Tryz.func48, Tryz.ntmps48
 go_wp2_with (first | ((with_reducible refine at_box ?_); refine own_box (cs := [.float .f64 x1, .float .f64 x2]) hO rfl rfl ?_; clear hO; intro ga wa hO; clear hf; have hf := hO.cells; simp only [BC, CC, Nat.zero_add, Nat.reduceAdd, and_true] at hf) | ((with_reducible refine at_alloc ?_); refine own_alloc hO zero_iv rfl rfl ?_; clear hO; intro gb wb hO; clear hf; have hf := hO.cells; simp only [BC, CC, Nat.zero_add, Nat.reduceAdd, and_true] at hf))
 refine (HOV.out _).mono ?_
 rintro e w2 ⟨rfl, hE1⟩
 have hO := hO.ext hE1
 clear hE1
 clear hf
 have hf := hO.cells
 simp only [BC, CC, Nat.zero_add, Nat.reduceAdd, and_true] at hf
 go_wp2_with ((with_reducible refine at_store (T := 32) ?_); refine own_store (T := 32) hO 0 rfl rfl rfl size_iv rfl rfl rfl ?_; clear hO; intro w3 hO; simp only [List.set_cons_zero, List.set_cons_succ, spl, Nat.reduceAdd, Nat.zero_add] at hO; clear hf; have hf := hO.cells; simp only [BC, CC, Nat.zero_add, Nat.reduceAdd, and_true] at hf)
 exact own_ret hO 0 rfl rfl rfl agg_iv size_iv rfl ⟨rfl, hO.toExt⟩
set_option maxHeartbeats 4000000 in
theorem over3_e (x1 x2 a b : Nat) (w : World) (HR : Hid (∀ w, Calls Tryz.prog 30 #[.agg #[.float .f64 x1, .float .f64 x2]] w (RetF a b w)))
   (hq : ∀ w, (binOp .eql 32 (.agg #[.float .f64 a, .float .f64 b]) (.agg #[.float .f64 infR, .float .f64 minf])).run Tryz.prog w = .ok (.bool true) w) :
   Calls Tryz.prog 58 #[.agg #[.func (.func 76) #[] #[]], .agg #[.float .f64 x1, .float .f64 x2]] w (RetF a b w) := by
 have hO := Own.start w
 have hf : True := trivial
 have HEM := Lib.hid (fun w => iempty_any w)
 obtain ⟨I1, hI1⟩ : ∃ r, r = infR := ⟨_, rfl⟩
 obtain ⟨I2, hI2⟩ : ∃ r, r = minf := ⟨_, rfl⟩
 rw [← hI1, ← hI2] at HEM hq
 clear hI1 hI2
 go_enter Tryz.func58, Tryz.ntmps58
 go_wp2_with (first | ((with_reducible refine at_box ?_); refine own_box (cs := [.func (.func 76) #[] #[]]) hO rfl rfl ?_; clear hO; intro g2 wa hO; clear hf; have hf := hO.cells; simp only [BC, CC, Nat.zero_add, Nat.reduceAdd, and_true] at hf) | ((with_reducible refine at_box ?_); refine own_box (cs := [.float .f64 x1, .float .f64 x2]) hO rfl rfl ?_; clear hO; intro g3 wb hO; clear hf; have hf := hO.cells; simp only [BC, CC, Nat.zero_add, Nat.reduceAdd, and_true] at hf) | ((with_reducible refine at_alloc ?_); refine own_alloc hO zero_iv rfl rfl ?_; clear hO; intro g4 wc hO; clear hf; have hf := hO.cells; simp only [BC, CC, Nat.zero_add, Nat.reduceAdd, and_true] at hf))
 refine (HR.out _).mono ?_
 rintro e w2 ⟨rfl, hE1⟩
 have hO := hO.ext hE1
 clear hE1
 clear hf
 have hf := hO.cells
 simp only [BC, CC, Nat.zero_add, Nat.reduceAdd, and_true] at hf
 go_wp2_with ((with_reducible refine at_store (T := 32) ?_); refine own_store (T := 32) hO 1 rfl rfl rfl size_iv rfl rfl rfl ?_; clear hO; intro w3 hO; simp only [List.set_cons_zero, List.set_cons_succ, spl, Nat.reduceAdd, Nat.zero_add] at hO; clear hf; have hf := hO.cells; simp only [BC, CC, Nat.zero_add, Nat.reduceAdd, and_true] at hf)
 obtain ⟨S, hS⟩ : ∃ S : World → Prop, S = Own w [⟨g4, 32, [.float .f64 0, .float .f64 0]⟩, ⟨g3, 32, [.float .f64 a, .float .f64 b]⟩, ⟨g2, 74, [.func (.func 76) #[] #[]]⟩] [] := ⟨_, rfl⟩
 have HSE : Hid (∀ w w', S w → Ext w w' → S w') := Lib.hid (fun w w' h1 h2 => by rw [hS] at h1 ⊢; exact h1.ext h2)
 have hS1 : S w3.drew := by rw [hS]; exact hO.ext (Ext.refl w3).drew
 have HS := Lib.hid hS
 clear hS hO hf
 obtain ⟨sp, hsp⟩ : ∃ sp : Nat → Sp, sp = ofList [det (.agg #[.float .f64 a, .float .f64 b]), det (.agg #[.float .f64 I1, .float .f64 I2])] := ⟨_, rfl⟩
 have HSP := Lib.hid hsp
 clear hsp
 refine wp_region_loose 2 S sp (by kernel_rfl) (by kernel_rfl) hS1 HSE.out ?_
 simp only [List.take_succ_cons, List.take_zero, List.drop_succ_cons, List.drop_zero]
 iterate 2
   refine wpX_step (fun K hK => ?_)
   go_simp
   refine StepY.det (by rw [HSP.out]; rfl) ?_ ?_
   · intro wz hz hF
     rw [HS.out] at hz
     have hf := hz.cells
     simp only [BC, CC, Nat.zero_add, Nat.reduceAdd, and_true] at hf
     clear hz hF
     go_simp
     first
     | exact ⟨rfl, Ext.refl _⟩
     | (refine (HEM.out _).mono ?_
        rintro e w5 ⟨rfl, hE5⟩
        exact ⟨_, rfl, rfl, hE5⟩)
   refine hK _ _ ?_
   clear hK K
 refine wpX_nil ?_
 intro w4 hz4 hF
 clear hF
 rw [HS.out] at hz4
 have hO := hz4
 have hf := hO.cells
 simp only [BC, CC, Nat.zero_add, Nat.reduceAdd, and_true] at hf
 clear hz4 hS1 HSP
 go_wp2_with ((with_reducible refine at_store (T := 32) ?_); refine own_store (T := 32) hO 0 rfl rfl rfl size_iv rfl rfl rfl ?_; clear hO; intro w5 hO; simp only [List.set_cons_zero, List.set_cons_succ, spl, Nat.reduceAdd, Nat.zero_add] at hO; clear hf; have hf := hO.cells; simp only [BC, CC, Nat.zero_add, Nat.reduceAdd, and_true] at hf)
 exact own_ret hO 0 rfl rfl rfl agg_iv size_iv rfl ⟨rfl, hO.toExt⟩
set_option maxHeartbeats 4000000 in
theorem over3_f (x1 x2 a b p q r1 r2 : Nat) (w : World) (HR : Hid (∀ w, Calls Tryz.prog 30 #[.agg #[.float .f64 x1, .float .f64 x2]] w (RetF a b w)))
   (hq : ∀ w, (binOp .eql 32 (.agg #[.float .f64 a, .float .f64 b]) (.agg #[.float .f64 infR, .float .f64 minf])).run Tryz.prog w = .ok (.bool false) w)
   (H1 : Hid (∀ w, Calls Tryz.prog 76 #[.float .f64 a] w fun e w' => e = .returned (.float .f64 p) ∧ w = w')) (H2 : Hid (∀ w, Calls Tryz.prog 76 #[.float .f64 b] w fun e w' => e = .returned (.float .f64 q) ∧ w = w'))
   (HR2 : Hid (∀ w, Calls Tryz.prog 30 #[.agg #[.float .f64 p, .float .f64 q]] w (RetF r1 r2 w))) :
   Calls Tryz.prog 58 #[.agg #[.func (.func 76) #[] #[]], .agg #[.float .f64 x1, .float .f64 x2]] w (RetF r1 r2 w) := by
 have hO := Own.start w
 have hf : True := trivial
 have HEM := Lib.hid (fun w => iempty_any w)
 obtain ⟨I1, hI1⟩ : ∃ r, r = infR := ⟨_, rfl⟩
 obtain ⟨I2, hI2⟩ : ∃ r, r = minf := ⟨_, rfl⟩
 rw [← hI1, ← hI2] at HEM hq
 clear hI1 hI2
 go_enter Tryz.func58, Tryz.ntmps58
 go_wp2_with (first | ((with_reducible refine at_box ?_); refine own_box (cs := [.func (.func 76) #[] #[]]) hO rfl rfl ?_; clear hO; intro g2 wa hO; clear hf; have hf := hO.cells; simp only [BC, CC, Nat.zero_add, Nat.reduceAdd, and_true] at hf) | ((with_reducible refine at_box ?_); refine own_box (cs := [.float .f64 x1, .float .f64 x2]) hO rfl rfl ?_; clear hO; intro g3 wb hO; clear hf; have hf := hO.cells; simp only [BC, CC, Nat.zero_add, Nat.reduceAdd, and_true] at hf) | ((with_reducible refine at_alloc ?_); refine own_alloc hO zero_iv rfl rfl ?_; clear hO; intro g4 wc hO; clear hf; have hf := hO.cells; simp only [BC, CC, Nat.zero_add, Nat.reduceAdd, and_true] at hf))
 refine (HR.out _).mono ?_
 rintro e w2 ⟨rfl, hE1⟩
 have hO := hO.ext hE1
 clear hE1
 clear hf
 have hf := hO.cells
 simp only [BC, CC, Nat.zero_add, Nat.reduceAdd, and_true] at hf
 go_wp2_with ((with_reducible refine at_store (T := 32) ?_); refine own_store (T := 32) hO 1 rfl rfl rfl size_iv rfl rfl rfl ?_; clear hO; intro w3 hO; simp only [List.set_cons_zero, List.set_cons_succ, spl, Nat.reduceAdd, Nat.zero_add] at hO; clear hf; have hf := hO.cells; simp only [BC, CC, Nat.zero_add, Nat.reduceAdd, and_true] at hf)
 obtain ⟨S, hS⟩ : ∃ S : World → Prop, S = Own w [⟨g4, 32, [.float .f64 0, .float .f64 0]⟩, ⟨g3, 32, [.float .f64 a, .float .f64 b]⟩, ⟨g2, 74, [.func (.func 76) #[] #[]]⟩] [] := ⟨_, rfl⟩
 have HSE : Hid (∀ w w', S w → Ext w w' → S w') := Lib.hid (fun w w' h1 h2 => by rw [hS] at h1 ⊢; exact h1.ext h2)
 have hS1 : S w3.drew := by rw [hS]; exact hO.ext (Ext.refl w3).drew
 have HS := Lib.hid hS
 clear hS hO hf
 obtain ⟨sp, hsp⟩ : ∃ sp : Nat → Sp, sp = ofList [det (.agg #[.float .f64 a, .float .f64 b]), det (.agg #[.float .f64 I1, .float .f64 I2])] := ⟨_, rfl⟩
 have HSP := Lib.hid hsp
 clear hsp
 refine wp_region_loose 2 S sp (by kernel_rfl) (by kernel_rfl) hS1 HSE.out ?_
 simp only [List.take_succ_cons, List.take_zero, List.drop_succ_cons, List.drop_zero]
 iterate 2
   refine wpX_step (fun K hK => ?_)
   go_simp
   refine StepY.det (by rw [HSP.out]; rfl) ?_ ?_
   · intro wz hz hF
     rw [HS.out] at hz
     have hf := hz.cells
     simp only [BC, CC, Nat.zero_add, Nat.reduceAdd, and_true] at hf
     clear hz hF
     go_simp
     first
     | exact ⟨rfl, Ext.refl _⟩
     | (refine (HEM.out _).mono ?_
        rintro e w5 ⟨rfl, hE5⟩
        exact ⟨_, rfl, rfl, hE5⟩)
   refine hK _ _ ?_
   clear hK K
 refine wpX_nil ?_
 intro w4 hz4 hF
 clear hF
 rw [HS.out] at hz4
 have hO := hz4
 have hf := hO.cells
 simp only [BC, CC, Nat.zero_add, Nat.reduceAdd, and_true] at hf
 clear hz4 hS1 HSP
 go_wp2_with fail
 have hS2 : S w4.drew := by rw [HS.out]; exact hO.ext (Ext.refl w4).drew
 clear hO hf
 obtain ⟨sp2, hsp⟩ : ∃ sp : Nat → Sp, sp = ofList [det (.pointer (some ⟨g2, 0, none⟩)), det (.func (.func 76) #[] #[]), det (.pointer (some ⟨g3, 0, none⟩)), det (.float .f64 a), det (.float .f64 p), det (.pointer (some ⟨g2, 0, none⟩)), det (.func (.func 76) #[] #[]), det (.pointer (some ⟨g3, 1, none⟩)), det (.float .f64 b), det (.float .f64 q), det (.agg #[.float .f64 p, .float .f64 q]), det (.agg #[.float .f64 r1, .float .f64 r2])] := ⟨_, rfl⟩
 have HSP2 := Lib.hid hsp
 clear hsp
 refine wp_region_loose 12 S sp2 (by kernel_rfl) (by kernel_rfl) hS2 HSE.out ?_
 simp only [List.take_succ_cons, List.take_zero, List.drop_succ_cons, List.drop_zero]
 iterate 12
   refine wpX_step (fun K hK => ?_)
   go_simp
   refine StepY.det (by rw [HSP2.out]; rfl) ?_ ?_
   · intro wz hz hF
     rw [HS.out] at hz
     have hf := hz.cells
     simp only [BC, CC, Nat.zero_add, Nat.reduceAdd, and_true] at hf
     clear hz hF
     go_simp
     first
     | exact ⟨rfl, Ext.refl _⟩
     | ((with_reducible refine (H1.out _).mono ?_)
        rintro e w5 ⟨rfl, rfl⟩
        exact ⟨_, rfl, rfl, Ext.refl _⟩)
     | ((with_reducible refine (H2.out _).mono ?_)
        rintro e w5 ⟨rfl, rfl⟩
        exact ⟨_, rfl, rfl, Ext.refl _⟩)
     | (refine (HR2.out _).mono ?_
        rintro e w5 ⟨rfl, hE5⟩
        exact ⟨_, rfl, rfl, hE5⟩)
   refine hK _ _ ?_
   clear hK K
 refine wpX_nil ?_
 intro w6 hz6 hF
 clear hF
 rw [HS.out] at hz6
 have hO := hz6
 have hf := hO.cells
 simp only [BC, CC, Nat.zero_add, Nat.reduceAdd, and_true] at hf
 clear hz6
 go_wp2_with ((with_reducible refine at_store (T := 32) ?_); refine own_store (T := 32) hO 0 rfl rfl rfl size_iv rfl rfl rfl ?_; clear hO; intro w7 hO; simp only [List.set_cons_zero, List.set_cons_succ, spl, Nat.reduceAdd, Nat.zero_add] at hO; clear hf; have hf := hO.cells; simp only [BC, CC, Nat.zero_add, Nat.reduceAdd, and_true] at hf)
 exact own_ret hO 0 rfl rfl rfl agg_iv size_iv rfl ⟨rfl, hO.toExt⟩
theorem over3_any (x1 x2 : Nat) (w : World) (hx1 : x1 < 18446744073709551616) (hx2 : x2 < 18446744073709551616) :
   Calls Tryz.prog 58 #[.agg #[.func (.func 76) #[] #[]], .agg #[.float .f64 x1, .float .f64 x2]] w (RetF (piLo 3 x1 x2) (piHi 3 x1 x2) w) := by
 have HR := Lib.hid (fun w => iread_any x1 x2 w hx1 hx2)
 by_cases he : emp x1 x2
 · have e1 : piLo 3 x1 x2 = infR := if_pos he
   have e2 : piHi 3 x1 x2 = minf := if_pos he
   rw [e1, e2]
   rw [he.1, he.2] at HR
   exact over3_e x1 x2 infR minf w HR (eqF' (by decide) (by decide) (by decide) (by decide) rfl)
 · have e1 : piLo 3 x1 x2 = rdLo (stF 3 (rdLo x1 x2)) (stF 3 (rdHi x1 x2)) := if_neg he
   have e2 : piHi 3 x1 x2 = rdHi (stF 3 (rdLo x1 x2)) (stF 3 (rdHi x1 x2)) := if_neg he
   rw [e1, e2]
   obtain ⟨g1, g2, g3, g4, g5, g6, _, g8⟩ := rd_ends hx1 hx2 he
   have hq := eqF' (E := false) g1 g2 (show infR < 18446744073709551616 by decide) (show minf < 18446744073709551616 by decide) (by
     rw [eq_key g3 nan_inf, eq_key g4 nan_minf, key_inf, key_minf, Bool.and_eq_false_iff, decide_eq_false_iff_not, decide_eq_false_iff_not, key_eq_inf g1 g3]
     exact .inl g5)
   have s1 := stF_facts 3 g1 g3
   have s2 := stF_facts 3 g2 g4
   exact over3_f x1 x2 _ _ _ _ _ _ w HR hq (Lib.hid fun w => mtrunc_any g1 g3 w) (Lib.hid fun w => mtrunc_any g2 g4 w) (Lib.hid fun w => iread_any _ _ w s1.1 s2.1)
set_option maxHeartbeats 2000000 in
theorem pst3_any (x1 x2 : Nat) (w : World) (hx1 : x1 < 18446744073709551616) (hx2 : x2 < 18446744073709551616) :
   Calls Tryz.prog 49 #[.agg #[.float .f64 x1, .float .f64 x2]] w (RetF (piLo 3 x1 x2) (piHi 3 x1 x2) w) := by
 have HOV := Lib.hid (fun w => over3_any x1 x2 w hx1 hx2)
 obtain ⟨r1, hr1⟩ : ∃ r, r = piLo 3 x1 x2 := ⟨_, rfl⟩
 obtain ⟨r2, hr2⟩ : ∃ r, r = piHi 3 x1 x2 := ⟨_, rfl⟩
 rw [← hr1, ← hr2] at HOV ⊢
 clear hr1 hr2 hx1 hx2
 have hO := Own.start w
 have hf : True := trivial
 go_enter Tryz.func49, Tryz.ntmps49
 go_wp2_with (first | ((with_reducible refine at_box ?_); refine own_box (cs := [.float .f64 x1, .float .f64 x2]) hO rfl rfl ?_; clear hO; intro ga wa hO; clear hf; have hf := hO.cells; simp only [BC, CC, Nat.zero_add, Nat.reduceAdd, and_true] at hf) | ((with_reducible refine at_alloc ?_); refine own_alloc hO zero_iv rfl rfl ?_; clear hO; intro gb wb hO; clear hf; have hf := hO.cells; simp only [BC, CC, Nat.zero_add, Nat.reduceAdd, and_true] at hf))
 refine (HOV.out _).mono ?_
 rintro e w2 ⟨rfl, hE1⟩
 have hO := hO.ext hE1
 clear hE1
 clear hf
 have hf := hO.cells
 simp only [BC, CC, Nat.zero_add, Nat.reduceAdd, and_true] at hf
 go_wp2_with ((with_reducible refine at_store (T := 32) ?_); refine own_store (T := 32) hO 0 rfl rfl rfl size_iv rfl rfl rfl ?_; clear hO; intro w3 hO; simp only [List.set_cons_zero, List.set_cons_succ, spl, Nat.reduceAdd, Nat.zero_add] at hO; clear hf; have hf := hO.cells; simp only [BC, CC, Nat.zero_add, Nat.reduceAdd, and_true] at hf)
 exact own_ret hO 0 rfl rfl rfl agg_iv size_iv rfl ⟨rfl, hO.toExt⟩
set_option maxHeartbeats 4000000 in
theorem over5_e (x1 x2 a b : Nat) (w : World) (HR : Hid (∀ w, Calls Tryz.prog 30 #[.agg #[.float .f64 x1, .float .f64 x2]] w (RetF a b w)))
   (hq : ∀ w, (binOp .eql 32 (.agg #[.float .f64 a, .float .f64 b]) (.agg #[.float .f64 infR, .float .f64 minf])).run Tryz.prog w = .ok (.bool true) w) :
   Calls Tryz.prog 58 #[.agg #[.func (.func 77) #[] #[]], .agg #[.float .f64 x1, .float .f64 x2]] w (RetF a b w) := by
 have hO := Own.start w
 have hf : True := trivial
 have HEM := Lib.hid (fun w => iempty_any w)
 obtain ⟨I1, hI1⟩ : ∃ r, r = infR := ⟨_, rfl⟩
 obtain ⟨I2, hI2⟩ : ∃ r, r = minf := ⟨_, rfl⟩
 rw [← hI1, ← hI2] at HEM hq
 clear hI1 hI2
 go_enter Tryz.func58, Tryz.ntmps58
 go_wp2_with (first | ((with_reducible refine at_box ?_); refine own_box (cs := [.func (.func 77) #[] #[]]) hO rfl rfl ?_; clear hO; intro g2 wa hO; clear hf; have hf := hO.cells; simp only [BC, CC, Nat.zero_add, Nat.reduceAdd, and_true] at hf) | ((with_reducible refine at_box ?_); refine own_box (cs := [.float .f64 x1, .float .f64 x2]) hO rfl rfl ?_; clear hO; intro g3 wb hO; clear hf; have hf := hO.cells; simp only [BC, CC, Nat.zero_add, Nat.reduceAdd, and_true] at hf) | ((with_reducible refine at_alloc ?_); refine own_alloc hO zero_iv rfl rfl ?_; clear hO; intro g4 wc hO; clear hf; have hf := hO.cells; simp only [BC, CC, Nat.zero_add, Nat.reduceAdd, and_true] at hf))
 refine (HR.out _).mono ?_
 rintro e w2 ⟨rfl, hE1⟩
 have hO := hO.ext hE1
 clear hE1
 clear hf
 have hf := hO.cells
 simp only [BC, CC, Nat.zero_add, Nat.reduceAdd, and_true] at hf
 go_wp2_with ((with_reducible refine at_store (T := 32) ?_); refine own_store (T := 32) hO 1 rfl rfl rfl size_iv rfl rfl rfl ?_; clear hO; intro w3 hO; simp only [List.set_cons_zero, List.set_cons_succ, spl, Nat.reduceAdd, Nat.zero_add] at hO; clear hf; have hf := hO.cells; simp only [BC, CC, Nat.zero_add, Nat.reduceAdd, and_true] at hf)
 obtain ⟨S, hS⟩ : ∃ S : World → Prop, S = Own w [⟨g4, 32, [.float .f64 0, .float .f64 0]⟩, ⟨g3, 32, [.float .f64 a, .float .f64 b]⟩, ⟨g2, 74, [.func (.func 77) #[] #[]]⟩] [] := ⟨_, rfl⟩
 have HSE : Hid (∀ w w', S w → Ext w w' → S w') := Lib.hid (fun w w' h1 h2 => by rw [hS] at h1 ⊢; exact h1.ext h2)
 have hS1 : S w3.drew := by rw [hS]; exact hO.ext (Ext.refl w3).drew
 have HS := Lib.hid hS
 clear hS hO hf
 obtain ⟨sp, hsp⟩ : ∃ sp : Nat → Sp, sp = ofList [det (.agg #[.float .f64 a, .float .f64 b]), det (.agg #[.float .f64 I1, .float .f64 I2])] := ⟨_, rfl⟩
 have HSP := Lib.hid hsp
 clear hsp
 refine wp_region_loose 2 S sp (by kernel_rfl) (by kernel_rfl) hS1 HSE.out ?_
 simp only [List.take_succ_cons, List.take_zero, List.drop_succ_cons, List.drop_zero]
 iterate 2
   refine wpX_step (fun K hK => ?_)
   go_simp
   refine StepY.det (by rw [HSP.out]; rfl) ?_ ?_
   · intro wz hz hF
     rw [HS.out] at hz
     have hf := hz.cells
     simp only [BC, CC, Nat.zero_add, Nat.reduceAdd, and_true] at hf
     clear hz hF
     go_simp
     first
     | exact ⟨rfl, Ext.refl _⟩
     | (refine (HEM.out _).mono ?_
        rintro e w5 ⟨rfl, hE5⟩
        exact ⟨_, rfl, rfl, hE5⟩)
   refine hK _ _ ?_
   clear hK K
 refine wpX_nil ?_
 intro w4 hz4 hF
 clear hF
 rw [HS.out] at hz4
 have hO := hz4
 have hf := hO.cells
 simp only [BC, CC, Nat.zero_add, Nat.reduceAdd, and_true] at hf
 clear hz4 hS1 HSP
 go_wp2_with ((with_reducible refine at_store (T := 32) ?_); refine own_store (T := 32) hO 0 rfl rfl rfl size_iv rfl rfl rfl ?_; clear hO; intro w5 hO; simp only [List.set_cons_zero, List.set_cons_succ, spl, Nat.reduceAdd, Nat.zero_add] at hO; clear hf; have hf := hO.cells; simp only [BC, CC, Nat.zero_add, Nat.reduceAdd, and_true] at hf)
 exact own_ret hO 0 rfl rfl rfl agg_iv size_iv rfl ⟨rfl, hO.toExt⟩
set_option maxHeartbeats 4000000 in
theorem over5_f (x1 x2 a b p q r1 r2 : Nat) (w : World) (HR : Hid (∀ w, Calls Tryz.prog 30 #[.agg #[.float .f64 x1, .float .f64 x2]] w (RetF a b w)))
   (hq : ∀ w, (binOp .eql 32 (.agg #[.float .f64 a, .float .f64 b]) (.agg #[.float .f64 infR, .float .f64 minf])).run Tryz.prog w = .ok (.bool false) w)
   (H1 : Hid (∀ w, Calls Tryz.prog 77 #[.float .f64 a] w fun e w' => e = .returned (.float .f64 p) ∧ w = w')) (H2 : Hid (∀ w, Calls Tryz.prog 77 #[.float .f64 b] w fun e w' => e = .returned (.float .f64 q) ∧ w = w'))
   (HR2 : Hid (∀ w, Calls Tryz.prog 30 #[.agg #[.float .f64 p, .float .f64 q]] w (RetF r1 r2 w))) :
   Calls Tryz.prog 58 #[.agg #[.func (.func 77) #[] #[]], .agg #[.float .f64 x1, .float .f64 x2]] w (RetF r1 r2 w) := by
 have hO := Own.start w
 have hf : True := trivial
 have HEM := Lib.hid (fun w => iempty_any w)
 obtain ⟨I1, hI1⟩ : ∃ r, r = infR := ⟨_, rfl⟩
 obtain ⟨I2, hI2⟩ : ∃ r, r = minf := ⟨_, rfl⟩
 rw [← hI1, ← hI2] at HEM hq
 clear hI1 hI2
 go_enter Tryz.func58, Tryz.ntmps58
 go_wp2_with (first | ((with_reducible refine at_box ?_); refine own_box (cs := [.func (.func 77) #[] #[]]) hO rfl rfl ?_; clear hO; intro g2 wa hO; clear hf; have hf := hO.cells; simp only [BC, CC, Nat.zero_add, Nat.reduceAdd, and_true] at hf) | ((with_reducible refine at_box ?_); refine own_box (cs := [.float .f64 x1, .float .f64 x2]) hO rfl rfl ?_; clear hO; intro g3 wb hO; clear hf; have hf := hO.cells; simp only [BC, CC, Nat.zero_add, Nat.reduceAdd, and_true] at hf) | ((with_reducible refine at_alloc ?_); refine own_alloc hO zero_iv rfl rfl ?_; clear hO; intro g4 wc hO; clear hf; have hf := hO.cells; simp only [BC, CC, Nat.zero_add, Nat.reduceAdd, and_true] at hf))
 refine (HR.out _).mono ?_
 rintro e w2 ⟨rfl, hE1⟩
 have hO := hO.ext hE1
 clear hE1
 clear hf
 have hf := hO.cells
 simp only [BC, CC, Nat.zero_add, Nat.reduceAdd, and_true] at hf
 go_wp2_with ((with_reducible refine at_store (T := 32) ?_); refine own_store (T := 32) hO 1 rfl rfl rfl size_iv rfl rfl rfl ?_; clear hO; intro w3 hO; simp only [List.set_cons_zero, List.set_cons_succ, spl, Nat.reduceAdd, Nat.zero_add] at hO; clear hf; have hf := hO.cells; simp only [BC, CC, Nat.zero_add, Nat.reduceAdd, and_true] at hf)
 obtain ⟨S, hS⟩ : ∃ S : World → Prop, S = Own w [⟨g4, 32, [.float .f64 0, .float .f64 0]⟩, ⟨g3, 32, [.float .f64 a, .float .f64 b]⟩, ⟨g2, 74, [.func (.func 77) #[] #[]]⟩] [] := ⟨_, rfl⟩
 have HSE : Hid (∀ w w', S w → Ext w w' → S w') := Lib.hid (fun w w' h1 h2 => by rw [hS] at h1 ⊢; exact h1.ext h2)
 have hS1 : S w3.drew := by rw [hS]; exact hO.ext (Ext.refl w3).drew
 have HS := Lib.hid hS
 clear hS hO hf
 obtain ⟨sp, hsp⟩ : ∃ sp : Nat → Sp, sp = ofList [det (.agg #[.float .f64 a, .float .f64 b]), det (.agg #[.float .f64 I1, .float .f64 I2])] := ⟨_, rfl⟩
 have HSP := Lib.hid hsp
 clear hsp
 refine wp_region_loose 2 S sp (by kernel_rfl) (by kernel_rfl) hS1 HSE.out ?_
 simp only [List.take_succ_cons, List.take_zero, List.drop_succ_cons, List.drop_zero]
 iterate 2
   refine wpX_step (fun K hK => ?_)
   go_simp
   refine StepY.det (by rw [HSP.out]; rfl) ?_ ?_
   · intro wz hz hF
     rw [HS.out] at hz
     have hf := hz.cells
     simp only [BC, CC, Nat.zero_add, Nat.reduceAdd, and_true] at hf
     clear hz hF
     go_simp
     first
     | exact ⟨rfl, Ext.refl _⟩
     | (refine (HEM.out _).mono ?_
        rintro e w5 ⟨rfl, hE5⟩
        exact ⟨_, rfl, rfl, hE5⟩)
   refine hK _ _ ?_
   clear hK K
 refine wpX_nil ?_
 intro w4 hz4 hF
 clear hF
 rw [HS.out] at hz4
 have hO := hz4
 have hf := hO.cells
 simp only [BC, CC, Nat.zero_add, Nat.reduceAdd, and_true] at hf
 clear hz4 hS1 HSP
 go_wp2_with fail
 have hS2 : S w4.drew := by rw [HS.out]; exact hO.ext (Ext.refl w4).drew
 clear hO hf
 obtain ⟨sp2, hsp⟩ : ∃ sp : Nat → Sp, sp = ofList [det (.pointer (some ⟨g2, 0, none⟩)), det (.func (.func 77) #[] #[]), det (.pointer (some ⟨g3, 0, none⟩)), det (.float .f64 a), det (.float .f64 p), det (.pointer (some ⟨g2, 0, none⟩)), det (.func (.func 77) #[] #[]), det (.pointer (some ⟨g3, 1, none⟩)), det (.float .f64 b), det (.float .f64 q), det (.agg #[.float .f64 p, .float .f64 q]), det (.agg #[.float .f64 r1, .float .f64 r2])] := ⟨_, rfl⟩
 have HSP2 := Lib.hid hsp
 clear hsp
 refine wp_region_loose 12 S sp2 (by kernel_rfl) (by kernel_rfl) hS2 HSE.out ?_
 simp only [List.take_succ_cons, List.take_zero, List.drop_succ_cons, List.drop_zero]
 iterate 12
   refine wpX_step (fun K hK => ?_)
   go_simp
   refine StepY.det (by rw [HSP2.out]; rfl) ?_ ?_
   · intro wz hz hF
     rw [HS.out] at hz
     have hf := hz.cells
     simp only [BC, CC, Nat.zero_add, Nat.reduceAdd, and_true] at hf
     clear hz hF
     go_simp
     first
     | exact ⟨rfl, Ext.refl _⟩
     | ((with_reducible refine (H1.out _).mono ?_)
        rintro e w5 ⟨rfl, rfl⟩
        exact ⟨_, rfl, rfl, Ext.refl _⟩)
     | ((with_reducible refine (H2.out _).mono ?_)
        rintro e w5 ⟨rfl, rfl⟩
        exact ⟨_, rfl, rfl, Ext.refl _⟩)
     | (refine (HR2.out _).mono ?_
        rintro e w5 ⟨rfl, hE5⟩
        exact ⟨_, rfl, rfl, hE5⟩)
   refine hK _ _ ?_
   clear hK K
 refine wpX_nil ?_
 intro w6 hz6 hF
 clear hF
 rw [HS.out] at hz6
 have hO := hz6
 have hf := hO.cells
 simp only [BC, CC, Nat.zero_add, Nat.reduceAdd, and_true] at hf
 clear hz6
 go_wp2_with ((with_reducible refine at_store (T := 32) ?_); refine own_store (T := 32) hO 0 rfl rfl rfl size_iv rfl rfl rfl ?_; clear hO; intro w7 hO; simp only [List.set_cons_zero, List.set_cons_succ, spl, Nat.reduceAdd, Nat.zero_add] at hO; clear hf; have hf := hO.cells; simp only [BC, CC, Nat.zero_add, Nat.reduceAdd, and_true] at hf)
 exact own_ret hO 0 rfl rfl rfl agg_iv size_iv rfl ⟨rfl, hO.toExt⟩
theorem over5_any (x1 x2 : Nat) (w : World) (hx1 : x1 < 18446744073709551616) (hx2 : x2 < 18446744073709551616) :
   Calls Tryz.prog 58 #[.agg #[.func (.func 77) #[] #[]], .agg #[.float .f64 x1, .float .f64 x2]] w (RetF (piLo 5 x1 x2) (piHi 5 x1 x2) w) := by
 have HR := Lib.hid (fun w => iread_any x1 x2 w hx1 hx2)
 by_cases he : emp x1 x2
 · have e1 : piLo 5 x1 x2 = infR := if_pos he
   have e2 : piHi 5 x1 x2 = minf := if_pos he
   rw [e1, e2]
   rw [he.1, he.2] at HR
   exact over5_e x1 x2 infR minf w HR (eqF' (by decide) (by decide) (by decide) (by decide) rfl)
 · have e1 : piLo 5 x1 x2 = rdLo (stF 5 (rdLo x1 x2)) (stF 5 (rdHi x1 x2)) := if_neg he
   have e2 : piHi 5 x1 x2 = rdHi (stF 5 (rdLo x1 x2)) (stF 5 (rdHi x1 x2)) := if_neg he
   rw [e1, e2]
   obtain ⟨g1, g2, g3, g4, g5, g6, _, g8⟩ := rd_ends hx1 hx2 he
   have hq := eqF' (E := false) g1 g2 (show infR < 18446744073709551616 by decide) (show minf < 18446744073709551616 by decide) (by
     rw [eq_key g3 nan_inf, eq_key g4 nan_minf, key_inf, key_minf, Bool.and_eq_false_iff, decide_eq_false_iff_not, decide_eq_false_iff_not, key_eq_inf g1 g3]
     exact .inl g5)
   have s1 := stF_facts 5 g1 g3
   have s2 := stF_facts 5 g2 g4
   exact over5_f x1 x2 _ _ _ _ _ _ w HR hq (Lib.hid fun w => mround_any g1 g3 w) (Lib.hid fun w => mround_any g2 g4 w) (Lib.hid fun w => iread_any _ _ w s1.1 s2.1)
set_option maxHeartbeats 2000000 in
theorem pst5_any (x1 x2 : Nat) (w : World) (hx1 : x1 < 18446744073709551616) (hx2 : x2 < 18446744073709551616) :
   Calls Tryz.prog 50 #[.agg #[.float .f64 x1, .float .f64 x2]] w (RetF (piLo 5 x1 x2) (piHi 5 x1 x2) w) := by
 have HOV := Lib.hid (fun w => over5_any x1 x2 w hx1 hx2)
 obtain ⟨r1, hr1⟩ : ∃ r, r = piLo 5 x1 x2 := ⟨_, rfl⟩
 obtain ⟨r2, hr2⟩ : ∃ r, r = piHi 5 x1 x2 := ⟨_, rfl⟩
 rw [← hr1, ← hr2] at HOV ⊢
 clear hr1 hr2 hx1 hx2
 have hO := Own.start w
 have hf : True := trivial
 go_enter Tryz.func50, Tryz.ntmps50
 go_wp2_with (first | ((with_reducible refine at_box ?_); refine own_box (cs := [.float .f64 x1, .float .f64 x2]) hO rfl rfl ?_; clear hO; intro ga wa hO; clear hf; have hf := hO.cells; simp only [BC, CC, Nat.zero_add, Nat.reduceAdd, and_true] at hf) | ((with_reducible refine at_alloc ?_); refine own_alloc hO zero_iv rfl rfl ?_; clear hO; intro gb wb hO; clear hf; have hf := hO.cells; simp only [BC, CC, Nat.zero_add, Nat.reduceAdd, and_true] at hf))
 refine (HOV.out _).mono ?_
 rintro e w2 ⟨rfl, hE1⟩
 have hO := hO.ext hE1
 clear hE1
 clear hf
 have hf := hO.cells
 simp only [BC, CC, Nat.zero_add, Nat.reduceAdd, and_true] at hf
 go_wp2_with ((with_reducible refine at_store (T := 32) ?_); refine own_store (T := 32) hO 0 rfl rfl rfl size_iv rfl rfl rfl ?_; clear hO; intro w3 hO; simp only [List.set_cons_zero, List.set_cons_succ, spl, Nat.reduceAdd, Nat.zero_add] at hO; clear hf; have hf := hO.cells; simp only [BC, CC, Nat.zero_add, Nat.reduceAdd, and_true] at hf)
 exact own_ret hO 0 rfl rfl rfl agg_iv size_iv rfl ⟨rfl, hO.toExt⟩
set_option maxHeartbeats 2000000 in
theorem step0_any (x1 x2 : Nat) (w : World) (hx1 : x1 < 18446744073709551616) (hx2 : x2 < 18446744073709551616) :
   Calls Tryz.prog 23 #[.int .i64 0, .agg #[.float .f64 x1, .float .f64 x2]] w (RetF (piLo 0 x1 x2) (piHi 0 x1 x2) w) := by
 have HOV := Lib.hid (fun w => pst0_any x1 x2 w hx1 hx2)
 obtain ⟨r1, hr1⟩ : ∃ r, r = piLo 0 x1 x2 := ⟨_, rfl⟩
 obtain ⟨r2, hr2⟩ : ∃ r, r = piHi 0 x1 x2 := ⟨_, rfl⟩
 rw [← hr1, ← hr2] at HOV ⊢
 clear hr1 hr2 hx1 hx2
 have hO := Own.start w
 have hf : True := trivial
 go_enter Tryz.func23, Tryz.ntmps23
 go_wp2_with (first | ((with_reducible refine at_box ?_); refine own_box (cs := [.float .f64 x1, .float .f64 x2]) hO rfl rfl ?_; clear hO; intro ga wa hO; clear hf; have hf := hO.cells; simp only [BC, CC, Nat.zero_add, Nat.reduceAdd, and_true] at hf) | ((with_reducible refine at_alloc ?_); refine own_alloc hO zero_iv rfl rfl ?_; clear hO; intro gb wb hO; clear hf; have hf := hO.cells; simp only [BC, CC, Nat.zero_add, Nat.reduceAdd, and_true] at hf))
 refine (HOV.out _).mono ?_
 rintro e w2 ⟨rfl, hE1⟩
 have hO := hO.ext hE1
 clear hE1
 clear hf
 have hf := hO.cells
 simp only [BC, CC, Nat.zero_add, Nat.reduceAdd, and_true] at hf
 go_wp2_with ((with_reducible refine at_store (T := 32) ?_); refine own_store (T := 32) hO 0 rfl rfl rfl size_iv rfl rfl rfl ?_; clear hO; intro w3 hO; simp only [List.set_cons_zero, List.set_cons_succ, spl, Nat.reduceAdd, Nat.zero_add] at hO; clear hf; have hf := hO.cells; simp only [BC, CC, Nat.zero_add, Nat.reduceAdd, and_true] at hf)
 exact own_ret hO 0 rfl rfl rfl agg_iv size_iv rfl ⟨rfl, hO.toExt⟩
set_option maxHeartbeats 2000000 in
theorem step1_any (x1 x2 : Nat) (w : World) (hx1 : x1 < 18446744073709551616) (hx2 : x2 < 18446744073709551616) :
   Calls Tryz.prog 23 #[.int .i64 1, .agg #[.float .f64 x1, .float .f64 x2]] w (RetF (piLo 1 x1 x2) (piHi 1 x1 x2) w) := by
 have HOV := Lib.hid (fun w => pst1_any x1 x2 w hx1 hx2)
 obtain ⟨r1, hr1⟩ : ∃ r, r = piLo 1 x1 x2 := ⟨_, rfl⟩
 obtain ⟨r2, hr2⟩ : ∃ r, r = piHi 1 x1 x2 := ⟨_, rfl⟩
 rw [← hr1, ← hr2] at HOV ⊢
 clear hr1 hr2 hx1 hx2
 have hO := Own.start w
 have hf : True := trivial
 go_enter Tryz.func23, Tryz.ntmps23
 go_wp2_with (first | ((with_reducible refine at_box ?_); refine own_box (cs := [.float .f64 x1, .float .f64 x2]) hO rfl rfl ?_; clear hO; intro ga wa hO; clear hf; have hf := hO.cells; simp only [BC, CC, Nat.zero_add, Nat.reduceAdd, and_true] at hf) | ((with_reducible refine at_alloc ?_); refine own_alloc hO zero_iv rfl rfl ?_; clear hO; intro gb wb hO; clear hf; have hf := hO.cells; simp only [BC, CC, Nat.zero_add, Nat.reduceAdd, and_true] at hf))
 refine (HOV.out _).mono ?_
 rintro e w2 ⟨rfl, hE1⟩
 have hO := hO.ext hE1
 clear hE1
 clear hf
 have hf := hO.cells
 simp only [BC, CC, Nat.zero_add, Nat.reduceAdd, and_true] at hf
 go_wp2_with ((with_reducible refine at_store (T := 32) ?_); refine own_store (T := 32) hO 0 rfl rfl rfl size_iv rfl rfl rfl ?_; clear hO; intro w3 hO; simp only [List.set_cons_zero, List.set_cons_succ, spl, Nat.reduceAdd, Nat.zero_add] at hO; clear hf; have hf := hO.cells; simp only [BC, CC, Nat.zero_add, Nat.reduceAdd, and_true] at hf)
 exact own_ret hO 0 rfl rfl rfl agg_iv size_iv rfl ⟨rfl, hO.toExt⟩
set_option maxHeartbeats 2000000 in
theorem step2_any (x1 x2 : Nat) (w : World) (hx1 : x1 < 18446744073709551616) (hx2 : x2 < 18446744073709551616) :
   Calls Tryz.prog 23 #[.int .i64 2, .agg #[.float .f64 x1, .float .f64 x2]] w (RetF (piLo 2 x1 x2) (piHi 2 x1 x2) w) := by
 have HOV := Lib.hid (fun w => pst2_any x1 x2 w hx1 hx2)
 obtain ⟨r1, hr1⟩ : ∃ r, r = piLo 2 x1 x2 := ⟨_, rfl⟩
 obtain ⟨r2, hr2⟩ : ∃ r, r = piHi 2 x1 x2 := ⟨_, rfl⟩
 rw [← hr1, ← hr2] at HOV ⊢
 clear hr1 hr2 hx1 hx2
 have hO := Own.start w
 have hf : True := trivial
 go_enter Tryz.func23, Tryz.ntmps23
 go_wp2_with (first | ((with_reducible refine at_box ?_); refine own_box (cs := [.float .f64 x1, .float .f64 x2]) hO rfl rfl ?_; clear hO; intro ga wa hO; clear hf; have hf := hO.cells; simp only [BC, CC, Nat.zero_add, Nat.reduceAdd, and_true] at hf) | ((with_reducible refine at_alloc ?_); refine own_alloc hO zero_iv rfl rfl ?_; clear hO; intro gb wb hO; clear hf; have hf := hO.cells; simp only [BC, CC, Nat.zero_add, Nat.reduceAdd, and_true] at hf))
 refine (HOV.out _).mono ?_
 rintro e w2 ⟨rfl, hE1⟩
 have hO := hO.ext hE1
 clear hE1
 clear hf
 have hf := hO.cells
 simp only [BC, CC, Nat.zero_add, Nat.reduceAdd, and_true] at hf
 go_wp2_with ((with_reducible refine at_store (T := 32) ?_); refine own_store (T := 32) hO 0 rfl rfl rfl size_iv rfl rfl rfl ?_; clear hO; intro w3 hO; simp only [List.set_cons_zero, List.set_cons_succ, spl, Nat.reduceAdd, Nat.zero_add] at hO; clear hf; have hf := hO.cells; simp only [BC, CC, Nat.zero_add, Nat.reduceAdd, and_true] at hf)
 exact own_ret hO 0 rfl rfl rfl agg_iv size_iv rfl ⟨rfl, hO.toExt⟩
set_option maxHeartbeats 2000000 in
theorem step3_any (x1 x2 : Nat) (w : World) (hx1 : x1 < 18446744073709551616) (hx2 : x2 < 18446744073709551616) :
   Calls Tryz.prog 23 #[.int .i64 3, .agg #[.float .f64 x1, .float .f64 x2]] w (RetF (piLo 3 x1 x2) (piHi 3 x1 x2) w) := by
 have HOV := Lib.hid (fun w => pst3_any x1 x2 w hx1 hx2)
 obtain ⟨r1, hr1⟩ : ∃ r, r = piLo 3 x1 x2 := ⟨_, rfl⟩
 obtain ⟨r2, hr2⟩ : ∃ r, r = piHi 3 x1 x2 := ⟨_, rfl⟩
 rw [← hr1, ← hr2] at HOV ⊢
 clear hr1 hr2 hx1 hx2
 have hO := Own.start w
 have hf : True := trivial
 go_enter Tryz.func23, Tryz.ntmps23
 go_wp2_with (first | ((with_reducible refine at_box ?_); refine own_box (cs := [.float .f64 x1, .float .f64 x2]) hO rfl rfl ?_; clear hO; intro ga wa hO; clear hf; have hf := hO.cells; simp only [BC, CC, Nat.zero_add, Nat.reduceAdd, and_true] at hf) | ((with_reducible refine at_alloc ?_); refine own_alloc hO zero_iv rfl rfl ?_; clear hO; intro gb wb hO; clear hf; have hf := hO.cells; simp only [BC, CC, Nat.zero_add, Nat.reduceAdd, and_true] at hf))
 refine (HOV.out _).mono ?_
 rintro e w2 ⟨rfl, hE1⟩
 have hO := hO.ext hE1
 clear hE1
 clear hf
 have hf := hO.cells
 simp only [BC, CC, Nat.zero_add, Nat.reduceAdd, and_true] at hf
 go_wp2_with ((with_reducible refine at_store (T := 32) ?_); refine own_store (T := 32) hO 0 rfl rfl rfl size_iv rfl rfl rfl ?_; clear hO; intro w3 hO; simp only [List.set_cons_zero, List.set_cons_succ, spl, Nat.reduceAdd, Nat.zero_add] at hO; clear hf; have hf := hO.cells; simp only [BC, CC, Nat.zero_add, Nat.reduceAdd, and_true] at hf)
 exact own_ret hO 0 rfl rfl rfl agg_iv size_iv rfl ⟨rfl, hO.toExt⟩
set_option maxHeartbeats 2000000 in
theorem step4_any (x1 x2 : Nat) (w : World) (hx1 : x1 < 18446744073709551616) (hx2 : x2 < 18446744073709551616) :
   Calls Tryz.prog 23 #[.int .i64 4, .agg #[.float .f64 x1, .float .f64 x2]] w (RetF (piLo 4 x1 x2) (piHi 4 x1 x2) w) := by
 have HOV := Lib.hid (fun w => pst4_any x1 x2 w hx1 hx2)
 obtain ⟨r1, hr1⟩ : ∃ r, r = piLo 4 x1 x2 := ⟨_, rfl⟩
 obtain ⟨r2, hr2⟩ : ∃ r, r = piHi 4 x1 x2 := ⟨_, rfl⟩
 rw [← hr1, ← hr2] at HOV ⊢
 clear hr1 hr2 hx1 hx2
 have hO := Own.start w
 have hf : True := trivial
 go_enter Tryz.func23, Tryz.ntmps23
 go_wp2_with (first | ((with_reducible refine at_box ?_); refine own_box (cs := [.float .f64 x1, .float .f64 x2]) hO rfl rfl ?_; clear hO; intro ga wa hO; clear hf; have hf := hO.cells; simp only [BC, CC, Nat.zero_add, Nat.reduceAdd, and_true] at hf) | ((with_reducible refine at_alloc ?_); refine own_alloc hO zero_iv rfl rfl ?_; clear hO; intro gb wb hO; clear hf; have hf := hO.cells; simp only [BC, CC, Nat.zero_add, Nat.reduceAdd, and_true] at hf))
 refine (HOV.out _).mono ?_
 rintro e w2 ⟨rfl, hE1⟩
 have hO := hO.ext hE1
 clear hE1
 clear hf
 have hf := hO.cells
 simp only [BC, CC, Nat.zero_add, Nat.reduceAdd, and_true] at hf
 go_wp2_with ((with_reducible refine at_store (T := 32) ?_); refine own_store (T := 32) hO 0 rfl rfl rfl size_iv rfl rfl rfl ?_; clear hO; intro w3 hO; simp only [List.set_cons_zero, List.set_cons_succ, spl, Nat.reduceAdd, Nat.zero_add] at hO; clear hf; have hf := hO.cells; simp only [BC, CC, Nat.zero_add, Nat.reduceAdd, and_true] at hf)
 exact own_ret hO 0 rfl rfl rfl agg_iv size_iv rfl ⟨rfl, hO.toExt⟩
set_option maxHeartbeats 2000000 in
theorem step5_any (x1 x2 : Nat) (w : World) (hx1 : x1 < 18446744073709551616) (hx2 : x2 < 18446744073709551616) :
   Calls Tryz.prog 23 #[.int .i64 5, .agg #[.float .f64 x1, .float .f64 x2]] w (RetF (piLo 5 x1 x2) (piHi 5 x1 x2) w) := by
 have HOV := Lib.hid (fun w => pst5_any x1 x2 w hx1 hx2)
 obtain ⟨r1, hr1⟩ : ∃ r, r = piLo 5 x1 x2 := ⟨_, rfl⟩
 obtain ⟨r2, hr2⟩ : ∃ r, r = piHi 5 x1 x2 := ⟨_, rfl⟩
 rw [← hr1, ← hr2] at HOV ⊢
 clear hr1 hr2 hx1 hx2
 have hO := Own.start w
 have hf : True := trivial
 go_enter Tryz.func23, Tryz.ntmps23
 go_wp2_with (first | ((with_reducible refine at_box ?_); refine own_box (cs := [.float .f64 x1, .float .f64 x2]) hO rfl rfl ?_; clear hO; intro ga wa hO; clear hf; have hf := hO.cells; simp only [BC, CC, Nat.zero_add, Nat.reduceAdd, and_true] at hf) | ((with_reducible refine at_alloc ?_); refine own_alloc hO zero_iv rfl rfl ?_; clear hO; intro gb wb hO; clear hf; have hf := hO.cells; simp only [BC, CC, Nat.zero_add, Nat.reduceAdd, and_true] at hf))
 refine (HOV.out _).mono ?_
 rintro e w2 ⟨rfl, hE1⟩
 have hO := hO.ext hE1
 clear hE1
 clear hf
 have hf := hO.cells
 simp only [BC, CC, Nat.zero_add, Nat.reduceAdd, and_true] at hf
 go_wp2_with ((with_reducible refine at_store (T := 32) ?_); refine own_store (T := 32) hO 0 rfl rfl rfl size_iv rfl rfl rfl ?_; clear hO; intro w3 hO; simp only [List.set_cons_zero, List.set_cons_succ, spl, Nat.reduceAdd, Nat.zero_add] at hO; clear hf; have hf := hO.cells; simp only [BC, CC, Nat.zero_add, Nat.reduceAdd, and_true] at hf)
 exact own_ret hO 0 rfl rfl rfl agg_iv size_iv rfl ⟨rfl, hO.toExt⟩
theorem step_all (k x1 x2 : Nat) (w : World) (hk : k < 6) (hx1 : x1 < 18446744073709551616) (hx2 : x2 < 18446744073709551616) :
   Calls Tryz.prog 23 #[.int .i64 (k : Int), .agg #[.float .f64 x1, .float .f64 x2]] w (RetF (piLo k x1 x2) (piHi k x1 x2) w) := by
 have hc : k = 0 ∨ k = 1 ∨ k = 2 ∨ k = 3 ∨ k = 4 ∨ k = 5 := by omega
 rcases hc with rfl | rfl | rfl | rfl | rfl | rfl
 · exact step0_any x1 x2 w hx1 hx2
 · exact step1_any x1 x2 w hx1 hx2
 · exact step2_any x1 x2 w hx1 hx2
 · exact step3_any x1 x2 w hx1 hx2
 · exact step4_any x1 x2 w hx1 hx2
 · exact step5_any x1 x2 w hx1 hx2
end Go.Proofs.YtbcaggdgoidlaaaGreatDoor
