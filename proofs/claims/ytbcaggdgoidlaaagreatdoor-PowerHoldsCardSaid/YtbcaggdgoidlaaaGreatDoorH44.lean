/-
 The contracts of the program's Min. Conditions: those that each theorem names.
-/
import Derived.Test.YtbcaggdgoidlaaaGreatDoorH38
import Derived.Test.YtbcaggdgoidlaaaGreatDoorH42
import Derived.Test.YtbcaggdgoidlaaaGreatDoorH29
import Derived.Test.YtbcaggdgoidlaaaGreatDoorH13
namespace Go.Proofs.YtbcaggdgoidlaaaGreatDoor
open Go.RowKit Nm Rn
set_option maxRecDepth 100000
set_option linter.unusedVariables false
set_option linter.unusedSimpArgs false
set_option maxHeartbeats 4000000 in
theorem pmin_e1 (x1 x2 y1 y2 a b a2 b2 I1 I2 : Nat) (w : World)
   (HR1 : Hid (∀ w, Calls Tryz.prog 30 #[.agg #[.float .f64 x1, .float .f64 x2]] w (RetF a b w)))
   (HR2 : Hid (∀ w, Calls Tryz.prog 30 #[.agg #[.float .f64 y1, .float .f64 y2]] w (RetF a2 b2 w)))
   (HEM : Hid (∀ w, Calls Tryz.prog 31 #[] w (RetF I1 I2 w)))
   (hq : ∀ w, (binOp .eql 32 (.agg #[.float .f64 a, .float .f64 b]) (.agg #[.float .f64 I1, .float .f64 I2])).run Tryz.prog w = .ok (.bool true) w) :
   Calls Tryz.prog 9 #[.agg #[.float .f64 x1, .float .f64 x2], .agg #[.float .f64 y1, .float .f64 y2]] w (RetF I1 I2 w) := by
 have hb1 : Blk (((w.alloc (.cells #[.float .f64 x1, .float .f64 x2] 32)).alloc (.cells #[.float .f64 y1, .float .f64 y2] 32)).alloc (.cells #[.float .f64 0, .float .f64 0] 32)) (w.heap.size) 32 #[.float .f64 x1, .float .f64 x2] := (Blk.new w 32 #[.float .f64 x1, .float .f64 x2]).ext (((Ext.refl _).alloc _).alloc _)
 have hb2 : Blk (((w.alloc (.cells #[.float .f64 x1, .float .f64 x2] 32)).alloc (.cells #[.float .f64 y1, .float .f64 y2] 32)).alloc (.cells #[.float .f64 0, .float .f64 0] 32)) (w.heap.size + 1) 32 #[.float .f64 y1, .float .f64 y2] := (Blk.next w (.cells #[.float .f64 x1, .float .f64 x2] 32) 32 #[.float .f64 y1, .float .f64 y2]).ext ((Ext.refl _).alloc _)
 have hbG : Blk (((w.alloc (.cells #[.float .f64 x1, .float .f64 x2] 32)).alloc (.cells #[.float .f64 y1, .float .f64 y2] 32)).alloc (.cells #[.float .f64 0, .float .f64 0] 32)) (w.heap.size + 1 + 1) 32 #[.float .f64 0, .float .f64 0] := by
   have := Blk.next (w.alloc (.cells #[.float .f64 x1, .float .f64 x2] 32)) (.cells #[.float .f64 y1, .float .f64 y2] 32) 32 #[.float .f64 0, .float .f64 0]
   rwa [show (w.alloc (.cells #[.float .f64 x1, .float .f64 x2] 32)).heap.size = w.heap.size + 1 by simp] at this
 have hEw : Ext w (((w.alloc (.cells #[.float .f64 x1, .float .f64 x2] 32)).alloc (.cells #[.float .f64 y1, .float .f64 y2] 32)).alloc (.cells #[.float .f64 0, .float .f64 0] 32)) := (((Ext.refl w).alloc _).alloc _).alloc _
 obtain ⟨G, hG⟩ : ∃ G, G = w.heap.size + 1 + 1 := ⟨_, rfl⟩
 have HGS := Lib.hid (show w.heap.size + 2 = G by omega)
 rw [← hG] at hbG
 have hGw : w.heap.size ≤ G := by omega
 have hG1 : G ≠ w.heap.size := by omega
 have hG2 : G ≠ w.heap.size + 1 := by omega
 obtain ⟨S, hS⟩ : ∃ S : World → Prop, S = fun wz => Blk wz (w.heap.size) 32 #[.float .f64 x1, .float .f64 x2] ∧ Blk wz (w.heap.size + 1) 32 #[.float .f64 y1, .float .f64 y2] ∧ Blk wz G 32 #[.float .f64 0, .float .f64 0] ∧ Ext w wz := ⟨_, rfl⟩
 have hSE : ∀ w w', S w → Ext w w' → S w' := fun w w' h1 h2 => by rw [hS] at h1 ⊢; exact ⟨h1.1.ext h2, h1.2.1.ext h2, h1.2.2.1.ext h2, h1.2.2.2.trans h2⟩
 have hS0 : S (((w.alloc (.cells #[.float .f64 x1, .float .f64 x2] 32)).alloc (.cells #[.float .f64 y1, .float .f64 y2] 32)).alloc (.cells #[.float .f64 0, .float .f64 0] 32)) := by rw [hS]; exact ⟨hb1, hb2, hbG, hEw⟩
 have HSS := Lib.hid hS
 have HSE := Lib.hid hSE
 obtain ⟨sp, hsp⟩ : ∃ sp : Nat → Sp, sp = ofList [det (.agg #[.float .f64 x1, .float .f64 x2]), det (.agg #[.float .f64 a, .float .f64 b]), det (.agg #[.float .f64 y1, .float .f64 y2]), det (.agg #[.float .f64 a2, .float .f64 b2])] := ⟨_, rfl⟩
 have HSP := Lib.hid hsp
 clear hS hSE hb1 hb2 hbG hEw hG hsp
 go_enter Tryz.func9, Tryz.ntmps9
 go_wp2_with fail
 rw [HGS.out]
 clear HGS
 generalize ((w.alloc (.cells #[.float .f64 x1, .float .f64 x2] 32)).alloc (.cells #[.float .f64 y1, .float .f64 y2] 32)).alloc (.cells #[.float .f64 0, .float .f64 0] 32) = w1 at hS0 ⊢
 have hS1 : S { w1 with drawn := w1.drawn + 1 } := HSE.out _ _ hS0 (Ext.refl w1).drew
 clear hS0
 refine wp_region_loose 4 S sp (by kernel_rfl) (by kernel_rfl) hS1 HSE.out ?_
 simp only [List.take_succ_cons, List.take_zero, List.drop_succ_cons, List.drop_zero]
 repeat (refine wpX_step (fun K hK => ?_)
         go_simp
         refine StepY.det (by rw [HSP.out]; rfl) ?_ ?_
         · intro wz hz hF
           have hz' := hz
           rw [HSS.out] at hz'
           have g0 := hz'.1.cell 0
           have g1 := hz'.1.cell 1
           have g2 := hz'.2.1.cell 0
           have g3 := hz'.2.1.cell 1
           simp only [List.getElem?_toArray, List.getElem?_cons_zero, List.getElem?_cons_succ] at g0 g1 g2 g3
           clear hz' hF
           go_simp
           first
           | exact ⟨rfl, Ext.refl _⟩
           | (go_at_call 30
              first
              | (with_reducible refine (HR1.out _).mono ?_)
              | (with_reducible refine (HR2.out _).mono ?_)
              rintro e w8 ⟨rfl, h5⟩
              exact ⟨_, rfl, rfl, h5⟩)
         refine hK _ _ ?_
         clear hK K)
 refine wpX_nil ?_
 intro w5 hz hF
 clear hF hS1 HSP sp
 rw [HSS.out] at hz
 have n1 := box_set2 (.float .f64 a) (.float .f64 b) hz.1 hz.2.2.2 (Nat.le_refl _)
 have hy1 : Blk (((w5).setCell ⟨w.heap.size, 0, none⟩ (.float .f64 a)).setCell ⟨w.heap.size, 1, none⟩ (.float .f64 b)) (w.heap.size + 1) 32 #[.float .f64 y1, .float .f64 y2] := (hz.2.1.far (by show w.heap.size + 1 ≠ w.heap.size; omega) _).far (by show w.heap.size + 1 ≠ w.heap.size; omega) _
 have hg1 : Blk (((w5).setCell ⟨w.heap.size, 0, none⟩ (.float .f64 a)).setCell ⟨w.heap.size, 1, none⟩ (.float .f64 b)) G 32 #[.float .f64 0, .float .f64 0] := (hz.2.2.1.far hG1 _).far hG1 _
 have n2 := box_set2 (.float .f64 a2) (.float .f64 b2) hy1 n1.2 (show w.heap.size ≤ w.heap.size + 1 by omega)
 have hx2 : Blk (((((w5).setCell ⟨w.heap.size, 0, none⟩ (.float .f64 a)).setCell ⟨w.heap.size, 1, none⟩ (.float .f64 b)).setCell ⟨w.heap.size + 1, 0, none⟩ (.float .f64 a2)).setCell ⟨w.heap.size + 1, 1, none⟩ (.float .f64 b2)) (w.heap.size) 32 #[.float .f64 a, .float .f64 b] := (n1.1.far (by show w.heap.size ≠ w.heap.size + 1; omega) _).far (by show w.heap.size ≠ w.heap.size + 1; omega) _
 have hg2 : Blk (((((w5).setCell ⟨w.heap.size, 0, none⟩ (.float .f64 a)).setCell ⟨w.heap.size, 1, none⟩ (.float .f64 b)).setCell ⟨w.heap.size + 1, 0, none⟩ (.float .f64 a2)).setCell ⟨w.heap.size + 1, 1, none⟩ (.float .f64 b2)) G 32 #[.float .f64 0, .float .f64 0] := (hg1.far hG2 _).far hG2 _
 have s0 : w5.cell? ⟨w.heap.size, 0, none⟩ = some (.float .f64 x1) := hz.1.cell 0
 have s1 : w5.cell? ⟨w.heap.size, 1, none⟩ = some (.float .f64 x2) := hz.1.cell 1
 have fs0 := hz.1.frozen 0
 have fs1 := hz.1.frozen 1
 have hsl := hz.1.lt
 have t0 : (((w5).setCell ⟨w.heap.size, 0, none⟩ (.float .f64 a)).setCell ⟨w.heap.size, 1, none⟩ (.float .f64 b)).cell? ⟨w.heap.size + 1, 0, none⟩ = some (.float .f64 y1) := hy1.cell 0
 have t1 : (((w5).setCell ⟨w.heap.size, 0, none⟩ (.float .f64 a)).setCell ⟨w.heap.size, 1, none⟩ (.float .f64 b)).cell? ⟨w.heap.size + 1, 1, none⟩ = some (.float .f64 y2) := hy1.cell 1
 have ft0 := hy1.frozen 0
 have ft1 := hy1.frozen 1
 have htl := hy1.lt
 obtain ⟨S2, hS2⟩ : ∃ S : World → Prop, S = fun wz => Blk wz (w.heap.size) 32 #[.float .f64 a, .float .f64 b] ∧ Blk wz (w.heap.size + 1) 32 #[.float .f64 a2, .float .f64 b2] ∧ Blk wz G 32 #[.float .f64 0, .float .f64 0] ∧ Ext w wz := ⟨_, rfl⟩
 have hSE2 : ∀ w w', S2 w → Ext w w' → S2 w' := fun w w' h1 h2 => by rw [hS2] at h1 ⊢; exact ⟨h1.1.ext h2, h1.2.1.ext h2, h1.2.2.1.ext h2, h1.2.2.2.trans h2⟩
 have hSn : S2 (((((w5).setCell ⟨w.heap.size, 0, none⟩ (.float .f64 a)).setCell ⟨w.heap.size, 1, none⟩ (.float .f64 b)).setCell ⟨w.heap.size + 1, 0, none⟩ (.float .f64 a2)).setCell ⟨w.heap.size + 1, 1, none⟩ (.float .f64 b2)) := by rw [hS2]; exact ⟨hx2, n2.1, hg2, n2.2⟩
 have HSS2 := Lib.hid hS2
 have HSE2 := Lib.hid hSE2
 clear hz n1 hy1 hg1 n2 hx2 hg2 hS2 hSE2 HSS HSE S hG1 hG2
 go_wp2_with fail
 clear s0 s1 fs0 fs1 hsl t0 t1 ft0 ft1 htl
 generalize ((((w5).setCell ⟨w.heap.size, 0, none⟩ (.float .f64 a)).setCell ⟨w.heap.size, 1, none⟩ (.float .f64 b)).setCell ⟨w.heap.size + 1, 0, none⟩ (.float .f64 a2)).setCell ⟨w.heap.size + 1, 1, none⟩ (.float .f64 b2) = w6 at hSn ⊢
 have hSd : S2 { w6 with drawn := w6.drawn + 1 } := HSE2.out _ _ hSn (Ext.refl w6).drew
 clear hSn
 refine wp_region_steady S2 (by kernel_rfl) (by kernel_rfl) hSd ?_
 repeat (refine wpG_step (fun K hK => ?_)
         go_simp
         first
         | (refine hK _ ?_
            clear hK K)
         | (apply StepG.mk
            intro wz hz
            have hz' := hz
            rw [HSS2.out] at hz'
            have g0 := hz'.1.cell 0
            have g1 := hz'.1.cell 1
            have g2 := hz'.2.1.cell 0
            have g3 := hz'.2.1.cell 1
            simp only [List.getElem?_toArray, List.getElem?_cons_zero, List.getElem?_cons_succ] at g0 g1 g2 g3
            clear hz'
            go_simp
            first
            | exact ⟨rfl, hz⟩
            | (go_at_call 31; exact (HEM.out _).mono fun e w5 h5 => ⟨h5.1, HSE2.out _ _ hz h5.2⟩)
            refine hK _ ?_
            clear hK K))
 refine wpG_nil ?_
 intro w7 hw7
 rw [HSS2.out] at hw7
 have hb7 := hw7.1
 have hc7 := hw7.2.1
 have hg7 := hw7.2.2.1
 have hE7 := hw7.2.2.2
 clear hw7 hSd HSE2 HSS2 S2
 go_wp2_with fail
 refine (HEM.out _).mono ?_
 rintro e w8 ⟨rfl, hE8⟩
 have hg8 := hg7.ext hE8
 have hE9 := hE7.trans hE8
 clear hb7 hc7 hg7 hE7 hE8
 have hGl := hg8.lt
 have q0 : w8.cell? ⟨G, 0, none⟩ = some (.float .f64 0) := hg8.cell 0
 have q1 : w8.cell? ⟨G, 1, none⟩ = some (.float .f64 0) := hg8.cell 1
 have f0 := hg8.frozen 0
 have f1 := hg8.frozen 1
 go_wp2_with fail
 exact bodyPost_ret (v := .agg #[.float .f64 I1, .float .f64 I2]) (by simp [results, Tryz.results9, go_sem, hGl, q0, q1]) rfl ⟨rfl, (hE9.setCell hGw _).setCell hGw _⟩
set_option maxHeartbeats 4000000 in
theorem pmin_e2 (x1 x2 y1 y2 a b a2 b2 I1 I2 : Nat) (w : World)
   (HR1 : Hid (∀ w, Calls Tryz.prog 30 #[.agg #[.float .f64 x1, .float .f64 x2]] w (RetF a b w)))
   (HR2 : Hid (∀ w, Calls Tryz.prog 30 #[.agg #[.float .f64 y1, .float .f64 y2]] w (RetF a2 b2 w)))
   (HEM : Hid (∀ w, Calls Tryz.prog 31 #[] w (RetF I1 I2 w)))
   (hq : ∀ w, (binOp .eql 32 (.agg #[.float .f64 a, .float .f64 b]) (.agg #[.float .f64 I1, .float .f64 I2])).run Tryz.prog w = .ok (.bool false) w)
   (hq2 : ∀ w, (binOp .eql 32 (.agg #[.float .f64 a2, .float .f64 b2]) (.agg #[.float .f64 I1, .float .f64 I2])).run Tryz.prog w = .ok (.bool true) w) :
   Calls Tryz.prog 9 #[.agg #[.float .f64 x1, .float .f64 x2], .agg #[.float .f64 y1, .float .f64 y2]] w (RetF I1 I2 w) := by
 have hb1 : Blk (((w.alloc (.cells #[.float .f64 x1, .float .f64 x2] 32)).alloc (.cells #[.float .f64 y1, .float .f64 y2] 32)).alloc (.cells #[.float .f64 0, .float .f64 0] 32)) (w.heap.size) 32 #[.float .f64 x1, .float .f64 x2] := (Blk.new w 32 #[.float .f64 x1, .float .f64 x2]).ext (((Ext.refl _).alloc _).alloc _)
 have hb2 : Blk (((w.alloc (.cells #[.float .f64 x1, .float .f64 x2] 32)).alloc (.cells #[.float .f64 y1, .float .f64 y2] 32)).alloc (.cells #[.float .f64 0, .float .f64 0] 32)) (w.heap.size + 1) 32 #[.float .f64 y1, .float .f64 y2] := (Blk.next w (.cells #[.float .f64 x1, .float .f64 x2] 32) 32 #[.float .f64 y1, .float .f64 y2]).ext ((Ext.refl _).alloc _)
 have hbG : Blk (((w.alloc (.cells #[.float .f64 x1, .float .f64 x2] 32)).alloc (.cells #[.float .f64 y1, .float .f64 y2] 32)).alloc (.cells #[.float .f64 0, .float .f64 0] 32)) (w.heap.size + 1 + 1) 32 #[.float .f64 0, .float .f64 0] := by
   have := Blk.next (w.alloc (.cells #[.float .f64 x1, .float .f64 x2] 32)) (.cells #[.float .f64 y1, .float .f64 y2] 32) 32 #[.float .f64 0, .float .f64 0]
   rwa [show (w.alloc (.cells #[.float .f64 x1, .float .f64 x2] 32)).heap.size = w.heap.size + 1 by simp] at this
 have hEw : Ext w (((w.alloc (.cells #[.float .f64 x1, .float .f64 x2] 32)).alloc (.cells #[.float .f64 y1, .float .f64 y2] 32)).alloc (.cells #[.float .f64 0, .float .f64 0] 32)) := (((Ext.refl w).alloc _).alloc _).alloc _
 obtain ⟨G, hG⟩ : ∃ G, G = w.heap.size + 1 + 1 := ⟨_, rfl⟩
 have HGS := Lib.hid (show w.heap.size + 2 = G by omega)
 rw [← hG] at hbG
 have hGw : w.heap.size ≤ G := by omega
 have hG1 : G ≠ w.heap.size := by omega
 have hG2 : G ≠ w.heap.size + 1 := by omega
 obtain ⟨S, hS⟩ : ∃ S : World → Prop, S = fun wz => Blk wz (w.heap.size) 32 #[.float .f64 x1, .float .f64 x2] ∧ Blk wz (w.heap.size + 1) 32 #[.float .f64 y1, .float .f64 y2] ∧ Blk wz G 32 #[.float .f64 0, .float .f64 0] ∧ Ext w wz := ⟨_, rfl⟩
 have hSE : ∀ w w', S w → Ext w w' → S w' := fun w w' h1 h2 => by rw [hS] at h1 ⊢; exact ⟨h1.1.ext h2, h1.2.1.ext h2, h1.2.2.1.ext h2, h1.2.2.2.trans h2⟩
 have hS0 : S (((w.alloc (.cells #[.float .f64 x1, .float .f64 x2] 32)).alloc (.cells #[.float .f64 y1, .float .f64 y2] 32)).alloc (.cells #[.float .f64 0, .float .f64 0] 32)) := by rw [hS]; exact ⟨hb1, hb2, hbG, hEw⟩
 have HSS := Lib.hid hS
 have HSE := Lib.hid hSE
 obtain ⟨sp, hsp⟩ : ∃ sp : Nat → Sp, sp = ofList [det (.agg #[.float .f64 x1, .float .f64 x2]), det (.agg #[.float .f64 a, .float .f64 b]), det (.agg #[.float .f64 y1, .float .f64 y2]), det (.agg #[.float .f64 a2, .float .f64 b2])] := ⟨_, rfl⟩
 have HSP := Lib.hid hsp
 clear hS hSE hb1 hb2 hbG hEw hG hsp
 go_enter Tryz.func9, Tryz.ntmps9
 go_wp2_with fail
 rw [HGS.out]
 clear HGS
 generalize ((w.alloc (.cells #[.float .f64 x1, .float .f64 x2] 32)).alloc (.cells #[.float .f64 y1, .float .f64 y2] 32)).alloc (.cells #[.float .f64 0, .float .f64 0] 32) = w1 at hS0 ⊢
 have hS1 : S { w1 with drawn := w1.drawn + 1 } := HSE.out _ _ hS0 (Ext.refl w1).drew
 clear hS0
 refine wp_region_loose 4 S sp (by kernel_rfl) (by kernel_rfl) hS1 HSE.out ?_
 simp only [List.take_succ_cons, List.take_zero, List.drop_succ_cons, List.drop_zero]
 repeat (refine wpX_step (fun K hK => ?_)
         go_simp
         refine StepY.det (by rw [HSP.out]; rfl) ?_ ?_
         · intro wz hz hF
           have hz' := hz
           rw [HSS.out] at hz'
           have g0 := hz'.1.cell 0
           have g1 := hz'.1.cell 1
           have g2 := hz'.2.1.cell 0
           have g3 := hz'.2.1.cell 1
           simp only [List.getElem?_toArray, List.getElem?_cons_zero, List.getElem?_cons_succ] at g0 g1 g2 g3
           clear hz' hF
           go_simp
           first
           | exact ⟨rfl, Ext.refl _⟩
           | (go_at_call 30
              first
              | (with_reducible refine (HR1.out _).mono ?_)
              | (with_reducible refine (HR2.out _).mono ?_)
              rintro e w8 ⟨rfl, h5⟩
              exact ⟨_, rfl, rfl, h5⟩)
         refine hK _ _ ?_
         clear hK K)
 refine wpX_nil ?_
 intro w5 hz hF
 clear hF hS1 HSP sp
 rw [HSS.out] at hz
 have n1 := box_set2 (.float .f64 a) (.float .f64 b) hz.1 hz.2.2.2 (Nat.le_refl _)
 have hy1 : Blk (((w5).setCell ⟨w.heap.size, 0, none⟩ (.float .f64 a)).setCell ⟨w.heap.size, 1, none⟩ (.float .f64 b)) (w.heap.size + 1) 32 #[.float .f64 y1, .float .f64 y2] := (hz.2.1.far (by show w.heap.size + 1 ≠ w.heap.size; omega) _).far (by show w.heap.size + 1 ≠ w.heap.size; omega) _
 have hg1 : Blk (((w5).setCell ⟨w.heap.size, 0, none⟩ (.float .f64 a)).setCell ⟨w.heap.size, 1, none⟩ (.float .f64 b)) G 32 #[.float .f64 0, .float .f64 0] := (hz.2.2.1.far hG1 _).far hG1 _
 have n2 := box_set2 (.float .f64 a2) (.float .f64 b2) hy1 n1.2 (show w.heap.size ≤ w.heap.size + 1 by omega)
 have hx2 : Blk (((((w5).setCell ⟨w.heap.size, 0, none⟩ (.float .f64 a)).setCell ⟨w.heap.size, 1, none⟩ (.float .f64 b)).setCell ⟨w.heap.size + 1, 0, none⟩ (.float .f64 a2)).setCell ⟨w.heap.size + 1, 1, none⟩ (.float .f64 b2)) (w.heap.size) 32 #[.float .f64 a, .float .f64 b] := (n1.1.far (by show w.heap.size ≠ w.heap.size + 1; omega) _).far (by show w.heap.size ≠ w.heap.size + 1; omega) _
 have hg2 : Blk (((((w5).setCell ⟨w.heap.size, 0, none⟩ (.float .f64 a)).setCell ⟨w.heap.size, 1, none⟩ (.float .f64 b)).setCell ⟨w.heap.size + 1, 0, none⟩ (.float .f64 a2)).setCell ⟨w.heap.size + 1, 1, none⟩ (.float .f64 b2)) G 32 #[.float .f64 0, .float .f64 0] := (hg1.far hG2 _).far hG2 _
 have s0 : w5.cell? ⟨w.heap.size, 0, none⟩ = some (.float .f64 x1) := hz.1.cell 0
 have s1 : w5.cell? ⟨w.heap.size, 1, none⟩ = some (.float .f64 x2) := hz.1.cell 1
 have fs0 := hz.1.frozen 0
 have fs1 := hz.1.frozen 1
 have hsl := hz.1.lt
 have t0 : (((w5).setCell ⟨w.heap.size, 0, none⟩ (.float .f64 a)).setCell ⟨w.heap.size, 1, none⟩ (.float .f64 b)).cell? ⟨w.heap.size + 1, 0, none⟩ = some (.float .f64 y1) := hy1.cell 0
 have t1 : (((w5).setCell ⟨w.heap.size, 0, none⟩ (.float .f64 a)).setCell ⟨w.heap.size, 1, none⟩ (.float .f64 b)).cell? ⟨w.heap.size + 1, 1, none⟩ = some (.float .f64 y2) := hy1.cell 1
 have ft0 := hy1.frozen 0
 have ft1 := hy1.frozen 1
 have htl := hy1.lt
 obtain ⟨S2, hS2⟩ : ∃ S : World → Prop, S = fun wz => Blk wz (w.heap.size) 32 #[.float .f64 a, .float .f64 b] ∧ Blk wz (w.heap.size + 1) 32 #[.float .f64 a2, .float .f64 b2] ∧ Blk wz G 32 #[.float .f64 0, .float .f64 0] ∧ Ext w wz := ⟨_, rfl⟩
 have hSE2 : ∀ w w', S2 w → Ext w w' → S2 w' := fun w w' h1 h2 => by rw [hS2] at h1 ⊢; exact ⟨h1.1.ext h2, h1.2.1.ext h2, h1.2.2.1.ext h2, h1.2.2.2.trans h2⟩
 have hSn : S2 (((((w5).setCell ⟨w.heap.size, 0, none⟩ (.float .f64 a)).setCell ⟨w.heap.size, 1, none⟩ (.float .f64 b)).setCell ⟨w.heap.size + 1, 0, none⟩ (.float .f64 a2)).setCell ⟨w.heap.size + 1, 1, none⟩ (.float .f64 b2)) := by rw [hS2]; exact ⟨hx2, n2.1, hg2, n2.2⟩
 have HSS2 := Lib.hid hS2
 have HSE2 := Lib.hid hSE2
 clear hz n1 hy1 hg1 n2 hx2 hg2 hS2 hSE2 HSS HSE S hG1 hG2
 go_wp2_with fail
 clear s0 s1 fs0 fs1 hsl t0 t1 ft0 ft1 htl
 generalize ((((w5).setCell ⟨w.heap.size, 0, none⟩ (.float .f64 a)).setCell ⟨w.heap.size, 1, none⟩ (.float .f64 b)).setCell ⟨w.heap.size + 1, 0, none⟩ (.float .f64 a2)).setCell ⟨w.heap.size + 1, 1, none⟩ (.float .f64 b2) = w6 at hSn ⊢
 have hSd : S2 { w6 with drawn := w6.drawn + 1 } := HSE2.out _ _ hSn (Ext.refl w6).drew
 clear hSn
 refine wp_region_steady S2 (by kernel_rfl) (by kernel_rfl) hSd ?_
 repeat (refine wpG_step (fun K hK => ?_)
         go_simp
         first
         | (refine hK _ ?_
            clear hK K)
         | (apply StepG.mk
            intro wz hz
            have hz' := hz
            rw [HSS2.out] at hz'
            have g0 := hz'.1.cell 0
            have g1 := hz'.1.cell 1
            have g2 := hz'.2.1.cell 0
            have g3 := hz'.2.1.cell 1
            simp only [List.getElem?_toArray, List.getElem?_cons_zero, List.getElem?_cons_succ] at g0 g1 g2 g3
            clear hz'
            go_simp
            first
            | exact ⟨rfl, hz⟩
            | (go_at_call 31; exact (HEM.out _).mono fun e w5 h5 => ⟨h5.1, HSE2.out _ _ hz h5.2⟩)
            refine hK _ ?_
            clear hK K))
 refine wpG_nil ?_
 intro w7 hw7
 rw [HSS2.out] at hw7
 have hb7 := hw7.1
 have hc7 := hw7.2.1
 have hg7 := hw7.2.2.1
 have hE7 := hw7.2.2.2
 clear hw7 hSd HSE2 HSS2 S2
 go_wp2_with fail
 refine (HEM.out _).mono ?_
 rintro e w8 ⟨rfl, hE8⟩
 have hg8 := hg7.ext hE8
 have hE9 := hE7.trans hE8
 clear hb7 hc7 hg7 hE7 hE8
 have hGl := hg8.lt
 have q0 : w8.cell? ⟨G, 0, none⟩ = some (.float .f64 0) := hg8.cell 0
 have q1 : w8.cell? ⟨G, 1, none⟩ = some (.float .f64 0) := hg8.cell 1
 have f0 := hg8.frozen 0
 have f1 := hg8.frozen 1
 go_wp2_with fail
 exact bodyPost_ret (v := .agg #[.float .f64 I1, .float .f64 I2]) (by simp [results, Tryz.results9, go_sem, hGl, q0, q1]) rfl ⟨rfl, (hE9.setCell hGw _).setCell hGw _⟩
set_option maxHeartbeats 4000000 in
theorem pmin_f (x1 x2 y1 y2 a b a2 b2 I1 I2 : Nat) (w : World)
   (HR1 : Hid (∀ w, Calls Tryz.prog 30 #[.agg #[.float .f64 x1, .float .f64 x2]] w (RetF a b w)))
   (HR2 : Hid (∀ w, Calls Tryz.prog 30 #[.agg #[.float .f64 y1, .float .f64 y2]] w (RetF a2 b2 w)))
   (HEM : Hid (∀ w, Calls Tryz.prog 31 #[] w (RetF I1 I2 w)))
   (hq : ∀ w, (binOp .eql 32 (.agg #[.float .f64 a, .float .f64 b]) (.agg #[.float .f64 I1, .float .f64 I2])).run Tryz.prog w = .ok (.bool false) w)
   (hq2 : ∀ w, (binOp .eql 32 (.agg #[.float .f64 a2, .float .f64 b2]) (.agg #[.float .f64 I1, .float .f64 I2])).run Tryz.prog w = .ok (.bool false) w)
   (m1 m2 : Nat) (hm1 : ∀ ats ty w, (Builtin.min_ ats ty #[.float .f64 a, .float .f64 a2]).run Tryz.prog w = .ok (.float .f64 m1) w) (hm2 : ∀ ats ty w, (Builtin.min_ ats ty #[.float .f64 b, .float .f64 b2]).run Tryz.prog w = .ok (.float .f64 m2) w) :
   Calls Tryz.prog 9 #[.agg #[.float .f64 x1, .float .f64 x2], .agg #[.float .f64 y1, .float .f64 y2]] w (RetF m1 m2 w) := by
 have hb1 : Blk (((w.alloc (.cells #[.float .f64 x1, .float .f64 x2] 32)).alloc (.cells #[.float .f64 y1, .float .f64 y2] 32)).alloc (.cells #[.float .f64 0, .float .f64 0] 32)) (w.heap.size) 32 #[.float .f64 x1, .float .f64 x2] := (Blk.new w 32 #[.float .f64 x1, .float .f64 x2]).ext (((Ext.refl _).alloc _).alloc _)
 have hb2 : Blk (((w.alloc (.cells #[.float .f64 x1, .float .f64 x2] 32)).alloc (.cells #[.float .f64 y1, .float .f64 y2] 32)).alloc (.cells #[.float .f64 0, .float .f64 0] 32)) (w.heap.size + 1) 32 #[.float .f64 y1, .float .f64 y2] := (Blk.next w (.cells #[.float .f64 x1, .float .f64 x2] 32) 32 #[.float .f64 y1, .float .f64 y2]).ext ((Ext.refl _).alloc _)
 have hbG : Blk (((w.alloc (.cells #[.float .f64 x1, .float .f64 x2] 32)).alloc (.cells #[.float .f64 y1, .float .f64 y2] 32)).alloc (.cells #[.float .f64 0, .float .f64 0] 32)) (w.heap.size + 1 + 1) 32 #[.float .f64 0, .float .f64 0] := by
   have := Blk.next (w.alloc (.cells #[.float .f64 x1, .float .f64 x2] 32)) (.cells #[.float .f64 y1, .float .f64 y2] 32) 32 #[.float .f64 0, .float .f64 0]
   rwa [show (w.alloc (.cells #[.float .f64 x1, .float .f64 x2] 32)).heap.size = w.heap.size + 1 by simp] at this
 have hEw : Ext w (((w.alloc (.cells #[.float .f64 x1, .float .f64 x2] 32)).alloc (.cells #[.float .f64 y1, .float .f64 y2] 32)).alloc (.cells #[.float .f64 0, .float .f64 0] 32)) := (((Ext.refl w).alloc _).alloc _).alloc _
 obtain ⟨G, hG⟩ : ∃ G, G = w.heap.size + 1 + 1 := ⟨_, rfl⟩
 have HGS := Lib.hid (show w.heap.size + 2 = G by omega)
 rw [← hG] at hbG
 have hGw : w.heap.size ≤ G := by omega
 have hG1 : G ≠ w.heap.size := by omega
 have hG2 : G ≠ w.heap.size + 1 := by omega
 obtain ⟨S, hS⟩ : ∃ S : World → Prop, S = fun wz => Blk wz (w.heap.size) 32 #[.float .f64 x1, .float .f64 x2] ∧ Blk wz (w.heap.size + 1) 32 #[.float .f64 y1, .float .f64 y2] ∧ Blk wz G 32 #[.float .f64 0, .float .f64 0] ∧ Ext w wz := ⟨_, rfl⟩
 have hSE : ∀ w w', S w → Ext w w' → S w' := fun w w' h1 h2 => by rw [hS] at h1 ⊢; exact ⟨h1.1.ext h2, h1.2.1.ext h2, h1.2.2.1.ext h2, h1.2.2.2.trans h2⟩
 have hS0 : S (((w.alloc (.cells #[.float .f64 x1, .float .f64 x2] 32)).alloc (.cells #[.float .f64 y1, .float .f64 y2] 32)).alloc (.cells #[.float .f64 0, .float .f64 0] 32)) := by rw [hS]; exact ⟨hb1, hb2, hbG, hEw⟩
 have HSS := Lib.hid hS
 have HSE := Lib.hid hSE
 obtain ⟨sp, hsp⟩ : ∃ sp : Nat → Sp, sp = ofList [det (.agg #[.float .f64 x1, .float .f64 x2]), det (.agg #[.float .f64 a, .float .f64 b]), det (.agg #[.float .f64 y1, .float .f64 y2]), det (.agg #[.float .f64 a2, .float .f64 b2])] := ⟨_, rfl⟩
 have HSP := Lib.hid hsp
 clear hS hSE hb1 hb2 hbG hEw hG hsp
 go_enter Tryz.func9, Tryz.ntmps9
 go_wp2_with fail
 rw [HGS.out]
 clear HGS
 generalize ((w.alloc (.cells #[.float .f64 x1, .float .f64 x2] 32)).alloc (.cells #[.float .f64 y1, .float .f64 y2] 32)).alloc (.cells #[.float .f64 0, .float .f64 0] 32) = w1 at hS0 ⊢
 have hS1 : S { w1 with drawn := w1.drawn + 1 } := HSE.out _ _ hS0 (Ext.refl w1).drew
 clear hS0
 refine wp_region_loose 4 S sp (by kernel_rfl) (by kernel_rfl) hS1 HSE.out ?_
 simp only [List.take_succ_cons, List.take_zero, List.drop_succ_cons, List.drop_zero]
 repeat (refine wpX_step (fun K hK => ?_)
         go_simp
         refine StepY.det (by rw [HSP.out]; rfl) ?_ ?_
         · intro wz hz hF
           have hz' := hz
           rw [HSS.out] at hz'
           have g0 := hz'.1.cell 0
           have g1 := hz'.1.cell 1
           have g2 := hz'.2.1.cell 0
           have g3 := hz'.2.1.cell 1
           simp only [List.getElem?_toArray, List.getElem?_cons_zero, List.getElem?_cons_succ] at g0 g1 g2 g3
           clear hz' hF
           go_simp
           first
           | exact ⟨rfl, Ext.refl _⟩
           | (go_at_call 30
              first
              | (with_reducible refine (HR1.out _).mono ?_)
              | (with_reducible refine (HR2.out _).mono ?_)
              rintro e w8 ⟨rfl, h5⟩
              exact ⟨_, rfl, rfl, h5⟩)
         refine hK _ _ ?_
         clear hK K)
 refine wpX_nil ?_
 intro w5 hz hF
 clear hF hS1 HSP sp
 rw [HSS.out] at hz
 have n1 := box_set2 (.float .f64 a) (.float .f64 b) hz.1 hz.2.2.2 (Nat.le_refl _)
 have hy1 : Blk (((w5).setCell ⟨w.heap.size, 0, none⟩ (.float .f64 a)).setCell ⟨w.heap.size, 1, none⟩ (.float .f64 b)) (w.heap.size + 1) 32 #[.float .f64 y1, .float .f64 y2] := (hz.2.1.far (by show w.heap.size + 1 ≠ w.heap.size; omega) _).far (by show w.heap.size + 1 ≠ w.heap.size; omega) _
 have hg1 : Blk (((w5).setCell ⟨w.heap.size, 0, none⟩ (.float .f64 a)).setCell ⟨w.heap.size, 1, none⟩ (.float .f64 b)) G 32 #[.float .f64 0, .float .f64 0] := (hz.2.2.1.far hG1 _).far hG1 _
 have n2 := box_set2 (.float .f64 a2) (.float .f64 b2) hy1 n1.2 (show w.heap.size ≤ w.heap.size + 1 by omega)
 have hx2 : Blk (((((w5).setCell ⟨w.heap.size, 0, none⟩ (.float .f64 a)).setCell ⟨w.heap.size, 1, none⟩ (.float .f64 b)).setCell ⟨w.heap.size + 1, 0, none⟩ (.float .f64 a2)).setCell ⟨w.heap.size + 1, 1, none⟩ (.float .f64 b2)) (w.heap.size) 32 #[.float .f64 a, .float .f64 b] := (n1.1.far (by show w.heap.size ≠ w.heap.size + 1; omega) _).far (by show w.heap.size ≠ w.heap.size + 1; omega) _
 have hg2 : Blk (((((w5).setCell ⟨w.heap.size, 0, none⟩ (.float .f64 a)).setCell ⟨w.heap.size, 1, none⟩ (.float .f64 b)).setCell ⟨w.heap.size + 1, 0, none⟩ (.float .f64 a2)).setCell ⟨w.heap.size + 1, 1, none⟩ (.float .f64 b2)) G 32 #[.float .f64 0, .float .f64 0] := (hg1.far hG2 _).far hG2 _
 have s0 : w5.cell? ⟨w.heap.size, 0, none⟩ = some (.float .f64 x1) := hz.1.cell 0
 have s1 : w5.cell? ⟨w.heap.size, 1, none⟩ = some (.float .f64 x2) := hz.1.cell 1
 have fs0 := hz.1.frozen 0
 have fs1 := hz.1.frozen 1
 have hsl := hz.1.lt
 have t0 : (((w5).setCell ⟨w.heap.size, 0, none⟩ (.float .f64 a)).setCell ⟨w.heap.size, 1, none⟩ (.float .f64 b)).cell? ⟨w.heap.size + 1, 0, none⟩ = some (.float .f64 y1) := hy1.cell 0
 have t1 : (((w5).setCell ⟨w.heap.size, 0, none⟩ (.float .f64 a)).setCell ⟨w.heap.size, 1, none⟩ (.float .f64 b)).cell? ⟨w.heap.size + 1, 1, none⟩ = some (.float .f64 y2) := hy1.cell 1
 have ft0 := hy1.frozen 0
 have ft1 := hy1.frozen 1
 have htl := hy1.lt
 obtain ⟨S2, hS2⟩ : ∃ S : World → Prop, S = fun wz => Blk wz (w.heap.size) 32 #[.float .f64 a, .float .f64 b] ∧ Blk wz (w.heap.size + 1) 32 #[.float .f64 a2, .float .f64 b2] ∧ Blk wz G 32 #[.float .f64 0, .float .f64 0] ∧ Ext w wz := ⟨_, rfl⟩
 have hSE2 : ∀ w w', S2 w → Ext w w' → S2 w' := fun w w' h1 h2 => by rw [hS2] at h1 ⊢; exact ⟨h1.1.ext h2, h1.2.1.ext h2, h1.2.2.1.ext h2, h1.2.2.2.trans h2⟩
 have hSn : S2 (((((w5).setCell ⟨w.heap.size, 0, none⟩ (.float .f64 a)).setCell ⟨w.heap.size, 1, none⟩ (.float .f64 b)).setCell ⟨w.heap.size + 1, 0, none⟩ (.float .f64 a2)).setCell ⟨w.heap.size + 1, 1, none⟩ (.float .f64 b2)) := by rw [hS2]; exact ⟨hx2, n2.1, hg2, n2.2⟩
 have HSS2 := Lib.hid hS2
 have HSE2 := Lib.hid hSE2
 clear hz n1 hy1 hg1 n2 hx2 hg2 hS2 hSE2 HSS HSE S hG1 hG2
 go_wp2_with fail
 clear s0 s1 fs0 fs1 hsl t0 t1 ft0 ft1 htl
 generalize ((((w5).setCell ⟨w.heap.size, 0, none⟩ (.float .f64 a)).setCell ⟨w.heap.size, 1, none⟩ (.float .f64 b)).setCell ⟨w.heap.size + 1, 0, none⟩ (.float .f64 a2)).setCell ⟨w.heap.size + 1, 1, none⟩ (.float .f64 b2) = w6 at hSn ⊢
 have hSd : S2 { w6 with drawn := w6.drawn + 1 } := HSE2.out _ _ hSn (Ext.refl w6).drew
 clear hSn
 refine wp_region_steady S2 (by kernel_rfl) (by kernel_rfl) hSd ?_
 repeat (refine wpG_step (fun K hK => ?_)
         go_simp
         first
         | (refine hK _ ?_
            clear hK K)
         | (apply StepG.mk
            intro wz hz
            have hz' := hz
            rw [HSS2.out] at hz'
            have g0 := hz'.1.cell 0
            have g1 := hz'.1.cell 1
            have g2 := hz'.2.1.cell 0
            have g3 := hz'.2.1.cell 1
            simp only [List.getElem?_toArray, List.getElem?_cons_zero, List.getElem?_cons_succ] at g0 g1 g2 g3
            clear hz'
            go_simp
            first
            | exact ⟨rfl, hz⟩
            | (go_at_call 31; exact (HEM.out _).mono fun e w5 h5 => ⟨h5.1, HSE2.out _ _ hz h5.2⟩)
            refine hK _ ?_
            clear hK K))
 refine wpG_nil ?_
 intro w7 hw7
 rw [HSS2.out] at hw7
 have hb7 := hw7.1
 have hc7 := hw7.2.1
 have hg7 := hw7.2.2.1
 have hE7 := hw7.2.2.2
 clear hw7 hSd HSE2 HSS2 S2
 have b0 : w7.cell? ⟨w.heap.size, 0, none⟩ = some (.float .f64 a) := hb7.cell 0
 have b1 : w7.cell? ⟨w.heap.size, 1, none⟩ = some (.float .f64 b) := hb7.cell 1
 have c0 : w7.cell? ⟨w.heap.size + 1, 0, none⟩ = some (.float .f64 a2) := hc7.cell 0
 have c1 : w7.cell? ⟨w.heap.size + 1, 1, none⟩ = some (.float .f64 b2) := hc7.cell 1
 have hGl := hg7.lt
 have q0 : w7.cell? ⟨G, 0, none⟩ = some (.float .f64 0) := hg7.cell 0
 have q1 : w7.cell? ⟨G, 1, none⟩ = some (.float .f64 0) := hg7.cell 1
 have f0 := hg7.frozen 0
 have f1 := hg7.frozen 1
 go_wp2_with fail
 exact bodyPost_ret (v := .agg #[.float .f64 m1, .float .f64 m2]) (by simp [results, Tryz.results9, go_sem, hGl, q0, q1]) rfl ⟨rfl, (hE7.setCell hGw _).setCell hGw _⟩
theorem pmin_any (x1 x2 y1 y2 : Nat) (w : World) (hx1 : x1 < 18446744073709551616) (hx2 : x2 < 18446744073709551616) (hy1 : y1 < 18446744073709551616) (hy2 : y2 < 18446744073709551616) :
   Calls Tryz.prog 9 #[.agg #[.float .f64 x1, .float .f64 x2], .agg #[.float .f64 y1, .float .f64 y2]] w (RetF (minLo x1 x2 y1 y2) (minHi x1 x2 y1 y2) w) := by
 have eLo : minLo x1 x2 y1 y2 = if (rdLo x1 x2 = infR ∧ rdHi x1 x2 = minf) ∨ (rdLo y1 y2 = infR ∧ rdHi y1 y2 = minf) then infR else pl (kmin (rdLo x1 x2) (rdLo y1 y2)) := rfl
 have eHi : minHi x1 x2 y1 y2 = if (rdLo x1 x2 = infR ∧ rdHi x1 x2 = minf) ∨ (rdLo y1 y2 = infR ∧ rdHi y1 y2 = minf) then minf else pl (kmin (rdHi x1 x2) (rdHi y1 y2)) := rfl
 have HR1 := Lib.hid (fun w => iread_any x1 x2 w hx1 hx2)
 have HR2 := Lib.hid (fun w => iread_any y1 y2 w hy1 hy2)
 have HEM := Lib.hid (fun w => iempty_any w)
 by_cases he : rdLo x1 x2 = infR ∧ rdHi x1 x2 = minf
 · rw [eLo, eHi, if_pos (.inl he), if_pos (.inl he)]
   rw [he.1, he.2] at HR1
   exact pmin_e1 x1 x2 y1 y2 infR minf _ _ infR minf w HR1 HR2 HEM (eqF' infR_lt minf_lt infR_lt minf_lt rfl)
 · obtain ⟨a1, a2, a3, a4, a5, a6, _, _⟩ := rd_ends hx1 hx2 he
   have hq1 := eqF' (E := false) a1 a2 infR_lt minf_lt (by
     rw [eq_key a3 nan_inf, eq_key a4 nan_minf, key_inf, key_minf, Bool.and_eq_false_iff, decide_eq_false_iff_not, decide_eq_false_iff_not, key_eq_inf a1 a3]
     exact .inl a5)
   by_cases he2 : rdLo y1 y2 = infR ∧ rdHi y1 y2 = minf
   · rw [eLo, eHi, if_pos (.inr he2), if_pos (.inr he2)]
     rw [he2.1, he2.2] at HR2
     exact pmin_e2 x1 x2 y1 y2 _ _ infR minf infR minf w HR1 HR2 HEM hq1 (eqF' infR_lt minf_lt infR_lt minf_lt rfl)
   · obtain ⟨b1, b2, b3, b4, b5, b6, _, _⟩ := rd_ends hy1 hy2 he2
     have hq2 := eqF' (E := false) b1 b2 infR_lt minf_lt (by
       rw [eq_key b3 nan_inf, eq_key b4 nan_minf, key_inf, key_minf, Bool.and_eq_false_iff, decide_eq_false_iff_not, decide_eq_false_iff_not, key_eq_inf b1 b3]
       exact .inl b5)
     have hno : ¬ ((rdLo x1 x2 = infR ∧ rdHi x1 x2 = minf) ∨ (rdLo y1 y2 = infR ∧ rdHi y1 y2 = minf)) := fun h => h.elim he he2
     rw [eLo, eHi, if_neg hno, if_neg hno]
     have p1 := plain_ne (rdLo_pl x1 x2)
     have p2 := plain_ne (rdHi_pl x1 x2)
     have p3 := plain_ne (rdLo_pl y1 y2)
     have p4 := plain_ne (rdHi_pl y1 y2)
     have k1 : pl (kmin (rdLo x1 x2) (rdLo y1 y2)) = kmin (rdLo x1 x2) (rdLo y1 y2) := pl_self (by unfold kmin; split <;> assumption)
     have k2 : pl (kmin (rdHi x1 x2) (rdHi y1 y2)) = kmin (rdHi x1 x2) (rdHi y1 y2) := pl_self (by unfold kmin; split <;> assumption)
     rw [k1, k2]
     exact pmin_f x1 x2 y1 y2 _ _ _ _ infR minf w HR1 HR2 HEM hq1 hq2 _ _ (fun ats ty w => min_run a1 b1 a3 b3 (key_inj a1 b1 p1 p3) Tryz.prog w ats ty) (fun ats ty w => min_run a2 b2 a4 b4 (key_inj a2 b2 p2 p4) Tryz.prog w ats ty)
end Go.Proofs.YtbcaggdgoidlaaaGreatDoor
