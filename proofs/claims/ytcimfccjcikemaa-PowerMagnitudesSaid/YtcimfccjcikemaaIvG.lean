/-
  The contract of the program's Abs. Conditions: those that each theorem names.
-/
import Derived.Test.YtcimfccjcikemaaIvF
import Derived.Test.YtcimfccjcikemaaSteady
namespace Go.Proofs.Ytcimfccjcikemaa
open Go.RowKit Nm Rn
set_option maxRecDepth 100000
set_option linter.unusedVariables false
set_option linter.unusedSimpArgs false

set_option maxHeartbeats 4000000 in
theorem pabs_E (lo hi a b : Nat) (w : World)
    (HR : Hid (∀ w, Calls Try.prog 21 #[.agg #[.float .f64 lo, .float .f64 hi]] w (RetF a b w)))
    (hq : ∀ w, (binOp .eql 27 (.agg #[.float .f64 a, .float .f64 b]) (.agg #[.float .f64 infR, .float .f64 minf])).run Try.prog w = .ok (.bool true) w) (c : Bool) :
    Calls Try.prog 30 #[.agg #[.float .f64 lo, .float .f64 hi]] w (RetF a b w) := by
  have HEM := Lib.hid (fun w => iempty_any w)
  obtain ⟨I1, hI1⟩ : ∃ I, I = infR := ⟨_, rfl⟩
  obtain ⟨I2, hI2⟩ : ∃ I, I = minf := ⟨_, rfl⟩
  rw [← hI1, ← hI2] at hq HEM
  clear hI1 hI2
  go_enter Try.func30, Try.ntmps30
  go_wp2_with fail
  refine (HR.out _).mono ?_
  rintro e w2 ⟨rfl, hE2⟩
  have hbH := ((Blk.new w 27 #[.float .f64 lo, .float .f64 hi]).ext ((Ext.refl _).alloc (.cells #[.float .f64 0, .float .f64 0] 27))).ext hE2
  have hbG := (Blk.new2 w (.cells #[.float .f64 lo, .float .f64 hi] 27) 27 #[.float .f64 0, .float .f64 0]).ext hE2
  have hEw : Ext w w2 := (((Ext.refl w).alloc _).alloc _).trans hE2
  have hbH3 := (box_set2 (.float .f64 a) (.float .f64 b) hbH hEw (Nat.le_refl _)).1
  have hE3 := (box_set2 (.float .f64 a) (.float .f64 b) hbH hEw (Nat.le_refl _)).2
  have hbG3 : Blk (((w2).setCell ⟨w.heap.size, 0, none⟩ (.float .f64 a)).setCell ⟨w.heap.size, 1, none⟩ (.float .f64 b)) (w.heap.size + 1) 27 #[.float .f64 0, .float .f64 0] :=
    (hbG.far (by show w.heap.size + 1 ≠ w.heap.size; omega) _).far (by show w.heap.size + 1 ≠ w.heap.size; omega) _
  have s0 : w2.cell? ⟨w.heap.size, 0, none⟩ = some (.float .f64 lo) := hbH.cell 0
  have s1 : w2.cell? ⟨w.heap.size, 1, none⟩ = some (.float .f64 hi) := hbH.cell 1
  have fs0 := hbH.frozen 0
  have fs1 := hbH.frozen 1
  have hsl := hbH.lt
  obtain ⟨G, hG⟩ : ∃ G, G = w.heap.size + 1 := ⟨_, rfl⟩
  rw [← hG] at hbG3
  rw [← hG]
  have hGw : w.heap.size ≤ G := by omega
  clear hG hE2 hbG hEw hbH
  go_wp2_with fail
  clear s0 s1 fs0 fs1 hsl
  obtain ⟨S, hS⟩ : ∃ S : World → Prop, S = fun wz => Blk wz w.heap.size 27 #[.float .f64 a, .float .f64 b] ∧ Blk wz G 27 #[.float .f64 0, .float .f64 0] ∧ Ext w wz := ⟨_, rfl⟩
  have hSE : ∀ w w', S w → Ext w w' → S w' := fun w w' h1 h2 => by rw [hS] at h1 ⊢; exact ⟨h1.1.ext h2, h1.2.1.ext h2, h1.2.2.trans h2⟩
  have hS3 : S (((w2).setCell ⟨w.heap.size, 0, none⟩ (.float .f64 a)).setCell ⟨w.heap.size, 1, none⟩ (.float .f64 b)) := by rw [hS]; exact ⟨hbH3, hbG3, hE3⟩
  clear hbH3 hbG3 hE3
  generalize ((w2).setCell ⟨w.heap.size, 0, none⟩ (.float .f64 a)).setCell ⟨w.heap.size, 1, none⟩ (.float .f64 b) = w3 at hS3 ⊢
  have hS1 : S { w3 with drawn := w3.drawn + 1 } := hSE _ _ hS3 (Ext.refl w3).drew
  have HSS := Lib.hid hS
  have HSE := Lib.hid hSE
  clear hS hSE hS3
  refine wp_region_steady S (by kernel_rfl) (by kernel_rfl) hS1 ?_
  repeat (refine wpG_step (fun K hK => ?_)
          go_simp
          first
          | (refine hK _ ?_
             clear hK K)
          | (apply StepG.mk
             intro wz hz
             have hz' := hz
             rw [HSS.out] at hz'
             have g0 := hz'.1.cell 0
             have g1 := hz'.1.cell 1
             simp only [List.getElem?_toArray, List.getElem?_cons_zero, List.getElem?_cons_succ] at g0 g1
             clear hz'
             go_simp
             first
             | exact ⟨rfl, hz⟩
             | (go_at_call 23; exact (HEM.out _).mono fun e w5 h5 => ⟨h5.1, HSE.out _ _ hz h5.2⟩)
             refine hK _ ?_
             clear hK K))
  refine wpG_nil ?_
  intro w5 hw5
  rw [HSS.out] at hw5
  have hb5 := hw5.1
  have hg5 := hw5.2.1
  have hE5 := hw5.2.2
  clear hw5 hS1 HSE HSS S hq
  have b0 : (w5).cell? ⟨w.heap.size, 0, none⟩ = some (.float .f64 a) := hb5.cell 0
  have b1 : (w5).cell? ⟨w.heap.size, 1, none⟩ = some (.float .f64 b) := hb5.cell 1
  have hGl := hg5.lt
  have q0 : (w5).cell? ⟨G, 0, none⟩ = some (.float .f64 0) := hg5.cell 0
  have q1 : (w5).cell? ⟨G, 1, none⟩ = some (.float .f64 0) := hg5.cell 1
  have f0 := hg5.frozen 0
  have f1 := hg5.frozen 1
  go_wp2_with fail
  exact bodyPost_ret (v := .agg #[.float .f64 a, .float .f64 b]) (by simp [results, Try.results30, go_sem, hGl, q0, q1]) rfl ⟨rfl, (hE5.setCell hGw _).setCell hGw _⟩

set_option maxHeartbeats 4000000 in
theorem pabs_c (lo hi a b : Nat) (w : World)
    (HR : Hid (∀ w, Calls Try.prog 21 #[.agg #[.float .f64 lo, .float .f64 hi]] w (RetF a b w)))
    (hq : ∀ w, (binOp .eql 27 (.agg #[.float .f64 a, .float .f64 b]) (.agg #[.float .f64 infR, .float .f64 minf])).run Try.prog w = .ok (.bool false) w)
    (hge : (FloatKind.f64.format.order a 0 == some .gt || FloatKind.f64.format.order a 0 == some .eq) = true) :
    Calls Try.prog 30 #[.agg #[.float .f64 lo, .float .f64 hi]] w (RetF a b w) := by
  have HEM := Lib.hid (fun w => iempty_any w)
  obtain ⟨I1, hI1⟩ : ∃ I, I = infR := ⟨_, rfl⟩
  obtain ⟨I2, hI2⟩ : ∃ I, I = minf := ⟨_, rfl⟩
  rw [← hI1, ← hI2] at hq HEM
  clear hI1 hI2
  go_enter Try.func30, Try.ntmps30
  go_wp2_with fail
  refine (HR.out _).mono ?_
  rintro e w2 ⟨rfl, hE2⟩
  have hbH := ((Blk.new w 27 #[.float .f64 lo, .float .f64 hi]).ext ((Ext.refl _).alloc (.cells #[.float .f64 0, .float .f64 0] 27))).ext hE2
  have hbG := (Blk.new2 w (.cells #[.float .f64 lo, .float .f64 hi] 27) 27 #[.float .f64 0, .float .f64 0]).ext hE2
  have hEw : Ext w w2 := (((Ext.refl w).alloc _).alloc _).trans hE2
  have hbH3 := (box_set2 (.float .f64 a) (.float .f64 b) hbH hEw (Nat.le_refl _)).1
  have hE3 := (box_set2 (.float .f64 a) (.float .f64 b) hbH hEw (Nat.le_refl _)).2
  have hbG3 : Blk (((w2).setCell ⟨w.heap.size, 0, none⟩ (.float .f64 a)).setCell ⟨w.heap.size, 1, none⟩ (.float .f64 b)) (w.heap.size + 1) 27 #[.float .f64 0, .float .f64 0] :=
    (hbG.far (by show w.heap.size + 1 ≠ w.heap.size; omega) _).far (by show w.heap.size + 1 ≠ w.heap.size; omega) _
  have s0 : w2.cell? ⟨w.heap.size, 0, none⟩ = some (.float .f64 lo) := hbH.cell 0
  have s1 : w2.cell? ⟨w.heap.size, 1, none⟩ = some (.float .f64 hi) := hbH.cell 1
  have fs0 := hbH.frozen 0
  have fs1 := hbH.frozen 1
  have hsl := hbH.lt
  obtain ⟨G, hG⟩ : ∃ G, G = w.heap.size + 1 := ⟨_, rfl⟩
  rw [← hG] at hbG3
  rw [← hG]
  have hGw : w.heap.size ≤ G := by omega
  clear hG hE2 hbG hEw hbH
  go_wp2_with fail
  clear s0 s1 fs0 fs1 hsl
  obtain ⟨S, hS⟩ : ∃ S : World → Prop, S = fun wz => Blk wz w.heap.size 27 #[.float .f64 a, .float .f64 b] ∧ Blk wz G 27 #[.float .f64 0, .float .f64 0] ∧ Ext w wz := ⟨_, rfl⟩
  have hSE : ∀ w w', S w → Ext w w' → S w' := fun w w' h1 h2 => by rw [hS] at h1 ⊢; exact ⟨h1.1.ext h2, h1.2.1.ext h2, h1.2.2.trans h2⟩
  have hS3 : S (((w2).setCell ⟨w.heap.size, 0, none⟩ (.float .f64 a)).setCell ⟨w.heap.size, 1, none⟩ (.float .f64 b)) := by rw [hS]; exact ⟨hbH3, hbG3, hE3⟩
  clear hbH3 hbG3 hE3
  generalize ((w2).setCell ⟨w.heap.size, 0, none⟩ (.float .f64 a)).setCell ⟨w.heap.size, 1, none⟩ (.float .f64 b) = w3 at hS3 ⊢
  have hS1 : S { w3 with drawn := w3.drawn + 1 } := hSE _ _ hS3 (Ext.refl w3).drew
  have HSS := Lib.hid hS
  have HSE := Lib.hid hSE
  clear hS hSE hS3
  refine wp_region_steady S (by kernel_rfl) (by kernel_rfl) hS1 ?_
  repeat (refine wpG_step (fun K hK => ?_)
          go_simp
          first
          | (refine hK _ ?_
             clear hK K)
          | (apply StepG.mk
             intro wz hz
             have hz' := hz
             rw [HSS.out] at hz'
             have g0 := hz'.1.cell 0
             have g1 := hz'.1.cell 1
             simp only [List.getElem?_toArray, List.getElem?_cons_zero, List.getElem?_cons_succ] at g0 g1
             clear hz'
             go_simp
             first
             | exact ⟨rfl, hz⟩
             | (go_at_call 23; exact (HEM.out _).mono fun e w5 h5 => ⟨h5.1, HSE.out _ _ hz h5.2⟩)
             refine hK _ ?_
             clear hK K))
  refine wpG_nil ?_
  intro w5 hw5
  rw [HSS.out] at hw5
  have hb5 := hw5.1
  have hg5 := hw5.2.1
  have hE5 := hw5.2.2
  clear hw5 hS1 HSE HSS S hq
  have b0 : (w5).cell? ⟨w.heap.size, 0, none⟩ = some (.float .f64 a) := hb5.cell 0
  have b1 : (w5).cell? ⟨w.heap.size, 1, none⟩ = some (.float .f64 b) := hb5.cell 1
  have hGl := hg5.lt
  have q0 : (w5).cell? ⟨G, 0, none⟩ = some (.float .f64 0) := hg5.cell 0
  have q1 : (w5).cell? ⟨G, 1, none⟩ = some (.float .f64 0) := hg5.cell 1
  have f0 := hg5.frozen 0
  have f1 := hg5.frozen 1
  go_wp2_with fail
  exact bodyPost_ret (v := .agg #[.float .f64 a, .float .f64 b]) (by simp [results, Try.results30, go_sem, hGl, q0, q1]) rfl ⟨rfl, (hE5.setCell hGw _).setCell hGw _⟩

set_option maxHeartbeats 4000000 in
theorem pabs_d (lo hi a b : Nat) (w : World)
    (HR : Hid (∀ w, Calls Try.prog 21 #[.agg #[.float .f64 lo, .float .f64 hi]] w (RetF a b w)))
    (hq : ∀ w, (binOp .eql 27 (.agg #[.float .f64 a, .float .f64 b]) (.agg #[.float .f64 infR, .float .f64 minf])).run Try.prog w = .ok (.bool false) w)
    (hge : (FloatKind.f64.format.order a 0 == some .gt || FloatKind.f64.format.order a 0 == some .eq) = false)
    (hle : (FloatKind.f64.format.order b 0 == some .lt || FloatKind.f64.format.order b 0 == some .eq) = true)
    (r1 r2 : Nat) (HN : Hid (∀ w, Calls Try.prog 27 #[.agg #[.float .f64 a, .float .f64 b]] w (RetF r1 r2 w))) :
    Calls Try.prog 30 #[.agg #[.float .f64 lo, .float .f64 hi]] w (RetF r1 r2 w) := by
  have HEM := Lib.hid (fun w => iempty_any w)
  obtain ⟨I1, hI1⟩ : ∃ I, I = infR := ⟨_, rfl⟩
  obtain ⟨I2, hI2⟩ : ∃ I, I = minf := ⟨_, rfl⟩
  rw [← hI1, ← hI2] at hq HEM
  clear hI1 hI2
  go_enter Try.func30, Try.ntmps30
  go_wp2_with fail
  refine (HR.out _).mono ?_
  rintro e w2 ⟨rfl, hE2⟩
  have hbH := ((Blk.new w 27 #[.float .f64 lo, .float .f64 hi]).ext ((Ext.refl _).alloc (.cells #[.float .f64 0, .float .f64 0] 27))).ext hE2
  have hbG := (Blk.new2 w (.cells #[.float .f64 lo, .float .f64 hi] 27) 27 #[.float .f64 0, .float .f64 0]).ext hE2
  have hEw : Ext w w2 := (((Ext.refl w).alloc _).alloc _).trans hE2
  have hbH3 := (box_set2 (.float .f64 a) (.float .f64 b) hbH hEw (Nat.le_refl _)).1
  have hE3 := (box_set2 (.float .f64 a) (.float .f64 b) hbH hEw (Nat.le_refl _)).2
  have hbG3 : Blk (((w2).setCell ⟨w.heap.size, 0, none⟩ (.float .f64 a)).setCell ⟨w.heap.size, 1, none⟩ (.float .f64 b)) (w.heap.size + 1) 27 #[.float .f64 0, .float .f64 0] :=
    (hbG.far (by show w.heap.size + 1 ≠ w.heap.size; omega) _).far (by show w.heap.size + 1 ≠ w.heap.size; omega) _
  have s0 : w2.cell? ⟨w.heap.size, 0, none⟩ = some (.float .f64 lo) := hbH.cell 0
  have s1 : w2.cell? ⟨w.heap.size, 1, none⟩ = some (.float .f64 hi) := hbH.cell 1
  have fs0 := hbH.frozen 0
  have fs1 := hbH.frozen 1
  have hsl := hbH.lt
  obtain ⟨G, hG⟩ : ∃ G, G = w.heap.size + 1 := ⟨_, rfl⟩
  rw [← hG] at hbG3
  rw [← hG]
  have hGw : w.heap.size ≤ G := by omega
  clear hG hE2 hbG hEw hbH
  go_wp2_with fail
  clear s0 s1 fs0 fs1 hsl
  obtain ⟨S, hS⟩ : ∃ S : World → Prop, S = fun wz => Blk wz w.heap.size 27 #[.float .f64 a, .float .f64 b] ∧ Blk wz G 27 #[.float .f64 0, .float .f64 0] ∧ Ext w wz := ⟨_, rfl⟩
  have hSE : ∀ w w', S w → Ext w w' → S w' := fun w w' h1 h2 => by rw [hS] at h1 ⊢; exact ⟨h1.1.ext h2, h1.2.1.ext h2, h1.2.2.trans h2⟩
  have hS3 : S (((w2).setCell ⟨w.heap.size, 0, none⟩ (.float .f64 a)).setCell ⟨w.heap.size, 1, none⟩ (.float .f64 b)) := by rw [hS]; exact ⟨hbH3, hbG3, hE3⟩
  clear hbH3 hbG3 hE3
  generalize ((w2).setCell ⟨w.heap.size, 0, none⟩ (.float .f64 a)).setCell ⟨w.heap.size, 1, none⟩ (.float .f64 b) = w3 at hS3 ⊢
  have hS1 : S { w3 with drawn := w3.drawn + 1 } := hSE _ _ hS3 (Ext.refl w3).drew
  have HSS := Lib.hid hS
  have HSE := Lib.hid hSE
  clear hS hSE hS3
  refine wp_region_steady S (by kernel_rfl) (by kernel_rfl) hS1 ?_
  repeat (refine wpG_step (fun K hK => ?_)
          go_simp
          first
          | (refine hK _ ?_
             clear hK K)
          | (apply StepG.mk
             intro wz hz
             have hz' := hz
             rw [HSS.out] at hz'
             have g0 := hz'.1.cell 0
             have g1 := hz'.1.cell 1
             simp only [List.getElem?_toArray, List.getElem?_cons_zero, List.getElem?_cons_succ] at g0 g1
             clear hz'
             go_simp
             first
             | exact ⟨rfl, hz⟩
             | (go_at_call 23; exact (HEM.out _).mono fun e w5 h5 => ⟨h5.1, HSE.out _ _ hz h5.2⟩)
             refine hK _ ?_
             clear hK K))
  refine wpG_nil ?_
  intro w5 hw5
  rw [HSS.out] at hw5
  have hb5 := hw5.1
  have hg5 := hw5.2.1
  have hE5 := hw5.2.2
  clear hw5 hS1 HSE HSS S hq
  have b0 : (w5).cell? ⟨w.heap.size, 0, none⟩ = some (.float .f64 a) := hb5.cell 0
  have b1 : (w5).cell? ⟨w.heap.size, 1, none⟩ = some (.float .f64 b) := hb5.cell 1
  have hGl := hg5.lt
  have q0 : (w5).cell? ⟨G, 0, none⟩ = some (.float .f64 0) := hg5.cell 0
  have q1 : (w5).cell? ⟨G, 1, none⟩ = some (.float .f64 0) := hg5.cell 1
  have f0 := hg5.frozen 0
  have f1 := hg5.frozen 1
  go_wp2_with fail
  refine (HN.out _).mono ?_
  rintro e w6 ⟨rfl, hE6⟩
  have hg6 := hg5.ext hE6
  have hE7 := hE5.trans hE6
  clear b0 b1 q0 q1 f0 f1 hGl hb5 hg5 hE5 hE6
  have hGl := hg6.lt
  have q0 : w6.cell? ⟨G, 0, none⟩ = some (.float .f64 0) := hg6.cell 0
  have q1 : w6.cell? ⟨G, 1, none⟩ = some (.float .f64 0) := hg6.cell 1
  have f0 := hg6.frozen 0
  have f1 := hg6.frozen 1
  go_wp2_with fail
  exact bodyPost_ret (v := .agg #[.float .f64 r1, .float .f64 r2]) (by simp [results, Try.results30, go_sem, hGl, q0, q1]) rfl ⟨rfl, (hE7.setCell hGw _).setCell hGw _⟩

set_option maxHeartbeats 4000000 in
theorem pabs_m (lo hi a b : Nat) (w : World)
    (HR : Hid (∀ w, Calls Try.prog 21 #[.agg #[.float .f64 lo, .float .f64 hi]] w (RetF a b w)))
    (hq : ∀ w, (binOp .eql 27 (.agg #[.float .f64 a, .float .f64 b]) (.agg #[.float .f64 infR, .float .f64 minf])).run Try.prog w = .ok (.bool false) w)
    (hge : (FloatKind.f64.format.order a 0 == some .gt || FloatKind.f64.format.order a 0 == some .eq) = false)
    (hle : (FloatKind.f64.format.order b 0 == some .lt || FloatKind.f64.format.order b 0 == some .eq) = false)
    (na m : Nat) (u1 : ∀ w, (Go.Op.unary .neg (.float .f64 a)).run Try.prog w = .ok (.float .f64 na) w) (hmx : ∀ ats ty w, (Builtin.max_ ats ty #[.float .f64 na, .float .f64 b]).run Try.prog w = .ok (.float .f64 m) w) :
    Calls Try.prog 30 #[.agg #[.float .f64 lo, .float .f64 hi]] w (RetF 0 m w) := by
  have HEM := Lib.hid (fun w => iempty_any w)
  obtain ⟨I1, hI1⟩ : ∃ I, I = infR := ⟨_, rfl⟩
  obtain ⟨I2, hI2⟩ : ∃ I, I = minf := ⟨_, rfl⟩
  rw [← hI1, ← hI2] at hq HEM
  clear hI1 hI2
  go_enter Try.func30, Try.ntmps30
  go_wp2_with fail
  refine (HR.out _).mono ?_
  rintro e w2 ⟨rfl, hE2⟩
  have hbH := ((Blk.new w 27 #[.float .f64 lo, .float .f64 hi]).ext ((Ext.refl _).alloc (.cells #[.float .f64 0, .float .f64 0] 27))).ext hE2
  have hbG := (Blk.new2 w (.cells #[.float .f64 lo, .float .f64 hi] 27) 27 #[.float .f64 0, .float .f64 0]).ext hE2
  have hEw : Ext w w2 := (((Ext.refl w).alloc _).alloc _).trans hE2
  have hbH3 := (box_set2 (.float .f64 a) (.float .f64 b) hbH hEw (Nat.le_refl _)).1
  have hE3 := (box_set2 (.float .f64 a) (.float .f64 b) hbH hEw (Nat.le_refl _)).2
  have hbG3 : Blk (((w2).setCell ⟨w.heap.size, 0, none⟩ (.float .f64 a)).setCell ⟨w.heap.size, 1, none⟩ (.float .f64 b)) (w.heap.size + 1) 27 #[.float .f64 0, .float .f64 0] :=
    (hbG.far (by show w.heap.size + 1 ≠ w.heap.size; omega) _).far (by show w.heap.size + 1 ≠ w.heap.size; omega) _
  have s0 : w2.cell? ⟨w.heap.size, 0, none⟩ = some (.float .f64 lo) := hbH.cell 0
  have s1 : w2.cell? ⟨w.heap.size, 1, none⟩ = some (.float .f64 hi) := hbH.cell 1
  have fs0 := hbH.frozen 0
  have fs1 := hbH.frozen 1
  have hsl := hbH.lt
  obtain ⟨G, hG⟩ : ∃ G, G = w.heap.size + 1 := ⟨_, rfl⟩
  rw [← hG] at hbG3
  rw [← hG]
  have hGw : w.heap.size ≤ G := by omega
  clear hG hE2 hbG hEw hbH
  go_wp2_with fail
  clear s0 s1 fs0 fs1 hsl
  obtain ⟨S, hS⟩ : ∃ S : World → Prop, S = fun wz => Blk wz w.heap.size 27 #[.float .f64 a, .float .f64 b] ∧ Blk wz G 27 #[.float .f64 0, .float .f64 0] ∧ Ext w wz := ⟨_, rfl⟩
  have hSE : ∀ w w', S w → Ext w w' → S w' := fun w w' h1 h2 => by rw [hS] at h1 ⊢; exact ⟨h1.1.ext h2, h1.2.1.ext h2, h1.2.2.trans h2⟩
  have hS3 : S (((w2).setCell ⟨w.heap.size, 0, none⟩ (.float .f64 a)).setCell ⟨w.heap.size, 1, none⟩ (.float .f64 b)) := by rw [hS]; exact ⟨hbH3, hbG3, hE3⟩
  clear hbH3 hbG3 hE3
  generalize ((w2).setCell ⟨w.heap.size, 0, none⟩ (.float .f64 a)).setCell ⟨w.heap.size, 1, none⟩ (.float .f64 b) = w3 at hS3 ⊢
  have hS1 : S { w3 with drawn := w3.drawn + 1 } := hSE _ _ hS3 (Ext.refl w3).drew
  have HSS := Lib.hid hS
  have HSE := Lib.hid hSE
  clear hS hSE hS3
  refine wp_region_steady S (by kernel_rfl) (by kernel_rfl) hS1 ?_
  repeat (refine wpG_step (fun K hK => ?_)
          go_simp
          first
          | (refine hK _ ?_
             clear hK K)
          | (apply StepG.mk
             intro wz hz
             have hz' := hz
             rw [HSS.out] at hz'
             have g0 := hz'.1.cell 0
             have g1 := hz'.1.cell 1
             simp only [List.getElem?_toArray, List.getElem?_cons_zero, List.getElem?_cons_succ] at g0 g1
             clear hz'
             go_simp
             first
             | exact ⟨rfl, hz⟩
             | (go_at_call 23; exact (HEM.out _).mono fun e w5 h5 => ⟨h5.1, HSE.out _ _ hz h5.2⟩)
             refine hK _ ?_
             clear hK K))
  refine wpG_nil ?_
  intro w5 hw5
  rw [HSS.out] at hw5
  have hb5 := hw5.1
  have hg5 := hw5.2.1
  have hE5 := hw5.2.2
  clear hw5 hS1 HSE HSS S hq
  have b0 : (w5).cell? ⟨w.heap.size, 0, none⟩ = some (.float .f64 a) := hb5.cell 0
  have b1 : (w5).cell? ⟨w.heap.size, 1, none⟩ = some (.float .f64 b) := hb5.cell 1
  have hGl := hg5.lt
  have q0 : (w5).cell? ⟨G, 0, none⟩ = some (.float .f64 0) := hg5.cell 0
  have q1 : (w5).cell? ⟨G, 1, none⟩ = some (.float .f64 0) := hg5.cell 1
  have f0 := hg5.frozen 0
  have f1 := hg5.frozen 1
  go_wp2_with fail
  exact bodyPost_ret (v := .agg #[.float .f64 0, .float .f64 m]) (by simp [results, Try.results30, go_sem, hGl, q0, q1]) rfl ⟨rfl, (hE5.setCell hGw _).setCell hGw _⟩

end Go.Proofs.Ytcimfccjcikemaa
