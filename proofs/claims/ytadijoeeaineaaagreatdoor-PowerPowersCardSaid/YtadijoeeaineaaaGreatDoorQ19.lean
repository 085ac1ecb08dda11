/-
  The contracts of the document's inverses of sets, of its powers of bounds and sets, and of its Pown, walk by walk. Conditions: those that each theorem names.
-/
import Derived.Test.YtadijoeeaineaaaGreatDoorQ18
import Derived.Test.YtadijoeeaineaaaGreatDoorQ13
namespace Go.Proofs.YtadijoeeaineaaaGreatDoor
open Go.RowKit Nm Rn
set_option maxRecDepth 100000
set_option linter.unusedVariables false
set_option linter.unusedSimpArgs false

theorem zero_Ij (w : World) : (zeroValue 24).run Tryz.prog w = .ok (.agg #[.int .u64 0, .int .u64 0]) w := by kernel_rfl
theorem agg_Ij (w : World) : (isAgg 24).run Tryz.prog w = .ok true w := by kernel_rfl
theorem size_Ij (w : World) : (sizeOf 24).run Tryz.prog w = .ok 2 w := by kernel_rfl
theorem Own.box {w0 w : World} {L : List Bx} {W : List Sw} {g : Nat} {t : TypeId} {cs : List Value} (h : Own w0 L W w) (hb : Blk w g t cs.toArray) (hg : w0.heap.size ≤ g) (hu : cs.any isU = false) (hn : ∀ b ∈ L, b.g ≠ g) : Own w0 (⟨g, t, cs⟩ :: L) W w := by
  refine ⟨h.1, fun b hm => ?_, ?_, h.2.2.2⟩
  · rcases List.mem_cons.1 hm with rfl | hm
    · exact ⟨hg, hb, hu⟩
    · exact h.2.1 b hm
  · rw [List.map_cons, List.nodup_cons]
    refine ⟨fun hm => ?_, h.2.2.1⟩
    obtain ⟨b, hbm, he⟩ := List.mem_map.1 hm
    exact hn b hbm he

set_option maxHeartbeats 8000000 in
theorem inverse6_w (i1 : Int) (s1 : Bool) (A1 : Option Addr) (l1 c1 : Nat) (B1 : Option Addr) (k1 d1 N1 D1 : Nat) (i2 : Int) (s2 : Bool) (A2 : Option Addr) (l2 c2 : Nat) (B2 : Option Addr) (k2 d2 N2 D2 : Nat) (nU nO nM nV nP nQ nR : Bool) (i3 : Int) (s3 : Bool) (N3 D3 : Nat) (i4 : Int) (s4 : Bool) (N4 D4 : Nat) (i5 : Int) (s5 : Bool) (N5 D5 : Nat) (i6 : Int) (s6 : Bool) (N6 D6 : Nat) (i7 : Int) (s7 : Bool) (N7 D7 : Nat) (i8 : Int) (s8 : Bool) (N8 D8 : Nat) (i9 : Int) (s9 : Bool) (N9 D9 : Nat) (i10 : Int) (s10 : Bool) (N10 D10 : Nat) (i11 : Int) (s11 : Bool) (N11 D11 : Nat) (i12 : Int) (s12 : Bool) (N12 D12 : Nat) (i13 : Int) (s13 : Bool) (N13 D13 : Nat) (i14 : Int) (s14 : Bool) (N14 D14 : Nat) (i15 : Int) (s15 : Bool) (N15 D15 : Nat) (i16 : Int) (s16 : Bool) (N16 D16 : Nat) (w : World) (h1 : RatAt w A1 l1 c1 B1 k1 d1 N1 D1) (h2 : RatAt w A2 l2 c2 B2 k2 d2 N2 D2)
    (HU : Hid (∀ (A1 : Option Addr) (l1 c1 : Nat) (B1 : Option Addr) (k1 d1 : Nat) (A2 : Option Addr) (l2 c2 : Nat) (B2 : Option Addr) (k2 d2 : Nat) (w : World), RatAt w A1 l1 c1 B1 k1 d1 N1 D1 → RatAt w A2 l2 c2 B2 k2 d2 N2 D2 → Calls Tryz.prog 96 #[.agg #[.bool false, .int .i64 i1, .bool s1, .slice A1 l1 c1, .slice B1 k1 d1, .int .i64 i2, .bool s2, .slice A2 l2 c2, .slice B2 k2 d2]] w (RetSet nU i3 s3 N3 D3 i4 s4 N4 D4 w)))
    (HO_ : Hid (∀ (A3 : Option Addr) (l3 c3 : Nat) (B3 : Option Addr) (k3 d3 : Nat) (A4 : Option Addr) (l4 c4 : Nat) (B4 : Option Addr) (k4 d4 : Nat) (w : World), RatAt w A3 l3 c3 B3 k3 d3 N3 D3 → RatAt w A4 l4 c4 B4 k4 d4 N4 D4 → Calls Tryz.prog 95 #[.agg #[.bool nU, .int .i64 i3, .bool s3, .slice A3 l3 c3, .slice B3 k3 d3, .int .i64 i4, .bool s4, .slice A4 l4 c4, .slice B4 k4 d4]] w (RetSet nO i5 s5 N5 D5 i6 s6 N6 D6 w)))
    (HM : Hid (∀ (A1 : Option Addr) (l1 c1 : Nat) (B1 : Option Addr) (k1 d1 : Nat) (A2 : Option Addr) (l2 c2 : Nat) (B2 : Option Addr) (k2 d2 : Nat) (w : World), RatAt w A1 l1 c1 B1 k1 d1 N1 D1 → RatAt w A2 l2 c2 B2 k2 d2 N2 D2 → Calls Tryz.prog 97 #[.agg #[.bool false, .int .i64 i1, .bool s1, .slice A1 l1 c1, .slice B1 k1 d1, .int .i64 i2, .bool s2, .slice A2 l2 c2, .slice B2 k2 d2]] w (RetSet nM i7 s7 N7 D7 i8 s8 N8 D8 w)))
    (HV : Hid (∀ (A7 : Option Addr) (l7 c7 : Nat) (B7 : Option Addr) (k7 d7 : Nat) (A8 : Option Addr) (l8 c8 : Nat) (B8 : Option Addr) (k8 d8 : Nat) (w : World), RatAt w A7 l7 c7 B7 k7 d7 N7 D7 → RatAt w A8 l8 c8 B8 k8 d8 N8 D8 → Calls Tryz.prog 96 #[.agg #[.bool nM, .int .i64 i7, .bool s7, .slice A7 l7 c7, .slice B7 k7 d7, .int .i64 i8, .bool s8, .slice A8 l8 c8, .slice B8 k8 d8]] w (RetSet nV i9 s9 N9 D9 i10 s10 N10 D10 w)))
    (HP : Hid (∀ (A9 : Option Addr) (l9 c9 : Nat) (B9 : Option Addr) (k9 d9 : Nat) (A10 : Option Addr) (l10 c10 : Nat) (B10 : Option Addr) (k10 d10 : Nat) (w : World), RatAt w A9 l9 c9 B9 k9 d9 N9 D9 → RatAt w A10 l10 c10 B10 k10 d10 N10 D10 → Calls Tryz.prog 95 #[.agg #[.bool nV, .int .i64 i9, .bool s9, .slice A9 l9 c9, .slice B9 k9 d9, .int .i64 i10, .bool s10, .slice A10 l10 c10, .slice B10 k10 d10]] w (RetSet nP i11 s11 N11 D11 i12 s12 N12 D12 w)))
    (HQ : Hid (∀ (A11 : Option Addr) (l11 c11 : Nat) (B11 : Option Addr) (k11 d11 : Nat) (A12 : Option Addr) (l12 c12 : Nat) (B12 : Option Addr) (k12 d12 : Nat) (w : World), RatAt w A11 l11 c11 B11 k11 d11 N11 D11 → RatAt w A12 l12 c12 B12 k12 d12 N12 D12 → Calls Tryz.prog 97 #[.agg #[.bool nP, .int .i64 i11, .bool s11, .slice A11 l11 c11, .slice B11 k11 d11, .int .i64 i12, .bool s12, .slice A12 l12 c12, .slice B12 k12 d12]] w (RetSet nQ i13 s13 N13 D13 i14 s14 N14 D14 w)))
    (HH : Hid (∀ (A5 : Option Addr) (l5 c5 : Nat) (B5 : Option Addr) (k5 d5 : Nat) (A6 : Option Addr) (l6 c6 : Nat) (B6 : Option Addr) (k6 d6 : Nat) (A13 : Option Addr) (l13 c13 : Nat) (B13 : Option Addr) (k13 d13 : Nat) (A14 : Option Addr) (l14 c14 : Nat) (B14 : Option Addr) (k14 d14 : Nat) (w : World), RatAt w A5 l5 c5 B5 k5 d5 N5 D5 → RatAt w A6 l6 c6 B6 k6 d6 N6 D6 → RatAt w A13 l13 c13 B13 k13 d13 N13 D13 → RatAt w A14 l14 c14 B14 k14 d14 N14 D14 → Calls Tryz.prog 94 #[.agg #[.bool nO, .int .i64 i5, .bool s5, .slice A5 l5 c5, .slice B5 k5 d5, .int .i64 i6, .bool s6, .slice A6 l6 c6, .slice B6 k6 d6], .agg #[.bool nQ, .int .i64 i13, .bool s13, .slice A13 l13 c13, .slice B13 k13 d13, .int .i64 i14, .bool s14, .slice A14 l14 c14, .slice B14 k14 d14]] w (RetSet nR i15 s15 N15 D15 i16 s16 N16 D16 w))) :
    Calls Tryz.prog 65 #[.agg #[.bool false, .int .i64 i1, .bool s1, .slice A1 l1 c1, .slice B1 k1 d1, .int .i64 i2, .bool s2, .slice A2 l2 c2, .slice B2 k2 d2]] w (RetSet nR i15 s15 N15 D15 i16 s16 N16 D16 w) := by
  have hO := ((((Own.start w).add h1.1).add h1.2).add h2.1).add h2.2
  have hf : True := trivial
  clear h1 h2
  go_enter Tryz.func65, Tryz.ntmps65
  go_upto_region 1 with (first | ((with_reducible refine at_box ?_); refine own_box (cs := [.bool false, .int .i64 i1, .bool s1, .slice A1 l1 c1, .slice B1 k1 d1, .int .i64 i2, .bool s2, .slice A2 l2 c2, .slice B2 k2 d2]) hO rfl rfl ?_; clear hO; intro ga wa hO; clear hf; have hf := hO.cells; simp only [BC, CC, Nat.zero_add, Nat.reduceAdd, and_true] at hf) | ((with_reducible refine at_alloc ?_); refine own_alloc hO zero_seth rfl rfl ?_; clear hO; intro g wc hO; clear hf; have hf := hO.cells; simp only [BC, CC, Nat.zero_add, Nat.reduceAdd, and_true] at hf))
  obtain ⟨S, hS⟩ : ∃ S : World → Prop, S = Own w [⟨g, 57, [.bool false, .int .i64 0, .bool false, .slice none 0 0, .slice none 0 0, .int .i64 0, .bool false, .slice none 0 0, .slice none 0 0]⟩, ⟨ga, 57, [.bool false, .int .i64 i1, .bool s1, .slice A1 l1 c1, .slice B1 k1 d1, .int .i64 i2, .bool s2, .slice A2 l2 c2, .slice B2 k2 d2]⟩] [⟨B2, k2, d2, nd D2⟩, ⟨A2, l2, c2, nd N2⟩, ⟨B1, k1, d1, nd D1⟩, ⟨A1, l1, c1, nd N1⟩] := ⟨_, rfl⟩
  have hSE : ∀ w w', S w → Ext w w' → S w' := fun w w' h1 h2 => by rw [hS] at h1 ⊢; exact h1.ext h2
  have hS1 : S wc.drew := by rw [hS]; exact hO.ext (Ext.refl wc).drew
  have HS := Lib.hid hS
  clear hS hO hf
  obtain ⟨sp, hsp⟩ : ∃ sp : Nat → Sp, sp = ofList [det (.agg #[.bool false, .int .i64 i1, .bool s1, .slice A1 l1 c1, .slice B1 k1 d1, .int .i64 i2, .bool s2, .slice A2 l2 c2, .slice B2 k2 d2]), anyOf (fun v wz => ∃ A l c B k d A' l' c' B' k' d', v = .agg #[.bool nU, .int .i64 i3, .bool s3, .slice A l c, .slice B k d, .int .i64 i4, .bool s4, .slice A' l' c', .slice B' k' d'] ∧ RatAt wz A l c B k d N3 D3 ∧ RatAt wz A' l' c' B' k' d' N4 D4), anyOf (fun v wz => ∃ A l c B k d A' l' c' B' k' d', v = .agg #[.bool nO, .int .i64 i5, .bool s5, .slice A l c, .slice B k d, .int .i64 i6, .bool s6, .slice A' l' c', .slice B' k' d'] ∧ RatAt wz A l c B k d N5 D5 ∧ RatAt wz A' l' c' B' k' d' N6 D6), det (.agg #[.bool false, .int .i64 i1, .bool s1, .slice A1 l1 c1, .slice B1 k1 d1, .int .i64 i2, .bool s2, .slice A2 l2 c2, .slice B2 k2 d2]), anyOf (fun v wz => ∃ A l c B k d A' l' c' B' k' d', v = .agg #[.bool nM, .int .i64 i7, .bool s7, .slice A l c, .slice B k d, .int .i64 i8, .bool s8, .slice A' l' c', .slice B' k' d'] ∧ RatAt wz A l c B k d N7 D7 ∧ RatAt wz A' l' c' B' k' d' N8 D8), anyOf (fun v wz => ∃ A l c B k d A' l' c' B' k' d', v = .agg #[.bool nV, .int .i64 i9, .bool s9, .slice A l c, .slice B k d, .int .i64 i10, .bool s10, .slice A' l' c', .slice B' k' d'] ∧ RatAt wz A l c B k d N9 D9 ∧ RatAt wz A' l' c' B' k' d' N10 D10), anyOf (fun v wz => ∃ A l c B k d A' l' c' B' k' d', v = .agg #[.bool nP, .int .i64 i11, .bool s11, .slice A l c, .slice B k d, .int .i64 i12, .bool s12, .slice A' l' c', .slice B' k' d'] ∧ RatAt wz A l c B k d N11 D11 ∧ RatAt wz A' l' c' B' k' d' N12 D12), anyOf (fun v wz => ∃ A l c B k d A' l' c' B' k' d', v = .agg #[.bool nQ, .int .i64 i13, .bool s13, .slice A l c, .slice B k d, .int .i64 i14, .bool s14, .slice A' l' c', .slice B' k' d'] ∧ RatAt wz A l c B k d N13 D13 ∧ RatAt wz A' l' c' B' k' d' N14 D14), anyOf (fun v wz => ∃ A l c B k d A' l' c' B' k' d', v = .agg #[.bool nR, .int .i64 i15, .bool s15, .slice A l c, .slice B k d, .int .i64 i16, .bool s16, .slice A' l' c', .slice B' k' d'] ∧ RatAt wz A l c B k d N15 D15 ∧ RatAt wz A' l' c' B' k' d' N16 D16)] := ⟨_, rfl⟩
  have HSP := Lib.hid hsp
  clear hsp
  refine wp_region_loose 9 S sp (by kernel_rfl) (by kernel_rfl) hS1 hSE ?_
  simp only [List.take_succ_cons, List.take_zero, List.drop_succ_cons, List.drop_zero]
  refine wpX_step (fun K hK => ?_)
  go_simp
  refine StepY.det (by rw [HSP.out]; rfl) ?_ ?_
  · intro wz hz hF
    rw [HS.out] at hz
    have hf := hz.cells
    simp only [BC, CC, Nat.zero_add, Nat.reduceAdd, and_true] at hf
    clear hz hF
    go_simp
    exact ⟨rfl, Ext.refl _⟩
  refine hK _ _ ?_
  clear hK K
  refine wpX_step (fun K hK => ?_)
  go_simp
  refine StepY.any (by rw [HSP.out]; rfl) ?_ ?_
  · intro wz hz hF
    rw [HS.out] at hz
    have hR : RatAt wz _ _ _ _ _ _ _ _ := ⟨hz.wd 3 rfl, hz.wd 2 rfl⟩
    have hQ : RatAt wz _ _ _ _ _ _ _ _ := ⟨hz.wd 1 rfl, hz.wd 0 rfl⟩
    clear hz hF
    go_simp
    refine (HU.out _ _ _ _ _ _ _ _ _ _ _ _ _ hR hQ).mono ?_
    rintro e w2 ⟨A3, n3, c3, A4, n4, c4, A5, n5, c5, A6, n6, c6, rfl, hW1, hW2, hE1⟩
    exact ⟨_, rfl, ⟨A3, n3, c3, A4, n4, c4, A5, n5, c5, A6, n6, c6, rfl, hW1, hW2⟩, hE1⟩
  intro v1
  refine hK _ _ ?_
  clear hK K
  refine wpX_step (fun K hK => ?_)
  go_simp
  refine StepY.any (by rw [HSP.out]; rfl) ?_ ?_
  · intro wz hz hF
    obtain ⟨wa', ea, A5', n5, c5', A6', n6, c6', A7', n7, c7', A8', n8, c8', hv1, hw1, hw2⟩ := hF.any 1 (by kernel_rfl) (by rw [HSP.out]; rfl)
    clear hz hF
    simp only [asFun, List.nil_append, List.cons_append, List.getD_cons_succ, List.getD_cons_zero] at hv1
    subst hv1
    go_simp
    refine (HO_.out _ _ _ _ _ _ _ _ _ _ _ _ _ (hw1.ext ea) (hw2.ext ea)).mono ?_
    rintro e w2 ⟨A3, n3, c3, A4, n4, c4, A5, n5, c5, A6, n6, c6, rfl, hW1, hW2, hE1⟩
    exact ⟨_, rfl, ⟨A3, n3, c3, A4, n4, c4, A5, n5, c5, A6, n6, c6, rfl, hW1, hW2⟩, hE1⟩
  intro v2
  refine hK _ _ ?_
  clear hK K
  refine wpX_step (fun K hK => ?_)
  go_simp
  refine StepY.det (by rw [HSP.out]; rfl) ?_ ?_
  · intro wz hz hF
    rw [HS.out] at hz
    have hf := hz.cells
    simp only [BC, CC, Nat.zero_add, Nat.reduceAdd, and_true] at hf
    clear hz hF
    go_simp
    exact ⟨rfl, Ext.refl _⟩
  refine hK _ _ ?_
  clear hK K
  refine wpX_step (fun K hK => ?_)
  go_simp
  refine StepY.any (by rw [HSP.out]; rfl) ?_ ?_
  · intro wz hz hF
    rw [HS.out] at hz
    have hR : RatAt wz _ _ _ _ _ _ _ _ := ⟨hz.wd 3 rfl, hz.wd 2 rfl⟩
    have hQ : RatAt wz _ _ _ _ _ _ _ _ := ⟨hz.wd 1 rfl, hz.wd 0 rfl⟩
    clear hz hF
    go_simp
    refine (HM.out _ _ _ _ _ _ _ _ _ _ _ _ _ hR hQ).mono ?_
    rintro e w2 ⟨A3, n3, c3, A4, n4, c4, A5, n5, c5, A6, n6, c6, rfl, hW1, hW2, hE1⟩
    exact ⟨_, rfl, ⟨A3, n3, c3, A4, n4, c4, A5, n5, c5, A6, n6, c6, rfl, hW1, hW2⟩, hE1⟩
  intro v3
  refine hK _ _ ?_
  clear hK K
  refine wpX_step (fun K hK => ?_)
  go_simp
  refine StepY.any (by rw [HSP.out]; rfl) ?_ ?_
  · intro wz hz hF
    obtain ⟨wa', ea, A5', n5, c5', A6', n6, c6', A7', n7, c7', A8', n8, c8', hv1, hw1, hw2⟩ := hF.any 4 (by kernel_rfl) (by rw [HSP.out]; rfl)
    clear hz hF
    simp only [asFun, List.nil_append, List.cons_append, List.getD_cons_succ, List.getD_cons_zero] at hv1
    subst hv1
    go_simp
    refine (HV.out _ _ _ _ _ _ _ _ _ _ _ _ _ (hw1.ext ea) (hw2.ext ea)).mono ?_
    rintro e w2 ⟨A3, n3, c3, A4, n4, c4, A5, n5, c5, A6, n6, c6, rfl, hW1, hW2, hE1⟩
    exact ⟨_, rfl, ⟨A3, n3, c3, A4, n4, c4, A5, n5, c5, A6, n6, c6, rfl, hW1, hW2⟩, hE1⟩
  intro v4
  refine hK _ _ ?_
  clear hK K
  refine wpX_step (fun K hK => ?_)
  go_simp
  refine StepY.any (by rw [HSP.out]; rfl) ?_ ?_
  · intro wz hz hF
    obtain ⟨wa', ea, A5', n5, c5', A6', n6, c6', A7', n7, c7', A8', n8, c8', hv1, hw1, hw2⟩ := hF.any 5 (by kernel_rfl) (by rw [HSP.out]; rfl)
    clear hz hF
    simp only [asFun, List.nil_append, List.cons_append, List.getD_cons_succ, List.getD_cons_zero] at hv1
    subst hv1
    go_simp
    refine (HP.out _ _ _ _ _ _ _ _ _ _ _ _ _ (hw1.ext ea) (hw2.ext ea)).mono ?_
    rintro e w2 ⟨A3, n3, c3, A4, n4, c4, A5, n5, c5, A6, n6, c6, rfl, hW1, hW2, hE1⟩
    exact ⟨_, rfl, ⟨A3, n3, c3, A4, n4, c4, A5, n5, c5, A6, n6, c6, rfl, hW1, hW2⟩, hE1⟩
  intro v5
  refine hK _ _ ?_
  clear hK K
  refine wpX_step (fun K hK => ?_)
  go_simp
  refine StepY.any (by rw [HSP.out]; rfl) ?_ ?_
  · intro wz hz hF
    obtain ⟨wa', ea, A5', n5, c5', A6', n6, c6', A7', n7, c7', A8', n8, c8', hv1, hw1, hw2⟩ := hF.any 6 (by kernel_rfl) (by rw [HSP.out]; rfl)
    clear hz hF
    simp only [asFun, List.nil_append, List.cons_append, List.getD_cons_succ, List.getD_cons_zero] at hv1
    subst hv1
    go_simp
    refine (HQ.out _ _ _ _ _ _ _ _ _ _ _ _ _ (hw1.ext ea) (hw2.ext ea)).mono ?_
    rintro e w2 ⟨A3, n3, c3, A4, n4, c4, A5, n5, c5, A6, n6, c6, rfl, hW1, hW2, hE1⟩
    exact ⟨_, rfl, ⟨A3, n3, c3, A4, n4, c4, A5, n5, c5, A6, n6, c6, rfl, hW1, hW2⟩, hE1⟩
  intro v6
  refine hK _ _ ?_
  clear hK K
  refine wpX_step (fun K hK => ?_)
  go_simp
  refine StepY.any (by rw [HSP.out]; rfl) ?_ ?_
  · intro wz hz hF
    obtain ⟨wa', ea, A5', n5, c5', A6', n6, c6', A7', n7, c7', A8', n8, c8', hv1, hw1, hw2⟩ := hF.any 2 (by kernel_rfl) (by rw [HSP.out]; rfl)
    obtain ⟨wb', eb, A1', n1, c1', A2', n2, c2', A3', n3, c3', A4', n4, c4', hv2, hw3, hw4⟩ := hF.any 7 (by kernel_rfl) (by rw [HSP.out]; rfl)
    clear hz hF
    simp only [asFun, List.nil_append, List.cons_append, List.getD_cons_succ, List.getD_cons_zero] at hv1 hv2
    subst hv1 hv2
    go_simp
    refine (HH.out _ _ _ _ _ _ _ _ _ _ _ _ _ _ _ _ _ _ _ _ _ _ _ _ _ (hw1.ext ea) (hw2.ext ea) (hw3.ext eb) (hw4.ext eb)).mono ?_
    rintro e w2 ⟨A3, n3, c3, A4, n4, c4, A5, n5, c5, A6, n6, c6, rfl, hW1, hW2, hE1⟩
    exact ⟨_, rfl, ⟨A3, n3, c3, A4, n4, c4, A5, n5, c5, A6, n6, c6, rfl, hW1, hW2⟩, hE1⟩
  intro v7
  refine hK _ _ ?_
  clear hK K
  refine wpX_nil ?_
  intro wq hz hF
  obtain ⟨wa', ea, A5', n5, c5', A6', n6, c6', A7', n7, c7', A8', n8, c8', hv1, hw1, hw2⟩ := fact_any (hF 8 (by omega)) (by rw [HSP.out]; rfl)
  clear hF
  simp only [asFun, List.nil_append, List.cons_append, List.getD_cons_succ, List.getD_cons_zero] at hv1
  subst hv1
  rw [HS.out] at hz
  have hO := hz
  clear hz HS HSP
  have hf := hO.cells
  simp only [BC, CC, Nat.zero_add, Nat.reduceAdd, and_true] at hf
  have hw1 := hw1.ext ea
  have hw2 := hw2.ext ea
  have hO := (((hO.add hw1.1).add hw1.2).add hw2.1).add hw2.2
  clear hw1 hw2 ea hf
  have hf := hO.cells
  simp only [BC, CC, Nat.zero_add, Nat.reduceAdd, and_true] at hf
  go_wp2_with ((with_reducible refine at_store (T := 57) ?_); refine own_store (T := 57) hO 0 rfl rfl rfl size_seth rfl rfl rfl ?_; clear hO; intro w6 hO; simp only [List.set_cons_zero, List.set_cons_succ, spl, List.take_succ_cons, List.take_zero, List.nil_append, List.cons_append, List.length_cons, List.length_nil, List.drop_succ_cons, List.drop_zero, List.drop_nil, Nat.reduceAdd, Nat.zero_add, List.append_nil] at hO; clear hf; have hf := hO.cells; simp only [BC, CC, Nat.zero_add, Nat.reduceAdd, and_true] at hf)
  exact own_ret hO 0 rfl rfl rfl agg_seti size_seth rfl ⟨_, _, _, _, _, _, _, _, _, _, _, _, rfl, ⟨hO.wd 3 rfl, hO.wd 2 rfl⟩, ⟨hO.wd 1 rfl, hO.wd 0 rfl⟩, hO.toExt⟩

set_option maxHeartbeats 8000000 in
theorem power7_i (i1 : Int) (s1 : Bool) (A1 : Option Addr) (l1 c1 : Nat) (B1 : Option Addr) (k1 d1 N1 D1 : Nat) (m : Int) (w : World) (h1 : RatAt w A1 l1 c1 B1 k1 d1 N1 D1) (hi : (i1 != 0) = true) :
    Calls Tryz.prog 64 #[.agg #[.int .i64 i1, .bool s1, .slice A1 l1 c1, .slice B1 k1 d1], .int .i64 m] w (RetEnd i1 s1 N1 D1 w) := by
  have hO := ((Own.start w).add h1.1).add h1.2
  have hf : True := trivial
  clear h1
  go_enter Tryz.func64, Tryz.ntmps64
  go_wp2_with (first | ((with_reducible refine at_box ?_); refine own_box (cs := [.int .i64 i1, .bool s1, .slice A1 l1 c1, .slice B1 k1 d1]) hO rfl rfl ?_; clear hO; intro ga wa hO; clear hf; have hf := hO.cells; simp only [BC, CC, Nat.zero_add, Nat.reduceAdd, and_true] at hf) | ((with_reducible refine at_alloc ?_); refine own_alloc hO zero_endh rfl rfl ?_; clear hO; intro g wc hO; clear hf; have hf := hO.cells; simp only [BC, CC, Nat.zero_add, Nat.reduceAdd, and_true] at hf) | ((with_reducible refine at_store (T := 55) ?_); refine own_store (T := 55) hO 0 rfl rfl rfl size_endh rfl rfl rfl ?_; clear hO; intro wd hO; simp only [List.set_cons_zero, List.set_cons_succ, spl, List.take_succ_cons, List.take_zero, List.nil_append, List.cons_append, List.length_cons, List.length_nil, List.drop_succ_cons, List.drop_zero, List.drop_nil, Nat.reduceAdd, Nat.zero_add, List.append_nil] at hO; clear hf; have hf := hO.cells; simp only [BC, CC, Nat.zero_add, Nat.reduceAdd, and_true] at hf))
  exact own_ret hO 0 rfl rfl rfl agg_endi size_endh rfl ⟨_, _, _, _, _, _, rfl, ⟨hO.wd 1 rfl, hO.wd 0 rfl⟩, hO.toExt⟩

set_option maxHeartbeats 8000000 in
theorem power7_q (i1 : Int) (s1 : Bool) (A1 : Option Addr) (l1 c1 : Nat) (B1 : Option Addr) (k1 d1 N1 D1 : Nat) (m : Int) (sq : Bool) (Nq Dq : Nat) (w : World) (h1 : RatAt w A1 l1 c1 B1 k1 d1 N1 D1) (hi : (i1 != 0) = false) (HRP : Hid (∀ w, RatAt w A1 l1 c1 B1 k1 d1 N1 D1 → Calls Tryz.prog 93 #[.agg #[.bool s1, .slice A1 l1 c1, .slice B1 k1 d1], .int .i64 m] w (RetR sq Nq Dq w))) :
    Calls Tryz.prog 64 #[.agg #[.int .i64 i1, .bool s1, .slice A1 l1 c1, .slice B1 k1 d1], .int .i64 m] w (RetEnd 0 sq Nq Dq w) := by
  have hO := ((Own.start w).add h1.1).add h1.2
  have hf : True := trivial
  clear h1
  go_enter Tryz.func64, Tryz.ntmps64
  go_wp2_with (first | ((with_reducible refine at_box ?_); refine own_box (cs := [.int .i64 i1, .bool s1, .slice A1 l1 c1, .slice B1 k1 d1]) hO rfl rfl ?_; clear hO; intro ga wa hO; clear hf; have hf := hO.cells; simp only [BC, CC, Nat.zero_add, Nat.reduceAdd, and_true] at hf) | ((with_reducible refine at_alloc ?_); refine own_alloc hO zero_endh rfl rfl ?_; clear hO; intro g wc hO; clear hf; have hf := hO.cells; simp only [BC, CC, Nat.zero_add, Nat.reduceAdd, and_true] at hf))
  refine (HRP.out _ ⟨hO.wd 1 rfl, hO.wd 0 rfl⟩).mono ?_
  rintro e w2 ⟨A2, l2, c2, B2, k2, d2, rfl, hW1, hW2, hE1⟩
  have hO := ((hO.ext hE1).add hW1).add hW2
  clear hW1 hW2 hE1
  clear hf
  have hf := hO.cells
  simp only [BC, CC, Nat.zero_add, Nat.reduceAdd, and_true] at hf
  go_wp2_with ((with_reducible refine at_store (T := 55) ?_); refine own_store (T := 55) hO 0 rfl rfl rfl size_endh rfl rfl rfl ?_; clear hO; intro wd hO; simp only [List.set_cons_zero, List.set_cons_succ, spl, List.take_succ_cons, List.take_zero, List.nil_append, List.cons_append, List.length_cons, List.length_nil, List.drop_succ_cons, List.drop_zero, List.drop_nil, Nat.reduceAdd, Nat.zero_add, List.append_nil] at hO; clear hf; have hf := hO.cells; simp only [BC, CC, Nat.zero_add, Nat.reduceAdd, and_true] at hf)
  exact own_ret hO 0 rfl rfl rfl agg_endi size_endh rfl ⟨_, _, _, _, _, _, rfl, ⟨hO.wd 1 rfl, hO.wd 0 rfl⟩, hO.toExt⟩

set_option maxHeartbeats 8000000 in
theorem powers7_n (i1 : Int) (s1 : Bool) (A1 : Option Addr) (l1 c1 : Nat) (B1 : Option Addr) (k1 d1 N1 D1 : Nat) (i2 : Int) (s2 : Bool) (A2 : Option Addr) (l2 c2 : Nat) (B2 : Option Addr) (k2 d2 N2 D2 : Nat) (n : Int) (w : World) (h1 : RatAt w A1 l1 c1 B1 k1 d1 N1 D1) (h2 : RatAt w A2 l2 c2 B2 k2 d2 N2 D2) :
    Calls Tryz.prog 32 #[.agg #[.bool true, .int .i64 i1, .bool s1, .slice A1 l1 c1, .slice B1 k1 d1, .int .i64 i2, .bool s2, .slice A2 l2 c2, .slice B2 k2 d2], .int .i64 n] w (RetSet true i1 s1 N1 D1 i2 s2 N2 D2 w) := by
  have hO := ((((Own.start w).add h1.1).add h1.2).add h2.1).add h2.2
  have hf : True := trivial
  clear h1 h2
  go_enter Tryz.func32, Tryz.ntmps32
  go_wp2_with (first | ((with_reducible refine at_box ?_); refine own_box (cs := [.bool true, .int .i64 i1, .bool s1, .slice A1 l1 c1, .slice B1 k1 d1, .int .i64 i2, .bool s2, .slice A2 l2 c2, .slice B2 k2 d2]) hO rfl rfl ?_; clear hO; intro ga wa hO; clear hf; have hf := hO.cells; simp only [BC, CC, Nat.zero_add, Nat.reduceAdd, and_true] at hf) | ((with_reducible refine at_alloc ?_); refine own_alloc hO zero_seth rfl rfl ?_; clear hO; intro g wc hO; clear hf; have hf := hO.cells; simp only [BC, CC, Nat.zero_add, Nat.reduceAdd, and_true] at hf) | ((with_reducible refine at_store (T := 57) ?_); refine own_store (T := 57) hO 0 rfl rfl rfl size_seth rfl rfl rfl ?_; clear hO; intro w5 hO; simp only [List.set_cons_zero, List.set_cons_succ, spl, List.take_succ_cons, List.take_zero, List.nil_append, List.cons_append, List.length_cons, List.length_nil, List.drop_succ_cons, List.drop_zero, List.drop_nil, Nat.reduceAdd, Nat.zero_add, List.append_nil] at hO; clear hf; have hf := hO.cells; simp only [BC, CC, Nat.zero_add, Nat.reduceAdd, and_true] at hf))
  exact own_ret hO 0 rfl rfl rfl agg_seti size_seth rfl ⟨_, _, _, _, _, _, _, _, _, _, _, _, rfl, ⟨hO.wd 3 rfl, hO.wd 2 rfl⟩, ⟨hO.wd 1 rfl, hO.wd 0 rfl⟩, hO.toExt⟩

set_option maxHeartbeats 8000000 in
theorem powers7_0 (i1 : Int) (s1 : Bool) (A1 : Option Addr) (l1 c1 : Nat) (B1 : Option Addr) (k1 d1 N1 D1 : Nat) (i2 : Int) (s2 : Bool) (A2 : Option Addr) (l2 c2 : Nat) (B2 : Option Addr) (k2 d2 N2 D2 : Nat) (n : Int) (N3 D3 : Nat) (w : World) (h1 : RatAt w A1 l1 c1 B1 k1 d1 N1 D1) (h2 : RatAt w A2 l2 c2 B2 k2 d2 N2 D2) (h0 : (n == 0) = true) (HI : Hid (∀ w, Calls Tryz.prog 19 #[.int .i64 1] w (RetR false N3 D3 w))) :
    Calls Tryz.prog 32 #[.agg #[.bool false, .int .i64 i1, .bool s1, .slice A1 l1 c1, .slice B1 k1 d1, .int .i64 i2, .bool s2, .slice A2 l2 c2, .slice B2 k2 d2], .int .i64 n] w (RetSet false 0 false N3 D3 0 false N3 D3 w) := by
  have hO := ((((Own.start w).add h1.1).add h1.2).add h2.1).add h2.2
  have hf : True := trivial
  clear h1 h2
  go_enter Tryz.func32, Tryz.ntmps32
  go_wp2_with (first | ((with_reducible refine at_box ?_); refine own_box (cs := [.bool false, .int .i64 i1, .bool s1, .slice A1 l1 c1, .slice B1 k1 d1, .int .i64 i2, .bool s2, .slice A2 l2 c2, .slice B2 k2 d2]) hO rfl rfl ?_; clear hO; intro ga wa hO; clear hf; have hf := hO.cells; simp only [BC, CC, Nat.zero_add, Nat.reduceAdd, and_true] at hf) | ((with_reducible refine at_alloc ?_); refine own_alloc hO zero_seth rfl rfl ?_; clear hO; intro g wc hO; clear hf; have hf := hO.cells; simp only [BC, CC, Nat.zero_add, Nat.reduceAdd, and_true] at hf))
  refine (HI.out _).mono ?_
  rintro e w2 ⟨A3, l3, c3, B3, k3, d3, rfl, hW1, hW2, hE1⟩
  have hO := ((hO.ext hE1).add hW1).add hW2
  clear hW1 hW2 hE1
  clear hf
  have hf := hO.cells
  simp only [BC, CC, Nat.zero_add, Nat.reduceAdd, and_true] at hf
  go_wp2_with fail
  refine (single6_w _ _ _ _ _ _ _ _ _ _ ⟨hO.wd 1 rfl, hO.wd 0 rfl⟩).mono ?_
  rintro e w9 ⟨A4, l4, c4, B4, k4, d4, A5, l5, c5, B5, k5, d5, rfl, ⟨hW1, hW2⟩, ⟨hW3, hW4⟩, hE1⟩
  have hO := ((((hO.ext hE1).add hW1).add hW2).add hW3).add hW4
  clear hW1 hW2 hW3 hW4 hE1
  clear hf
  have hf := hO.cells
  simp only [BC, CC, Nat.zero_add, Nat.reduceAdd, and_true] at hf
  go_wp2_with ((with_reducible refine at_store (T := 57) ?_); refine own_store (T := 57) hO 0 rfl rfl rfl size_seth rfl rfl rfl ?_; clear hO; intro w5 hO; simp only [List.set_cons_zero, List.set_cons_succ, spl, List.take_succ_cons, List.take_zero, List.nil_append, List.cons_append, List.length_cons, List.length_nil, List.drop_succ_cons, List.drop_zero, List.drop_nil, Nat.reduceAdd, Nat.zero_add, List.append_nil] at hO; clear hf; have hf := hO.cells; simp only [BC, CC, Nat.zero_add, Nat.reduceAdd, and_true] at hf)
  exact own_ret hO 0 rfl rfl rfl agg_seti size_seth rfl ⟨_, _, _, _, _, _, _, _, _, _, _, _, rfl, ⟨hO.wd 3 rfl, hO.wd 2 rfl⟩, ⟨hO.wd 1 rfl, hO.wd 0 rfl⟩, hO.toExt⟩

set_option maxHeartbeats 8000000 in
theorem powers7_op (i1 : Int) (s1 : Bool) (A1 : Option Addr) (l1 c1 : Nat) (B1 : Option Addr) (k1 d1 N1 D1 : Nat) (i2 : Int) (s2 : Bool) (A2 : Option Addr) (l2 c2 : Nat) (B2 : Option Addr) (k2 d2 N2 D2 : Nat) (i5 : Int) (s5 : Bool) (N5 D5 : Nat) (i6 : Int) (s6 : Bool) (N6 D6 : Nat) (m : Int) (w : World) (h1 : RatAt w A1 l1 c1 B1 k1 d1 N1 D1) (h2 : RatAt w A2 l2 c2 B2 k2 d2 N2 D2) (h0 : (m == 0) = false) (hs : decide (m < 0) = false) (he : (m.tmod 2 == 0) = false) (HP1 : Hid (∀ (A1 : Option Addr) (l1 c1 : Nat) (B1 : Option Addr) (k1 d1 : Nat) (w : World), RatAt w A1 l1 c1 B1 k1 d1 N1 D1 → Calls Tryz.prog 64 #[.agg #[.int .i64 i1, .bool s1, .slice A1 l1 c1, .slice B1 k1 d1], .int .i64 m] w (RetEnd i5 s5 N5 D5 w))) (HP2 : Hid (∀ (A2 : Option Addr) (l2 c2 : Nat) (B2 : Option Addr) (k2 d2 : Nat) (w : World), RatAt w A2 l2 c2 B2 k2 d2 N2 D2 → Calls Tryz.prog 64 #[.agg #[.int .i64 i2, .bool s2, .slice A2 l2 c2, .slice B2 k2 d2], .int .i64 m] w (RetEnd i6 s6 N6 D6 w))) :
    Calls Tryz.prog 32 #[.agg #[.bool false, .int .i64 i1, .bool s1, .slice A1 l1 c1, .slice B1 k1 d1, .int .i64 i2, .bool s2, .slice A2 l2 c2, .slice B2 k2 d2], .int .i64 m] w (RetSet false i5 s5 N5 D5 i6 s6 N6 D6 w) := by
  have hO := ((((Own.start w).add h1.1).add h1.2).add h2.1).add h2.2
  have hf : True := trivial
  clear h1 h2
  go_enter Tryz.func32, Tryz.ntmps32
  go_upto_region 10 with (first | ((with_reducible refine at_box ?_); refine own_box (cs := [.bool false, .int .i64 i1, .bool s1, .slice A1 l1 c1, .slice B1 k1 d1, .int .i64 i2, .bool s2, .slice A2 l2 c2, .slice B2 k2 d2]) hO rfl rfl ?_; clear hO; intro ga wa hO; clear hf; have hf := hO.cells; simp only [BC, CC, Nat.zero_add, Nat.reduceAdd, and_true] at hf) | ((with_reducible refine at_alloc ?_); refine own_alloc hO zero_seth rfl rfl ?_; clear hO; intro g wc hO; clear hf; have hf := hO.cells; simp only [BC, CC, Nat.zero_add, Nat.reduceAdd, and_true] at hf))
  obtain ⟨S, hS⟩ : ∃ S : World → Prop, S = Own w [⟨g, 57, [.bool false, .int .i64 0, .bool false, .slice none 0 0, .slice none 0 0, .int .i64 0, .bool false, .slice none 0 0, .slice none 0 0]⟩, ⟨ga, 57, [.bool false, .int .i64 i1, .bool s1, .slice A1 l1 c1, .slice B1 k1 d1, .int .i64 i2, .bool s2, .slice A2 l2 c2, .slice B2 k2 d2]⟩] [⟨B2, k2, d2, nd D2⟩, ⟨A2, l2, c2, nd N2⟩, ⟨B1, k1, d1, nd D1⟩, ⟨A1, l1, c1, nd N1⟩] := ⟨_, rfl⟩
  have hSE : ∀ w w', S w → Ext w w' → S w' := fun w w' h1 h2 => by rw [hS] at h1 ⊢; exact h1.ext h2
  have hS1 : S wc.drew := by rw [hS]; exact hO.ext (Ext.refl wc).drew
  have HS := Lib.hid hS
  clear hS hO hf
  obtain ⟨sp, hsp⟩ : ∃ sp : Nat → Sp, sp = ofList [det (.pointer (some ⟨ga, 1, none⟩)), det (.agg #[.int .i64 i1, .bool s1, .slice A1 l1 c1, .slice B1 k1 d1]), det (.int .i64 m), anyOf (fun v wz => ∃ A l c B k d, v = .agg #[.int .i64 i5, .bool s5, .slice A l c, .slice B k d] ∧ RatAt wz A l c B k d N5 D5), det (.pointer (some ⟨ga, 5, none⟩)), det (.agg #[.int .i64 i2, .bool s2, .slice A2 l2 c2, .slice B2 k2 d2]), det (.int .i64 m), anyOf (fun v wz => ∃ A l c B k d, v = .agg #[.int .i64 i6, .bool s6, .slice A l c, .slice B k d] ∧ RatAt wz A l c B k d N6 D6), anyOf (fun v wz => ∃ A l c B k d A' l' c' B' k' d', v = .agg #[.bool false, .int .i64 i5, .bool s5, .slice A l c, .slice B k d, .int .i64 i6, .bool s6, .slice A' l' c', .slice B' k' d'] ∧ RatAt wz A l c B k d N5 D5 ∧ RatAt wz A' l' c' B' k' d' N6 D6), anyOf (fun v wz => ∃ gn : Nat, v = .pointer (some ⟨gn, 0, none⟩) ∧ Blk wz gn 57 (([.bool false, .int .i64 0, .bool false, .slice none 0 0, .slice none 0 0, .int .i64 0, .bool false, .slice none 0 0, .slice none 0 0] : List Value)).toArray ∧ w.heap.size ≤ gn ∧ g < gn ∧ ga < gn)] := ⟨_, rfl⟩
  have HSP := Lib.hid hsp
  clear hsp
  refine wp_region_loose 10 S sp (by kernel_rfl) (by kernel_rfl) hS1 hSE ?_
  simp only [List.take_succ_cons, List.take_zero, List.drop_succ_cons, List.drop_zero]
  refine wpX_step (fun K hK => ?_)
  go_simp
  refine StepY.det (by rw [HSP.out]; rfl) ?_ ?_
  · intro wz hz hF
    clear hz hF
    go_simp
    exact ⟨rfl, Ext.refl _⟩
  refine hK _ _ ?_
  clear hK K
  refine wpX_step (fun K hK => ?_)
  go_simp
  refine StepY.det (by rw [HSP.out]; rfl) ?_ ?_
  · intro wz hz hF
    rw [HS.out] at hz
    have hf := hz.cells
    simp only [BC, CC, Nat.zero_add, Nat.reduceAdd, and_true] at hf
    clear hz hF
    go_simp
    exact ⟨rfl, Ext.refl _⟩
  refine hK _ _ ?_
  clear hK K
  refine wpX_step (fun K hK => ?_)
  go_simp
  refine StepY.det (by rw [HSP.out]; rfl) ?_ ?_
  · intro wz hz hF
    clear hz hF
    go_simp
    exact ⟨rfl, Ext.refl _⟩
  refine hK _ _ ?_
  clear hK K
  refine wpX_step (fun K hK => ?_)
  go_simp
  refine StepY.any (by rw [HSP.out]; rfl) ?_ ?_
  · intro wz hz hF
    rw [HS.out] at hz
    have hR : RatAt wz _ _ _ _ _ _ _ _ := ⟨hz.wd 3 rfl, hz.wd 2 rfl⟩
    clear hz hF
    go_simp
    refine (HP1.out _ _ _ _ _ _ _ hR).mono ?_
    rintro e w2 ⟨A9, n9, c9, A8, n8, c8, rfl, hW1, hE1⟩
    exact ⟨_, rfl, ⟨A9, n9, c9, A8, n8, c8, rfl, hW1⟩, hE1⟩
  intro v1
  refine hK _ _ ?_
  clear hK K
  refine wpX_step (fun K hK => ?_)
  go_simp
  refine StepY.det (by rw [HSP.out]; rfl) ?_ ?_
  · intro wz hz hF
    clear hz hF
    go_simp
    exact ⟨rfl, Ext.refl _⟩
  refine hK _ _ ?_
  clear hK K
  refine wpX_step (fun K hK => ?_)
  go_simp
  refine StepY.det (by rw [HSP.out]; rfl) ?_ ?_
  · intro wz hz hF
    rw [HS.out] at hz
    have hf := hz.cells
    simp only [BC, CC, Nat.zero_add, Nat.reduceAdd, and_true] at hf
    clear hz hF
    go_simp
    exact ⟨rfl, Ext.refl _⟩
  refine hK _ _ ?_
  clear hK K
  refine wpX_step (fun K hK => ?_)
  go_simp
  refine StepY.det (by rw [HSP.out]; rfl) ?_ ?_
  · intro wz hz hF
    clear hz hF
    go_simp
    exact ⟨rfl, Ext.refl _⟩
  refine hK _ _ ?_
  clear hK K
  refine wpX_step (fun K hK => ?_)
  go_simp
  refine StepY.any (by rw [HSP.out]; rfl) ?_ ?_
  · intro wz hz hF
    rw [HS.out] at hz
    have hR : RatAt wz _ _ _ _ _ _ _ _ := ⟨hz.wd 1 rfl, hz.wd 0 rfl⟩
    clear hz hF
    go_simp
    refine (HP2.out _ _ _ _ _ _ _ hR).mono ?_
    rintro e w2 ⟨A9, n9, c9, A8, n8, c8, rfl, hW1, hE1⟩
    exact ⟨_, rfl, ⟨A9, n9, c9, A8, n8, c8, rfl, hW1⟩, hE1⟩
  intro v2
  refine hK _ _ ?_
  clear hK K
  refine wpX_step (fun K hK => ?_)
  go_simp
  refine StepY.any (by rw [HSP.out]; rfl) ?_ ?_
  · intro wz hz hF
    obtain ⟨wa', ea, A5', n5, c5', A6', n6, c6', hv1, hw1⟩ := hF.any 3 (by kernel_rfl) (by rw [HSP.out]; rfl)
    obtain ⟨wb', eb, A7', n7, c7', A8', n8, c8', hv2, hw2⟩ := hF.any 7 (by kernel_rfl) (by rw [HSP.out]; rfl)
    clear hz hF
    simp only [asFun, List.nil_append, List.cons_append, List.getD_cons_succ, List.getD_cons_zero] at hv1 hv2
    subst hv1 hv2
    go_simp
    exact ⟨⟨A5', n5, c5', A6', n6, c6', A7', n7, c7', A8', n8, c8', rfl, hw1.ext ea, hw2.ext eb⟩, Ext.refl _⟩
  intro v3
  refine hK _ _ ?_
  clear hK K
  refine wpX_step (fun K hK => ?_)
  go_simp
  refine StepY.any (by rw [HSP.out]; rfl) ?_ ?_
  · intro wz hz hF
    rw [HS.out] at hz
    have hb0 := (hz.blk 0 rfl).lt
    have hb1 := (hz.blk 1 rfl).lt
    have hb2 := hz.toExt.size
    clear hz hF
    go_simp
    exact ⟨⟨_, rfl, Blk.new wz _ _, hb2, hb0, hb1⟩, (Ext.refl _).alloc _⟩
  intro v4
  refine hK _ _ ?_
  clear hK K
  refine wpX_nil ?_
  intro wq hz hF
  obtain ⟨wa', ea, A5', n5, c5', A6', n6, c6', A7', n7, c7', A8', n8, c8', hv1, hw1, hw2⟩ := fact_any (hF 8 (by omega)) (by rw [HSP.out]; rfl)
  obtain ⟨wb', eb, gn, hv2, hb, hg0, hg1, hg2⟩ := fact_any (hF 9 (by omega)) (by rw [HSP.out]; rfl)
  clear hF
  simp only [asFun, List.nil_append, List.cons_append, List.getD_cons_succ, List.getD_cons_zero] at hv1 hv2
  subst hv1 hv2
  rw [HS.out] at hz
  have hO := hz
  clear hz HS HSP
  have hf := hO.cells
  simp only [BC, CC, Nat.zero_add, Nat.reduceAdd, and_true] at hf
  have hw1 := hw1.ext ea
  have hw2 := hw2.ext ea
  have hO := (((hO.add hw1.1).add hw1.2).add hw2.1).add hw2.2
  have hO := hO.box (hb.ext eb) hg0 rfl (by
    intro b hb'
    simp only [List.mem_cons, List.not_mem_nil, or_false] at hb'
    rcases hb' with rfl | rfl
    · exact Nat.ne_of_lt hg1
    · exact Nat.ne_of_lt hg2)
  clear hw1 hw2 ea hf hb eb hg0 hg1 hg2
  have hf := hO.cells
  simp only [BC, CC, Nat.zero_add, Nat.reduceAdd, and_true] at hf
  go_wp2_with (first | ((with_reducible refine at_store (T := 57) ?_); refine own_store (T := 57) hO 0 rfl rfl rfl size_seth rfl rfl rfl ?_; clear hO; intro w6 hO; simp only [List.set_cons_zero, List.set_cons_succ, spl, List.take_succ_cons, List.take_zero, List.nil_append, List.cons_append, List.length_cons, List.length_nil, List.drop_succ_cons, List.drop_zero, List.drop_nil, Nat.reduceAdd, Nat.zero_add, List.append_nil] at hO; clear hf; have hf := hO.cells; simp only [BC, CC, Nat.zero_add, Nat.reduceAdd, and_true] at hf) | ((with_reducible refine at_store (T := 57) ?_); refine own_store (T := 57) hO 1 rfl rfl rfl size_seth rfl rfl rfl ?_; clear hO; intro w7 hO; simp only [List.set_cons_zero, List.set_cons_succ, spl, List.take_succ_cons, List.take_zero, List.nil_append, List.cons_append, List.length_cons, List.length_nil, List.drop_succ_cons, List.drop_zero, List.drop_nil, Nat.reduceAdd, Nat.zero_add, List.append_nil] at hO; clear hf; have hf := hO.cells; simp only [BC, CC, Nat.zero_add, Nat.reduceAdd, and_true] at hf))
  exact own_ret hO 1 rfl rfl rfl agg_seti size_seth rfl ⟨_, _, _, _, _, _, _, _, _, _, _, _, rfl, ⟨hO.wd 3 rfl, hO.wd 2 rfl⟩, ⟨hO.wd 1 rfl, hO.wd 0 rfl⟩, hO.toExt⟩

set_option maxHeartbeats 8000000 in
theorem powers7_on (i1 : Int) (s1 : Bool) (A1 : Option Addr) (l1 c1 : Nat) (B1 : Option Addr) (k1 d1 N1 D1 : Nat) (i2 : Int) (s2 : Bool) (A2 : Option Addr) (l2 c2 : Nat) (B2 : Option Addr) (k2 d2 N2 D2 : Nat) (i5 : Int) (s5 : Bool) (N5 D5 : Nat) (i6 : Int) (s6 : Bool) (N6 D6 : Nat) (nR : Bool) (i7 : Int) (s7 : Bool) (N7 D7 : Nat) (i8 : Int) (s8 : Bool) (N8 D8 : Nat) (n m : Int) (w : World) (h1 : RatAt w A1 l1 c1 B1 k1 d1 N1 D1) (h2 : RatAt w A2 l2 c2 B2 k2 d2 N2 D2) (h0 : (n == 0) = false) (hs : decide (n < 0) = true) (hm : IntKind.i64.wrap (-n) = m) (he : (m.tmod 2 == 0) = false) (HP1 : Hid (∀ (A1 : Option Addr) (l1 c1 : Nat) (B1 : Option Addr) (k1 d1 : Nat) (w : World), RatAt w A1 l1 c1 B1 k1 d1 N1 D1 → Calls Tryz.prog 64 #[.agg #[.int .i64 i1, .bool s1, .slice A1 l1 c1, .slice B1 k1 d1], .int .i64 m] w (RetEnd i5 s5 N5 D5 w))) (HP2 : Hid (∀ (A2 : Option Addr) (l2 c2 : Nat) (B2 : Option Addr) (k2 d2 : Nat) (w : World), RatAt w A2 l2 c2 B2 k2 d2 N2 D2 → Calls Tryz.prog 64 #[.agg #[.int .i64 i2, .bool s2, .slice A2 l2 c2, .slice B2 k2 d2], .int .i64 m] w (RetEnd i6 s6 N6 D6 w))) (HIN : Hid (∀ (A5 : Option Addr) (l5 c5 : Nat) (B5 : Option Addr) (k5 d5 : Nat) (A6 : Option Addr) (l6 c6 : Nat) (B6 : Option Addr) (k6 d6 : Nat) (w : World), RatAt w A5 l5 c5 B5 k5 d5 N5 D5 → RatAt w A6 l6 c6 B6 k6 d6 N6 D6 → Calls Tryz.prog 65 #[.agg #[.bool false, .int .i64 i5, .bool s5, .slice A5 l5 c5, .slice B5 k5 d5, .int .i64 i6, .bool s6, .slice A6 l6 c6, .slice B6 k6 d6]] w (RetSet nR i7 s7 N7 D7 i8 s8 N8 D8 w))) :
    Calls Tryz.prog 32 #[.agg #[.bool false, .int .i64 i1, .bool s1, .slice A1 l1 c1, .slice B1 k1 d1, .int .i64 i2, .bool s2, .slice A2 l2 c2, .slice B2 k2 d2], .int .i64 n] w (RetSet nR i7 s7 N7 D7 i8 s8 N8 D8 w) := by
  have hO := ((((Own.start w).add h1.1).add h1.2).add h2.1).add h2.2
  have hf : True := trivial
  clear h1 h2
  go_enter Tryz.func32, Tryz.ntmps32
  go_upto_region 10 with (first | ((with_reducible refine at_box ?_); refine own_box (cs := [.bool false, .int .i64 i1, .bool s1, .slice A1 l1 c1, .slice B1 k1 d1, .int .i64 i2, .bool s2, .slice A2 l2 c2, .slice B2 k2 d2]) hO rfl rfl ?_; clear hO; intro ga wa hO; clear hf; have hf := hO.cells; simp only [BC, CC, Nat.zero_add, Nat.reduceAdd, and_true] at hf) | ((with_reducible refine at_alloc ?_); refine own_alloc hO zero_seth rfl rfl ?_; clear hO; intro g wc hO; clear hf; have hf := hO.cells; simp only [BC, CC, Nat.zero_add, Nat.reduceAdd, and_true] at hf))
  obtain ⟨S, hS⟩ : ∃ S : World → Prop, S = Own w [⟨g, 57, [.bool false, .int .i64 0, .bool false, .slice none 0 0, .slice none 0 0, .int .i64 0, .bool false, .slice none 0 0, .slice none 0 0]⟩, ⟨ga, 57, [.bool false, .int .i64 i1, .bool s1, .slice A1 l1 c1, .slice B1 k1 d1, .int .i64 i2, .bool s2, .slice A2 l2 c2, .slice B2 k2 d2]⟩] [⟨B2, k2, d2, nd D2⟩, ⟨A2, l2, c2, nd N2⟩, ⟨B1, k1, d1, nd D1⟩, ⟨A1, l1, c1, nd N1⟩] := ⟨_, rfl⟩
  have hSE : ∀ w w', S w → Ext w w' → S w' := fun w w' h1 h2 => by rw [hS] at h1 ⊢; exact h1.ext h2
  have hS1 : S wc.drew := by rw [hS]; exact hO.ext (Ext.refl wc).drew
  have HS := Lib.hid hS
  clear hS hO hf
  obtain ⟨sp, hsp⟩ : ∃ sp : Nat → Sp, sp = ofList [det (.pointer (some ⟨ga, 1, none⟩)), det (.agg #[.int .i64 i1, .bool s1, .slice A1 l1 c1, .slice B1 k1 d1]), det (.int .i64 m), anyOf (fun v wz => ∃ A l c B k d, v = .agg #[.int .i64 i5, .bool s5, .slice A l c, .slice B k d] ∧ RatAt wz A l c B k d N5 D5), det (.pointer (some ⟨ga, 5, none⟩)), det (.agg #[.int .i64 i2, .bool s2, .slice A2 l2 c2, .slice B2 k2 d2]), det (.int .i64 m), anyOf (fun v wz => ∃ A l c B k d, v = .agg #[.int .i64 i6, .bool s6, .slice A l c, .slice B k d] ∧ RatAt wz A l c B k d N6 D6), anyOf (fun v wz => ∃ A l c B k d A' l' c' B' k' d', v = .agg #[.bool false, .int .i64 i5, .bool s5, .slice A l c, .slice B k d, .int .i64 i6, .bool s6, .slice A' l' c', .slice B' k' d'] ∧ RatAt wz A l c B k d N5 D5 ∧ RatAt wz A' l' c' B' k' d' N6 D6), anyOf (fun v wz => ∃ gn : Nat, v = .pointer (some ⟨gn, 0, none⟩) ∧ Blk wz gn 57 (([.bool false, .int .i64 0, .bool false, .slice none 0 0, .slice none 0 0, .int .i64 0, .bool false, .slice none 0 0, .slice none 0 0] : List Value)).toArray ∧ w.heap.size ≤ gn ∧ g < gn ∧ ga < gn)] := ⟨_, rfl⟩
  have HSP := Lib.hid hsp
  clear hsp
  refine wp_region_loose 10 S sp (by kernel_rfl) (by kernel_rfl) hS1 hSE ?_
  simp only [List.take_succ_cons, List.take_zero, List.drop_succ_cons, List.drop_zero]
  refine wpX_step (fun K hK => ?_)
  go_simp
  refine StepY.det (by rw [HSP.out]; rfl) ?_ ?_
  · intro wz hz hF
    clear hz hF
    go_simp
    exact ⟨rfl, Ext.refl _⟩
  refine hK _ _ ?_
  clear hK K
  refine wpX_step (fun K hK => ?_)
  go_simp
  refine StepY.det (by rw [HSP.out]; rfl) ?_ ?_
  · intro wz hz hF
    rw [HS.out] at hz
    have hf := hz.cells
    simp only [BC, CC, Nat.zero_add, Nat.reduceAdd, and_true] at hf
    clear hz hF
    go_simp
    exact ⟨rfl, Ext.refl _⟩
  refine hK _ _ ?_
  clear hK K
  refine wpX_step (fun K hK => ?_)
  go_simp
  refine StepY.det (by rw [HSP.out]; rfl) ?_ ?_
  · intro wz hz hF
    clear hz hF
    go_simp
    exact ⟨rfl, Ext.refl _⟩
  refine hK _ _ ?_
  clear hK K
  refine wpX_step (fun K hK => ?_)
  go_simp
  refine StepY.any (by rw [HSP.out]; rfl) ?_ ?_
  · intro wz hz hF
    rw [HS.out] at hz
    have hR : RatAt wz _ _ _ _ _ _ _ _ := ⟨hz.wd 3 rfl, hz.wd 2 rfl⟩
    clear hz hF
    go_simp
    refine (HP1.out _ _ _ _ _ _ _ hR).mono ?_
    rintro e w2 ⟨A9, n9, c9, A8, n8, c8, rfl, hW1, hE1⟩
    exact ⟨_, rfl, ⟨A9, n9, c9, A8, n8, c8, rfl, hW1⟩, hE1⟩
  intro v1
  refine hK _ _ ?_
  clear hK K
  refine wpX_step (fun K hK => ?_)
  go_simp
  refine StepY.det (by rw [HSP.out]; rfl) ?_ ?_
  · intro wz hz hF
    clear hz hF
    go_simp
    exact ⟨rfl, Ext.refl _⟩
  refine hK _ _ ?_
  clear hK K
  refine wpX_step (fun K hK => ?_)
  go_simp
  refine StepY.det (by rw [HSP.out]; rfl) ?_ ?_
  · intro wz hz hF
    rw [HS.out] at hz
    have hf := hz.cells
    simp only [BC, CC, Nat.zero_add, Nat.reduceAdd, and_true] at hf
    clear hz hF
    go_simp
    exact ⟨rfl, Ext.refl _⟩
  refine hK _ _ ?_
  clear hK K
  refine wpX_step (fun K hK => ?_)
  go_simp
  refine StepY.det (by rw [HSP.out]; rfl) ?_ ?_
  · intro wz hz hF
    clear hz hF
    go_simp
    exact ⟨rfl, Ext.refl _⟩
  refine hK _ _ ?_
  clear hK K
  refine wpX_step (fun K hK => ?_)
  go_simp
  refine StepY.any (by rw [HSP.out]; rfl) ?_ ?_
  · intro wz hz hF
    rw [HS.out] at hz
    have hR : RatAt wz _ _ _ _ _ _ _ _ := ⟨hz.wd 1 rfl, hz.wd 0 rfl⟩
    clear hz hF
    go_simp
    refine (HP2.out _ _ _ _ _ _ _ hR).mono ?_
    rintro e w2 ⟨A9, n9, c9, A8, n8, c8, rfl, hW1, hE1⟩
    exact ⟨_, rfl, ⟨A9, n9, c9, A8, n8, c8, rfl, hW1⟩, hE1⟩
  intro v2
  refine hK _ _ ?_
  clear hK K
  refine wpX_step (fun K hK => ?_)
  go_simp
  refine StepY.any (by rw [HSP.out]; rfl) ?_ ?_
  · intro wz hz hF
    obtain ⟨wa', ea, A5', n5, c5', A6', n6, c6', hv1, hw1⟩ := hF.any 3 (by kernel_rfl) (by rw [HSP.out]; rfl)
    obtain ⟨wb', eb, A7', n7, c7', A8', n8, c8', hv2, hw2⟩ := hF.any 7 (by kernel_rfl) (by rw [HSP.out]; rfl)
    clear hz hF
    simp only [asFun, List.nil_append, List.cons_append, List.getD_cons_succ, List.getD_cons_zero] at hv1 hv2
    subst hv1 hv2
    go_simp
    exact ⟨⟨A5', n5, c5', A6', n6, c6', A7', n7, c7', A8', n8, c8', rfl, hw1.ext ea, hw2.ext eb⟩, Ext.refl _⟩
  intro v3
  refine hK _ _ ?_
  clear hK K
  refine wpX_step (fun K hK => ?_)
  go_simp
  refine StepY.any (by rw [HSP.out]; rfl) ?_ ?_
  · intro wz hz hF
    rw [HS.out] at hz
    have hb0 := (hz.blk 0 rfl).lt
    have hb1 := (hz.blk 1 rfl).lt
    have hb2 := hz.toExt.size
    clear hz hF
    go_simp
    exact ⟨⟨_, rfl, Blk.new wz _ _, hb2, hb0, hb1⟩, (Ext.refl _).alloc _⟩
  intro v4
  refine hK _ _ ?_
  clear hK K
  refine wpX_nil ?_
  intro wq hz hF
  obtain ⟨wa', ea, A5', n5, c5', A6', n6, c6', A7', n7, c7', A8', n8, c8', hv1, hw1, hw2⟩ := fact_any (hF 8 (by omega)) (by rw [HSP.out]; rfl)
  obtain ⟨wb', eb, gn, hv2, hb, hg0, hg1, hg2⟩ := fact_any (hF 9 (by omega)) (by rw [HSP.out]; rfl)
  clear hF
  simp only [asFun, List.nil_append, List.cons_append, List.getD_cons_succ, List.getD_cons_zero] at hv1 hv2
  subst hv1 hv2
  rw [HS.out] at hz
  have hO := hz
  clear hz HS HSP
  have hf := hO.cells
  simp only [BC, CC, Nat.zero_add, Nat.reduceAdd, and_true] at hf
  have hw1 := hw1.ext ea
  have hw2 := hw2.ext ea
  have hO := (((hO.add hw1.1).add hw1.2).add hw2.1).add hw2.2
  have hO := hO.box (hb.ext eb) hg0 rfl (by
    intro b hb'
    simp only [List.mem_cons, List.not_mem_nil, or_false] at hb'
    rcases hb' with rfl | rfl
    · exact Nat.ne_of_lt hg1
    · exact Nat.ne_of_lt hg2)
  clear hw1 hw2 ea hf hb eb hg0 hg1 hg2
  have hf := hO.cells
  simp only [BC, CC, Nat.zero_add, Nat.reduceAdd, and_true] at hf
  go_wp2_with ((with_reducible refine at_store (T := 57) ?_); refine own_store (T := 57) hO 0 rfl rfl rfl size_seth rfl rfl rfl ?_; clear hO; intro w6 hO; simp only [List.set_cons_zero, List.set_cons_succ, spl, List.take_succ_cons, List.take_zero, List.nil_append, List.cons_append, List.length_cons, List.length_nil, List.drop_succ_cons, List.drop_zero, List.drop_nil, Nat.reduceAdd, Nat.zero_add, List.append_nil] at hO; clear hf; have hf := hO.cells; simp only [BC, CC, Nat.zero_add, Nat.reduceAdd, and_true] at hf)
  refine (HIN.out _ _ _ _ _ _ _ _ _ _ _ _ _ ⟨hO.wd 3 rfl, hO.wd 2 rfl⟩ ⟨hO.wd 1 rfl, hO.wd 0 rfl⟩).mono ?_
  rintro e w9 ⟨A3, l3, c3, B3, k3, d3, A4, l4, c4, B4, k4, d4, rfl, ⟨hW1, hW2⟩, ⟨hW3, hW4⟩, hE1⟩
  have hO := ((((hO.ext hE1).add hW1).add hW2).add hW3).add hW4
  clear hW1 hW2 hW3 hW4 hE1
  clear hf
  have hf := hO.cells
  simp only [BC, CC, Nat.zero_add, Nat.reduceAdd, and_true] at hf
  go_wp2_with ((with_reducible refine at_store (T := 57) ?_); refine own_store (T := 57) hO 1 rfl rfl rfl size_seth rfl rfl rfl ?_; clear hO; intro w7 hO; simp only [List.set_cons_zero, List.set_cons_succ, spl, List.take_succ_cons, List.take_zero, List.nil_append, List.cons_append, List.length_cons, List.length_nil, List.drop_succ_cons, List.drop_zero, List.drop_nil, Nat.reduceAdd, Nat.zero_add, List.append_nil] at hO; clear hf; have hf := hO.cells; simp only [BC, CC, Nat.zero_add, Nat.reduceAdd, and_true] at hf)
  exact own_ret hO 1 rfl rfl rfl agg_seti size_seth rfl ⟨_, _, _, _, _, _, _, _, _, _, _, _, rfl, ⟨hO.wd 3 rfl, hO.wd 2 rfl⟩, ⟨hO.wd 1 rfl, hO.wd 0 rfl⟩, hO.toExt⟩

set_option maxHeartbeats 8000000 in
theorem powers7_ep (i1 : Int) (s1 : Bool) (A1 : Option Addr) (l1 c1 : Nat) (B1 : Option Addr) (k1 d1 N1 D1 : Nat) (i2 : Int) (s2 : Bool) (A2 : Option Addr) (l2 c2 : Nat) (B2 : Option Addr) (k2 d2 N2 D2 : Nat) (i3 : Int) (s3 : Bool) (N3 D3 : Nat) (i4 : Int) (s4 : Bool) (N4 D4 : Nat) (i5 : Int) (s5 : Bool) (N5 D5 : Nat) (i6 : Int) (s6 : Bool) (N6 D6 : Nat) (m : Int) (w : World) (h1 : RatAt w A1 l1 c1 B1 k1 d1 N1 D1) (h2 : RatAt w A2 l2 c2 B2 k2 d2 N2 D2) (h0 : (m == 0) = false) (hs : decide (m < 0) = false) (he : (m.tmod 2 == 0) = true) (HSZ : Hid (∀ w, RatAt w A1 l1 c1 B1 k1 d1 N1 D1 → RatAt w A2 l2 c2 B2 k2 d2 N2 D2 → Calls Tryz.prog 63 #[.agg #[.bool false, .int .i64 i1, .bool s1, .slice A1 l1 c1, .slice B1 k1 d1, .int .i64 i2, .bool s2, .slice A2 l2 c2, .slice B2 k2 d2]] w (RetSet false i3 s3 N3 D3 i4 s4 N4 D4 w))) (HP1 : Hid (∀ (A3 : Option Addr) (l3 c3 : Nat) (B3 : Option Addr) (k3 d3 : Nat) (w : World), RatAt w A3 l3 c3 B3 k3 d3 N3 D3 → Calls Tryz.prog 64 #[.agg #[.int .i64 i3, .bool s3, .slice A3 l3 c3, .slice B3 k3 d3], .int .i64 m] w (RetEnd i5 s5 N5 D5 w))) (HP2 : Hid (∀ (A4 : Option Addr) (l4 c4 : Nat) (B4 : Option Addr) (k4 d4 : Nat) (w : World), RatAt w A4 l4 c4 B4 k4 d4 N4 D4 → Calls Tryz.prog 64 #[.agg #[.int .i64 i4, .bool s4, .slice A4 l4 c4, .slice B4 k4 d4], .int .i64 m] w (RetEnd i6 s6 N6 D6 w))) :
    Calls Tryz.prog 32 #[.agg #[.bool false, .int .i64 i1, .bool s1, .slice A1 l1 c1, .slice B1 k1 d1, .int .i64 i2, .bool s2, .slice A2 l2 c2, .slice B2 k2 d2], .int .i64 m] w (RetSet false i5 s5 N5 D5 i6 s6 N6 D6 w) := by
  have hO := ((((Own.start w).add h1.1).add h1.2).add h2.1).add h2.2
  have hf : True := trivial
  clear h1 h2
  go_enter Tryz.func32, Tryz.ntmps32
  go_wp2_with (first | ((with_reducible refine at_box ?_); refine own_box (cs := [.bool false, .int .i64 i1, .bool s1, .slice A1 l1 c1, .slice B1 k1 d1, .int .i64 i2, .bool s2, .slice A2 l2 c2, .slice B2 k2 d2]) hO rfl rfl ?_; clear hO; intro ga wa hO; clear hf; have hf := hO.cells; simp only [BC, CC, Nat.zero_add, Nat.reduceAdd, and_true] at hf) | ((with_reducible refine at_alloc ?_); refine own_alloc hO zero_seth rfl rfl ?_; clear hO; intro g wc hO; clear hf; have hf := hO.cells; simp only [BC, CC, Nat.zero_add, Nat.reduceAdd, and_true] at hf))
  refine (HSZ.out _ ⟨hO.wd 3 rfl, hO.wd 2 rfl⟩ ⟨hO.wd 1 rfl, hO.wd 0 rfl⟩).mono ?_
  rintro e w9 ⟨A3, l3, c3, B3, k3, d3, A4, l4, c4, B4, k4, d4, rfl, ⟨hW1, hW2⟩, ⟨hW3, hW4⟩, hE1⟩
  have hO := ((((hO.ext hE1).add hW1).add hW2).add hW3).add hW4
  clear hW1 hW2 hW3 hW4 hE1
  clear hf
  have hf := hO.cells
  simp only [BC, CC, Nat.zero_add, Nat.reduceAdd, and_true] at hf
  go_upto_region 10 with ((with_reducible refine at_store (T := 57) ?_); refine own_store (T := 57) hO 1 rfl rfl rfl size_seth rfl rfl rfl ?_; clear hO; intro w5 hO; simp only [List.set_cons_zero, List.set_cons_succ, spl, List.take_succ_cons, List.take_zero, List.nil_append, List.cons_append, List.length_cons, List.length_nil, List.drop_succ_cons, List.drop_zero, List.drop_nil, Nat.reduceAdd, Nat.zero_add, List.append_nil] at hO; clear hf; have hf := hO.cells; simp only [BC, CC, Nat.zero_add, Nat.reduceAdd, and_true] at hf)
  obtain ⟨S, hS⟩ : ∃ S : World → Prop, S = Own w [⟨g, 57, [.bool false, .int .i64 0, .bool false, .slice none 0 0, .slice none 0 0, .int .i64 0, .bool false, .slice none 0 0, .slice none 0 0]⟩, ⟨ga, 57, [.bool false, .int .i64 i3, .bool s3, .slice A3 l3 c3, .slice B3 k3 d3, .int .i64 i4, .bool s4, .slice A4 l4 c4, .slice B4 k4 d4]⟩] [⟨B4, k4, d4, nd D4⟩, ⟨A4, l4, c4, nd N4⟩, ⟨B3, k3, d3, nd D3⟩, ⟨A3, l3, c3, nd N3⟩, ⟨B2, k2, d2, nd D2⟩, ⟨A2, l2, c2, nd N2⟩, ⟨B1, k1, d1, nd D1⟩, ⟨A1, l1, c1, nd N1⟩] := ⟨_, rfl⟩
  have hSE : ∀ w w', S w → Ext w w' → S w' := fun w w' h1 h2 => by rw [hS] at h1 ⊢; exact h1.ext h2
  have hS1 : S w5.drew := by rw [hS]; exact hO.ext (Ext.refl w5).drew
  have HS := Lib.hid hS
  clear hS hO hf
  obtain ⟨sp, hsp⟩ : ∃ sp : Nat → Sp, sp = ofList [det (.pointer (some ⟨ga, 1, none⟩)), det (.agg #[.int .i64 i3, .bool s3, .slice A3 l3 c3, .slice B3 k3 d3]), det (.int .i64 m), anyOf (fun v wz => ∃ A l c B k d, v = .agg #[.int .i64 i5, .bool s5, .slice A l c, .slice B k d] ∧ RatAt wz A l c B k d N5 D5), det (.pointer (some ⟨ga, 5, none⟩)), det (.agg #[.int .i64 i4, .bool s4, .slice A4 l4 c4, .slice B4 k4 d4]), det (.int .i64 m), anyOf (fun v wz => ∃ A l c B k d, v = .agg #[.int .i64 i6, .bool s6, .slice A l c, .slice B k d] ∧ RatAt wz A l c B k d N6 D6), anyOf (fun v wz => ∃ A l c B k d A' l' c' B' k' d', v = .agg #[.bool false, .int .i64 i5, .bool s5, .slice A l c, .slice B k d, .int .i64 i6, .bool s6, .slice A' l' c', .slice B' k' d'] ∧ RatAt wz A l c B k d N5 D5 ∧ RatAt wz A' l' c' B' k' d' N6 D6), anyOf (fun v wz => ∃ gn : Nat, v = .pointer (some ⟨gn, 0, none⟩) ∧ Blk wz gn 57 (([.bool false, .int .i64 0, .bool false, .slice none 0 0, .slice none 0 0, .int .i64 0, .bool false, .slice none 0 0, .slice none 0 0] : List Value)).toArray ∧ w.heap.size ≤ gn ∧ g < gn ∧ ga < gn)] := ⟨_, rfl⟩
  have HSP := Lib.hid hsp
  clear hsp
  refine wp_region_loose 10 S sp (by kernel_rfl) (by kernel_rfl) hS1 hSE ?_
  simp only [List.take_succ_cons, List.take_zero, List.drop_succ_cons, List.drop_zero]
  refine wpX_step (fun K hK => ?_)
  go_simp
  refine StepY.det (by rw [HSP.out]; rfl) ?_ ?_
  · intro wz hz hF
    clear hz hF
    go_simp
    exact ⟨rfl, Ext.refl _⟩
  refine hK _ _ ?_
  clear hK K
  refine wpX_step (fun K hK => ?_)
  go_simp
  refine StepY.det (by rw [HSP.out]; rfl) ?_ ?_
  · intro wz hz hF
    rw [HS.out] at hz
    have hf := hz.cells
    simp only [BC, CC, Nat.zero_add, Nat.reduceAdd, and_true] at hf
    clear hz hF
    go_simp
    exact ⟨rfl, Ext.refl _⟩
  refine hK _ _ ?_
  clear hK K
  refine wpX_step (fun K hK => ?_)
  go_simp
  refine StepY.det (by rw [HSP.out]; rfl) ?_ ?_
  · intro wz hz hF
    clear hz hF
    go_simp
    exact ⟨rfl, Ext.refl _⟩
  refine hK _ _ ?_
  clear hK K
  refine wpX_step (fun K hK => ?_)
  go_simp
  refine StepY.any (by rw [HSP.out]; rfl) ?_ ?_
  · intro wz hz hF
    rw [HS.out] at hz
    have hR : RatAt wz _ _ _ _ _ _ _ _ := ⟨hz.wd 3 rfl, hz.wd 2 rfl⟩
    clear hz hF
    go_simp
    refine (HP1.out _ _ _ _ _ _ _ hR).mono ?_
    rintro e w2 ⟨A9, n9, c9, A8, n8, c8, rfl, hW1, hE1⟩
    exact ⟨_, rfl, ⟨A9, n9, c9, A8, n8, c8, rfl, hW1⟩, hE1⟩
  intro v1
  refine hK _ _ ?_
  clear hK K
  refine wpX_step (fun K hK => ?_)
  go_simp
  refine StepY.det (by rw [HSP.out]; rfl) ?_ ?_
  · intro wz hz hF
    clear hz hF
    go_simp
    exact ⟨rfl, Ext.refl _⟩
  refine hK _ _ ?_
  clear hK K
  refine wpX_step (fun K hK => ?_)
  go_simp
  refine StepY.det (by rw [HSP.out]; rfl) ?_ ?_
  · intro wz hz hF
    rw [HS.out] at hz
    have hf := hz.cells
    simp only [BC, CC, Nat.zero_add, Nat.reduceAdd, and_true] at hf
    clear hz hF
    go_simp
    exact ⟨rfl, Ext.refl _⟩
  refine hK _ _ ?_
  clear hK K
  refine wpX_step (fun K hK => ?_)
  go_simp
  refine StepY.det (by rw [HSP.out]; rfl) ?_ ?_
  · intro wz hz hF
    clear hz hF
    go_simp
    exact ⟨rfl, Ext.refl _⟩
  refine hK _ _ ?_
  clear hK K
  refine wpX_step (fun K hK => ?_)
  go_simp
  refine StepY.any (by rw [HSP.out]; rfl) ?_ ?_
  · intro wz hz hF
    rw [HS.out] at hz
    have hR : RatAt wz _ _ _ _ _ _ _ _ := ⟨hz.wd 1 rfl, hz.wd 0 rfl⟩
    clear hz hF
    go_simp
    refine (HP2.out _ _ _ _ _ _ _ hR).mono ?_
    rintro e w2 ⟨A9, n9, c9, A8, n8, c8, rfl, hW1, hE1⟩
    exact ⟨_, rfl, ⟨A9, n9, c9, A8, n8, c8, rfl, hW1⟩, hE1⟩
  intro v2
  refine hK _ _ ?_
  clear hK K
  refine wpX_step (fun K hK => ?_)
  go_simp
  refine StepY.any (by rw [HSP.out]; rfl) ?_ ?_
  · intro wz hz hF
    obtain ⟨wa', ea, A5', n5, c5', A6', n6, c6', hv1, hw1⟩ := hF.any 3 (by kernel_rfl) (by rw [HSP.out]; rfl)
    obtain ⟨wb', eb, A7', n7, c7', A8', n8, c8', hv2, hw2⟩ := hF.any 7 (by kernel_rfl) (by rw [HSP.out]; rfl)
    clear hz hF
    simp only [asFun, List.nil_append, List.cons_append, List.getD_cons_succ, List.getD_cons_zero] at hv1 hv2
    subst hv1 hv2
    go_simp
    exact ⟨⟨A5', n5, c5', A6', n6, c6', A7', n7, c7', A8', n8, c8', rfl, hw1.ext ea, hw2.ext eb⟩, Ext.refl _⟩
  intro v3
  refine hK _ _ ?_
  clear hK K
  refine wpX_step (fun K hK => ?_)
  go_simp
  refine StepY.any (by rw [HSP.out]; rfl) ?_ ?_
  · intro wz hz hF
    rw [HS.out] at hz
    have hb0 := (hz.blk 0 rfl).lt
    have hb1 := (hz.blk 1 rfl).lt
    have hb2 := hz.toExt.size
    clear hz hF
    go_simp
    exact ⟨⟨_, rfl, Blk.new wz _ _, hb2, hb0, hb1⟩, (Ext.refl _).alloc _⟩
  intro v4
  refine hK _ _ ?_
  clear hK K
  refine wpX_nil ?_
  intro wq hz hF
  obtain ⟨wa', ea, A5', n5, c5', A6', n6, c6', A7', n7, c7', A8', n8, c8', hv1, hw1, hw2⟩ := fact_any (hF 8 (by omega)) (by rw [HSP.out]; rfl)
  obtain ⟨wb', eb, gn, hv2, hb, hg0, hg1, hg2⟩ := fact_any (hF 9 (by omega)) (by rw [HSP.out]; rfl)
  clear hF
  simp only [asFun, List.nil_append, List.cons_append, List.getD_cons_succ, List.getD_cons_zero] at hv1 hv2
  subst hv1 hv2
  rw [HS.out] at hz
  have hO := hz
  clear hz HS HSP
  have hf := hO.cells
  simp only [BC, CC, Nat.zero_add, Nat.reduceAdd, and_true] at hf
  have hw1 := hw1.ext ea
  have hw2 := hw2.ext ea
  have hO := (((hO.add hw1.1).add hw1.2).add hw2.1).add hw2.2
  have hO := hO.box (hb.ext eb) hg0 rfl (by
    intro b hb'
    simp only [List.mem_cons, List.not_mem_nil, or_false] at hb'
    rcases hb' with rfl | rfl
    · exact Nat.ne_of_lt hg1
    · exact Nat.ne_of_lt hg2)
  clear hw1 hw2 ea hf hb eb hg0 hg1 hg2
  have hf := hO.cells
  simp only [BC, CC, Nat.zero_add, Nat.reduceAdd, and_true] at hf
  go_wp2_with (first | ((with_reducible refine at_store (T := 57) ?_); refine own_store (T := 57) hO 0 rfl rfl rfl size_seth rfl rfl rfl ?_; clear hO; intro w6 hO; simp only [List.set_cons_zero, List.set_cons_succ, spl, List.take_succ_cons, List.take_zero, List.nil_append, List.cons_append, List.length_cons, List.length_nil, List.drop_succ_cons, List.drop_zero, List.drop_nil, Nat.reduceAdd, Nat.zero_add, List.append_nil] at hO; clear hf; have hf := hO.cells; simp only [BC, CC, Nat.zero_add, Nat.reduceAdd, and_true] at hf) | ((with_reducible refine at_store (T := 57) ?_); refine own_store (T := 57) hO 1 rfl rfl rfl size_seth rfl rfl rfl ?_; clear hO; intro w7 hO; simp only [List.set_cons_zero, List.set_cons_succ, spl, List.take_succ_cons, List.take_zero, List.nil_append, List.cons_append, List.length_cons, List.length_nil, List.drop_succ_cons, List.drop_zero, List.drop_nil, Nat.reduceAdd, Nat.zero_add, List.append_nil] at hO; clear hf; have hf := hO.cells; simp only [BC, CC, Nat.zero_add, Nat.reduceAdd, and_true] at hf))
  exact own_ret hO 1 rfl rfl rfl agg_seti size_seth rfl ⟨_, _, _, _, _, _, _, _, _, _, _, _, rfl, ⟨hO.wd 3 rfl, hO.wd 2 rfl⟩, ⟨hO.wd 1 rfl, hO.wd 0 rfl⟩, hO.toExt⟩

set_option maxHeartbeats 8000000 in
theorem powers7_en (i1 : Int) (s1 : Bool) (A1 : Option Addr) (l1 c1 : Nat) (B1 : Option Addr) (k1 d1 N1 D1 : Nat) (i2 : Int) (s2 : Bool) (A2 : Option Addr) (l2 c2 : Nat) (B2 : Option Addr) (k2 d2 N2 D2 : Nat) (i3 : Int) (s3 : Bool) (N3 D3 : Nat) (i4 : Int) (s4 : Bool) (N4 D4 : Nat) (i5 : Int) (s5 : Bool) (N5 D5 : Nat) (i6 : Int) (s6 : Bool) (N6 D6 : Nat) (nR : Bool) (i7 : Int) (s7 : Bool) (N7 D7 : Nat) (i8 : Int) (s8 : Bool) (N8 D8 : Nat) (n m : Int) (w : World) (h1 : RatAt w A1 l1 c1 B1 k1 d1 N1 D1) (h2 : RatAt w A2 l2 c2 B2 k2 d2 N2 D2) (h0 : (n == 0) = false) (hs : decide (n < 0) = true) (hm : IntKind.i64.wrap (-n) = m) (he : (m.tmod 2 == 0) = true) (HSZ : Hid (∀ w, RatAt w A1 l1 c1 B1 k1 d1 N1 D1 → RatAt w A2 l2 c2 B2 k2 d2 N2 D2 → Calls Tryz.prog 63 #[.agg #[.bool false, .int .i64 i1, .bool s1, .slice A1 l1 c1, .slice B1 k1 d1, .int .i64 i2, .bool s2, .slice A2 l2 c2, .slice B2 k2 d2]] w (RetSet false i3 s3 N3 D3 i4 s4 N4 D4 w))) (HP1 : Hid (∀ (A3 : Option Addr) (l3 c3 : Nat) (B3 : Option Addr) (k3 d3 : Nat) (w : World), RatAt w A3 l3 c3 B3 k3 d3 N3 D3 → Calls Tryz.prog 64 #[.agg #[.int .i64 i3, .bool s3, .slice A3 l3 c3, .slice B3 k3 d3], .int .i64 m] w (RetEnd i5 s5 N5 D5 w))) (HP2 : Hid (∀ (A4 : Option Addr) (l4 c4 : Nat) (B4 : Option Addr) (k4 d4 : Nat) (w : World), RatAt w A4 l4 c4 B4 k4 d4 N4 D4 → Calls Tryz.prog 64 #[.agg #[.int .i64 i4, .bool s4, .slice A4 l4 c4, .slice B4 k4 d4], .int .i64 m] w (RetEnd i6 s6 N6 D6 w))) (HIN : Hid (∀ (A5 : Option Addr) (l5 c5 : Nat) (B5 : Option Addr) (k5 d5 : Nat) (A6 : Option Addr) (l6 c6 : Nat) (B6 : Option Addr) (k6 d6 : Nat) (w : World), RatAt w A5 l5 c5 B5 k5 d5 N5 D5 → RatAt w A6 l6 c6 B6 k6 d6 N6 D6 → Calls Tryz.prog 65 #[.agg #[.bool false, .int .i64 i5, .bool s5, .slice A5 l5 c5, .slice B5 k5 d5, .int .i64 i6, .bool s6, .slice A6 l6 c6, .slice B6 k6 d6]] w (RetSet nR i7 s7 N7 D7 i8 s8 N8 D8 w))) :
    Calls Tryz.prog 32 #[.agg #[.bool false, .int .i64 i1, .bool s1, .slice A1 l1 c1, .slice B1 k1 d1, .int .i64 i2, .bool s2, .slice A2 l2 c2, .slice B2 k2 d2], .int .i64 n] w (RetSet nR i7 s7 N7 D7 i8 s8 N8 D8 w) := by
  have hO := ((((Own.start w).add h1.1).add h1.2).add h2.1).add h2.2
  have hf : True := trivial
  clear h1 h2
  go_enter Tryz.func32, Tryz.ntmps32
  go_wp2_with (first | ((with_reducible refine at_box ?_); refine own_box (cs := [.bool false, .int .i64 i1, .bool s1, .slice A1 l1 c1, .slice B1 k1 d1, .int .i64 i2, .bool s2, .slice A2 l2 c2, .slice B2 k2 d2]) hO rfl rfl ?_; clear hO; intro ga wa hO; clear hf; have hf := hO.cells; simp only [BC, CC, Nat.zero_add, Nat.reduceAdd, and_true] at hf) | ((with_reducible refine at_alloc ?_); refine own_alloc hO zero_seth rfl rfl ?_; clear hO; intro g wc hO; clear hf; have hf := hO.cells; simp only [BC, CC, Nat.zero_add, Nat.reduceAdd, and_true] at hf))
  refine (HSZ.out _ ⟨hO.wd 3 rfl, hO.wd 2 rfl⟩ ⟨hO.wd 1 rfl, hO.wd 0 rfl⟩).mono ?_
  rintro e w9 ⟨A3, l3, c3, B3, k3, d3, A4, l4, c4, B4, k4, d4, rfl, ⟨hW1, hW2⟩, ⟨hW3, hW4⟩, hE1⟩
  have hO := ((((hO.ext hE1).add hW1).add hW2).add hW3).add hW4
  clear hW1 hW2 hW3 hW4 hE1
  clear hf
  have hf := hO.cells
  simp only [BC, CC, Nat.zero_add, Nat.reduceAdd, and_true] at hf
  go_upto_region 10 with ((with_reducible refine at_store (T := 57) ?_); refine own_store (T := 57) hO 1 rfl rfl rfl size_seth rfl rfl rfl ?_; clear hO; intro w5 hO; simp only [List.set_cons_zero, List.set_cons_succ, spl, List.take_succ_cons, List.take_zero, List.nil_append, List.cons_append, List.length_cons, List.length_nil, List.drop_succ_cons, List.drop_zero, List.drop_nil, Nat.reduceAdd, Nat.zero_add, List.append_nil] at hO; clear hf; have hf := hO.cells; simp only [BC, CC, Nat.zero_add, Nat.reduceAdd, and_true] at hf)
  obtain ⟨S, hS⟩ : ∃ S : World → Prop, S = Own w [⟨g, 57, [.bool false, .int .i64 0, .bool false, .slice none 0 0, .slice none 0 0, .int .i64 0, .bool false, .slice none 0 0, .slice none 0 0]⟩, ⟨ga, 57, [.bool false, .int .i64 i3, .bool s3, .slice A3 l3 c3, .slice B3 k3 d3, .int .i64 i4, .bool s4, .slice A4 l4 c4, .slice B4 k4 d4]⟩] [⟨B4, k4, d4, nd D4⟩, ⟨A4, l4, c4, nd N4⟩, ⟨B3, k3, d3, nd D3⟩, ⟨A3, l3, c3, nd N3⟩, ⟨B2, k2, d2, nd D2⟩, ⟨A2, l2, c2, nd N2⟩, ⟨B1, k1, d1, nd D1⟩, ⟨A1, l1, c1, nd N1⟩] := ⟨_, rfl⟩
  have hSE : ∀ w w', S w → Ext w w' → S w' := fun w w' h1 h2 => by rw [hS] at h1 ⊢; exact h1.ext h2
  have hS1 : S w5.drew := by rw [hS]; exact hO.ext (Ext.refl w5).drew
  have HS := Lib.hid hS
  clear hS hO hf
  obtain ⟨sp, hsp⟩ : ∃ sp : Nat → Sp, sp = ofList [det (.pointer (some ⟨ga, 1, none⟩)), det (.agg #[.int .i64 i3, .bool s3, .slice A3 l3 c3, .slice B3 k3 d3]), det (.int .i64 m), anyOf (fun v wz => ∃ A l c B k d, v = .agg #[.int .i64 i5, .bool s5, .slice A l c, .slice B k d] ∧ RatAt wz A l c B k d N5 D5), det (.pointer (some ⟨ga, 5, none⟩)), det (.agg #[.int .i64 i4, .bool s4, .slice A4 l4 c4, .slice B4 k4 d4]), det (.int .i64 m), anyOf (fun v wz => ∃ A l c B k d, v = .agg #[.int .i64 i6, .bool s6, .slice A l c, .slice B k d] ∧ RatAt wz A l c B k d N6 D6), anyOf (fun v wz => ∃ A l c B k d A' l' c' B' k' d', v = .agg #[.bool false, .int .i64 i5, .bool s5, .slice A l c, .slice B k d, .int .i64 i6, .bool s6, .slice A' l' c', .slice B' k' d'] ∧ RatAt wz A l c B k d N5 D5 ∧ RatAt wz A' l' c' B' k' d' N6 D6), anyOf (fun v wz => ∃ gn : Nat, v = .pointer (some ⟨gn, 0, none⟩) ∧ Blk wz gn 57 (([.bool false, .int .i64 0, .bool false, .slice none 0 0, .slice none 0 0, .int .i64 0, .bool false, .slice none 0 0, .slice none 0 0] : List Value)).toArray ∧ w.heap.size ≤ gn ∧ g < gn ∧ ga < gn)] := ⟨_, rfl⟩
  have HSP := Lib.hid hsp
  clear hsp
  refine wp_region_loose 10 S sp (by kernel_rfl) (by kernel_rfl) hS1 hSE ?_
  simp only [List.take_succ_cons, List.take_zero, List.drop_succ_cons, List.drop_zero]
  refine wpX_step (fun K hK => ?_)
  go_simp
  refine StepY.det (by rw [HSP.out]; rfl) ?_ ?_
  · intro wz hz hF
    clear hz hF
    go_simp
    exact ⟨rfl, Ext.refl _⟩
  refine hK _ _ ?_
  clear hK K
  refine wpX_step (fun K hK => ?_)
  go_simp
  refine StepY.det (by rw [HSP.out]; rfl) ?_ ?_
  · intro wz hz hF
    rw [HS.out] at hz
    have hf := hz.cells
    simp only [BC, CC, Nat.zero_add, Nat.reduceAdd, and_true] at hf
    clear hz hF
    go_simp
    exact ⟨rfl, Ext.refl _⟩
  refine hK _ _ ?_
  clear hK K
  refine wpX_step (fun K hK => ?_)
  go_simp
  refine StepY.det (by rw [HSP.out]; rfl) ?_ ?_
  · intro wz hz hF
    clear hz hF
    go_simp
    exact ⟨rfl, Ext.refl _⟩
  refine hK _ _ ?_
  clear hK K
  refine wpX_step (fun K hK => ?_)
  go_simp
  refine StepY.any (by rw [HSP.out]; rfl) ?_ ?_
  · intro wz hz hF
    rw [HS.out] at hz
    have hR : RatAt wz _ _ _ _ _ _ _ _ := ⟨hz.wd 3 rfl, hz.wd 2 rfl⟩
    clear hz hF
    go_simp
    refine (HP1.out _ _ _ _ _ _ _ hR).mono ?_
    rintro e w2 ⟨A9, n9, c9, A8, n8, c8, rfl, hW1, hE1⟩
    exact ⟨_, rfl, ⟨A9, n9, c9, A8, n8, c8, rfl, hW1⟩, hE1⟩
  intro v1
  refine hK _ _ ?_
  clear hK K
  refine wpX_step (fun K hK => ?_)
  go_simp
  refine StepY.det (by rw [HSP.out]; rfl) ?_ ?_
  · intro wz hz hF
    clear hz hF
    go_simp
    exact ⟨rfl, Ext.refl _⟩
  refine hK _ _ ?_
  clear hK K
  refine wpX_step (fun K hK => ?_)
  go_simp
  refine StepY.det (by rw [HSP.out]; rfl) ?_ ?_
  · intro wz hz hF
    rw [HS.out] at hz
    have hf := hz.cells
    simp only [BC, CC, Nat.zero_add, Nat.reduceAdd, and_true] at hf
    clear hz hF
    go_simp
    exact ⟨rfl, Ext.refl _⟩
  refine hK _ _ ?_
  clear hK K
  refine wpX_step (fun K hK => ?_)
  go_simp
  refine StepY.det (by rw [HSP.out]; rfl) ?_ ?_
  · intro wz hz hF
    clear hz hF
    go_simp
    exact ⟨rfl, Ext.refl _⟩
  refine hK _ _ ?_
  clear hK K
  refine wpX_step (fun K hK => ?_)
  go_simp
  refine StepY.any (by rw [HSP.out]; rfl) ?_ ?_
  · intro wz hz hF
    rw [HS.out] at hz
    have hR : RatAt wz _ _ _ _ _ _ _ _ := ⟨hz.wd 1 rfl, hz.wd 0 rfl⟩
    clear hz hF
    go_simp
    refine (HP2.out _ _ _ _ _ _ _ hR).mono ?_
    rintro e w2 ⟨A9, n9, c9, A8, n8, c8, rfl, hW1, hE1⟩
    exact ⟨_, rfl, ⟨A9, n9, c9, A8, n8, c8, rfl, hW1⟩, hE1⟩
  intro v2
  refine hK _ _ ?_
  clear hK K
  refine wpX_step (fun K hK => ?_)
  go_simp
  refine StepY.any (by rw [HSP.out]; rfl) ?_ ?_
  · intro wz hz hF
    obtain ⟨wa', ea, A5', n5, c5', A6', n6, c6', hv1, hw1⟩ := hF.any 3 (by kernel_rfl) (by rw [HSP.out]; rfl)
    obtain ⟨wb', eb, A7', n7, c7', A8', n8, c8', hv2, hw2⟩ := hF.any 7 (by kernel_rfl) (by rw [HSP.out]; rfl)
    clear hz hF
    simp only [asFun, List.nil_append, List.cons_append, List.getD_cons_succ, List.getD_cons_zero] at hv1 hv2
    subst hv1 hv2
    go_simp
    exact ⟨⟨A5', n5, c5', A6', n6, c6', A7', n7, c7', A8', n8, c8', rfl, hw1.ext ea, hw2.ext eb⟩, Ext.refl _⟩
  intro v3
  refine hK _ _ ?_
  clear hK K
  refine wpX_step (fun K hK => ?_)
  go_simp
  refine StepY.any (by rw [HSP.out]; rfl) ?_ ?_
  · intro wz hz hF
    rw [HS.out] at hz
    have hb0 := (hz.blk 0 rfl).lt
    have hb1 := (hz.blk 1 rfl).lt
    have hb2 := hz.toExt.size
    clear hz hF
    go_simp
    exact ⟨⟨_, rfl, Blk.new wz _ _, hb2, hb0, hb1⟩, (Ext.refl _).alloc _⟩
  intro v4
  refine hK _ _ ?_
  clear hK K
  refine wpX_nil ?_
  intro wq hz hF
  obtain ⟨wa', ea, A5', n5, c5', A6', n6, c6', A7', n7, c7', A8', n8, c8', hv1, hw1, hw2⟩ := fact_any (hF 8 (by omega)) (by rw [HSP.out]; rfl)
  obtain ⟨wb', eb, gn, hv2, hb, hg0, hg1, hg2⟩ := fact_any (hF 9 (by omega)) (by rw [HSP.out]; rfl)
  clear hF
  simp only [asFun, List.nil_append, List.cons_append, List.getD_cons_succ, List.getD_cons_zero] at hv1 hv2
  subst hv1 hv2
  rw [HS.out] at hz
  have hO := hz
  clear hz HS HSP
  have hf := hO.cells
  simp only [BC, CC, Nat.zero_add, Nat.reduceAdd, and_true] at hf
  have hw1 := hw1.ext ea
  have hw2 := hw2.ext ea
  have hO := (((hO.add hw1.1).add hw1.2).add hw2.1).add hw2.2
  have hO := hO.box (hb.ext eb) hg0 rfl (by
    intro b hb'
    simp only [List.mem_cons, List.not_mem_nil, or_false] at hb'
    rcases hb' with rfl | rfl
    · exact Nat.ne_of_lt hg1
    · exact Nat.ne_of_lt hg2)
  clear hw1 hw2 ea hf hb eb hg0 hg1 hg2
  have hf := hO.cells
  simp only [BC, CC, Nat.zero_add, Nat.reduceAdd, and_true] at hf
  go_wp2_with ((with_reducible refine at_store (T := 57) ?_); refine own_store (T := 57) hO 0 rfl rfl rfl size_seth rfl rfl rfl ?_; clear hO; intro w6 hO; simp only [List.set_cons_zero, List.set_cons_succ, spl, List.take_succ_cons, List.take_zero, List.nil_append, List.cons_append, List.length_cons, List.length_nil, List.drop_succ_cons, List.drop_zero, List.drop_nil, Nat.reduceAdd, Nat.zero_add, List.append_nil] at hO; clear hf; have hf := hO.cells; simp only [BC, CC, Nat.zero_add, Nat.reduceAdd, and_true] at hf)
  refine (HIN.out _ _ _ _ _ _ _ _ _ _ _ _ _ ⟨hO.wd 3 rfl, hO.wd 2 rfl⟩ ⟨hO.wd 1 rfl, hO.wd 0 rfl⟩).mono ?_
  rintro e w9 ⟨A3, l3, c3, B3, k3, d3, A4, l4, c4, B4, k4, d4, rfl, ⟨hW1, hW2⟩, ⟨hW3, hW4⟩, hE1⟩
  have hO := ((((hO.ext hE1).add hW1).add hW2).add hW3).add hW4
  clear hW1 hW2 hW3 hW4 hE1
  clear hf
  have hf := hO.cells
  simp only [BC, CC, Nat.zero_add, Nat.reduceAdd, and_true] at hf
  go_wp2_with ((with_reducible refine at_store (T := 57) ?_); refine own_store (T := 57) hO 1 rfl rfl rfl size_seth rfl rfl rfl ?_; clear hO; intro w7 hO; simp only [List.set_cons_zero, List.set_cons_succ, spl, List.take_succ_cons, List.take_zero, List.nil_append, List.cons_append, List.length_cons, List.length_nil, List.drop_succ_cons, List.drop_zero, List.drop_nil, Nat.reduceAdd, Nat.zero_add, List.append_nil] at hO; clear hf; have hf := hO.cells; simp only [BC, CC, Nat.zero_add, Nat.reduceAdd, and_true] at hf)
  exact own_ret hO 1 rfl rfl rfl agg_seti size_seth rfl ⟨_, _, _, _, _, _, _, _, _, _, _, _, rfl, ⟨hO.wd 3 rfl, hO.wd 2 rfl⟩, ⟨hO.wd 1 rfl, hO.wd 0 rfl⟩, hO.toExt⟩

set_option maxHeartbeats 8000000 in
theorem pown7_b0t (lo hi : Nat) (n : Int) (i1 : Int) (s1 : Bool) (N1 D1 : Nat) (i2 : Int) (s2 : Bool) (N2 D2 : Nat) (r1 r2 : Nat) (h1 : decide (n < -1024) = true) (HEM : Hid (∀ w, Calls Tryz.prog 11 #[] w (RetI r1 r2 w))) (w : World) (HOF : Hid (∀ w, Calls Tryz.prog 29 #[.agg #[.int .u64 (lo : Int), .int .u64 (hi : Int)]] w (RetSet true i1 s1 N1 D1 i2 s2 N2 D2 w))) :
    Calls Tryz.prog 8 #[.agg #[.int .u64 (lo : Int), .int .u64 (hi : Int)], .int .i64 n] w (RetI r1 r2 w) := by
  have hO := Own.start w
  have hf : True := trivial
  go_enter Tryz.func8, Tryz.ntmps8
  go_wp2_with (first | ((with_reducible refine at_box ?_); refine own_box (cs := [.int .u64 (lo : Int), .int .u64 (hi : Int)]) hO rfl rfl ?_; clear hO; intro ga wa hO; clear hf; have hf := hO.cells; simp only [BC, CC, Nat.zero_add, Nat.reduceAdd, and_true] at hf) | ((with_reducible refine at_alloc ?_); refine own_alloc hO zero_Ij rfl rfl ?_; clear hO; intro g wc hO; clear hf; have hf := hO.cells; simp only [BC, CC, Nat.zero_add, Nat.reduceAdd, and_true] at hf))
  refine (HOF.out _).mono ?_
  rintro e w9 ⟨A1, l1, c1, B1, k1, d1, A2, l2, c2, B2, k2, d2, rfl, ⟨hW1, hW2⟩, ⟨hW3, hW4⟩, hE1⟩
  have hO := ((((hO.ext hE1).add hW1).add hW2).add hW3).add hW4
  clear hW1 hW2 hW3 hW4 hE1
  clear hf
  have hf := hO.cells
  simp only [BC, CC, Nat.zero_add, Nat.reduceAdd, and_true] at hf
  go_wp2_with (first | ((with_reducible refine at_alloc ?_); refine own_alloc hO zero_seth rfl rfl ?_; clear hO; intro gs wd hO; clear hf; have hf := hO.cells; simp only [BC, CC, Nat.zero_add, Nat.reduceAdd, and_true] at hf) | ((with_reducible refine at_store (T := 57) ?_); refine own_store (T := 57) hO 0 rfl rfl rfl size_seth rfl rfl rfl ?_; clear hO; intro we hO; simp only [List.set_cons_zero, List.set_cons_succ, spl, List.take_succ_cons, List.take_zero, List.nil_append, List.cons_append, List.length_cons, List.length_nil, List.drop_succ_cons, List.drop_zero, List.drop_nil, Nat.reduceAdd, Nat.zero_add, List.append_nil] at hO; clear hf; have hf := hO.cells; simp only [BC, CC, Nat.zero_add, Nat.reduceAdd, and_true] at hf))
  refine (HEM.out _).mono ?_
  rintro e w5 ⟨rfl, hE1⟩
  have hO := hO.ext hE1
  clear hE1
  clear hf
  have hf := hO.cells
  simp only [BC, CC, Nat.zero_add, Nat.reduceAdd, and_true] at hf
  go_wp2_with ((with_reducible refine at_store (T := 24) ?_); refine own_store (T := 24) hO 1 rfl rfl rfl size_Ij rfl rfl rfl ?_; clear hO; intro w6 hO; simp only [List.set_cons_zero, List.set_cons_succ, spl, List.take_succ_cons, List.take_zero, List.nil_append, List.cons_append, List.length_cons, List.length_nil, List.drop_succ_cons, List.drop_zero, List.drop_nil, Nat.reduceAdd, Nat.zero_add, List.append_nil] at hO; clear hf; have hf := hO.cells; simp only [BC, CC, Nat.zero_add, Nat.reduceAdd, and_true] at hf)
  exact own_ret hO 1 rfl rfl rfl agg_Ij size_Ij rfl ⟨rfl, hO.toExt⟩

set_option maxHeartbeats 8000000 in
theorem pown7_b0f (lo hi : Nat) (n : Int) (i1 : Int) (s1 : Bool) (N1 D1 : Nat) (i2 : Int) (s2 : Bool) (N2 D2 : Nat) (r1 r2 : Nat) (h1 : decide (n < -1024) = true) (HEM : Hid (∀ w, Calls Tryz.prog 30 #[] w (RetI r1 r2 w))) (w : World) (HOF : Hid (∀ w, Calls Tryz.prog 29 #[.agg #[.int .u64 (lo : Int), .int .u64 (hi : Int)]] w (RetSet false i1 s1 N1 D1 i2 s2 N2 D2 w))) :
    Calls Tryz.prog 8 #[.agg #[.int .u64 (lo : Int), .int .u64 (hi : Int)], .int .i64 n] w (RetI r1 r2 w) := by
  have hO := Own.start w
  have hf : True := trivial
  go_enter Tryz.func8, Tryz.ntmps8
  go_wp2_with (first | ((with_reducible refine at_box ?_); refine own_box (cs := [.int .u64 (lo : Int), .int .u64 (hi : Int)]) hO rfl rfl ?_; clear hO; intro ga wa hO; clear hf; have hf := hO.cells; simp only [BC, CC, Nat.zero_add, Nat.reduceAdd, and_true] at hf) | ((with_reducible refine at_alloc ?_); refine own_alloc hO zero_Ij rfl rfl ?_; clear hO; intro g wc hO; clear hf; have hf := hO.cells; simp only [BC, CC, Nat.zero_add, Nat.reduceAdd, and_true] at hf))
  refine (HOF.out _).mono ?_
  rintro e w9 ⟨A1, l1, c1, B1, k1, d1, A2, l2, c2, B2, k2, d2, rfl, ⟨hW1, hW2⟩, ⟨hW3, hW4⟩, hE1⟩
  have hO := ((((hO.ext hE1).add hW1).add hW2).add hW3).add hW4
  clear hW1 hW2 hW3 hW4 hE1
  clear hf
  have hf := hO.cells
  simp only [BC, CC, Nat.zero_add, Nat.reduceAdd, and_true] at hf
  go_wp2_with (first | ((with_reducible refine at_alloc ?_); refine own_alloc hO zero_seth rfl rfl ?_; clear hO; intro gs wd hO; clear hf; have hf := hO.cells; simp only [BC, CC, Nat.zero_add, Nat.reduceAdd, and_true] at hf) | ((with_reducible refine at_store (T := 57) ?_); refine own_store (T := 57) hO 0 rfl rfl rfl size_seth rfl rfl rfl ?_; clear hO; intro we hO; simp only [List.set_cons_zero, List.set_cons_succ, spl, List.take_succ_cons, List.take_zero, List.nil_append, List.cons_append, List.length_cons, List.length_nil, List.drop_succ_cons, List.drop_zero, List.drop_nil, Nat.reduceAdd, Nat.zero_add, List.append_nil] at hO; clear hf; have hf := hO.cells; simp only [BC, CC, Nat.zero_add, Nat.reduceAdd, and_true] at hf))
  refine (HEM.out _).mono ?_
  rintro e w5 ⟨rfl, hE1⟩
  have hO := hO.ext hE1
  clear hE1
  clear hf
  have hf := hO.cells
  simp only [BC, CC, Nat.zero_add, Nat.reduceAdd, and_true] at hf
  go_wp2_with ((with_reducible refine at_store (T := 24) ?_); refine own_store (T := 24) hO 1 rfl rfl rfl size_Ij rfl rfl rfl ?_; clear hO; intro w6 hO; simp only [List.set_cons_zero, List.set_cons_succ, spl, List.take_succ_cons, List.take_zero, List.nil_append, List.cons_append, List.length_cons, List.length_nil, List.drop_succ_cons, List.drop_zero, List.drop_nil, Nat.reduceAdd, Nat.zero_add, List.append_nil] at hO; clear hf; have hf := hO.cells; simp only [BC, CC, Nat.zero_add, Nat.reduceAdd, and_true] at hf)
  exact own_ret hO 1 rfl rfl rfl agg_Ij size_Ij rfl ⟨rfl, hO.toExt⟩

set_option maxHeartbeats 8000000 in
theorem pown7_b1t (lo hi : Nat) (n : Int) (i1 : Int) (s1 : Bool) (N1 D1 : Nat) (i2 : Int) (s2 : Bool) (N2 D2 : Nat) (r1 r2 : Nat) (h1 : decide (n < -1024) = false) (h2 : decide (1024 < n) = true) (HEM : Hid (∀ w, Calls Tryz.prog 11 #[] w (RetI r1 r2 w))) (w : World) (HOF : Hid (∀ w, Calls Tryz.prog 29 #[.agg #[.int .u64 (lo : Int), .int .u64 (hi : Int)]] w (RetSet true i1 s1 N1 D1 i2 s2 N2 D2 w))) :
    Calls Tryz.prog 8 #[.agg #[.int .u64 (lo : Int), .int .u64 (hi : Int)], .int .i64 n] w (RetI r1 r2 w) := by
  have hO := Own.start w
  have hf : True := trivial
  go_enter Tryz.func8, Tryz.ntmps8
  go_wp2_with (first | ((with_reducible refine at_box ?_); refine own_box (cs := [.int .u64 (lo : Int), .int .u64 (hi : Int)]) hO rfl rfl ?_; clear hO; intro ga wa hO; clear hf; have hf := hO.cells; simp only [BC, CC, Nat.zero_add, Nat.reduceAdd, and_true] at hf) | ((with_reducible refine at_alloc ?_); refine own_alloc hO zero_Ij rfl rfl ?_; clear hO; intro g wc hO; clear hf; have hf := hO.cells; simp only [BC, CC, Nat.zero_add, Nat.reduceAdd, and_true] at hf))
  refine (HOF.out _).mono ?_
  rintro e w9 ⟨A1, l1, c1, B1, k1, d1, A2, l2, c2, B2, k2, d2, rfl, ⟨hW1, hW2⟩, ⟨hW3, hW4⟩, hE1⟩
  have hO := ((((hO.ext hE1).add hW1).add hW2).add hW3).add hW4
  clear hW1 hW2 hW3 hW4 hE1
  clear hf
  have hf := hO.cells
  simp only [BC, CC, Nat.zero_add, Nat.reduceAdd, and_true] at hf
  go_wp2_with (first | ((with_reducible refine at_alloc ?_); refine own_alloc hO zero_seth rfl rfl ?_; clear hO; intro gs wd hO; clear hf; have hf := hO.cells; simp only [BC, CC, Nat.zero_add, Nat.reduceAdd, and_true] at hf) | ((with_reducible refine at_store (T := 57) ?_); refine own_store (T := 57) hO 0 rfl rfl rfl size_seth rfl rfl rfl ?_; clear hO; intro we hO; simp only [List.set_cons_zero, List.set_cons_succ, spl, List.take_succ_cons, List.take_zero, List.nil_append, List.cons_append, List.length_cons, List.length_nil, List.drop_succ_cons, List.drop_zero, List.drop_nil, Nat.reduceAdd, Nat.zero_add, List.append_nil] at hO; clear hf; have hf := hO.cells; simp only [BC, CC, Nat.zero_add, Nat.reduceAdd, and_true] at hf))
  refine (HEM.out _).mono ?_
  rintro e w5 ⟨rfl, hE1⟩
  have hO := hO.ext hE1
  clear hE1
  clear hf
  have hf := hO.cells
  simp only [BC, CC, Nat.zero_add, Nat.reduceAdd, and_true] at hf
  go_wp2_with ((with_reducible refine at_store (T := 24) ?_); refine own_store (T := 24) hO 1 rfl rfl rfl size_Ij rfl rfl rfl ?_; clear hO; intro w6 hO; simp only [List.set_cons_zero, List.set_cons_succ, spl, List.take_succ_cons, List.take_zero, List.nil_append, List.cons_append, List.length_cons, List.length_nil, List.drop_succ_cons, List.drop_zero, List.drop_nil, Nat.reduceAdd, Nat.zero_add, List.append_nil] at hO; clear hf; have hf := hO.cells; simp only [BC, CC, Nat.zero_add, Nat.reduceAdd, and_true] at hf)
  exact own_ret hO 1 rfl rfl rfl agg_Ij size_Ij rfl ⟨rfl, hO.toExt⟩

set_option maxHeartbeats 8000000 in
theorem pown7_b1f (lo hi : Nat) (n : Int) (i1 : Int) (s1 : Bool) (N1 D1 : Nat) (i2 : Int) (s2 : Bool) (N2 D2 : Nat) (r1 r2 : Nat) (h1 : decide (n < -1024) = false) (h2 : decide (1024 < n) = true) (HEM : Hid (∀ w, Calls Tryz.prog 30 #[] w (RetI r1 r2 w))) (w : World) (HOF : Hid (∀ w, Calls Tryz.prog 29 #[.agg #[.int .u64 (lo : Int), .int .u64 (hi : Int)]] w (RetSet false i1 s1 N1 D1 i2 s2 N2 D2 w))) :
    Calls Tryz.prog 8 #[.agg #[.int .u64 (lo : Int), .int .u64 (hi : Int)], .int .i64 n] w (RetI r1 r2 w) := by
  have hO := Own.start w
  have hf : True := trivial
  go_enter Tryz.func8, Tryz.ntmps8
  go_wp2_with (first | ((with_reducible refine at_box ?_); refine own_box (cs := [.int .u64 (lo : Int), .int .u64 (hi : Int)]) hO rfl rfl ?_; clear hO; intro ga wa hO; clear hf; have hf := hO.cells; simp only [BC, CC, Nat.zero_add, Nat.reduceAdd, and_true] at hf) | ((with_reducible refine at_alloc ?_); refine own_alloc hO zero_Ij rfl rfl ?_; clear hO; intro g wc hO; clear hf; have hf := hO.cells; simp only [BC, CC, Nat.zero_add, Nat.reduceAdd, and_true] at hf))
  refine (HOF.out _).mono ?_
  rintro e w9 ⟨A1, l1, c1, B1, k1, d1, A2, l2, c2, B2, k2, d2, rfl, ⟨hW1, hW2⟩, ⟨hW3, hW4⟩, hE1⟩
  have hO := ((((hO.ext hE1).add hW1).add hW2).add hW3).add hW4
  clear hW1 hW2 hW3 hW4 hE1
  clear hf
  have hf := hO.cells
  simp only [BC, CC, Nat.zero_add, Nat.reduceAdd, and_true] at hf
  go_wp2_with (first | ((with_reducible refine at_alloc ?_); refine own_alloc hO zero_seth rfl rfl ?_; clear hO; intro gs wd hO; clear hf; have hf := hO.cells; simp only [BC, CC, Nat.zero_add, Nat.reduceAdd, and_true] at hf) | ((with_reducible refine at_store (T := 57) ?_); refine own_store (T := 57) hO 0 rfl rfl rfl size_seth rfl rfl rfl ?_; clear hO; intro we hO; simp only [List.set_cons_zero, List.set_cons_succ, spl, List.take_succ_cons, List.take_zero, List.nil_append, List.cons_append, List.length_cons, List.length_nil, List.drop_succ_cons, List.drop_zero, List.drop_nil, Nat.reduceAdd, Nat.zero_add, List.append_nil] at hO; clear hf; have hf := hO.cells; simp only [BC, CC, Nat.zero_add, Nat.reduceAdd, and_true] at hf))
  refine (HEM.out _).mono ?_
  rintro e w5 ⟨rfl, hE1⟩
  have hO := hO.ext hE1
  clear hE1
  clear hf
  have hf := hO.cells
  simp only [BC, CC, Nat.zero_add, Nat.reduceAdd, and_true] at hf
  go_wp2_with ((with_reducible refine at_store (T := 24) ?_); refine own_store (T := 24) hO 1 rfl rfl rfl size_Ij rfl rfl rfl ?_; clear hO; intro w6 hO; simp only [List.set_cons_zero, List.set_cons_succ, spl, List.take_succ_cons, List.take_zero, List.nil_append, List.cons_append, List.length_cons, List.length_nil, List.drop_succ_cons, List.drop_zero, List.drop_nil, Nat.reduceAdd, Nat.zero_add, List.append_nil] at hO; clear hf; have hf := hO.cells; simp only [BC, CC, Nat.zero_add, Nat.reduceAdd, and_true] at hf)
  exact own_ret hO 1 rfl rfl rfl agg_Ij size_Ij rfl ⟨rfl, hO.toExt⟩

set_option maxHeartbeats 8000000 in
theorem pown7_w (lo hi : Nat) (n : Int) (i1 : Int) (s1 : Bool) (N1 D1 : Nat) (i2 : Int) (s2 : Bool) (N2 D2 : Nat) (r1 r2 : Nat) (nb nR : Bool) (i3 : Int) (s3 : Bool) (N3 D3 : Nat) (i4 : Int) (s4 : Bool) (N4 D4 : Nat) (h1 : decide (n < -1024) = false) (h2 : decide (1024 < n) = false) (HPS : Hid (∀ (A1 : Option Addr) (l1 c1 : Nat) (B1 : Option Addr) (k1 d1 : Nat) (A2 : Option Addr) (l2 c2 : Nat) (B2 : Option Addr) (k2 d2 : Nat) (w : World), RatAt w A1 l1 c1 B1 k1 d1 N1 D1 → RatAt w A2 l2 c2 B2 k2 d2 N2 D2 → Calls Tryz.prog 32 #[.agg #[.bool nb, .int .i64 i1, .bool s1, .slice A1 l1 c1, .slice B1 k1 d1, .int .i64 i2, .bool s2, .slice A2 l2 c2, .slice B2 k2 d2], .int .i64 n] w (RetSet nR i3 s3 N3 D3 i4 s4 N4 D4 w))) (HLE : Hid (∀ (A3 : Option Addr) (l3 c3 : Nat) (B3 : Option Addr) (k3 d3 : Nat) (A4 : Option Addr) (l4 c4 : Nat) (B4 : Option Addr) (k4 d4 : Nat) (w : World), RatAt w A3 l3 c3 B3 k3 d3 N3 D3 → RatAt w A4 l4 c4 B4 k4 d4 N4 D4 → Calls Tryz.prog 31 #[.agg #[.bool nR, .int .i64 i3, .bool s3, .slice A3 l3 c3, .slice B3 k3 d3, .int .i64 i4, .bool s4, .slice A4 l4 c4, .slice B4 k4 d4]] w (RetI r1 r2 w))) (w : World) (HOF : Hid (∀ w, Calls Tryz.prog 29 #[.agg #[.int .u64 (lo : Int), .int .u64 (hi : Int)]] w (RetSet nb i1 s1 N1 D1 i2 s2 N2 D2 w))) :
    Calls Tryz.prog 8 #[.agg #[.int .u64 (lo : Int), .int .u64 (hi : Int)], .int .i64 n] w (RetI r1 r2 w) := by
  have hO := Own.start w
  have hf : True := trivial
  go_enter Tryz.func8, Tryz.ntmps8
  go_wp2_with (first | ((with_reducible refine at_box ?_); refine own_box (cs := [.int .u64 (lo : Int), .int .u64 (hi : Int)]) hO rfl rfl ?_; clear hO; intro ga wa hO; clear hf; have hf := hO.cells; simp only [BC, CC, Nat.zero_add, Nat.reduceAdd, and_true] at hf) | ((with_reducible refine at_alloc ?_); refine own_alloc hO zero_Ij rfl rfl ?_; clear hO; intro g wc hO; clear hf; have hf := hO.cells; simp only [BC, CC, Nat.zero_add, Nat.reduceAdd, and_true] at hf))
  refine (HOF.out _).mono ?_
  rintro e w9 ⟨A1, l1, c1, B1, k1, d1, A2, l2, c2, B2, k2, d2, rfl, ⟨hW1, hW2⟩, ⟨hW3, hW4⟩, hE1⟩
  have hO := ((((hO.ext hE1).add hW1).add hW2).add hW3).add hW4
  clear hW1 hW2 hW3 hW4 hE1
  clear hf
  have hf := hO.cells
  simp only [BC, CC, Nat.zero_add, Nat.reduceAdd, and_true] at hf
  go_wp2_with (first | ((with_reducible refine at_alloc ?_); refine own_alloc hO zero_seth rfl rfl ?_; clear hO; intro gs wd hO; clear hf; have hf := hO.cells; simp only [BC, CC, Nat.zero_add, Nat.reduceAdd, and_true] at hf) | ((with_reducible refine at_store (T := 57) ?_); refine own_store (T := 57) hO 0 rfl rfl rfl size_seth rfl rfl rfl ?_; clear hO; intro we hO; simp only [List.set_cons_zero, List.set_cons_succ, spl, List.take_succ_cons, List.take_zero, List.nil_append, List.cons_append, List.length_cons, List.length_nil, List.drop_succ_cons, List.drop_zero, List.drop_nil, Nat.reduceAdd, Nat.zero_add, List.append_nil] at hO; clear hf; have hf := hO.cells; simp only [BC, CC, Nat.zero_add, Nat.reduceAdd, and_true] at hf))
  refine (HPS.out _ _ _ _ _ _ _ _ _ _ _ _ _ ⟨hO.wd 3 rfl, hO.wd 2 rfl⟩ ⟨hO.wd 1 rfl, hO.wd 0 rfl⟩).mono ?_
  rintro e w9 ⟨A3, l3, c3, B3, k3, d3, A4, l4, c4, B4, k4, d4, rfl, ⟨hW1, hW2⟩, ⟨hW3, hW4⟩, hE1⟩
  have hO := ((((hO.ext hE1).add hW1).add hW2).add hW3).add hW4
  clear hW1 hW2 hW3 hW4 hE1
  clear hf
  have hf := hO.cells
  simp only [BC, CC, Nat.zero_add, Nat.reduceAdd, and_true] at hf
  go_wp2_with fail
  refine (HLE.out _ _ _ _ _ _ _ _ _ _ _ _ _ ⟨hO.wd 3 rfl, hO.wd 2 rfl⟩ ⟨hO.wd 1 rfl, hO.wd 0 rfl⟩).mono ?_
  rintro e w5 ⟨rfl, hE1⟩
  have hO := hO.ext hE1
  clear hE1
  clear hf
  have hf := hO.cells
  simp only [BC, CC, Nat.zero_add, Nat.reduceAdd, and_true] at hf
  go_wp2_with ((with_reducible refine at_store (T := 24) ?_); refine own_store (T := 24) hO 1 rfl rfl rfl size_Ij rfl rfl rfl ?_; clear hO; intro w6 hO; simp only [List.set_cons_zero, List.set_cons_succ, spl, List.take_succ_cons, List.take_zero, List.nil_append, List.cons_append, List.length_cons, List.length_nil, List.drop_succ_cons, List.drop_zero, List.drop_nil, Nat.reduceAdd, Nat.zero_add, List.append_nil] at hO; clear hf; have hf := hO.cells; simp only [BC, CC, Nat.zero_add, Nat.reduceAdd, and_true] at hf)
  exact own_ret hO 1 rfl rfl rfl agg_Ij size_Ij rfl ⟨rfl, hO.toExt⟩

end Go.Proofs.YtadijoeeaineaaaGreatDoor
