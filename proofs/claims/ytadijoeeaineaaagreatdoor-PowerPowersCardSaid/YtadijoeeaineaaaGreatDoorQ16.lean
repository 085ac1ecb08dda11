/-
  The contracts of the document's sets, second part: negatives, the least interval. Conditions: those that each theorem names.
-/
import Derived.Test.YtadijoeeaineaaaGreatDoorQ14
namespace Go.Proofs.YtadijoeeaineaaaGreatDoor
open Go.RowKit Nm Rn
set_option maxRecDepth 100000
set_option linter.unusedVariables false
set_option linter.unusedSimpArgs false

set_option maxHeartbeats 2000000 in
theorem minus6_none (i : Int) (s : Bool) (A : Option Addr) (l c : Nat) (B : Option Addr) (k d N D : Nat) (j : Int) (r : Bool) (A2 : Option Addr) (l2 c2 : Nat) (B2 : Option Addr) (k2 d2 N2 D2 : Nat) (w : World) (h1 : RatAt w A l c B k d N D) (h2 : RatAt w A2 l2 c2 B2 k2 d2 N2 D2) :
    Calls Tryz.prog 97 #[.agg #[.bool true, .int .i64 i, .bool s, .slice A l c, .slice B k d, .int .i64 j, .bool r, .slice A2 l2 c2, .slice B2 k2 d2]] w (RetSet true i s N D j r N2 D2 w) := by
  go_enter Tryz.func97, Tryz.ntmps97
  go_wp2_with fail
  have hE : Ext w ((w.alloc (.cells #[.bool true, .int .i64 i, .bool s, .slice A l c, .slice B k d, .int .i64 j, .bool r, .slice A2 l2 c2, .slice B2 k2 d2] 57)).alloc (.cells #[.bool true, .int .i64 i, .bool s, .slice A l c, .slice B k d, .int .i64 j, .bool r, .slice A2 l2 c2, .slice B2 k2 d2] 57)) := ((Ext.refl w).alloc _).alloc _
  exact bodyPost_ret (v := .agg #[.bool true, .int .i64 i, .bool s, .slice A l c, .slice B k d, .int .i64 j, .bool r, .slice A2 l2 c2, .slice B2 k2 d2]) (by simp [results, Tryz.results97, go_sem]) rfl ⟨_, _, _, _, _, _, _, _, _, _, _, _, rfl, h1.ext hE, h2.ext hE, hE⟩

set_option maxHeartbeats 2000000 in
theorem minus6_full (i : Int) (s : Bool) (A : Option Addr) (l c : Nat) (B : Option Addr) (k d N D : Nat) (j : Int) (r : Bool) (A2 : Option Addr) (l2 c2 : Nat) (B2 : Option Addr) (k2 d2 N2 D2 : Nat) (w : World) (h1 : RatAt w A l c B k d N D) (h2 : RatAt w A2 l2 c2 B2 k2 d2 N2 D2) (hi : -1 ≤ i ∧ i ≤ 1) (hj : -1 ≤ j ∧ j ≤ 1) (hN : nw N ≤ 1073741824) (hD : nw D ≤ 1073741824) (hN2 : nw N2 ≤ 1073741824) (hD2 : nw D2 ≤ 1073741824) :
    Calls Tryz.prog 97 #[.agg #[.bool false, .int .i64 i, .bool s, .slice A l c, .slice B k d, .int .i64 j, .bool r, .slice A2 l2 c2, .slice B2 k2 d2]] w (RetSet false (-j) (!r && decide (N2 ≠ 0)) N2 D2 (-i) (!s && decide (N ≠ 0)) N D w) := by
  have hc1 := fun w A l c B k d h => turned6_any i hi s A l c B k d N D w h hN hD
  have hc2 := fun w A l c B k d h => turned6_any j hj r A l c B k d N2 D2 w h hN2 hD2
  obtain ⟨i', hi'⟩ : ∃ x, x = -i := ⟨_, rfl⟩
  obtain ⟨j', hj'⟩ : ∃ x, x = -j := ⟨_, rfl⟩
  obtain ⟨s', hs'⟩ : ∃ x, x = (!s && decide (N ≠ 0)) := ⟨_, rfl⟩
  obtain ⟨r', hr'⟩ : ∃ x, x = (!r && decide (N2 ≠ 0)) := ⟨_, rfl⟩
  rw [← hi', ← hs'] at hc1 ⊢
  rw [← hj', ← hr'] at hc2 ⊢
  have HC1 := Lib.hid hc1
  have HC2 := Lib.hid hc2
  clear hc1 hc2 hi' hj' hs' hr' hi hj hN hD hN2 hD2
  have hb2 := Blk.new2 w (.cells #[.bool false, .int .i64 i, .bool s, .slice A l c, .slice B k d, .int .i64 j, .bool r, .slice A2 l2 c2, .slice B2 k2 d2] 57) 57 #[.bool false, .int .i64 0, .bool false, .slice none 0 0, .slice none 0 0, .int .i64 0, .bool false, .slice none 0 0, .slice none 0 0]
  have hbI := (Blk.new w 57 #[.bool false, .int .i64 i, .bool s, .slice A l c, .slice B k d, .int .i64 j, .bool r, .slice A2 l2 c2, .slice B2 k2 d2]).ext ((Ext.refl _).alloc (.cells #[.bool false, .int .i64 0, .bool false, .slice none 0 0, .slice none 0 0, .int .i64 0, .bool false, .slice none 0 0, .slice none 0 0] 57))
  have hEw : Ext w ((w.alloc (.cells #[.bool false, .int .i64 i, .bool s, .slice A l c, .slice B k d, .int .i64 j, .bool r, .slice A2 l2 c2, .slice B2 k2 d2] 57)).alloc (.cells #[.bool false, .int .i64 0, .bool false, .slice none 0 0, .slice none 0 0, .int .i64 0, .bool false, .slice none 0 0, .slice none 0 0] 57)) := ((Ext.refl w).alloc _).alloc _
  obtain ⟨w1, hw1⟩ : ∃ w1, w1 = (w.alloc (.cells #[.bool false, .int .i64 i, .bool s, .slice A l c, .slice B k d, .int .i64 j, .bool r, .slice A2 l2 c2, .slice B2 k2 d2] 57)).alloc (.cells #[.bool false, .int .i64 0, .bool false, .slice none 0 0, .slice none 0 0, .int .i64 0, .bool false, .slice none 0 0, .slice none 0 0] 57) := ⟨_, rfl⟩
  rw [← hw1] at hb2 hbI hEw
  obtain ⟨G, hG⟩ : ∃ G, G = w.heap.size + 1 := ⟨_, rfl⟩
  rw [← hG] at hb2
  have hGw : w.heap.size ≤ G := by omega
  have HGS := Lib.hid (show w.heap.size + 1 = G from hG.symm)
  have HW1 := Lib.hid hw1
  have hr1 := h1.ext hEw
  have hr2 := h2.ext hEw
  obtain ⟨S, hS⟩ : ∃ S : World → Prop, S = fun wz => Blk wz w.heap.size 57 #[.bool false, .int .i64 i, .bool s, .slice A l c, .slice B k d, .int .i64 j, .bool r, .slice A2 l2 c2, .slice B2 k2 d2] ∧ Blk wz G 57 #[.bool false, .int .i64 0, .bool false, .slice none 0 0, .slice none 0 0, .int .i64 0, .bool false, .slice none 0 0, .slice none 0 0] ∧ RatAt wz A l c B k d N D ∧ RatAt wz A2 l2 c2 B2 k2 d2 N2 D2 ∧ Ext w wz := ⟨_, rfl⟩
  have hSE : ∀ w w', S w → Ext w w' → S w' := fun w w' h1 h2 => by rw [hS] at h1 ⊢; exact ⟨h1.1.ext h2, h1.2.1.ext h2, h1.2.2.1.ext h2, h1.2.2.2.1.ext h2, h1.2.2.2.2.trans h2⟩
  have hS1 : S { w1 with drawn := w1.drawn + 1 } := hSE _ _ (by rw [hS]; exact ⟨hbI, hb2, hr1, hr2, hEw⟩) (Ext.refl w1).drew
  obtain ⟨sp, hsp⟩ : ∃ sp : Nat → Sp, sp = ofList [det (.pointer (some ⟨w.heap.size, 5, none⟩)), det (.agg #[.int .i64 j, .bool r, .slice A2 l2 c2, .slice B2 k2 d2]),
    anyOf (fun v wz => ∃ A l c B k d, v = .agg #[.int .i64 j', .bool r', .slice A l c, .slice B k d] ∧ RatAt wz A l c B k d N2 D2),
    det (.pointer (some ⟨w.heap.size, 1, none⟩)), det (.agg #[.int .i64 i, .bool s, .slice A l c, .slice B k d]),
    anyOf (fun v wz => ∃ A l c B k d, v = .agg #[.int .i64 i', .bool s', .slice A l c, .slice B k d] ∧ RatAt wz A l c B k d N D),
    anyOf (fun v wz => ∃ A l c B k d A2 l2 c2 B2 k2 d2, v = .agg #[.bool false, .int .i64 j', .bool r', .slice A l c, .slice B k d, .int .i64 i', .bool s', .slice A2 l2 c2, .slice B2 k2 d2] ∧ RatAt wz A l c B k d N2 D2 ∧ RatAt wz A2 l2 c2 B2 k2 d2 N D)] := ⟨_, rfl⟩
  have i0 : w1.cell? ⟨w.heap.size, 0, none⟩ = some (.bool false) := hbI.cell 0
  have i1 : w1.cell? ⟨w.heap.size, 1, none⟩ = some (.int .i64 i) := hbI.cell 1
  have i2 : w1.cell? ⟨w.heap.size, 2, none⟩ = some (.bool s) := hbI.cell 2
  have i3 : w1.cell? ⟨w.heap.size, 3, none⟩ = some (.slice A l c) := hbI.cell 3
  have i4 : w1.cell? ⟨w.heap.size, 4, none⟩ = some (.slice B k d) := hbI.cell 4
  have i5 : w1.cell? ⟨w.heap.size, 5, none⟩ = some (.int .i64 j) := hbI.cell 5
  have i6 : w1.cell? ⟨w.heap.size, 6, none⟩ = some (.bool r) := hbI.cell 6
  have i7 : w1.cell? ⟨w.heap.size, 7, none⟩ = some (.slice A2 l2 c2) := hbI.cell 7
  have i8 : w1.cell? ⟨w.heap.size, 8, none⟩ = some (.slice B2 k2 d2) := hbI.cell 8
  have hlt := hbI.lt
  have HS := Lib.hid hS
  have HSP := Lib.hid hsp
  clear hw1 hG h1 h2 hbI hsp hS hr1 hr2 hb2 hEw
  go_enter Tryz.func97, Tryz.ntmps97
  go_wp2_with fail
  rw [← HW1.out, HGS.out]
  clear HW1 HGS
  go_wp2_with fail
  clear i0 i1 i2 i3 i4 i5 i6 i7 i8
  refine wp_region_loose 7 S sp (by kernel_rfl) (by kernel_rfl) hS1 hSE ?_
  simp only [List.take_succ_cons, List.take_zero, List.drop_succ_cons, List.drop_zero]
  repeat (refine wpX_step (fun K hK => ?_)
          go_simp
          first
          | (refine ⟨by rw [HSP.out]; rfl, hK _ _ ?_⟩
             clear hK K)
          | (refine StepY.det (by rw [HSP.out]; rfl) ?_ ?_
             · intro wz hz hF
               have hz' := hz
               rw [HS.out] at hz'
               have hbI := hz'.1
               have i0 : wz.cell? ⟨w.heap.size, 0, none⟩ = some (.bool false) := hbI.cell 0
               have i1 : wz.cell? ⟨w.heap.size, 1, none⟩ = some (.int .i64 i) := hbI.cell 1
               have i2 : wz.cell? ⟨w.heap.size, 2, none⟩ = some (.bool s) := hbI.cell 2
               have i3 : wz.cell? ⟨w.heap.size, 3, none⟩ = some (.slice A l c) := hbI.cell 3
               have i4 : wz.cell? ⟨w.heap.size, 4, none⟩ = some (.slice B k d) := hbI.cell 4
               have i5 : wz.cell? ⟨w.heap.size, 5, none⟩ = some (.int .i64 j) := hbI.cell 5
               have i6 : wz.cell? ⟨w.heap.size, 6, none⟩ = some (.bool r) := hbI.cell 6
               have i7 : wz.cell? ⟨w.heap.size, 7, none⟩ = some (.slice A2 l2 c2) := hbI.cell 7
               have i8 : wz.cell? ⟨w.heap.size, 8, none⟩ = some (.slice B2 k2 d2) := hbI.cell 8
               clear hz' hF hbI
               go_simp
               exact ⟨rfl, Ext.refl _⟩
             refine hK _ _ ?_
             clear hK K)
          | (refine StepY.any (by rw [HSP.out]; rfl) ?_ ?_
             · intro wz hz hF
               have hz' := hz
               rw [HS.out] at hz'
               have hx := hz'.2.2.1
               have hy := hz'.2.2.2.1
               clear hz'
               go_simp
               go_at_call 128
               first
               | (with_reducible refine (HC1.out _ _ _ _ _ _ _ hx).mono ?_)
               | (with_reducible refine (HC2.out _ _ _ _ _ _ _ hy).mono ?_)
               rintro e w2 ⟨A1, n1, c1, A2, n2, c2, rfl, hW1, hE1⟩
               exact ⟨_, rfl, ⟨A1, n1, c1, A2, n2, c2, rfl, hW1⟩, hE1⟩
             intro v
             refine hK _ _ ?_
             clear hK K))
  refine wpX_step (fun K hK => ?_)
  go_simp
  refine StepY.any (by rw [HSP.out]; rfl) ?_ ?_
  · intro wz hz hF
    obtain ⟨wa, ea, A1, n1, c1, B1, k1, d1, hv1, hw1⟩ := hF.any 2 (by kernel_rfl) (by rw [HSP.out]; rfl)
    obtain ⟨wb, eb, A2, n2, c2, B2, k2, d2, hv2, hw2⟩ := hF.any 5 (by kernel_rfl) (by rw [HSP.out]; rfl)
    clear hF
    simp only [asFun, List.nil_append, List.cons_append, List.getD_cons_succ, List.getD_cons_zero] at hv1 hv2
    subst hv1 hv2
    go_simp
    exact ⟨⟨A1, n1, c1, B1, k1, d1, A2, n2, c2, B2, k2, d2, rfl, hw1.ext ea, hw2.ext eb⟩, Ext.refl _⟩
  · intro v
    refine hK _ _ ?_
    clear hK K
    refine wpX_nil ?_
    intro w5 hz hF
    obtain ⟨w0, e0, A1, n1, c1, B1, k1, d1, A2, n2, c2, B2, k2, d2, hv, hw0⟩ := fact_any (hF 6 (by omega)) (by rw [HSP.out]; rfl)
    clear hF
    simp only [asFun, List.nil_append, List.cons_append, List.getD_cons_succ, List.getD_cons_zero] at hv
    subst hv
    rw [HS.out] at hz
    have hb5 := hz.2.1
    have hE := hz.2.2.2.2
    have hr4' := hw0.1.ext e0
    have hr5 := hw0.2.ext e0
    clear hz hw0 e0 HC1 HC2 HSP HS hSE hS1
    have hGl := hb5.lt
    have q0 : w5.cell? ⟨G, 0, none⟩ = some (.bool false) := hb5.cell 0
    have q1 : w5.cell? ⟨G, 1, none⟩ = some (.int .i64 0) := hb5.cell 1
    have q2 : w5.cell? ⟨G, 2, none⟩ = some (.bool false) := hb5.cell 2
    have q3 : w5.cell? ⟨G, 3, none⟩ = some (.slice none 0 0) := hb5.cell 3
    have q4 : w5.cell? ⟨G, 4, none⟩ = some (.slice none 0 0) := hb5.cell 4
    have q5 : w5.cell? ⟨G, 5, none⟩ = some (.int .i64 0) := hb5.cell 5
    have q6 : w5.cell? ⟨G, 6, none⟩ = some (.bool false) := hb5.cell 6
    have q7 : w5.cell? ⟨G, 7, none⟩ = some (.slice none 0 0) := hb5.cell 7
    have q8 : w5.cell? ⟨G, 8, none⟩ = some (.slice none 0 0) := hb5.cell 8
    have f0 := hb5.frozen 0
    have f1 := hb5.frozen 1
    have f2 := hb5.frozen 2
    have f3 := hb5.frozen 3
    have f4 := hb5.frozen 4
    have f5 := hb5.frozen 5
    have f6 := hb5.frozen 6
    have f7 := hb5.frozen 7
    have f8 := hb5.frozen 8
    have HB1 := Lib.hid (RatBox.mk hr4' hb5 (NoU.of rfl))
    have HB2 := Lib.hid (RatBox.mk hr5 hb5 (NoU.of rfl))
    have HEE := Lib.hid hE
    clear hb5 hr4' hr5 hE
    go_wp2
    exact bodyPost_ret (v := .agg #[.bool false, .int .i64 j', .bool r', .slice A1 n1 c1, .slice B1 k1 d1, .int .i64 i', .bool s', .slice A2 n2 c2, .slice B2 k2 d2]) (by simp [results, Tryz.results97, go_sem, hGl, q0, q1, q2, q3, q4, q5, q6, q7, q8]) rfl
      ⟨_, _, _, _, _, _, _, _, _, _, _, _, rfl, HB1.out.set9 rfl rfl rfl rfl rfl rfl rfl rfl rfl, HB2.out.set9 rfl rfl rfl rfl rfl rfl rfl rfl rfl, HEE.out.set9 hGw _ _ _ _ _ _ _ _ _⟩

set_option maxHeartbeats 2000000 in
theorem least6_none (i : Int) (s : Bool) (A : Option Addr) (l c : Nat) (B : Option Addr) (k d N D : Nat) (j : Int) (r : Bool) (A2 : Option Addr) (l2 c2 : Nat) (B2 : Option Addr) (k2 d2 N2 D2 : Nat) (w : World) (h1 : RatAt w A l c B k d N D) (h2 : RatAt w A2 l2 c2 B2 k2 d2 N2 D2) :
    Calls Tryz.prog 31 #[.agg #[.bool true, .int .i64 i, .bool s, .slice A l c, .slice B k d, .int .i64 j, .bool r, .slice A2 l2 c2, .slice B2 k2 d2]] w (RetI infR minf w) := by
  have hb2 := Blk.new2 w (.cells #[.bool true, .int .i64 i, .bool s, .slice A l c, .slice B k d, .int .i64 j, .bool r, .slice A2 l2 c2, .slice B2 k2 d2] 57) 24 #[.int .u64 0, .int .u64 0]
  have hbI := (Blk.new w 57 #[.bool true, .int .i64 i, .bool s, .slice A l c, .slice B k d, .int .i64 j, .bool r, .slice A2 l2 c2, .slice B2 k2 d2]).ext ((Ext.refl _).alloc (.cells #[.int .u64 0, .int .u64 0] 24))
  have hEw : Ext w ((w.alloc (.cells #[.bool true, .int .i64 i, .bool s, .slice A l c, .slice B k d, .int .i64 j, .bool r, .slice A2 l2 c2, .slice B2 k2 d2] 57)).alloc (.cells #[.int .u64 0, .int .u64 0] 24)) := ((Ext.refl w).alloc _).alloc _
  obtain ⟨w1, hw1⟩ : ∃ w1, w1 = (w.alloc (.cells #[.bool true, .int .i64 i, .bool s, .slice A l c, .slice B k d, .int .i64 j, .bool r, .slice A2 l2 c2, .slice B2 k2 d2] 57)).alloc (.cells #[.int .u64 0, .int .u64 0] 24) := ⟨_, rfl⟩
  rw [← hw1] at hb2 hbI hEw
  obtain ⟨G, hG⟩ : ∃ G, G = w.heap.size + 1 := ⟨_, rfl⟩
  rw [← hG] at hb2
  have hGw : w.heap.size ≤ G := by omega
  have HGS := Lib.hid (show w.heap.size + 1 = G from hG.symm)
  have HW1 := Lib.hid hw1
  have hr1 := h1.ext hEw
  have hr2 := h2.ext hEw
  have i0 : w1.cell? ⟨w.heap.size, 0, none⟩ = some (.bool true) := hbI.cell 0
  have i1 : w1.cell? ⟨w.heap.size, 1, none⟩ = some (.int .i64 i) := hbI.cell 1
  have i2 : w1.cell? ⟨w.heap.size, 2, none⟩ = some (.bool s) := hbI.cell 2
  have i3 : w1.cell? ⟨w.heap.size, 3, none⟩ = some (.slice A l c) := hbI.cell 3
  have i4 : w1.cell? ⟨w.heap.size, 4, none⟩ = some (.slice B k d) := hbI.cell 4
  have i5 : w1.cell? ⟨w.heap.size, 5, none⟩ = some (.int .i64 j) := hbI.cell 5
  have i6 : w1.cell? ⟨w.heap.size, 6, none⟩ = some (.bool r) := hbI.cell 6
  have i7 : w1.cell? ⟨w.heap.size, 7, none⟩ = some (.slice A2 l2 c2) := hbI.cell 7
  have i8 : w1.cell? ⟨w.heap.size, 8, none⟩ = some (.slice B2 k2 d2) := hbI.cell 8
  have hlt := hbI.lt
  clear hw1 hG h1 h2 hbI hr1 hr2
  have hem := fun w => empty6_any w
  obtain ⟨p, hp⟩ : ∃ p, p = infR := ⟨_, rfl⟩
  obtain ⟨q, hq⟩ : ∃ q, q = minf := ⟨_, rfl⟩
  rw [← hp, ← hq] at hem ⊢
  have HEM := Lib.hid hem
  clear hem hp hq
  go_enter Tryz.func31, Tryz.ntmps31
  go_wp2_with fail
  rw [← HW1.out, HGS.out]
  clear HW1 HGS
  go_wp2_with fail
  clear i0 i1 i2 i3 i4 i5 i6 i7 i8
  refine (HEM.out _).mono ?_
  rintro e w3 ⟨rfl, hE3⟩
  have hb3 := hb2.ext hE3
  have HE := Lib.hid (hEw.trans hE3)
  have hGl := hb3.lt
  have q0 : w3.cell? ⟨G, 0, none⟩ = some (.int .u64 0) := hb3.cell 0
  have q1 : w3.cell? ⟨G, 1, none⟩ = some (.int .u64 0) := hb3.cell 1
  have f0 := hb3.frozen 0
  have f1 := hb3.frozen 1
  clear hb3 hb2 hEw hE3 hlt
  go_wp2
  exact bodyPost_ret (v := .agg #[.int .u64 (p : Int), .int .u64 (q : Int)]) (by simp [results, Tryz.results31, go_sem, hGl, q0, q1]) rfl ⟨rfl, (HE.out.setCell hGw _).setCell hGw _⟩

structure LS (H G Y : Nat) (i : Int) (s : Bool) (A : Option Addr) (l c : Nat) (B : Option Addr) (k d N D : Nat) (j : Int) (r : Bool) (A2 : Option Addr) (l2 c2 : Nat) (B2 : Option Addr) (k2 d2 N2 D2 : Nat) (w0 w : World) (u v : Nat) : Prop where
  hH : Blk w H 57 #[.bool false, .int .i64 i, .bool s, .slice A l c, .slice B k d, .int .i64 j, .bool r, .slice A2 l2 c2, .slice B2 k2 d2]
  hG : Blk w G 24 #[.int .u64 0, .int .u64 0]
  hY : Blk w Y 24 #[.int .u64 (u : Int), .int .u64 (v : Int)]
  r1 : RatAt w A l c B k d N D
  r2 : RatAt w A2 l2 c2 B2 k2 d2 N2 D2
  ex : Ext w0 w
  le : w0.heap.size ≤ Y
  n1 : H < Y
  n2 : G < Y
section
variable {H G Y : Nat} {i : Int} {s : Bool} {A : Option Addr} {l c : Nat} {B : Option Addr} {k d N D : Nat} {j : Int} {r : Bool} {A2 : Option Addr} {l2 c2 : Nat} {B2 : Option Addr} {k2 d2 N2 D2 : Nat} {w0 w w' : World} {u v : Nat}
theorem LS.ext (h : LS H G Y i s A l c B k d N D j r A2 l2 c2 B2 k2 d2 N2 D2 w0 w u v) (he : Ext w w') : LS H G Y i s A l c B k d N D j r A2 l2 c2 B2 k2 d2 N2 D2 w0 w' u v :=
  ⟨h.hH.ext he, h.hG.ext he, h.hY.ext he, h.r1.ext he, h.r2.ext he, h.ex.trans he, h.le, h.n1, h.n2⟩
theorem LS.set0 (h : LS H G Y i s A l c B k d N D j r A2 l2 c2 B2 k2 d2 N2 D2 w0 w u v) (x : Nat) : LS H G Y i s A l c B k d N D j r A2 l2 c2 B2 k2 d2 N2 D2 w0 (w.setCell ⟨Y, 0, none⟩ (.int .u64 (x : Int))) x v :=
  ⟨h.hH.far (by show H ≠ Y; have := h.n1; omega) _, h.hG.far (by show G ≠ Y; have := h.n2; omega) _, h.hY.set_ 0 _, ((RatBox.mk h.r1 h.hY (NoU.of rfl)).set 0 rfl).rat, ((RatBox.mk h.r2 h.hY (NoU.of rfl)).set 0 rfl).rat, h.ex.setCell h.le _, h.le, h.n1, h.n2⟩
theorem LS.set1 (h : LS H G Y i s A l c B k d N D j r A2 l2 c2 B2 k2 d2 N2 D2 w0 w u v) (x : Nat) : LS H G Y i s A l c B k d N D j r A2 l2 c2 B2 k2 d2 N2 D2 w0 (w.setCell ⟨Y, 1, none⟩ (.int .u64 (x : Int))) u x :=
  ⟨h.hH.far (by show H ≠ Y; have := h.n1; omega) _, h.hG.far (by show G ≠ Y; have := h.n2; omega) _, h.hY.set_ 1 _, ((RatBox.mk h.r1 h.hY (NoU.of rfl)).set 1 rfl).rat, ((RatBox.mk h.r2 h.hY (NoU.of rfl)).set 1 rfl).rat, h.ex.setCell h.le _, h.le, h.n1, h.n2⟩
end

/-- The ends of the least interval around a set. -/
def lsLo (i : Int) (s : Bool) (N D : Nat) : Nat := if i = 0 then rnd (-1) s (zr N D) else minf
def lsHi (j : Int) (r : Bool) (N D : Nat) : Nat := if j = 0 then rnd 1 r (zr N D) else infR

set_option maxHeartbeats 8000000 in
theorem least6_full (i : Int) (s : Bool) (A : Option Addr) (l c : Nat) (B : Option Addr) (k d N D : Nat) (j : Int) (r : Bool) (A2 : Option Addr) (l2 c2 : Nat) (B2 : Option Addr) (k2 d2 N2 D2 : Nat) (w : World) (h1 : RatAt w A l c B k d N D) (h2 : RatAt w A2 l2 c2 B2 k2 d2 N2 D2) (hN : nw N ≤ 1073741824) (hD : nw D ≤ 1073741824) (hN2 : nw N2 ≤ 1073741824) (hD2 : nw D2 ≤ 1073741824) (hp1 : D ≠ 0) (hp2 : D2 ≠ 0) :
    Calls Tryz.prog 31 #[.agg #[.bool false, .int .i64 i, .bool s, .slice A l c, .slice B k d, .int .i64 j, .bool r, .slice A2 l2 c2, .slice B2 k2 d2]] w (RetI (lsLo i s N D) (lsHi j r N2 D2) w) := by
  have hb2 := Blk.new2 w (.cells #[.bool false, .int .i64 i, .bool s, .slice A l c, .slice B k d, .int .i64 j, .bool r, .slice A2 l2 c2, .slice B2 k2 d2] 57) 24 #[.int .u64 0, .int .u64 0]
  have hbI := (Blk.new w 57 #[.bool false, .int .i64 i, .bool s, .slice A l c, .slice B k d, .int .i64 j, .bool r, .slice A2 l2 c2, .slice B2 k2 d2]).ext ((Ext.refl _).alloc (.cells #[.int .u64 0, .int .u64 0] 24))
  have hEw : Ext w ((w.alloc (.cells #[.bool false, .int .i64 i, .bool s, .slice A l c, .slice B k d, .int .i64 j, .bool r, .slice A2 l2 c2, .slice B2 k2 d2] 57)).alloc (.cells #[.int .u64 0, .int .u64 0] 24)) := ((Ext.refl w).alloc _).alloc _
  obtain ⟨w1, hw1⟩ : ∃ w1, w1 = (w.alloc (.cells #[.bool false, .int .i64 i, .bool s, .slice A l c, .slice B k d, .int .i64 j, .bool r, .slice A2 l2 c2, .slice B2 k2 d2] 57)).alloc (.cells #[.int .u64 0, .int .u64 0] 24) := ⟨_, rfl⟩
  rw [← hw1] at hb2 hbI hEw
  obtain ⟨G, hG⟩ : ∃ G, G = w.heap.size + 1 := ⟨_, rfl⟩
  rw [← hG] at hb2
  have hGw : w.heap.size ≤ G := by omega
  have HGS := Lib.hid (show w.heap.size + 1 = G from hG.symm)
  have HW1 := Lib.hid hw1
  have hr1 := h1.ext hEw
  have hr2 := h2.ext hEw
  have i0 : w1.cell? ⟨w.heap.size, 0, none⟩ = some (.bool false) := hbI.cell 0
  have i1 : w1.cell? ⟨w.heap.size, 1, none⟩ = some (.int .i64 i) := hbI.cell 1
  have i2 : w1.cell? ⟨w.heap.size, 2, none⟩ = some (.bool s) := hbI.cell 2
  have i3 : w1.cell? ⟨w.heap.size, 3, none⟩ = some (.slice A l c) := hbI.cell 3
  have i4 : w1.cell? ⟨w.heap.size, 4, none⟩ = some (.slice B k d) := hbI.cell 4
  have i5 : w1.cell? ⟨w.heap.size, 5, none⟩ = some (.int .i64 j) := hbI.cell 5
  have i6 : w1.cell? ⟨w.heap.size, 6, none⟩ = some (.bool r) := hbI.cell 6
  have i7 : w1.cell? ⟨w.heap.size, 7, none⟩ = some (.slice A2 l2 c2) := hbI.cell 7
  have i8 : w1.cell? ⟨w.heap.size, 8, none⟩ = some (.slice B2 k2 d2) := hbI.cell 8
  have hlt := hbI.lt
  have hbI' := hbI
  have hen := fun w => entire6_any w
  have hc1 := fun w h => bits3_any (-1) s A l c B k d N D w h hN hD hp1
  have hc2 := fun w h => bits3_any 1 r A2 l2 c2 B2 k2 d2 N2 D2 w h hN2 hD2 hp2
  obtain ⟨p, hp⟩ : ∃ p, p = infR := ⟨_, rfl⟩
  obtain ⟨q, hq⟩ : ∃ q, q = minf := ⟨_, rfl⟩
  obtain ⟨x, hx⟩ : ∃ x, x = rnd (-1) s (zr N D) := ⟨_, rfl⟩
  obtain ⟨y, hy⟩ : ∃ y, y = rnd 1 r (zr N2 D2) := ⟨_, rfl⟩
  rw [← hp, ← hq] at hen
  rw [← hx] at hc1
  rw [← hy] at hc2
  unfold lsLo lsHi
  rw [← hp, ← hq, ← hx, ← hy]
  have HEN := Lib.hid hen
  have HC1 := Lib.hid hc1
  have HC2 := Lib.hid hc2
  clear hw1 hG h1 h2 hen hp hq hx hy hc1 hc2 hN hD hN2 hD2 hp1 hp2 hbI
  by_cases e1 : i = 0 <;> by_cases e2 : j = 0
  · subst e1
    subst e2
    rw [if_pos rfl]
    rw [if_pos rfl]
    go_enter Tryz.func31, Tryz.ntmps31
    go_wp2_with fail
    rw [← HW1.out, HGS.out]
    clear HW1 HGS
    go_wp2_with fail
    refine (HEN.out _).mono ?_
    rintro e w2 ⟨rfl, hE2⟩
    have hE3 : Ext w1 (w2.alloc (.cells #[.int .u64 (q : Int), .int .u64 (p : Int)] 24)) := hE2.alloc _
    have hst : LS w.heap.size G w2.heap.size 0 s A l c B k d N D 0 r A2 l2 c2 B2 k2 d2 N2 D2 w (w2.alloc (.cells #[.int .u64 (q : Int), .int .u64 (p : Int)] 24)) q p := ⟨hbI'.ext hE3, hb2.ext hE3, Blk.new w2 _ _, hr1.ext hE3, hr2.ext hE3, hEw.trans hE3, by have h1 := hbI'.lt; have h2 := hE2.size; omega, by have h1 := hbI'.lt; have h2 := hE2.size; omega, by have h1 := hb2.lt; have h2 := hE2.size; omega⟩
    clear hb2 hbI' hr1 hr2 hEw hE3 i0 i1 i2 i3 i4 i5 i6 i7 i8 hlt hE2
    have i0 : (w2.alloc (.cells #[.int .u64 (q : Int), .int .u64 (p : Int)] 24)).cell? ⟨w.heap.size, 0, none⟩ = some (.bool false) := hst.hH.cell 0
    have i1 : (w2.alloc (.cells #[.int .u64 (q : Int), .int .u64 (p : Int)] 24)).cell? ⟨w.heap.size, 1, none⟩ = some (.int .i64 0) := hst.hH.cell 1
    have i2 : (w2.alloc (.cells #[.int .u64 (q : Int), .int .u64 (p : Int)] 24)).cell? ⟨w.heap.size, 2, none⟩ = some (.bool s) := hst.hH.cell 2
    have i3 : (w2.alloc (.cells #[.int .u64 (q : Int), .int .u64 (p : Int)] 24)).cell? ⟨w.heap.size, 3, none⟩ = some (.slice A l c) := hst.hH.cell 3
    have i4 : (w2.alloc (.cells #[.int .u64 (q : Int), .int .u64 (p : Int)] 24)).cell? ⟨w.heap.size, 4, none⟩ = some (.slice B k d) := hst.hH.cell 4
    have i5 : (w2.alloc (.cells #[.int .u64 (q : Int), .int .u64 (p : Int)] 24)).cell? ⟨w.heap.size, 5, none⟩ = some (.int .i64 0) := hst.hH.cell 5
    have i6 : (w2.alloc (.cells #[.int .u64 (q : Int), .int .u64 (p : Int)] 24)).cell? ⟨w.heap.size, 6, none⟩ = some (.bool r) := hst.hH.cell 6
    have i7 : (w2.alloc (.cells #[.int .u64 (q : Int), .int .u64 (p : Int)] 24)).cell? ⟨w.heap.size, 7, none⟩ = some (.slice A2 l2 c2) := hst.hH.cell 7
    have i8 : (w2.alloc (.cells #[.int .u64 (q : Int), .int .u64 (p : Int)] 24)).cell? ⟨w.heap.size, 8, none⟩ = some (.slice B2 k2 d2) := hst.hH.cell 8
    have g0 : (w2.alloc (.cells #[.int .u64 (q : Int), .int .u64 (p : Int)] 24)).cell? ⟨G, 0, none⟩ = some (.int .u64 0) := hst.hG.cell 0
    have g1 : (w2.alloc (.cells #[.int .u64 (q : Int), .int .u64 (p : Int)] 24)).cell? ⟨G, 1, none⟩ = some (.int .u64 0) := hst.hG.cell 1
    have y0 : (w2.alloc (.cells #[.int .u64 (q : Int), .int .u64 (p : Int)] 24)).cell? ⟨w2.heap.size, 0, none⟩ = some (.int .u64 (q : Int)) := hst.hY.cell 0
    have y1 : (w2.alloc (.cells #[.int .u64 (q : Int), .int .u64 (p : Int)] 24)).cell? ⟨w2.heap.size, 1, none⟩ = some (.int .u64 (p : Int)) := hst.hY.cell 1
    have fg0 : (w2.alloc (.cells #[.int .u64 (q : Int), .int .u64 (p : Int)] 24)).frozen? ⟨G, 0, none⟩ = false := hst.hG.frozen 0
    have fg1 : (w2.alloc (.cells #[.int .u64 (q : Int), .int .u64 (p : Int)] 24)).frozen? ⟨G, 1, none⟩ = false := hst.hG.frozen 1
    have fy0 : (w2.alloc (.cells #[.int .u64 (q : Int), .int .u64 (p : Int)] 24)).frozen? ⟨w2.heap.size, 0, none⟩ = false := hst.hY.frozen 0
    have fy1 : (w2.alloc (.cells #[.int .u64 (q : Int), .int .u64 (p : Int)] 24)).frozen? ⟨w2.heap.size, 1, none⟩ = false := hst.hY.frozen 1
    have hGl : G < (w2.alloc (.cells #[.int .u64 (q : Int), .int .u64 (p : Int)] 24)).heap.size := hst.hG.lt
    have hYl : w2.heap.size < (w2.alloc (.cells #[.int .u64 (q : Int), .int .u64 (p : Int)] 24)).heap.size := hst.hY.lt
    go_wp2_with fail
    clear i0 i1 i2 i3 i4 i5 i6 i7 i8 g0 g1 y0 y1 fg0 fg1 fy0 fy1 hGl hYl
    refine (HC1.out _ hst.r1).mono ?_
    rintro e w4 ⟨rfl, hE4⟩
    have hst4 := hst.ext hE4
    have fz0 : w4.frozen? ⟨w2.heap.size, 0, none⟩ = false := hst4.hY.frozen 0
    have hzl : w2.heap.size < w4.heap.size := hst4.hY.lt
    have z0 : w4.cell? ⟨w2.heap.size, 0, none⟩ = some (.int .u64 (q : Int)) := hst4.hY.cell 0
    have hst5 := hst4.set0 x
    clear hst hst4 hE4
    have i0 : (w4.setCell ⟨w2.heap.size, 0, none⟩ (.int .u64 (x : Int))).cell? ⟨w.heap.size, 0, none⟩ = some (.bool false) := hst5.hH.cell 0
    have i1 : (w4.setCell ⟨w2.heap.size, 0, none⟩ (.int .u64 (x : Int))).cell? ⟨w.heap.size, 1, none⟩ = some (.int .i64 0) := hst5.hH.cell 1
    have i2 : (w4.setCell ⟨w2.heap.size, 0, none⟩ (.int .u64 (x : Int))).cell? ⟨w.heap.size, 2, none⟩ = some (.bool s) := hst5.hH.cell 2
    have i3 : (w4.setCell ⟨w2.heap.size, 0, none⟩ (.int .u64 (x : Int))).cell? ⟨w.heap.size, 3, none⟩ = some (.slice A l c) := hst5.hH.cell 3
    have i4 : (w4.setCell ⟨w2.heap.size, 0, none⟩ (.int .u64 (x : Int))).cell? ⟨w.heap.size, 4, none⟩ = some (.slice B k d) := hst5.hH.cell 4
    have i5 : (w4.setCell ⟨w2.heap.size, 0, none⟩ (.int .u64 (x : Int))).cell? ⟨w.heap.size, 5, none⟩ = some (.int .i64 0) := hst5.hH.cell 5
    have i6 : (w4.setCell ⟨w2.heap.size, 0, none⟩ (.int .u64 (x : Int))).cell? ⟨w.heap.size, 6, none⟩ = some (.bool r) := hst5.hH.cell 6
    have i7 : (w4.setCell ⟨w2.heap.size, 0, none⟩ (.int .u64 (x : Int))).cell? ⟨w.heap.size, 7, none⟩ = some (.slice A2 l2 c2) := hst5.hH.cell 7
    have i8 : (w4.setCell ⟨w2.heap.size, 0, none⟩ (.int .u64 (x : Int))).cell? ⟨w.heap.size, 8, none⟩ = some (.slice B2 k2 d2) := hst5.hH.cell 8
    have g0 : (w4.setCell ⟨w2.heap.size, 0, none⟩ (.int .u64 (x : Int))).cell? ⟨G, 0, none⟩ = some (.int .u64 0) := hst5.hG.cell 0
    have g1 : (w4.setCell ⟨w2.heap.size, 0, none⟩ (.int .u64 (x : Int))).cell? ⟨G, 1, none⟩ = some (.int .u64 0) := hst5.hG.cell 1
    have y0 : (w4.setCell ⟨w2.heap.size, 0, none⟩ (.int .u64 (x : Int))).cell? ⟨w2.heap.size, 0, none⟩ = some (.int .u64 (x : Int)) := hst5.hY.cell 0
    have y1 : (w4.setCell ⟨w2.heap.size, 0, none⟩ (.int .u64 (x : Int))).cell? ⟨w2.heap.size, 1, none⟩ = some (.int .u64 (p : Int)) := hst5.hY.cell 1
    have fg0 : (w4.setCell ⟨w2.heap.size, 0, none⟩ (.int .u64 (x : Int))).frozen? ⟨G, 0, none⟩ = false := hst5.hG.frozen 0
    have fg1 : (w4.setCell ⟨w2.heap.size, 0, none⟩ (.int .u64 (x : Int))).frozen? ⟨G, 1, none⟩ = false := hst5.hG.frozen 1
    have fy0 : (w4.setCell ⟨w2.heap.size, 0, none⟩ (.int .u64 (x : Int))).frozen? ⟨w2.heap.size, 0, none⟩ = false := hst5.hY.frozen 0
    have fy1 : (w4.setCell ⟨w2.heap.size, 0, none⟩ (.int .u64 (x : Int))).frozen? ⟨w2.heap.size, 1, none⟩ = false := hst5.hY.frozen 1
    have hGl : G < (w4.setCell ⟨w2.heap.size, 0, none⟩ (.int .u64 (x : Int))).heap.size := hst5.hG.lt
    have hYl : w2.heap.size < (w4.setCell ⟨w2.heap.size, 0, none⟩ (.int .u64 (x : Int))).heap.size := hst5.hY.lt
    go_wp2_with fail
    clear i0 i1 i2 i3 i4 i5 i6 i7 i8 g0 g1 y0 y1 fg0 fg1 fy0 fy1 hGl hYl
    refine (HC2.out _ hst5.r2).mono ?_
    rintro e w6 ⟨rfl, hE6⟩
    have hst6 := hst5.ext hE6
    have fz1 : w6.frozen? ⟨w2.heap.size, 1, none⟩ = false := hst6.hY.frozen 1
    have hzl2 : w2.heap.size < w6.heap.size := hst6.hY.lt
    have z1 : w6.cell? ⟨w2.heap.size, 1, none⟩ = some (.int .u64 (p : Int)) := hst6.hY.cell 1
    have hst7 := hst6.set1 y
    clear hst5 hst6 hE6
    have i0 : (w6.setCell ⟨w2.heap.size, 1, none⟩ (.int .u64 (y : Int))).cell? ⟨w.heap.size, 0, none⟩ = some (.bool false) := hst7.hH.cell 0
    have i1 : (w6.setCell ⟨w2.heap.size, 1, none⟩ (.int .u64 (y : Int))).cell? ⟨w.heap.size, 1, none⟩ = some (.int .i64 0) := hst7.hH.cell 1
    have i2 : (w6.setCell ⟨w2.heap.size, 1, none⟩ (.int .u64 (y : Int))).cell? ⟨w.heap.size, 2, none⟩ = some (.bool s) := hst7.hH.cell 2
    have i3 : (w6.setCell ⟨w2.heap.size, 1, none⟩ (.int .u64 (y : Int))).cell? ⟨w.heap.size, 3, none⟩ = some (.slice A l c) := hst7.hH.cell 3
    have i4 : (w6.setCell ⟨w2.heap.size, 1, none⟩ (.int .u64 (y : Int))).cell? ⟨w.heap.size, 4, none⟩ = some (.slice B k d) := hst7.hH.cell 4
    have i5 : (w6.setCell ⟨w2.heap.size, 1, none⟩ (.int .u64 (y : Int))).cell? ⟨w.heap.size, 5, none⟩ = some (.int .i64 0) := hst7.hH.cell 5
    have i6 : (w6.setCell ⟨w2.heap.size, 1, none⟩ (.int .u64 (y : Int))).cell? ⟨w.heap.size, 6, none⟩ = some (.bool r) := hst7.hH.cell 6
    have i7 : (w6.setCell ⟨w2.heap.size, 1, none⟩ (.int .u64 (y : Int))).cell? ⟨w.heap.size, 7, none⟩ = some (.slice A2 l2 c2) := hst7.hH.cell 7
    have i8 : (w6.setCell ⟨w2.heap.size, 1, none⟩ (.int .u64 (y : Int))).cell? ⟨w.heap.size, 8, none⟩ = some (.slice B2 k2 d2) := hst7.hH.cell 8
    have g0 : (w6.setCell ⟨w2.heap.size, 1, none⟩ (.int .u64 (y : Int))).cell? ⟨G, 0, none⟩ = some (.int .u64 0) := hst7.hG.cell 0
    have g1 : (w6.setCell ⟨w2.heap.size, 1, none⟩ (.int .u64 (y : Int))).cell? ⟨G, 1, none⟩ = some (.int .u64 0) := hst7.hG.cell 1
    have y0 : (w6.setCell ⟨w2.heap.size, 1, none⟩ (.int .u64 (y : Int))).cell? ⟨w2.heap.size, 0, none⟩ = some (.int .u64 (x : Int)) := hst7.hY.cell 0
    have y1 : (w6.setCell ⟨w2.heap.size, 1, none⟩ (.int .u64 (y : Int))).cell? ⟨w2.heap.size, 1, none⟩ = some (.int .u64 (y : Int)) := hst7.hY.cell 1
    have fg0 : (w6.setCell ⟨w2.heap.size, 1, none⟩ (.int .u64 (y : Int))).frozen? ⟨G, 0, none⟩ = false := hst7.hG.frozen 0
    have fg1 : (w6.setCell ⟨w2.heap.size, 1, none⟩ (.int .u64 (y : Int))).frozen? ⟨G, 1, none⟩ = false := hst7.hG.frozen 1
    have fy0 : (w6.setCell ⟨w2.heap.size, 1, none⟩ (.int .u64 (y : Int))).frozen? ⟨w2.heap.size, 0, none⟩ = false := hst7.hY.frozen 0
    have fy1 : (w6.setCell ⟨w2.heap.size, 1, none⟩ (.int .u64 (y : Int))).frozen? ⟨w2.heap.size, 1, none⟩ = false := hst7.hY.frozen 1
    have hGl : G < (w6.setCell ⟨w2.heap.size, 1, none⟩ (.int .u64 (y : Int))).heap.size := hst7.hG.lt
    have hYl : w2.heap.size < (w6.setCell ⟨w2.heap.size, 1, none⟩ (.int .u64 (y : Int))).heap.size := hst7.hY.lt
    go_wp2_with fail
    exact bodyPost_ret (v := .agg #[.int .u64 (x : Int), .int .u64 (y : Int)]) (by simp [results, Tryz.results31, go_sem, hGl, g0, g1]) rfl ⟨rfl, (hst7.ex.setCell hGw _).setCell hGw _⟩
  · subst e1
    have e2b : (j == 0) = false := by rw [beq_eq_false_iff_ne]; exact e2
    rw [if_pos rfl]
    rw [if_neg e2]
    go_enter Tryz.func31, Tryz.ntmps31
    go_wp2_with fail
    rw [← HW1.out, HGS.out]
    clear HW1 HGS
    go_wp2_with fail
    refine (HEN.out _).mono ?_
    rintro e w2 ⟨rfl, hE2⟩
    have hE3 : Ext w1 (w2.alloc (.cells #[.int .u64 (q : Int), .int .u64 (p : Int)] 24)) := hE2.alloc _
    have hst : LS w.heap.size G w2.heap.size 0 s A l c B k d N D j r A2 l2 c2 B2 k2 d2 N2 D2 w (w2.alloc (.cells #[.int .u64 (q : Int), .int .u64 (p : Int)] 24)) q p := ⟨hbI'.ext hE3, hb2.ext hE3, Blk.new w2 _ _, hr1.ext hE3, hr2.ext hE3, hEw.trans hE3, by have h1 := hbI'.lt; have h2 := hE2.size; omega, by have h1 := hbI'.lt; have h2 := hE2.size; omega, by have h1 := hb2.lt; have h2 := hE2.size; omega⟩
    clear hb2 hbI' hr1 hr2 hEw hE3 i0 i1 i2 i3 i4 i5 i6 i7 i8 hlt hE2
    have i0 : (w2.alloc (.cells #[.int .u64 (q : Int), .int .u64 (p : Int)] 24)).cell? ⟨w.heap.size, 0, none⟩ = some (.bool false) := hst.hH.cell 0
    have i1 : (w2.alloc (.cells #[.int .u64 (q : Int), .int .u64 (p : Int)] 24)).cell? ⟨w.heap.size, 1, none⟩ = some (.int .i64 0) := hst.hH.cell 1
    have i2 : (w2.alloc (.cells #[.int .u64 (q : Int), .int .u64 (p : Int)] 24)).cell? ⟨w.heap.size, 2, none⟩ = some (.bool s) := hst.hH.cell 2
    have i3 : (w2.alloc (.cells #[.int .u64 (q : Int), .int .u64 (p : Int)] 24)).cell? ⟨w.heap.size, 3, none⟩ = some (.slice A l c) := hst.hH.cell 3
    have i4 : (w2.alloc (.cells #[.int .u64 (q : Int), .int .u64 (p : Int)] 24)).cell? ⟨w.heap.size, 4, none⟩ = some (.slice B k d) := hst.hH.cell 4
    have i5 : (w2.alloc (.cells #[.int .u64 (q : Int), .int .u64 (p : Int)] 24)).cell? ⟨w.heap.size, 5, none⟩ = some (.int .i64 j) := hst.hH.cell 5
    have i6 : (w2.alloc (.cells #[.int .u64 (q : Int), .int .u64 (p : Int)] 24)).cell? ⟨w.heap.size, 6, none⟩ = some (.bool r) := hst.hH.cell 6
    have i7 : (w2.alloc (.cells #[.int .u64 (q : Int), .int .u64 (p : Int)] 24)).cell? ⟨w.heap.size, 7, none⟩ = some (.slice A2 l2 c2) := hst.hH.cell 7
    have i8 : (w2.alloc (.cells #[.int .u64 (q : Int), .int .u64 (p : Int)] 24)).cell? ⟨w.heap.size, 8, none⟩ = some (.slice B2 k2 d2) := hst.hH.cell 8
    have g0 : (w2.alloc (.cells #[.int .u64 (q : Int), .int .u64 (p : Int)] 24)).cell? ⟨G, 0, none⟩ = some (.int .u64 0) := hst.hG.cell 0
    have g1 : (w2.alloc (.cells #[.int .u64 (q : Int), .int .u64 (p : Int)] 24)).cell? ⟨G, 1, none⟩ = some (.int .u64 0) := hst.hG.cell 1
    have y0 : (w2.alloc (.cells #[.int .u64 (q : Int), .int .u64 (p : Int)] 24)).cell? ⟨w2.heap.size, 0, none⟩ = some (.int .u64 (q : Int)) := hst.hY.cell 0
    have y1 : (w2.alloc (.cells #[.int .u64 (q : Int), .int .u64 (p : Int)] 24)).cell? ⟨w2.heap.size, 1, none⟩ = some (.int .u64 (p : Int)) := hst.hY.cell 1
    have fg0 : (w2.alloc (.cells #[.int .u64 (q : Int), .int .u64 (p : Int)] 24)).frozen? ⟨G, 0, none⟩ = false := hst.hG.frozen 0
    have fg1 : (w2.alloc (.cells #[.int .u64 (q : Int), .int .u64 (p : Int)] 24)).frozen? ⟨G, 1, none⟩ = false := hst.hG.frozen 1
    have fy0 : (w2.alloc (.cells #[.int .u64 (q : Int), .int .u64 (p : Int)] 24)).frozen? ⟨w2.heap.size, 0, none⟩ = false := hst.hY.frozen 0
    have fy1 : (w2.alloc (.cells #[.int .u64 (q : Int), .int .u64 (p : Int)] 24)).frozen? ⟨w2.heap.size, 1, none⟩ = false := hst.hY.frozen 1
    have hGl : G < (w2.alloc (.cells #[.int .u64 (q : Int), .int .u64 (p : Int)] 24)).heap.size := hst.hG.lt
    have hYl : w2.heap.size < (w2.alloc (.cells #[.int .u64 (q : Int), .int .u64 (p : Int)] 24)).heap.size := hst.hY.lt
    go_wp2_with fail
    clear i0 i1 i2 i3 i4 i5 i6 i7 i8 g0 g1 y0 y1 fg0 fg1 fy0 fy1 hGl hYl
    refine (HC1.out _ hst.r1).mono ?_
    rintro e w4 ⟨rfl, hE4⟩
    have hst4 := hst.ext hE4
    have fz0 : w4.frozen? ⟨w2.heap.size, 0, none⟩ = false := hst4.hY.frozen 0
    have hzl : w2.heap.size < w4.heap.size := hst4.hY.lt
    have z0 : w4.cell? ⟨w2.heap.size, 0, none⟩ = some (.int .u64 (q : Int)) := hst4.hY.cell 0
    have hst5 := hst4.set0 x
    clear hst hst4 hE4
    have i0 : (w4.setCell ⟨w2.heap.size, 0, none⟩ (.int .u64 (x : Int))).cell? ⟨w.heap.size, 0, none⟩ = some (.bool false) := hst5.hH.cell 0
    have i1 : (w4.setCell ⟨w2.heap.size, 0, none⟩ (.int .u64 (x : Int))).cell? ⟨w.heap.size, 1, none⟩ = some (.int .i64 0) := hst5.hH.cell 1
    have i2 : (w4.setCell ⟨w2.heap.size, 0, none⟩ (.int .u64 (x : Int))).cell? ⟨w.heap.size, 2, none⟩ = some (.bool s) := hst5.hH.cell 2
    have i3 : (w4.setCell ⟨w2.heap.size, 0, none⟩ (.int .u64 (x : Int))).cell? ⟨w.heap.size, 3, none⟩ = some (.slice A l c) := hst5.hH.cell 3
    have i4 : (w4.setCell ⟨w2.heap.size, 0, none⟩ (.int .u64 (x : Int))).cell? ⟨w.heap.size, 4, none⟩ = some (.slice B k d) := hst5.hH.cell 4
    have i5 : (w4.setCell ⟨w2.heap.size, 0, none⟩ (.int .u64 (x : Int))).cell? ⟨w.heap.size, 5, none⟩ = some (.int .i64 j) := hst5.hH.cell 5
    have i6 : (w4.setCell ⟨w2.heap.size, 0, none⟩ (.int .u64 (x : Int))).cell? ⟨w.heap.size, 6, none⟩ = some (.bool r) := hst5.hH.cell 6
    have i7 : (w4.setCell ⟨w2.heap.size, 0, none⟩ (.int .u64 (x : Int))).cell? ⟨w.heap.size, 7, none⟩ = some (.slice A2 l2 c2) := hst5.hH.cell 7
    have i8 : (w4.setCell ⟨w2.heap.size, 0, none⟩ (.int .u64 (x : Int))).cell? ⟨w.heap.size, 8, none⟩ = some (.slice B2 k2 d2) := hst5.hH.cell 8
    have g0 : (w4.setCell ⟨w2.heap.size, 0, none⟩ (.int .u64 (x : Int))).cell? ⟨G, 0, none⟩ = some (.int .u64 0) := hst5.hG.cell 0
    have g1 : (w4.setCell ⟨w2.heap.size, 0, none⟩ (.int .u64 (x : Int))).cell? ⟨G, 1, none⟩ = some (.int .u64 0) := hst5.hG.cell 1
    have y0 : (w4.setCell ⟨w2.heap.size, 0, none⟩ (.int .u64 (x : Int))).cell? ⟨w2.heap.size, 0, none⟩ = some (.int .u64 (x : Int)) := hst5.hY.cell 0
    have y1 : (w4.setCell ⟨w2.heap.size, 0, none⟩ (.int .u64 (x : Int))).cell? ⟨w2.heap.size, 1, none⟩ = some (.int .u64 (p : Int)) := hst5.hY.cell 1
    have fg0 : (w4.setCell ⟨w2.heap.size, 0, none⟩ (.int .u64 (x : Int))).frozen? ⟨G, 0, none⟩ = false := hst5.hG.frozen 0
    have fg1 : (w4.setCell ⟨w2.heap.size, 0, none⟩ (.int .u64 (x : Int))).frozen? ⟨G, 1, none⟩ = false := hst5.hG.frozen 1
    have fy0 : (w4.setCell ⟨w2.heap.size, 0, none⟩ (.int .u64 (x : Int))).frozen? ⟨w2.heap.size, 0, none⟩ = false := hst5.hY.frozen 0
    have fy1 : (w4.setCell ⟨w2.heap.size, 0, none⟩ (.int .u64 (x : Int))).frozen? ⟨w2.heap.size, 1, none⟩ = false := hst5.hY.frozen 1
    have hGl : G < (w4.setCell ⟨w2.heap.size, 0, none⟩ (.int .u64 (x : Int))).heap.size := hst5.hG.lt
    have hYl : w2.heap.size < (w4.setCell ⟨w2.heap.size, 0, none⟩ (.int .u64 (x : Int))).heap.size := hst5.hY.lt
    go_wp2_with fail
    exact bodyPost_ret (v := .agg #[.int .u64 (x : Int), .int .u64 (p : Int)]) (by simp [results, Tryz.results31, go_sem, hGl, g0, g1]) rfl ⟨rfl, (hst5.ex.setCell hGw _).setCell hGw _⟩
  · have e1b : (i == 0) = false := by rw [beq_eq_false_iff_ne]; exact e1
    subst e2
    rw [if_neg e1]
    rw [if_pos rfl]
    go_enter Tryz.func31, Tryz.ntmps31
    go_wp2_with fail
    rw [← HW1.out, HGS.out]
    clear HW1 HGS
    go_wp2_with fail
    refine (HEN.out _).mono ?_
    rintro e w2 ⟨rfl, hE2⟩
    have hE3 : Ext w1 (w2.alloc (.cells #[.int .u64 (q : Int), .int .u64 (p : Int)] 24)) := hE2.alloc _
    have hst : LS w.heap.size G w2.heap.size i s A l c B k d N D 0 r A2 l2 c2 B2 k2 d2 N2 D2 w (w2.alloc (.cells #[.int .u64 (q : Int), .int .u64 (p : Int)] 24)) q p := ⟨hbI'.ext hE3, hb2.ext hE3, Blk.new w2 _ _, hr1.ext hE3, hr2.ext hE3, hEw.trans hE3, by have h1 := hbI'.lt; have h2 := hE2.size; omega, by have h1 := hbI'.lt; have h2 := hE2.size; omega, by have h1 := hb2.lt; have h2 := hE2.size; omega⟩
    clear hb2 hbI' hr1 hr2 hEw hE3 i0 i1 i2 i3 i4 i5 i6 i7 i8 hlt hE2
    have i0 : (w2.alloc (.cells #[.int .u64 (q : Int), .int .u64 (p : Int)] 24)).cell? ⟨w.heap.size, 0, none⟩ = some (.bool false) := hst.hH.cell 0
    have i1 : (w2.alloc (.cells #[.int .u64 (q : Int), .int .u64 (p : Int)] 24)).cell? ⟨w.heap.size, 1, none⟩ = some (.int .i64 i) := hst.hH.cell 1
    have i2 : (w2.alloc (.cells #[.int .u64 (q : Int), .int .u64 (p : Int)] 24)).cell? ⟨w.heap.size, 2, none⟩ = some (.bool s) := hst.hH.cell 2
    have i3 : (w2.alloc (.cells #[.int .u64 (q : Int), .int .u64 (p : Int)] 24)).cell? ⟨w.heap.size, 3, none⟩ = some (.slice A l c) := hst.hH.cell 3
    have i4 : (w2.alloc (.cells #[.int .u64 (q : Int), .int .u64 (p : Int)] 24)).cell? ⟨w.heap.size, 4, none⟩ = some (.slice B k d) := hst.hH.cell 4
    have i5 : (w2.alloc (.cells #[.int .u64 (q : Int), .int .u64 (p : Int)] 24)).cell? ⟨w.heap.size, 5, none⟩ = some (.int .i64 0) := hst.hH.cell 5
    have i6 : (w2.alloc (.cells #[.int .u64 (q : Int), .int .u64 (p : Int)] 24)).cell? ⟨w.heap.size, 6, none⟩ = some (.bool r) := hst.hH.cell 6
    have i7 : (w2.alloc (.cells #[.int .u64 (q : Int), .int .u64 (p : Int)] 24)).cell? ⟨w.heap.size, 7, none⟩ = some (.slice A2 l2 c2) := hst.hH.cell 7
    have i8 : (w2.alloc (.cells #[.int .u64 (q : Int), .int .u64 (p : Int)] 24)).cell? ⟨w.heap.size, 8, none⟩ = some (.slice B2 k2 d2) := hst.hH.cell 8
    have g0 : (w2.alloc (.cells #[.int .u64 (q : Int), .int .u64 (p : Int)] 24)).cell? ⟨G, 0, none⟩ = some (.int .u64 0) := hst.hG.cell 0
    have g1 : (w2.alloc (.cells #[.int .u64 (q : Int), .int .u64 (p : Int)] 24)).cell? ⟨G, 1, none⟩ = some (.int .u64 0) := hst.hG.cell 1
    have y0 : (w2.alloc (.cells #[.int .u64 (q : Int), .int .u64 (p : Int)] 24)).cell? ⟨w2.heap.size, 0, none⟩ = some (.int .u64 (q : Int)) := hst.hY.cell 0
    have y1 : (w2.alloc (.cells #[.int .u64 (q : Int), .int .u64 (p : Int)] 24)).cell? ⟨w2.heap.size, 1, none⟩ = some (.int .u64 (p : Int)) := hst.hY.cell 1
    have fg0 : (w2.alloc (.cells #[.int .u64 (q : Int), .int .u64 (p : Int)] 24)).frozen? ⟨G, 0, none⟩ = false := hst.hG.frozen 0
    have fg1 : (w2.alloc (.cells #[.int .u64 (q : Int), .int .u64 (p : Int)] 24)).frozen? ⟨G, 1, none⟩ = false := hst.hG.frozen 1
    have fy0 : (w2.alloc (.cells #[.int .u64 (q : Int), .int .u64 (p : Int)] 24)).frozen? ⟨w2.heap.size, 0, none⟩ = false := hst.hY.frozen 0
    have fy1 : (w2.alloc (.cells #[.int .u64 (q : Int), .int .u64 (p : Int)] 24)).frozen? ⟨w2.heap.size, 1, none⟩ = false := hst.hY.frozen 1
    have hGl : G < (w2.alloc (.cells #[.int .u64 (q : Int), .int .u64 (p : Int)] 24)).heap.size := hst.hG.lt
    have hYl : w2.heap.size < (w2.alloc (.cells #[.int .u64 (q : Int), .int .u64 (p : Int)] 24)).heap.size := hst.hY.lt
    go_wp2_with fail
    clear i0 i1 i2 i3 i4 i5 i6 i7 i8 g0 g1 y0 y1 fg0 fg1 fy0 fy1 hGl hYl
    refine (HC2.out _ hst.r2).mono ?_
    rintro e w6 ⟨rfl, hE6⟩
    have hst6 := hst.ext hE6
    have fz1 : w6.frozen? ⟨w2.heap.size, 1, none⟩ = false := hst6.hY.frozen 1
    have hzl2 : w2.heap.size < w6.heap.size := hst6.hY.lt
    have z1 : w6.cell? ⟨w2.heap.size, 1, none⟩ = some (.int .u64 (p : Int)) := hst6.hY.cell 1
    have hst7 := hst6.set1 y
    clear hst hst6 hE6
    have i0 : (w6.setCell ⟨w2.heap.size, 1, none⟩ (.int .u64 (y : Int))).cell? ⟨w.heap.size, 0, none⟩ = some (.bool false) := hst7.hH.cell 0
    have i1 : (w6.setCell ⟨w2.heap.size, 1, none⟩ (.int .u64 (y : Int))).cell? ⟨w.heap.size, 1, none⟩ = some (.int .i64 i) := hst7.hH.cell 1
    have i2 : (w6.setCell ⟨w2.heap.size, 1, none⟩ (.int .u64 (y : Int))).cell? ⟨w.heap.size, 2, none⟩ = some (.bool s) := hst7.hH.cell 2
    have i3 : (w6.setCell ⟨w2.heap.size, 1, none⟩ (.int .u64 (y : Int))).cell? ⟨w.heap.size, 3, none⟩ = some (.slice A l c) := hst7.hH.cell 3
    have i4 : (w6.setCell ⟨w2.heap.size, 1, none⟩ (.int .u64 (y : Int))).cell? ⟨w.heap.size, 4, none⟩ = some (.slice B k d) := hst7.hH.cell 4
    have i5 : (w6.setCell ⟨w2.heap.size, 1, none⟩ (.int .u64 (y : Int))).cell? ⟨w.heap.size, 5, none⟩ = some (.int .i64 0) := hst7.hH.cell 5
    have i6 : (w6.setCell ⟨w2.heap.size, 1, none⟩ (.int .u64 (y : Int))).cell? ⟨w.heap.size, 6, none⟩ = some (.bool r) := hst7.hH.cell 6
    have i7 : (w6.setCell ⟨w2.heap.size, 1, none⟩ (.int .u64 (y : Int))).cell? ⟨w.heap.size, 7, none⟩ = some (.slice A2 l2 c2) := hst7.hH.cell 7
    have i8 : (w6.setCell ⟨w2.heap.size, 1, none⟩ (.int .u64 (y : Int))).cell? ⟨w.heap.size, 8, none⟩ = some (.slice B2 k2 d2) := hst7.hH.cell 8
    have g0 : (w6.setCell ⟨w2.heap.size, 1, none⟩ (.int .u64 (y : Int))).cell? ⟨G, 0, none⟩ = some (.int .u64 0) := hst7.hG.cell 0
    have g1 : (w6.setCell ⟨w2.heap.size, 1, none⟩ (.int .u64 (y : Int))).cell? ⟨G, 1, none⟩ = some (.int .u64 0) := hst7.hG.cell 1
    have y0 : (w6.setCell ⟨w2.heap.size, 1, none⟩ (.int .u64 (y : Int))).cell? ⟨w2.heap.size, 0, none⟩ = some (.int .u64 (q : Int)) := hst7.hY.cell 0
    have y1 : (w6.setCell ⟨w2.heap.size, 1, none⟩ (.int .u64 (y : Int))).cell? ⟨w2.heap.size, 1, none⟩ = some (.int .u64 (y : Int)) := hst7.hY.cell 1
    have fg0 : (w6.setCell ⟨w2.heap.size, 1, none⟩ (.int .u64 (y : Int))).frozen? ⟨G, 0, none⟩ = false := hst7.hG.frozen 0
    have fg1 : (w6.setCell ⟨w2.heap.size, 1, none⟩ (.int .u64 (y : Int))).frozen? ⟨G, 1, none⟩ = false := hst7.hG.frozen 1
    have fy0 : (w6.setCell ⟨w2.heap.size, 1, none⟩ (.int .u64 (y : Int))).frozen? ⟨w2.heap.size, 0, none⟩ = false := hst7.hY.frozen 0
    have fy1 : (w6.setCell ⟨w2.heap.size, 1, none⟩ (.int .u64 (y : Int))).frozen? ⟨w2.heap.size, 1, none⟩ = false := hst7.hY.frozen 1
    have hGl : G < (w6.setCell ⟨w2.heap.size, 1, none⟩ (.int .u64 (y : Int))).heap.size := hst7.hG.lt
    have hYl : w2.heap.size < (w6.setCell ⟨w2.heap.size, 1, none⟩ (.int .u64 (y : Int))).heap.size := hst7.hY.lt
    go_wp2_with fail
    exact bodyPost_ret (v := .agg #[.int .u64 (q : Int), .int .u64 (y : Int)]) (by simp [results, Tryz.results31, go_sem, hGl, g0, g1]) rfl ⟨rfl, (hst7.ex.setCell hGw _).setCell hGw _⟩
  · have e1b : (i == 0) = false := by rw [beq_eq_false_iff_ne]; exact e1
    have e2b : (j == 0) = false := by rw [beq_eq_false_iff_ne]; exact e2
    rw [if_neg e1]
    rw [if_neg e2]
    go_enter Tryz.func31, Tryz.ntmps31
    go_wp2_with fail
    rw [← HW1.out, HGS.out]
    clear HW1 HGS
    go_wp2_with fail
    refine (HEN.out _).mono ?_
    rintro e w2 ⟨rfl, hE2⟩
    have hE3 : Ext w1 (w2.alloc (.cells #[.int .u64 (q : Int), .int .u64 (p : Int)] 24)) := hE2.alloc _
    have hst : LS w.heap.size G w2.heap.size i s A l c B k d N D j r A2 l2 c2 B2 k2 d2 N2 D2 w (w2.alloc (.cells #[.int .u64 (q : Int), .int .u64 (p : Int)] 24)) q p := ⟨hbI'.ext hE3, hb2.ext hE3, Blk.new w2 _ _, hr1.ext hE3, hr2.ext hE3, hEw.trans hE3, by have h1 := hbI'.lt; have h2 := hE2.size; omega, by have h1 := hbI'.lt; have h2 := hE2.size; omega, by have h1 := hb2.lt; have h2 := hE2.size; omega⟩
    clear hb2 hbI' hr1 hr2 hEw hE3 i0 i1 i2 i3 i4 i5 i6 i7 i8 hlt hE2
    have i0 : (w2.alloc (.cells #[.int .u64 (q : Int), .int .u64 (p : Int)] 24)).cell? ⟨w.heap.size, 0, none⟩ = some (.bool false) := hst.hH.cell 0
    have i1 : (w2.alloc (.cells #[.int .u64 (q : Int), .int .u64 (p : Int)] 24)).cell? ⟨w.heap.size, 1, none⟩ = some (.int .i64 i) := hst.hH.cell 1
    have i2 : (w2.alloc (.cells #[.int .u64 (q : Int), .int .u64 (p : Int)] 24)).cell? ⟨w.heap.size, 2, none⟩ = some (.bool s) := hst.hH.cell 2
    have i3 : (w2.alloc (.cells #[.int .u64 (q : Int), .int .u64 (p : Int)] 24)).cell? ⟨w.heap.size, 3, none⟩ = some (.slice A l c) := hst.hH.cell 3
    have i4 : (w2.alloc (.cells #[.int .u64 (q : Int), .int .u64 (p : Int)] 24)).cell? ⟨w.heap.size, 4, none⟩ = some (.slice B k d) := hst.hH.cell 4
    have i5 : (w2.alloc (.cells #[.int .u64 (q : Int), .int .u64 (p : Int)] 24)).cell? ⟨w.heap.size, 5, none⟩ = some (.int .i64 j) := hst.hH.cell 5
    have i6 : (w2.alloc (.cells #[.int .u64 (q : Int), .int .u64 (p : Int)] 24)).cell? ⟨w.heap.size, 6, none⟩ = some (.bool r) := hst.hH.cell 6
    have i7 : (w2.alloc (.cells #[.int .u64 (q : Int), .int .u64 (p : Int)] 24)).cell? ⟨w.heap.size, 7, none⟩ = some (.slice A2 l2 c2) := hst.hH.cell 7
    have i8 : (w2.alloc (.cells #[.int .u64 (q : Int), .int .u64 (p : Int)] 24)).cell? ⟨w.heap.size, 8, none⟩ = some (.slice B2 k2 d2) := hst.hH.cell 8
    have g0 : (w2.alloc (.cells #[.int .u64 (q : Int), .int .u64 (p : Int)] 24)).cell? ⟨G, 0, none⟩ = some (.int .u64 0) := hst.hG.cell 0
    have g1 : (w2.alloc (.cells #[.int .u64 (q : Int), .int .u64 (p : Int)] 24)).cell? ⟨G, 1, none⟩ = some (.int .u64 0) := hst.hG.cell 1
    have y0 : (w2.alloc (.cells #[.int .u64 (q : Int), .int .u64 (p : Int)] 24)).cell? ⟨w2.heap.size, 0, none⟩ = some (.int .u64 (q : Int)) := hst.hY.cell 0
    have y1 : (w2.alloc (.cells #[.int .u64 (q : Int), .int .u64 (p : Int)] 24)).cell? ⟨w2.heap.size, 1, none⟩ = some (.int .u64 (p : Int)) := hst.hY.cell 1
    have fg0 : (w2.alloc (.cells #[.int .u64 (q : Int), .int .u64 (p : Int)] 24)).frozen? ⟨G, 0, none⟩ = false := hst.hG.frozen 0
    have fg1 : (w2.alloc (.cells #[.int .u64 (q : Int), .int .u64 (p : Int)] 24)).frozen? ⟨G, 1, none⟩ = false := hst.hG.frozen 1
    have fy0 : (w2.alloc (.cells #[.int .u64 (q : Int), .int .u64 (p : Int)] 24)).frozen? ⟨w2.heap.size, 0, none⟩ = false := hst.hY.frozen 0
    have fy1 : (w2.alloc (.cells #[.int .u64 (q : Int), .int .u64 (p : Int)] 24)).frozen? ⟨w2.heap.size, 1, none⟩ = false := hst.hY.frozen 1
    have hGl : G < (w2.alloc (.cells #[.int .u64 (q : Int), .int .u64 (p : Int)] 24)).heap.size := hst.hG.lt
    have hYl : w2.heap.size < (w2.alloc (.cells #[.int .u64 (q : Int), .int .u64 (p : Int)] 24)).heap.size := hst.hY.lt
    go_wp2_with fail
    exact bodyPost_ret (v := .agg #[.int .u64 (q : Int), .int .u64 (p : Int)]) (by simp [results, Tryz.results31, go_sem, hGl, g0, g1]) rfl ⟨rfl, (hst.ex.setCell hGw _).setCell hGw _⟩
end Go.Proofs.YtadijoeeaineaaaGreatDoor
