/-
  The contracts of chapter 7's document: the magnitude of a bound. Conditions: those that each theorem names.
-/
import Derived.Test.YtcimfccjcikemaaRefW
namespace Go.Proofs.Ytcimfccjcikemaa
open Go.RowKit Nm Rn
set_option maxRecDepth 100000
set_option linter.unusedVariables false
set_option linter.unusedSimpArgs false

set_option maxHeartbeats 2000000 in
theorem magn_pos (i : Int) (hi : -1 ≤ i ∧ i ≤ 1) (s : Bool) (A : Option Addr) (l c : Nat) (B : Option Addr) (k d N D : Nat) (w : World) (h : RatAt w A l c B k d N D) (hN : nw N ≤ 1073741824) (hD : nw D ≤ 1073741824) (x : Int) (hx : ¬ x < 0) (hsg : eS i s N = x) :
    Calls Try.prog 94 #[.agg #[.int .i64 i, .bool s, .slice A l c, .slice B k d]] w (RetEnd i s N D w) := by
  have hs := fun w (h : RatAt w A l c B k d N D) => sign6_any i s A l c B k d N D w h hN
  rw [hsg] at hs
  have HSG := Lib.hid hs
  have hbG := Blk.new2 w (.cells #[.int .i64 i, .bool s, .slice A l c, .slice B k d] 68) 68 #[.int .i64 0, .bool false, .slice none 0 0, .slice none 0 0]
  have hbI := (Blk.new w 68 #[.int .i64 i, .bool s, .slice A l c, .slice B k d]).ext ((Ext.refl _).alloc (.cells #[.int .i64 0, .bool false, .slice none 0 0, .slice none 0 0] 68))
  have hEw : Ext w ((w.alloc (.cells #[.int .i64 i, .bool s, .slice A l c, .slice B k d] 68)).alloc (.cells #[.int .i64 0, .bool false, .slice none 0 0, .slice none 0 0] 68)) := ((Ext.refl w).alloc _).alloc _
  obtain ⟨G, hG⟩ : ∃ G, G = w.heap.size + 1 := ⟨_, rfl⟩
  rw [← hG] at hbG
  have hGw : w.heap.size ≤ G := by omega
  have HGS := Lib.hid (show w.heap.size + 1 = G from hG.symm)
  have hr := h.ext hEw
  clear hs hG h hN hD hi hsg
  have g1 : decide (x < 0) = false := decide_eq_false hx
  go_enter Try.func94, Try.ntmps94
  go_wp2_with fail
  refine (HSG.out _ hr).mono ?_
  rintro e w2 ⟨rfl, hE2⟩
  rw [HGS.out]
  have hb2 := hbI.ext hE2
  have hg2 := hbG.ext hE2
  have hr2 := hr.ext hE2
  have hEE := hEw.trans hE2
  clear hbI hbG hr hEw hE2 HGS HSG
  have i0 : w2.cell? ⟨w.heap.size, 0, none⟩ = some (.int .i64 i) := hb2.cell 0
  have i1 : w2.cell? ⟨w.heap.size, 1, none⟩ = some (.bool s) := hb2.cell 1
  have i2 : w2.cell? ⟨w.heap.size, 2, none⟩ = some (.slice A l c) := hb2.cell 2
  have i3 : w2.cell? ⟨w.heap.size, 3, none⟩ = some (.slice B k d) := hb2.cell 3
  have hGl := hg2.lt
  have q0 : w2.cell? ⟨G, 0, none⟩ = some (.int .i64 0) := hg2.cell 0
  have q1 : w2.cell? ⟨G, 1, none⟩ = some (.bool false) := hg2.cell 1
  have q2 : w2.cell? ⟨G, 2, none⟩ = some (.slice none 0 0) := hg2.cell 2
  have q3 : w2.cell? ⟨G, 3, none⟩ = some (.slice none 0 0) := hg2.cell 3
  have f0 := hg2.frozen 0
  have f1 := hg2.frozen 1
  have f2 := hg2.frozen 2
  have f3 := hg2.frozen 3
  have HB := Lib.hid (RatBox.mk hr2 hg2 (NoU.of rfl))
  clear hb2 hg2 hr2
  go_wp2
  exact bodyPost_ret (v := .agg #[.int .i64 i, .bool s, .slice A l c, .slice B k d]) (by simp [results, Try.results94, go_sem, hGl, q0, q1, q2, q3]) rfl
    ⟨_, _, _, _, _, _, rfl, (HB.out.set4 rfl rfl rfl rfl).rat, hEE.set4 hGw _ _ _ _⟩

set_option maxHeartbeats 2000000 in
theorem magn_neg (i : Int) (hi : -1 ≤ i ∧ i ≤ 1) (s : Bool) (A : Option Addr) (l c : Nat) (B : Option Addr) (k d N D : Nat) (w : World) (h : RatAt w A l c B k d N D) (hN : nw N ≤ 1073741824) (hD : nw D ≤ 1073741824) (x : Int) (hx : x < 0) (hsg : eS i s N = x) :
    Calls Try.prog 94 #[.agg #[.int .i64 i, .bool s, .slice A l c, .slice B k d]] w (RetEnd (-i) (!s && decide (N ≠ 0)) N D w) := by
  have hs := fun w (h : RatAt w A l c B k d N D) => sign6_any i s A l c B k d N D w h hN
  rw [hsg] at hs
  have HSG := Lib.hid hs
  have hbG := Blk.new2 w (.cells #[.int .i64 i, .bool s, .slice A l c, .slice B k d] 68) 68 #[.int .i64 0, .bool false, .slice none 0 0, .slice none 0 0]
  have hbI := (Blk.new w 68 #[.int .i64 i, .bool s, .slice A l c, .slice B k d]).ext ((Ext.refl _).alloc (.cells #[.int .i64 0, .bool false, .slice none 0 0, .slice none 0 0] 68))
  have hEw : Ext w ((w.alloc (.cells #[.int .i64 i, .bool s, .slice A l c, .slice B k d] 68)).alloc (.cells #[.int .i64 0, .bool false, .slice none 0 0, .slice none 0 0] 68)) := ((Ext.refl w).alloc _).alloc _
  obtain ⟨G, hG⟩ : ∃ G, G = w.heap.size + 1 := ⟨_, rfl⟩
  rw [← hG] at hbG
  have hGw : w.heap.size ≤ G := by omega
  have HGS := Lib.hid (show w.heap.size + 1 = G from hG.symm)
  have hr := h.ext hEw
  have hwr : IntKind.i64.wrap (-i) = -i := by simp [IntKind.wrap, IntKind.bits, IntKind.signed]; omega
  obtain ⟨j, hj⟩ : ∃ j, j = -i := ⟨_, rfl⟩
  rw [← hj] at hwr ⊢
  have hneg : IntKind.i64.wrap (-i) = j := by rw [← hj]; exact hwr
  obtain ⟨r, hr'⟩ : ∃ r, r = (!s && decide (N ≠ 0)) := ⟨_, rfl⟩
  have hc := fun w A l c B k d h => rneg_any s A l c B k d N D w h hN hD
  rw [← hr'] at hc ⊢
  have HC := Lib.hid hc
  have g1 : decide (x < 0) = true := decide_eq_true hx
  clear hs hG h hN hD hi hsg hc hr' hj hwr
  go_enter Try.func94, Try.ntmps94
  go_wp2_with fail
  refine (HSG.out _ hr).mono ?_
  rintro e w1 ⟨rfl, hE2⟩
  rw [HGS.out]
  obtain ⟨S, hS⟩ : ∃ S : World → Prop, S = fun wz => Blk wz w.heap.size 68 #[.int .i64 i, .bool s, .slice A l c, .slice B k d] ∧ Blk wz G 68 #[.int .i64 0, .bool false, .slice none 0 0, .slice none 0 0] ∧ RatAt wz A l c B k d N D ∧ Ext w wz := ⟨_, rfl⟩
  have hSE : ∀ w w', S w → Ext w w' → S w' := fun w w' h1 h2 => by rw [hS] at h1 ⊢; exact ⟨h1.1.ext h2, h1.2.1.ext h2, h1.2.2.1.ext h2, h1.2.2.2.trans h2⟩
  have hS1 : S { w1 with drawn := w1.drawn + 1 } := hSE _ _ (by rw [hS]; exact ⟨hbI.ext hE2, hbG.ext hE2, hr.ext hE2, hEw.trans hE2⟩) (Ext.refl w1).drew
  obtain ⟨sp, hsp⟩ : ∃ sp : Nat → Sp, sp = ofList [det (.pointer (some ⟨w.heap.size, 0, none⟩)), det (.int .i64 i), det (.int .i64 j), det (.pointer (some ⟨w.heap.size, 1, none⟩)), det (.agg #[.bool s, .slice A l c, .slice B k d]), anyOf (fun v wz => ∃ A1 n1 c1 A2 n2 c2, v = .agg #[.bool r, .slice A1 n1 c1, .slice A2 n2 c2] ∧ RatAt wz A1 n1 c1 A2 n2 c2 N D), anyOf (fun v wz => ∃ A1 n1 c1 A2 n2 c2, v = .agg #[.int .i64 j, .bool r, .slice A1 n1 c1, .slice A2 n2 c2] ∧ RatAt wz A1 n1 c1 A2 n2 c2 N D)] := ⟨_, rfl⟩
  have HS := Lib.hid hS
  have HSP := Lib.hid hsp
  clear hS hsp hbI hbG hr hEw hE2 HGS HSG
  go_wp2_with fail
  refine wp_region_loose 7 S sp (by kernel_rfl) (by kernel_rfl) hS1 hSE ?_
  simp only [List.take_succ_cons, List.take_zero, List.drop_succ_cons, List.drop_zero]

  repeat (refine wpX_step (fun K hK => ?_)
          go_simp
          first
          | (refine ⟨by rw [HSP.out]; rfl, hK _ _ ?_⟩
             clear hK K)
          | (refine StepY.det (by rw [HSP.out]; rfl) ?_ ?_
             · intro wz hz hF
               have hz' := hz
               rw [HS.out] at hz'
               have g0 := hz'.1.cell 0
               have g1 := hz'.1.cell 1
               have g2 := hz'.1.cell 2
               have g3 := hz'.1.cell 3
               simp only [List.getElem?_toArray, List.getElem?_cons_zero, List.getElem?_cons_succ] at g0 g1 g2 g3
               clear hz' hF
               go_simp
               exact ⟨rfl, Ext.refl _⟩
             refine hK _ _ ?_
             clear hK K)
          | (refine StepY.any (by rw [HSP.out]; rfl) ?_ ?_
             · intro wz hz hF
               have hz' := hz
               rw [HS.out] at hz'
               have hx := hz'.2.2.1
               clear hz'
               go_simp
               go_at_call 131
               (with_reducible refine (HC.out _ _ _ _ _ _ _ hx).mono ?_)
               rintro e w2 ⟨A1, n1, c1, A2, n2, c2, rfl, hW1, hW2, hE1⟩
               exact ⟨_, rfl, ⟨A1, n1, c1, A2, n2, c2, rfl, hW1, hW2⟩, hE1⟩
             intro v
             refine hK _ _ ?_
             clear hK K))
  refine wpX_step (fun K hK => ?_)
  go_simp
  refine StepY.any (by rw [HSP.out]; rfl) ?_ ?_
  · intro wz hz hF
    obtain ⟨wa, ea, A1, n1, c1, A2, n2, c2, hv1, hw1⟩ := hF.any 5 (by kernel_rfl) (by rw [HSP.out]; rfl)
    clear hF
    simp only [asFun, List.nil_append, List.cons_append, List.getD_cons_succ, List.getD_cons_zero] at hv1
    subst hv1
    go_simp
    exact ⟨⟨A1, n1, c1, A2, n2, c2, rfl, hw1.ext ea⟩, Ext.refl _⟩
  · intro v
    refine hK _ _ ?_
    clear hK K
    refine wpX_nil ?_
    intro w3 hz hF
    obtain ⟨w0, e0, A1, n1, c1, A2, n2, c2, hv, hw0⟩ := fact_any (hF 6 (by omega)) (by rw [HSP.out]; rfl)
    clear hF
    simp only [asFun, List.nil_append, List.cons_append, List.getD_cons_succ, List.getD_cons_zero] at hv
    subst hv
    rw [HS.out] at hz
    have hb3 := hz.2.1
    have hEx := hz.2.2.2
    have hr := hw0.ext e0
    have hGl := hb3.lt
    have q0 : w3.cell? ⟨G, 0, none⟩ = some (.int .i64 0) := hb3.cell 0
    have q1 : w3.cell? ⟨G, 1, none⟩ = some (.bool false) := hb3.cell 1
    have q2 : w3.cell? ⟨G, 2, none⟩ = some (.slice none 0 0) := hb3.cell 2
    have q3 : w3.cell? ⟨G, 3, none⟩ = some (.slice none 0 0) := hb3.cell 3
    have f0 := hb3.frozen 0
    have f1 := hb3.frozen 1
    have f2 := hb3.frozen 2
    have f3 := hb3.frozen 3
    clear hz hw0 e0
    go_wp2
    exact bodyPost_ret (v := .agg #[.int .i64 j, .bool r, .slice A1 n1 c1, .slice A2 n2 c2]) (by simp [results, Try.results94, go_sem, hGl, q0, q1, q2, q3]) rfl
      ⟨_, _, _, _, _, _, rfl, ((RatBox.mk hr hb3 (NoU.of rfl)).set4 rfl rfl rfl rfl).rat, hEx.set4 hGw _ _ _ _⟩

/-- .. of a pattern's bound. -/
theorem magn_any (x : Nat) (A : Option Addr) (l c : Nat) (B : Option Addr) (k d : Nat) (w : World) (hx : x < 18446744073709551616) (nx : isNaN x = false) (h : RatAt w A l c B k d (bN x) (bD x)) :
    Calls Try.prog 94 #[.agg #[.int .i64 (bI x), .bool (bNeg x), .slice A l c, .slice B k d]] w (RetEnd (bI (mx x)) (bNeg (mx x)) (bN (mx x)) (bD (mx x)) w) := by
  have hs := eS_bits hx nx
  by_cases hk : key x < 0
  · have e : mx x = mg x := by unfold mx; rw [if_pos hk]
    obtain ⟨e1, e2, e3, e4⟩ := mx_neg hx nx hk
    rw [e, e1, e2, e3, e4]
    exact magn_neg (bI x) (bI_rng x) (bNeg x) A l c B k d (bN x) (bD x) w h (bN_sz x) (bD_sz x) _ (by unfold cmpI; rw [if_pos hk]; omega) hs
  · have e : mx x = x := by unfold mx; rw [if_neg hk]
    rw [e]
    exact magn_pos (bI x) (bI_rng x) (bNeg x) A l c B k d (bN x) (bD x) w h (bN_sz x) (bD_sz x) _ (by unfold cmpI; rw [if_neg hk]; split <;> omega) hs
end Go.Proofs.Ytcimfccjcikemaa
