/-
  The contracts of the document's bounds, second part: the negative of a bound. Conditions: those that each theorem names.
-/
import Derived.Test.YtcimfccjcikemaaRefO
namespace Go.Proofs.Ytcimfccjcikemaa
open Go.RowKit Nm Rn
set_option maxRecDepth 100000
set_option linter.unusedVariables false
set_option linter.unusedSimpArgs false

theorem Ext.set4 {w0 w : World} {g : Nat} (h : Ext w0 w) (hg : w0.heap.size ≤ g) (u0 u1 u2 u3 : Value) : Ext w0 ((((w.setCell ⟨g, 0, none⟩ u0).setCell ⟨g, 1, none⟩ u1).setCell ⟨g, 2, none⟩ u2).setCell ⟨g, 3, none⟩ u3) :=
  (h.set3 hg u0 u1 u2).setCell (by show w0.heap.size ≤ g; omega) _

set_option maxHeartbeats 2000000 in
theorem turned6_any (i : Int) (hi : -1 ≤ i ∧ i ≤ 1) (neg : Bool) (A : Option Addr) (l c : Nat) (B : Option Addr) (k d N D : Nat) (w : World) (h : RatAt w A l c B k d N D) (hN : nw N ≤ 1073741824) (hD : nw D ≤ 1073741824) :
    Calls Try.prog 91 #[.agg #[.int .i64 i, .bool neg, .slice A l c, .slice B k d]] w (RetEnd (-i) (!neg && decide (N ≠ 0)) N D w) := by
  have hwr : IntKind.i64.wrap (-i) = -i := by simp [IntKind.wrap, IntKind.bits, IntKind.signed]; omega
  obtain ⟨j, hj⟩ : ∃ j, j = -i := ⟨_, rfl⟩
  rw [← hj] at hwr ⊢
  have hneg : IntKind.i64.wrap (-i) = j := by rw [← hj]; exact hwr
  obtain ⟨r, hr⟩ : ∃ r, r = (!neg && decide (N ≠ 0)) := ⟨_, rfl⟩
  have hc := fun w A l c B k d h => rneg_any neg A l c B k d N D w h hN hD
  rw [← hr] at hc ⊢
  have HC := Lib.hid hc
  obtain ⟨G, hG⟩ : ∃ G, G = w.heap.size + 1 := ⟨_, rfl⟩
  have hGw : w.heap.size ≤ G := by omega
  have HGS := Lib.hid (show w.heap.size + 1 = G from hG.symm)
  obtain ⟨S, hS⟩ : ∃ S : World → Prop, S = fun wz => Blk wz w.heap.size 68 #[.int .i64 i, .bool neg, .slice A l c, .slice B k d] ∧ Blk wz G 68 #[.int .i64 0, .bool false, .slice none 0 0, .slice none 0 0] ∧ RatAt wz A l c B k d N D ∧ Ext w wz := ⟨_, rfl⟩
  have hSE : ∀ w w', S w → Ext w w' → S w' := fun w w' h1 h2 => by rw [hS] at h1 ⊢; exact ⟨h1.1.ext h2, h1.2.1.ext h2, h1.2.2.1.ext h2, h1.2.2.2.trans h2⟩
  obtain ⟨w1, hw1⟩ : ∃ w1, w1 = (w.alloc (.cells #[.int .i64 i, .bool neg, .slice A l c, .slice B k d] 68)).alloc (.cells #[.int .i64 0, .bool false, .slice none 0 0, .slice none 0 0] 68) := ⟨_, rfl⟩
  have hS1 : S { w1 with drawn := w1.drawn + 1 } := by
    rw [hS, hw1]
    have hE : Ext w ((w.alloc (.cells #[.int .i64 i, .bool neg, .slice A l c, .slice B k d] 68)).alloc (.cells #[.int .i64 0, .bool false, .slice none 0 0, .slice none 0 0] 68)) := ((Ext.refl w).alloc _).alloc _
    exact ⟨(Blk.new w _ _).ext (((Ext.refl _).alloc _).drew), by rw [hG]; exact Blk.next w _ _ _, h.ext hE.drew, hE.drew⟩
  obtain ⟨sp, hsp⟩ : ∃ sp : Nat → Sp, sp = ofList [det (.pointer (some ⟨w.heap.size, 0, none⟩)), det (.int .i64 i), det (.int .i64 j), det (.pointer (some ⟨w.heap.size, 1, none⟩)), det (.agg #[.bool neg, .slice A l c, .slice B k d]), anyOf (fun v wz => ∃ A1 n1 c1 A2 n2 c2, v = .agg #[.bool r, .slice A1 n1 c1, .slice A2 n2 c2] ∧ RatAt wz A1 n1 c1 A2 n2 c2 N D), anyOf (fun v wz => ∃ A1 n1 c1 A2 n2 c2, v = .agg #[.int .i64 j, .bool r, .slice A1 n1 c1, .slice A2 n2 c2] ∧ RatAt wz A1 n1 c1 A2 n2 c2 N D)] := ⟨_, rfl⟩
  have HS := Lib.hid hS
  have HSP := Lib.hid hsp
  have HW1 := Lib.hid hw1
  clear hS hsp hw1 hG h hc hr hj hwr hi hN hD
  go_enter Try.func91, Try.ntmps91
  go_wp2_with fail
  rw [← HW1.out, HGS.out]
  clear HW1
  refine wp_region_loose 7 S sp (by kernel_rfl) (by kernel_rfl) hS1 hSE ?_
  simp only [List.take_succ_cons, List.take_zero, List.drop_succ_cons, List.drop_zero]
  repeat (refine wpX_step (fun K hK => ?_)
          go_simp
          first
          | (refine ⟨by rw [HSP.out]; rfl, hK _ _ ?_⟩
             clear hK K)
          | (refine StepY.det (by rw [HSP.out]; rfl) ?_ ?_
             · intro wz hz hF
               have hz' := hz
               rw [HS.out] at hz'
               have g0 := hz'.1.cell 0
               have g1 := hz'.1.cell 1
               have g2 := hz'.1.cell 2
               have g3 := hz'.1.cell 3
               simp only [List.getElem?_toArray, List.getElem?_cons_zero, List.getElem?_cons_succ] at g0 g1 g2 g3
               clear hz' hF
               go_simp
               exact ⟨rfl, Ext.refl _⟩
             refine hK _ _ ?_
             clear hK K)
          | (refine StepY.any (by rw [HSP.out]; rfl) ?_ ?_
             · intro wz hz hF
               have hz' := hz
               rw [HS.out] at hz'
               have hx := hz'.2.2.1
               clear hz'
               go_simp
               go_at_call 131
               (with_reducible refine (HC.out _ _ _ _ _ _ _ hx).mono ?_)
               rintro e w2 ⟨A1, n1, c1, A2, n2, c2, rfl, hW1, hW2, hE1⟩
               exact ⟨_, rfl, ⟨A1, n1, c1, A2, n2, c2, rfl, hW1, hW2⟩, hE1⟩
             intro v
             refine hK _ _ ?_
             clear hK K))
  refine wpX_step (fun K hK => ?_)
  go_simp
  refine StepY.any (by rw [HSP.out]; rfl) ?_ ?_
  · intro wz hz hF
    obtain ⟨wa, ea, A1, n1, c1, A2, n2, c2, hv1, hw1⟩ := hF.any 5 (by kernel_rfl) (by rw [HSP.out]; rfl)
    clear hF
    simp only [asFun, List.nil_append, List.cons_append, List.getD_cons_succ, List.getD_cons_zero] at hv1
    subst hv1
    go_simp
    exact ⟨⟨A1, n1, c1, A2, n2, c2, rfl, hw1.ext ea⟩, Ext.refl _⟩
  · intro v
    refine hK _ _ ?_
    clear hK K
    refine wpX_nil ?_
    intro w3 hz hF
    obtain ⟨w0, e0, A1, n1, c1, A2, n2, c2, hv, hw0⟩ := fact_any (hF 6 (by omega)) (by rw [HSP.out]; rfl)
    clear hF
    simp only [asFun, List.nil_append, List.cons_append, List.getD_cons_succ, List.getD_cons_zero] at hv
    subst hv
    rw [HS.out] at hz
    have hb3 := hz.2.1
    have hEx := hz.2.2.2
    have hr := hw0.ext e0
    have hGl := hb3.lt
    have q0 : w3.cell? ⟨G, 0, none⟩ = some (.int .i64 0) := hb3.cell 0
    have q1 : w3.cell? ⟨G, 1, none⟩ = some (.bool false) := hb3.cell 1
    have q2 : w3.cell? ⟨G, 2, none⟩ = some (.slice none 0 0) := hb3.cell 2
    have q3 : w3.cell? ⟨G, 3, none⟩ = some (.slice none 0 0) := hb3.cell 3
    have f0 := hb3.frozen 0
    have f1 := hb3.frozen 1
    have f2 := hb3.frozen 2
    have f3 := hb3.frozen 3
    clear hz hw0 e0
    go_wp2
    exact bodyPost_ret (v := .agg #[.int .i64 j, .bool r, .slice A1 n1 c1, .slice A2 n2 c2]) (by simp [results, Try.results91, go_sem, hGl, q0, q1, q2, q3]) rfl
      ⟨_, _, _, _, _, _, rfl, ((RatBox.mk hr hb3 (NoU.of rfl)).set4 rfl rfl rfl rfl).rat, hEx.set4 hGw _ _ _ _⟩
end Go.Proofs.Ytcimfccjcikemaa
