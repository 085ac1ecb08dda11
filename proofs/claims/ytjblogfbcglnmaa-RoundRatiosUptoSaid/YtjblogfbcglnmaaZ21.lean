/-
  The contracts of the document's ratios, third part: rounding, whole numbers, negatives. Conditions: those that each theorem names.
-/
import Derived.Test.YtjblogfbcglnmaaZ20
import Derived.StillTailTactics
import Derived.Test.YtjblogfbcglnmaaZ04
import Derived.Test.YtjblogfbcglnmaaZ14
import Derived.Test.YtjblogfbcglnmaaZ13
import Derived.Test.YtjblogfbcglnmaaZ08
import Derived.Test.YtjblogfbcglnmaaZ19
import Derived.Test.YtjblogfbcglnmaaZ03
import Derived.Test.YtjblogfbcglnmaaZ07
import Derived.Test.YtjblogfbcglnmaaZ17
namespace Go.Proofs.Ytjblogfbcglnmaa
open Go.RowKit Nm Rn
set_option maxRecDepth 100000
set_option linter.unusedVariables false
set_option linter.unusedSimpArgs false

theorem Blk.next (w : World) (o : Obj) (t : TypeId) (cs : Array Value) : Blk ((w.alloc o).alloc (.cells cs t)) (w.heap.size + 1) t cs := by
  have := Blk.new (w.alloc o) t cs
  rwa [show (w.alloc o).heap.size = w.heap.size + 1 by simp] at this

/-- Where a ratio's two naturals lie. -/
def RatAt (w : World) (A : Option Addr) (l c : Nat) (B : Option Addr) (k d : Nat) (N D : Nat) : Prop := Wds w A l c (nd N) ∧ Wds w B k d (nd D)
theorem RatAt.ext {w w' : World} {A : Option Addr} {l c : Nat} {B : Option Addr} {k d N D : Nat} (h : RatAt w A l c B k d N D) (he : Ext w w') : RatAt w' A l c B k d N D := ⟨h.1.ext he, h.2.ext he⟩
theorem RatAt.lenN {w : World} {A : Option Addr} {l c : Nat} {B : Option Addr} {k d N D : Nat} (h : RatAt w A l c B k d N D) : l = nw N := by have := h.1.len; rw [nd_length] at this; omega
theorem RatAt.lenD {w : World} {A : Option Addr} {l c : Nat} {B : Option Addr} {k d N D : Nat} (h : RatAt w A l c B k d N D) : k = nw D := by have := h.2.len; rw [nd_length] at this; omega

set_option maxHeartbeats 400000 in
theorem bits3_any (d : Int) (neg : Bool) (A : Option Addr) (l c : Nat) (B : Option Addr) (k dd N D : Nat) (w : World) (h : RatAt w A l c B k dd N D) (hN : nw N ≤ 1073741824) (hD : nw D ≤ 1073741824) (hpos : D ≠ 0) :
    Calls Try.prog 78 #[.int .i64 d, .agg #[.bool neg, .slice A l c, .slice B k dd]] w fun e w' => e = .returned (.int .u64 (rnd d neg (zr N D) : Nat)) ∧ Ext w w' := by
  have hl := h.lenN
  have hk := h.lenD
  have hr := rounded_any d neg A l c (nd N) B k dd (nd D) (w.alloc (.cells #[.bool neg, .slice A l c, .slice B k dd] 60)) (h.1.alloc _) (by omega) (h.2.alloc _) (by omega) (by rw [nv_nd]; exact hpos)
  rw [nv_nd, nv_nd] at hr
  obtain ⟨R, hR⟩ : ∃ R, R = rnd d neg (zr N D) := ⟨_, rfl⟩
  rw [← hR] at hr ⊢
  have HR := Lib.hid hr
  clear hr hR hl hk h
  go_enter Try.func78, Try.ntmps78
  go_wp2_with fail
  refine HR.out.mono ?_
  rintro e w1 ⟨rfl, hE⟩
  go_wp2
  go_ret
  exact ⟨rfl, ((Ext.refl w).alloc _).trans hE⟩


set_option maxHeartbeats 2000000 in
theorem rneg_f (A : Option Addr) (l c : Nat) (B : Option Addr) (k d N D : Nat) (w : World) (h : RatAt w A l c B k d N D) (hN : nw N ≤ 1073741824) (hD : nw D ≤ 1073741824) :
    Calls Try.prog 142 #[.agg #[.bool false, .slice A l c, .slice B k d]] w (RetR (decide (N ≠ 0)) N D w) := by
  have hlb : l ≤ 1073741824 := by have := h.lenN; omega
  have hkb : k ≤ 1073741824 := by have := h.lenD; omega
  obtain ⟨R, hR⟩ : ∃ R : Bool, R = decide (N ≠ 0) := ⟨_, rfl⟩
  have hz : decide ((0 : Int) < (l : Int)) = R := by
    have : l = 0 ↔ N = 0 := by rw [h.lenN]; exact nw_eq_zero
    rw [hR]
    exact decide_eq_decide.2 (by omega)
  have hzn : decide (0 < l) = R := by rw [← hz]; exact decide_eq_decide.2 (by omega)
  try rw [← hR]
  obtain ⟨G, hG⟩ : ∃ G, G = w.heap.size + 1 := ⟨_, rfl⟩
  have hGw : w.heap.size ≤ G := by omega
  have HGS := Lib.hid (show w.heap.size + 1 = G from hG.symm)
  obtain ⟨S, hS⟩ : ∃ S : World → Prop, S = fun wz => Blk wz w.heap.size 60 #[.bool false, .slice A l c, .slice B k d] ∧ Blk wz G 60 #[.bool false, .slice none 0 0, .slice none 0 0] ∧ RatAt wz A l c B k d N D ∧ Ext w wz := ⟨_, rfl⟩
  have hSE : ∀ w w', S w → Ext w w' → S w' := fun w w' h1 h2 => by rw [hS] at h1 ⊢; exact ⟨h1.1.ext h2, h1.2.1.ext h2, h1.2.2.1.ext h2, h1.2.2.2.trans h2⟩
  obtain ⟨w1, hw1⟩ : ∃ w1, w1 = (w.alloc (.cells #[.bool false, .slice A l c, .slice B k d] 60)).alloc (.cells #[.bool false, .slice none 0 0, .slice none 0 0] 60) := ⟨_, rfl⟩
  have hS1 : S { w1 with drawn := w1.drawn + 1 } := by
    rw [hS, hw1]
    have hE : Ext w ((w.alloc (.cells #[.bool false, .slice A l c, .slice B k d] 60)).alloc (.cells #[.bool false, .slice none 0 0, .slice none 0 0] 60)) := ((Ext.refl w).alloc _).alloc _
    exact ⟨(Blk.new w _ _).ext (((Ext.refl _).alloc _).drew), by rw [hG]; exact Blk.next w _ _ _, h.ext hE.drew, hE.drew⟩
  obtain ⟨sp, hsp⟩ : ∃ sp : Nat → Sp, sp = ofList [det (.pointer (some ⟨w.heap.size, 0, none⟩)), det (.bool false), det (.bool true), det (.bool true), det (.pointer (some ⟨w.heap.size, 1, none⟩)), det (.slice A l c), det (.int .i64 (l : Int)), det (.bool R), det (.bool R), det (.pointer (some ⟨w.heap.size, 1, none⟩)), det (.slice A l c), anyOf (fun v wz => ∃ A n c, v = .slice A n c ∧ Wds wz A n c (nd N)), det (.pointer (some ⟨w.heap.size, 2, none⟩)), det (.slice B k d), anyOf (fun v wz => ∃ A n c, v = .slice A n c ∧ Wds wz A n c (nd D)), anyOf (fun v wz => ∃ A1 n1 c1 A2 n2 c2, v = .agg #[.bool R, .slice A1 n1 c1, .slice A2 n2 c2] ∧ RatAt wz A1 n1 c1 A2 n2 c2 N D)] := ⟨_, rfl⟩
  have HS := Lib.hid hS
  have HSP := Lib.hid hsp
  have HW1 := Lib.hid hw1
  clear hS hsp hw1 hG hR h
  go_enter Try.func142, Try.ntmps142
  go_wp2_with fail
  rw [← HW1.out, HGS.out]
  clear HW1
  refine wp_region_loose 16 S sp (by kernel_rfl) (by kernel_rfl) hS1 hSE ?_
  simp only [List.take_succ_cons, List.take_zero, List.drop_succ_cons, List.drop_zero]
  repeat (refine wpX_step (fun K hK => ?_)
          go_simp
          first
          | (refine ⟨by rw [HSP.out]; rfl, hK _ _ ?_⟩
             clear hK K)
          | (refine StepY.det (by rw [HSP.out]; rfl) ?_ ?_
             · intro wz hz hF
               have hz' := hz
               rw [HS.out] at hz'
               have g0 := hz'.1.cell 0
               have g1 := hz'.1.cell 1
               have g2 := hz'.1.cell 2
               simp only [List.getElem?_toArray, List.getElem?_cons_zero, List.getElem?_cons_succ] at g0 g1 g2
               clear hz' hF
               go_simp
               exact ⟨rfl, Ext.refl _⟩
             refine hK _ _ ?_
             clear hK K)
          | (refine StepY.any (by rw [HSP.out]; rfl) ?_ ?_
             · intro wz hz hF
               have hz' := hz
               rw [HS.out] at hz'
               have hx : Wds wz A l c (nd N) := hz'.2.2.1.1
               have hy : Wds wz B k d (nd D) := hz'.2.2.1.2
               clear hz'
               go_simp
               first
               | (go_at_call 85
                  (with_reducible refine (norm_any A l c (nd N) _ hx (by omega)).mono ?_)
                  rintro e w2 ⟨A1, n1, c1, rfl, hW1, hE1⟩
                  rw [nv_nd] at hW1
                  exact ⟨_, rfl, ⟨A1, n1, c1, rfl, hW1⟩, hE1⟩)
               | (go_at_call 85
                  (with_reducible refine (norm_any B k d (nd D) _ hy (by omega)).mono ?_)
                  rintro e w2 ⟨A1, n1, c1, rfl, hW1, hE1⟩
                  rw [nv_nd] at hW1
                  exact ⟨_, rfl, ⟨A1, n1, c1, rfl, hW1⟩, hE1⟩)
               | skip
             intro v
             refine hK _ _ ?_
             clear hK K))
  refine wpX_step (fun K hK => ?_)
  go_simp
  refine StepY.any (by rw [HSP.out]; rfl) ?_ ?_
  · intro wz hz hF
    obtain ⟨wa, ea, A1, n1, c1, hv1, hw1⟩ := hF.any 11 (by kernel_rfl) (by rw [HSP.out]; rfl)
    obtain ⟨wb, eb, A2, n2, c2, hv2, hw2⟩ := hF.any 14 (by kernel_rfl) (by rw [HSP.out]; rfl)
    clear hF
    simp only [asFun, List.nil_append, List.cons_append, List.getD_cons_succ, List.getD_cons_zero] at hv1 hv2
    subst hv1 hv2
    go_simp
    exact ⟨⟨A1, n1, c1, A2, n2, c2, rfl, hw1.ext ea, hw2.ext eb⟩, Ext.refl _⟩
  · intro v
    refine hK _ _ ?_
    clear hK K
    refine wpX_nil ?_
    intro w3 hz hF
    obtain ⟨w0, e0, A1, n1, c1, A2, n2, c2, hv, hw0⟩ := fact_any (hF 15 (by omega)) (by rw [HSP.out]; rfl)
    clear hF
    simp only [asFun, List.nil_append, List.cons_append, List.getD_cons_succ, List.getD_cons_zero] at hv
    subst hv
    rw [HS.out] at hz
    have hb3 := hz.2.1
    have hEx := hz.2.2.2
    have hr1 := hw0.1.ext e0
    have hr2 := hw0.2.ext e0
    have hGl := hb3.lt
    have q0 : w3.cell? ⟨G, 0, none⟩ = some (.bool false) := hb3.cell 0
    have q1 : w3.cell? ⟨G, 1, none⟩ = some (.slice none 0 0) := hb3.cell 1
    have q2 : w3.cell? ⟨G, 2, none⟩ = some (.slice none 0 0) := hb3.cell 2
    have f0 := hb3.frozen 0
    have f1 := hb3.frozen 1
    have f2 := hb3.frozen 2
    clear hz hw0 e0
    go_wp2
    exact bodyPost_ret (v := .agg #[.bool R, .slice A1 n1 c1, .slice A2 n2 c2]) (by simp [results, Try.results142, go_sem, hGl, q0, q1, q2]) rfl
      ⟨_, _, _, _, _, _, rfl, hr1.set_box3 hb3 (noInt3 _ _ _ _ _ _ _) (by simp) (by simp), hr2.set_box3 hb3 (noInt3 _ _ _ _ _ _ _) (by simp) (by simp), hEx.set3 hGw _ _ _⟩


set_option maxHeartbeats 2000000 in
theorem rneg_t (A : Option Addr) (l c : Nat) (B : Option Addr) (k d N D : Nat) (w : World) (h : RatAt w A l c B k d N D) (hN : nw N ≤ 1073741824) (hD : nw D ≤ 1073741824) :
    Calls Try.prog 142 #[.agg #[.bool true, .slice A l c, .slice B k d]] w (RetR false N D w) := by
  have hlb : l ≤ 1073741824 := by have := h.lenN; omega
  have hkb : k ≤ 1073741824 := by have := h.lenD; omega
  obtain ⟨G, hG⟩ : ∃ G, G = w.heap.size + 1 := ⟨_, rfl⟩
  have hGw : w.heap.size ≤ G := by omega
  have HGS := Lib.hid (show w.heap.size + 1 = G from hG.symm)
  obtain ⟨S, hS⟩ : ∃ S : World → Prop, S = fun wz => Blk wz w.heap.size 60 #[.bool true, .slice A l c, .slice B k d] ∧ Blk wz G 60 #[.bool false, .slice none 0 0, .slice none 0 0] ∧ RatAt wz A l c B k d N D ∧ Ext w wz := ⟨_, rfl⟩
  have hSE : ∀ w w', S w → Ext w w' → S w' := fun w w' h1 h2 => by rw [hS] at h1 ⊢; exact ⟨h1.1.ext h2, h1.2.1.ext h2, h1.2.2.1.ext h2, h1.2.2.2.trans h2⟩
  obtain ⟨w1, hw1⟩ : ∃ w1, w1 = (w.alloc (.cells #[.bool true, .slice A l c, .slice B k d] 60)).alloc (.cells #[.bool false, .slice none 0 0, .slice none 0 0] 60) := ⟨_, rfl⟩
  have hS1 : S { w1 with drawn := w1.drawn + 1 } := by
    rw [hS, hw1]
    have hE : Ext w ((w.alloc (.cells #[.bool true, .slice A l c, .slice B k d] 60)).alloc (.cells #[.bool false, .slice none 0 0, .slice none 0 0] 60)) := ((Ext.refl w).alloc _).alloc _
    exact ⟨(Blk.new w _ _).ext (((Ext.refl _).alloc _).drew), by rw [hG]; exact Blk.next w _ _ _, h.ext hE.drew, hE.drew⟩
  obtain ⟨sp, hsp⟩ : ∃ sp : Nat → Sp, sp = ofList [det (.pointer (some ⟨w.heap.size, 0, none⟩)), det (.bool true), det (.bool false), det (.bool false), det undef, det undef, det undef, det undef, det (.bool false), det (.pointer (some ⟨w.heap.size, 1, none⟩)), det (.slice A l c), anyOf (fun v wz => ∃ A n c, v = .slice A n c ∧ Wds wz A n c (nd N)), det (.pointer (some ⟨w.heap.size, 2, none⟩)), det (.slice B k d), anyOf (fun v wz => ∃ A n c, v = .slice A n c ∧ Wds wz A n c (nd D)), anyOf (fun v wz => ∃ A1 n1 c1 A2 n2 c2, v = .agg #[.bool false, .slice A1 n1 c1, .slice A2 n2 c2] ∧ RatAt wz A1 n1 c1 A2 n2 c2 N D)] := ⟨_, rfl⟩
  have HS := Lib.hid hS
  have HSP := Lib.hid hsp
  have HW1 := Lib.hid hw1
  clear hS hsp hw1 hG h
  go_enter Try.func142, Try.ntmps142
  go_wp2_with fail
  rw [← HW1.out, HGS.out]
  clear HW1
  refine wp_region_loose 16 S sp (by kernel_rfl) (by kernel_rfl) hS1 hSE ?_
  simp only [List.take_succ_cons, List.take_zero, List.drop_succ_cons, List.drop_zero]
  repeat (refine wpX_step (fun K hK => ?_)
          go_simp
          first
          | (refine ⟨by rw [HSP.out]; rfl, hK _ _ ?_⟩
             clear hK K)
          | (refine StepY.det (by rw [HSP.out]; rfl) ?_ ?_
             · intro wz hz hF
               have hz' := hz
               rw [HS.out] at hz'
               have g0 := hz'.1.cell 0
               have g1 := hz'.1.cell 1
               have g2 := hz'.1.cell 2
               simp only [List.getElem?_toArray, List.getElem?_cons_zero, List.getElem?_cons_succ] at g0 g1 g2
               clear hz' hF
               go_simp
               exact ⟨rfl, Ext.refl _⟩
             refine hK _ _ ?_
             clear hK K)
          | (refine StepY.any (by rw [HSP.out]; rfl) ?_ ?_
             · intro wz hz hF
               have hz' := hz
               rw [HS.out] at hz'
               have hx : Wds wz A l c (nd N) := hz'.2.2.1.1
               have hy : Wds wz B k d (nd D) := hz'.2.2.1.2
               clear hz'
               go_simp
               first
               | (go_at_call 85
                  (with_reducible refine (norm_any A l c (nd N) _ hx (by omega)).mono ?_)
                  rintro e w2 ⟨A1, n1, c1, rfl, hW1, hE1⟩
                  rw [nv_nd] at hW1
                  exact ⟨_, rfl, ⟨A1, n1, c1, rfl, hW1⟩, hE1⟩)
               | (go_at_call 85
                  (with_reducible refine (norm_any B k d (nd D) _ hy (by omega)).mono ?_)
                  rintro e w2 ⟨A1, n1, c1, rfl, hW1, hE1⟩
                  rw [nv_nd] at hW1
                  exact ⟨_, rfl, ⟨A1, n1, c1, rfl, hW1⟩, hE1⟩)
               | skip
             intro v
             refine hK _ _ ?_
             clear hK K))
  refine wpX_step (fun K hK => ?_)
  go_simp
  refine StepY.any (by rw [HSP.out]; rfl) ?_ ?_
  · intro wz hz hF
    obtain ⟨wa, ea, A1, n1, c1, hv1, hw1⟩ := hF.any 11 (by kernel_rfl) (by rw [HSP.out]; rfl)
    obtain ⟨wb, eb, A2, n2, c2, hv2, hw2⟩ := hF.any 14 (by kernel_rfl) (by rw [HSP.out]; rfl)
    clear hF
    simp only [asFun, List.nil_append, List.cons_append, List.getD_cons_succ, List.getD_cons_zero] at hv1 hv2
    subst hv1 hv2
    go_simp
    exact ⟨⟨A1, n1, c1, A2, n2, c2, rfl, hw1.ext ea, hw2.ext eb⟩, Ext.refl _⟩
  · intro v
    refine hK _ _ ?_
    clear hK K
    refine wpX_nil ?_
    intro w3 hz hF
    obtain ⟨w0, e0, A1, n1, c1, A2, n2, c2, hv, hw0⟩ := fact_any (hF 15 (by omega)) (by rw [HSP.out]; rfl)
    clear hF
    simp only [asFun, List.nil_append, List.cons_append, List.getD_cons_succ, List.getD_cons_zero] at hv
    subst hv
    rw [HS.out] at hz
    have hb3 := hz.2.1
    have hEx := hz.2.2.2
    have hr1 := hw0.1.ext e0
    have hr2 := hw0.2.ext e0
    have hGl := hb3.lt
    have q0 : w3.cell? ⟨G, 0, none⟩ = some (.bool false) := hb3.cell 0
    have q1 : w3.cell? ⟨G, 1, none⟩ = some (.slice none 0 0) := hb3.cell 1
    have q2 : w3.cell? ⟨G, 2, none⟩ = some (.slice none 0 0) := hb3.cell 2
    have f0 := hb3.frozen 0
    have f1 := hb3.frozen 1
    have f2 := hb3.frozen 2
    clear hz hw0 e0
    go_wp2
    exact bodyPost_ret (v := .agg #[.bool false, .slice A1 n1 c1, .slice A2 n2 c2]) (by simp [results, Try.results142, go_sem, hGl, q0, q1, q2]) rfl
      ⟨_, _, _, _, _, _, rfl, hr1.set_box3 hb3 (noInt3 _ _ _ _ _ _ _) (by simp) (by simp), hr2.set_box3 hb3 (noInt3 _ _ _ _ _ _ _) (by simp) (by simp), hEx.set3 hGw _ _ _⟩


theorem rneg_any (neg : Bool) (A : Option Addr) (l c : Nat) (B : Option Addr) (k d N D : Nat) (w : World) (h : RatAt w A l c B k d N D) (hN : nw N ≤ 1073741824) (hD : nw D ≤ 1073741824) :
    Calls Try.prog 142 #[.agg #[.bool neg, .slice A l c, .slice B k d]] w (RetR (!neg && decide (N ≠ 0)) N D w) := by
  cases neg
  · exact rneg_f A l c B k d N D w h hN hD
  · exact rneg_t A l c B k d N D w h hN hD
end Go.Proofs.Ytjblogfbcglnmaa

/-
  The contracts of the document's products of ratios. Conditions: those that each theorem names.
-/
namespace Go.Proofs.Ytjblogfbcglnmaa
open Go.RowKit Nm Rn
set_option maxRecDepth 100000
set_option linter.unusedVariables false
set_option linter.unusedSimpArgs false

theorem nw_mul2 (a b : Nat) : nw (a * b) ≤ nw a + nw b := by
  have h1 := lt_pow_nw a
  have h2 := lt_pow_nw b
  refine (nw_le_iff _ _).2 ?_
  rw [Nat.pow_add]
  exact Nat.mul_lt_mul'' h1 h2
theorem zero_rat (w : World) : (zeroValue 60).run Try.prog w = .ok (.agg #[.bool false, .slice none 0 0, .slice none 0 0]) w := by kernel_rfl
theorem agg_rat (w : World) : (isAgg 60).run Try.prog w = .ok true w := by kernel_rfl
theorem size_rat (w : World) : (sizeOf 60).run Try.prog w = .ok 3 w := by kernel_rfl

set_option maxHeartbeats 2000000 in
theorem rmulq_any (n m : Bool) (A : Option Addr) (l c : Nat) (B : Option Addr) (k d N D : Nat) (A' : Option Addr) (l' c' : Nat) (B' : Option Addr) (k' d' N' D' : Nat) (w : World)
    (h : RatAt w A l c B k d N D) (h' : RatAt w A' l' c' B' k' d' N' D') (hN : nw N ≤ 1073741824) (hD : nw D ≤ 1073741824) (hN' : nw N' ≤ 1073741824) (hD' : nw D' ≤ 1073741824) (hp : 0 < D * D') :
    Calls Try.prog 79 #[.agg #[.bool n, .slice A l c, .slice B k d], .agg #[.bool m, .slice A' l' c', .slice B' k' d']] w (RetR ((n != m) && decide (N * N' ≠ 0)) (fracN (N * N') (D * D') 0) (fracD (N * N') (D * D') 0) w) := by
  have hl := h.lenN
  have hk := h.lenD
  have hl' := h'.lenN
  have hk' := h'.lenD
  have hO := ((((Own.start w).add h.1).add h.2).add h'.1).add h'.2
  have hT1 := fun w h h' => times_any A l c (nd N) A' l' c' (nd N') w h (by omega) h' (by omega)
  have hT2 := fun w h h' => times_any B k d (nd D) B' k' d' (nd D') w h (by omega) h' (by omega)
  have e1 := nw_mul2 N N'
  have e2 := nw_mul2 D D'
  have hFR := fun A n1 c B n2 d w (h : Wds w A n1 c (nd (N * N'))) (k : Wds w B n2 d (nd (D * D'))) => frac_any (n != m) A n1 c (nd (N * N')) B n2 d (nd (D * D')) 0 w h (by have := h.len; rw [nd_length] at this; omega) k (by have := k.len; rw [nd_length] at this; omega) (by omega) (by omega) (by rw [nv_nd]; exact hp)
  simp only [nv_nd] at hT1 hT2 hFR
  obtain ⟨P, hP⟩ : ∃ P, P = N * N' := ⟨_, rfl⟩
  obtain ⟨Q, hQ⟩ : ∃ Q, Q = D * D' := ⟨_, rfl⟩
  rw [← hP] at hT1 hFR ⊢
  rw [← hQ] at hT2 hFR ⊢
  obtain ⟨r, hr⟩ : ∃ r, r = (n != m) := ⟨_, rfl⟩
  rw [← hr] at hFR ⊢
  obtain ⟨zz, hzz⟩ : ∃ zz, zz = (r && decide (P ≠ 0)) := ⟨_, rfl⟩
  rw [← hzz] at hFR ⊢
  clear hzz
  have HR := Lib.hid hr.symm
  have HT1 := Lib.hid hT1
  have HT2 := Lib.hid hT2
  have HFR := Lib.hid hFR
  clear hT1 hT2 hFR hP hQ hr h h' hl hk hl' hk' hN hD hN' hD' hp e1 e2
  go_enter Try.func79, Try.ntmps79
  go_wp2_with (first
    | (refine own_box (cs := [.bool n, .slice A l c, .slice B k d]) hO rfl rfl ?_; clear hO; intro ga wa hO)
    | (refine own_box (cs := [.bool m, .slice A' l' c', .slice B' k' d']) hO rfl rfl ?_; clear hO; intro gb wb hO)
    | (refine own_alloc hO zero_rat rfl rfl ?_; clear hO; intro g w1 hO))
  obtain ⟨S, hS⟩ : ∃ S : World → Prop, S = Own w [⟨g, 60, [.bool false, .slice none 0 0, .slice none 0 0]⟩, ⟨gb, 60, [.bool m, .slice A' l' c', .slice B' k' d']⟩, ⟨ga, 60, [.bool n, .slice A l c, .slice B k d]⟩] [⟨B', k', d', nd D'⟩, ⟨A', l', c', nd N'⟩, ⟨B, k, d, nd D⟩, ⟨A, l, c, nd N⟩] := ⟨_, rfl⟩
  have hSE : ∀ w w', S w → Ext w w' → S w' := fun w w' h1 h2 => by rw [hS] at h1 ⊢; exact h1.ext h2
  have hS1 : S w1.drew := by rw [hS]; exact hO.ext (Ext.refl w1).drew
  have HS := Lib.hid hS
  clear hS hO
  obtain ⟨sp, hsp⟩ : ∃ sp : Nat → Sp, sp = ofList [det (.pointer (some ⟨ga, 0, none⟩)), det (.bool n), det (.pointer (some ⟨gb, 0, none⟩)), det (.bool m), det (.bool r),
    det (.pointer (some ⟨ga, 1, none⟩)), det (.slice A l c), det (.pointer (some ⟨gb, 1, none⟩)), det (.slice A' l' c'), anyOf (fun v wz => ∃ A1 n1 c1, v = .slice A1 n1 c1 ∧ Wds wz A1 n1 c1 (nd P)),
    det (.pointer (some ⟨ga, 2, none⟩)), det (.slice B k d), det (.pointer (some ⟨gb, 2, none⟩)), det (.slice B' k' d'), anyOf (fun v wz => ∃ A1 n1 c1, v = .slice A1 n1 c1 ∧ Wds wz A1 n1 c1 (nd Q)),
    anyOf (fun v wz => ∃ A1 n1 c1 A2 n2 c2, v = .agg #[.bool zz, .slice A1 n1 c1, .slice A2 n2 c2] ∧ RatAt wz A1 n1 c1 A2 n2 c2 (fracN P Q 0) (fracD P Q 0))] := ⟨_, rfl⟩
  have HSP := Lib.hid hsp
  clear hsp
  refine wp_region_loose 16 S sp (by kernel_rfl) (by kernel_rfl) hS1 hSE ?_
  simp only [List.take_succ_cons, List.take_zero, List.drop_succ_cons, List.drop_zero]
  iterate 15
    refine wpX_step (fun K hK => ?_)
    go_simp
    first
    | (refine ⟨by rw [HSP.out]; rfl, hK _ _ ?_⟩
       clear hK K)
    | (refine StepY.det (by rw [HSP.out]; rfl) ?_ ?_
       · intro wz hz hF
         rw [HS.out] at hz
         have hf := hz.facts
         simp only [BF, CF, Nat.zero_add, Nat.reduceAdd, and_true] at hf
         have hr := HR.out
         clear hz hF
         go_simp
         first
         | exact ⟨rfl, Ext.refl _⟩
         | exact ⟨by rw [← hr]; rfl, Ext.refl _⟩
       refine hK _ _ ?_
       clear hK K)
    | (refine StepY.any (by rw [HSP.out]; rfl) ?_ ?_
       · intro wz hz hF
         rw [HS.out] at hz
         have h1 := hz.wd 3 rfl
         have h2 := hz.wd 2 rfl
         have h3 := hz.wd 1 rfl
         have h4 := hz.wd 0 rfl
         clear hz
         go_simp
         go_at_call 100
         first
         | (with_reducible refine (HT1.out _ h1 h3).mono ?_)
         | (with_reducible refine (HT2.out _ h2 h4).mono ?_)
         rintro e w2 ⟨A1, n1, c1, rfl, hW1, hE1⟩
         exact ⟨_, rfl, ⟨A1, n1, c1, rfl, hW1⟩, hE1⟩
       intro v
       refine hK _ _ ?_
       clear hK K)
  refine wpX_step (fun K hK => ?_)
  go_simp
  refine StepY.any (by rw [HSP.out]; rfl) ?_ ?_
  · intro wz hz hF
    obtain ⟨wa', ea, A1, n1, c1, hv1, hw1⟩ := hF.any 9 (by kernel_rfl) (by rw [HSP.out]; rfl)
    obtain ⟨wb', eb, A2, n2, c2, hv2, hw2⟩ := hF.any 14 (by kernel_rfl) (by rw [HSP.out]; rfl)
    clear hF
    simp only [asFun, List.nil_append, List.cons_append, List.getD_cons_succ, List.getD_cons_zero] at hv1 hv2
    subst hv1 hv2
    go_simp
    go_at_call 88
    refine (HFR.out _ _ _ _ _ _ _ (hw1.ext ea) (hw2.ext eb)).mono ?_
    rintro e w2 ⟨A3, n3, c3, A4, n4, c4, rfl, hW1, hW2, hE1⟩
    exact ⟨_, rfl, ⟨A3, n3, c3, A4, n4, c4, rfl, hW1, hW2⟩, hE1⟩
  intro v
  refine hK _ _ ?_
  clear hK K
  refine wpX_nil ?_
  intro w3 hz hF
  obtain ⟨w0, e0, A3, n3, c3, A4, n4, c4, hv, hw0⟩ := fact_any (hF 15 (by omega)) (by rw [HSP.out]; rfl)
  clear hF
  simp only [asFun, List.nil_append, List.cons_append, List.getD_cons_succ, List.getD_cons_zero] at hv
  subst hv
  rw [HS.out] at hz
  have hO := (hz.add (hw0.ext e0).1).add (hw0.ext e0).2
  clear hz hw0 e0
  go_wp2_with (refine own_store hO 0 rfl rfl rfl size_rat rfl rfl rfl ?_; clear hO; intro w4 hO)
  exact own_ret hO 0 rfl rfl rfl agg_rat size_rat rfl ⟨_, _, _, _, _, _, rfl, hO.wd 1 rfl, hO.wd 0 rfl, hO.toExt⟩
end Go.Proofs.Ytjblogfbcglnmaa

/-
  The contract of the document's Mul. Conditions: those that each theorem names.
-/
namespace Go.Proofs.Ytjblogfbcglnmaa
open Go.RowKit Nm Rn
set_option maxRecDepth 100000
set_option linter.unusedVariables false
set_option linter.unusedSimpArgs false

def zB (b : Nat) : Bool := decide (mg b = 0)
set_option maxHeartbeats 400000 in
theorem zero3_any (b : Nat) (w : World) (h : b < 18446744073709551616) :
    Calls Try.prog 75 #[.int .u64 (b : Int)] w fun e w' => e = .returned (.bool (zB b)) ∧ w = w' := by
  have g := andNot_top b h
  have HF : Hid (((mg b : Int) == 0) = zB b) := Lib.hid (by unfold zB; rw [Bool.eq_iff_iff, beq_iff_eq, decide_eq_true_iff]; omega)
  clear h
  go_enter Try.func75, Try.ntmps75
  go_wp2
  go_ret
  exact ⟨ret_bool HF.out, rfl⟩
theorem neg_sg {b : Nat} (h : mg b ≠ 0) : decide (9223372036854775808 < b) = sg b := by
  unfold mg at h
  unfold sg
  exact decide_eq_decide.2 (by omega)
theorem pat_infP (s : Bool) : pat s infR = infP s := by cases s <;> rfl
theorem fracN_le0 (n d : Nat) : fracN n d 0 ≤ n := by
  unfold fracN
  split
  · omega
  · have h1 : ((0 : Int) + tz n - tz d).toNat ≤ tz n := by omega
    have h2 := Nat.pow_le_pow_right (n := 2) (by omega) h1
    have h3 := Nat.mul_le_mul_left (n / 2 ^ tz n) h2
    rwa [tz_div] at h3
theorem fracD_le0 {n d : Nat} (hd : d ≠ 0) : fracD n d 0 ≤ d := by
  unfold fracD
  split
  · omega
  · have h1 : (-((0 : Int) + tz n - tz d)).toNat ≤ tz d := by omega
    have h2 := Nat.pow_le_pow_right (n := 2) (by omega) h1
    have h3 := Nat.mul_le_mul_left (d / 2 ^ tz d) h2
    rwa [tz_div] at h3
theorem nw_le_of {a b k : Nat} (h : a ≤ b) (hb : nw b ≤ k) : nw a ≤ k := (nw_le_iff _ _).2 (Nat.lt_of_le_of_lt h ((nw_le_iff _ _).1 hb))

set_option maxHeartbeats 2000000 in
theorem mul3_any (d : Int) (x y : Nat) (w : World) (hx : x < 18446744073709551616) (hy : y < 18446744073709551616) :
    Calls Try.prog 29 #[.int .i64 d, .int .u64 (x : Int), .int .u64 (y : Int)] w fun e w' => e = .returned (.int .u64 (mulR d x y : Nat)) ∧ Ext w w' := by
  have HNX := Lib.hid (fun w => isnan_any x w hx)
  have HNY := Lib.hid (fun w => isnan_any y w hy)
  have HIX := Lib.hid (fun w => isinf3_any x w hx)
  have HIY := Lib.hid (fun w => isinf3_any y w hy)
  have HZX := Lib.hid (fun w => zero3_any x w hx)
  have HZY := Lib.hid (fun w => zero3_any y w hy)
  have hV : mulR d x y = if isNaN x || isNaN y then NaNc else if isInf x || isInf y then (if zB x || zB y then NaNc else infP (sg x != sg y)) else rT d (sv x * sv y) := by
    unfold mulR zB
    congr 2
    simp
  obtain ⟨V, hVV⟩ : ∃ V, V = mulR d x y := ⟨_, rfl⟩
  rw [← hVV] at hV ⊢
  clear hVV
  have hk : isNaN x = false → isNaN y = false → isInf x = false → isInf y = false → True := fun _ _ _ _ => trivial
  obtain ⟨n1, h1⟩ : ∃ b, b = isNaN x := ⟨_, rfl⟩
  obtain ⟨n2, h2⟩ : ∃ b, b = isNaN y := ⟨_, rfl⟩
  obtain ⟨i1, h3⟩ : ∃ b, b = isInf x := ⟨_, rfl⟩
  obtain ⟨i2, h4⟩ : ∃ b, b = isInf y := ⟨_, rfl⟩
  rw [← h1] at HNX hV
  rw [← h2] at HNY hV
  rw [← h3] at HIX hV
  rw [← h4] at HIY hV
  clear h1 h2 h3 h4 hk
  by_cases hn : (n1 || n2) = true
  · rw [if_pos hn] at hV
    have HV : Hid (9221120237041090561 = (V : Int)) := Lib.hid (by rw [hV, NaNc_val]; rfl)
    clear hV HIX HIY HZX HZY hx hy
    cases n1
    · cases n2
      · cases hn
      · go_enter Try.func29, Try.ntmps29
        go_wp2_with (first | (go_at_call 58; ((with_reducible refine (HNX.out _).mono ?_); rintro e w' ⟨rfl, rfl⟩)) | (go_at_call 58; ((with_reducible refine (HNY.out _).mono ?_); rintro e w' ⟨rfl, rfl⟩)))
        go_ret
        exact ⟨ret_int HV.out, Ext.refl _⟩
    · go_enter Try.func29, Try.ntmps29
      go_wp2_with (first | (go_at_call 58; ((with_reducible refine (HNX.out _).mono ?_); rintro e w' ⟨rfl, rfl⟩)) | (go_at_call 58; ((with_reducible refine (HNY.out _).mono ?_); rintro e w' ⟨rfl, rfl⟩)))
      go_ret
      exact ⟨ret_int HV.out, Ext.refl _⟩
  · rw [if_neg hn] at hV
    obtain ⟨rfl, rfl⟩ : n1 = false ∧ n2 = false := by cases n1 <;> cases n2 <;> simp_all
    clear hn
    by_cases hi : (i1 || i2) = true
    · rw [if_pos hi] at hV
      have hz1 : zB x = false → decide (9223372036854775808 < x) = sg x := fun h => neg_sg (by unfold zB at h; simpa using h)
      have hz2 : zB y = false → decide (9223372036854775808 < y) = sg y := fun h => neg_sg (by unfold zB at h; simpa using h)
      obtain ⟨z1, h5⟩ : ∃ b, b = zB x := ⟨_, rfl⟩
      obtain ⟨z2, h6⟩ : ∃ b, b = zB y := ⟨_, rfl⟩
      rw [← h5] at HZX hV hz1
      rw [← h6] at HZY hV hz2
      clear h5 h6
      by_cases hz : (z1 || z2) = true
      · rw [if_pos hz] at hV
        have HV : Hid (9221120237041090561 = (V : Int)) := Lib.hid (by rw [hV, NaNc_val]; rfl)
        have hc : (i1 = true ∨ i1 = false ∧ i2 = true) ∧ (z1 = true ∨ z1 = false ∧ z2 = true) := by
          constructor
          · cases i1 <;> cases i2 <;> simp_all
          · cases z1 <;> cases z2 <;> simp_all
        clear hV hx hy hz1 hz2 hi hz
        obtain ⟨ha | ⟨ha, ha2⟩, hb | ⟨hb, hb2⟩⟩ := hc
        all_goals
          subst_vars
          go_enter Try.func29, Try.ntmps29
          go_wp2_with (first | (go_at_call 58; ((with_reducible refine (HNX.out _).mono ?_); rintro e w' ⟨rfl, rfl⟩)) | (go_at_call 58; ((with_reducible refine (HNY.out _).mono ?_); rintro e w' ⟨rfl, rfl⟩)) | (go_at_call 59; ((with_reducible refine (HIX.out _).mono ?_); rintro e w' ⟨rfl, rfl⟩)) | (go_at_call 59; ((with_reducible refine (HIY.out _).mono ?_); rintro e w' ⟨rfl, rfl⟩)) | (go_at_call 75; ((with_reducible refine (HZX.out _).mono ?_); rintro e w' ⟨rfl, rfl⟩)) | (go_at_call 75; ((with_reducible refine (HZY.out _).mono ?_); rintro e w' ⟨rfl, rfl⟩)))
          go_ret
          exact ⟨ret_int HV.out, Ext.refl _⟩
      · rw [if_neg hz] at hV
        obtain ⟨rfl, rfl⟩ : z1 = false ∧ z2 = false := by cases z1 <;> cases z2 <;> simp_all
        have hs1 := hz1 rfl
        have hs2 := hz2 rfl
        have HSX := Lib.hid (fun w => neg3_any x w)
        have HSY := Lib.hid (fun w => neg3_any y w)
        rw [hs1] at HSX
        rw [hs2] at HSY
        have HINF := Lib.hid (fun w => infinite_any (!(sg x == sg y)) w)
        rw [pat_infP, show infP (!(sg x == sg y)) = V from hV.symm] at HINF
        generalize sg x = s1 at *
        generalize sg y = s2 at *
        have hc : i1 = true ∨ i1 = false ∧ i2 = true := by cases i1 <;> cases i2 <;> simp_all
        clear hV hx hy hz1 hz2 hi hz hs1 hs2
        obtain ha | ⟨ha, ha2⟩ := hc
        all_goals
          subst_vars
          go_enter Try.func29, Try.ntmps29
          go_wp2_with (first | (go_at_call 58; ((with_reducible refine (HNX.out _).mono ?_); rintro e w' ⟨rfl, rfl⟩)) | (go_at_call 58; ((with_reducible refine (HNY.out _).mono ?_); rintro e w' ⟨rfl, rfl⟩)) | (go_at_call 59; ((with_reducible refine (HIX.out _).mono ?_); rintro e w' ⟨rfl, rfl⟩)) | (go_at_call 59; ((with_reducible refine (HIY.out _).mono ?_); rintro e w' ⟨rfl, rfl⟩)) | (go_at_call 75; ((with_reducible refine (HZX.out _).mono ?_); rintro e w' ⟨rfl, rfl⟩)) | (go_at_call 75; ((with_reducible refine (HZY.out _).mono ?_); rintro e w' ⟨rfl, rfl⟩)) | (go_at_call 77; ((with_reducible refine (HSX.out _).mono ?_); rintro e w' ⟨rfl, rfl⟩)) | (go_at_call 77; ((with_reducible refine (HSY.out _).mono ?_); rintro e w' ⟨rfl, rfl⟩)) | (go_at_call 76; ((with_reducible refine (HINF.out _).mono ?_); rintro e w' ⟨rfl, rfl⟩)))
          go_ret
          exact ⟨rfl, Ext.refl _⟩
    · rw [if_neg hi] at hV
      obtain ⟨rfl, rfl⟩ : i1 = false ∧ i2 = false := by cases i1 <;> cases i2 <;> simp_all
      clear hi
      obtain ⟨n, hn⟩ : ∃ n, n = (sg x && decide (mg x ≠ 0)) := ⟨_, rfl⟩
      obtain ⟨m, hm⟩ : ∃ m, m = (sg y && decide (mg y ≠ 0)) := ⟨_, rfl⟩
      have hf := mul_ref d x y hn hm
      rw [← hV] at hf
      have hF1 := fun w => frombits_any x w hx
      have hF2 := fun w => frombits_any y w hy
      rw [← hn] at hF1
      rw [← hm] at hF2
      have b1 := fbN_bits x
      have b2 := fbD_bits x
      have b3 := fbN_bits y
      have b4 := fbD_bits y
      have p1 := fbD_pos x
      have p2 := fbD_pos y
      have HM := Lib.hid (fun A l c B k e A' l' c' B' k' e' w h h' => rmulq_any n m A l c B k e (fbN x) (fbD x) A' l' c' B' k' e' (fbN y) (fbD y) w h h' (by omega) (by omega) (by omega) (by omega) (Nat.mul_pos p1 p2))
      have hQ := Nat.mul_pos p1 p2
      have c1 := nw_mul2 (fbN x) (fbN y)
      have c2 := nw_mul2 (fbD x) (fbD y)
      have c3 := nw_le_of (fracN_le0 (fbN x * fbN y) (fbD x * fbD y)) (Nat.le_refl _)
      have c4 := nw_le_of (fracD_le0 (n := fbN x * fbN y) (d := fbD x * fbD y) (by omega)) (Nat.le_refl _)
      have HB := Lib.hid (fun A l c B k e w h => bits3_any d ((n != m) && decide (fbN x * fbN y ≠ 0)) A l c B k e (fracN (fbN x * fbN y) (fbD x * fbD y) 0) (fracD (fbN x * fbN y) (fbD x * fbD y) 0) w h (by omega) (by omega) (Nat.ne_of_gt (fracD_pos _ (by omega))))
      rw [hf] at HB
      generalize ((n != m) && decide (fbN x * fbN y ≠ 0)) = zz at HM HB
      have HF1 := Lib.hid hF1
      have HF2 := Lib.hid hF2
      clear hf hF1 hF2 hV hx hy b1 b2 b3 b4 p1 p2 hQ c1 c2 c3 c4 hn hm
      go_enter Try.func29, Try.ntmps29
      go_wp2_with (first | (go_at_call 58; ((with_reducible refine (HNX.out _).mono ?_); rintro e w' ⟨rfl, rfl⟩)) | (go_at_call 58; ((with_reducible refine (HNY.out _).mono ?_); rintro e w' ⟨rfl, rfl⟩)) | (go_at_call 59; ((with_reducible refine (HIX.out _).mono ?_); rintro e w' ⟨rfl, rfl⟩)) | (go_at_call 59; ((with_reducible refine (HIY.out _).mono ?_); rintro e w' ⟨rfl, rfl⟩)))
      refine (HF1.out _).mono ?_
      rintro e w2 ⟨A1, n1, c1, B1, k1, d1, rfl, hA1, hB1, hE1⟩
      go_wp2_with fail
      refine (HF2.out _).mono ?_
      rintro e w3 ⟨A2, n2, c2, B2, k2, d2, rfl, hA2, hB2, hE2⟩
      go_wp2_with fail
      refine (HM.out _ _ _ _ _ _ _ _ _ _ _ _ _ ⟨hA1.ext hE2, hB1.ext hE2⟩ ⟨hA2, hB2⟩).mono ?_
      rintro e w4 ⟨A3, n3, c3, B3, k3, d3, rfl, hA3, hB3, hE3⟩
      go_wp2_with fail
      refine (HB.out _ _ _ _ _ _ _ ⟨hA3, hB3⟩).mono ?_
      rintro e w5 ⟨rfl, hE4⟩
      go_wp2
      go_ret
      exact ⟨rfl, ((hE1.trans hE2).trans hE3).trans hE4⟩
end Go.Proofs.Ytjblogfbcglnmaa

/-
  The walk through RoundProducts. Conditions: those that each theorem names.
-/
namespace Go.Proofs.Ytjblogfbcglnmaa
open Go.RowKit Nm Rn
set_option maxRecDepth 100000
set_option linter.unusedVariables false
set_option linter.unusedSimpArgs false

set_option maxHeartbeats 1000000 in
theorem products_walk (d : Int) (x y : Nat) (w : World) (hx : x < 18446744073709551616) (hy : y < 18446744073709551616) :
    Calls Try.prog 6 #[.int .i64 d, .int .u64 (x : Int), .int .u64 (y : Int)] w fun e w' => e = .returned (.bool true) ∧ Ext w w' := by
  have HA := Lib.hid (fun w => rmul_any d x y w hx hy)
  have HB := Lib.hid (fun w => mul3_any d x y w hx hy)
  have HL := Lib.hid (fun r w h => lbits_any r w h)
  obtain ⟨V, hV⟩ : ∃ V, V = mulR d x y := ⟨_, rfl⟩
  rw [← hV] at HA HB
  clear hV hx hy
  go_enter Try.func6, Try.ntmps6
  go_wp2_with (go_at_call 18; refine (fl_any _ _).mono ?_; rintro e w' ⟨rfl, rfl⟩)
  refine (HA.out _).mono ?_
  rintro e w1 ⟨r, rfl, hr, hc, hE⟩
  go_wp2_with fail
  refine (HL.out r _ hr).mono ?_
  rintro e w2 ⟨rfl, rfl⟩
  rw [hc]
  clear hc hr
  go_wp2_with fail
  refine (HB.out _).mono ?_
  rintro e w3 ⟨rfl, hE3⟩
  go_wp2
  go_ret
  exact ⟨by simp, hE.trans hE3⟩
end Go.Proofs.Ytjblogfbcglnmaa
