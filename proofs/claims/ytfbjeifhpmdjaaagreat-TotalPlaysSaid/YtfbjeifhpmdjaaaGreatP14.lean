/-
  The contracts of the document's ratios, third part: rounding, whole numbers, negatives. Conditions: those that each theorem names.
-/
import Derived.Test.YtfbjeifhpmdjaaaGreatP12
import Derived.Test.YtfbjeifhpmdjaaaGreatP10
import Derived.Test.YtfbjeifhpmdjaaaGreatP11
import Derived.StillTailTactics
import Derived.Test.YtfbjeifhpmdjaaaGreatP03
import Derived.Test.YtfbjeifhpmdjaaaGreatP13
import Derived.Test.YtfbjeifhpmdjaaaGreatP07
import Derived.Test.YtfbjeifhpmdjaaaGreatP09
namespace Go.Proofs.YtfbjeifhpmdjaaaGreat
open Go.RowKit Nm Rn
set_option maxRecDepth 100000
set_option linter.unusedVariables false
set_option linter.unusedSimpArgs false

theorem Blk.next (w : World) (o : Obj) (t : TypeId) (cs : Array Value) : Blk ((w.alloc o).alloc (.cells cs t)) (w.heap.size + 1) t cs := by
  have := Blk.new (w.alloc o) t cs
  rwa [show (w.alloc o).heap.size = w.heap.size + 1 by simp] at this

/-- Where a ratio's two naturals lie. -/
def RatAt (w : World) (A : Option Addr) (l c : Nat) (B : Option Addr) (k d : Nat) (N D : Nat) : Prop := Wds w A l c (nd N) ∧ Wds w B k d (nd D)
theorem RatAt.ext {w w' : World} {A : Option Addr} {l c : Nat} {B : Option Addr} {k d N D : Nat} (h : RatAt w A l c B k d N D) (he : Ext w w') : RatAt w' A l c B k d N D := ⟨h.1.ext he, h.2.ext he⟩
theorem RatAt.lenN {w : World} {A : Option Addr} {l c : Nat} {B : Option Addr} {k d N D : Nat} (h : RatAt w A l c B k d N D) : l = nw N := by have := h.1.len; rw [nd_length] at this; omega
theorem RatAt.lenD {w : World} {A : Option Addr} {l c : Nat} {B : Option Addr} {k d N D : Nat} (h : RatAt w A l c B k d N D) : k = nw D := by have := h.2.len; rw [nd_length] at this; omega

set_option maxHeartbeats 400000 in
theorem bits3_any (d : Int) (neg : Bool) (A : Option Addr) (l c : Nat) (B : Option Addr) (k dd N D : Nat) (w : World) (h : RatAt w A l c B k dd N D) (hN : nw N ≤ 1073741824) (hD : nw D ≤ 1073741824) (hpos : D ≠ 0) :
    Calls Tryz.prog 41 #[.int .i64 d, .agg #[.bool neg, .slice A l c, .slice B k dd]] w fun e w' => e = .returned (.int .u64 (rnd d neg (zr N D) : Nat)) ∧ Ext w w' := by
  have hl := h.lenN
  have hk := h.lenD
  have hr := rounded_any d neg A l c (nd N) B k dd (nd D) (w.alloc (.cells #[.bool neg, .slice A l c, .slice B k dd] 38)) (h.1.alloc _) (by omega) (h.2.alloc _) (by omega) (by rw [nv_nd]; exact hpos)
  rw [nv_nd, nv_nd] at hr
  obtain ⟨R, hR⟩ : ∃ R, R = rnd d neg (zr N D) := ⟨_, rfl⟩
  rw [← hR] at hr ⊢
  have HR := Lib.hid hr
  clear hr hR hl hk h
  go_enter Tryz.func41, Tryz.ntmps41
  go_wp2_with fail
  refine HR.out.mono ?_
  rintro e w1 ⟨rfl, hE⟩
  go_wp2
  go_ret
  exact ⟨rfl, ((Ext.refl w).alloc _).trans hE⟩

set_option maxHeartbeats 1000000 in
theorem int_any (v : Nat) (w : World) (hv : v < 9223372036854775808) :
    Calls Tryz.prog 45 #[.int .i64 (v : Int)] w (RetR false (fracN v 1 0) (fracD v 1 0) w) := by
  have hsm := fun w => small_any (v : Int) w (by omega) (by omega)
  simp only [Int.toNat_natCast] at hsm
  have HSM := Lib.hid hsm
  have hwr : IntKind.u64.wrap (v : Int) = (v : Int) := by simp [IntKind.wrap, IntKind.bits, IntKind.signed]; omega
  have hnn : decide ((v : Int) < 0) = false := decide_eq_false (by omega)
  have hb : nw v ≤ 2 := (nw_le_iff v 2).2 (by omega)
  have HB := Lib.hid hb
  clear hsm hb
  obtain ⟨N, hN⟩ : ∃ N, N = fracN v 1 0 := ⟨_, rfl⟩
  obtain ⟨D, hD⟩ : ∃ D, D = fracD v 1 0 := ⟨_, rfl⟩
  rw [← hN, ← hD]
  have HN := Lib.hid hN
  have HD := Lib.hid hD
  clear hN hD
  go_enter Tryz.func45, Tryz.ntmps45
  go_wp2_with fail
  refine (HSM.out _).mono ?_
  rintro e w1 ⟨A1, n1, c1, rfl, h1, hEx1⟩
  have h2 := h1.alloc (.cells #[.int .u32 1] 104)
  have h3 := one_wds w1 rfl
  have hn1 : n1 ≤ 2 := by
    have := h1.len
    rw [nd_length] at this
    have := HB.out
    omega
  have hblk := ((Blk.new w 38 #[.bool false, .slice none 0 0, .slice none 0 0]).ext hEx1).ext ((Ext.refl w1).alloc (.cells #[.int .u32 1] 104))
  have hEx : Ext w (w1.alloc (.cells #[.int .u32 1] 104)) := (((Ext.refl w).alloc _).trans hEx1).alloc _
  have hfr := frac_any false A1 n1 c1 (nd v) (some ⟨w1.heap.size, 0, none⟩) 1 1 [1] 0 (w1.alloc (.cells #[.int .u32 1] 104)) h2 (by omega) h3 (by omega) (by omega) (by omega) (by simp [nv])
  rw [nv_nd, show nv [1] = 1 from rfl, Bool.false_and, ← HN.out, ← HD.out] at hfr
  have HFR := Lib.hid hfr
  clear hfr h3
  go_wp2_with fail
  refine HFR.out.mono ?_
  rintro e w2 ⟨A2, n2, c2, A3, n3, c3, rfl, hr1, hr2, hEx2⟩
  have hblk2 := hblk.ext hEx2
  have hExw := hEx.trans hEx2
  obtain ⟨G0, hG0⟩ : ∃ G0, G0 = w.heap.size := ⟨_, rfl⟩
  rw [← hG0] at hblk2
  rw [← hG0]
  have hGw : w.heap.size ≤ G0 := by omega
  have hGl := hblk2.lt
  have q0 : w2.cell? ⟨G0, 0, none⟩ = some (.bool false) := hblk2.cell 0
  have q1 : w2.cell? ⟨G0, 1, none⟩ = some (.slice none 0 0) := hblk2.cell 1
  have q2 : w2.cell? ⟨G0, 2, none⟩ = some (.slice none 0 0) := hblk2.cell 2
  have f0 := hblk2.frozen 0
  have f1 := hblk2.frozen 1
  have f2 := hblk2.frozen 2
  clear hG0
  go_wp2
  refine bodyPost_ret (v := .agg #[.bool false, .slice A2 n2 c2, .slice A3 n3 c3]) (by simp [results, Tryz.results45, go_sem, hGl, q0, q1, q2]) rfl ?_
  exact ⟨_, _, _, _, _, _, rfl, hr1.set_box3 hblk2 (noInt3 _ _ _ _ _ _ _) (by simp) (by simp), hr2.set_box3 hblk2 (noInt3 _ _ _ _ _ _ _) (by simp) (by simp), hExw.set3 hGw _ _ _⟩

set_option maxHeartbeats 2000000 in
theorem rneg_f (A : Option Addr) (l c : Nat) (B : Option Addr) (k d N D : Nat) (w : World) (h : RatAt w A l c B k d N D) (hN : nw N ≤ 1073741824) (hD : nw D ≤ 1073741824) :
    Calls Tryz.prog 63 #[.agg #[.bool false, .slice A l c, .slice B k d]] w (RetR (decide (N ≠ 0)) N D w) := by
  have hlb : l ≤ 1073741824 := by have := h.lenN; omega
  have hkb : k ≤ 1073741824 := by have := h.lenD; omega
  obtain ⟨R, hR⟩ : ∃ R : Bool, R = decide (N ≠ 0) := ⟨_, rfl⟩
  have hz : decide ((0 : Int) < (l : Int)) = R := by
    have : l = 0 ↔ N = 0 := by rw [h.lenN]; exact nw_eq_zero
    rw [hR]
    exact decide_eq_decide.2 (by omega)
  have hzn : decide (0 < l) = R := by rw [← hz]; exact decide_eq_decide.2 (by omega)
  try rw [← hR]
  obtain ⟨G, hG⟩ : ∃ G, G = w.heap.size + 1 := ⟨_, rfl⟩
  have hGw : w.heap.size ≤ G := by omega
  have HGS := Lib.hid (show w.heap.size + 1 = G from hG.symm)
  obtain ⟨S, hS⟩ : ∃ S : World → Prop, S = fun wz => Blk wz w.heap.size 38 #[.bool false, .slice A l c, .slice B k d] ∧ Blk wz G 38 #[.bool false, .slice none 0 0, .slice none 0 0] ∧ RatAt wz A l c B k d N D ∧ Ext w wz := ⟨_, rfl⟩
  have hSE : ∀ w w', S w → Ext w w' → S w' := fun w w' h1 h2 => by rw [hS] at h1 ⊢; exact ⟨h1.1.ext h2, h1.2.1.ext h2, h1.2.2.1.ext h2, h1.2.2.2.trans h2⟩
  obtain ⟨w1, hw1⟩ : ∃ w1, w1 = (w.alloc (.cells #[.bool false, .slice A l c, .slice B k d] 38)).alloc (.cells #[.bool false, .slice none 0 0, .slice none 0 0] 38) := ⟨_, rfl⟩
  have hS1 : S { w1 with drawn := w1.drawn + 1 } := by
    rw [hS, hw1]
    have hE : Ext w ((w.alloc (.cells #[.bool false, .slice A l c, .slice B k d] 38)).alloc (.cells #[.bool false, .slice none 0 0, .slice none 0 0] 38)) := ((Ext.refl w).alloc _).alloc _
    exact ⟨(Blk.new w _ _).ext (((Ext.refl _).alloc _).drew), by rw [hG]; exact Blk.next w _ _ _, h.ext hE.drew, hE.drew⟩
  obtain ⟨sp, hsp⟩ : ∃ sp : Nat → Sp, sp = ofList [det (.pointer (some ⟨w.heap.size, 0, none⟩)), det (.bool false), det (.bool true), det (.bool true), det (.pointer (some ⟨w.heap.size, 1, none⟩)), det (.slice A l c), det (.int .i64 (l : Int)), det (.bool R), det (.bool R), det (.pointer (some ⟨w.heap.size, 1, none⟩)), det (.slice A l c), anyOf (fun v wz => ∃ A n c, v = .slice A n c ∧ Wds wz A n c (nd N)), det (.pointer (some ⟨w.heap.size, 2, none⟩)), det (.slice B k d), anyOf (fun v wz => ∃ A n c, v = .slice A n c ∧ Wds wz A n c (nd D)), anyOf (fun v wz => ∃ A1 n1 c1 A2 n2 c2, v = .agg #[.bool R, .slice A1 n1 c1, .slice A2 n2 c2] ∧ RatAt wz A1 n1 c1 A2 n2 c2 N D)] := ⟨_, rfl⟩
  have HS := Lib.hid hS
  have HSP := Lib.hid hsp
  have HW1 := Lib.hid hw1
  clear hS hsp hw1 hG hR h
  go_enter Tryz.func63, Tryz.ntmps63
  go_wp2_with fail
  rw [← HW1.out, HGS.out]
  clear HW1
  refine wp_region_loose 16 S sp (by kernel_rfl) (by kernel_rfl) hS1 hSE ?_
  simp only [List.take_succ_cons, List.take_zero, List.drop_succ_cons, List.drop_zero]
  repeat (refine wpX_step (fun K hK => ?_)
          go_simp
          first
          | (refine ⟨by rw [HSP.out]; rfl, hK _ _ ?_⟩
             clear hK K)
          | (refine StepY.det (by rw [HSP.out]; rfl) ?_ ?_
             · intro wz hz hF
               have hz' := hz
               rw [HS.out] at hz'
               have g0 := hz'.1.cell 0
               have g1 := hz'.1.cell 1
               have g2 := hz'.1.cell 2
               simp only [List.getElem?_toArray, List.getElem?_cons_zero, List.getElem?_cons_succ] at g0 g1 g2
               clear hz' hF
               go_simp
               exact ⟨rfl, Ext.refl _⟩
             refine hK _ _ ?_
             clear hK K)
          | (refine StepY.any (by rw [HSP.out]; rfl) ?_ ?_
             · intro wz hz hF
               have hz' := hz
               rw [HS.out] at hz'
               have hx : Wds wz A l c (nd N) := hz'.2.2.1.1
               have hy : Wds wz B k d (nd D) := hz'.2.2.1.2
               clear hz'
               go_simp
               first
               | (go_at_call 88
                  (with_reducible refine (norm_any A l c (nd N) _ hx (by omega)).mono ?_)
                  rintro e w2 ⟨A1, n1, c1, rfl, hW1, hE1⟩
                  rw [nv_nd] at hW1
                  exact ⟨_, rfl, ⟨A1, n1, c1, rfl, hW1⟩, hE1⟩)
               | (go_at_call 88
                  (with_reducible refine (norm_any B k d (nd D) _ hy (by omega)).mono ?_)
                  rintro e w2 ⟨A1, n1, c1, rfl, hW1, hE1⟩
                  rw [nv_nd] at hW1
                  exact ⟨_, rfl, ⟨A1, n1, c1, rfl, hW1⟩, hE1⟩)
               | skip
             intro v
             refine hK _ _ ?_
             clear hK K))
  refine wpX_step (fun K hK => ?_)
  go_simp
  refine StepY.any (by rw [HSP.out]; rfl) ?_ ?_
  · intro wz hz hF
    obtain ⟨wa, ea, A1, n1, c1, hv1, hw1⟩ := hF.any 11 (by kernel_rfl) (by rw [HSP.out]; rfl)
    obtain ⟨wb, eb, A2, n2, c2, hv2, hw2⟩ := hF.any 14 (by kernel_rfl) (by rw [HSP.out]; rfl)
    clear hF
    simp only [asFun, List.nil_append, List.cons_append, List.getD_cons_succ, List.getD_cons_zero] at hv1 hv2
    subst hv1 hv2
    go_simp
    exact ⟨⟨A1, n1, c1, A2, n2, c2, rfl, hw1.ext ea, hw2.ext eb⟩, Ext.refl _⟩
  · intro v
    refine hK _ _ ?_
    clear hK K
    refine wpX_nil ?_
    intro w3 hz hF
    obtain ⟨w0, e0, A1, n1, c1, A2, n2, c2, hv, hw0⟩ := fact_any (hF 15 (by omega)) (by rw [HSP.out]; rfl)
    clear hF
    simp only [asFun, List.nil_append, List.cons_append, List.getD_cons_succ, List.getD_cons_zero] at hv
    subst hv
    rw [HS.out] at hz
    have hb3 := hz.2.1
    have hEx := hz.2.2.2
    have hr1 := hw0.1.ext e0
    have hr2 := hw0.2.ext e0
    have hGl := hb3.lt
    have q0 : w3.cell? ⟨G, 0, none⟩ = some (.bool false) := hb3.cell 0
    have q1 : w3.cell? ⟨G, 1, none⟩ = some (.slice none 0 0) := hb3.cell 1
    have q2 : w3.cell? ⟨G, 2, none⟩ = some (.slice none 0 0) := hb3.cell 2
    have f0 := hb3.frozen 0
    have f1 := hb3.frozen 1
    have f2 := hb3.frozen 2
    clear hz hw0 e0
    go_wp2
    exact bodyPost_ret (v := .agg #[.bool R, .slice A1 n1 c1, .slice A2 n2 c2]) (by simp [results, Tryz.results63, go_sem, hGl, q0, q1, q2]) rfl
      ⟨_, _, _, _, _, _, rfl, hr1.set_box3 hb3 (noInt3 _ _ _ _ _ _ _) (by simp) (by simp), hr2.set_box3 hb3 (noInt3 _ _ _ _ _ _ _) (by simp) (by simp), hEx.set3 hGw _ _ _⟩


set_option maxHeartbeats 2000000 in
theorem rneg_t (A : Option Addr) (l c : Nat) (B : Option Addr) (k d N D : Nat) (w : World) (h : RatAt w A l c B k d N D) (hN : nw N ≤ 1073741824) (hD : nw D ≤ 1073741824) :
    Calls Tryz.prog 63 #[.agg #[.bool true, .slice A l c, .slice B k d]] w (RetR false N D w) := by
  have hlb : l ≤ 1073741824 := by have := h.lenN; omega
  have hkb : k ≤ 1073741824 := by have := h.lenD; omega
  obtain ⟨G, hG⟩ : ∃ G, G = w.heap.size + 1 := ⟨_, rfl⟩
  have hGw : w.heap.size ≤ G := by omega
  have HGS := Lib.hid (show w.heap.size + 1 = G from hG.symm)
  obtain ⟨S, hS⟩ : ∃ S : World → Prop, S = fun wz => Blk wz w.heap.size 38 #[.bool true, .slice A l c, .slice B k d] ∧ Blk wz G 38 #[.bool false, .slice none 0 0, .slice none 0 0] ∧ RatAt wz A l c B k d N D ∧ Ext w wz := ⟨_, rfl⟩
  have hSE : ∀ w w', S w → Ext w w' → S w' := fun w w' h1 h2 => by rw [hS] at h1 ⊢; exact ⟨h1.1.ext h2, h1.2.1.ext h2, h1.2.2.1.ext h2, h1.2.2.2.trans h2⟩
  obtain ⟨w1, hw1⟩ : ∃ w1, w1 = (w.alloc (.cells #[.bool true, .slice A l c, .slice B k d] 38)).alloc (.cells #[.bool false, .slice none 0 0, .slice none 0 0] 38) := ⟨_, rfl⟩
  have hS1 : S { w1 with drawn := w1.drawn + 1 } := by
    rw [hS, hw1]
    have hE : Ext w ((w.alloc (.cells #[.bool true, .slice A l c, .slice B k d] 38)).alloc (.cells #[.bool false, .slice none 0 0, .slice none 0 0] 38)) := ((Ext.refl w).alloc _).alloc _
    exact ⟨(Blk.new w _ _).ext (((Ext.refl _).alloc _).drew), by rw [hG]; exact Blk.next w _ _ _, h.ext hE.drew, hE.drew⟩
  obtain ⟨sp, hsp⟩ : ∃ sp : Nat → Sp, sp = ofList [det (.pointer (some ⟨w.heap.size, 0, none⟩)), det (.bool true), det (.bool false), det (.bool false), det undef, det undef, det undef, det undef, det (.bool false), det (.pointer (some ⟨w.heap.size, 1, none⟩)), det (.slice A l c), anyOf (fun v wz => ∃ A n c, v = .slice A n c ∧ Wds wz A n c (nd N)), det (.pointer (some ⟨w.heap.size, 2, none⟩)), det (.slice B k d), anyOf (fun v wz => ∃ A n c, v = .slice A n c ∧ Wds wz A n c (nd D)), anyOf (fun v wz => ∃ A1 n1 c1 A2 n2 c2, v = .agg #[.bool false, .slice A1 n1 c1, .slice A2 n2 c2] ∧ RatAt wz A1 n1 c1 A2 n2 c2 N D)] := ⟨_, rfl⟩
  have HS := Lib.hid hS
  have HSP := Lib.hid hsp
  have HW1 := Lib.hid hw1
  clear hS hsp hw1 hG h
  go_enter Tryz.func63, Tryz.ntmps63
  go_wp2_with fail
  rw [← HW1.out, HGS.out]
  clear HW1
  refine wp_region_loose 16 S sp (by kernel_rfl) (by kernel_rfl) hS1 hSE ?_
  simp only [List.take_succ_cons, List.take_zero, List.drop_succ_cons, List.drop_zero]
  repeat (refine wpX_step (fun K hK => ?_)
          go_simp
          first
          | (refine ⟨by rw [HSP.out]; rfl, hK _ _ ?_⟩
             clear hK K)
          | (refine StepY.det (by rw [HSP.out]; rfl) ?_ ?_
             · intro wz hz hF
               have hz' := hz
               rw [HS.out] at hz'
               have g0 := hz'.1.cell 0
               have g1 := hz'.1.cell 1
               have g2 := hz'.1.cell 2
               simp only [List.getElem?_toArray, List.getElem?_cons_zero, List.getElem?_cons_succ] at g0 g1 g2
               clear hz' hF
               go_simp
               exact ⟨rfl, Ext.refl _⟩
             refine hK _ _ ?_
             clear hK K)
          | (refine StepY.any (by rw [HSP.out]; rfl) ?_ ?_
             · intro wz hz hF
               have hz' := hz
               rw [HS.out] at hz'
               have hx : Wds wz A l c (nd N) := hz'.2.2.1.1
               have hy : Wds wz B k d (nd D) := hz'.2.2.1.2
               clear hz'
               go_simp
               first
               | (go_at_call 88
                  (with_reducible refine (norm_any A l c (nd N) _ hx (by omega)).mono ?_)
                  rintro e w2 ⟨A1, n1, c1, rfl, hW1, hE1⟩
                  rw [nv_nd] at hW1
                  exact ⟨_, rfl, ⟨A1, n1, c1, rfl, hW1⟩, hE1⟩)
               | (go_at_call 88
                  (with_reducible refine (norm_any B k d (nd D) _ hy (by omega)).mono ?_)
                  rintro e w2 ⟨A1, n1, c1, rfl, hW1, hE1⟩
                  rw [nv_nd] at hW1
                  exact ⟨_, rfl, ⟨A1, n1, c1, rfl, hW1⟩, hE1⟩)
               | skip
             intro v
             refine hK _ _ ?_
             clear hK K))
  refine wpX_step (fun K hK => ?_)
  go_simp
  refine StepY.any (by rw [HSP.out]; rfl) ?_ ?_
  · intro wz hz hF
    obtain ⟨wa, ea, A1, n1, c1, hv1, hw1⟩ := hF.any 11 (by kernel_rfl) (by rw [HSP.out]; rfl)
    obtain ⟨wb, eb, A2, n2, c2, hv2, hw2⟩ := hF.any 14 (by kernel_rfl) (by rw [HSP.out]; rfl)
    clear hF
    simp only [asFun, List.nil_append, List.cons_append, List.getD_cons_succ, List.getD_cons_zero] at hv1 hv2
    subst hv1 hv2
    go_simp
    exact ⟨⟨A1, n1, c1, A2, n2, c2, rfl, hw1.ext ea, hw2.ext eb⟩, Ext.refl _⟩
  · intro v
    refine hK _ _ ?_
    clear hK K
    refine wpX_nil ?_
    intro w3 hz hF
    obtain ⟨w0, e0, A1, n1, c1, A2, n2, c2, hv, hw0⟩ := fact_any (hF 15 (by omega)) (by rw [HSP.out]; rfl)
    clear hF
    simp only [asFun, List.nil_append, List.cons_append, List.getD_cons_succ, List.getD_cons_zero] at hv
    subst hv
    rw [HS.out] at hz
    have hb3 := hz.2.1
    have hEx := hz.2.2.2
    have hr1 := hw0.1.ext e0
    have hr2 := hw0.2.ext e0
    have hGl := hb3.lt
    have q0 : w3.cell? ⟨G, 0, none⟩ = some (.bool false) := hb3.cell 0
    have q1 : w3.cell? ⟨G, 1, none⟩ = some (.slice none 0 0) := hb3.cell 1
    have q2 : w3.cell? ⟨G, 2, none⟩ = some (.slice none 0 0) := hb3.cell 2
    have f0 := hb3.frozen 0
    have f1 := hb3.frozen 1
    have f2 := hb3.frozen 2
    clear hz hw0 e0
    go_wp2
    exact bodyPost_ret (v := .agg #[.bool false, .slice A1 n1 c1, .slice A2 n2 c2]) (by simp [results, Tryz.results63, go_sem, hGl, q0, q1, q2]) rfl
      ⟨_, _, _, _, _, _, rfl, hr1.set_box3 hb3 (noInt3 _ _ _ _ _ _ _) (by simp) (by simp), hr2.set_box3 hb3 (noInt3 _ _ _ _ _ _ _) (by simp) (by simp), hEx.set3 hGw _ _ _⟩


theorem rneg_any (neg : Bool) (A : Option Addr) (l c : Nat) (B : Option Addr) (k d N D : Nat) (w : World) (h : RatAt w A l c B k d N D) (hN : nw N ≤ 1073741824) (hD : nw D ≤ 1073741824) :
    Calls Tryz.prog 63 #[.agg #[.bool neg, .slice A l c, .slice B k d]] w (RetR (!neg && decide (N ≠ 0)) N D w) := by
  cases neg
  · exact rneg_f A l c B k d N D w h hN hD
  · exact rneg_t A l c B k d N D w h hN hD
end Go.Proofs.YtfbjeifhpmdjaaaGreat

/-
  The contracts of the document's products of ratios. Conditions: those that each theorem names.
-/
namespace Go.Proofs.YtfbjeifhpmdjaaaGreat
open Go.RowKit Nm Rn
set_option maxRecDepth 100000
set_option linter.unusedVariables false
set_option linter.unusedSimpArgs false

set_option maxHeartbeats 2000000 in
theorem rmulq_any (n m : Bool) (A : Option Addr) (l c : Nat) (B : Option Addr) (k d N D : Nat) (A' : Option Addr) (l' c' : Nat) (B' : Option Addr) (k' d' N' D' : Nat) (w : World)
    (h : RatAt w A l c B k d N D) (h' : RatAt w A' l' c' B' k' d' N' D') (hN : nw N ≤ 1073741824) (hD : nw D ≤ 1073741824) (hN' : nw N' ≤ 1073741824) (hD' : nw D' ≤ 1073741824) (hp : 0 < D * D') :
    Calls Tryz.prog 60 #[.agg #[.bool n, .slice A l c, .slice B k d], .agg #[.bool m, .slice A' l' c', .slice B' k' d']] w (RetR ((n != m) && decide (N * N' ≠ 0)) (fracN (N * N') (D * D') 0) (fracD (N * N') (D * D') 0) w) := by
  have hl := h.lenN
  have hk := h.lenD
  have hl' := h'.lenN
  have hk' := h'.lenD
  have hO := ((((Own.start w).add h.1).add h.2).add h'.1).add h'.2
  have hT1 := fun w h h' => times_any A l c (nd N) A' l' c' (nd N') w h (by omega) h' (by omega)
  have hT2 := fun w h h' => times_any B k d (nd D) B' k' d' (nd D') w h (by omega) h' (by omega)
  have e1 := nw_mul2 N N'
  have e2 := nw_mul2 D D'
  have hFR := fun A n1 c B n2 d w (h : Wds w A n1 c (nd (N * N'))) (k : Wds w B n2 d (nd (D * D'))) => frac_any (n != m) A n1 c (nd (N * N')) B n2 d (nd (D * D')) 0 w h (by have := h.len; rw [nd_length] at this; omega) k (by have := k.len; rw [nd_length] at this; omega) (by omega) (by omega) (by rw [nv_nd]; exact hp)
  simp only [nv_nd] at hT1 hT2 hFR
  obtain ⟨P, hP⟩ : ∃ P, P = N * N' := ⟨_, rfl⟩
  obtain ⟨Q, hQ⟩ : ∃ Q, Q = D * D' := ⟨_, rfl⟩
  rw [← hP] at hT1 hFR ⊢
  rw [← hQ] at hT2 hFR ⊢
  obtain ⟨r, hr⟩ : ∃ r, r = (n != m) := ⟨_, rfl⟩
  rw [← hr] at hFR ⊢
  obtain ⟨zz, hzz⟩ : ∃ zz, zz = (r && decide (P ≠ 0)) := ⟨_, rfl⟩
  rw [← hzz] at hFR ⊢
  clear hzz
  have HR := Lib.hid hr.symm
  have HT1 := Lib.hid hT1
  have HT2 := Lib.hid hT2
  have HFR := Lib.hid hFR
  clear hT1 hT2 hFR hP hQ hr h h' hl hk hl' hk' hN hD hN' hD' hp e1 e2
  go_enter Tryz.func60, Tryz.ntmps60
  go_wp2_with (first
    | (refine own_box (cs := [.bool n, .slice A l c, .slice B k d]) hO rfl rfl ?_; clear hO; intro ga wa hO)
    | (refine own_box (cs := [.bool m, .slice A' l' c', .slice B' k' d']) hO rfl rfl ?_; clear hO; intro gb wb hO)
    | (refine own_alloc hO zero_rat rfl rfl ?_; clear hO; intro g w1 hO))
  obtain ⟨S, hS⟩ : ∃ S : World → Prop, S = Own w [⟨g, 38, [.bool false, .slice none 0 0, .slice none 0 0]⟩, ⟨gb, 38, [.bool m, .slice A' l' c', .slice B' k' d']⟩, ⟨ga, 38, [.bool n, .slice A l c, .slice B k d]⟩] [⟨B', k', d', nd D'⟩, ⟨A', l', c', nd N'⟩, ⟨B, k, d, nd D⟩, ⟨A, l, c, nd N⟩] := ⟨_, rfl⟩
  have hSE : ∀ w w', S w → Ext w w' → S w' := fun w w' h1 h2 => by rw [hS] at h1 ⊢; exact h1.ext h2
  have hS1 : S w1.drew := by rw [hS]; exact hO.ext (Ext.refl w1).drew
  have HS := Lib.hid hS
  clear hS hO
  obtain ⟨sp, hsp⟩ : ∃ sp : Nat → Sp, sp = ofList [det (.pointer (some ⟨ga, 0, none⟩)), det (.bool n), det (.pointer (some ⟨gb, 0, none⟩)), det (.bool m), det (.bool r),
    det (.pointer (some ⟨ga, 1, none⟩)), det (.slice A l c), det (.pointer (some ⟨gb, 1, none⟩)), det (.slice A' l' c'), anyOf (fun v wz => ∃ A1 n1 c1, v = .slice A1 n1 c1 ∧ Wds wz A1 n1 c1 (nd P)),
    det (.pointer (some ⟨ga, 2, none⟩)), det (.slice B k d), det (.pointer (some ⟨gb, 2, none⟩)), det (.slice B' k' d'), anyOf (fun v wz => ∃ A1 n1 c1, v = .slice A1 n1 c1 ∧ Wds wz A1 n1 c1 (nd Q)),
    anyOf (fun v wz => ∃ A1 n1 c1 A2 n2 c2, v = .agg #[.bool zz, .slice A1 n1 c1, .slice A2 n2 c2] ∧ RatAt wz A1 n1 c1 A2 n2 c2 (fracN P Q 0) (fracD P Q 0))] := ⟨_, rfl⟩
  have HSP := Lib.hid hsp
  clear hsp
  refine wp_region_loose 16 S sp (by kernel_rfl) (by kernel_rfl) hS1 hSE ?_
  simp only [List.take_succ_cons, List.take_zero, List.drop_succ_cons, List.drop_zero]
  iterate 15
    refine wpX_step (fun K hK => ?_)
    go_simp
    first
    | (refine ⟨by rw [HSP.out]; rfl, hK _ _ ?_⟩
       clear hK K)
    | (refine StepY.det (by rw [HSP.out]; rfl) ?_ ?_
       · intro wz hz hF
         rw [HS.out] at hz
         have hf := hz.facts
         simp only [BF, CF, Nat.zero_add, Nat.reduceAdd, and_true] at hf
         have hr := HR.out
         clear hz hF
         go_simp
         first
         | exact ⟨rfl, Ext.refl _⟩
         | exact ⟨by rw [← hr]; rfl, Ext.refl _⟩
       refine hK _ _ ?_
       clear hK K)
    | (refine StepY.any (by rw [HSP.out]; rfl) ?_ ?_
       · intro wz hz hF
         rw [HS.out] at hz
         have h1 := hz.wd 3 rfl
         have h2 := hz.wd 2 rfl
         have h3 := hz.wd 1 rfl
         have h4 := hz.wd 0 rfl
         clear hz
         go_simp
         go_at_call 82
         first
         | (with_reducible refine (HT1.out _ h1 h3).mono ?_)
         | (with_reducible refine (HT2.out _ h2 h4).mono ?_)
         rintro e w2 ⟨A1, n1, c1, rfl, hW1, hE1⟩
         exact ⟨_, rfl, ⟨A1, n1, c1, rfl, hW1⟩, hE1⟩
       intro v
       refine hK _ _ ?_
       clear hK K)
  refine wpX_step (fun K hK => ?_)
  go_simp
  refine StepY.any (by rw [HSP.out]; rfl) ?_ ?_
  · intro wz hz hF
    obtain ⟨wa', ea, A1, n1, c1, hv1, hw1⟩ := hF.any 9 (by kernel_rfl) (by rw [HSP.out]; rfl)
    obtain ⟨wb', eb, A2, n2, c2, hv2, hw2⟩ := hF.any 14 (by kernel_rfl) (by rw [HSP.out]; rfl)
    clear hF
    simp only [asFun, List.nil_append, List.cons_append, List.getD_cons_succ, List.getD_cons_zero] at hv1 hv2
    subst hv1 hv2
    go_simp
    go_at_call 79
    refine (HFR.out _ _ _ _ _ _ _ (hw1.ext ea) (hw2.ext eb)).mono ?_
    rintro e w2 ⟨A3, n3, c3, A4, n4, c4, rfl, hW1, hW2, hE1⟩
    exact ⟨_, rfl, ⟨A3, n3, c3, A4, n4, c4, rfl, hW1, hW2⟩, hE1⟩
  intro v
  refine hK _ _ ?_
  clear hK K
  refine wpX_nil ?_
  intro w3 hz hF
  obtain ⟨w0, e0, A3, n3, c3, A4, n4, c4, hv, hw0⟩ := fact_any (hF 15 (by omega)) (by rw [HSP.out]; rfl)
  clear hF
  simp only [asFun, List.nil_append, List.cons_append, List.getD_cons_succ, List.getD_cons_zero] at hv
  subst hv
  rw [HS.out] at hz
  have hO := (hz.add (hw0.ext e0).1).add (hw0.ext e0).2
  clear hz hw0 e0
  go_wp2_with (refine own_store hO 0 rfl rfl rfl size_rat rfl rfl rfl ?_; clear hO; intro w4 hO)
  exact own_ret hO 0 rfl rfl rfl agg_rat size_rat rfl ⟨_, _, _, _, _, _, rfl, hO.wd 1 rfl, hO.wd 0 rfl, hO.toExt⟩
end Go.Proofs.YtfbjeifhpmdjaaaGreat
