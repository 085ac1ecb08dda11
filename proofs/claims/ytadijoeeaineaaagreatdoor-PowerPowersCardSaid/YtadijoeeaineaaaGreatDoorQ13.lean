/-
  The contracts of the document's ratios, third part: rounding, whole numbers, negatives. Conditions: those that each theorem names.
-/
import Derived.Test.YtadijoeeaineaaaGreatDoorQ11
import Derived.StillTailTactics
import Derived.Test.YtadijoeeaineaaaGreatDoorQ03
import Derived.Test.YtadijoeeaineaaaGreatDoorQ12
import Derived.Test.YtadijoeeaineaaaGreatDoorQ06
import Derived.Laws.Externs
import Derived.Laws.DeepNot64
import Derived.Test.YtadijoeeaineaaaGreatDoorQ07
import Derived.Deep.QuietTactic
import Derived.BigQuiet
namespace Go.Proofs.YtadijoeeaineaaaGreatDoor
open Go.RowKit Nm Rn
set_option maxRecDepth 100000
set_option linter.unusedVariables false
set_option linter.unusedSimpArgs false

theorem Blk.next (w : World) (o : Obj) (t : TypeId) (cs : Array Value) : Blk ((w.alloc o).alloc (.cells cs t)) (w.heap.size + 1) t cs := by
  have := Blk.new (w.alloc o) t cs
  rwa [show (w.alloc o).heap.size = w.heap.size + 1 by simp] at this

/-- Where a ratio's two naturals lie. -/
def RatAt (w : World) (A : Option Addr) (l c : Nat) (B : Option Addr) (k d : Nat) (N D : Nat) : Prop := Wds w A l c (nd N) ∧ Wds w B k d (nd D)
theorem RatAt.ext {w w' : World} {A : Option Addr} {l c : Nat} {B : Option Addr} {k d N D : Nat} (h : RatAt w A l c B k d N D) (he : Ext w w') : RatAt w' A l c B k d N D := ⟨h.1.ext he, h.2.ext he⟩
theorem RatAt.lenN {w : World} {A : Option Addr} {l c : Nat} {B : Option Addr} {k d N D : Nat} (h : RatAt w A l c B k d N D) : l = nw N := by have := h.1.len; rw [nd_length] at this; omega
theorem RatAt.lenD {w : World} {A : Option Addr} {l c : Nat} {B : Option Addr} {k d N D : Nat} (h : RatAt w A l c B k d N D) : k = nw D := by have := h.2.len; rw [nd_length] at this; omega

set_option maxHeartbeats 400000 in
theorem bits3_any (d : Int) (neg : Bool) (A : Option Addr) (l c : Nat) (B : Option Addr) (k dd N D : Nat) (w : World) (h : RatAt w A l c B k dd N D) (hN : nw N ≤ 1073741824) (hD : nw D ≤ 1073741824) (hpos : D ≠ 0) :
    Calls Tryz.prog 61 #[.int .i64 d, .agg #[.bool neg, .slice A l c, .slice B k dd]] w fun e w' => e = .returned (.int .u64 (rnd d neg (zr N D) : Nat)) ∧ Ext w w' := by
  have hl := h.lenN
  have hk := h.lenD
  have hr := rounded_any d neg A l c (nd N) B k dd (nd D) (w.alloc (.cells #[.bool neg, .slice A l c, .slice B k dd] 40)) (h.1.alloc _) (by omega) (h.2.alloc _) (by omega) (by rw [nv_nd]; exact hpos)
  rw [nv_nd, nv_nd] at hr
  obtain ⟨R, hR⟩ : ∃ R, R = rnd d neg (zr N D) := ⟨_, rfl⟩
  rw [← hR] at hr ⊢
  have HR := Lib.hid hr
  clear hr hR hl hk h
  go_enter Tryz.func61, Tryz.ntmps61
  go_wp2_with fail
  refine HR.out.mono ?_
  rintro e w1 ⟨rfl, hE⟩
  go_wp2
  go_ret
  exact ⟨rfl, ((Ext.refl w).alloc _).trans hE⟩

set_option maxHeartbeats 1000000 in
theorem int_any (v : Nat) (w : World) (hv : v < 4611686018427387904) :
    Calls Tryz.prog 19 #[.int .i64 (v : Int)] w (RetR false (fracN v 1 0) (fracD v 1 0) w) := by
  have hsm := fun w => small_any (v : Int) w (by omega) (by omega)
  simp only [Int.toNat_natCast] at hsm
  have HSM := Lib.hid hsm
  have hwr : IntKind.u64.wrap (v : Int) = (v : Int) := by simp [IntKind.wrap, IntKind.bits, IntKind.signed]; omega
  have hnn : decide ((v : Int) < 0) = false := decide_eq_false (by omega)
  have hb : nw v ≤ 2 := (nw_le_iff v 2).2 (by omega)
  have HB := Lib.hid hb
  clear hsm hb
  obtain ⟨N, hN⟩ : ∃ N, N = fracN v 1 0 := ⟨_, rfl⟩
  obtain ⟨D, hD⟩ : ∃ D, D = fracD v 1 0 := ⟨_, rfl⟩
  rw [← hN, ← hD]
  have HN := Lib.hid hN
  have HD := Lib.hid hD
  clear hN hD
  go_enter Tryz.func19, Tryz.ntmps19
  go_wp2_with fail
  refine (HSM.out _).mono ?_
  rintro e w1 ⟨A1, n1, c1, rfl, h1, hEx1⟩
  have h2 := h1.alloc (.cells #[.int .u32 1] 65)
  have h3 := one_wds w1 rfl
  have hn1 : n1 ≤ 2 := by
    have := h1.len
    rw [nd_length] at this
    have := HB.out
    omega
  have hblk := ((Blk.new w 40 #[.bool false, .slice none 0 0, .slice none 0 0]).ext hEx1).ext ((Ext.refl w1).alloc (.cells #[.int .u32 1] 65))
  have hEx : Ext w (w1.alloc (.cells #[.int .u32 1] 65)) := (((Ext.refl w).alloc _).trans hEx1).alloc _
  have hfr := frac_any false A1 n1 c1 (nd v) (some ⟨w1.heap.size, 0, none⟩) 1 1 [1] 0 (w1.alloc (.cells #[.int .u32 1] 65)) h2 (by omega) h3 (by omega) (by omega) (by omega) (by simp [nv])
  rw [nv_nd, show nv [1] = 1 from rfl, Bool.false_and, ← HN.out, ← HD.out] at hfr
  have HFR := Lib.hid hfr
  clear hfr h3
  go_wp2_with fail
  refine HFR.out.mono ?_
  rintro e w2 ⟨A2, n2, c2, A3, n3, c3, rfl, hr1, hr2, hEx2⟩
  have hblk2 := hblk.ext hEx2
  have hExw := hEx.trans hEx2
  obtain ⟨G0, hG0⟩ : ∃ G0, G0 = w.heap.size := ⟨_, rfl⟩
  rw [← hG0] at hblk2
  rw [← hG0]
  have hGw : w.heap.size ≤ G0 := by omega
  have hGl := hblk2.lt
  have q0 : w2.cell? ⟨G0, 0, none⟩ = some (.bool false) := hblk2.cell 0
  have q1 : w2.cell? ⟨G0, 1, none⟩ = some (.slice none 0 0) := hblk2.cell 1
  have q2 : w2.cell? ⟨G0, 2, none⟩ = some (.slice none 0 0) := hblk2.cell 2
  have f0 := hblk2.frozen 0
  have f1 := hblk2.frozen 1
  have f2 := hblk2.frozen 2
  clear hG0
  go_wp2
  refine bodyPost_ret (v := .agg #[.bool false, .slice A2 n2 c2, .slice A3 n3 c3]) (by simp [results, Tryz.results19, go_sem, hGl, q0, q1, q2]) rfl ?_
  exact ⟨_, _, _, _, _, _, rfl, hr1.set_box3 hblk2 (noInt3 _ _ _ _ _ _ _) (by simp) (by simp), hr2.set_box3 hblk2 (noInt3 _ _ _ _ _ _ _) (by simp) (by simp), hExw.set3 hGw _ _ _⟩

set_option maxHeartbeats 2000000 in
theorem rneg_f (A : Option Addr) (l c : Nat) (B : Option Addr) (k d N D : Nat) (w : World) (h : RatAt w A l c B k d N D) (hN : nw N ≤ 1073741824) (hD : nw D ≤ 1073741824) :
    Calls Tryz.prog 48 #[.agg #[.bool false, .slice A l c, .slice B k d]] w (RetR (decide (N ≠ 0)) N D w) := by
  have hlb : l ≤ 1073741824 := by have := h.lenN; omega
  have hkb : k ≤ 1073741824 := by have := h.lenD; omega
  obtain ⟨R, hR⟩ : ∃ R : Bool, R = decide (N ≠ 0) := ⟨_, rfl⟩
  have hz : decide ((0 : Int) < (l : Int)) = R := by
    have : l = 0 ↔ N = 0 := by rw [h.lenN]; exact nw_eq_zero
    rw [hR]
    exact decide_eq_decide.2 (by omega)
  have hzn : decide (0 < l) = R := by rw [← hz]; exact decide_eq_decide.2 (by omega)
  try rw [← hR]
  obtain ⟨G, hG⟩ : ∃ G, G = w.heap.size + 1 := ⟨_, rfl⟩
  have hGw : w.heap.size ≤ G := by omega
  have HGS := Lib.hid (show w.heap.size + 1 = G from hG.symm)
  obtain ⟨S, hS⟩ : ∃ S : World → Prop, S = fun wz => Blk wz w.heap.size 40 #[.bool false, .slice A l c, .slice B k d] ∧ Blk wz G 40 #[.bool false, .slice none 0 0, .slice none 0 0] ∧ RatAt wz A l c B k d N D ∧ Ext w wz := ⟨_, rfl⟩
  have hSE : ∀ w w', S w → Ext w w' → S w' := fun w w' h1 h2 => by rw [hS] at h1 ⊢; exact ⟨h1.1.ext h2, h1.2.1.ext h2, h1.2.2.1.ext h2, h1.2.2.2.trans h2⟩
  obtain ⟨w1, hw1⟩ : ∃ w1, w1 = (w.alloc (.cells #[.bool false, .slice A l c, .slice B k d] 40)).alloc (.cells #[.bool false, .slice none 0 0, .slice none 0 0] 40) := ⟨_, rfl⟩
  have hS1 : S { w1 with drawn := w1.drawn + 1 } := by
    rw [hS, hw1]
    have hE : Ext w ((w.alloc (.cells #[.bool false, .slice A l c, .slice B k d] 40)).alloc (.cells #[.bool false, .slice none 0 0, .slice none 0 0] 40)) := ((Ext.refl w).alloc _).alloc _
    exact ⟨(Blk.new w _ _).ext (((Ext.refl _).alloc _).drew), by rw [hG]; exact Blk.next w _ _ _, h.ext hE.drew, hE.drew⟩
  obtain ⟨sp, hsp⟩ : ∃ sp : Nat → Sp, sp = ofList [det (.pointer (some ⟨w.heap.size, 0, none⟩)), det (.bool false), det (.bool true), det (.bool true), det (.pointer (some ⟨w.heap.size, 1, none⟩)), det (.slice A l c), det (.int .i64 (l : Int)), det (.bool R), det (.bool R), det (.pointer (some ⟨w.heap.size, 1, none⟩)), det (.slice A l c), anyOf (fun v wz => ∃ A n c, v = .slice A n c ∧ Wds wz A n c (nd N)), det (.pointer (some ⟨w.heap.size, 2, none⟩)), det (.slice B k d), anyOf (fun v wz => ∃ A n c, v = .slice A n c ∧ Wds wz A n c (nd D)), anyOf (fun v wz => ∃ A1 n1 c1 A2 n2 c2, v = .agg #[.bool R, .slice A1 n1 c1, .slice A2 n2 c2] ∧ RatAt wz A1 n1 c1 A2 n2 c2 N D)] := ⟨_, rfl⟩
  have HS := Lib.hid hS
  have HSP := Lib.hid hsp
  have HW1 := Lib.hid hw1
  clear hS hsp hw1 hG hR h
  go_enter Tryz.func48, Tryz.ntmps48
  go_wp2_with fail
  rw [← HW1.out, HGS.out]
  clear HW1
  refine wp_region_loose 16 S sp (by kernel_rfl) (by kernel_rfl) hS1 hSE ?_
  simp only [List.take_succ_cons, List.take_zero, List.drop_succ_cons, List.drop_zero]
  repeat (refine wpX_step (fun K hK => ?_)
          go_simp
          first
          | (refine ⟨by rw [HSP.out]; rfl, hK _ _ ?_⟩
             clear hK K)
          | (refine StepY.det (by rw [HSP.out]; rfl) ?_ ?_
             · intro wz hz hF
               have hz' := hz
               rw [HS.out] at hz'
               have g0 := hz'.1.cell 0
               have g1 := hz'.1.cell 1
               have g2 := hz'.1.cell 2
               simp only [List.getElem?_toArray, List.getElem?_cons_zero, List.getElem?_cons_succ] at g0 g1 g2
               clear hz' hF
               go_simp
               exact ⟨rfl, Ext.refl _⟩
             refine hK _ _ ?_
             clear hK K)
          | (refine StepY.any (by rw [HSP.out]; rfl) ?_ ?_
             · intro wz hz hF
               have hz' := hz
               rw [HS.out] at hz'
               have hx : Wds wz A l c (nd N) := hz'.2.2.1.1
               have hy : Wds wz B k d (nd D) := hz'.2.2.1.2
               clear hz'
               go_simp
               first
               | (go_at_call 74
                  (with_reducible refine (norm_any A l c (nd N) _ hx (by omega)).mono ?_)
                  rintro e w2 ⟨A1, n1, c1, rfl, hW1, hE1⟩
                  rw [nv_nd] at hW1
                  exact ⟨_, rfl, ⟨A1, n1, c1, rfl, hW1⟩, hE1⟩)
               | (go_at_call 74
                  (with_reducible refine (norm_any B k d (nd D) _ hy (by omega)).mono ?_)
                  rintro e w2 ⟨A1, n1, c1, rfl, hW1, hE1⟩
                  rw [nv_nd] at hW1
                  exact ⟨_, rfl, ⟨A1, n1, c1, rfl, hW1⟩, hE1⟩)
               | skip
             intro v
             refine hK _ _ ?_
             clear hK K))
  refine wpX_step (fun K hK => ?_)
  go_simp
  refine StepY.any (by rw [HSP.out]; rfl) ?_ ?_
  · intro wz hz hF
    obtain ⟨wa, ea, A1, n1, c1, hv1, hw1⟩ := hF.any 11 (by kernel_rfl) (by rw [HSP.out]; rfl)
    obtain ⟨wb, eb, A2, n2, c2, hv2, hw2⟩ := hF.any 14 (by kernel_rfl) (by rw [HSP.out]; rfl)
    clear hF
    simp only [asFun, List.nil_append, List.cons_append, List.getD_cons_succ, List.getD_cons_zero] at hv1 hv2
    subst hv1 hv2
    go_simp
    exact ⟨⟨A1, n1, c1, A2, n2, c2, rfl, hw1.ext ea, hw2.ext eb⟩, Ext.refl _⟩
  · intro v
    refine hK _ _ ?_
    clear hK K
    refine wpX_nil ?_
    intro w3 hz hF
    obtain ⟨w0, e0, A1, n1, c1, A2, n2, c2, hv, hw0⟩ := fact_any (hF 15 (by omega)) (by rw [HSP.out]; rfl)
    clear hF
    simp only [asFun, List.nil_append, List.cons_append, List.getD_cons_succ, List.getD_cons_zero] at hv
    subst hv
    rw [HS.out] at hz
    have hb3 := hz.2.1
    have hEx := hz.2.2.2
    have hr1 := hw0.1.ext e0
    have hr2 := hw0.2.ext e0
    have hGl := hb3.lt
    have q0 : w3.cell? ⟨G, 0, none⟩ = some (.bool false) := hb3.cell 0
    have q1 : w3.cell? ⟨G, 1, none⟩ = some (.slice none 0 0) := hb3.cell 1
    have q2 : w3.cell? ⟨G, 2, none⟩ = some (.slice none 0 0) := hb3.cell 2
    have f0 := hb3.frozen 0
    have f1 := hb3.frozen 1
    have f2 := hb3.frozen 2
    clear hz hw0 e0
    go_wp2
    exact bodyPost_ret (v := .agg #[.bool R, .slice A1 n1 c1, .slice A2 n2 c2]) (by simp [results, Tryz.results48, go_sem, hGl, q0, q1, q2]) rfl
      ⟨_, _, _, _, _, _, rfl, hr1.set_box3 hb3 (noInt3 _ _ _ _ _ _ _) (by simp) (by simp), hr2.set_box3 hb3 (noInt3 _ _ _ _ _ _ _) (by simp) (by simp), hEx.set3 hGw _ _ _⟩


set_option maxHeartbeats 2000000 in
theorem rneg_t (A : Option Addr) (l c : Nat) (B : Option Addr) (k d N D : Nat) (w : World) (h : RatAt w A l c B k d N D) (hN : nw N ≤ 1073741824) (hD : nw D ≤ 1073741824) :
    Calls Tryz.prog 48 #[.agg #[.bool true, .slice A l c, .slice B k d]] w (RetR false N D w) := by
  have hlb : l ≤ 1073741824 := by have := h.lenN; omega
  have hkb : k ≤ 1073741824 := by have := h.lenD; omega
  obtain ⟨G, hG⟩ : ∃ G, G = w.heap.size + 1 := ⟨_, rfl⟩
  have hGw : w.heap.size ≤ G := by omega
  have HGS := Lib.hid (show w.heap.size + 1 = G from hG.symm)
  obtain ⟨S, hS⟩ : ∃ S : World → Prop, S = fun wz => Blk wz w.heap.size 40 #[.bool true, .slice A l c, .slice B k d] ∧ Blk wz G 40 #[.bool false, .slice none 0 0, .slice none 0 0] ∧ RatAt wz A l c B k d N D ∧ Ext w wz := ⟨_, rfl⟩
  have hSE : ∀ w w', S w → Ext w w' → S w' := fun w w' h1 h2 => by rw [hS] at h1 ⊢; exact ⟨h1.1.ext h2, h1.2.1.ext h2, h1.2.2.1.ext h2, h1.2.2.2.trans h2⟩
  obtain ⟨w1, hw1⟩ : ∃ w1, w1 = (w.alloc (.cells #[.bool true, .slice A l c, .slice B k d] 40)).alloc (.cells #[.bool false, .slice none 0 0, .slice none 0 0] 40) := ⟨_, rfl⟩
  have hS1 : S { w1 with drawn := w1.drawn + 1 } := by
    rw [hS, hw1]
    have hE : Ext w ((w.alloc (.cells #[.bool true, .slice A l c, .slice B k d] 40)).alloc (.cells #[.bool false, .slice none 0 0, .slice none 0 0] 40)) := ((Ext.refl w).alloc _).alloc _
    exact ⟨(Blk.new w _ _).ext (((Ext.refl _).alloc _).drew), by rw [hG]; exact Blk.next w _ _ _, h.ext hE.drew, hE.drew⟩
  obtain ⟨sp, hsp⟩ : ∃ sp : Nat → Sp, sp = ofList [det (.pointer (some ⟨w.heap.size, 0, none⟩)), det (.bool true), det (.bool false), det (.bool false), det undef, det undef, det undef, det undef, det (.bool false), det (.pointer (some ⟨w.heap.size, 1, none⟩)), det (.slice A l c), anyOf (fun v wz => ∃ A n c, v = .slice A n c ∧ Wds wz A n c (nd N)), det (.pointer (some ⟨w.heap.size, 2, none⟩)), det (.slice B k d), anyOf (fun v wz => ∃ A n c, v = .slice A n c ∧ Wds wz A n c (nd D)), anyOf (fun v wz => ∃ A1 n1 c1 A2 n2 c2, v = .agg #[.bool false, .slice A1 n1 c1, .slice A2 n2 c2] ∧ RatAt wz A1 n1 c1 A2 n2 c2 N D)] := ⟨_, rfl⟩
  have HS := Lib.hid hS
  have HSP := Lib.hid hsp
  have HW1 := Lib.hid hw1
  clear hS hsp hw1 hG h
  go_enter Tryz.func48, Tryz.ntmps48
  go_wp2_with fail
  rw [← HW1.out, HGS.out]
  clear HW1
  refine wp_region_loose 16 S sp (by kernel_rfl) (by kernel_rfl) hS1 hSE ?_
  simp only [List.take_succ_cons, List.take_zero, List.drop_succ_cons, List.drop_zero]
  repeat (refine wpX_step (fun K hK => ?_)
          go_simp
          first
          | (refine ⟨by rw [HSP.out]; rfl, hK _ _ ?_⟩
             clear hK K)
          | (refine StepY.det (by rw [HSP.out]; rfl) ?_ ?_
             · intro wz hz hF
               have hz' := hz
               rw [HS.out] at hz'
               have g0 := hz'.1.cell 0
               have g1 := hz'.1.cell 1
               have g2 := hz'.1.cell 2
               simp only [List.getElem?_toArray, List.getElem?_cons_zero, List.getElem?_cons_succ] at g0 g1 g2
               clear hz' hF
               go_simp
               exact ⟨rfl, Ext.refl _⟩
             refine hK _ _ ?_
             clear hK K)
          | (refine StepY.any (by rw [HSP.out]; rfl) ?_ ?_
             · intro wz hz hF
               have hz' := hz
               rw [HS.out] at hz'
               have hx : Wds wz A l c (nd N) := hz'.2.2.1.1
               have hy : Wds wz B k d (nd D) := hz'.2.2.1.2
               clear hz'
               go_simp
               first
               | (go_at_call 74
                  (with_reducible refine (norm_any A l c (nd N) _ hx (by omega)).mono ?_)
                  rintro e w2 ⟨A1, n1, c1, rfl, hW1, hE1⟩
                  rw [nv_nd] at hW1
                  exact ⟨_, rfl, ⟨A1, n1, c1, rfl, hW1⟩, hE1⟩)
               | (go_at_call 74
                  (with_reducible refine (norm_any B k d (nd D) _ hy (by omega)).mono ?_)
                  rintro e w2 ⟨A1, n1, c1, rfl, hW1, hE1⟩
                  rw [nv_nd] at hW1
                  exact ⟨_, rfl, ⟨A1, n1, c1, rfl, hW1⟩, hE1⟩)
               | skip
             intro v
             refine hK _ _ ?_
             clear hK K))
  refine wpX_step (fun K hK => ?_)
  go_simp
  refine StepY.any (by rw [HSP.out]; rfl) ?_ ?_
  · intro wz hz hF
    obtain ⟨wa, ea, A1, n1, c1, hv1, hw1⟩ := hF.any 11 (by kernel_rfl) (by rw [HSP.out]; rfl)
    obtain ⟨wb, eb, A2, n2, c2, hv2, hw2⟩ := hF.any 14 (by kernel_rfl) (by rw [HSP.out]; rfl)
    clear hF
    simp only [asFun, List.nil_append, List.cons_append, List.getD_cons_succ, List.getD_cons_zero] at hv1 hv2
    subst hv1 hv2
    go_simp
    exact ⟨⟨A1, n1, c1, A2, n2, c2, rfl, hw1.ext ea, hw2.ext eb⟩, Ext.refl _⟩
  · intro v
    refine hK _ _ ?_
    clear hK K
    refine wpX_nil ?_
    intro w3 hz hF
    obtain ⟨w0, e0, A1, n1, c1, A2, n2, c2, hv, hw0⟩ := fact_any (hF 15 (by omega)) (by rw [HSP.out]; rfl)
    clear hF
    simp only [asFun, List.nil_append, List.cons_append, List.getD_cons_succ, List.getD_cons_zero] at hv
    subst hv
    rw [HS.out] at hz
    have hb3 := hz.2.1
    have hEx := hz.2.2.2
    have hr1 := hw0.1.ext e0
    have hr2 := hw0.2.ext e0
    have hGl := hb3.lt
    have q0 : w3.cell? ⟨G, 0, none⟩ = some (.bool false) := hb3.cell 0
    have q1 : w3.cell? ⟨G, 1, none⟩ = some (.slice none 0 0) := hb3.cell 1
    have q2 : w3.cell? ⟨G, 2, none⟩ = some (.slice none 0 0) := hb3.cell 2
    have f0 := hb3.frozen 0
    have f1 := hb3.frozen 1
    have f2 := hb3.frozen 2
    clear hz hw0 e0
    go_wp2
    exact bodyPost_ret (v := .agg #[.bool false, .slice A1 n1 c1, .slice A2 n2 c2]) (by simp [results, Tryz.results48, go_sem, hGl, q0, q1, q2]) rfl
      ⟨_, _, _, _, _, _, rfl, hr1.set_box3 hb3 (noInt3 _ _ _ _ _ _ _) (by simp) (by simp), hr2.set_box3 hb3 (noInt3 _ _ _ _ _ _ _) (by simp) (by simp), hEx.set3 hGw _ _ _⟩


theorem rneg_any (neg : Bool) (A : Option Addr) (l c : Nat) (B : Option Addr) (k d N D : Nat) (w : World) (h : RatAt w A l c B k d N D) (hN : nw N ≤ 1073741824) (hD : nw D ≤ 1073741824) :
    Calls Tryz.prog 48 #[.agg #[.bool neg, .slice A l c, .slice B k d]] w (RetR (!neg && decide (N ≠ 0)) N D w) := by
  cases neg
  · exact rneg_f A l c B k d N D w h hN hD
  · exact rneg_t A l c B k d N D w h hN hD
end Go.Proofs.YtadijoeeaineaaaGreatDoor

/-
  What the library's functions without a body answer. Conditions: those that each theorem names.
-/
namespace Go.Proofs.YtadijoeeaineaaaGreatDoor
open Go.RowKit Nm Rn
set_option maxRecDepth 100000
set_option linter.unusedVariables false
set_option linter.unusedSimpArgs false

@[go_sem] theorem run_store_float (P : Program) (w : World) (a : Addr) (m : Mode) (k : FloatKind) (b : Nat) : (store a (.float k b) m).run P w = stored P w a (.float k b) m := run_store P w a _ m rfl

theorem callF64b (args : Array Value) (w : World) : (callFunc 21 args).run Tryz.prog w = ((Extern.MathFloatBits.float64bits args).run Tryz.prog w).andThen fun v w' => .ok (.value v) w' :=
  run_callFunc_extern Tryz.func21 (by kernel_rfl) (by kernel_rfl) (by kernel_rfl) (by kernel_rfl) args w
@[go_sem] theorem callF64b' (b : Nat) (w : World) : (callFunc 21 #[.float .f64 b]).run Tryz.prog w = .ok (.value (.int .u64 (b : Int))) w := by
  rw [callF64b]; rfl
theorem callF64f (args : Array Value) (w : World) : (callFunc 28 args).run Tryz.prog w = ((Extern.MathFloatBits.float64frombits args).run Tryz.prog w).andThen fun v w' => .ok (.value v) w' :=
  run_callFunc_extern Tryz.func28 (by kernel_rfl) (by kernel_rfl) (by kernel_rfl) (by kernel_rfl) args w
@[go_sem] theorem callF64f' (n : Int) (w : World) : (callFunc 28 #[.int .u64 n]).run Tryz.prog w = .ok (.value (.float .f64 n.toNat)) w := by
  rw [callF64f]; rfl

/-- The sign's place. -/
theorem andNot_top (b : Nat) (h : b < 18446744073709551616) : bits .andNot .u64 (b : Int) 9223372036854775808 = (mg b : Int) := by
  have e : (9223372036854775808 : Int) = ((9223372036854775808 : Nat) : Int) := rfl
  rw [e, u64_andNot_nat _ _ h (by omega)]
  congr 1
  have e2 : (18446744073709551615 - 9223372036854775808 : Nat) = 2 ^ 63 - 1 := by decide
  rw [e2, Nat.and_two_pow_sub_one_eq_mod]
  rfl

set_option maxHeartbeats 400000 in
theorem isnan_any (b : Nat) (w : World) (h : b < 18446744073709551616) :
    Calls Tryz.prog 12 #[.int .u64 (b : Int)] w fun e w' => e = .returned (.bool (isNaN b)) ∧ w = w' := by
  have g := andNot_top b h
  have HF : Hid (decide ((9218868437227405312 : Int) < (mg b : Int)) = isNaN b) := Lib.hid (by unfold isNaN; rw [infR_val]; exact decide_eq_decide.2 (by omega))
  clear h
  go_enter Tryz.func12, Tryz.ntmps12
  go_wp2
  go_ret
  exact ⟨ret_bool HF.out, rfl⟩
set_option maxHeartbeats 400000 in
theorem isinf3_any (b : Nat) (w : World) (h : b < 18446744073709551616) :
    Calls Tryz.prog 13 #[.int .u64 (b : Int)] w fun e w' => e = .returned (.bool (isInf b)) ∧ w = w' := by
  have g := andNot_top b h
  have HF : Hid (((mg b : Int) == 9218868437227405312) = isInf b) := Lib.hid (by unfold isInf; rw [infR_val, Bool.eq_iff_iff, beq_iff_eq, decide_eq_true_iff]; omega)
  clear h
  go_enter Tryz.func13, Tryz.ntmps13
  go_wp2
  go_ret
  exact ⟨ret_bool HF.out, rfl⟩
set_option maxHeartbeats 400000 in
theorem plain3_any (b : Nat) (w : World) (h : b < 18446744073709551616) :
    Calls Tryz.prog 34 #[.int .u64 (b : Int)] w fun e w' => e = .returned (.int .u64 (plN b : Nat)) ∧ w = w' := by
  have hn := isnan_any b w h
  by_cases h0 : b = 9223372036854775808
  · have HF : Hid ((0 : Int) = (plN b : Nat)) := Lib.hid (by unfold plN; rw [if_pos h0]; rfl)
    clear hn h
    have h1 : ((b : Int) == 9223372036854775808) = true := by rw [beq_iff_eq]; omega
    clear h0
    go_enter Tryz.func34, Tryz.ntmps34
    go_wp2
    go_ret
    exact ⟨ret_int HF.out, rfl⟩
  · have h1 : ((b : Int) == 9223372036854775808) = false := by rw [beq_eq_false_iff_ne]; omega
    cases h2 : isNaN b
    · have HF : Hid ((b : Int) = (plN b : Nat)) := Lib.hid (by unfold plN; rw [if_neg h0, h2, if_neg (by simp)])
      rw [h2] at hn
      have HN := Lib.hid hn
      clear hn h h0 h2
      go_enter Tryz.func34, Tryz.ntmps34
      go_wp2_with fail
      refine HN.out.mono ?_
      rintro e w1 ⟨rfl, rfl⟩
      go_wp2
      go_ret
      exact ⟨ret_int HF.out, rfl⟩
    · have HF : Hid ((9221120237041090561 : Int) = (plN b : Nat)) := Lib.hid (by unfold plN; rw [if_neg h0, h2, if_pos rfl]; rfl)
      rw [h2] at hn
      have HN := Lib.hid hn
      clear hn h h0 h2
      go_enter Tryz.func34, Tryz.ntmps34
      go_wp2_with fail
      refine HN.out.mono ?_
      rintro e w1 ⟨rfl, rfl⟩
      go_wp2
      go_ret
      exact ⟨ret_int HF.out, rfl⟩
end Go.Proofs.YtadijoeeaineaaaGreatDoor

/-
  The contracts of the document's own intervals, first part: how patterns stand to each other, how two ends are read. Conditions: those that each theorem names.
-/
namespace Go.Proofs.YtadijoeeaineaaaGreatDoor
open Go.RowKit Nm Rn
set_option maxRecDepth 100000
set_option linter.unusedVariables false
set_option linter.unusedSimpArgs false

theorem or_top6 (p : Nat) (h : p < 9223372036854775808) : bits .or .u64 (p : Int) 9223372036854775808 = ((p + 9223372036854775808 : Nat) : Int) := by
  have e : (9223372036854775808 : Int) = ((9223372036854775808 : Nat) : Int) := rfl
  rw [e, u64_or_nat _ _ (by omega) (by omega)]
  congr 1
  rw [Nat.or_comm, nat_join 63 _ _ (by omega) (by omega), Nat.add_comm]

theorem xor_ones (p : Nat) (h : p < 18446744073709551616) : 18446744073709551615 ^^^ p = 18446744073709551615 - p := by
  have h1 : BitVec.allOnes 64 ^^^ BitVec.ofNat 64 p = ~~~(BitVec.ofNat 64 p) := BitVec.allOnes_xor
  have h2 := congrArg BitVec.toNat h1
  rw [BitVec.toNat_xor, BitVec.toNat_not, BitVec.toNat_allOnes, BitVec.toNat_ofNat, Nat.mod_eq_of_lt (show p < 2 ^ 64 by omega)] at h2
  exact h2
theorem not_u64 (p : Nat) (h : p < 18446744073709551616) : bits .xor .u64 IntKind.u64.max (p : Int) = ((18446744073709551615 - p : Nat) : Int) := by
  have e : IntKind.u64.max = ((18446744073709551615 : Nat) : Int) := rfl
  rw [e, u64_xor_nat _ _ (by omega) h, xor_ones p h]

set_option maxHeartbeats 400000 in
theorem key6_any (b : Nat) (w : World) (h : b < 18446744073709551616) :
    Calls Tryz.prog 98 #[.int .u64 (b : Int)] w fun e w' => e = .returned (.int .u64 (rkey b : Nat)) ∧ w = w' := by
  have hp := plain3_any b w h
  have hpl := plN_lt h
  obtain ⟨p, hpe⟩ : ∃ p, p = plN b := ⟨_, rfl⟩
  rw [← hpe] at hp hpl
  have HP := Lib.hid hp
  clear hp
  by_cases h0 : 9223372036854775808 ≤ p
  · have HF : Hid (((18446744073709551615 - p : Nat) : Int) = (rkey b : Nat)) := Lib.hid (by unfold rkey; rw [← hpe, if_pos h0])
    have h1 : decide ((9223372036854775808 : Int) ≤ (p : Int)) = true := decide_eq_true (by omega)
    have h2 := not_u64 p hpl
    have HPL := Lib.hid hpl
    clear hpe h h0 hpl
    go_enter Tryz.func98, Tryz.ntmps98
    go_wp2_with fail
    refine HP.out.mono ?_
    rintro e w1 ⟨rfl, rfl⟩
    go_wp2
    go_ret
    exact ⟨ret_int HF.out, rfl⟩
  · have HF : Hid ((p : Int) + 9223372036854775808 = (rkey b : Nat)) := Lib.hid (by unfold rkey; rw [← hpe, if_neg h0]; omega)
    have h1 : decide ((9223372036854775808 : Int) ≤ (p : Int)) = false := decide_eq_false (by omega)
    have h2 := or_top6 p (by omega)
    clear hpe h h0
    go_enter Tryz.func98, Tryz.ntmps98
    go_wp2_with fail
    refine HP.out.mono ?_
    rintro e w1 ⟨rfl, rfl⟩
    go_wp2
    go_ret
    exact ⟨ret_int HF.out, rfl⟩

set_option maxHeartbeats 400000 in
theorem above6_any (x y : Nat) (w : World) (hx : x < 18446744073709551616) (hy : y < 18446744073709551616) :
    Calls Tryz.prog 66 #[.int .u64 (x : Int), .int .u64 (y : Int)] w fun e w' => e = .returned (.bool (ltB y x)) ∧ w = w' := by
  have hnx := isnan_any x w hx
  have hny := isnan_any y w hy
  have hkx := key6_any x w hx
  have hky := key6_any y w hy
  have hF := (above_lt hx hy).symm
  unfold aboveB at hF
  obtain ⟨K, hK⟩ : ∃ K, K = rkey x := ⟨_, rfl⟩
  obtain ⟨L, hL⟩ : ∃ L, L = rkey y := ⟨_, rfl⟩
  rw [← hK] at hkx hF
  rw [← hL] at hky hF
  have HKX := Lib.hid hkx
  have HKY := Lib.hid hky
  cases h1 : isNaN x <;> cases h2 : isNaN y
  all_goals
    rw [h1] at hnx hF
    rw [h2] at hny hF
    have HF := Lib.hid hF
    have HNX := Lib.hid hnx
    have HNY := Lib.hid hny
    clear hnx hny hkx hky hF hK hL h1 h2 hx hy
    go_enter Tryz.func66, Tryz.ntmps66
    go_wp2_with (first | (go_at_call 12; ((with_reducible refine HNX.out.mono ?_); rintro e w' ⟨rfl, rfl⟩)) | (go_at_call 12; ((with_reducible refine HNY.out.mono ?_); rintro e w' ⟨rfl, rfl⟩)) | (go_at_call 98; ((with_reducible refine HKX.out.mono ?_); rintro e w' ⟨rfl, rfl⟩)) | (go_at_call 98; ((with_reducible refine HKY.out.mono ?_); rintro e w' ⟨rfl, rfl⟩)))
    go_ret
    first
    | exact ⟨ret_bool (by rw [HF.out]; simp), rfl⟩
    | exact ⟨ret_bool (by rw [HF.out, Bool.not_false, Bool.true_and, Bool.true_and]; exact decide_eq_decide.2 (by omega)), rfl⟩

set_option maxHeartbeats 400000 in
theorem sound6_any (lo hi : Nat) (w : World) (hl : lo < 18446744073709551616) (hh : hi < 18446744073709551616) :
    Calls Tryz.prog 33 #[.agg #[.int .u64 (lo : Int), .int .u64 (hi : Int)]] w fun e w' => e = .returned (.bool (sndB lo hi)) ∧ Ext w w' := by
  have hnx := fun w => isnan_any lo w hl
  have hny := fun w => isnan_any hi w hh
  have hab := fun w => above6_any lo hi w hl hh
  have hF := snd_eq hl hh
  unfold sndR at hF
  rw [above_lt hl hh] at hF
  have HI := Lib.hid (show ((lo : Int) != 9218868437227405312) = decide (lo ≠ infR) by rw [infR_val, Bool.eq_iff_iff, bne_iff_ne, decide_eq_true_iff]; omega)
  have HM := Lib.hid (show ((hi : Int) != 18442240474082181120) = decide (hi ≠ minf) by rw [minf_val, Bool.eq_iff_iff, bne_iff_ne, decide_eq_true_iff]; omega)
  obtain ⟨a, ha⟩ : ∃ a, a = decide (lo ≠ infR) := ⟨_, rfl⟩
  obtain ⟨b, hb⟩ : ∃ b, b = decide (hi ≠ minf) := ⟨_, rfl⟩
  rw [← ha] at hF HI
  rw [← hb] at hF HM
  have hI := HI.out
  have hM := HM.out
  have HAB := Lib.hid hab
  clear ha hb HI HM hab
  cases h1 : isNaN lo <;> cases h2 : isNaN hi <;> cases h3 : ltB hi lo <;> cases a <;> cases b
  all_goals
    rw [h1, h2, h3] at hF
    have HF := Lib.hid hF
    have HAB2 := Lib.hid (fun w => h3 ▸ HAB.out w)
    have HNX := Lib.hid (fun w => h1 ▸ hnx w)
    have HNY := Lib.hid (fun w => h2 ▸ hny w)
    clear hnx hny hF h1 h2 h3 hl hh HAB
    go_enter Tryz.func33, Tryz.ntmps33
    go_wp2_with (first | (go_at_call 12; ((with_reducible refine (HNX.out _).mono ?_); rintro e w' ⟨rfl, rfl⟩)) | (go_at_call 12; ((with_reducible refine (HNY.out _).mono ?_); rintro e w' ⟨rfl, rfl⟩)) | (go_at_call 66; ((with_reducible refine (HAB2.out _).mono ?_); rintro e w' ⟨rfl, rfl⟩)))
    go_ret
    exact ⟨ret_bool (by rw [HF.out]; rfl), (Ext.refl w).alloc _⟩

/-- A result of two patterns. -/
def RetI (lo hi : Nat) (w : World) (e : Ending) (w' : World) : Prop := e = .returned (.agg #[.int .u64 (lo : Int), .int .u64 (hi : Int)]) ∧ Ext w w'

set_option maxHeartbeats 400000 in
theorem empty6_any (w : World) : Calls Tryz.prog 11 #[] w (RetI infR minf w) := by
  go_enter Tryz.func11, Tryz.ntmps11
  go_wp2
  exact bodyPost_ret (v := .agg #[.int .u64 9218868437227405312, .int .u64 18442240474082181120]) (by simp [results, Tryz.results11, go_sem]) rfl ⟨rfl, (Ext.refl w).alloc _⟩
set_option maxHeartbeats 400000 in
theorem entire6_any (w : World) : Calls Tryz.prog 30 #[] w (RetI minf infR w) := by
  go_enter Tryz.func30, Tryz.ntmps30
  go_wp2
  exact bodyPost_ret (v := .agg #[.int .u64 18442240474082181120, .int .u64 9218868437227405312]) (by simp [results, Tryz.results30, go_sem]) rfl ⟨rfl, (Ext.refl w).alloc _⟩

theorem Blk.new2 (w : World) (o : Obj) (t : TypeId) (cs : Array Value) : Blk ((w.alloc o).alloc (.cells cs t)) (w.heap.size + 1) t cs := by
  have := Blk.new (w.alloc o) t cs
  rwa [show (w.alloc o).heap.size = w.heap.size + 1 by simp] at this
theorem plain_rd {lo hi : Nat} (h : sndB lo hi = true) : plN lo = rdLo lo hi ∧ plN hi = rdHi lo hi := by
  obtain ⟨h1, h2⟩ := snd_nan h
  unfold rdLo rdHi
  rw [if_pos h, if_pos h]
  exact ⟨plN_of h1, plN_of h2⟩
theorem empty_rd {lo hi : Nat} (h : sndB lo hi = false) : infR = rdLo lo hi ∧ minf = rdHi lo hi := by
  unfold rdLo rdHi
  rw [if_neg (by simp [h]), if_neg (by simp [h])]
  exact ⟨rfl, rfl⟩

set_option maxHeartbeats 1000000 in
theorem read6_any (lo hi : Nat) (w : World) (hl : lo < 18446744073709551616) (hh : hi < 18446744073709551616) :
    Calls Tryz.prog 9 #[.agg #[.int .u64 (lo : Int), .int .u64 (hi : Int)]] w (RetI (rdLo lo hi) (rdHi lo hi) w) := by
  have hs := fun w => sound6_any lo hi w hl hh
  have hp1 := fun w => plain3_any lo w hl
  have hp2 := fun w => plain3_any hi w hh
  cases hb : sndB lo hi
  · rw [hb] at hs
    obtain ⟨e1, e2⟩ := empty_rd hb
    rw [← e1, ← e2]
    have HS := Lib.hid hs
    clear hs hp1 hp2 hb e1 e2 hl hh
    go_enter Tryz.func9, Tryz.ntmps9
    go_wp2_with fail
    refine (HS.out _).mono ?_
    rintro e w1 ⟨rfl, hE1⟩
    go_wp2_with fail
    refine (empty6_any _).mono ?_
    rintro e w2 ⟨rfl, hE2⟩
    have hE := hE1.trans hE2
    have hblk := (Blk.new2 w (.cells #[.int .u64 (lo : Int), .int .u64 (hi : Int)] 24) 24 #[.int .u64 0, .int .u64 0]).ext hE
    have hEw : Ext w w2 := (((Ext.refl w).alloc _).alloc _).trans hE
    obtain ⟨G, hG⟩ : ∃ G, G = w.heap.size + 1 := ⟨_, rfl⟩
    rw [← hG] at hblk
    rw [← hG]
    have hGw : w.heap.size ≤ G := by omega
    have hGl := hblk.lt
    have q0 : w2.cell? ⟨G, 0, none⟩ = some (.int .u64 0) := hblk.cell 0
    have q1 : w2.cell? ⟨G, 1, none⟩ = some (.int .u64 0) := hblk.cell 1
    have f0 := hblk.frozen 0
    have f1 := hblk.frozen 1
    clear hG hE hE1 hE2
    go_wp2
    exact bodyPost_ret (v := .agg #[.int .u64 (infR : Int), .int .u64 (minf : Int)]) (by simp [results, Tryz.results9, go_sem, hGl, q0, q1]) rfl ⟨rfl, (hEw.setCell hGw _).setCell hGw _⟩
  · rw [hb] at hs
    obtain ⟨e1, e2⟩ := plain_rd hb
    rw [e1] at hp1
    rw [e2] at hp2
    obtain ⟨a, ha⟩ : ∃ a, a = rdLo lo hi := ⟨_, rfl⟩
    obtain ⟨b, hb'⟩ : ∃ b, b = rdHi lo hi := ⟨_, rfl⟩
    rw [← ha] at hp1 ⊢
    rw [← hb'] at hp2 ⊢
    have HS := Lib.hid hs
    have HP1 := Lib.hid hp1
    have HP2 := Lib.hid hp2
    clear hs hp1 hp2 hb e1 e2 hl hh ha hb'
    go_enter Tryz.func9, Tryz.ntmps9
    go_wp2_with fail
    refine (HS.out _).mono ?_
    rintro e w1 ⟨rfl, hE1⟩
    have hblk := (Blk.new2 w (.cells #[.int .u64 (lo : Int), .int .u64 (hi : Int)] 24) 24 #[.int .u64 0, .int .u64 0]).ext hE1
    have hbox := ((Blk.new w 24 #[.int .u64 (lo : Int), .int .u64 (hi : Int)]).ext ((Ext.refl _).alloc (.cells #[.int .u64 0, .int .u64 0] 24))).ext hE1
    have hEw : Ext w w1 := (((Ext.refl w).alloc _).alloc _).trans hE1
    have b0 : w1.cell? ⟨w.heap.size, 0, none⟩ = some (.int .u64 (lo : Int)) := hbox.cell 0
    have b1 : w1.cell? ⟨w.heap.size, 1, none⟩ = some (.int .u64 (hi : Int)) := hbox.cell 1
    obtain ⟨G, hG⟩ : ∃ G, G = w.heap.size + 1 := ⟨_, rfl⟩
    rw [← hG] at hblk
    rw [← hG]
    have hGw : w.heap.size ≤ G := by omega
    have hGl := hblk.lt
    have q0 : w1.cell? ⟨G, 0, none⟩ = some (.int .u64 0) := hblk.cell 0
    have q1 : w1.cell? ⟨G, 1, none⟩ = some (.int .u64 0) := hblk.cell 1
    have f0 := hblk.frozen 0
    have f1 := hblk.frozen 1
    clear hG hE1
    go_wp2_with fail
    refine wp_region_still_tail 7 (by kernel_rfl) (by kernel_rfl) ?_
    simp only [List.take_succ_cons, List.take_zero, List.drop_succ_cons, List.drop_zero]
    still_step
    still_step
    still_call ((HP1.out _).mono fun _ _ h => ⟨h.1, h.2.symm⟩)
    still_step
    still_step
    still_call ((HP2.out _).mono fun _ _ h => ⟨h.1, h.2.symm⟩)
    still_step
    refine wpStill_nil ?_
    change wpList _ _ _ _ _ w1.drew
    go_wp2
    exact bodyPost_ret (v := .agg #[.int .u64 (a : Int), .int .u64 (b : Int)]) (by simp [results, Tryz.results9, go_sem, hGl, q0, q1]) rfl ⟨rfl, (hEw.drew.setCell hGw _).setCell hGw _⟩
end Go.Proofs.YtadijoeeaineaaaGreatDoor
