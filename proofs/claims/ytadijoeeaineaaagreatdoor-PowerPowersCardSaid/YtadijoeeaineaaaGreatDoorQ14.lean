/-
  The contracts of the document's bounds: the bound of a pattern, its negative. Conditions: those that each theorem names.
-/
import Derived.Test.YtadijoeeaineaaaGreatDoorQ13
import Derived.Test.YtadijoeeaineaaaGreatDoorQ06
import Derived.Deep.RegionWith
import Derived.Outline
import Derived.Test.YtadijoeeaineaaaGreatDoorQ12
namespace Go.Proofs.YtadijoeeaineaaaGreatDoor
open Go.RowKit Nm Rn
set_option maxRecDepth 100000
set_option linter.unusedVariables false
set_option linter.unusedSimpArgs false

/-- Not a word. -/
def notU : Value → Bool
  | .int .u32 _ => false
  | _ => true
def NoU (cs : Array Value) : Prop := ∀ (i : Nat) (x : Int), cs[i]? ≠ some (Value.int .u32 x)
theorem NoU.of {cs : Array Value} (h : cs.toList.all notU = true) : NoU cs := by
  intro i x hx
  have h1 : (Value.int .u32 x) ∈ cs.toList := by
    rw [← Array.getElem?_toList] at hx
    exact List.mem_of_getElem? hx
  have := List.all_eq_true.1 h _ h1
  simp [notU] at this
theorem NoU.set {cs : Array Value} (h : NoU cs) (i : Nat) {u : Value} (hu : notU u = true) : NoU (cs.setIfInBounds i u) := by
  intro j x hj
  rw [Array.getElem?_setIfInBounds] at hj
  split at hj
  · split at hj
    · injection hj with hj; subst hj; simp [notU] at hu
    · cases hj
  · exact h j x hj
section
variable {w w' : World} {g : Nat} {t : TypeId} {cs : Array Value}
theorem Wds.set_u {A : Option Addr} {n c : Nat} {xs : List Nat} (h : Wds w A n c xs) (hb : Blk w g t cs) (hcs : NoU cs) (i : Nat) (u : Value) : Wds (w.setCell ⟨g, i, none⟩ u) A n c xs := by
  refine ⟨h.1, h.2.1, h.2.2.1, h.2.2.2.1, fun hn => ?_⟩
  obtain ⟨ad, e, hlt, hc⟩ := h.2.2.2.2 hn
  have hne : ad.block ≠ g := by
    intro hg
    have hx1 : 0 < xs.length := by have := h.1; omega
    have h1 := hc 0 _ (List.getElem?_eq_getElem hx1)
    have h2 : w.heap[(ad.add 0).block]? = some (.cells cs t (0, 0)) := by rw [block_of_add, hg]; exact hb
    unfold World.cell? at h1
    rw [h2] at h1
    simp only at h1
    split at h1
    · cases h1
    · exact hcs _ _ h1
  refine ⟨ad, e, by simpa [World.setCell] using hlt, fun k x hk => ?_⟩
  rw [← hc k x hk]
  exact World.cell?_of_block (Below.heap_setCell w ⟨g, i, none⟩ u _ (by rw [block_of_add]; exact hne))
/-- A ratio's naturals, beside a block of the call's own that is written. -/
structure RatBox (w : World) (g : Nat) (t : TypeId) (cs : Array Value) (A : Option Addr) (l c : Nat) (B : Option Addr) (k d N D : Nat) : Prop where
  rat : RatAt w A l c B k d N D
  blk : Blk w g t cs
  nou : NoU cs
theorem RatBox.set {A : Option Addr} {l c : Nat} {B : Option Addr} {k d N D : Nat} (h : RatBox w g t cs A l c B k d N D) (i : Nat) {u : Value} (hu : notU u = true) : RatBox (w.setCell ⟨g, i, none⟩ u) g t (cs.setIfInBounds i u) A l c B k d N D :=
  ⟨⟨h.rat.1.set_u h.blk h.nou i u, h.rat.2.set_u h.blk h.nou i u⟩, h.blk.set_ i u, h.nou.set i hu⟩
theorem RatBox.set4 {A : Option Addr} {l c : Nat} {B : Option Addr} {k d N D : Nat} (h : RatBox w g t cs A l c B k d N D) {u0 u1 u2 u3 : Value} (h0 : notU u0 = true) (h1 : notU u1 = true) (h2 : notU u2 = true) (h3 : notU u3 = true) :
    RatBox ((((w.setCell ⟨g, 0, none⟩ u0).setCell ⟨g, 1, none⟩ u1).setCell ⟨g, 2, none⟩ u2).setCell ⟨g, 3, none⟩ u3) g t ((((cs.setIfInBounds 0 u0).setIfInBounds 1 u1).setIfInBounds 2 u2).setIfInBounds 3 u3) A l c B k d N D := (((h.set 0 h0).set 1 h1).set 2 h2).set 3 h3
end

/-- What is answered: a bound. -/
def RetEnd (i : Int) (neg : Bool) (N D : Nat) (w : World) (e : Ending) (w' : World) : Prop :=
  ∃ A l c B k d, e = .returned (.agg #[.int .i64 i, .bool neg, .slice A l c, .slice B k d]) ∧ RatAt w' A l c B k d N D ∧ Ext w w'

/-- The bound of a pattern that is no NaN and no -0. -/
def bI (x : Nat) : Int := if x = infR then 1 else if x = minf then -1 else 0
def bNeg (x : Nat) : Bool := if x = infR then false else if x = minf then false else (sg x && decide (mg x ≠ 0))
def bN (x : Nat) : Nat := if x = infR then fracN 0 1 0 else if x = minf then fracN 0 1 0 else fbN x
def bD (x : Nat) : Nat := if x = infR then fracD 0 1 0 else if x = minf then fracD 0 1 0 else fbD x

set_option maxHeartbeats 2000000 in
theorem bound_any (x : Nat) (w : World) (hx : x < 18446744073709551616) (hp : plN x = x) :
    Calls Tryz.prog 60 #[.int .u64 (x : Int)] w (RetEnd (bI x) (bNeg x) (bN x) (bD x) w) := by
  have hint := fun w => int_any 0 w (by omega)
  have hfb := fun w => frombits_any x w hx
  have hpl := fun w => plain3_any x w hx
  rw [hp] at hpl
  have HINT := Lib.hid hint
  have HPL := Lib.hid hpl
  by_cases h1 : x = infR
  · have e1 : ((x : Int) == 9218868437227405312) = true := by rw [beq_iff_eq, h1, infR_val]; rfl
    rw [show bI x = 1 by unfold bI; rw [if_pos h1], show bNeg x = false by unfold bNeg; rw [if_pos h1], show bN x = fracN 0 1 0 by unfold bN; rw [if_pos h1], show bD x = fracD 0 1 0 by unfold bD; rw [if_pos h1]]
    obtain ⟨N, hN⟩ : ∃ N, N = fracN 0 1 0 := ⟨_, rfl⟩
    obtain ⟨D, hD⟩ : ∃ D, D = fracD 0 1 0 := ⟨_, rfl⟩
    rw [← hN, ← hD]
    have HI2 := Lib.hid (fun w => hN ▸ hD ▸ HINT.out w)
    clear hint hfb hpl hp h1 hN hD HINT HPL hx
    go_enter Tryz.func60, Tryz.ntmps60
    go_wp2_with fail
    refine (HI2.out _).mono ?_
    rintro e w2 ⟨A2, n2, c2, A3, n3, c3, rfl, hr1, hr2, hE⟩
    have hblk := (Blk.new w 55 #[.int .i64 0, .bool false, .slice none 0 0, .slice none 0 0]).ext hE
    have hEw := ((Ext.refl w).alloc (.cells #[.int .i64 0, .bool false, .slice none 0 0, .slice none 0 0] 55)).trans hE
    obtain ⟨G, hG⟩ : ∃ G, G = w.heap.size := ⟨_, rfl⟩
    rw [← hG] at hblk
    rw [← hG]
    have hGw : w.heap.size ≤ G := by omega
    have hGl := hblk.lt
    have q0 : w2.cell? ⟨G, 0, none⟩ = some (.int .i64 0) := hblk.cell 0
    have q1 : w2.cell? ⟨G, 1, none⟩ = some (.bool false) := hblk.cell 1
    have q2 : w2.cell? ⟨G, 2, none⟩ = some (.slice none 0 0) := hblk.cell 2
    have q3 : w2.cell? ⟨G, 3, none⟩ = some (.slice none 0 0) := hblk.cell 3
    have f0 := hblk.frozen 0
    have f1 := hblk.frozen 1
    have f2 := hblk.frozen 2
    have f3 := hblk.frozen 3
    have HB := Lib.hid (RatBox.mk (N := N) (D := D) ⟨hr1, hr2⟩ hblk (NoU.of rfl))
    clear hG hr1 hr2 hblk
    go_wp2
    exact bodyPost_ret (v := .agg #[.int .i64 1, .bool false, .slice A2 n2 c2, .slice A3 n3 c3]) (by simp [results, Tryz.results60, go_sem, hGl, q0, q1, q2, q3]) rfl
      ⟨_, _, _, _, _, _, rfl, (HB.out.set4 rfl rfl rfl rfl).rat, (hEw.set3 hGw _ _ _).setCell (by show w.heap.size ≤ G; omega) _⟩
  · have e1 : ((x : Int) == 9218868437227405312) = false := by rw [beq_eq_false_iff_ne]; rw [infR_val] at h1; omega
    by_cases h2 : x = minf
    · have e2 : ((x : Int) == 18442240474082181120) = true := by rw [beq_iff_eq, h2, minf_val]; rfl
      rw [show bI x = -1 by unfold bI; rw [if_neg h1, if_pos h2], show bNeg x = false by unfold bNeg; rw [if_neg h1, if_pos h2], show bN x = fracN 0 1 0 by unfold bN; rw [if_neg h1, if_pos h2], show bD x = fracD 0 1 0 by unfold bD; rw [if_neg h1, if_pos h2]]
      obtain ⟨N, hN⟩ : ∃ N, N = fracN 0 1 0 := ⟨_, rfl⟩
      obtain ⟨D, hD⟩ : ∃ D, D = fracD 0 1 0 := ⟨_, rfl⟩
      rw [← hN, ← hD]
      have HI2 := Lib.hid (fun w => hN ▸ hD ▸ HINT.out w)
      clear hint hfb hpl hp h1 h2 hN hD HINT HPL hx
      go_enter Tryz.func60, Tryz.ntmps60
      go_wp2_with fail
      refine (HI2.out _).mono ?_
      rintro e w2 ⟨A2, n2, c2, A3, n3, c3, rfl, hr1, hr2, hE⟩
      have hblk := (Blk.new w 55 #[.int .i64 0, .bool false, .slice none 0 0, .slice none 0 0]).ext hE
      have hEw := ((Ext.refl w).alloc (.cells #[.int .i64 0, .bool false, .slice none 0 0, .slice none 0 0] 55)).trans hE
      obtain ⟨G, hG⟩ : ∃ G, G = w.heap.size := ⟨_, rfl⟩
      rw [← hG] at hblk
      rw [← hG]
      have hGw : w.heap.size ≤ G := by omega
      have hGl := hblk.lt
      have q0 : w2.cell? ⟨G, 0, none⟩ = some (.int .i64 0) := hblk.cell 0
      have q1 : w2.cell? ⟨G, 1, none⟩ = some (.bool false) := hblk.cell 1
      have q2 : w2.cell? ⟨G, 2, none⟩ = some (.slice none 0 0) := hblk.cell 2
      have q3 : w2.cell? ⟨G, 3, none⟩ = some (.slice none 0 0) := hblk.cell 3
      have f0 := hblk.frozen 0
      have f1 := hblk.frozen 1
      have f2 := hblk.frozen 2
      have f3 := hblk.frozen 3
      have HB := Lib.hid (RatBox.mk (N := N) (D := D) ⟨hr1, hr2⟩ hblk (NoU.of rfl))
      clear hG hr1 hr2 hblk
      go_wp2
      exact bodyPost_ret (v := .agg #[.int .i64 (-1), .bool false, .slice A2 n2 c2, .slice A3 n3 c3]) (by simp [results, Tryz.results60, go_sem, hGl, q0, q1, q2, q3]) rfl
        ⟨_, _, _, _, _, _, rfl, (HB.out.set4 rfl rfl rfl rfl).rat, (hEw.set3 hGw _ _ _).setCell (by show w.heap.size ≤ G; omega) _⟩
    · have e2 : ((x : Int) == 18442240474082181120) = false := by rw [beq_eq_false_iff_ne]; rw [minf_val] at h2; omega
      rw [show bI x = 0 by unfold bI; rw [if_neg h1, if_neg h2], show bNeg x = (sg x && decide (mg x ≠ 0)) by unfold bNeg; rw [if_neg h1, if_neg h2], show bN x = fbN x by unfold bN; rw [if_neg h1, if_neg h2], show bD x = fbD x by unfold bD; rw [if_neg h1, if_neg h2]]
      obtain ⟨N, hN⟩ : ∃ N, N = fbN x := ⟨_, rfl⟩
      obtain ⟨D, hD⟩ : ∃ D, D = fbD x := ⟨_, rfl⟩
      obtain ⟨z, hz⟩ : ∃ z, z = (sg x && decide (mg x ≠ 0)) := ⟨_, rfl⟩
      rw [← hN, ← hD, ← hz] at hfb ⊢
      have HFB := Lib.hid hfb
      clear hint hfb hpl hp h1 h2 hN hD hz HINT hx
      go_enter Tryz.func60, Tryz.ntmps60
      go_wp2_with fail
      refine (HPL.out _).mono ?_
      rintro e w1 ⟨rfl, rfl⟩
      go_wp2_with fail
      refine (HFB.out _).mono ?_
      rintro e w2 ⟨A2, n2, c2, A3, n3, c3, rfl, hr1, hr2, hE⟩
      have hblk := (Blk.new w 55 #[.int .i64 0, .bool false, .slice none 0 0, .slice none 0 0]).ext hE
      have hEw := ((Ext.refl w).alloc (.cells #[.int .i64 0, .bool false, .slice none 0 0, .slice none 0 0] 55)).trans hE
      obtain ⟨G, hG⟩ : ∃ G, G = w.heap.size := ⟨_, rfl⟩
      rw [← hG] at hblk
      rw [← hG]
      have hGw : w.heap.size ≤ G := by omega
      have hGl := hblk.lt
      have q0 : w2.cell? ⟨G, 0, none⟩ = some (.int .i64 0) := hblk.cell 0
      have q1 : w2.cell? ⟨G, 1, none⟩ = some (.bool false) := hblk.cell 1
      have q2 : w2.cell? ⟨G, 2, none⟩ = some (.slice none 0 0) := hblk.cell 2
      have q3 : w2.cell? ⟨G, 3, none⟩ = some (.slice none 0 0) := hblk.cell 3
      have f0 := hblk.frozen 0
      have f1 := hblk.frozen 1
      have f2 := hblk.frozen 2
      have f3 := hblk.frozen 3
      have HB := Lib.hid (RatBox.mk (N := N) (D := D) ⟨hr1, hr2⟩ hblk (NoU.of rfl))
      clear hG hr1 hr2 hblk
      go_wp2
      exact bodyPost_ret (v := .agg #[.int .i64 0, .bool z, .slice A2 n2 c2, .slice A3 n3 c3]) (by simp [results, Tryz.results60, go_sem, hGl, q0, q1, q2, q3]) rfl
        ⟨_, _, _, _, _, _, rfl, (HB.out.set4 rfl rfl rfl rfl).rat, (hEw.set3 hGw _ _ _).setCell (by show w.heap.size ≤ G; omega) _⟩
end Go.Proofs.YtadijoeeaineaaaGreatDoor

/-
  The contracts of the document's bounds, second part: the negative of a bound. Conditions: those that each theorem names.
-/
namespace Go.Proofs.YtadijoeeaineaaaGreatDoor
open Go.RowKit Nm Rn
set_option maxRecDepth 100000
set_option linter.unusedVariables false
set_option linter.unusedSimpArgs false

theorem Ext.set4 {w0 w : World} {g : Nat} (h : Ext w0 w) (hg : w0.heap.size ≤ g) (u0 u1 u2 u3 : Value) : Ext w0 ((((w.setCell ⟨g, 0, none⟩ u0).setCell ⟨g, 1, none⟩ u1).setCell ⟨g, 2, none⟩ u2).setCell ⟨g, 3, none⟩ u3) :=
  (h.set3 hg u0 u1 u2).setCell (by show w0.heap.size ≤ g; omega) _

set_option maxHeartbeats 2000000 in
theorem turned6_any (i : Int) (hi : -1 ≤ i ∧ i ≤ 1) (neg : Bool) (A : Option Addr) (l c : Nat) (B : Option Addr) (k d N D : Nat) (w : World) (h : RatAt w A l c B k d N D) (hN : nw N ≤ 1073741824) (hD : nw D ≤ 1073741824) :
    Calls Tryz.prog 128 #[.agg #[.int .i64 i, .bool neg, .slice A l c, .slice B k d]] w (RetEnd (-i) (!neg && decide (N ≠ 0)) N D w) := by
  have hwr : IntKind.i64.wrap (-i) = -i := by simp [IntKind.wrap, IntKind.bits, IntKind.signed]; omega
  obtain ⟨j, hj⟩ : ∃ j, j = -i := ⟨_, rfl⟩
  rw [← hj] at hwr ⊢
  have hneg : IntKind.i64.wrap (-i) = j := by rw [← hj]; exact hwr
  obtain ⟨r, hr⟩ : ∃ r, r = (!neg && decide (N ≠ 0)) := ⟨_, rfl⟩
  have hc := fun w A l c B k d h => rneg_any neg A l c B k d N D w h hN hD
  rw [← hr] at hc ⊢
  have HC := Lib.hid hc
  obtain ⟨G, hG⟩ : ∃ G, G = w.heap.size + 1 := ⟨_, rfl⟩
  have hGw : w.heap.size ≤ G := by omega
  have HGS := Lib.hid (show w.heap.size + 1 = G from hG.symm)
  obtain ⟨S, hS⟩ : ∃ S : World → Prop, S = fun wz => Blk wz w.heap.size 55 #[.int .i64 i, .bool neg, .slice A l c, .slice B k d] ∧ Blk wz G 55 #[.int .i64 0, .bool false, .slice none 0 0, .slice none 0 0] ∧ RatAt wz A l c B k d N D ∧ Ext w wz := ⟨_, rfl⟩
  have hSE : ∀ w w', S w → Ext w w' → S w' := fun w w' h1 h2 => by rw [hS] at h1 ⊢; exact ⟨h1.1.ext h2, h1.2.1.ext h2, h1.2.2.1.ext h2, h1.2.2.2.trans h2⟩
  obtain ⟨w1, hw1⟩ : ∃ w1, w1 = (w.alloc (.cells #[.int .i64 i, .bool neg, .slice A l c, .slice B k d] 55)).alloc (.cells #[.int .i64 0, .bool false, .slice none 0 0, .slice none 0 0] 55) := ⟨_, rfl⟩
  have hS1 : S { w1 with drawn := w1.drawn + 1 } := by
    rw [hS, hw1]
    have hE : Ext w ((w.alloc (.cells #[.int .i64 i, .bool neg, .slice A l c, .slice B k d] 55)).alloc (.cells #[.int .i64 0, .bool false, .slice none 0 0, .slice none 0 0] 55)) := ((Ext.refl w).alloc _).alloc _
    exact ⟨(Blk.new w _ _).ext (((Ext.refl _).alloc _).drew), by rw [hG]; exact Blk.next w _ _ _, h.ext hE.drew, hE.drew⟩
  obtain ⟨sp, hsp⟩ : ∃ sp : Nat → Sp, sp = ofList [det (.pointer (some ⟨w.heap.size, 0, none⟩)), det (.int .i64 i), det (.int .i64 j), det (.pointer (some ⟨w.heap.size, 1, none⟩)), det (.agg #[.bool neg, .slice A l c, .slice B k d]), anyOf (fun v wz => ∃ A1 n1 c1 A2 n2 c2, v = .agg #[.bool r, .slice A1 n1 c1, .slice A2 n2 c2] ∧ RatAt wz A1 n1 c1 A2 n2 c2 N D), anyOf (fun v wz => ∃ A1 n1 c1 A2 n2 c2, v = .agg #[.int .i64 j, .bool r, .slice A1 n1 c1, .slice A2 n2 c2] ∧ RatAt wz A1 n1 c1 A2 n2 c2 N D)] := ⟨_, rfl⟩
  have HS := Lib.hid hS
  have HSP := Lib.hid hsp
  have HW1 := Lib.hid hw1
  clear hS hsp hw1 hG h hc hr hj hwr hi hN hD
  go_enter Tryz.func128, Tryz.ntmps128
  go_wp2_with fail
  rw [← HW1.out, HGS.out]
  clear HW1
  refine wp_region_loose 7 S sp (by kernel_rfl) (by kernel_rfl) hS1 hSE ?_
  simp only [List.take_succ_cons, List.take_zero, List.drop_succ_cons, List.drop_zero]
  repeat (refine wpX_step (fun K hK => ?_)
          go_simp
          first
          | (refine ⟨by rw [HSP.out]; rfl, hK _ _ ?_⟩
             clear hK K)
          | (refine StepY.det (by rw [HSP.out]; rfl) ?_ ?_
             · intro wz hz hF
               have hz' := hz
               rw [HS.out] at hz'
               have g0 := hz'.1.cell 0
               have g1 := hz'.1.cell 1
               have g2 := hz'.1.cell 2
               have g3 := hz'.1.cell 3
               simp only [List.getElem?_toArray, List.getElem?_cons_zero, List.getElem?_cons_succ] at g0 g1 g2 g3
               clear hz' hF
               go_simp
               exact ⟨rfl, Ext.refl _⟩
             refine hK _ _ ?_
             clear hK K)
          | (refine StepY.any (by rw [HSP.out]; rfl) ?_ ?_
             · intro wz hz hF
               have hz' := hz
               rw [HS.out] at hz'
               have hx := hz'.2.2.1
               clear hz'
               go_simp
               go_at_call 48
               (with_reducible refine (HC.out _ _ _ _ _ _ _ hx).mono ?_)
               rintro e w2 ⟨A1, n1, c1, A2, n2, c2, rfl, hW1, hW2, hE1⟩
               exact ⟨_, rfl, ⟨A1, n1, c1, A2, n2, c2, rfl, hW1, hW2⟩, hE1⟩
             intro v
             refine hK _ _ ?_
             clear hK K))
  refine wpX_step (fun K hK => ?_)
  go_simp
  refine StepY.any (by rw [HSP.out]; rfl) ?_ ?_
  · intro wz hz hF
    obtain ⟨wa, ea, A1, n1, c1, A2, n2, c2, hv1, hw1⟩ := hF.any 5 (by kernel_rfl) (by rw [HSP.out]; rfl)
    clear hF
    simp only [asFun, List.nil_append, List.cons_append, List.getD_cons_succ, List.getD_cons_zero] at hv1
    subst hv1
    go_simp
    exact ⟨⟨A1, n1, c1, A2, n2, c2, rfl, hw1.ext ea⟩, Ext.refl _⟩
  · intro v
    refine hK _ _ ?_
    clear hK K
    refine wpX_nil ?_
    intro w3 hz hF
    obtain ⟨w0, e0, A1, n1, c1, A2, n2, c2, hv, hw0⟩ := fact_any (hF 6 (by omega)) (by rw [HSP.out]; rfl)
    clear hF
    simp only [asFun, List.nil_append, List.cons_append, List.getD_cons_succ, List.getD_cons_zero] at hv
    subst hv
    rw [HS.out] at hz
    have hb3 := hz.2.1
    have hEx := hz.2.2.2
    have hr := hw0.ext e0
    have hGl := hb3.lt
    have q0 : w3.cell? ⟨G, 0, none⟩ = some (.int .i64 0) := hb3.cell 0
    have q1 : w3.cell? ⟨G, 1, none⟩ = some (.bool false) := hb3.cell 1
    have q2 : w3.cell? ⟨G, 2, none⟩ = some (.slice none 0 0) := hb3.cell 2
    have q3 : w3.cell? ⟨G, 3, none⟩ = some (.slice none 0 0) := hb3.cell 3
    have f0 := hb3.frozen 0
    have f1 := hb3.frozen 1
    have f2 := hb3.frozen 2
    have f3 := hb3.frozen 3
    clear hz hw0 e0
    go_wp2
    exact bodyPost_ret (v := .agg #[.int .i64 j, .bool r, .slice A1 n1 c1, .slice A2 n2 c2]) (by simp [results, Tryz.results128, go_sem, hGl, q0, q1, q2, q3]) rfl
      ⟨_, _, _, _, _, _, rfl, ((RatBox.mk hr hb3 (NoU.of rfl)).set4 rfl rfl rfl rfl).rat, hEx.set4 hGw _ _ _ _⟩
end Go.Proofs.YtadijoeeaineaaaGreatDoor

/-
  The contracts of the document's own intervals, second part: whether two ends are valid, what is made of them. Conditions: those that each theorem names.
-/
namespace Go.Proofs.YtadijoeeaineaaaGreatDoor
open Go.RowKit Nm Rn
set_option maxRecDepth 100000
set_option linter.unusedVariables false
set_option linter.unusedSimpArgs false

/-- What New answers. -/
def newLo (lo hi : Nat) : Nat := if sndB lo hi then pl lo else 0
def newHi (lo hi : Nat) : Nat := if sndB lo hi then pl hi else 0

end Go.Proofs.YtadijoeeaineaaaGreatDoor

/-
  The contracts of the document's own intervals, third part: validity. Conditions: those that each theorem names.
-/
namespace Go.Proofs.YtadijoeeaineaaaGreatDoor
open Go.RowKit Nm Rn
set_option maxRecDepth 100000
set_option linter.unusedVariables false
set_option linter.unusedSimpArgs false

/-- Two pairs of patterns are one. -/
theorem eqI (a b c d : Int) (w : World) : (binOp .eql 24 (.agg #[.int .u64 a, .int .u64 b]) (.agg #[.int .u64 c, .int .u64 d])).run Tryz.prog w = .ok (.bool (a == c && b == d)) w := by
  cases h1 : (a == c) <;> cases h2 : (b == d) <;> go_simp <;> simp [h1, h2]
theorem eqI' {a b c d : Int} {E : Bool} (h : (a == c && b == d) = E) (w : World) : (binOp .eql 24 (.agg #[.int .u64 a, .int .u64 b]) (.agg #[.int .u64 c, .int .u64 d])).run Tryz.prog w = .ok (.bool E) w := by rw [eqI, h]

end Go.Proofs.YtadijoeeaineaaaGreatDoor

/-
  The contracts of the document's sets, first part: of a whole number, of an interval. Conditions: those that each theorem names.
-/
namespace Go.Proofs.YtadijoeeaineaaaGreatDoor
open Go.RowKit Nm Rn
set_option maxRecDepth 100000
set_option linter.unusedVariables false
set_option linter.unusedSimpArgs false

set_option maxHeartbeats 1000000 in
theorem finite_any (v : Nat) (w : World) (hv : v < 4611686018427387904) :
    Calls Tryz.prog 59 #[.int .i64 (v : Int)] w (RetEnd 0 false (fracN v 1 0) (fracD v 1 0) w) := by
  have hi := fun w => int_any v w hv
  obtain ⟨N, hN⟩ : ∃ N, N = fracN v 1 0 := ⟨_, rfl⟩
  obtain ⟨D, hD⟩ : ∃ D, D = fracD v 1 0 := ⟨_, rfl⟩
  rw [← hN, ← hD] at hi ⊢
  have HI2 := Lib.hid hi
  clear hi hN hD hv
  go_enter Tryz.func59, Tryz.ntmps59
  go_wp2_with fail
  refine (HI2.out _).mono ?_
  rintro e w2 ⟨A2, n2, c2, A3, n3, c3, rfl, hr1, hr2, hE⟩
  have hblk := (Blk.new w 55 #[.int .i64 0, .bool false, .slice none 0 0, .slice none 0 0]).ext hE
  have hEw := ((Ext.refl w).alloc (.cells #[.int .i64 0, .bool false, .slice none 0 0, .slice none 0 0] 55)).trans hE
  obtain ⟨G, hG⟩ : ∃ G, G = w.heap.size := ⟨_, rfl⟩
  rw [← hG] at hblk
  rw [← hG]
  have hGw : w.heap.size ≤ G := by omega
  have hGl := hblk.lt
  have q0 : w2.cell? ⟨G, 0, none⟩ = some (.int .i64 0) := hblk.cell 0
  have q1 : w2.cell? ⟨G, 1, none⟩ = some (.bool false) := hblk.cell 1
  have q2 : w2.cell? ⟨G, 2, none⟩ = some (.slice none 0 0) := hblk.cell 2
  have q3 : w2.cell? ⟨G, 3, none⟩ = some (.slice none 0 0) := hblk.cell 3
  have f0 := hblk.frozen 0
  have f1 := hblk.frozen 1
  have f2 := hblk.frozen 2
  have f3 := hblk.frozen 3
  have HB := Lib.hid (RatBox.mk (N := N) (D := D) ⟨hr1, hr2⟩ hblk (NoU.of rfl))
  clear hG hr1 hr2 hblk
  go_wp2
  exact bodyPost_ret (v := .agg #[.int .i64 0, .bool false, .slice A2 n2 c2, .slice A3 n3 c3]) (by simp [results, Tryz.results59, go_sem, hGl, q0, q1, q2, q3]) rfl
    ⟨_, _, _, _, _, _, rfl, (HB.out.set4 rfl rfl rfl rfl).rat, (hEw.set3 hGw _ _ _).setCell (by show w.heap.size ≤ G; omega) _⟩

/-- What is answered: a set. -/
def RetSet (n : Bool) (i : Int) (b : Bool) (N D : Nat) (j : Int) (b' : Bool) (N' D' : Nat) (w : World) (e : Ending) (w' : World) : Prop :=
  ∃ A l c B k d A' l' c' B' k' d', e = .returned (.agg #[.bool n, .int .i64 i, .bool b, .slice A l c, .slice B k d, .int .i64 j, .bool b', .slice A' l' c', .slice B' k' d']) ∧ RatAt w' A l c B k d N D ∧ RatAt w' A' l' c' B' k' d' N' D' ∧ Ext w w'

section
variable {w w' : World} {g : Nat} {t : TypeId} {cs : Array Value}
theorem RatBox.set9 {A : Option Addr} {l c : Nat} {B : Option Addr} {k d N D : Nat} (h : RatBox w g t cs A l c B k d N D) {u0 u1 u2 u3 u4 u5 u6 u7 u8 : Value} (h0 : notU u0 = true) (h1 : notU u1 = true) (h2 : notU u2 = true) (h3 : notU u3 = true) (h4 : notU u4 = true) (h5 : notU u5 = true) (h6 : notU u6 = true) (h7 : notU u7 = true) (h8 : notU u8 = true) :
    RatAt (((((((((w.setCell ⟨g, 0, none⟩ u0).setCell ⟨g, 1, none⟩ u1).setCell ⟨g, 2, none⟩ u2).setCell ⟨g, 3, none⟩ u3).setCell ⟨g, 4, none⟩ u4).setCell ⟨g, 5, none⟩ u5).setCell ⟨g, 6, none⟩ u6).setCell ⟨g, 7, none⟩ u7).setCell ⟨g, 8, none⟩ u8) A l c B k d N D := (((((((((h.set 0 h0).set 1 h1).set 2 h2).set 3 h3).set 4 h4).set 5 h5).set 6 h6).set 7 h7).set 8 h8).rat
theorem Ext.set9 {w0 : World} (h : Ext w0 w) (hg : w0.heap.size ≤ g) (u0 u1 u2 u3 u4 u5 u6 u7 u8 : Value) :
    Ext w0 (((((((((w.setCell ⟨g, 0, none⟩ u0).setCell ⟨g, 1, none⟩ u1).setCell ⟨g, 2, none⟩ u2).setCell ⟨g, 3, none⟩ u3).setCell ⟨g, 4, none⟩ u4).setCell ⟨g, 5, none⟩ u5).setCell ⟨g, 6, none⟩ u6).setCell ⟨g, 7, none⟩ u7).setCell ⟨g, 8, none⟩ u8) :=
  (((((h.set4 hg u0 u1 u2 u3).setCell (by show w0.heap.size ≤ g; omega) _).setCell (by show w0.heap.size ≤ g; omega) _).setCell (by show w0.heap.size ≤ g; omega) _).setCell (by show w0.heap.size ≤ g; omega) _).setCell (by show w0.heap.size ≤ g; omega) _
end

set_option maxHeartbeats 2000000 in
theorem of6_none (lo hi : Nat) (w : World) (hl : lo < 18446744073709551616) (hh : hi < 18446744073709551616) (he : rdLo lo hi = infR ∧ rdHi lo hi = minf) :
    Calls Tryz.prog 29 #[.agg #[.int .u64 (lo : Int), .int .u64 (hi : Int)]] w (RetSet true 0 false (fracN 0 1 0) (fracD 0 1 0) 0 false (fracN 0 1 0) (fracD 0 1 0) w) := by
  have h4 := fun w => read6_any lo hi w hl hh
  rw [he.1, he.2] at h4
  have hf := fun w => finite_any 0 w (by omega)
  obtain ⟨N, hN⟩ : ∃ N, N = fracN 0 1 0 := ⟨_, rfl⟩
  obtain ⟨D, hD⟩ : ∃ D, D = fracD 0 1 0 := ⟨_, rfl⟩
  rw [← hN, ← hD] at hf ⊢
  obtain ⟨p, hp⟩ : ∃ p, p = infR := ⟨_, rfl⟩
  obtain ⟨q, hq⟩ : ∃ q, q = minf := ⟨_, rfl⟩
  rw [← hp, ← hq] at h4
  have hem := fun w => empty6_any w
  rw [← hp, ← hq] at hem
  have hEQ : ((p : Int) == (p : Int) && (q : Int) == (q : Int)) = true := by simp
  have hq' := eqI' hEQ
  have HF := Lib.hid hf
  have HR := Lib.hid h4
  have HEM := Lib.hid hem
  clear hf h4 hem hN hD hp hq he hl hh hEQ
  go_enter Tryz.func29, Tryz.ntmps29
  go_wp2_with fail
  refine (HR.out _).mono ?_
  rintro e w2 ⟨rfl, hE2⟩
  have hb2 := (Blk.new2 w (.cells #[.int .u64 (lo : Int), .int .u64 (hi : Int)] 24) 57 #[.bool false, .int .i64 0, .bool false, .slice none 0 0, .slice none 0 0, .int .i64 0, .bool false, .slice none 0 0, .slice none 0 0]).ext hE2
  have hEw := (((Ext.refl w).alloc (.cells #[.int .u64 (lo : Int), .int .u64 (hi : Int)] 24)).alloc (.cells #[.bool false, .int .i64 0, .bool false, .slice none 0 0, .slice none 0 0, .int .i64 0, .bool false, .slice none 0 0, .slice none 0 0] 57)).trans hE2
  obtain ⟨G, hG⟩ : ∃ G, G = w.heap.size + 1 := ⟨_, rfl⟩
  rw [← hG] at hb2
  rw [← hG]
  have hGw : w.heap.size ≤ G := by omega
  clear hG hE2
  obtain ⟨Y, hY⟩ : ∃ Y, Y = w2.heap.size := ⟨_, rfl⟩
  have HYS := Lib.hid (show w2.heap.size = Y from hY.symm)
  obtain ⟨S, hS⟩ : ∃ S : World → Prop, S = fun wz => Blk wz G 57 #[.bool false, .int .i64 0, .bool false, .slice none 0 0, .slice none 0 0, .int .i64 0, .bool false, .slice none 0 0, .slice none 0 0] ∧ Blk wz Y 24 #[.int .u64 (p : Int), .int .u64 (q : Int)] ∧ Ext w wz := ⟨_, rfl⟩
  have hSE : ∀ w w', S w → Ext w w' → S w' := fun w w' h1 h2 => by rw [hS] at h1 ⊢; exact ⟨h1.1.ext h2, h1.2.1.ext h2, h1.2.2.trans h2⟩
  have hS1 : S { w2.alloc (.cells #[.int .u64 (p : Int), .int .u64 (q : Int)] 24) with drawn := (w2.alloc (.cells #[.int .u64 (p : Int), .int .u64 (q : Int)] 24)).drawn + 1 } := by
    rw [hS, hY]; exact ⟨hb2.ext ((Ext.refl w2).alloc _).drew, Blk.new w2 _ _, (hEw.alloc _).drew⟩
  have HSS := Lib.hid hS
  have HSE := Lib.hid hSE
  clear hS hb2 hEw hY hSE
  go_wp2_with fail
  rw [HYS.out]
  clear HYS
  refine wp_region_steady S (by kernel_rfl) (by kernel_rfl) hS1 ?_
  repeat (refine wpG_step (fun K hK => ?_)
          go_simp
          first
          | (refine hK _ ?_
             clear hK K)
          | (apply StepG.mk
             intro wz hz
             have hz' := hz
             rw [HSS.out] at hz'
             have g0 := hz'.2.1.cell 0
             have g1 := hz'.2.1.cell 1
             simp only [List.getElem?_toArray, List.getElem?_cons_zero, List.getElem?_cons_succ] at g0 g1
             clear hz'
             go_simp
             first
             | exact ⟨rfl, hz⟩
             | (go_at_call 11; exact (HEM.out _).mono fun e w5 h5 => ⟨h5.1, HSE.out _ _ hz h5.2⟩)
             refine hK _ ?_
             clear hK K))
  refine wpG_nil ?_
  intro w3 hw3
  rw [HSS.out] at hw3
  have hb3 := hw3.1
  have HE3 := Lib.hid hw3.2.2
  clear hw3 hS1 hq' HSE HSS S
  go_wp2_with fail
  refine (HF.out _).mono ?_
  rintro e w4 ⟨A1, n1, c1, B1, k1, d1, rfl, hr4, hE4⟩
  have hb4 := hb3.ext hE4
  clear hb3
  go_wp2_with fail
  refine (HF.out _).mono ?_
  rintro e w5 ⟨A2, n2, c2, B2, k2, d2, rfl, hr5, hE5⟩
  have hb5 := hb4.ext hE5
  have hr4' := hr4.ext hE5
  have hE := (HE3.out.trans hE4).trans hE5
  clear hb4 hr4 hE4 hE5 HE3 HF HR HEM
  have hGl := hb5.lt
  have q0 : w5.cell? ⟨G, 0, none⟩ = some (.bool false) := hb5.cell 0
  have q1 : w5.cell? ⟨G, 1, none⟩ = some (.int .i64 0) := hb5.cell 1
  have q2 : w5.cell? ⟨G, 2, none⟩ = some (.bool false) := hb5.cell 2
  have q3 : w5.cell? ⟨G, 3, none⟩ = some (.slice none 0 0) := hb5.cell 3
  have q4 : w5.cell? ⟨G, 4, none⟩ = some (.slice none 0 0) := hb5.cell 4
  have q5 : w5.cell? ⟨G, 5, none⟩ = some (.int .i64 0) := hb5.cell 5
  have q6 : w5.cell? ⟨G, 6, none⟩ = some (.bool false) := hb5.cell 6
  have q7 : w5.cell? ⟨G, 7, none⟩ = some (.slice none 0 0) := hb5.cell 7
  have q8 : w5.cell? ⟨G, 8, none⟩ = some (.slice none 0 0) := hb5.cell 8
  have f0 := hb5.frozen 0
  have f1 := hb5.frozen 1
  have f2 := hb5.frozen 2
  have f3 := hb5.frozen 3
  have f4 := hb5.frozen 4
  have f5 := hb5.frozen 5
  have f6 := hb5.frozen 6
  have f7 := hb5.frozen 7
  have f8 := hb5.frozen 8
  have HB1 := Lib.hid (RatBox.mk hr4' hb5 (NoU.of rfl))
  have HB2 := Lib.hid (RatBox.mk hr5 hb5 (NoU.of rfl))
  have HEE := Lib.hid hE
  clear hb5 hr4' hr5 hE
  go_wp2
  exact bodyPost_ret (v := .agg #[.bool true, .int .i64 0, .bool false, .slice A1 n1 c1, .slice B1 k1 d1, .int .i64 0, .bool false, .slice A2 n2 c2, .slice B2 k2 d2]) (by simp [results, Tryz.results29, go_sem, hGl, q0, q1, q2, q3, q4, q5, q6, q7, q8]) rfl
    ⟨_, _, _, _, _, _, _, _, _, _, _, _, rfl, HB1.out.set9 rfl rfl rfl rfl rfl rfl rfl rfl rfl, HB2.out.set9 rfl rfl rfl rfl rfl rfl rfl rfl rfl, HEE.out.set9 hGw _ _ _ _ _ _ _ _ _⟩

set_option maxHeartbeats 2000000 in
theorem of6_full (lo hi : Nat) (w : World) (hl : lo < 18446744073709551616) (hh : hi < 18446744073709551616) (he : ¬ (rdLo lo hi = infR ∧ rdHi lo hi = minf)) :
    Calls Tryz.prog 29 #[.agg #[.int .u64 (lo : Int), .int .u64 (hi : Int)]] w (RetSet false (bI (rdLo lo hi)) (bNeg (rdLo lo hi)) (bN (rdLo lo hi)) (bD (rdLo lo hi)) (bI (rdHi lo hi)) (bNeg (rdHi lo hi)) (bN (rdHi lo hi)) (bD (rdHi lo hi)) w) := by
  have h4 := fun w => read6_any lo hi w hl hh
  have hem := fun w => empty6_any w
  have hpl : plN (rdLo lo hi) = rdLo lo hi := rdLo_pl lo hi
  have hqh : plN (rdHi lo hi) = rdHi lo hi := rdHi_pl lo hi
  have hp64 : rdLo lo hi < 18446744073709551616 := rdLo_lt lo hi hl
  have hq64 : rdHi lo hi < 18446744073709551616 := rdHi_lt lo hi hh
  obtain ⟨p, hp⟩ : ∃ p, p = rdLo lo hi := ⟨_, rfl⟩
  obtain ⟨q, hq⟩ : ∃ q, q = rdHi lo hi := ⟨_, rfl⟩
  rw [← hp] at hpl hp64 he h4 ⊢
  rw [← hq] at hqh hq64 he h4 ⊢
  have hEQ : ((p : Int) == (infR : Int) && (q : Int) == (minf : Int)) = false := by
    rw [Bool.and_eq_false_iff, beq_eq_false_iff_ne, beq_eq_false_iff_ne]
    omega
  have hq' := eqI' hEQ
  have hB1 := fun w => bound_any p w hp64 hpl
  have hB2 := fun w => bound_any q w hq64 hqh
  obtain ⟨i1, hi1⟩ : ∃ i, i = bI p := ⟨_, rfl⟩
  obtain ⟨i2, hi2⟩ : ∃ i, i = bI q := ⟨_, rfl⟩
  obtain ⟨s1, hs1⟩ : ∃ s, s = bNeg p := ⟨_, rfl⟩
  obtain ⟨s2, hs2⟩ : ∃ s, s = bNeg q := ⟨_, rfl⟩
  obtain ⟨N1, hN1⟩ : ∃ N, N = bN p := ⟨_, rfl⟩
  obtain ⟨N2, hN2⟩ : ∃ N, N = bN q := ⟨_, rfl⟩
  obtain ⟨D1, hD1⟩ : ∃ D, D = bD p := ⟨_, rfl⟩
  obtain ⟨D2, hD2⟩ : ∃ D, D = bD q := ⟨_, rfl⟩
  rw [← hi1, ← hs1, ← hN1, ← hD1] at hB1 ⊢
  rw [← hi2, ← hs2, ← hN2, ← hD2] at hB2 ⊢
  have HB1 := Lib.hid hB1
  have HB2 := Lib.hid hB2
  have HR := Lib.hid h4
  have HEM := Lib.hid hem
  obtain ⟨sp, hsp⟩ : ∃ sp : Nat → Nat → Sp, sp = fun Y => ofList [det (.pointer (some ⟨Y, 0, none⟩)), det (.int .u64 (p : Int)),
    anyOf (fun v wz => ∃ A l c B k d, v = .agg #[.int .i64 i1, .bool s1, .slice A l c, .slice B k d] ∧ RatAt wz A l c B k d N1 D1),
    det (.pointer (some ⟨Y, 1, none⟩)), det (.int .u64 (q : Int)),
    anyOf (fun v wz => ∃ A l c B k d, v = .agg #[.int .i64 i2, .bool s2, .slice A l c, .slice B k d] ∧ RatAt wz A l c B k d N2 D2),
    anyOf (fun v wz => ∃ A l c B k d A' l' c' B' k' d', v = .agg #[.bool false, .int .i64 i1, .bool s1, .slice A l c, .slice B k d, .int .i64 i2, .bool s2, .slice A' l' c', .slice B' k' d'] ∧ RatAt wz A l c B k d N1 D1 ∧ RatAt wz A' l' c' B' k' d' N2 D2)] := ⟨_, rfl⟩
  have HSPY := Lib.hid hsp
  clear h4 hem hp hq he hl hh hEQ hpl hqh hp64 hq64 hB1 hB2 hi1 hi2 hs1 hs2 hN1 hN2 hD1 hD2 hsp
  go_enter Tryz.func29, Tryz.ntmps29
  go_wp2_with fail
  refine (HR.out _).mono ?_
  rintro e w2 ⟨rfl, hE2⟩
  have hb2 := (Blk.new2 w (.cells #[.int .u64 (lo : Int), .int .u64 (hi : Int)] 24) 57 #[.bool false, .int .i64 0, .bool false, .slice none 0 0, .slice none 0 0, .int .i64 0, .bool false, .slice none 0 0, .slice none 0 0]).ext hE2
  have hEw := (((Ext.refl w).alloc (.cells #[.int .u64 (lo : Int), .int .u64 (hi : Int)] 24)).alloc (.cells #[.bool false, .int .i64 0, .bool false, .slice none 0 0, .slice none 0 0, .int .i64 0, .bool false, .slice none 0 0, .slice none 0 0] 57)).trans hE2
  obtain ⟨G, hG⟩ : ∃ G, G = w.heap.size + 1 := ⟨_, rfl⟩
  rw [← hG] at hb2
  rw [← hG]
  have hGw : w.heap.size ≤ G := by omega
  clear hG hE2
  obtain ⟨Y, hY⟩ : ∃ Y, Y = w2.heap.size := ⟨_, rfl⟩
  have HYS := Lib.hid (show w2.heap.size = Y from hY.symm)
  obtain ⟨S, hS⟩ : ∃ S : World → Prop, S = fun wz => Blk wz G 57 #[.bool false, .int .i64 0, .bool false, .slice none 0 0, .slice none 0 0, .int .i64 0, .bool false, .slice none 0 0, .slice none 0 0] ∧ Blk wz Y 24 #[.int .u64 (p : Int), .int .u64 (q : Int)] ∧ Ext w wz := ⟨_, rfl⟩
  have hSE : ∀ w w', S w → Ext w w' → S w' := fun w w' h1 h2 => by rw [hS] at h1 ⊢; exact ⟨h1.1.ext h2, h1.2.1.ext h2, h1.2.2.trans h2⟩
  have hS1 : S { w2.alloc (.cells #[.int .u64 (p : Int), .int .u64 (q : Int)] 24) with drawn := (w2.alloc (.cells #[.int .u64 (p : Int), .int .u64 (q : Int)] 24)).drawn + 1 } := by
    rw [hS, hY]; exact ⟨hb2.ext ((Ext.refl w2).alloc _).drew, Blk.new w2 _ _, (hEw.alloc _).drew⟩
  have HSS := Lib.hid hS
  have HSE := Lib.hid hSE
  clear hS hb2 hEw hY hSE
  go_wp2_with fail
  rw [HYS.out]
  clear HYS
  refine wp_region_steady S (by kernel_rfl) (by kernel_rfl) hS1 ?_
  repeat (refine wpG_step (fun K hK => ?_)
          go_simp
          first
          | (refine hK _ ?_
             clear hK K)
          | (apply StepG.mk
             intro wz hz
             have hz' := hz
             rw [HSS.out] at hz'
             have g0 := hz'.2.1.cell 0
             have g1 := hz'.2.1.cell 1
             simp only [List.getElem?_toArray, List.getElem?_cons_zero, List.getElem?_cons_succ] at g0 g1
             clear hz'
             go_simp
             first
             | exact ⟨rfl, hz⟩
             | (go_at_call 11; exact (HEM.out _).mono fun e w5 h5 => ⟨h5.1, HSE.out _ _ hz h5.2⟩)
             refine hK _ ?_
             clear hK K))
  refine wpG_nil ?_
  intro w3 hw3
  clear hS1 hq'
  have hS3 : S { w3 with drawn := w3.drawn + 1 } := HSE.out _ _ hw3 (Ext.refl w3).drew
  have HSP : Hid (sp Y = _) := Lib.hid (by rw [HSPY.out])
  clear HSPY
  go_wp2_with fail
  refine wp_region_loose 7 S (sp Y) (by kernel_rfl) (by kernel_rfl) hS3 HSE.out ?_
  simp only [List.take_succ_cons, List.take_zero, List.drop_succ_cons, List.drop_zero]
  repeat (refine wpX_step (fun K hK => ?_)
          go_simp
          first
          | (refine ⟨by rw [HSP.out]; rfl, hK _ _ ?_⟩
             clear hK K)
          | (refine StepY.det (by rw [HSP.out]; rfl) ?_ ?_
             · intro wz hz hF
               have hz' := hz
               rw [HSS.out] at hz'
               have g0 := hz'.2.1.cell 0
               have g1 := hz'.2.1.cell 1
               simp only [List.getElem?_toArray, List.getElem?_cons_zero, List.getElem?_cons_succ] at g0 g1
               clear hz' hF
               go_simp
               exact ⟨rfl, Ext.refl _⟩
             refine hK _ _ ?_
             clear hK K)
          | (refine StepY.any (by rw [HSP.out]; rfl) ?_ ?_
             · intro wz hz hF
               go_simp
               go_at_call 60
               first
               | (with_reducible refine (HB1.out _).mono ?_)
               | (with_reducible refine (HB2.out _).mono ?_)
               rintro e w2 ⟨A1, n1, c1, A2, n2, c2, rfl, hW1, hE1⟩
               exact ⟨_, rfl, ⟨A1, n1, c1, A2, n2, c2, rfl, hW1⟩, hE1⟩
             intro v
             refine hK _ _ ?_
             clear hK K))
  refine wpX_step (fun K hK => ?_)
  go_simp
  refine StepY.any (by rw [HSP.out]; rfl) ?_ ?_
  · intro wz hz hF
    obtain ⟨wa, ea, A1, n1, c1, B1, k1, d1, hv1, hw1⟩ := hF.any 2 (by kernel_rfl) (by rw [HSP.out]; rfl)
    obtain ⟨wb, eb, A2, n2, c2, B2, k2, d2, hv2, hw2⟩ := hF.any 5 (by kernel_rfl) (by rw [HSP.out]; rfl)
    clear hF
    simp only [asFun, List.nil_append, List.cons_append, List.getD_cons_succ, List.getD_cons_zero] at hv1 hv2
    subst hv1 hv2
    go_simp
    exact ⟨⟨A1, n1, c1, B1, k1, d1, A2, n2, c2, B2, k2, d2, rfl, hw1.ext ea, hw2.ext eb⟩, Ext.refl _⟩
  · intro v
    refine hK _ _ ?_
    clear hK K
    refine wpX_nil ?_
    intro w5 hz hF
    obtain ⟨w0, e0, A1, n1, c1, B1, k1, d1, A2, n2, c2, B2, k2, d2, hv, hw0⟩ := fact_any (hF 6 (by omega)) (by rw [HSP.out]; rfl)
    clear hF
    simp only [asFun, List.nil_append, List.cons_append, List.getD_cons_succ, List.getD_cons_zero] at hv
    subst hv
    rw [HSS.out] at hz
    have hb5 := hz.1
    have hE := hz.2.2
    have hr4' := hw0.1.ext e0
    have hr5 := hw0.2.ext e0
    clear hz hw0 e0 HB1 HB2 HSP HSE HSS HEM HR hw3 hS3
    have hGl := hb5.lt
    have q0 : w5.cell? ⟨G, 0, none⟩ = some (.bool false) := hb5.cell 0
    have q1 : w5.cell? ⟨G, 1, none⟩ = some (.int .i64 0) := hb5.cell 1
    have q2 : w5.cell? ⟨G, 2, none⟩ = some (.bool false) := hb5.cell 2
    have q3 : w5.cell? ⟨G, 3, none⟩ = some (.slice none 0 0) := hb5.cell 3
    have q4 : w5.cell? ⟨G, 4, none⟩ = some (.slice none 0 0) := hb5.cell 4
    have q5 : w5.cell? ⟨G, 5, none⟩ = some (.int .i64 0) := hb5.cell 5
    have q6 : w5.cell? ⟨G, 6, none⟩ = some (.bool false) := hb5.cell 6
    have q7 : w5.cell? ⟨G, 7, none⟩ = some (.slice none 0 0) := hb5.cell 7
    have q8 : w5.cell? ⟨G, 8, none⟩ = some (.slice none 0 0) := hb5.cell 8
    have f0 := hb5.frozen 0
    have f1 := hb5.frozen 1
    have f2 := hb5.frozen 2
    have f3 := hb5.frozen 3
    have f4 := hb5.frozen 4
    have f5 := hb5.frozen 5
    have f6 := hb5.frozen 6
    have f7 := hb5.frozen 7
    have f8 := hb5.frozen 8
    have HB1 := Lib.hid (RatBox.mk hr4' hb5 (NoU.of rfl))
    have HB2 := Lib.hid (RatBox.mk hr5 hb5 (NoU.of rfl))
    have HEE := Lib.hid hE
    clear hb5 hr4' hr5 hE
    go_wp2
    exact bodyPost_ret (v := .agg #[.bool false, .int .i64 i1, .bool s1, .slice A1 n1 c1, .slice B1 k1 d1, .int .i64 i2, .bool s2, .slice A2 n2 c2, .slice B2 k2 d2]) (by simp [results, Tryz.results29, go_sem, hGl, q0, q1, q2, q3, q4, q5, q6, q7, q8]) rfl
      ⟨_, _, _, _, _, _, _, _, _, _, _, _, rfl, HB1.out.set9 rfl rfl rfl rfl rfl rfl rfl rfl rfl, HB2.out.set9 rfl rfl rfl rfl rfl rfl rfl rfl rfl, HEE.out.set9 hGw _ _ _ _ _ _ _ _ _⟩
end Go.Proofs.YtadijoeeaineaaaGreatDoor
