/-
  The contract of chapter 7's document: the magnitudes of a set. Conditions: those that each theorem names.
-/
import Derived.Test.YtcimfccjcikemaaRefX
namespace Go.Proofs.Ytcimfccjcikemaa
open Go.RowKit Nm Rn
set_option maxRecDepth 100000
set_option linter.unusedVariables false
set_option linter.unusedSimpArgs false

section
variable {w : World} {g P : Nat} {t t' : TypeId} {cs : Array Value}
theorem Blk.far4 (h : Blk w g t cs) (hn : g ≠ P) (u0 u1 u2 u3 : Value) : Blk ((((w.setCell ⟨P, 0, none⟩ u0).setCell ⟨P, 1, none⟩ u1).setCell ⟨P, 2, none⟩ u2).setCell ⟨P, 3, none⟩ u3) g t cs :=
  (((h.far hn u0).far hn u1).far hn u2).far hn u3
theorem Blk.set4 {a b c d : Value} (h : Blk w P t #[a, b, c, d]) (u0 u1 u2 u3 : Value) : Blk ((((w.setCell ⟨P, 0, none⟩ u0).setCell ⟨P, 1, none⟩ u1).setCell ⟨P, 2, none⟩ u2).setCell ⟨P, 3, none⟩ u3) P t #[u0, u1, u2, u3] :=
  (((h.set_ 0 u0).set_ 1 u1).set_ 2 u2).set_ 3 u3
end

structure MZ (H G P Q : Nat) (i1 : Int) (s1 : Bool) (A1 : Option Addr) (l1 c1 : Nat) (B1 : Option Addr) (k1 d1 N1 D1 : Nat) (i2 : Int) (s2 : Bool) (A2 : Option Addr) (l2 c2 : Nat) (B2 : Option Addr) (k2 d2 N2 D2 : Nat) (i3 : Int) (s3 : Bool) (A3 : Option Addr) (l3 c3 : Nat) (B3 : Option Addr) (k3 d3 N3 D3 : Nat) (i4 : Int) (s4 : Bool) (A4 : Option Addr) (l4 c4 : Nat) (B4 : Option Addr) (k4 d4 N4 D4 : Nat) (w0 w : World) : Prop where
  hH : Blk w H 70 #[.bool false, .int .i64 i1, .bool s1, .slice A1 l1 c1, .slice B1 k1 d1, .int .i64 i2, .bool s2, .slice A2 l2 c2, .slice B2 k2 d2]
  hG : Blk w G 70 #[.bool false, .int .i64 0, .bool false, .slice none 0 0, .slice none 0 0, .int .i64 0, .bool false, .slice none 0 0, .slice none 0 0]
  hP : Blk w P 68 #[.int .i64 i3, .bool s3, .slice A3 l3 c3, .slice B3 k3 d3]
  hQ : Blk w Q 68 #[.int .i64 i4, .bool s4, .slice A4 l4 c4, .slice B4 k4 d4]
  r1 : RatAt w A1 l1 c1 B1 k1 d1 N1 D1
  r2 : RatAt w A2 l2 c2 B2 k2 d2 N2 D2
  r3 : RatAt w A3 l3 c3 B3 k3 d3 N3 D3
  r4 : RatAt w A4 l4 c4 B4 k4 d4 N4 D4
  ex : Ext w0 w
  le : w0.heap.size ≤ P
  nH : H < P
  nG : G < P
  nQ : P < Q
section
variable {H G P Q : Nat} {i1 : Int} {s1 : Bool} {A1 : Option Addr} {l1 c1 : Nat} {B1 : Option Addr} {k1 d1 N1 D1 : Nat} {i2 : Int} {s2 : Bool} {A2 : Option Addr} {l2 c2 : Nat} {B2 : Option Addr} {k2 d2 N2 D2 : Nat} {i3 : Int} {s3 : Bool} {A3 : Option Addr} {l3 c3 : Nat} {B3 : Option Addr} {k3 d3 N3 D3 : Nat} {i4 : Int} {s4 : Bool} {A4 : Option Addr} {l4 c4 : Nat} {B4 : Option Addr} {k4 d4 N4 D4 : Nat} {w0 w w' : World}
theorem MZ.ext (h : MZ H G P Q i1 s1 A1 l1 c1 B1 k1 d1 N1 D1 i2 s2 A2 l2 c2 B2 k2 d2 N2 D2 i3 s3 A3 l3 c3 B3 k3 d3 N3 D3 i4 s4 A4 l4 c4 B4 k4 d4 N4 D4 w0 w) (he : Ext w w') : MZ H G P Q i1 s1 A1 l1 c1 B1 k1 d1 N1 D1 i2 s2 A2 l2 c2 B2 k2 d2 N2 D2 i3 s3 A3 l3 c3 B3 k3 d3 N3 D3 i4 s4 A4 l4 c4 B4 k4 d4 N4 D4 w0 w' :=
  ⟨h.hH.ext he, h.hG.ext he, h.hP.ext he, h.hQ.ext he, h.r1.ext he, h.r2.ext he, h.r3.ext he, h.r4.ext he, h.ex.trans he, h.le, h.nH, h.nG, h.nQ⟩
theorem MZ.setP (h : MZ H G P Q i1 s1 A1 l1 c1 B1 k1 d1 N1 D1 i2 s2 A2 l2 c2 B2 k2 d2 N2 D2 i3 s3 A3 l3 c3 B3 k3 d3 N3 D3 i4 s4 A4 l4 c4 B4 k4 d4 N4 D4 w0 w) {i5 : Int} {s5 : Bool} {A5 : Option Addr} {l5 c5 : Nat} {B5 : Option Addr} {k5 d5 N5 D5 : Nat} (r : RatAt w A5 l5 c5 B5 k5 d5 N5 D5) : MZ H G P Q i1 s1 A1 l1 c1 B1 k1 d1 N1 D1 i2 s2 A2 l2 c2 B2 k2 d2 N2 D2 i5 s5 A5 l5 c5 B5 k5 d5 N5 D5 i4 s4 A4 l4 c4 B4 k4 d4 N4 D4 w0 (((((w).setCell ⟨P, 0, none⟩ (.int .i64 i5)).setCell ⟨P, 1, none⟩ (.bool s5)).setCell ⟨P, 2, none⟩ (.slice A5 l5 c5)).setCell ⟨P, 3, none⟩ (.slice B5 k5 d5)) :=
  ⟨h.hH.far4 (by have := h.nH; omega) _ _ _ _, h.hG.far4 (by have := h.nG; omega) _ _ _ _, h.hP.set4 _ _ _ _, h.hQ.far4 (by have := h.nQ; omega) _ _ _ _,
   ((RatBox.mk h.r1 h.hP (NoU.of rfl)).set4 rfl rfl rfl rfl).rat, ((RatBox.mk h.r2 h.hP (NoU.of rfl)).set4 rfl rfl rfl rfl).rat, ((RatBox.mk r h.hP (NoU.of rfl)).set4 rfl rfl rfl rfl).rat, ((RatBox.mk h.r4 h.hP (NoU.of rfl)).set4 rfl rfl rfl rfl).rat, h.ex.set4 h.le _ _ _ _, h.le, h.nH, h.nG, h.nQ⟩
theorem MZ.setQ (h : MZ H G P Q i1 s1 A1 l1 c1 B1 k1 d1 N1 D1 i2 s2 A2 l2 c2 B2 k2 d2 N2 D2 i3 s3 A3 l3 c3 B3 k3 d3 N3 D3 i4 s4 A4 l4 c4 B4 k4 d4 N4 D4 w0 w) {i5 : Int} {s5 : Bool} {A5 : Option Addr} {l5 c5 : Nat} {B5 : Option Addr} {k5 d5 N5 D5 : Nat} (r : RatAt w A5 l5 c5 B5 k5 d5 N5 D5) : MZ H G P Q i1 s1 A1 l1 c1 B1 k1 d1 N1 D1 i2 s2 A2 l2 c2 B2 k2 d2 N2 D2 i3 s3 A3 l3 c3 B3 k3 d3 N3 D3 i5 s5 A5 l5 c5 B5 k5 d5 N5 D5 w0 (((((w).setCell ⟨Q, 0, none⟩ (.int .i64 i5)).setCell ⟨Q, 1, none⟩ (.bool s5)).setCell ⟨Q, 2, none⟩ (.slice A5 l5 c5)).setCell ⟨Q, 3, none⟩ (.slice B5 k5 d5)) :=
  ⟨h.hH.far4 (by have := h.nH; have := h.nQ; omega) _ _ _ _, h.hG.far4 (by have := h.nG; have := h.nQ; omega) _ _ _ _, h.hP.far4 (by have := h.nQ; omega) _ _ _ _, h.hQ.set4 _ _ _ _,
   ((RatBox.mk h.r1 h.hQ (NoU.of rfl)).set4 rfl rfl rfl rfl).rat, ((RatBox.mk h.r2 h.hQ (NoU.of rfl)).set4 rfl rfl rfl rfl).rat, ((RatBox.mk h.r3 h.hQ (NoU.of rfl)).set4 rfl rfl rfl rfl).rat, ((RatBox.mk r h.hQ (NoU.of rfl)).set4 rfl rfl rfl rfl).rat, h.ex.set4 (by have := h.le; have := h.nQ; omega) _ _ _ _, h.le, h.nH, h.nG, h.nQ⟩
end

set_option maxHeartbeats 4000000 in
theorem size_na (i1 : Int) (s1 : Bool) (A1 : Option Addr) (l1 c1 : Nat) (B1 : Option Addr) (k1 d1 N1 D1 : Nat) (i2 : Int) (s2 : Bool) (A2 : Option Addr) (l2 c2 : Nat) (B2 : Option Addr) (k2 d2 N2 D2 : Nat) (i3 : Int) (s3 : Bool) (N3 D3 : Nat) (i4 : Int) (s4 : Bool) (N4 D4 : Nat) (x y1 y2 : Int) (F E : Nat) (w : World) (h1 : RatAt w A1 l1 c1 B1 k1 d1 N1 D1) (h2 : RatAt w A2 l2 c2 B2 k2 d2 N2 D2)
    (HM1 : Hid (∀ w, RatAt w A1 l1 c1 B1 k1 d1 N1 D1 → Calls Try.prog 94 #[.agg #[.int .i64 i1, .bool s1, .slice A1 l1 c1, .slice B1 k1 d1]] w (RetEnd i3 s3 N3 D3 w)))
    (HM2 : Hid (∀ w, RatAt w A2 l2 c2 B2 k2 d2 N2 D2 → Calls Try.prog 94 #[.agg #[.int .i64 i2, .bool s2, .slice A2 l2 c2, .slice B2 k2 d2]] w (RetEnd i4 s4 N4 D4 w)))
    (HC : Hid (∀ A3 l3 c3 B3 k3 d3 A4 l4 c4 B4 k4 d4 w, RatAt w A3 l3 c3 B3 k3 d3 N3 D3 → RatAt w A4 l4 c4 B4 k4 d4 N4 D4 → Calls Try.prog 65 #[.agg #[.int .i64 i3, .bool s3, .slice A3 l3 c3, .slice B3 k3 d3], .agg #[.int .i64 i4, .bool s4, .slice A4 l4 c4, .slice B4 k4 d4]] w fun e w' => e = .returned (.int .i64 x) ∧ Ext w w'))
    (HSA : Hid (∀ w, RatAt w A1 l1 c1 B1 k1 d1 N1 D1 → Calls Try.prog 95 #[.agg #[.int .i64 i1, .bool s1, .slice A1 l1 c1, .slice B1 k1 d1]] w fun e w' => e = .returned (.int .i64 y1) ∧ Ext w w'))
    (HSB : Hid (∀ w, RatAt w A2 l2 c2 B2 k2 d2 N2 D2 → Calls Try.prog 95 #[.agg #[.int .i64 i2, .bool s2, .slice A2 l2 c2, .slice B2 k2 d2]] w fun e w' => e = .returned (.int .i64 y2) ∧ Ext w w'))
    (HF : Hid (∀ w, Calls Try.prog 92 #[.int .i64 0] w (RetEnd 0 false F E w)))
    (hx : decide (0 < x) = false) (hy1 : decide (y1 ≤ 0) = false)  :
    Calls Try.prog 64 #[.agg #[.bool false, .int .i64 i1, .bool s1, .slice A1 l1 c1, .slice B1 k1 d1, .int .i64 i2, .bool s2, .slice A2 l2 c2, .slice B2 k2 d2]] w (RetSet false i3 s3 N3 D3 i4 s4 N4 D4 w) := by
  have hbG := Blk.new2 w (.cells #[.bool false, .int .i64 i1, .bool s1, .slice A1 l1 c1, .slice B1 k1 d1, .int .i64 i2, .bool s2, .slice A2 l2 c2, .slice B2 k2 d2] 70) 70 #[.bool false, .int .i64 0, .bool false, .slice none 0 0, .slice none 0 0, .int .i64 0, .bool false, .slice none 0 0, .slice none 0 0]
  have hbI := (Blk.new w 70 #[.bool false, .int .i64 i1, .bool s1, .slice A1 l1 c1, .slice B1 k1 d1, .int .i64 i2, .bool s2, .slice A2 l2 c2, .slice B2 k2 d2]).ext ((Ext.refl _).alloc (.cells #[.bool false, .int .i64 0, .bool false, .slice none 0 0, .slice none 0 0, .int .i64 0, .bool false, .slice none 0 0, .slice none 0 0] 70))
  have hEw : Ext w ((w.alloc (.cells #[.bool false, .int .i64 i1, .bool s1, .slice A1 l1 c1, .slice B1 k1 d1, .int .i64 i2, .bool s2, .slice A2 l2 c2, .slice B2 k2 d2] 70)).alloc (.cells #[.bool false, .int .i64 0, .bool false, .slice none 0 0, .slice none 0 0, .int .i64 0, .bool false, .slice none 0 0, .slice none 0 0] 70)) := ((Ext.refl w).alloc _).alloc _
  obtain ⟨G, hG⟩ : ∃ G, G = w.heap.size + 1 := ⟨_, rfl⟩
  rw [← hG] at hbG
  have hGw : w.heap.size ≤ G := by omega
  have HGS := Lib.hid (show w.heap.size + 1 = G from hG.symm)
  have hr1 := h1.ext hEw
  have hr2 := h2.ext hEw
  clear hG h1 h2
  go_enter Try.func64, Try.ntmps64
  go_wp2_with fail
  refine (HM1.out _ hr1).mono ?_
  rintro e w1 ⟨A3, l3, c3, B3, k3, d3, rfl, h3, hE1⟩
  rw [HGS.out]
  clear HGS
  have hE1' : Ext w1 (w1.alloc (.cells #[.int .i64 i3, .bool s3, .slice A3 l3 c3, .slice B3 k3 d3] 68)) := (Ext.refl w1).alloc _
  have hbP := Blk.new w1 68 #[.int .i64 i3, .bool s3, .slice A3 l3 c3, .slice B3 k3 d3]
  have hbG1 := (hbG.ext hE1).ext hE1'
  have hbI1 := (hbI.ext hE1).ext hE1'
  have hr11 := (hr1.ext hE1).ext hE1'
  have hr21 := (hr2.ext hE1).ext hE1'
  have h31 := h3.ext hE1'
  have hEw1 := (hEw.trans hE1).trans hE1'
  have hlt1 : w.heap.size < w1.heap.size := by have a := hbI.lt; have b := hE1.size; omega
  have hlt2 : G < w1.heap.size := by have a := hbG.lt; have b := hE1.size; omega
  have hlt3 : w.heap.size ≤ w1.heap.size := by omega
  clear hbG hbI hr1 hr2 h3 hEw hE1 hE1'
  have i_0 : (w1.alloc (.cells #[.int .i64 i3, .bool s3, .slice A3 l3 c3, .slice B3 k3 d3] 68)).cell? ⟨w.heap.size, 0, none⟩ = some (.bool false) := hbI1.cell 0
  have i_1 : (w1.alloc (.cells #[.int .i64 i3, .bool s3, .slice A3 l3 c3, .slice B3 k3 d3] 68)).cell? ⟨w.heap.size, 1, none⟩ = some (.int .i64 i1) := hbI1.cell 1
  have i_2 : (w1.alloc (.cells #[.int .i64 i3, .bool s3, .slice A3 l3 c3, .slice B3 k3 d3] 68)).cell? ⟨w.heap.size, 2, none⟩ = some (.bool s1) := hbI1.cell 2
  have i_3 : (w1.alloc (.cells #[.int .i64 i3, .bool s3, .slice A3 l3 c3, .slice B3 k3 d3] 68)).cell? ⟨w.heap.size, 3, none⟩ = some (.slice A1 l1 c1) := hbI1.cell 3
  have i_4 : (w1.alloc (.cells #[.int .i64 i3, .bool s3, .slice A3 l3 c3, .slice B3 k3 d3] 68)).cell? ⟨w.heap.size, 4, none⟩ = some (.slice B1 k1 d1) := hbI1.cell 4
  have i_5 : (w1.alloc (.cells #[.int .i64 i3, .bool s3, .slice A3 l3 c3, .slice B3 k3 d3] 68)).cell? ⟨w.heap.size, 5, none⟩ = some (.int .i64 i2) := hbI1.cell 5
  have i_6 : (w1.alloc (.cells #[.int .i64 i3, .bool s3, .slice A3 l3 c3, .slice B3 k3 d3] 68)).cell? ⟨w.heap.size, 6, none⟩ = some (.bool s2) := hbI1.cell 6
  have i_7 : (w1.alloc (.cells #[.int .i64 i3, .bool s3, .slice A3 l3 c3, .slice B3 k3 d3] 68)).cell? ⟨w.heap.size, 7, none⟩ = some (.slice A2 l2 c2) := hbI1.cell 7
  have i_8 : (w1.alloc (.cells #[.int .i64 i3, .bool s3, .slice A3 l3 c3, .slice B3 k3 d3] 68)).cell? ⟨w.heap.size, 8, none⟩ = some (.slice B2 k2 d2) := hbI1.cell 8
  go_wp2_with fail
  clear i_0 i_1 i_2 i_3 i_4 i_5 i_6 i_7 i_8
  refine (HM2.out _ hr21).mono ?_
  rintro e w2 ⟨A4, l4, c4, B4, k4, d4, rfl, h4, hE2⟩
  have hE2' : Ext (w1.alloc (.cells #[.int .i64 i3, .bool s3, .slice A3 l3 c3, .slice B3 k3 d3] 68)) (w2.alloc (.cells #[.int .i64 i4, .bool s4, .slice A4 l4 c4, .slice B4 k4 d4] 68)) := hE2.alloc _
  have hst : MZ w.heap.size G w1.heap.size w2.heap.size i1 s1 A1 l1 c1 B1 k1 d1 N1 D1 i2 s2 A2 l2 c2 B2 k2 d2 N2 D2 i3 s3 A3 l3 c3 B3 k3 d3 N3 D3 i4 s4 A4 l4 c4 B4 k4 d4 N4 D4 w (w2.alloc (.cells #[.int .i64 i4, .bool s4, .slice A4 l4 c4, .slice B4 k4 d4] 68)) :=
    ⟨hbI1.ext hE2', hbG1.ext hE2', hbP.ext hE2', Blk.new w2 _ _, hr11.ext hE2', hr21.ext hE2', h31.ext hE2', h4.ext ((Ext.refl w2).alloc _), hEw1.trans hE2', hlt3, hlt1, hlt2, by have a := hbP.lt; have b := hE2.size; omega⟩
  clear hbI1 hbG1 hbP hr11 hr21 h31 h4 hEw1 hE2 hE2' hlt1 hlt2 hlt3
  have i_0 : (w2.alloc (.cells #[.int .i64 i4, .bool s4, .slice A4 l4 c4, .slice B4 k4 d4] 68)).cell? ⟨w.heap.size, 0, none⟩ = some (.bool false) := hst.hH.cell 0
  have i_1 : (w2.alloc (.cells #[.int .i64 i4, .bool s4, .slice A4 l4 c4, .slice B4 k4 d4] 68)).cell? ⟨w.heap.size, 1, none⟩ = some (.int .i64 i1) := hst.hH.cell 1
  have i_2 : (w2.alloc (.cells #[.int .i64 i4, .bool s4, .slice A4 l4 c4, .slice B4 k4 d4] 68)).cell? ⟨w.heap.size, 2, none⟩ = some (.bool s1) := hst.hH.cell 2
  have i_3 : (w2.alloc (.cells #[.int .i64 i4, .bool s4, .slice A4 l4 c4, .slice B4 k4 d4] 68)).cell? ⟨w.heap.size, 3, none⟩ = some (.slice A1 l1 c1) := hst.hH.cell 3
  have i_4 : (w2.alloc (.cells #[.int .i64 i4, .bool s4, .slice A4 l4 c4, .slice B4 k4 d4] 68)).cell? ⟨w.heap.size, 4, none⟩ = some (.slice B1 k1 d1) := hst.hH.cell 4
  have i_5 : (w2.alloc (.cells #[.int .i64 i4, .bool s4, .slice A4 l4 c4, .slice B4 k4 d4] 68)).cell? ⟨w.heap.size, 5, none⟩ = some (.int .i64 i2) := hst.hH.cell 5
  have i_6 : (w2.alloc (.cells #[.int .i64 i4, .bool s4, .slice A4 l4 c4, .slice B4 k4 d4] 68)).cell? ⟨w.heap.size, 6, none⟩ = some (.bool s2) := hst.hH.cell 6
  have i_7 : (w2.alloc (.cells #[.int .i64 i4, .bool s4, .slice A4 l4 c4, .slice B4 k4 d4] 68)).cell? ⟨w.heap.size, 7, none⟩ = some (.slice A2 l2 c2) := hst.hH.cell 7
  have i_8 : (w2.alloc (.cells #[.int .i64 i4, .bool s4, .slice A4 l4 c4, .slice B4 k4 d4] 68)).cell? ⟨w.heap.size, 8, none⟩ = some (.slice B2 k2 d2) := hst.hH.cell 8
  have p_0 : (w2.alloc (.cells #[.int .i64 i4, .bool s4, .slice A4 l4 c4, .slice B4 k4 d4] 68)).cell? ⟨w1.heap.size, 0, none⟩ = some (.int .i64 i3) := hst.hP.cell 0
  have p_1 : (w2.alloc (.cells #[.int .i64 i4, .bool s4, .slice A4 l4 c4, .slice B4 k4 d4] 68)).cell? ⟨w1.heap.size, 1, none⟩ = some (.bool s3) := hst.hP.cell 1
  have p_2 : (w2.alloc (.cells #[.int .i64 i4, .bool s4, .slice A4 l4 c4, .slice B4 k4 d4] 68)).cell? ⟨w1.heap.size, 2, none⟩ = some (.slice A3 l3 c3) := hst.hP.cell 2
  have p_3 : (w2.alloc (.cells #[.int .i64 i4, .bool s4, .slice A4 l4 c4, .slice B4 k4 d4] 68)).cell? ⟨w1.heap.size, 3, none⟩ = some (.slice B3 k3 d3) := hst.hP.cell 3
  have q_0 : (w2.alloc (.cells #[.int .i64 i4, .bool s4, .slice A4 l4 c4, .slice B4 k4 d4] 68)).cell? ⟨w2.heap.size, 0, none⟩ = some (.int .i64 i4) := hst.hQ.cell 0
  have q_1 : (w2.alloc (.cells #[.int .i64 i4, .bool s4, .slice A4 l4 c4, .slice B4 k4 d4] 68)).cell? ⟨w2.heap.size, 1, none⟩ = some (.bool s4) := hst.hQ.cell 1
  have q_2 : (w2.alloc (.cells #[.int .i64 i4, .bool s4, .slice A4 l4 c4, .slice B4 k4 d4] 68)).cell? ⟨w2.heap.size, 2, none⟩ = some (.slice A4 l4 c4) := hst.hQ.cell 2
  have q_3 : (w2.alloc (.cells #[.int .i64 i4, .bool s4, .slice A4 l4 c4, .slice B4 k4 d4] 68)).cell? ⟨w2.heap.size, 3, none⟩ = some (.slice B4 k4 d4) := hst.hQ.cell 3
  have g_0 : (w2.alloc (.cells #[.int .i64 i4, .bool s4, .slice A4 l4 c4, .slice B4 k4 d4] 68)).cell? ⟨G, 0, none⟩ = some (.bool false) := hst.hG.cell 0
  have g_1 : (w2.alloc (.cells #[.int .i64 i4, .bool s4, .slice A4 l4 c4, .slice B4 k4 d4] 68)).cell? ⟨G, 1, none⟩ = some (.int .i64 0) := hst.hG.cell 1
  have g_2 : (w2.alloc (.cells #[.int .i64 i4, .bool s4, .slice A4 l4 c4, .slice B4 k4 d4] 68)).cell? ⟨G, 2, none⟩ = some (.bool false) := hst.hG.cell 2
  have g_3 : (w2.alloc (.cells #[.int .i64 i4, .bool s4, .slice A4 l4 c4, .slice B4 k4 d4] 68)).cell? ⟨G, 3, none⟩ = some (.slice none 0 0) := hst.hG.cell 3
  have g_4 : (w2.alloc (.cells #[.int .i64 i4, .bool s4, .slice A4 l4 c4, .slice B4 k4 d4] 68)).cell? ⟨G, 4, none⟩ = some (.slice none 0 0) := hst.hG.cell 4
  have g_5 : (w2.alloc (.cells #[.int .i64 i4, .bool s4, .slice A4 l4 c4, .slice B4 k4 d4] 68)).cell? ⟨G, 5, none⟩ = some (.int .i64 0) := hst.hG.cell 5
  have g_6 : (w2.alloc (.cells #[.int .i64 i4, .bool s4, .slice A4 l4 c4, .slice B4 k4 d4] 68)).cell? ⟨G, 6, none⟩ = some (.bool false) := hst.hG.cell 6
  have g_7 : (w2.alloc (.cells #[.int .i64 i4, .bool s4, .slice A4 l4 c4, .slice B4 k4 d4] 68)).cell? ⟨G, 7, none⟩ = some (.slice none 0 0) := hst.hG.cell 7
  have g_8 : (w2.alloc (.cells #[.int .i64 i4, .bool s4, .slice A4 l4 c4, .slice B4 k4 d4] 68)).cell? ⟨G, 8, none⟩ = some (.slice none 0 0) := hst.hG.cell 8
  have fg_0 : (w2.alloc (.cells #[.int .i64 i4, .bool s4, .slice A4 l4 c4, .slice B4 k4 d4] 68)).frozen? ⟨G, 0, none⟩ = false := hst.hG.frozen 0
  have fg_1 : (w2.alloc (.cells #[.int .i64 i4, .bool s4, .slice A4 l4 c4, .slice B4 k4 d4] 68)).frozen? ⟨G, 1, none⟩ = false := hst.hG.frozen 1
  have fg_2 : (w2.alloc (.cells #[.int .i64 i4, .bool s4, .slice A4 l4 c4, .slice B4 k4 d4] 68)).frozen? ⟨G, 2, none⟩ = false := hst.hG.frozen 2
  have fg_3 : (w2.alloc (.cells #[.int .i64 i4, .bool s4, .slice A4 l4 c4, .slice B4 k4 d4] 68)).frozen? ⟨G, 3, none⟩ = false := hst.hG.frozen 3
  have fg_4 : (w2.alloc (.cells #[.int .i64 i4, .bool s4, .slice A4 l4 c4, .slice B4 k4 d4] 68)).frozen? ⟨G, 4, none⟩ = false := hst.hG.frozen 4
  have fg_5 : (w2.alloc (.cells #[.int .i64 i4, .bool s4, .slice A4 l4 c4, .slice B4 k4 d4] 68)).frozen? ⟨G, 5, none⟩ = false := hst.hG.frozen 5
  have fg_6 : (w2.alloc (.cells #[.int .i64 i4, .bool s4, .slice A4 l4 c4, .slice B4 k4 d4] 68)).frozen? ⟨G, 6, none⟩ = false := hst.hG.frozen 6
  have fg_7 : (w2.alloc (.cells #[.int .i64 i4, .bool s4, .slice A4 l4 c4, .slice B4 k4 d4] 68)).frozen? ⟨G, 7, none⟩ = false := hst.hG.frozen 7
  have fg_8 : (w2.alloc (.cells #[.int .i64 i4, .bool s4, .slice A4 l4 c4, .slice B4 k4 d4] 68)).frozen? ⟨G, 8, none⟩ = false := hst.hG.frozen 8
  have fp_0 : (w2.alloc (.cells #[.int .i64 i4, .bool s4, .slice A4 l4 c4, .slice B4 k4 d4] 68)).frozen? ⟨w1.heap.size, 0, none⟩ = false := hst.hP.frozen 0
  have fp_1 : (w2.alloc (.cells #[.int .i64 i4, .bool s4, .slice A4 l4 c4, .slice B4 k4 d4] 68)).frozen? ⟨w1.heap.size, 1, none⟩ = false := hst.hP.frozen 1
  have fp_2 : (w2.alloc (.cells #[.int .i64 i4, .bool s4, .slice A4 l4 c4, .slice B4 k4 d4] 68)).frozen? ⟨w1.heap.size, 2, none⟩ = false := hst.hP.frozen 2
  have fp_3 : (w2.alloc (.cells #[.int .i64 i4, .bool s4, .slice A4 l4 c4, .slice B4 k4 d4] 68)).frozen? ⟨w1.heap.size, 3, none⟩ = false := hst.hP.frozen 3
  have fq_0 : (w2.alloc (.cells #[.int .i64 i4, .bool s4, .slice A4 l4 c4, .slice B4 k4 d4] 68)).frozen? ⟨w2.heap.size, 0, none⟩ = false := hst.hQ.frozen 0
  have fq_1 : (w2.alloc (.cells #[.int .i64 i4, .bool s4, .slice A4 l4 c4, .slice B4 k4 d4] 68)).frozen? ⟨w2.heap.size, 1, none⟩ = false := hst.hQ.frozen 1
  have fq_2 : (w2.alloc (.cells #[.int .i64 i4, .bool s4, .slice A4 l4 c4, .slice B4 k4 d4] 68)).frozen? ⟨w2.heap.size, 2, none⟩ = false := hst.hQ.frozen 2
  have fq_3 : (w2.alloc (.cells #[.int .i64 i4, .bool s4, .slice A4 l4 c4, .slice B4 k4 d4] 68)).frozen? ⟨w2.heap.size, 3, none⟩ = false := hst.hQ.frozen 3
  have lG : G < (w2.alloc (.cells #[.int .i64 i4, .bool s4, .slice A4 l4 c4, .slice B4 k4 d4] 68)).heap.size := hst.hG.lt
  have lP : w1.heap.size < (w2.alloc (.cells #[.int .i64 i4, .bool s4, .slice A4 l4 c4, .slice B4 k4 d4] 68)).heap.size := hst.hP.lt
  have lQ : w2.heap.size < (w2.alloc (.cells #[.int .i64 i4, .bool s4, .slice A4 l4 c4, .slice B4 k4 d4] 68)).heap.size := hst.hQ.lt
  go_wp2_with fail
  clear i_0 i_1 i_2 i_3 i_4 i_5 i_6 i_7 i_8 p_0 p_1 p_2 p_3 q_0 q_1 q_2 q_3 g_0 g_1 g_2 g_3 g_4 g_5 g_6 g_7 g_8 fg_0 fg_1 fg_2 fg_3 fg_4 fg_5 fg_6 fg_7 fg_8 fp_0 fp_1 fp_2 fp_3 fq_0 fq_1 fq_2 fq_3 lG lP lQ
  refine (HC.out _ _ _ _ _ _ _ _ _ _ _ _ _ hst.r3 hst.r4).mono ?_
  rintro e w3 ⟨rfl, hE3⟩
  have hst3 := hst.ext hE3
  clear hst hE3
  have i_0 : (w3).cell? ⟨w.heap.size, 0, none⟩ = some (.bool false) := hst3.hH.cell 0
  have i_1 : (w3).cell? ⟨w.heap.size, 1, none⟩ = some (.int .i64 i1) := hst3.hH.cell 1
  have i_2 : (w3).cell? ⟨w.heap.size, 2, none⟩ = some (.bool s1) := hst3.hH.cell 2
  have i_3 : (w3).cell? ⟨w.heap.size, 3, none⟩ = some (.slice A1 l1 c1) := hst3.hH.cell 3
  have i_4 : (w3).cell? ⟨w.heap.size, 4, none⟩ = some (.slice B1 k1 d1) := hst3.hH.cell 4
  have i_5 : (w3).cell? ⟨w.heap.size, 5, none⟩ = some (.int .i64 i2) := hst3.hH.cell 5
  have i_6 : (w3).cell? ⟨w.heap.size, 6, none⟩ = some (.bool s2) := hst3.hH.cell 6
  have i_7 : (w3).cell? ⟨w.heap.size, 7, none⟩ = some (.slice A2 l2 c2) := hst3.hH.cell 7
  have i_8 : (w3).cell? ⟨w.heap.size, 8, none⟩ = some (.slice B2 k2 d2) := hst3.hH.cell 8
  have p_0 : (w3).cell? ⟨w1.heap.size, 0, none⟩ = some (.int .i64 i3) := hst3.hP.cell 0
  have p_1 : (w3).cell? ⟨w1.heap.size, 1, none⟩ = some (.bool s3) := hst3.hP.cell 1
  have p_2 : (w3).cell? ⟨w1.heap.size, 2, none⟩ = some (.slice A3 l3 c3) := hst3.hP.cell 2
  have p_3 : (w3).cell? ⟨w1.heap.size, 3, none⟩ = some (.slice B3 k3 d3) := hst3.hP.cell 3
  have q_0 : (w3).cell? ⟨w2.heap.size, 0, none⟩ = some (.int .i64 i4) := hst3.hQ.cell 0
  have q_1 : (w3).cell? ⟨w2.heap.size, 1, none⟩ = some (.bool s4) := hst3.hQ.cell 1
  have q_2 : (w3).cell? ⟨w2.heap.size, 2, none⟩ = some (.slice A4 l4 c4) := hst3.hQ.cell 2
  have q_3 : (w3).cell? ⟨w2.heap.size, 3, none⟩ = some (.slice B4 k4 d4) := hst3.hQ.cell 3
  have g_0 : (w3).cell? ⟨G, 0, none⟩ = some (.bool false) := hst3.hG.cell 0
  have g_1 : (w3).cell? ⟨G, 1, none⟩ = some (.int .i64 0) := hst3.hG.cell 1
  have g_2 : (w3).cell? ⟨G, 2, none⟩ = some (.bool false) := hst3.hG.cell 2
  have g_3 : (w3).cell? ⟨G, 3, none⟩ = some (.slice none 0 0) := hst3.hG.cell 3
  have g_4 : (w3).cell? ⟨G, 4, none⟩ = some (.slice none 0 0) := hst3.hG.cell 4
  have g_5 : (w3).cell? ⟨G, 5, none⟩ = some (.int .i64 0) := hst3.hG.cell 5
  have g_6 : (w3).cell? ⟨G, 6, none⟩ = some (.bool false) := hst3.hG.cell 6
  have g_7 : (w3).cell? ⟨G, 7, none⟩ = some (.slice none 0 0) := hst3.hG.cell 7
  have g_8 : (w3).cell? ⟨G, 8, none⟩ = some (.slice none 0 0) := hst3.hG.cell 8
  have fg_0 : (w3).frozen? ⟨G, 0, none⟩ = false := hst3.hG.frozen 0
  have fg_1 : (w3).frozen? ⟨G, 1, none⟩ = false := hst3.hG.frozen 1
  have fg_2 : (w3).frozen? ⟨G, 2, none⟩ = false := hst3.hG.frozen 2
  have fg_3 : (w3).frozen? ⟨G, 3, none⟩ = false := hst3.hG.frozen 3
  have fg_4 : (w3).frozen? ⟨G, 4, none⟩ = false := hst3.hG.frozen 4
  have fg_5 : (w3).frozen? ⟨G, 5, none⟩ = false := hst3.hG.frozen 5
  have fg_6 : (w3).frozen? ⟨G, 6, none⟩ = false := hst3.hG.frozen 6
  have fg_7 : (w3).frozen? ⟨G, 7, none⟩ = false := hst3.hG.frozen 7
  have fg_8 : (w3).frozen? ⟨G, 8, none⟩ = false := hst3.hG.frozen 8
  have fp_0 : (w3).frozen? ⟨w1.heap.size, 0, none⟩ = false := hst3.hP.frozen 0
  have fp_1 : (w3).frozen? ⟨w1.heap.size, 1, none⟩ = false := hst3.hP.frozen 1
  have fp_2 : (w3).frozen? ⟨w1.heap.size, 2, none⟩ = false := hst3.hP.frozen 2
  have fp_3 : (w3).frozen? ⟨w1.heap.size, 3, none⟩ = false := hst3.hP.frozen 3
  have fq_0 : (w3).frozen? ⟨w2.heap.size, 0, none⟩ = false := hst3.hQ.frozen 0
  have fq_1 : (w3).frozen? ⟨w2.heap.size, 1, none⟩ = false := hst3.hQ.frozen 1
  have fq_2 : (w3).frozen? ⟨w2.heap.size, 2, none⟩ = false := hst3.hQ.frozen 2
  have fq_3 : (w3).frozen? ⟨w2.heap.size, 3, none⟩ = false := hst3.hQ.frozen 3
  have lG : G < (w3).heap.size := hst3.hG.lt
  have lP : w1.heap.size < (w3).heap.size := hst3.hP.lt
  have lQ : w2.heap.size < (w3).heap.size := hst3.hQ.lt
  go_wp2_with fail
  clear i_0 i_1 i_2 i_3 i_4 i_5 i_6 i_7 i_8 p_0 p_1 p_2 p_3 q_0 q_1 q_2 q_3 g_0 g_1 g_2 g_3 g_4 g_5 g_6 g_7 g_8 fg_0 fg_1 fg_2 fg_3 fg_4 fg_5 fg_6 fg_7 fg_8 fp_0 fp_1 fp_2 fp_3 fq_0 fq_1 fq_2 fq_3 lG lP lQ
  refine (HSA.out _ hst3.r1).mono ?_
  rintro e w5 ⟨rfl, hE5⟩
  have hst5 := hst3.ext hE5
  clear hst3 hE5
  have i_0 : (w5).cell? ⟨w.heap.size, 0, none⟩ = some (.bool false) := hst5.hH.cell 0
  have i_1 : (w5).cell? ⟨w.heap.size, 1, none⟩ = some (.int .i64 i1) := hst5.hH.cell 1
  have i_2 : (w5).cell? ⟨w.heap.size, 2, none⟩ = some (.bool s1) := hst5.hH.cell 2
  have i_3 : (w5).cell? ⟨w.heap.size, 3, none⟩ = some (.slice A1 l1 c1) := hst5.hH.cell 3
  have i_4 : (w5).cell? ⟨w.heap.size, 4, none⟩ = some (.slice B1 k1 d1) := hst5.hH.cell 4
  have i_5 : (w5).cell? ⟨w.heap.size, 5, none⟩ = some (.int .i64 i2) := hst5.hH.cell 5
  have i_6 : (w5).cell? ⟨w.heap.size, 6, none⟩ = some (.bool s2) := hst5.hH.cell 6
  have i_7 : (w5).cell? ⟨w.heap.size, 7, none⟩ = some (.slice A2 l2 c2) := hst5.hH.cell 7
  have i_8 : (w5).cell? ⟨w.heap.size, 8, none⟩ = some (.slice B2 k2 d2) := hst5.hH.cell 8
  have p_0 : (w5).cell? ⟨w1.heap.size, 0, none⟩ = some (.int .i64 i3) := hst5.hP.cell 0
  have p_1 : (w5).cell? ⟨w1.heap.size, 1, none⟩ = some (.bool s3) := hst5.hP.cell 1
  have p_2 : (w5).cell? ⟨w1.heap.size, 2, none⟩ = some (.slice A3 l3 c3) := hst5.hP.cell 2
  have p_3 : (w5).cell? ⟨w1.heap.size, 3, none⟩ = some (.slice B3 k3 d3) := hst5.hP.cell 3
  have q_0 : (w5).cell? ⟨w2.heap.size, 0, none⟩ = some (.int .i64 i4) := hst5.hQ.cell 0
  have q_1 : (w5).cell? ⟨w2.heap.size, 1, none⟩ = some (.bool s4) := hst5.hQ.cell 1
  have q_2 : (w5).cell? ⟨w2.heap.size, 2, none⟩ = some (.slice A4 l4 c4) := hst5.hQ.cell 2
  have q_3 : (w5).cell? ⟨w2.heap.size, 3, none⟩ = some (.slice B4 k4 d4) := hst5.hQ.cell 3
  have g_0 : (w5).cell? ⟨G, 0, none⟩ = some (.bool false) := hst5.hG.cell 0
  have g_1 : (w5).cell? ⟨G, 1, none⟩ = some (.int .i64 0) := hst5.hG.cell 1
  have g_2 : (w5).cell? ⟨G, 2, none⟩ = some (.bool false) := hst5.hG.cell 2
  have g_3 : (w5).cell? ⟨G, 3, none⟩ = some (.slice none 0 0) := hst5.hG.cell 3
  have g_4 : (w5).cell? ⟨G, 4, none⟩ = some (.slice none 0 0) := hst5.hG.cell 4
  have g_5 : (w5).cell? ⟨G, 5, none⟩ = some (.int .i64 0) := hst5.hG.cell 5
  have g_6 : (w5).cell? ⟨G, 6, none⟩ = some (.bool false) := hst5.hG.cell 6
  have g_7 : (w5).cell? ⟨G, 7, none⟩ = some (.slice none 0 0) := hst5.hG.cell 7
  have g_8 : (w5).cell? ⟨G, 8, none⟩ = some (.slice none 0 0) := hst5.hG.cell 8
  have fg_0 : (w5).frozen? ⟨G, 0, none⟩ = false := hst5.hG.frozen 0
  have fg_1 : (w5).frozen? ⟨G, 1, none⟩ = false := hst5.hG.frozen 1
  have fg_2 : (w5).frozen? ⟨G, 2, none⟩ = false := hst5.hG.frozen 2
  have fg_3 : (w5).frozen? ⟨G, 3, none⟩ = false := hst5.hG.frozen 3
  have fg_4 : (w5).frozen? ⟨G, 4, none⟩ = false := hst5.hG.frozen 4
  have fg_5 : (w5).frozen? ⟨G, 5, none⟩ = false := hst5.hG.frozen 5
  have fg_6 : (w5).frozen? ⟨G, 6, none⟩ = false := hst5.hG.frozen 6
  have fg_7 : (w5).frozen? ⟨G, 7, none⟩ = false := hst5.hG.frozen 7
  have fg_8 : (w5).frozen? ⟨G, 8, none⟩ = false := hst5.hG.frozen 8
  have fp_0 : (w5).frozen? ⟨w1.heap.size, 0, none⟩ = false := hst5.hP.frozen 0
  have fp_1 : (w5).frozen? ⟨w1.heap.size, 1, none⟩ = false := hst5.hP.frozen 1
  have fp_2 : (w5).frozen? ⟨w1.heap.size, 2, none⟩ = false := hst5.hP.frozen 2
  have fp_3 : (w5).frozen? ⟨w1.heap.size, 3, none⟩ = false := hst5.hP.frozen 3
  have fq_0 : (w5).frozen? ⟨w2.heap.size, 0, none⟩ = false := hst5.hQ.frozen 0
  have fq_1 : (w5).frozen? ⟨w2.heap.size, 1, none⟩ = false := hst5.hQ.frozen 1
  have fq_2 : (w5).frozen? ⟨w2.heap.size, 2, none⟩ = false := hst5.hQ.frozen 2
  have fq_3 : (w5).frozen? ⟨w2.heap.size, 3, none⟩ = false := hst5.hQ.frozen 3
  have lG : G < (w5).heap.size := hst5.hG.lt
  have lP : w1.heap.size < (w5).heap.size := hst5.hP.lt
  have lQ : w2.heap.size < (w5).heap.size := hst5.hQ.lt
  go_wp2_with fail
  exact bodyPost_ret (v := .agg #[.bool false, .int .i64 i3, .bool s3, .slice A3 l3 c3, .slice B3 k3 d3, .int .i64 i4, .bool s4, .slice A4 l4 c4, .slice B4 k4 d4]) (by simp [results, Try.results64, go_sem, lG, g_0, g_1, g_2, g_3, g_4, g_5, g_6, g_7, g_8]) rfl
    ⟨_, _, _, _, _, _, _, _, _, _, _, _, rfl, (RatBox.mk hst5.r3 hst5.hG (NoU.of rfl)).set9 rfl rfl rfl rfl rfl rfl rfl rfl rfl, (RatBox.mk hst5.r4 hst5.hG (NoU.of rfl)).set9 rfl rfl rfl rfl rfl rfl rfl rfl rfl, hst5.ex.set9 hGw _ _ _ _ _ _ _ _ _⟩

set_option maxHeartbeats 4000000 in
theorem size_nb (i1 : Int) (s1 : Bool) (A1 : Option Addr) (l1 c1 : Nat) (B1 : Option Addr) (k1 d1 N1 D1 : Nat) (i2 : Int) (s2 : Bool) (A2 : Option Addr) (l2 c2 : Nat) (B2 : Option Addr) (k2 d2 N2 D2 : Nat) (i3 : Int) (s3 : Bool) (N3 D3 : Nat) (i4 : Int) (s4 : Bool) (N4 D4 : Nat) (x y1 y2 : Int) (F E : Nat) (w : World) (h1 : RatAt w A1 l1 c1 B1 k1 d1 N1 D1) (h2 : RatAt w A2 l2 c2 B2 k2 d2 N2 D2)
    (HM1 : Hid (∀ w, RatAt w A1 l1 c1 B1 k1 d1 N1 D1 → Calls Try.prog 94 #[.agg #[.int .i64 i1, .bool s1, .slice A1 l1 c1, .slice B1 k1 d1]] w (RetEnd i3 s3 N3 D3 w)))
    (HM2 : Hid (∀ w, RatAt w A2 l2 c2 B2 k2 d2 N2 D2 → Calls Try.prog 94 #[.agg #[.int .i64 i2, .bool s2, .slice A2 l2 c2, .slice B2 k2 d2]] w (RetEnd i4 s4 N4 D4 w)))
    (HC : Hid (∀ A3 l3 c3 B3 k3 d3 A4 l4 c4 B4 k4 d4 w, RatAt w A3 l3 c3 B3 k3 d3 N3 D3 → RatAt w A4 l4 c4 B4 k4 d4 N4 D4 → Calls Try.prog 65 #[.agg #[.int .i64 i3, .bool s3, .slice A3 l3 c3, .slice B3 k3 d3], .agg #[.int .i64 i4, .bool s4, .slice A4 l4 c4, .slice B4 k4 d4]] w fun e w' => e = .returned (.int .i64 x) ∧ Ext w w'))
    (HSA : Hid (∀ w, RatAt w A1 l1 c1 B1 k1 d1 N1 D1 → Calls Try.prog 95 #[.agg #[.int .i64 i1, .bool s1, .slice A1 l1 c1, .slice B1 k1 d1]] w fun e w' => e = .returned (.int .i64 y1) ∧ Ext w w'))
    (HSB : Hid (∀ w, RatAt w A2 l2 c2 B2 k2 d2 N2 D2 → Calls Try.prog 95 #[.agg #[.int .i64 i2, .bool s2, .slice A2 l2 c2, .slice B2 k2 d2]] w fun e w' => e = .returned (.int .i64 y2) ∧ Ext w w'))
    (HF : Hid (∀ w, Calls Try.prog 92 #[.int .i64 0] w (RetEnd 0 false F E w)))
    (hx : decide (0 < x) = false) (hy1 : decide (y1 ≤ 0) = true) (hy2 : decide (0 ≤ y2) = false) :
    Calls Try.prog 64 #[.agg #[.bool false, .int .i64 i1, .bool s1, .slice A1 l1 c1, .slice B1 k1 d1, .int .i64 i2, .bool s2, .slice A2 l2 c2, .slice B2 k2 d2]] w (RetSet false i3 s3 N3 D3 i4 s4 N4 D4 w) := by
  have hbG := Blk.new2 w (.cells #[.bool false, .int .i64 i1, .bool s1, .slice A1 l1 c1, .slice B1 k1 d1, .int .i64 i2, .bool s2, .slice A2 l2 c2, .slice B2 k2 d2] 70) 70 #[.bool false, .int .i64 0, .bool false, .slice none 0 0, .slice none 0 0, .int .i64 0, .bool false, .slice none 0 0, .slice none 0 0]
  have hbI := (Blk.new w 70 #[.bool false, .int .i64 i1, .bool s1, .slice A1 l1 c1, .slice B1 k1 d1, .int .i64 i2, .bool s2, .slice A2 l2 c2, .slice B2 k2 d2]).ext ((Ext.refl _).alloc (.cells #[.bool false, .int .i64 0, .bool false, .slice none 0 0, .slice none 0 0, .int .i64 0, .bool false, .slice none 0 0, .slice none 0 0] 70))
  have hEw : Ext w ((w.alloc (.cells #[.bool false, .int .i64 i1, .bool s1, .slice A1 l1 c1, .slice B1 k1 d1, .int .i64 i2, .bool s2, .slice A2 l2 c2, .slice B2 k2 d2] 70)).alloc (.cells #[.bool false, .int .i64 0, .bool false, .slice none 0 0, .slice none 0 0, .int .i64 0, .bool false, .slice none 0 0, .slice none 0 0] 70)) := ((Ext.refl w).alloc _).alloc _
  obtain ⟨G, hG⟩ : ∃ G, G = w.heap.size + 1 := ⟨_, rfl⟩
  rw [← hG] at hbG
  have hGw : w.heap.size ≤ G := by omega
  have HGS := Lib.hid (show w.heap.size + 1 = G from hG.symm)
  have hr1 := h1.ext hEw
  have hr2 := h2.ext hEw
  clear hG h1 h2
  go_enter Try.func64, Try.ntmps64
  go_wp2_with fail
  refine (HM1.out _ hr1).mono ?_
  rintro e w1 ⟨A3, l3, c3, B3, k3, d3, rfl, h3, hE1⟩
  rw [HGS.out]
  clear HGS
  have hE1' : Ext w1 (w1.alloc (.cells #[.int .i64 i3, .bool s3, .slice A3 l3 c3, .slice B3 k3 d3] 68)) := (Ext.refl w1).alloc _
  have hbP := Blk.new w1 68 #[.int .i64 i3, .bool s3, .slice A3 l3 c3, .slice B3 k3 d3]
  have hbG1 := (hbG.ext hE1).ext hE1'
  have hbI1 := (hbI.ext hE1).ext hE1'
  have hr11 := (hr1.ext hE1).ext hE1'
  have hr21 := (hr2.ext hE1).ext hE1'
  have h31 := h3.ext hE1'
  have hEw1 := (hEw.trans hE1).trans hE1'
  have hlt1 : w.heap.size < w1.heap.size := by have a := hbI.lt; have b := hE1.size; omega
  have hlt2 : G < w1.heap.size := by have a := hbG.lt; have b := hE1.size; omega
  have hlt3 : w.heap.size ≤ w1.heap.size := by omega
  clear hbG hbI hr1 hr2 h3 hEw hE1 hE1'
  have i_0 : (w1.alloc (.cells #[.int .i64 i3, .bool s3, .slice A3 l3 c3, .slice B3 k3 d3] 68)).cell? ⟨w.heap.size, 0, none⟩ = some (.bool false) := hbI1.cell 0
  have i_1 : (w1.alloc (.cells #[.int .i64 i3, .bool s3, .slice A3 l3 c3, .slice B3 k3 d3] 68)).cell? ⟨w.heap.size, 1, none⟩ = some (.int .i64 i1) := hbI1.cell 1
  have i_2 : (w1.alloc (.cells #[.int .i64 i3, .bool s3, .slice A3 l3 c3, .slice B3 k3 d3] 68)).cell? ⟨w.heap.size, 2, none⟩ = some (.bool s1) := hbI1.cell 2
  have i_3 : (w1.alloc (.cells #[.int .i64 i3, .bool s3, .slice A3 l3 c3, .slice B3 k3 d3] 68)).cell? ⟨w.heap.size, 3, none⟩ = some (.slice A1 l1 c1) := hbI1.cell 3
  have i_4 : (w1.alloc (.cells #[.int .i64 i3, .bool s3, .slice A3 l3 c3, .slice B3 k3 d3] 68)).cell? ⟨w.heap.size, 4, none⟩ = some (.slice B1 k1 d1) := hbI1.cell 4
  have i_5 : (w1.alloc (.cells #[.int .i64 i3, .bool s3, .slice A3 l3 c3, .slice B3 k3 d3] 68)).cell? ⟨w.heap.size, 5, none⟩ = some (.int .i64 i2) := hbI1.cell 5
  have i_6 : (w1.alloc (.cells #[.int .i64 i3, .bool s3, .slice A3 l3 c3, .slice B3 k3 d3] 68)).cell? ⟨w.heap.size, 6, none⟩ = some (.bool s2) := hbI1.cell 6
  have i_7 : (w1.alloc (.cells #[.int .i64 i3, .bool s3, .slice A3 l3 c3, .slice B3 k3 d3] 68)).cell? ⟨w.heap.size, 7, none⟩ = some (.slice A2 l2 c2) := hbI1.cell 7
  have i_8 : (w1.alloc (.cells #[.int .i64 i3, .bool s3, .slice A3 l3 c3, .slice B3 k3 d3] 68)).cell? ⟨w.heap.size, 8, none⟩ = some (.slice B2 k2 d2) := hbI1.cell 8
  go_wp2_with fail
  clear i_0 i_1 i_2 i_3 i_4 i_5 i_6 i_7 i_8
  refine (HM2.out _ hr21).mono ?_
  rintro e w2 ⟨A4, l4, c4, B4, k4, d4, rfl, h4, hE2⟩
  have hE2' : Ext (w1.alloc (.cells #[.int .i64 i3, .bool s3, .slice A3 l3 c3, .slice B3 k3 d3] 68)) (w2.alloc (.cells #[.int .i64 i4, .bool s4, .slice A4 l4 c4, .slice B4 k4 d4] 68)) := hE2.alloc _
  have hst : MZ w.heap.size G w1.heap.size w2.heap.size i1 s1 A1 l1 c1 B1 k1 d1 N1 D1 i2 s2 A2 l2 c2 B2 k2 d2 N2 D2 i3 s3 A3 l3 c3 B3 k3 d3 N3 D3 i4 s4 A4 l4 c4 B4 k4 d4 N4 D4 w (w2.alloc (.cells #[.int .i64 i4, .bool s4, .slice A4 l4 c4, .slice B4 k4 d4] 68)) :=
    ⟨hbI1.ext hE2', hbG1.ext hE2', hbP.ext hE2', Blk.new w2 _ _, hr11.ext hE2', hr21.ext hE2', h31.ext hE2', h4.ext ((Ext.refl w2).alloc _), hEw1.trans hE2', hlt3, hlt1, hlt2, by have a := hbP.lt; have b := hE2.size; omega⟩
  clear hbI1 hbG1 hbP hr11 hr21 h31 h4 hEw1 hE2 hE2' hlt1 hlt2 hlt3
  have i_0 : (w2.alloc (.cells #[.int .i64 i4, .bool s4, .slice A4 l4 c4, .slice B4 k4 d4] 68)).cell? ⟨w.heap.size, 0, none⟩ = some (.bool false) := hst.hH.cell 0
  have i_1 : (w2.alloc (.cells #[.int .i64 i4, .bool s4, .slice A4 l4 c4, .slice B4 k4 d4] 68)).cell? ⟨w.heap.size, 1, none⟩ = some (.int .i64 i1) := hst.hH.cell 1
  have i_2 : (w2.alloc (.cells #[.int .i64 i4, .bool s4, .slice A4 l4 c4, .slice B4 k4 d4] 68)).cell? ⟨w.heap.size, 2, none⟩ = some (.bool s1) := hst.hH.cell 2
  have i_3 : (w2.alloc (.cells #[.int .i64 i4, .bool s4, .slice A4 l4 c4, .slice B4 k4 d4] 68)).cell? ⟨w.heap.size, 3, none⟩ = some (.slice A1 l1 c1) := hst.hH.cell 3
  have i_4 : (w2.alloc (.cells #[.int .i64 i4, .bool s4, .slice A4 l4 c4, .slice B4 k4 d4] 68)).cell? ⟨w.heap.size, 4, none⟩ = some (.slice B1 k1 d1) := hst.hH.cell 4
  have i_5 : (w2.alloc (.cells #[.int .i64 i4, .bool s4, .slice A4 l4 c4, .slice B4 k4 d4] 68)).cell? ⟨w.heap.size, 5, none⟩ = some (.int .i64 i2) := hst.hH.cell 5
  have i_6 : (w2.alloc (.cells #[.int .i64 i4, .bool s4, .slice A4 l4 c4, .slice B4 k4 d4] 68)).cell? ⟨w.heap.size, 6, none⟩ = some (.bool s2) := hst.hH.cell 6
  have i_7 : (w2.alloc (.cells #[.int .i64 i4, .bool s4, .slice A4 l4 c4, .slice B4 k4 d4] 68)).cell? ⟨w.heap.size, 7, none⟩ = some (.slice A2 l2 c2) := hst.hH.cell 7
  have i_8 : (w2.alloc (.cells #[.int .i64 i4, .bool s4, .slice A4 l4 c4, .slice B4 k4 d4] 68)).cell? ⟨w.heap.size, 8, none⟩ = some (.slice B2 k2 d2) := hst.hH.cell 8
  have p_0 : (w2.alloc (.cells #[.int .i64 i4, .bool s4, .slice A4 l4 c4, .slice B4 k4 d4] 68)).cell? ⟨w1.heap.size, 0, none⟩ = some (.int .i64 i3) := hst.hP.cell 0
  have p_1 : (w2.alloc (.cells #[.int .i64 i4, .bool s4, .slice A4 l4 c4, .slice B4 k4 d4] 68)).cell? ⟨w1.heap.size, 1, none⟩ = some (.bool s3) := hst.hP.cell 1
  have p_2 : (w2.alloc (.cells #[.int .i64 i4, .bool s4, .slice A4 l4 c4, .slice B4 k4 d4] 68)).cell? ⟨w1.heap.size, 2, none⟩ = some (.slice A3 l3 c3) := hst.hP.cell 2
  have p_3 : (w2.alloc (.cells #[.int .i64 i4, .bool s4, .slice A4 l4 c4, .slice B4 k4 d4] 68)).cell? ⟨w1.heap.size, 3, none⟩ = some (.slice B3 k3 d3) := hst.hP.cell 3
  have q_0 : (w2.alloc (.cells #[.int .i64 i4, .bool s4, .slice A4 l4 c4, .slice B4 k4 d4] 68)).cell? ⟨w2.heap.size, 0, none⟩ = some (.int .i64 i4) := hst.hQ.cell 0
  have q_1 : (w2.alloc (.cells #[.int .i64 i4, .bool s4, .slice A4 l4 c4, .slice B4 k4 d4] 68)).cell? ⟨w2.heap.size, 1, none⟩ = some (.bool s4) := hst.hQ.cell 1
  have q_2 : (w2.alloc (.cells #[.int .i64 i4, .bool s4, .slice A4 l4 c4, .slice B4 k4 d4] 68)).cell? ⟨w2.heap.size, 2, none⟩ = some (.slice A4 l4 c4) := hst.hQ.cell 2
  have q_3 : (w2.alloc (.cells #[.int .i64 i4, .bool s4, .slice A4 l4 c4, .slice B4 k4 d4] 68)).cell? ⟨w2.heap.size, 3, none⟩ = some (.slice B4 k4 d4) := hst.hQ.cell 3
  have g_0 : (w2.alloc (.cells #[.int .i64 i4, .bool s4, .slice A4 l4 c4, .slice B4 k4 d4] 68)).cell? ⟨G, 0, none⟩ = some (.bool false) := hst.hG.cell 0
  have g_1 : (w2.alloc (.cells #[.int .i64 i4, .bool s4, .slice A4 l4 c4, .slice B4 k4 d4] 68)).cell? ⟨G, 1, none⟩ = some (.int .i64 0) := hst.hG.cell 1
  have g_2 : (w2.alloc (.cells #[.int .i64 i4, .bool s4, .slice A4 l4 c4, .slice B4 k4 d4] 68)).cell? ⟨G, 2, none⟩ = some (.bool false) := hst.hG.cell 2
  have g_3 : (w2.alloc (.cells #[.int .i64 i4, .bool s4, .slice A4 l4 c4, .slice B4 k4 d4] 68)).cell? ⟨G, 3, none⟩ = some (.slice none 0 0) := hst.hG.cell 3
  have g_4 : (w2.alloc (.cells #[.int .i64 i4, .bool s4, .slice A4 l4 c4, .slice B4 k4 d4] 68)).cell? ⟨G, 4, none⟩ = some (.slice none 0 0) := hst.hG.cell 4
  have g_5 : (w2.alloc (.cells #[.int .i64 i4, .bool s4, .slice A4 l4 c4, .slice B4 k4 d4] 68)).cell? ⟨G, 5, none⟩ = some (.int .i64 0) := hst.hG.cell 5
  have g_6 : (w2.alloc (.cells #[.int .i64 i4, .bool s4, .slice A4 l4 c4, .slice B4 k4 d4] 68)).cell? ⟨G, 6, none⟩ = some (.bool false) := hst.hG.cell 6
  have g_7 : (w2.alloc (.cells #[.int .i64 i4, .bool s4, .slice A4 l4 c4, .slice B4 k4 d4] 68)).cell? ⟨G, 7, none⟩ = some (.slice none 0 0) := hst.hG.cell 7
  have g_8 : (w2.alloc (.cells #[.int .i64 i4, .bool s4, .slice A4 l4 c4, .slice B4 k4 d4] 68)).cell? ⟨G, 8, none⟩ = some (.slice none 0 0) := hst.hG.cell 8
  have fg_0 : (w2.alloc (.cells #[.int .i64 i4, .bool s4, .slice A4 l4 c4, .slice B4 k4 d4] 68)).frozen? ⟨G, 0, none⟩ = false := hst.hG.frozen 0
  have fg_1 : (w2.alloc (.cells #[.int .i64 i4, .bool s4, .slice A4 l4 c4, .slice B4 k4 d4] 68)).frozen? ⟨G, 1, none⟩ = false := hst.hG.frozen 1
  have fg_2 : (w2.alloc (.cells #[.int .i64 i4, .bool s4, .slice A4 l4 c4, .slice B4 k4 d4] 68)).frozen? ⟨G, 2, none⟩ = false := hst.hG.frozen 2
  have fg_3 : (w2.alloc (.cells #[.int .i64 i4, .bool s4, .slice A4 l4 c4, .slice B4 k4 d4] 68)).frozen? ⟨G, 3, none⟩ = false := hst.hG.frozen 3
  have fg_4 : (w2.alloc (.cells #[.int .i64 i4, .bool s4, .slice A4 l4 c4, .slice B4 k4 d4] 68)).frozen? ⟨G, 4, none⟩ = false := hst.hG.frozen 4
  have fg_5 : (w2.alloc (.cells #[.int .i64 i4, .bool s4, .slice A4 l4 c4, .slice B4 k4 d4] 68)).frozen? ⟨G, 5, none⟩ = false := hst.hG.frozen 5
  have fg_6 : (w2.alloc (.cells #[.int .i64 i4, .bool s4, .slice A4 l4 c4, .slice B4 k4 d4] 68)).frozen? ⟨G, 6, none⟩ = false := hst.hG.frozen 6
  have fg_7 : (w2.alloc (.cells #[.int .i64 i4, .bool s4, .slice A4 l4 c4, .slice B4 k4 d4] 68)).frozen? ⟨G, 7, none⟩ = false := hst.hG.frozen 7
  have fg_8 : (w2.alloc (.cells #[.int .i64 i4, .bool s4, .slice A4 l4 c4, .slice B4 k4 d4] 68)).frozen? ⟨G, 8, none⟩ = false := hst.hG.frozen 8
  have fp_0 : (w2.alloc (.cells #[.int .i64 i4, .bool s4, .slice A4 l4 c4, .slice B4 k4 d4] 68)).frozen? ⟨w1.heap.size, 0, none⟩ = false := hst.hP.frozen 0
  have fp_1 : (w2.alloc (.cells #[.int .i64 i4, .bool s4, .slice A4 l4 c4, .slice B4 k4 d4] 68)).frozen? ⟨w1.heap.size, 1, none⟩ = false := hst.hP.frozen 1
  have fp_2 : (w2.alloc (.cells #[.int .i64 i4, .bool s4, .slice A4 l4 c4, .slice B4 k4 d4] 68)).frozen? ⟨w1.heap.size, 2, none⟩ = false := hst.hP.frozen 2
  have fp_3 : (w2.alloc (.cells #[.int .i64 i4, .bool s4, .slice A4 l4 c4, .slice B4 k4 d4] 68)).frozen? ⟨w1.heap.size, 3, none⟩ = false := hst.hP.frozen 3
  have fq_0 : (w2.alloc (.cells #[.int .i64 i4, .bool s4, .slice A4 l4 c4, .slice B4 k4 d4] 68)).frozen? ⟨w2.heap.size, 0, none⟩ = false := hst.hQ.frozen 0
  have fq_1 : (w2.alloc (.cells #[.int .i64 i4, .bool s4, .slice A4 l4 c4, .slice B4 k4 d4] 68)).frozen? ⟨w2.heap.size, 1, none⟩ = false := hst.hQ.frozen 1
  have fq_2 : (w2.alloc (.cells #[.int .i64 i4, .bool s4, .slice A4 l4 c4, .slice B4 k4 d4] 68)).frozen? ⟨w2.heap.size, 2, none⟩ = false := hst.hQ.frozen 2
  have fq_3 : (w2.alloc (.cells #[.int .i64 i4, .bool s4, .slice A4 l4 c4, .slice B4 k4 d4] 68)).frozen? ⟨w2.heap.size, 3, none⟩ = false := hst.hQ.frozen 3
  have lG : G < (w2.alloc (.cells #[.int .i64 i4, .bool s4, .slice A4 l4 c4, .slice B4 k4 d4] 68)).heap.size := hst.hG.lt
  have lP : w1.heap.size < (w2.alloc (.cells #[.int .i64 i4, .bool s4, .slice A4 l4 c4, .slice B4 k4 d4] 68)).heap.size := hst.hP.lt
  have lQ : w2.heap.size < (w2.alloc (.cells #[.int .i64 i4, .bool s4, .slice A4 l4 c4, .slice B4 k4 d4] 68)).heap.size := hst.hQ.lt
  go_wp2_with fail
  clear i_0 i_1 i_2 i_3 i_4 i_5 i_6 i_7 i_8 p_0 p_1 p_2 p_3 q_0 q_1 q_2 q_3 g_0 g_1 g_2 g_3 g_4 g_5 g_6 g_7 g_8 fg_0 fg_1 fg_2 fg_3 fg_4 fg_5 fg_6 fg_7 fg_8 fp_0 fp_1 fp_2 fp_3 fq_0 fq_1 fq_2 fq_3 lG lP lQ
  refine (HC.out _ _ _ _ _ _ _ _ _ _ _ _ _ hst.r3 hst.r4).mono ?_
  rintro e w3 ⟨rfl, hE3⟩
  have hst3 := hst.ext hE3
  clear hst hE3
  have i_0 : (w3).cell? ⟨w.heap.size, 0, none⟩ = some (.bool false) := hst3.hH.cell 0
  have i_1 : (w3).cell? ⟨w.heap.size, 1, none⟩ = some (.int .i64 i1) := hst3.hH.cell 1
  have i_2 : (w3).cell? ⟨w.heap.size, 2, none⟩ = some (.bool s1) := hst3.hH.cell 2
  have i_3 : (w3).cell? ⟨w.heap.size, 3, none⟩ = some (.slice A1 l1 c1) := hst3.hH.cell 3
  have i_4 : (w3).cell? ⟨w.heap.size, 4, none⟩ = some (.slice B1 k1 d1) := hst3.hH.cell 4
  have i_5 : (w3).cell? ⟨w.heap.size, 5, none⟩ = some (.int .i64 i2) := hst3.hH.cell 5
  have i_6 : (w3).cell? ⟨w.heap.size, 6, none⟩ = some (.bool s2) := hst3.hH.cell 6
  have i_7 : (w3).cell? ⟨w.heap.size, 7, none⟩ = some (.slice A2 l2 c2) := hst3.hH.cell 7
  have i_8 : (w3).cell? ⟨w.heap.size, 8, none⟩ = some (.slice B2 k2 d2) := hst3.hH.cell 8
  have p_0 : (w3).cell? ⟨w1.heap.size, 0, none⟩ = some (.int .i64 i3) := hst3.hP.cell 0
  have p_1 : (w3).cell? ⟨w1.heap.size, 1, none⟩ = some (.bool s3) := hst3.hP.cell 1
  have p_2 : (w3).cell? ⟨w1.heap.size, 2, none⟩ = some (.slice A3 l3 c3) := hst3.hP.cell 2
  have p_3 : (w3).cell? ⟨w1.heap.size, 3, none⟩ = some (.slice B3 k3 d3) := hst3.hP.cell 3
  have q_0 : (w3).cell? ⟨w2.heap.size, 0, none⟩ = some (.int .i64 i4) := hst3.hQ.cell 0
  have q_1 : (w3).cell? ⟨w2.heap.size, 1, none⟩ = some (.bool s4) := hst3.hQ.cell 1
  have q_2 : (w3).cell? ⟨w2.heap.size, 2, none⟩ = some (.slice A4 l4 c4) := hst3.hQ.cell 2
  have q_3 : (w3).cell? ⟨w2.heap.size, 3, none⟩ = some (.slice B4 k4 d4) := hst3.hQ.cell 3
  have g_0 : (w3).cell? ⟨G, 0, none⟩ = some (.bool false) := hst3.hG.cell 0
  have g_1 : (w3).cell? ⟨G, 1, none⟩ = some (.int .i64 0) := hst3.hG.cell 1
  have g_2 : (w3).cell? ⟨G, 2, none⟩ = some (.bool false) := hst3.hG.cell 2
  have g_3 : (w3).cell? ⟨G, 3, none⟩ = some (.slice none 0 0) := hst3.hG.cell 3
  have g_4 : (w3).cell? ⟨G, 4, none⟩ = some (.slice none 0 0) := hst3.hG.cell 4
  have g_5 : (w3).cell? ⟨G, 5, none⟩ = some (.int .i64 0) := hst3.hG.cell 5
  have g_6 : (w3).cell? ⟨G, 6, none⟩ = some (.bool false) := hst3.hG.cell 6
  have g_7 : (w3).cell? ⟨G, 7, none⟩ = some (.slice none 0 0) := hst3.hG.cell 7
  have g_8 : (w3).cell? ⟨G, 8, none⟩ = some (.slice none 0 0) := hst3.hG.cell 8
  have fg_0 : (w3).frozen? ⟨G, 0, none⟩ = false := hst3.hG.frozen 0
  have fg_1 : (w3).frozen? ⟨G, 1, none⟩ = false := hst3.hG.frozen 1
  have fg_2 : (w3).frozen? ⟨G, 2, none⟩ = false := hst3.hG.frozen 2
  have fg_3 : (w3).frozen? ⟨G, 3, none⟩ = false := hst3.hG.frozen 3
  have fg_4 : (w3).frozen? ⟨G, 4, none⟩ = false := hst3.hG.frozen 4
  have fg_5 : (w3).frozen? ⟨G, 5, none⟩ = false := hst3.hG.frozen 5
  have fg_6 : (w3).frozen? ⟨G, 6, none⟩ = false := hst3.hG.frozen 6
  have fg_7 : (w3).frozen? ⟨G, 7, none⟩ = false := hst3.hG.frozen 7
  have fg_8 : (w3).frozen? ⟨G, 8, none⟩ = false := hst3.hG.frozen 8
  have fp_0 : (w3).frozen? ⟨w1.heap.size, 0, none⟩ = false := hst3.hP.frozen 0
  have fp_1 : (w3).frozen? ⟨w1.heap.size, 1, none⟩ = false := hst3.hP.frozen 1
  have fp_2 : (w3).frozen? ⟨w1.heap.size, 2, none⟩ = false := hst3.hP.frozen 2
  have fp_3 : (w3).frozen? ⟨w1.heap.size, 3, none⟩ = false := hst3.hP.frozen 3
  have fq_0 : (w3).frozen? ⟨w2.heap.size, 0, none⟩ = false := hst3.hQ.frozen 0
  have fq_1 : (w3).frozen? ⟨w2.heap.size, 1, none⟩ = false := hst3.hQ.frozen 1
  have fq_2 : (w3).frozen? ⟨w2.heap.size, 2, none⟩ = false := hst3.hQ.frozen 2
  have fq_3 : (w3).frozen? ⟨w2.heap.size, 3, none⟩ = false := hst3.hQ.frozen 3
  have lG : G < (w3).heap.size := hst3.hG.lt
  have lP : w1.heap.size < (w3).heap.size := hst3.hP.lt
  have lQ : w2.heap.size < (w3).heap.size := hst3.hQ.lt
  go_wp2_with fail
  clear i_0 i_1 i_2 i_3 i_4 i_5 i_6 i_7 i_8 p_0 p_1 p_2 p_3 q_0 q_1 q_2 q_3 g_0 g_1 g_2 g_3 g_4 g_5 g_6 g_7 g_8 fg_0 fg_1 fg_2 fg_3 fg_4 fg_5 fg_6 fg_7 fg_8 fp_0 fp_1 fp_2 fp_3 fq_0 fq_1 fq_2 fq_3 lG lP lQ
  refine (HSA.out _ hst3.r1).mono ?_
  rintro e w5 ⟨rfl, hE5⟩
  have hst5 := hst3.ext hE5
  clear hst3 hE5
  have i_0 : (w5).cell? ⟨w.heap.size, 0, none⟩ = some (.bool false) := hst5.hH.cell 0
  have i_1 : (w5).cell? ⟨w.heap.size, 1, none⟩ = some (.int .i64 i1) := hst5.hH.cell 1
  have i_2 : (w5).cell? ⟨w.heap.size, 2, none⟩ = some (.bool s1) := hst5.hH.cell 2
  have i_3 : (w5).cell? ⟨w.heap.size, 3, none⟩ = some (.slice A1 l1 c1) := hst5.hH.cell 3
  have i_4 : (w5).cell? ⟨w.heap.size, 4, none⟩ = some (.slice B1 k1 d1) := hst5.hH.cell 4
  have i_5 : (w5).cell? ⟨w.heap.size, 5, none⟩ = some (.int .i64 i2) := hst5.hH.cell 5
  have i_6 : (w5).cell? ⟨w.heap.size, 6, none⟩ = some (.bool s2) := hst5.hH.cell 6
  have i_7 : (w5).cell? ⟨w.heap.size, 7, none⟩ = some (.slice A2 l2 c2) := hst5.hH.cell 7
  have i_8 : (w5).cell? ⟨w.heap.size, 8, none⟩ = some (.slice B2 k2 d2) := hst5.hH.cell 8
  have p_0 : (w5).cell? ⟨w1.heap.size, 0, none⟩ = some (.int .i64 i3) := hst5.hP.cell 0
  have p_1 : (w5).cell? ⟨w1.heap.size, 1, none⟩ = some (.bool s3) := hst5.hP.cell 1
  have p_2 : (w5).cell? ⟨w1.heap.size, 2, none⟩ = some (.slice A3 l3 c3) := hst5.hP.cell 2
  have p_3 : (w5).cell? ⟨w1.heap.size, 3, none⟩ = some (.slice B3 k3 d3) := hst5.hP.cell 3
  have q_0 : (w5).cell? ⟨w2.heap.size, 0, none⟩ = some (.int .i64 i4) := hst5.hQ.cell 0
  have q_1 : (w5).cell? ⟨w2.heap.size, 1, none⟩ = some (.bool s4) := hst5.hQ.cell 1
  have q_2 : (w5).cell? ⟨w2.heap.size, 2, none⟩ = some (.slice A4 l4 c4) := hst5.hQ.cell 2
  have q_3 : (w5).cell? ⟨w2.heap.size, 3, none⟩ = some (.slice B4 k4 d4) := hst5.hQ.cell 3
  have g_0 : (w5).cell? ⟨G, 0, none⟩ = some (.bool false) := hst5.hG.cell 0
  have g_1 : (w5).cell? ⟨G, 1, none⟩ = some (.int .i64 0) := hst5.hG.cell 1
  have g_2 : (w5).cell? ⟨G, 2, none⟩ = some (.bool false) := hst5.hG.cell 2
  have g_3 : (w5).cell? ⟨G, 3, none⟩ = some (.slice none 0 0) := hst5.hG.cell 3
  have g_4 : (w5).cell? ⟨G, 4, none⟩ = some (.slice none 0 0) := hst5.hG.cell 4
  have g_5 : (w5).cell? ⟨G, 5, none⟩ = some (.int .i64 0) := hst5.hG.cell 5
  have g_6 : (w5).cell? ⟨G, 6, none⟩ = some (.bool false) := hst5.hG.cell 6
  have g_7 : (w5).cell? ⟨G, 7, none⟩ = some (.slice none 0 0) := hst5.hG.cell 7
  have g_8 : (w5).cell? ⟨G, 8, none⟩ = some (.slice none 0 0) := hst5.hG.cell 8
  have fg_0 : (w5).frozen? ⟨G, 0, none⟩ = false := hst5.hG.frozen 0
  have fg_1 : (w5).frozen? ⟨G, 1, none⟩ = false := hst5.hG.frozen 1
  have fg_2 : (w5).frozen? ⟨G, 2, none⟩ = false := hst5.hG.frozen 2
  have fg_3 : (w5).frozen? ⟨G, 3, none⟩ = false := hst5.hG.frozen 3
  have fg_4 : (w5).frozen? ⟨G, 4, none⟩ = false := hst5.hG.frozen 4
  have fg_5 : (w5).frozen? ⟨G, 5, none⟩ = false := hst5.hG.frozen 5
  have fg_6 : (w5).frozen? ⟨G, 6, none⟩ = false := hst5.hG.frozen 6
  have fg_7 : (w5).frozen? ⟨G, 7, none⟩ = false := hst5.hG.frozen 7
  have fg_8 : (w5).frozen? ⟨G, 8, none⟩ = false := hst5.hG.frozen 8
  have fp_0 : (w5).frozen? ⟨w1.heap.size, 0, none⟩ = false := hst5.hP.frozen 0
  have fp_1 : (w5).frozen? ⟨w1.heap.size, 1, none⟩ = false := hst5.hP.frozen 1
  have fp_2 : (w5).frozen? ⟨w1.heap.size, 2, none⟩ = false := hst5.hP.frozen 2
  have fp_3 : (w5).frozen? ⟨w1.heap.size, 3, none⟩ = false := hst5.hP.frozen 3
  have fq_0 : (w5).frozen? ⟨w2.heap.size, 0, none⟩ = false := hst5.hQ.frozen 0
  have fq_1 : (w5).frozen? ⟨w2.heap.size, 1, none⟩ = false := hst5.hQ.frozen 1
  have fq_2 : (w5).frozen? ⟨w2.heap.size, 2, none⟩ = false := hst5.hQ.frozen 2
  have fq_3 : (w5).frozen? ⟨w2.heap.size, 3, none⟩ = false := hst5.hQ.frozen 3
  have lG : G < (w5).heap.size := hst5.hG.lt
  have lP : w1.heap.size < (w5).heap.size := hst5.hP.lt
  have lQ : w2.heap.size < (w5).heap.size := hst5.hQ.lt
  go_wp2_with fail
  clear i_0 i_1 i_2 i_3 i_4 i_5 i_6 i_7 i_8 p_0 p_1 p_2 p_3 q_0 q_1 q_2 q_3 g_0 g_1 g_2 g_3 g_4 g_5 g_6 g_7 g_8 fg_0 fg_1 fg_2 fg_3 fg_4 fg_5 fg_6 fg_7 fg_8 fp_0 fp_1 fp_2 fp_3 fq_0 fq_1 fq_2 fq_3 lG lP lQ
  refine (HSB.out _ hst5.r2).mono ?_
  rintro e w6 ⟨rfl, hE6⟩
  have hst6 := hst5.ext hE6
  clear hst5 hE6
  have i_0 : (w6).cell? ⟨w.heap.size, 0, none⟩ = some (.bool false) := hst6.hH.cell 0
  have i_1 : (w6).cell? ⟨w.heap.size, 1, none⟩ = some (.int .i64 i1) := hst6.hH.cell 1
  have i_2 : (w6).cell? ⟨w.heap.size, 2, none⟩ = some (.bool s1) := hst6.hH.cell 2
  have i_3 : (w6).cell? ⟨w.heap.size, 3, none⟩ = some (.slice A1 l1 c1) := hst6.hH.cell 3
  have i_4 : (w6).cell? ⟨w.heap.size, 4, none⟩ = some (.slice B1 k1 d1) := hst6.hH.cell 4
  have i_5 : (w6).cell? ⟨w.heap.size, 5, none⟩ = some (.int .i64 i2) := hst6.hH.cell 5
  have i_6 : (w6).cell? ⟨w.heap.size, 6, none⟩ = some (.bool s2) := hst6.hH.cell 6
  have i_7 : (w6).cell? ⟨w.heap.size, 7, none⟩ = some (.slice A2 l2 c2) := hst6.hH.cell 7
  have i_8 : (w6).cell? ⟨w.heap.size, 8, none⟩ = some (.slice B2 k2 d2) := hst6.hH.cell 8
  have p_0 : (w6).cell? ⟨w1.heap.size, 0, none⟩ = some (.int .i64 i3) := hst6.hP.cell 0
  have p_1 : (w6).cell? ⟨w1.heap.size, 1, none⟩ = some (.bool s3) := hst6.hP.cell 1
  have p_2 : (w6).cell? ⟨w1.heap.size, 2, none⟩ = some (.slice A3 l3 c3) := hst6.hP.cell 2
  have p_3 : (w6).cell? ⟨w1.heap.size, 3, none⟩ = some (.slice B3 k3 d3) := hst6.hP.cell 3
  have q_0 : (w6).cell? ⟨w2.heap.size, 0, none⟩ = some (.int .i64 i4) := hst6.hQ.cell 0
  have q_1 : (w6).cell? ⟨w2.heap.size, 1, none⟩ = some (.bool s4) := hst6.hQ.cell 1
  have q_2 : (w6).cell? ⟨w2.heap.size, 2, none⟩ = some (.slice A4 l4 c4) := hst6.hQ.cell 2
  have q_3 : (w6).cell? ⟨w2.heap.size, 3, none⟩ = some (.slice B4 k4 d4) := hst6.hQ.cell 3
  have g_0 : (w6).cell? ⟨G, 0, none⟩ = some (.bool false) := hst6.hG.cell 0
  have g_1 : (w6).cell? ⟨G, 1, none⟩ = some (.int .i64 0) := hst6.hG.cell 1
  have g_2 : (w6).cell? ⟨G, 2, none⟩ = some (.bool false) := hst6.hG.cell 2
  have g_3 : (w6).cell? ⟨G, 3, none⟩ = some (.slice none 0 0) := hst6.hG.cell 3
  have g_4 : (w6).cell? ⟨G, 4, none⟩ = some (.slice none 0 0) := hst6.hG.cell 4
  have g_5 : (w6).cell? ⟨G, 5, none⟩ = some (.int .i64 0) := hst6.hG.cell 5
  have g_6 : (w6).cell? ⟨G, 6, none⟩ = some (.bool false) := hst6.hG.cell 6
  have g_7 : (w6).cell? ⟨G, 7, none⟩ = some (.slice none 0 0) := hst6.hG.cell 7
  have g_8 : (w6).cell? ⟨G, 8, none⟩ = some (.slice none 0 0) := hst6.hG.cell 8
  have fg_0 : (w6).frozen? ⟨G, 0, none⟩ = false := hst6.hG.frozen 0
  have fg_1 : (w6).frozen? ⟨G, 1, none⟩ = false := hst6.hG.frozen 1
  have fg_2 : (w6).frozen? ⟨G, 2, none⟩ = false := hst6.hG.frozen 2
  have fg_3 : (w6).frozen? ⟨G, 3, none⟩ = false := hst6.hG.frozen 3
  have fg_4 : (w6).frozen? ⟨G, 4, none⟩ = false := hst6.hG.frozen 4
  have fg_5 : (w6).frozen? ⟨G, 5, none⟩ = false := hst6.hG.frozen 5
  have fg_6 : (w6).frozen? ⟨G, 6, none⟩ = false := hst6.hG.frozen 6
  have fg_7 : (w6).frozen? ⟨G, 7, none⟩ = false := hst6.hG.frozen 7
  have fg_8 : (w6).frozen? ⟨G, 8, none⟩ = false := hst6.hG.frozen 8
  have fp_0 : (w6).frozen? ⟨w1.heap.size, 0, none⟩ = false := hst6.hP.frozen 0
  have fp_1 : (w6).frozen? ⟨w1.heap.size, 1, none⟩ = false := hst6.hP.frozen 1
  have fp_2 : (w6).frozen? ⟨w1.heap.size, 2, none⟩ = false := hst6.hP.frozen 2
  have fp_3 : (w6).frozen? ⟨w1.heap.size, 3, none⟩ = false := hst6.hP.frozen 3
  have fq_0 : (w6).frozen? ⟨w2.heap.size, 0, none⟩ = false := hst6.hQ.frozen 0
  have fq_1 : (w6).frozen? ⟨w2.heap.size, 1, none⟩ = false := hst6.hQ.frozen 1
  have fq_2 : (w6).frozen? ⟨w2.heap.size, 2, none⟩ = false := hst6.hQ.frozen 2
  have fq_3 : (w6).frozen? ⟨w2.heap.size, 3, none⟩ = false := hst6.hQ.frozen 3
  have lG : G < (w6).heap.size := hst6.hG.lt
  have lP : w1.heap.size < (w6).heap.size := hst6.hP.lt
  have lQ : w2.heap.size < (w6).heap.size := hst6.hQ.lt
  go_wp2_with fail
  exact bodyPost_ret (v := .agg #[.bool false, .int .i64 i3, .bool s3, .slice A3 l3 c3, .slice B3 k3 d3, .int .i64 i4, .bool s4, .slice A4 l4 c4, .slice B4 k4 d4]) (by simp [results, Try.results64, go_sem, lG, g_0, g_1, g_2, g_3, g_4, g_5, g_6, g_7, g_8]) rfl
    ⟨_, _, _, _, _, _, _, _, _, _, _, _, rfl, (RatBox.mk hst6.r3 hst6.hG (NoU.of rfl)).set9 rfl rfl rfl rfl rfl rfl rfl rfl rfl, (RatBox.mk hst6.r4 hst6.hG (NoU.of rfl)).set9 rfl rfl rfl rfl rfl rfl rfl rfl rfl, hst6.ex.set9 hGw _ _ _ _ _ _ _ _ _⟩

set_option maxHeartbeats 4000000 in
theorem size_nc (i1 : Int) (s1 : Bool) (A1 : Option Addr) (l1 c1 : Nat) (B1 : Option Addr) (k1 d1 N1 D1 : Nat) (i2 : Int) (s2 : Bool) (A2 : Option Addr) (l2 c2 : Nat) (B2 : Option Addr) (k2 d2 N2 D2 : Nat) (i3 : Int) (s3 : Bool) (N3 D3 : Nat) (i4 : Int) (s4 : Bool) (N4 D4 : Nat) (x y1 y2 : Int) (F E : Nat) (w : World) (h1 : RatAt w A1 l1 c1 B1 k1 d1 N1 D1) (h2 : RatAt w A2 l2 c2 B2 k2 d2 N2 D2)
    (HM1 : Hid (∀ w, RatAt w A1 l1 c1 B1 k1 d1 N1 D1 → Calls Try.prog 94 #[.agg #[.int .i64 i1, .bool s1, .slice A1 l1 c1, .slice B1 k1 d1]] w (RetEnd i3 s3 N3 D3 w)))
    (HM2 : Hid (∀ w, RatAt w A2 l2 c2 B2 k2 d2 N2 D2 → Calls Try.prog 94 #[.agg #[.int .i64 i2, .bool s2, .slice A2 l2 c2, .slice B2 k2 d2]] w (RetEnd i4 s4 N4 D4 w)))
    (HC : Hid (∀ A3 l3 c3 B3 k3 d3 A4 l4 c4 B4 k4 d4 w, RatAt w A3 l3 c3 B3 k3 d3 N3 D3 → RatAt w A4 l4 c4 B4 k4 d4 N4 D4 → Calls Try.prog 65 #[.agg #[.int .i64 i3, .bool s3, .slice A3 l3 c3, .slice B3 k3 d3], .agg #[.int .i64 i4, .bool s4, .slice A4 l4 c4, .slice B4 k4 d4]] w fun e w' => e = .returned (.int .i64 x) ∧ Ext w w'))
    (HSA : Hid (∀ w, RatAt w A1 l1 c1 B1 k1 d1 N1 D1 → Calls Try.prog 95 #[.agg #[.int .i64 i1, .bool s1, .slice A1 l1 c1, .slice B1 k1 d1]] w fun e w' => e = .returned (.int .i64 y1) ∧ Ext w w'))
    (HSB : Hid (∀ w, RatAt w A2 l2 c2 B2 k2 d2 N2 D2 → Calls Try.prog 95 #[.agg #[.int .i64 i2, .bool s2, .slice A2 l2 c2, .slice B2 k2 d2]] w fun e w' => e = .returned (.int .i64 y2) ∧ Ext w w'))
    (HF : Hid (∀ w, Calls Try.prog 92 #[.int .i64 0] w (RetEnd 0 false F E w)))
    (hx : decide (0 < x) = false) (hy1 : decide (y1 ≤ 0) = true) (hy2 : decide (0 ≤ y2) = true) :
    Calls Try.prog 64 #[.agg #[.bool false, .int .i64 i1, .bool s1, .slice A1 l1 c1, .slice B1 k1 d1, .int .i64 i2, .bool s2, .slice A2 l2 c2, .slice B2 k2 d2]] w (RetSet false 0 false F E i4 s4 N4 D4 w) := by
  have hbG := Blk.new2 w (.cells #[.bool false, .int .i64 i1, .bool s1, .slice A1 l1 c1, .slice B1 k1 d1, .int .i64 i2, .bool s2, .slice A2 l2 c2, .slice B2 k2 d2] 70) 70 #[.bool false, .int .i64 0, .bool false, .slice none 0 0, .slice none 0 0, .int .i64 0, .bool false, .slice none 0 0, .slice none 0 0]
  have hbI := (Blk.new w 70 #[.bool false, .int .i64 i1, .bool s1, .slice A1 l1 c1, .slice B1 k1 d1, .int .i64 i2, .bool s2, .slice A2 l2 c2, .slice B2 k2 d2]).ext ((Ext.refl _).alloc (.cells #[.bool false, .int .i64 0, .bool false, .slice none 0 0, .slice none 0 0, .int .i64 0, .bool false, .slice none 0 0, .slice none 0 0] 70))
  have hEw : Ext w ((w.alloc (.cells #[.bool false, .int .i64 i1, .bool s1, .slice A1 l1 c1, .slice B1 k1 d1, .int .i64 i2, .bool s2, .slice A2 l2 c2, .slice B2 k2 d2] 70)).alloc (.cells #[.bool false, .int .i64 0, .bool false, .slice none 0 0, .slice none 0 0, .int .i64 0, .bool false, .slice none 0 0, .slice none 0 0] 70)) := ((Ext.refl w).alloc _).alloc _
  obtain ⟨G, hG⟩ : ∃ G, G = w.heap.size + 1 := ⟨_, rfl⟩
  rw [← hG] at hbG
  have hGw : w.heap.size ≤ G := by omega
  have HGS := Lib.hid (show w.heap.size + 1 = G from hG.symm)
  have hr1 := h1.ext hEw
  have hr2 := h2.ext hEw
  clear hG h1 h2
  go_enter Try.func64, Try.ntmps64
  go_wp2_with fail
  refine (HM1.out _ hr1).mono ?_
  rintro e w1 ⟨A3, l3, c3, B3, k3, d3, rfl, h3, hE1⟩
  rw [HGS.out]
  clear HGS
  have hE1' : Ext w1 (w1.alloc (.cells #[.int .i64 i3, .bool s3, .slice A3 l3 c3, .slice B3 k3 d3] 68)) := (Ext.refl w1).alloc _
  have hbP := Blk.new w1 68 #[.int .i64 i3, .bool s3, .slice A3 l3 c3, .slice B3 k3 d3]
  have hbG1 := (hbG.ext hE1).ext hE1'
  have hbI1 := (hbI.ext hE1).ext hE1'
  have hr11 := (hr1.ext hE1).ext hE1'
  have hr21 := (hr2.ext hE1).ext hE1'
  have h31 := h3.ext hE1'
  have hEw1 := (hEw.trans hE1).trans hE1'
  have hlt1 : w.heap.size < w1.heap.size := by have a := hbI.lt; have b := hE1.size; omega
  have hlt2 : G < w1.heap.size := by have a := hbG.lt; have b := hE1.size; omega
  have hlt3 : w.heap.size ≤ w1.heap.size := by omega
  clear hbG hbI hr1 hr2 h3 hEw hE1 hE1'
  have i_0 : (w1.alloc (.cells #[.int .i64 i3, .bool s3, .slice A3 l3 c3, .slice B3 k3 d3] 68)).cell? ⟨w.heap.size, 0, none⟩ = some (.bool false) := hbI1.cell 0
  have i_1 : (w1.alloc (.cells #[.int .i64 i3, .bool s3, .slice A3 l3 c3, .slice B3 k3 d3] 68)).cell? ⟨w.heap.size, 1, none⟩ = some (.int .i64 i1) := hbI1.cell 1
  have i_2 : (w1.alloc (.cells #[.int .i64 i3, .bool s3, .slice A3 l3 c3, .slice B3 k3 d3] 68)).cell? ⟨w.heap.size, 2, none⟩ = some (.bool s1) := hbI1.cell 2
  have i_3 : (w1.alloc (.cells #[.int .i64 i3, .bool s3, .slice A3 l3 c3, .slice B3 k3 d3] 68)).cell? ⟨w.heap.size, 3, none⟩ = some (.slice A1 l1 c1) := hbI1.cell 3
  have i_4 : (w1.alloc (.cells #[.int .i64 i3, .bool s3, .slice A3 l3 c3, .slice B3 k3 d3] 68)).cell? ⟨w.heap.size, 4, none⟩ = some (.slice B1 k1 d1) := hbI1.cell 4
  have i_5 : (w1.alloc (.cells #[.int .i64 i3, .bool s3, .slice A3 l3 c3, .slice B3 k3 d3] 68)).cell? ⟨w.heap.size, 5, none⟩ = some (.int .i64 i2) := hbI1.cell 5
  have i_6 : (w1.alloc (.cells #[.int .i64 i3, .bool s3, .slice A3 l3 c3, .slice B3 k3 d3] 68)).cell? ⟨w.heap.size, 6, none⟩ = some (.bool s2) := hbI1.cell 6
  have i_7 : (w1.alloc (.cells #[.int .i64 i3, .bool s3, .slice A3 l3 c3, .slice B3 k3 d3] 68)).cell? ⟨w.heap.size, 7, none⟩ = some (.slice A2 l2 c2) := hbI1.cell 7
  have i_8 : (w1.alloc (.cells #[.int .i64 i3, .bool s3, .slice A3 l3 c3, .slice B3 k3 d3] 68)).cell? ⟨w.heap.size, 8, none⟩ = some (.slice B2 k2 d2) := hbI1.cell 8
  go_wp2_with fail
  clear i_0 i_1 i_2 i_3 i_4 i_5 i_6 i_7 i_8
  refine (HM2.out _ hr21).mono ?_
  rintro e w2 ⟨A4, l4, c4, B4, k4, d4, rfl, h4, hE2⟩
  have hE2' : Ext (w1.alloc (.cells #[.int .i64 i3, .bool s3, .slice A3 l3 c3, .slice B3 k3 d3] 68)) (w2.alloc (.cells #[.int .i64 i4, .bool s4, .slice A4 l4 c4, .slice B4 k4 d4] 68)) := hE2.alloc _
  have hst : MZ w.heap.size G w1.heap.size w2.heap.size i1 s1 A1 l1 c1 B1 k1 d1 N1 D1 i2 s2 A2 l2 c2 B2 k2 d2 N2 D2 i3 s3 A3 l3 c3 B3 k3 d3 N3 D3 i4 s4 A4 l4 c4 B4 k4 d4 N4 D4 w (w2.alloc (.cells #[.int .i64 i4, .bool s4, .slice A4 l4 c4, .slice B4 k4 d4] 68)) :=
    ⟨hbI1.ext hE2', hbG1.ext hE2', hbP.ext hE2', Blk.new w2 _ _, hr11.ext hE2', hr21.ext hE2', h31.ext hE2', h4.ext ((Ext.refl w2).alloc _), hEw1.trans hE2', hlt3, hlt1, hlt2, by have a := hbP.lt; have b := hE2.size; omega⟩
  clear hbI1 hbG1 hbP hr11 hr21 h31 h4 hEw1 hE2 hE2' hlt1 hlt2 hlt3
  have i_0 : (w2.alloc (.cells #[.int .i64 i4, .bool s4, .slice A4 l4 c4, .slice B4 k4 d4] 68)).cell? ⟨w.heap.size, 0, none⟩ = some (.bool false) := hst.hH.cell 0
  have i_1 : (w2.alloc (.cells #[.int .i64 i4, .bool s4, .slice A4 l4 c4, .slice B4 k4 d4] 68)).cell? ⟨w.heap.size, 1, none⟩ = some (.int .i64 i1) := hst.hH.cell 1
  have i_2 : (w2.alloc (.cells #[.int .i64 i4, .bool s4, .slice A4 l4 c4, .slice B4 k4 d4] 68)).cell? ⟨w.heap.size, 2, none⟩ = some (.bool s1) := hst.hH.cell 2
  have i_3 : (w2.alloc (.cells #[.int .i64 i4, .bool s4, .slice A4 l4 c4, .slice B4 k4 d4] 68)).cell? ⟨w.heap.size, 3, none⟩ = some (.slice A1 l1 c1) := hst.hH.cell 3
  have i_4 : (w2.alloc (.cells #[.int .i64 i4, .bool s4, .slice A4 l4 c4, .slice B4 k4 d4] 68)).cell? ⟨w.heap.size, 4, none⟩ = some (.slice B1 k1 d1) := hst.hH.cell 4
  have i_5 : (w2.alloc (.cells #[.int .i64 i4, .bool s4, .slice A4 l4 c4, .slice B4 k4 d4] 68)).cell? ⟨w.heap.size, 5, none⟩ = some (.int .i64 i2) := hst.hH.cell 5
  have i_6 : (w2.alloc (.cells #[.int .i64 i4, .bool s4, .slice A4 l4 c4, .slice B4 k4 d4] 68)).cell? ⟨w.heap.size, 6, none⟩ = some (.bool s2) := hst.hH.cell 6
  have i_7 : (w2.alloc (.cells #[.int .i64 i4, .bool s4, .slice A4 l4 c4, .slice B4 k4 d4] 68)).cell? ⟨w.heap.size, 7, none⟩ = some (.slice A2 l2 c2) := hst.hH.cell 7
  have i_8 : (w2.alloc (.cells #[.int .i64 i4, .bool s4, .slice A4 l4 c4, .slice B4 k4 d4] 68)).cell? ⟨w.heap.size, 8, none⟩ = some (.slice B2 k2 d2) := hst.hH.cell 8
  have p_0 : (w2.alloc (.cells #[.int .i64 i4, .bool s4, .slice A4 l4 c4, .slice B4 k4 d4] 68)).cell? ⟨w1.heap.size, 0, none⟩ = some (.int .i64 i3) := hst.hP.cell 0
  have p_1 : (w2.alloc (.cells #[.int .i64 i4, .bool s4, .slice A4 l4 c4, .slice B4 k4 d4] 68)).cell? ⟨w1.heap.size, 1, none⟩ = some (.bool s3) := hst.hP.cell 1
  have p_2 : (w2.alloc (.cells #[.int .i64 i4, .bool s4, .slice A4 l4 c4, .slice B4 k4 d4] 68)).cell? ⟨w1.heap.size, 2, none⟩ = some (.slice A3 l3 c3) := hst.hP.cell 2
  have p_3 : (w2.alloc (.cells #[.int .i64 i4, .bool s4, .slice A4 l4 c4, .slice B4 k4 d4] 68)).cell? ⟨w1.heap.size, 3, none⟩ = some (.slice B3 k3 d3) := hst.hP.cell 3
  have q_0 : (w2.alloc (.cells #[.int .i64 i4, .bool s4, .slice A4 l4 c4, .slice B4 k4 d4] 68)).cell? ⟨w2.heap.size, 0, none⟩ = some (.int .i64 i4) := hst.hQ.cell 0
  have q_1 : (w2.alloc (.cells #[.int .i64 i4, .bool s4, .slice A4 l4 c4, .slice B4 k4 d4] 68)).cell? ⟨w2.heap.size, 1, none⟩ = some (.bool s4) := hst.hQ.cell 1
  have q_2 : (w2.alloc (.cells #[.int .i64 i4, .bool s4, .slice A4 l4 c4, .slice B4 k4 d4] 68)).cell? ⟨w2.heap.size, 2, none⟩ = some (.slice A4 l4 c4) := hst.hQ.cell 2
  have q_3 : (w2.alloc (.cells #[.int .i64 i4, .bool s4, .slice A4 l4 c4, .slice B4 k4 d4] 68)).cell? ⟨w2.heap.size, 3, none⟩ = some (.slice B4 k4 d4) := hst.hQ.cell 3
  have g_0 : (w2.alloc (.cells #[.int .i64 i4, .bool s4, .slice A4 l4 c4, .slice B4 k4 d4] 68)).cell? ⟨G, 0, none⟩ = some (.bool false) := hst.hG.cell 0
  have g_1 : (w2.alloc (.cells #[.int .i64 i4, .bool s4, .slice A4 l4 c4, .slice B4 k4 d4] 68)).cell? ⟨G, 1, none⟩ = some (.int .i64 0) := hst.hG.cell 1
  have g_2 : (w2.alloc (.cells #[.int .i64 i4, .bool s4, .slice A4 l4 c4, .slice B4 k4 d4] 68)).cell? ⟨G, 2, none⟩ = some (.bool false) := hst.hG.cell 2
  have g_3 : (w2.alloc (.cells #[.int .i64 i4, .bool s4, .slice A4 l4 c4, .slice B4 k4 d4] 68)).cell? ⟨G, 3, none⟩ = some (.slice none 0 0) := hst.hG.cell 3
  have g_4 : (w2.alloc (.cells #[.int .i64 i4, .bool s4, .slice A4 l4 c4, .slice B4 k4 d4] 68)).cell? ⟨G, 4, none⟩ = some (.slice none 0 0) := hst.hG.cell 4
  have g_5 : (w2.alloc (.cells #[.int .i64 i4, .bool s4, .slice A4 l4 c4, .slice B4 k4 d4] 68)).cell? ⟨G, 5, none⟩ = some (.int .i64 0) := hst.hG.cell 5
  have g_6 : (w2.alloc (.cells #[.int .i64 i4, .bool s4, .slice A4 l4 c4, .slice B4 k4 d4] 68)).cell? ⟨G, 6, none⟩ = some (.bool false) := hst.hG.cell 6
  have g_7 : (w2.alloc (.cells #[.int .i64 i4, .bool s4, .slice A4 l4 c4, .slice B4 k4 d4] 68)).cell? ⟨G, 7, none⟩ = some (.slice none 0 0) := hst.hG.cell 7
  have g_8 : (w2.alloc (.cells #[.int .i64 i4, .bool s4, .slice A4 l4 c4, .slice B4 k4 d4] 68)).cell? ⟨G, 8, none⟩ = some (.slice none 0 0) := hst.hG.cell 8
  have fg_0 : (w2.alloc (.cells #[.int .i64 i4, .bool s4, .slice A4 l4 c4, .slice B4 k4 d4] 68)).frozen? ⟨G, 0, none⟩ = false := hst.hG.frozen 0
  have fg_1 : (w2.alloc (.cells #[.int .i64 i4, .bool s4, .slice A4 l4 c4, .slice B4 k4 d4] 68)).frozen? ⟨G, 1, none⟩ = false := hst.hG.frozen 1
  have fg_2 : (w2.alloc (.cells #[.int .i64 i4, .bool s4, .slice A4 l4 c4, .slice B4 k4 d4] 68)).frozen? ⟨G, 2, none⟩ = false := hst.hG.frozen 2
  have fg_3 : (w2.alloc (.cells #[.int .i64 i4, .bool s4, .slice A4 l4 c4, .slice B4 k4 d4] 68)).frozen? ⟨G, 3, none⟩ = false := hst.hG.frozen 3
  have fg_4 : (w2.alloc (.cells #[.int .i64 i4, .bool s4, .slice A4 l4 c4, .slice B4 k4 d4] 68)).frozen? ⟨G, 4, none⟩ = false := hst.hG.frozen 4
  have fg_5 : (w2.alloc (.cells #[.int .i64 i4, .bool s4, .slice A4 l4 c4, .slice B4 k4 d4] 68)).frozen? ⟨G, 5, none⟩ = false := hst.hG.frozen 5
  have fg_6 : (w2.alloc (.cells #[.int .i64 i4, .bool s4, .slice A4 l4 c4, .slice B4 k4 d4] 68)).frozen? ⟨G, 6, none⟩ = false := hst.hG.frozen 6
  have fg_7 : (w2.alloc (.cells #[.int .i64 i4, .bool s4, .slice A4 l4 c4, .slice B4 k4 d4] 68)).frozen? ⟨G, 7, none⟩ = false := hst.hG.frozen 7
  have fg_8 : (w2.alloc (.cells #[.int .i64 i4, .bool s4, .slice A4 l4 c4, .slice B4 k4 d4] 68)).frozen? ⟨G, 8, none⟩ = false := hst.hG.frozen 8
  have fp_0 : (w2.alloc (.cells #[.int .i64 i4, .bool s4, .slice A4 l4 c4, .slice B4 k4 d4] 68)).frozen? ⟨w1.heap.size, 0, none⟩ = false := hst.hP.frozen 0
  have fp_1 : (w2.alloc (.cells #[.int .i64 i4, .bool s4, .slice A4 l4 c4, .slice B4 k4 d4] 68)).frozen? ⟨w1.heap.size, 1, none⟩ = false := hst.hP.frozen 1
  have fp_2 : (w2.alloc (.cells #[.int .i64 i4, .bool s4, .slice A4 l4 c4, .slice B4 k4 d4] 68)).frozen? ⟨w1.heap.size, 2, none⟩ = false := hst.hP.frozen 2
  have fp_3 : (w2.alloc (.cells #[.int .i64 i4, .bool s4, .slice A4 l4 c4, .slice B4 k4 d4] 68)).frozen? ⟨w1.heap.size, 3, none⟩ = false := hst.hP.frozen 3
  have fq_0 : (w2.alloc (.cells #[.int .i64 i4, .bool s4, .slice A4 l4 c4, .slice B4 k4 d4] 68)).frozen? ⟨w2.heap.size, 0, none⟩ = false := hst.hQ.frozen 0
  have fq_1 : (w2.alloc (.cells #[.int .i64 i4, .bool s4, .slice A4 l4 c4, .slice B4 k4 d4] 68)).frozen? ⟨w2.heap.size, 1, none⟩ = false := hst.hQ.frozen 1
  have fq_2 : (w2.alloc (.cells #[.int .i64 i4, .bool s4, .slice A4 l4 c4, .slice B4 k4 d4] 68)).frozen? ⟨w2.heap.size, 2, none⟩ = false := hst.hQ.frozen 2
  have fq_3 : (w2.alloc (.cells #[.int .i64 i4, .bool s4, .slice A4 l4 c4, .slice B4 k4 d4] 68)).frozen? ⟨w2.heap.size, 3, none⟩ = false := hst.hQ.frozen 3
  have lG : G < (w2.alloc (.cells #[.int .i64 i4, .bool s4, .slice A4 l4 c4, .slice B4 k4 d4] 68)).heap.size := hst.hG.lt
  have lP : w1.heap.size < (w2.alloc (.cells #[.int .i64 i4, .bool s4, .slice A4 l4 c4, .slice B4 k4 d4] 68)).heap.size := hst.hP.lt
  have lQ : w2.heap.size < (w2.alloc (.cells #[.int .i64 i4, .bool s4, .slice A4 l4 c4, .slice B4 k4 d4] 68)).heap.size := hst.hQ.lt
  go_wp2_with fail
  clear i_0 i_1 i_2 i_3 i_4 i_5 i_6 i_7 i_8 p_0 p_1 p_2 p_3 q_0 q_1 q_2 q_3 g_0 g_1 g_2 g_3 g_4 g_5 g_6 g_7 g_8 fg_0 fg_1 fg_2 fg_3 fg_4 fg_5 fg_6 fg_7 fg_8 fp_0 fp_1 fp_2 fp_3 fq_0 fq_1 fq_2 fq_3 lG lP lQ
  refine (HC.out _ _ _ _ _ _ _ _ _ _ _ _ _ hst.r3 hst.r4).mono ?_
  rintro e w3 ⟨rfl, hE3⟩
  have hst3 := hst.ext hE3
  clear hst hE3
  have i_0 : (w3).cell? ⟨w.heap.size, 0, none⟩ = some (.bool false) := hst3.hH.cell 0
  have i_1 : (w3).cell? ⟨w.heap.size, 1, none⟩ = some (.int .i64 i1) := hst3.hH.cell 1
  have i_2 : (w3).cell? ⟨w.heap.size, 2, none⟩ = some (.bool s1) := hst3.hH.cell 2
  have i_3 : (w3).cell? ⟨w.heap.size, 3, none⟩ = some (.slice A1 l1 c1) := hst3.hH.cell 3
  have i_4 : (w3).cell? ⟨w.heap.size, 4, none⟩ = some (.slice B1 k1 d1) := hst3.hH.cell 4
  have i_5 : (w3).cell? ⟨w.heap.size, 5, none⟩ = some (.int .i64 i2) := hst3.hH.cell 5
  have i_6 : (w3).cell? ⟨w.heap.size, 6, none⟩ = some (.bool s2) := hst3.hH.cell 6
  have i_7 : (w3).cell? ⟨w.heap.size, 7, none⟩ = some (.slice A2 l2 c2) := hst3.hH.cell 7
  have i_8 : (w3).cell? ⟨w.heap.size, 8, none⟩ = some (.slice B2 k2 d2) := hst3.hH.cell 8
  have p_0 : (w3).cell? ⟨w1.heap.size, 0, none⟩ = some (.int .i64 i3) := hst3.hP.cell 0
  have p_1 : (w3).cell? ⟨w1.heap.size, 1, none⟩ = some (.bool s3) := hst3.hP.cell 1
  have p_2 : (w3).cell? ⟨w1.heap.size, 2, none⟩ = some (.slice A3 l3 c3) := hst3.hP.cell 2
  have p_3 : (w3).cell? ⟨w1.heap.size, 3, none⟩ = some (.slice B3 k3 d3) := hst3.hP.cell 3
  have q_0 : (w3).cell? ⟨w2.heap.size, 0, none⟩ = some (.int .i64 i4) := hst3.hQ.cell 0
  have q_1 : (w3).cell? ⟨w2.heap.size, 1, none⟩ = some (.bool s4) := hst3.hQ.cell 1
  have q_2 : (w3).cell? ⟨w2.heap.size, 2, none⟩ = some (.slice A4 l4 c4) := hst3.hQ.cell 2
  have q_3 : (w3).cell? ⟨w2.heap.size, 3, none⟩ = some (.slice B4 k4 d4) := hst3.hQ.cell 3
  have g_0 : (w3).cell? ⟨G, 0, none⟩ = some (.bool false) := hst3.hG.cell 0
  have g_1 : (w3).cell? ⟨G, 1, none⟩ = some (.int .i64 0) := hst3.hG.cell 1
  have g_2 : (w3).cell? ⟨G, 2, none⟩ = some (.bool false) := hst3.hG.cell 2
  have g_3 : (w3).cell? ⟨G, 3, none⟩ = some (.slice none 0 0) := hst3.hG.cell 3
  have g_4 : (w3).cell? ⟨G, 4, none⟩ = some (.slice none 0 0) := hst3.hG.cell 4
  have g_5 : (w3).cell? ⟨G, 5, none⟩ = some (.int .i64 0) := hst3.hG.cell 5
  have g_6 : (w3).cell? ⟨G, 6, none⟩ = some (.bool false) := hst3.hG.cell 6
  have g_7 : (w3).cell? ⟨G, 7, none⟩ = some (.slice none 0 0) := hst3.hG.cell 7
  have g_8 : (w3).cell? ⟨G, 8, none⟩ = some (.slice none 0 0) := hst3.hG.cell 8
  have fg_0 : (w3).frozen? ⟨G, 0, none⟩ = false := hst3.hG.frozen 0
  have fg_1 : (w3).frozen? ⟨G, 1, none⟩ = false := hst3.hG.frozen 1
  have fg_2 : (w3).frozen? ⟨G, 2, none⟩ = false := hst3.hG.frozen 2
  have fg_3 : (w3).frozen? ⟨G, 3, none⟩ = false := hst3.hG.frozen 3
  have fg_4 : (w3).frozen? ⟨G, 4, none⟩ = false := hst3.hG.frozen 4
  have fg_5 : (w3).frozen? ⟨G, 5, none⟩ = false := hst3.hG.frozen 5
  have fg_6 : (w3).frozen? ⟨G, 6, none⟩ = false := hst3.hG.frozen 6
  have fg_7 : (w3).frozen? ⟨G, 7, none⟩ = false := hst3.hG.frozen 7
  have fg_8 : (w3).frozen? ⟨G, 8, none⟩ = false := hst3.hG.frozen 8
  have fp_0 : (w3).frozen? ⟨w1.heap.size, 0, none⟩ = false := hst3.hP.frozen 0
  have fp_1 : (w3).frozen? ⟨w1.heap.size, 1, none⟩ = false := hst3.hP.frozen 1
  have fp_2 : (w3).frozen? ⟨w1.heap.size, 2, none⟩ = false := hst3.hP.frozen 2
  have fp_3 : (w3).frozen? ⟨w1.heap.size, 3, none⟩ = false := hst3.hP.frozen 3
  have fq_0 : (w3).frozen? ⟨w2.heap.size, 0, none⟩ = false := hst3.hQ.frozen 0
  have fq_1 : (w3).frozen? ⟨w2.heap.size, 1, none⟩ = false := hst3.hQ.frozen 1
  have fq_2 : (w3).frozen? ⟨w2.heap.size, 2, none⟩ = false := hst3.hQ.frozen 2
  have fq_3 : (w3).frozen? ⟨w2.heap.size, 3, none⟩ = false := hst3.hQ.frozen 3
  have lG : G < (w3).heap.size := hst3.hG.lt
  have lP : w1.heap.size < (w3).heap.size := hst3.hP.lt
  have lQ : w2.heap.size < (w3).heap.size := hst3.hQ.lt
  go_wp2_with fail
  clear i_0 i_1 i_2 i_3 i_4 i_5 i_6 i_7 i_8 p_0 p_1 p_2 p_3 q_0 q_1 q_2 q_3 g_0 g_1 g_2 g_3 g_4 g_5 g_6 g_7 g_8 fg_0 fg_1 fg_2 fg_3 fg_4 fg_5 fg_6 fg_7 fg_8 fp_0 fp_1 fp_2 fp_3 fq_0 fq_1 fq_2 fq_3 lG lP lQ
  refine (HSA.out _ hst3.r1).mono ?_
  rintro e w5 ⟨rfl, hE5⟩
  have hst5 := hst3.ext hE5
  clear hst3 hE5
  have i_0 : (w5).cell? ⟨w.heap.size, 0, none⟩ = some (.bool false) := hst5.hH.cell 0
  have i_1 : (w5).cell? ⟨w.heap.size, 1, none⟩ = some (.int .i64 i1) := hst5.hH.cell 1
  have i_2 : (w5).cell? ⟨w.heap.size, 2, none⟩ = some (.bool s1) := hst5.hH.cell 2
  have i_3 : (w5).cell? ⟨w.heap.size, 3, none⟩ = some (.slice A1 l1 c1) := hst5.hH.cell 3
  have i_4 : (w5).cell? ⟨w.heap.size, 4, none⟩ = some (.slice B1 k1 d1) := hst5.hH.cell 4
  have i_5 : (w5).cell? ⟨w.heap.size, 5, none⟩ = some (.int .i64 i2) := hst5.hH.cell 5
  have i_6 : (w5).cell? ⟨w.heap.size, 6, none⟩ = some (.bool s2) := hst5.hH.cell 6
  have i_7 : (w5).cell? ⟨w.heap.size, 7, none⟩ = some (.slice A2 l2 c2) := hst5.hH.cell 7
  have i_8 : (w5).cell? ⟨w.heap.size, 8, none⟩ = some (.slice B2 k2 d2) := hst5.hH.cell 8
  have p_0 : (w5).cell? ⟨w1.heap.size, 0, none⟩ = some (.int .i64 i3) := hst5.hP.cell 0
  have p_1 : (w5).cell? ⟨w1.heap.size, 1, none⟩ = some (.bool s3) := hst5.hP.cell 1
  have p_2 : (w5).cell? ⟨w1.heap.size, 2, none⟩ = some (.slice A3 l3 c3) := hst5.hP.cell 2
  have p_3 : (w5).cell? ⟨w1.heap.size, 3, none⟩ = some (.slice B3 k3 d3) := hst5.hP.cell 3
  have q_0 : (w5).cell? ⟨w2.heap.size, 0, none⟩ = some (.int .i64 i4) := hst5.hQ.cell 0
  have q_1 : (w5).cell? ⟨w2.heap.size, 1, none⟩ = some (.bool s4) := hst5.hQ.cell 1
  have q_2 : (w5).cell? ⟨w2.heap.size, 2, none⟩ = some (.slice A4 l4 c4) := hst5.hQ.cell 2
  have q_3 : (w5).cell? ⟨w2.heap.size, 3, none⟩ = some (.slice B4 k4 d4) := hst5.hQ.cell 3
  have g_0 : (w5).cell? ⟨G, 0, none⟩ = some (.bool false) := hst5.hG.cell 0
  have g_1 : (w5).cell? ⟨G, 1, none⟩ = some (.int .i64 0) := hst5.hG.cell 1
  have g_2 : (w5).cell? ⟨G, 2, none⟩ = some (.bool false) := hst5.hG.cell 2
  have g_3 : (w5).cell? ⟨G, 3, none⟩ = some (.slice none 0 0) := hst5.hG.cell 3
  have g_4 : (w5).cell? ⟨G, 4, none⟩ = some (.slice none 0 0) := hst5.hG.cell 4
  have g_5 : (w5).cell? ⟨G, 5, none⟩ = some (.int .i64 0) := hst5.hG.cell 5
  have g_6 : (w5).cell? ⟨G, 6, none⟩ = some (.bool false) := hst5.hG.cell 6
  have g_7 : (w5).cell? ⟨G, 7, none⟩ = some (.slice none 0 0) := hst5.hG.cell 7
  have g_8 : (w5).cell? ⟨G, 8, none⟩ = some (.slice none 0 0) := hst5.hG.cell 8
  have fg_0 : (w5).frozen? ⟨G, 0, none⟩ = false := hst5.hG.frozen 0
  have fg_1 : (w5).frozen? ⟨G, 1, none⟩ = false := hst5.hG.frozen 1
  have fg_2 : (w5).frozen? ⟨G, 2, none⟩ = false := hst5.hG.frozen 2
  have fg_3 : (w5).frozen? ⟨G, 3, none⟩ = false := hst5.hG.frozen 3
  have fg_4 : (w5).frozen? ⟨G, 4, none⟩ = false := hst5.hG.frozen 4
  have fg_5 : (w5).frozen? ⟨G, 5, none⟩ = false := hst5.hG.frozen 5
  have fg_6 : (w5).frozen? ⟨G, 6, none⟩ = false := hst5.hG.frozen 6
  have fg_7 : (w5).frozen? ⟨G, 7, none⟩ = false := hst5.hG.frozen 7
  have fg_8 : (w5).frozen? ⟨G, 8, none⟩ = false := hst5.hG.frozen 8
  have fp_0 : (w5).frozen? ⟨w1.heap.size, 0, none⟩ = false := hst5.hP.frozen 0
  have fp_1 : (w5).frozen? ⟨w1.heap.size, 1, none⟩ = false := hst5.hP.frozen 1
  have fp_2 : (w5).frozen? ⟨w1.heap.size, 2, none⟩ = false := hst5.hP.frozen 2
  have fp_3 : (w5).frozen? ⟨w1.heap.size, 3, none⟩ = false := hst5.hP.frozen 3
  have fq_0 : (w5).frozen? ⟨w2.heap.size, 0, none⟩ = false := hst5.hQ.frozen 0
  have fq_1 : (w5).frozen? ⟨w2.heap.size, 1, none⟩ = false := hst5.hQ.frozen 1
  have fq_2 : (w5).frozen? ⟨w2.heap.size, 2, none⟩ = false := hst5.hQ.frozen 2
  have fq_3 : (w5).frozen? ⟨w2.heap.size, 3, none⟩ = false := hst5.hQ.frozen 3
  have lG : G < (w5).heap.size := hst5.hG.lt
  have lP : w1.heap.size < (w5).heap.size := hst5.hP.lt
  have lQ : w2.heap.size < (w5).heap.size := hst5.hQ.lt
  go_wp2_with fail
  clear i_0 i_1 i_2 i_3 i_4 i_5 i_6 i_7 i_8 p_0 p_1 p_2 p_3 q_0 q_1 q_2 q_3 g_0 g_1 g_2 g_3 g_4 g_5 g_6 g_7 g_8 fg_0 fg_1 fg_2 fg_3 fg_4 fg_5 fg_6 fg_7 fg_8 fp_0 fp_1 fp_2 fp_3 fq_0 fq_1 fq_2 fq_3 lG lP lQ
  refine (HSB.out _ hst5.r2).mono ?_
  rintro e w6 ⟨rfl, hE6⟩
  have hst6 := hst5.ext hE6
  clear hst5 hE6
  have i_0 : (w6).cell? ⟨w.heap.size, 0, none⟩ = some (.bool false) := hst6.hH.cell 0
  have i_1 : (w6).cell? ⟨w.heap.size, 1, none⟩ = some (.int .i64 i1) := hst6.hH.cell 1
  have i_2 : (w6).cell? ⟨w.heap.size, 2, none⟩ = some (.bool s1) := hst6.hH.cell 2
  have i_3 : (w6).cell? ⟨w.heap.size, 3, none⟩ = some (.slice A1 l1 c1) := hst6.hH.cell 3
  have i_4 : (w6).cell? ⟨w.heap.size, 4, none⟩ = some (.slice B1 k1 d1) := hst6.hH.cell 4
  have i_5 : (w6).cell? ⟨w.heap.size, 5, none⟩ = some (.int .i64 i2) := hst6.hH.cell 5
  have i_6 : (w6).cell? ⟨w.heap.size, 6, none⟩ = some (.bool s2) := hst6.hH.cell 6
  have i_7 : (w6).cell? ⟨w.heap.size, 7, none⟩ = some (.slice A2 l2 c2) := hst6.hH.cell 7
  have i_8 : (w6).cell? ⟨w.heap.size, 8, none⟩ = some (.slice B2 k2 d2) := hst6.hH.cell 8
  have p_0 : (w6).cell? ⟨w1.heap.size, 0, none⟩ = some (.int .i64 i3) := hst6.hP.cell 0
  have p_1 : (w6).cell? ⟨w1.heap.size, 1, none⟩ = some (.bool s3) := hst6.hP.cell 1
  have p_2 : (w6).cell? ⟨w1.heap.size, 2, none⟩ = some (.slice A3 l3 c3) := hst6.hP.cell 2
  have p_3 : (w6).cell? ⟨w1.heap.size, 3, none⟩ = some (.slice B3 k3 d3) := hst6.hP.cell 3
  have q_0 : (w6).cell? ⟨w2.heap.size, 0, none⟩ = some (.int .i64 i4) := hst6.hQ.cell 0
  have q_1 : (w6).cell? ⟨w2.heap.size, 1, none⟩ = some (.bool s4) := hst6.hQ.cell 1
  have q_2 : (w6).cell? ⟨w2.heap.size, 2, none⟩ = some (.slice A4 l4 c4) := hst6.hQ.cell 2
  have q_3 : (w6).cell? ⟨w2.heap.size, 3, none⟩ = some (.slice B4 k4 d4) := hst6.hQ.cell 3
  have g_0 : (w6).cell? ⟨G, 0, none⟩ = some (.bool false) := hst6.hG.cell 0
  have g_1 : (w6).cell? ⟨G, 1, none⟩ = some (.int .i64 0) := hst6.hG.cell 1
  have g_2 : (w6).cell? ⟨G, 2, none⟩ = some (.bool false) := hst6.hG.cell 2
  have g_3 : (w6).cell? ⟨G, 3, none⟩ = some (.slice none 0 0) := hst6.hG.cell 3
  have g_4 : (w6).cell? ⟨G, 4, none⟩ = some (.slice none 0 0) := hst6.hG.cell 4
  have g_5 : (w6).cell? ⟨G, 5, none⟩ = some (.int .i64 0) := hst6.hG.cell 5
  have g_6 : (w6).cell? ⟨G, 6, none⟩ = some (.bool false) := hst6.hG.cell 6
  have g_7 : (w6).cell? ⟨G, 7, none⟩ = some (.slice none 0 0) := hst6.hG.cell 7
  have g_8 : (w6).cell? ⟨G, 8, none⟩ = some (.slice none 0 0) := hst6.hG.cell 8
  have fg_0 : (w6).frozen? ⟨G, 0, none⟩ = false := hst6.hG.frozen 0
  have fg_1 : (w6).frozen? ⟨G, 1, none⟩ = false := hst6.hG.frozen 1
  have fg_2 : (w6).frozen? ⟨G, 2, none⟩ = false := hst6.hG.frozen 2
  have fg_3 : (w6).frozen? ⟨G, 3, none⟩ = false := hst6.hG.frozen 3
  have fg_4 : (w6).frozen? ⟨G, 4, none⟩ = false := hst6.hG.frozen 4
  have fg_5 : (w6).frozen? ⟨G, 5, none⟩ = false := hst6.hG.frozen 5
  have fg_6 : (w6).frozen? ⟨G, 6, none⟩ = false := hst6.hG.frozen 6
  have fg_7 : (w6).frozen? ⟨G, 7, none⟩ = false := hst6.hG.frozen 7
  have fg_8 : (w6).frozen? ⟨G, 8, none⟩ = false := hst6.hG.frozen 8
  have fp_0 : (w6).frozen? ⟨w1.heap.size, 0, none⟩ = false := hst6.hP.frozen 0
  have fp_1 : (w6).frozen? ⟨w1.heap.size, 1, none⟩ = false := hst6.hP.frozen 1
  have fp_2 : (w6).frozen? ⟨w1.heap.size, 2, none⟩ = false := hst6.hP.frozen 2
  have fp_3 : (w6).frozen? ⟨w1.heap.size, 3, none⟩ = false := hst6.hP.frozen 3
  have fq_0 : (w6).frozen? ⟨w2.heap.size, 0, none⟩ = false := hst6.hQ.frozen 0
  have fq_1 : (w6).frozen? ⟨w2.heap.size, 1, none⟩ = false := hst6.hQ.frozen 1
  have fq_2 : (w6).frozen? ⟨w2.heap.size, 2, none⟩ = false := hst6.hQ.frozen 2
  have fq_3 : (w6).frozen? ⟨w2.heap.size, 3, none⟩ = false := hst6.hQ.frozen 3
  have lG : G < (w6).heap.size := hst6.hG.lt
  have lP : w1.heap.size < (w6).heap.size := hst6.hP.lt
  have lQ : w2.heap.size < (w6).heap.size := hst6.hQ.lt
  go_wp2_with fail
  clear i_0 i_1 i_2 i_3 i_4 i_5 i_6 i_7 i_8 p_0 p_1 p_2 p_3 q_0 q_1 q_2 q_3 g_0 g_1 g_2 g_3 g_4 g_5 g_6 g_7 g_8 fg_0 fg_1 fg_2 fg_3 fg_4 fg_5 fg_6 fg_7 fg_8 fp_0 fp_1 fp_2 fp_3 fq_0 fq_1 fq_2 fq_3 lG lP lQ
  refine (HF.out _).mono ?_
  rintro e w7 ⟨A5, l5, c5, B5, k5, d5, rfl, h5, hE7⟩
  have hst7 := hst6.ext hE7
  have hst8 := hst7.setP h5 (i5 := 0) (s5 := false)
  have w7p_0 : w7.cell? ⟨w1.heap.size, 0, none⟩ = some (.int .i64 i3) := hst7.hP.cell 0
  have w7p_1 : w7.cell? ⟨w1.heap.size, 1, none⟩ = some (.bool s3) := hst7.hP.cell 1
  have w7p_2 : w7.cell? ⟨w1.heap.size, 2, none⟩ = some (.slice A3 l3 c3) := hst7.hP.cell 2
  have w7p_3 : w7.cell? ⟨w1.heap.size, 3, none⟩ = some (.slice B3 k3 d3) := hst7.hP.cell 3
  have f7p_0 : w7.frozen? ⟨w1.heap.size, 0, none⟩ = false := hst7.hP.frozen 0
  have f7p_1 : w7.frozen? ⟨w1.heap.size, 1, none⟩ = false := hst7.hP.frozen 1
  have f7p_2 : w7.frozen? ⟨w1.heap.size, 2, none⟩ = false := hst7.hP.frozen 2
  have f7p_3 : w7.frozen? ⟨w1.heap.size, 3, none⟩ = false := hst7.hP.frozen 3
  have l7p : w1.heap.size < w7.heap.size := hst7.hP.lt
  clear hst6 hE7 hst7 h5
  have i_0 : (((((w7).setCell ⟨w1.heap.size, 0, none⟩ (.int .i64 0)).setCell ⟨w1.heap.size, 1, none⟩ (.bool false)).setCell ⟨w1.heap.size, 2, none⟩ (.slice A5 l5 c5)).setCell ⟨w1.heap.size, 3, none⟩ (.slice B5 k5 d5)).cell? ⟨w.heap.size, 0, none⟩ = some (.bool false) := hst8.hH.cell 0
  have i_1 : (((((w7).setCell ⟨w1.heap.size, 0, none⟩ (.int .i64 0)).setCell ⟨w1.heap.size, 1, none⟩ (.bool false)).setCell ⟨w1.heap.size, 2, none⟩ (.slice A5 l5 c5)).setCell ⟨w1.heap.size, 3, none⟩ (.slice B5 k5 d5)).cell? ⟨w.heap.size, 1, none⟩ = some (.int .i64 i1) := hst8.hH.cell 1
  have i_2 : (((((w7).setCell ⟨w1.heap.size, 0, none⟩ (.int .i64 0)).setCell ⟨w1.heap.size, 1, none⟩ (.bool false)).setCell ⟨w1.heap.size, 2, none⟩ (.slice A5 l5 c5)).setCell ⟨w1.heap.size, 3, none⟩ (.slice B5 k5 d5)).cell? ⟨w.heap.size, 2, none⟩ = some (.bool s1) := hst8.hH.cell 2
  have i_3 : (((((w7).setCell ⟨w1.heap.size, 0, none⟩ (.int .i64 0)).setCell ⟨w1.heap.size, 1, none⟩ (.bool false)).setCell ⟨w1.heap.size, 2, none⟩ (.slice A5 l5 c5)).setCell ⟨w1.heap.size, 3, none⟩ (.slice B5 k5 d5)).cell? ⟨w.heap.size, 3, none⟩ = some (.slice A1 l1 c1) := hst8.hH.cell 3
  have i_4 : (((((w7).setCell ⟨w1.heap.size, 0, none⟩ (.int .i64 0)).setCell ⟨w1.heap.size, 1, none⟩ (.bool false)).setCell ⟨w1.heap.size, 2, none⟩ (.slice A5 l5 c5)).setCell ⟨w1.heap.size, 3, none⟩ (.slice B5 k5 d5)).cell? ⟨w.heap.size, 4, none⟩ = some (.slice B1 k1 d1) := hst8.hH.cell 4
  have i_5 : (((((w7).setCell ⟨w1.heap.size, 0, none⟩ (.int .i64 0)).setCell ⟨w1.heap.size, 1, none⟩ (.bool false)).setCell ⟨w1.heap.size, 2, none⟩ (.slice A5 l5 c5)).setCell ⟨w1.heap.size, 3, none⟩ (.slice B5 k5 d5)).cell? ⟨w.heap.size, 5, none⟩ = some (.int .i64 i2) := hst8.hH.cell 5
  have i_6 : (((((w7).setCell ⟨w1.heap.size, 0, none⟩ (.int .i64 0)).setCell ⟨w1.heap.size, 1, none⟩ (.bool false)).setCell ⟨w1.heap.size, 2, none⟩ (.slice A5 l5 c5)).setCell ⟨w1.heap.size, 3, none⟩ (.slice B5 k5 d5)).cell? ⟨w.heap.size, 6, none⟩ = some (.bool s2) := hst8.hH.cell 6
  have i_7 : (((((w7).setCell ⟨w1.heap.size, 0, none⟩ (.int .i64 0)).setCell ⟨w1.heap.size, 1, none⟩ (.bool false)).setCell ⟨w1.heap.size, 2, none⟩ (.slice A5 l5 c5)).setCell ⟨w1.heap.size, 3, none⟩ (.slice B5 k5 d5)).cell? ⟨w.heap.size, 7, none⟩ = some (.slice A2 l2 c2) := hst8.hH.cell 7
  have i_8 : (((((w7).setCell ⟨w1.heap.size, 0, none⟩ (.int .i64 0)).setCell ⟨w1.heap.size, 1, none⟩ (.bool false)).setCell ⟨w1.heap.size, 2, none⟩ (.slice A5 l5 c5)).setCell ⟨w1.heap.size, 3, none⟩ (.slice B5 k5 d5)).cell? ⟨w.heap.size, 8, none⟩ = some (.slice B2 k2 d2) := hst8.hH.cell 8
  have p_0 : (((((w7).setCell ⟨w1.heap.size, 0, none⟩ (.int .i64 0)).setCell ⟨w1.heap.size, 1, none⟩ (.bool false)).setCell ⟨w1.heap.size, 2, none⟩ (.slice A5 l5 c5)).setCell ⟨w1.heap.size, 3, none⟩ (.slice B5 k5 d5)).cell? ⟨w1.heap.size, 0, none⟩ = some (.int .i64 0) := hst8.hP.cell 0
  have p_1 : (((((w7).setCell ⟨w1.heap.size, 0, none⟩ (.int .i64 0)).setCell ⟨w1.heap.size, 1, none⟩ (.bool false)).setCell ⟨w1.heap.size, 2, none⟩ (.slice A5 l5 c5)).setCell ⟨w1.heap.size, 3, none⟩ (.slice B5 k5 d5)).cell? ⟨w1.heap.size, 1, none⟩ = some (.bool false) := hst8.hP.cell 1
  have p_2 : (((((w7).setCell ⟨w1.heap.size, 0, none⟩ (.int .i64 0)).setCell ⟨w1.heap.size, 1, none⟩ (.bool false)).setCell ⟨w1.heap.size, 2, none⟩ (.slice A5 l5 c5)).setCell ⟨w1.heap.size, 3, none⟩ (.slice B5 k5 d5)).cell? ⟨w1.heap.size, 2, none⟩ = some (.slice A5 l5 c5) := hst8.hP.cell 2
  have p_3 : (((((w7).setCell ⟨w1.heap.size, 0, none⟩ (.int .i64 0)).setCell ⟨w1.heap.size, 1, none⟩ (.bool false)).setCell ⟨w1.heap.size, 2, none⟩ (.slice A5 l5 c5)).setCell ⟨w1.heap.size, 3, none⟩ (.slice B5 k5 d5)).cell? ⟨w1.heap.size, 3, none⟩ = some (.slice B5 k5 d5) := hst8.hP.cell 3
  have q_0 : (((((w7).setCell ⟨w1.heap.size, 0, none⟩ (.int .i64 0)).setCell ⟨w1.heap.size, 1, none⟩ (.bool false)).setCell ⟨w1.heap.size, 2, none⟩ (.slice A5 l5 c5)).setCell ⟨w1.heap.size, 3, none⟩ (.slice B5 k5 d5)).cell? ⟨w2.heap.size, 0, none⟩ = some (.int .i64 i4) := hst8.hQ.cell 0
  have q_1 : (((((w7).setCell ⟨w1.heap.size, 0, none⟩ (.int .i64 0)).setCell ⟨w1.heap.size, 1, none⟩ (.bool false)).setCell ⟨w1.heap.size, 2, none⟩ (.slice A5 l5 c5)).setCell ⟨w1.heap.size, 3, none⟩ (.slice B5 k5 d5)).cell? ⟨w2.heap.size, 1, none⟩ = some (.bool s4) := hst8.hQ.cell 1
  have q_2 : (((((w7).setCell ⟨w1.heap.size, 0, none⟩ (.int .i64 0)).setCell ⟨w1.heap.size, 1, none⟩ (.bool false)).setCell ⟨w1.heap.size, 2, none⟩ (.slice A5 l5 c5)).setCell ⟨w1.heap.size, 3, none⟩ (.slice B5 k5 d5)).cell? ⟨w2.heap.size, 2, none⟩ = some (.slice A4 l4 c4) := hst8.hQ.cell 2
  have q_3 : (((((w7).setCell ⟨w1.heap.size, 0, none⟩ (.int .i64 0)).setCell ⟨w1.heap.size, 1, none⟩ (.bool false)).setCell ⟨w1.heap.size, 2, none⟩ (.slice A5 l5 c5)).setCell ⟨w1.heap.size, 3, none⟩ (.slice B5 k5 d5)).cell? ⟨w2.heap.size, 3, none⟩ = some (.slice B4 k4 d4) := hst8.hQ.cell 3
  have g_0 : (((((w7).setCell ⟨w1.heap.size, 0, none⟩ (.int .i64 0)).setCell ⟨w1.heap.size, 1, none⟩ (.bool false)).setCell ⟨w1.heap.size, 2, none⟩ (.slice A5 l5 c5)).setCell ⟨w1.heap.size, 3, none⟩ (.slice B5 k5 d5)).cell? ⟨G, 0, none⟩ = some (.bool false) := hst8.hG.cell 0
  have g_1 : (((((w7).setCell ⟨w1.heap.size, 0, none⟩ (.int .i64 0)).setCell ⟨w1.heap.size, 1, none⟩ (.bool false)).setCell ⟨w1.heap.size, 2, none⟩ (.slice A5 l5 c5)).setCell ⟨w1.heap.size, 3, none⟩ (.slice B5 k5 d5)).cell? ⟨G, 1, none⟩ = some (.int .i64 0) := hst8.hG.cell 1
  have g_2 : (((((w7).setCell ⟨w1.heap.size, 0, none⟩ (.int .i64 0)).setCell ⟨w1.heap.size, 1, none⟩ (.bool false)).setCell ⟨w1.heap.size, 2, none⟩ (.slice A5 l5 c5)).setCell ⟨w1.heap.size, 3, none⟩ (.slice B5 k5 d5)).cell? ⟨G, 2, none⟩ = some (.bool false) := hst8.hG.cell 2
  have g_3 : (((((w7).setCell ⟨w1.heap.size, 0, none⟩ (.int .i64 0)).setCell ⟨w1.heap.size, 1, none⟩ (.bool false)).setCell ⟨w1.heap.size, 2, none⟩ (.slice A5 l5 c5)).setCell ⟨w1.heap.size, 3, none⟩ (.slice B5 k5 d5)).cell? ⟨G, 3, none⟩ = some (.slice none 0 0) := hst8.hG.cell 3
  have g_4 : (((((w7).setCell ⟨w1.heap.size, 0, none⟩ (.int .i64 0)).setCell ⟨w1.heap.size, 1, none⟩ (.bool false)).setCell ⟨w1.heap.size, 2, none⟩ (.slice A5 l5 c5)).setCell ⟨w1.heap.size, 3, none⟩ (.slice B5 k5 d5)).cell? ⟨G, 4, none⟩ = some (.slice none 0 0) := hst8.hG.cell 4
  have g_5 : (((((w7).setCell ⟨w1.heap.size, 0, none⟩ (.int .i64 0)).setCell ⟨w1.heap.size, 1, none⟩ (.bool false)).setCell ⟨w1.heap.size, 2, none⟩ (.slice A5 l5 c5)).setCell ⟨w1.heap.size, 3, none⟩ (.slice B5 k5 d5)).cell? ⟨G, 5, none⟩ = some (.int .i64 0) := hst8.hG.cell 5
  have g_6 : (((((w7).setCell ⟨w1.heap.size, 0, none⟩ (.int .i64 0)).setCell ⟨w1.heap.size, 1, none⟩ (.bool false)).setCell ⟨w1.heap.size, 2, none⟩ (.slice A5 l5 c5)).setCell ⟨w1.heap.size, 3, none⟩ (.slice B5 k5 d5)).cell? ⟨G, 6, none⟩ = some (.bool false) := hst8.hG.cell 6
  have g_7 : (((((w7).setCell ⟨w1.heap.size, 0, none⟩ (.int .i64 0)).setCell ⟨w1.heap.size, 1, none⟩ (.bool false)).setCell ⟨w1.heap.size, 2, none⟩ (.slice A5 l5 c5)).setCell ⟨w1.heap.size, 3, none⟩ (.slice B5 k5 d5)).cell? ⟨G, 7, none⟩ = some (.slice none 0 0) := hst8.hG.cell 7
  have g_8 : (((((w7).setCell ⟨w1.heap.size, 0, none⟩ (.int .i64 0)).setCell ⟨w1.heap.size, 1, none⟩ (.bool false)).setCell ⟨w1.heap.size, 2, none⟩ (.slice A5 l5 c5)).setCell ⟨w1.heap.size, 3, none⟩ (.slice B5 k5 d5)).cell? ⟨G, 8, none⟩ = some (.slice none 0 0) := hst8.hG.cell 8
  have fg_0 : (((((w7).setCell ⟨w1.heap.size, 0, none⟩ (.int .i64 0)).setCell ⟨w1.heap.size, 1, none⟩ (.bool false)).setCell ⟨w1.heap.size, 2, none⟩ (.slice A5 l5 c5)).setCell ⟨w1.heap.size, 3, none⟩ (.slice B5 k5 d5)).frozen? ⟨G, 0, none⟩ = false := hst8.hG.frozen 0
  have fg_1 : (((((w7).setCell ⟨w1.heap.size, 0, none⟩ (.int .i64 0)).setCell ⟨w1.heap.size, 1, none⟩ (.bool false)).setCell ⟨w1.heap.size, 2, none⟩ (.slice A5 l5 c5)).setCell ⟨w1.heap.size, 3, none⟩ (.slice B5 k5 d5)).frozen? ⟨G, 1, none⟩ = false := hst8.hG.frozen 1
  have fg_2 : (((((w7).setCell ⟨w1.heap.size, 0, none⟩ (.int .i64 0)).setCell ⟨w1.heap.size, 1, none⟩ (.bool false)).setCell ⟨w1.heap.size, 2, none⟩ (.slice A5 l5 c5)).setCell ⟨w1.heap.size, 3, none⟩ (.slice B5 k5 d5)).frozen? ⟨G, 2, none⟩ = false := hst8.hG.frozen 2
  have fg_3 : (((((w7).setCell ⟨w1.heap.size, 0, none⟩ (.int .i64 0)).setCell ⟨w1.heap.size, 1, none⟩ (.bool false)).setCell ⟨w1.heap.size, 2, none⟩ (.slice A5 l5 c5)).setCell ⟨w1.heap.size, 3, none⟩ (.slice B5 k5 d5)).frozen? ⟨G, 3, none⟩ = false := hst8.hG.frozen 3
  have fg_4 : (((((w7).setCell ⟨w1.heap.size, 0, none⟩ (.int .i64 0)).setCell ⟨w1.heap.size, 1, none⟩ (.bool false)).setCell ⟨w1.heap.size, 2, none⟩ (.slice A5 l5 c5)).setCell ⟨w1.heap.size, 3, none⟩ (.slice B5 k5 d5)).frozen? ⟨G, 4, none⟩ = false := hst8.hG.frozen 4
  have fg_5 : (((((w7).setCell ⟨w1.heap.size, 0, none⟩ (.int .i64 0)).setCell ⟨w1.heap.size, 1, none⟩ (.bool false)).setCell ⟨w1.heap.size, 2, none⟩ (.slice A5 l5 c5)).setCell ⟨w1.heap.size, 3, none⟩ (.slice B5 k5 d5)).frozen? ⟨G, 5, none⟩ = false := hst8.hG.frozen 5
  have fg_6 : (((((w7).setCell ⟨w1.heap.size, 0, none⟩ (.int .i64 0)).setCell ⟨w1.heap.size, 1, none⟩ (.bool false)).setCell ⟨w1.heap.size, 2, none⟩ (.slice A5 l5 c5)).setCell ⟨w1.heap.size, 3, none⟩ (.slice B5 k5 d5)).frozen? ⟨G, 6, none⟩ = false := hst8.hG.frozen 6
  have fg_7 : (((((w7).setCell ⟨w1.heap.size, 0, none⟩ (.int .i64 0)).setCell ⟨w1.heap.size, 1, none⟩ (.bool false)).setCell ⟨w1.heap.size, 2, none⟩ (.slice A5 l5 c5)).setCell ⟨w1.heap.size, 3, none⟩ (.slice B5 k5 d5)).frozen? ⟨G, 7, none⟩ = false := hst8.hG.frozen 7
  have fg_8 : (((((w7).setCell ⟨w1.heap.size, 0, none⟩ (.int .i64 0)).setCell ⟨w1.heap.size, 1, none⟩ (.bool false)).setCell ⟨w1.heap.size, 2, none⟩ (.slice A5 l5 c5)).setCell ⟨w1.heap.size, 3, none⟩ (.slice B5 k5 d5)).frozen? ⟨G, 8, none⟩ = false := hst8.hG.frozen 8
  have fp_0 : (((((w7).setCell ⟨w1.heap.size, 0, none⟩ (.int .i64 0)).setCell ⟨w1.heap.size, 1, none⟩ (.bool false)).setCell ⟨w1.heap.size, 2, none⟩ (.slice A5 l5 c5)).setCell ⟨w1.heap.size, 3, none⟩ (.slice B5 k5 d5)).frozen? ⟨w1.heap.size, 0, none⟩ = false := hst8.hP.frozen 0
  have fp_1 : (((((w7).setCell ⟨w1.heap.size, 0, none⟩ (.int .i64 0)).setCell ⟨w1.heap.size, 1, none⟩ (.bool false)).setCell ⟨w1.heap.size, 2, none⟩ (.slice A5 l5 c5)).setCell ⟨w1.heap.size, 3, none⟩ (.slice B5 k5 d5)).frozen? ⟨w1.heap.size, 1, none⟩ = false := hst8.hP.frozen 1
  have fp_2 : (((((w7).setCell ⟨w1.heap.size, 0, none⟩ (.int .i64 0)).setCell ⟨w1.heap.size, 1, none⟩ (.bool false)).setCell ⟨w1.heap.size, 2, none⟩ (.slice A5 l5 c5)).setCell ⟨w1.heap.size, 3, none⟩ (.slice B5 k5 d5)).frozen? ⟨w1.heap.size, 2, none⟩ = false := hst8.hP.frozen 2
  have fp_3 : (((((w7).setCell ⟨w1.heap.size, 0, none⟩ (.int .i64 0)).setCell ⟨w1.heap.size, 1, none⟩ (.bool false)).setCell ⟨w1.heap.size, 2, none⟩ (.slice A5 l5 c5)).setCell ⟨w1.heap.size, 3, none⟩ (.slice B5 k5 d5)).frozen? ⟨w1.heap.size, 3, none⟩ = false := hst8.hP.frozen 3
  have fq_0 : (((((w7).setCell ⟨w1.heap.size, 0, none⟩ (.int .i64 0)).setCell ⟨w1.heap.size, 1, none⟩ (.bool false)).setCell ⟨w1.heap.size, 2, none⟩ (.slice A5 l5 c5)).setCell ⟨w1.heap.size, 3, none⟩ (.slice B5 k5 d5)).frozen? ⟨w2.heap.size, 0, none⟩ = false := hst8.hQ.frozen 0
  have fq_1 : (((((w7).setCell ⟨w1.heap.size, 0, none⟩ (.int .i64 0)).setCell ⟨w1.heap.size, 1, none⟩ (.bool false)).setCell ⟨w1.heap.size, 2, none⟩ (.slice A5 l5 c5)).setCell ⟨w1.heap.size, 3, none⟩ (.slice B5 k5 d5)).frozen? ⟨w2.heap.size, 1, none⟩ = false := hst8.hQ.frozen 1
  have fq_2 : (((((w7).setCell ⟨w1.heap.size, 0, none⟩ (.int .i64 0)).setCell ⟨w1.heap.size, 1, none⟩ (.bool false)).setCell ⟨w1.heap.size, 2, none⟩ (.slice A5 l5 c5)).setCell ⟨w1.heap.size, 3, none⟩ (.slice B5 k5 d5)).frozen? ⟨w2.heap.size, 2, none⟩ = false := hst8.hQ.frozen 2
  have fq_3 : (((((w7).setCell ⟨w1.heap.size, 0, none⟩ (.int .i64 0)).setCell ⟨w1.heap.size, 1, none⟩ (.bool false)).setCell ⟨w1.heap.size, 2, none⟩ (.slice A5 l5 c5)).setCell ⟨w1.heap.size, 3, none⟩ (.slice B5 k5 d5)).frozen? ⟨w2.heap.size, 3, none⟩ = false := hst8.hQ.frozen 3
  have lG : G < (((((w7).setCell ⟨w1.heap.size, 0, none⟩ (.int .i64 0)).setCell ⟨w1.heap.size, 1, none⟩ (.bool false)).setCell ⟨w1.heap.size, 2, none⟩ (.slice A5 l5 c5)).setCell ⟨w1.heap.size, 3, none⟩ (.slice B5 k5 d5)).heap.size := hst8.hG.lt
  have lP : w1.heap.size < (((((w7).setCell ⟨w1.heap.size, 0, none⟩ (.int .i64 0)).setCell ⟨w1.heap.size, 1, none⟩ (.bool false)).setCell ⟨w1.heap.size, 2, none⟩ (.slice A5 l5 c5)).setCell ⟨w1.heap.size, 3, none⟩ (.slice B5 k5 d5)).heap.size := hst8.hP.lt
  have lQ : w2.heap.size < (((((w7).setCell ⟨w1.heap.size, 0, none⟩ (.int .i64 0)).setCell ⟨w1.heap.size, 1, none⟩ (.bool false)).setCell ⟨w1.heap.size, 2, none⟩ (.slice A5 l5 c5)).setCell ⟨w1.heap.size, 3, none⟩ (.slice B5 k5 d5)).heap.size := hst8.hQ.lt
  go_wp2_with fail
  exact bodyPost_ret (v := .agg #[.bool false, .int .i64 0, .bool false, .slice A5 l5 c5, .slice B5 k5 d5, .int .i64 i4, .bool s4, .slice A4 l4 c4, .slice B4 k4 d4]) (by simp [results, Try.results64, go_sem, lG, g_0, g_1, g_2, g_3, g_4, g_5, g_6, g_7, g_8]) rfl
    ⟨_, _, _, _, _, _, _, _, _, _, _, _, rfl, (RatBox.mk hst8.r3 hst8.hG (NoU.of rfl)).set9 rfl rfl rfl rfl rfl rfl rfl rfl rfl, (RatBox.mk hst8.r4 hst8.hG (NoU.of rfl)).set9 rfl rfl rfl rfl rfl rfl rfl rfl rfl, hst8.ex.set9 hGw _ _ _ _ _ _ _ _ _⟩

set_option maxHeartbeats 4000000 in
theorem size_ya (i1 : Int) (s1 : Bool) (A1 : Option Addr) (l1 c1 : Nat) (B1 : Option Addr) (k1 d1 N1 D1 : Nat) (i2 : Int) (s2 : Bool) (A2 : Option Addr) (l2 c2 : Nat) (B2 : Option Addr) (k2 d2 N2 D2 : Nat) (i3 : Int) (s3 : Bool) (N3 D3 : Nat) (i4 : Int) (s4 : Bool) (N4 D4 : Nat) (x y1 y2 : Int) (F E : Nat) (w : World) (h1 : RatAt w A1 l1 c1 B1 k1 d1 N1 D1) (h2 : RatAt w A2 l2 c2 B2 k2 d2 N2 D2)
    (HM1 : Hid (∀ w, RatAt w A1 l1 c1 B1 k1 d1 N1 D1 → Calls Try.prog 94 #[.agg #[.int .i64 i1, .bool s1, .slice A1 l1 c1, .slice B1 k1 d1]] w (RetEnd i3 s3 N3 D3 w)))
    (HM2 : Hid (∀ w, RatAt w A2 l2 c2 B2 k2 d2 N2 D2 → Calls Try.prog 94 #[.agg #[.int .i64 i2, .bool s2, .slice A2 l2 c2, .slice B2 k2 d2]] w (RetEnd i4 s4 N4 D4 w)))
    (HC : Hid (∀ A3 l3 c3 B3 k3 d3 A4 l4 c4 B4 k4 d4 w, RatAt w A3 l3 c3 B3 k3 d3 N3 D3 → RatAt w A4 l4 c4 B4 k4 d4 N4 D4 → Calls Try.prog 65 #[.agg #[.int .i64 i3, .bool s3, .slice A3 l3 c3, .slice B3 k3 d3], .agg #[.int .i64 i4, .bool s4, .slice A4 l4 c4, .slice B4 k4 d4]] w fun e w' => e = .returned (.int .i64 x) ∧ Ext w w'))
    (HSA : Hid (∀ w, RatAt w A1 l1 c1 B1 k1 d1 N1 D1 → Calls Try.prog 95 #[.agg #[.int .i64 i1, .bool s1, .slice A1 l1 c1, .slice B1 k1 d1]] w fun e w' => e = .returned (.int .i64 y1) ∧ Ext w w'))
    (HSB : Hid (∀ w, RatAt w A2 l2 c2 B2 k2 d2 N2 D2 → Calls Try.prog 95 #[.agg #[.int .i64 i2, .bool s2, .slice A2 l2 c2, .slice B2 k2 d2]] w fun e w' => e = .returned (.int .i64 y2) ∧ Ext w w'))
    (HF : Hid (∀ w, Calls Try.prog 92 #[.int .i64 0] w (RetEnd 0 false F E w)))
    (hx : decide (0 < x) = true) (hy1 : decide (y1 ≤ 0) = false)  :
    Calls Try.prog 64 #[.agg #[.bool false, .int .i64 i1, .bool s1, .slice A1 l1 c1, .slice B1 k1 d1, .int .i64 i2, .bool s2, .slice A2 l2 c2, .slice B2 k2 d2]] w (RetSet false i4 s4 N4 D4 i3 s3 N3 D3 w) := by
  have hbG := Blk.new2 w (.cells #[.bool false, .int .i64 i1, .bool s1, .slice A1 l1 c1, .slice B1 k1 d1, .int .i64 i2, .bool s2, .slice A2 l2 c2, .slice B2 k2 d2] 70) 70 #[.bool false, .int .i64 0, .bool false, .slice none 0 0, .slice none 0 0, .int .i64 0, .bool false, .slice none 0 0, .slice none 0 0]
  have hbI := (Blk.new w 70 #[.bool false, .int .i64 i1, .bool s1, .slice A1 l1 c1, .slice B1 k1 d1, .int .i64 i2, .bool s2, .slice A2 l2 c2, .slice B2 k2 d2]).ext ((Ext.refl _).alloc (.cells #[.bool false, .int .i64 0, .bool false, .slice none 0 0, .slice none 0 0, .int .i64 0, .bool false, .slice none 0 0, .slice none 0 0] 70))
  have hEw : Ext w ((w.alloc (.cells #[.bool false, .int .i64 i1, .bool s1, .slice A1 l1 c1, .slice B1 k1 d1, .int .i64 i2, .bool s2, .slice A2 l2 c2, .slice B2 k2 d2] 70)).alloc (.cells #[.bool false, .int .i64 0, .bool false, .slice none 0 0, .slice none 0 0, .int .i64 0, .bool false, .slice none 0 0, .slice none 0 0] 70)) := ((Ext.refl w).alloc _).alloc _
  obtain ⟨G, hG⟩ : ∃ G, G = w.heap.size + 1 := ⟨_, rfl⟩
  rw [← hG] at hbG
  have hGw : w.heap.size ≤ G := by omega
  have HGS := Lib.hid (show w.heap.size + 1 = G from hG.symm)
  have hr1 := h1.ext hEw
  have hr2 := h2.ext hEw
  clear hG h1 h2
  go_enter Try.func64, Try.ntmps64
  go_wp2_with fail
  refine (HM1.out _ hr1).mono ?_
  rintro e w1 ⟨A3, l3, c3, B3, k3, d3, rfl, h3, hE1⟩
  rw [HGS.out]
  clear HGS
  have hE1' : Ext w1 (w1.alloc (.cells #[.int .i64 i3, .bool s3, .slice A3 l3 c3, .slice B3 k3 d3] 68)) := (Ext.refl w1).alloc _
  have hbP := Blk.new w1 68 #[.int .i64 i3, .bool s3, .slice A3 l3 c3, .slice B3 k3 d3]
  have hbG1 := (hbG.ext hE1).ext hE1'
  have hbI1 := (hbI.ext hE1).ext hE1'
  have hr11 := (hr1.ext hE1).ext hE1'
  have hr21 := (hr2.ext hE1).ext hE1'
  have h31 := h3.ext hE1'
  have hEw1 := (hEw.trans hE1).trans hE1'
  have hlt1 : w.heap.size < w1.heap.size := by have a := hbI.lt; have b := hE1.size; omega
  have hlt2 : G < w1.heap.size := by have a := hbG.lt; have b := hE1.size; omega
  have hlt3 : w.heap.size ≤ w1.heap.size := by omega
  clear hbG hbI hr1 hr2 h3 hEw hE1 hE1'
  have i_0 : (w1.alloc (.cells #[.int .i64 i3, .bool s3, .slice A3 l3 c3, .slice B3 k3 d3] 68)).cell? ⟨w.heap.size, 0, none⟩ = some (.bool false) := hbI1.cell 0
  have i_1 : (w1.alloc (.cells #[.int .i64 i3, .bool s3, .slice A3 l3 c3, .slice B3 k3 d3] 68)).cell? ⟨w.heap.size, 1, none⟩ = some (.int .i64 i1) := hbI1.cell 1
  have i_2 : (w1.alloc (.cells #[.int .i64 i3, .bool s3, .slice A3 l3 c3, .slice B3 k3 d3] 68)).cell? ⟨w.heap.size, 2, none⟩ = some (.bool s1) := hbI1.cell 2
  have i_3 : (w1.alloc (.cells #[.int .i64 i3, .bool s3, .slice A3 l3 c3, .slice B3 k3 d3] 68)).cell? ⟨w.heap.size, 3, none⟩ = some (.slice A1 l1 c1) := hbI1.cell 3
  have i_4 : (w1.alloc (.cells #[.int .i64 i3, .bool s3, .slice A3 l3 c3, .slice B3 k3 d3] 68)).cell? ⟨w.heap.size, 4, none⟩ = some (.slice B1 k1 d1) := hbI1.cell 4
  have i_5 : (w1.alloc (.cells #[.int .i64 i3, .bool s3, .slice A3 l3 c3, .slice B3 k3 d3] 68)).cell? ⟨w.heap.size, 5, none⟩ = some (.int .i64 i2) := hbI1.cell 5
  have i_6 : (w1.alloc (.cells #[.int .i64 i3, .bool s3, .slice A3 l3 c3, .slice B3 k3 d3] 68)).cell? ⟨w.heap.size, 6, none⟩ = some (.bool s2) := hbI1.cell 6
  have i_7 : (w1.alloc (.cells #[.int .i64 i3, .bool s3, .slice A3 l3 c3, .slice B3 k3 d3] 68)).cell? ⟨w.heap.size, 7, none⟩ = some (.slice A2 l2 c2) := hbI1.cell 7
  have i_8 : (w1.alloc (.cells #[.int .i64 i3, .bool s3, .slice A3 l3 c3, .slice B3 k3 d3] 68)).cell? ⟨w.heap.size, 8, none⟩ = some (.slice B2 k2 d2) := hbI1.cell 8
  go_wp2_with fail
  clear i_0 i_1 i_2 i_3 i_4 i_5 i_6 i_7 i_8
  refine (HM2.out _ hr21).mono ?_
  rintro e w2 ⟨A4, l4, c4, B4, k4, d4, rfl, h4, hE2⟩
  have hE2' : Ext (w1.alloc (.cells #[.int .i64 i3, .bool s3, .slice A3 l3 c3, .slice B3 k3 d3] 68)) (w2.alloc (.cells #[.int .i64 i4, .bool s4, .slice A4 l4 c4, .slice B4 k4 d4] 68)) := hE2.alloc _
  have hst : MZ w.heap.size G w1.heap.size w2.heap.size i1 s1 A1 l1 c1 B1 k1 d1 N1 D1 i2 s2 A2 l2 c2 B2 k2 d2 N2 D2 i3 s3 A3 l3 c3 B3 k3 d3 N3 D3 i4 s4 A4 l4 c4 B4 k4 d4 N4 D4 w (w2.alloc (.cells #[.int .i64 i4, .bool s4, .slice A4 l4 c4, .slice B4 k4 d4] 68)) :=
    ⟨hbI1.ext hE2', hbG1.ext hE2', hbP.ext hE2', Blk.new w2 _ _, hr11.ext hE2', hr21.ext hE2', h31.ext hE2', h4.ext ((Ext.refl w2).alloc _), hEw1.trans hE2', hlt3, hlt1, hlt2, by have a := hbP.lt; have b := hE2.size; omega⟩
  clear hbI1 hbG1 hbP hr11 hr21 h31 h4 hEw1 hE2 hE2' hlt1 hlt2 hlt3
  have i_0 : (w2.alloc (.cells #[.int .i64 i4, .bool s4, .slice A4 l4 c4, .slice B4 k4 d4] 68)).cell? ⟨w.heap.size, 0, none⟩ = some (.bool false) := hst.hH.cell 0
  have i_1 : (w2.alloc (.cells #[.int .i64 i4, .bool s4, .slice A4 l4 c4, .slice B4 k4 d4] 68)).cell? ⟨w.heap.size, 1, none⟩ = some (.int .i64 i1) := hst.hH.cell 1
  have i_2 : (w2.alloc (.cells #[.int .i64 i4, .bool s4, .slice A4 l4 c4, .slice B4 k4 d4] 68)).cell? ⟨w.heap.size, 2, none⟩ = some (.bool s1) := hst.hH.cell 2
  have i_3 : (w2.alloc (.cells #[.int .i64 i4, .bool s4, .slice A4 l4 c4, .slice B4 k4 d4] 68)).cell? ⟨w.heap.size, 3, none⟩ = some (.slice A1 l1 c1) := hst.hH.cell 3
  have i_4 : (w2.alloc (.cells #[.int .i64 i4, .bool s4, .slice A4 l4 c4, .slice B4 k4 d4] 68)).cell? ⟨w.heap.size, 4, none⟩ = some (.slice B1 k1 d1) := hst.hH.cell 4
  have i_5 : (w2.alloc (.cells #[.int .i64 i4, .bool s4, .slice A4 l4 c4, .slice B4 k4 d4] 68)).cell? ⟨w.heap.size, 5, none⟩ = some (.int .i64 i2) := hst.hH.cell 5
  have i_6 : (w2.alloc (.cells #[.int .i64 i4, .bool s4, .slice A4 l4 c4, .slice B4 k4 d4] 68)).cell? ⟨w.heap.size, 6, none⟩ = some (.bool s2) := hst.hH.cell 6
  have i_7 : (w2.alloc (.cells #[.int .i64 i4, .bool s4, .slice A4 l4 c4, .slice B4 k4 d4] 68)).cell? ⟨w.heap.size, 7, none⟩ = some (.slice A2 l2 c2) := hst.hH.cell 7
  have i_8 : (w2.alloc (.cells #[.int .i64 i4, .bool s4, .slice A4 l4 c4, .slice B4 k4 d4] 68)).cell? ⟨w.heap.size, 8, none⟩ = some (.slice B2 k2 d2) := hst.hH.cell 8
  have p_0 : (w2.alloc (.cells #[.int .i64 i4, .bool s4, .slice A4 l4 c4, .slice B4 k4 d4] 68)).cell? ⟨w1.heap.size, 0, none⟩ = some (.int .i64 i3) := hst.hP.cell 0
  have p_1 : (w2.alloc (.cells #[.int .i64 i4, .bool s4, .slice A4 l4 c4, .slice B4 k4 d4] 68)).cell? ⟨w1.heap.size, 1, none⟩ = some (.bool s3) := hst.hP.cell 1
  have p_2 : (w2.alloc (.cells #[.int .i64 i4, .bool s4, .slice A4 l4 c4, .slice B4 k4 d4] 68)).cell? ⟨w1.heap.size, 2, none⟩ = some (.slice A3 l3 c3) := hst.hP.cell 2
  have p_3 : (w2.alloc (.cells #[.int .i64 i4, .bool s4, .slice A4 l4 c4, .slice B4 k4 d4] 68)).cell? ⟨w1.heap.size, 3, none⟩ = some (.slice B3 k3 d3) := hst.hP.cell 3
  have q_0 : (w2.alloc (.cells #[.int .i64 i4, .bool s4, .slice A4 l4 c4, .slice B4 k4 d4] 68)).cell? ⟨w2.heap.size, 0, none⟩ = some (.int .i64 i4) := hst.hQ.cell 0
  have q_1 : (w2.alloc (.cells #[.int .i64 i4, .bool s4, .slice A4 l4 c4, .slice B4 k4 d4] 68)).cell? ⟨w2.heap.size, 1, none⟩ = some (.bool s4) := hst.hQ.cell 1
  have q_2 : (w2.alloc (.cells #[.int .i64 i4, .bool s4, .slice A4 l4 c4, .slice B4 k4 d4] 68)).cell? ⟨w2.heap.size, 2, none⟩ = some (.slice A4 l4 c4) := hst.hQ.cell 2
  have q_3 : (w2.alloc (.cells #[.int .i64 i4, .bool s4, .slice A4 l4 c4, .slice B4 k4 d4] 68)).cell? ⟨w2.heap.size, 3, none⟩ = some (.slice B4 k4 d4) := hst.hQ.cell 3
  have g_0 : (w2.alloc (.cells #[.int .i64 i4, .bool s4, .slice A4 l4 c4, .slice B4 k4 d4] 68)).cell? ⟨G, 0, none⟩ = some (.bool false) := hst.hG.cell 0
  have g_1 : (w2.alloc (.cells #[.int .i64 i4, .bool s4, .slice A4 l4 c4, .slice B4 k4 d4] 68)).cell? ⟨G, 1, none⟩ = some (.int .i64 0) := hst.hG.cell 1
  have g_2 : (w2.alloc (.cells #[.int .i64 i4, .bool s4, .slice A4 l4 c4, .slice B4 k4 d4] 68)).cell? ⟨G, 2, none⟩ = some (.bool false) := hst.hG.cell 2
  have g_3 : (w2.alloc (.cells #[.int .i64 i4, .bool s4, .slice A4 l4 c4, .slice B4 k4 d4] 68)).cell? ⟨G, 3, none⟩ = some (.slice none 0 0) := hst.hG.cell 3
  have g_4 : (w2.alloc (.cells #[.int .i64 i4, .bool s4, .slice A4 l4 c4, .slice B4 k4 d4] 68)).cell? ⟨G, 4, none⟩ = some (.slice none 0 0) := hst.hG.cell 4
  have g_5 : (w2.alloc (.cells #[.int .i64 i4, .bool s4, .slice A4 l4 c4, .slice B4 k4 d4] 68)).cell? ⟨G, 5, none⟩ = some (.int .i64 0) := hst.hG.cell 5
  have g_6 : (w2.alloc (.cells #[.int .i64 i4, .bool s4, .slice A4 l4 c4, .slice B4 k4 d4] 68)).cell? ⟨G, 6, none⟩ = some (.bool false) := hst.hG.cell 6
  have g_7 : (w2.alloc (.cells #[.int .i64 i4, .bool s4, .slice A4 l4 c4, .slice B4 k4 d4] 68)).cell? ⟨G, 7, none⟩ = some (.slice none 0 0) := hst.hG.cell 7
  have g_8 : (w2.alloc (.cells #[.int .i64 i4, .bool s4, .slice A4 l4 c4, .slice B4 k4 d4] 68)).cell? ⟨G, 8, none⟩ = some (.slice none 0 0) := hst.hG.cell 8
  have fg_0 : (w2.alloc (.cells #[.int .i64 i4, .bool s4, .slice A4 l4 c4, .slice B4 k4 d4] 68)).frozen? ⟨G, 0, none⟩ = false := hst.hG.frozen 0
  have fg_1 : (w2.alloc (.cells #[.int .i64 i4, .bool s4, .slice A4 l4 c4, .slice B4 k4 d4] 68)).frozen? ⟨G, 1, none⟩ = false := hst.hG.frozen 1
  have fg_2 : (w2.alloc (.cells #[.int .i64 i4, .bool s4, .slice A4 l4 c4, .slice B4 k4 d4] 68)).frozen? ⟨G, 2, none⟩ = false := hst.hG.frozen 2
  have fg_3 : (w2.alloc (.cells #[.int .i64 i4, .bool s4, .slice A4 l4 c4, .slice B4 k4 d4] 68)).frozen? ⟨G, 3, none⟩ = false := hst.hG.frozen 3
  have fg_4 : (w2.alloc (.cells #[.int .i64 i4, .bool s4, .slice A4 l4 c4, .slice B4 k4 d4] 68)).frozen? ⟨G, 4, none⟩ = false := hst.hG.frozen 4
  have fg_5 : (w2.alloc (.cells #[.int .i64 i4, .bool s4, .slice A4 l4 c4, .slice B4 k4 d4] 68)).frozen? ⟨G, 5, none⟩ = false := hst.hG.frozen 5
  have fg_6 : (w2.alloc (.cells #[.int .i64 i4, .bool s4, .slice A4 l4 c4, .slice B4 k4 d4] 68)).frozen? ⟨G, 6, none⟩ = false := hst.hG.frozen 6
  have fg_7 : (w2.alloc (.cells #[.int .i64 i4, .bool s4, .slice A4 l4 c4, .slice B4 k4 d4] 68)).frozen? ⟨G, 7, none⟩ = false := hst.hG.frozen 7
  have fg_8 : (w2.alloc (.cells #[.int .i64 i4, .bool s4, .slice A4 l4 c4, .slice B4 k4 d4] 68)).frozen? ⟨G, 8, none⟩ = false := hst.hG.frozen 8
  have fp_0 : (w2.alloc (.cells #[.int .i64 i4, .bool s4, .slice A4 l4 c4, .slice B4 k4 d4] 68)).frozen? ⟨w1.heap.size, 0, none⟩ = false := hst.hP.frozen 0
  have fp_1 : (w2.alloc (.cells #[.int .i64 i4, .bool s4, .slice A4 l4 c4, .slice B4 k4 d4] 68)).frozen? ⟨w1.heap.size, 1, none⟩ = false := hst.hP.frozen 1
  have fp_2 : (w2.alloc (.cells #[.int .i64 i4, .bool s4, .slice A4 l4 c4, .slice B4 k4 d4] 68)).frozen? ⟨w1.heap.size, 2, none⟩ = false := hst.hP.frozen 2
  have fp_3 : (w2.alloc (.cells #[.int .i64 i4, .bool s4, .slice A4 l4 c4, .slice B4 k4 d4] 68)).frozen? ⟨w1.heap.size, 3, none⟩ = false := hst.hP.frozen 3
  have fq_0 : (w2.alloc (.cells #[.int .i64 i4, .bool s4, .slice A4 l4 c4, .slice B4 k4 d4] 68)).frozen? ⟨w2.heap.size, 0, none⟩ = false := hst.hQ.frozen 0
  have fq_1 : (w2.alloc (.cells #[.int .i64 i4, .bool s4, .slice A4 l4 c4, .slice B4 k4 d4] 68)).frozen? ⟨w2.heap.size, 1, none⟩ = false := hst.hQ.frozen 1
  have fq_2 : (w2.alloc (.cells #[.int .i64 i4, .bool s4, .slice A4 l4 c4, .slice B4 k4 d4] 68)).frozen? ⟨w2.heap.size, 2, none⟩ = false := hst.hQ.frozen 2
  have fq_3 : (w2.alloc (.cells #[.int .i64 i4, .bool s4, .slice A4 l4 c4, .slice B4 k4 d4] 68)).frozen? ⟨w2.heap.size, 3, none⟩ = false := hst.hQ.frozen 3
  have lG : G < (w2.alloc (.cells #[.int .i64 i4, .bool s4, .slice A4 l4 c4, .slice B4 k4 d4] 68)).heap.size := hst.hG.lt
  have lP : w1.heap.size < (w2.alloc (.cells #[.int .i64 i4, .bool s4, .slice A4 l4 c4, .slice B4 k4 d4] 68)).heap.size := hst.hP.lt
  have lQ : w2.heap.size < (w2.alloc (.cells #[.int .i64 i4, .bool s4, .slice A4 l4 c4, .slice B4 k4 d4] 68)).heap.size := hst.hQ.lt
  go_wp2_with fail
  clear i_0 i_1 i_2 i_3 i_4 i_5 i_6 i_7 i_8 p_0 p_1 p_2 p_3 q_0 q_1 q_2 q_3 g_0 g_1 g_2 g_3 g_4 g_5 g_6 g_7 g_8 fg_0 fg_1 fg_2 fg_3 fg_4 fg_5 fg_6 fg_7 fg_8 fp_0 fp_1 fp_2 fp_3 fq_0 fq_1 fq_2 fq_3 lG lP lQ
  refine (HC.out _ _ _ _ _ _ _ _ _ _ _ _ _ hst.r3 hst.r4).mono ?_
  rintro e w3 ⟨rfl, hE3⟩
  have hst3 := hst.ext hE3
  clear hst hE3
  have hsa := hst3.ext ((Ext.refl w3).alloc (.cells #[.int .i64 i3, .bool s3, .slice A3 l3 c3, .slice B3 k3 d3] 68))
  have hbR := Blk.new w3 68 #[.int .i64 i3, .bool s3, .slice A3 l3 c3, .slice B3 k3 d3]
  have hnp : w3.heap.size ≠ w1.heap.size := by have a := hst3.hP.lt; omega
  have hbR2 : Blk (((((w3.alloc (.cells #[.int .i64 i3, .bool s3, .slice A3 l3 c3, .slice B3 k3 d3] 68)).setCell ⟨w1.heap.size, 0, none⟩ (.int .i64 i4)).setCell ⟨w1.heap.size, 1, none⟩ (.bool s4)).setCell ⟨w1.heap.size, 2, none⟩ (.slice A4 l4 c4)).setCell ⟨w1.heap.size, 3, none⟩ (.slice B4 k4 d4)) w3.heap.size 68 #[.int .i64 i3, .bool s3, .slice A3 l3 c3, .slice B3 k3 d3] := hbR.far4 hnp _ _ _ _
  have hsb := hsa.setP hsa.r4 (i5 := i4) (s5 := s4)
  have hsc := hsb.setQ (show RatAt _ A3 l3 c3 B3 k3 d3 N3 D3 from ((RatBox.mk hsa.r3 hsa.hP (NoU.of rfl)).set4 rfl rfl rfl rfl).rat) (i5 := i3) (s5 := s3)
  have w3p_0 : w3.cell? ⟨w1.heap.size, 0, none⟩ = some (.int .i64 i3) := hst3.hP.cell 0
  have w3p_1 : w3.cell? ⟨w1.heap.size, 1, none⟩ = some (.bool s3) := hst3.hP.cell 1
  have w3p_2 : w3.cell? ⟨w1.heap.size, 2, none⟩ = some (.slice A3 l3 c3) := hst3.hP.cell 2
  have w3p_3 : w3.cell? ⟨w1.heap.size, 3, none⟩ = some (.slice B3 k3 d3) := hst3.hP.cell 3
  have w3q_0 : (w3.alloc (.cells #[.int .i64 i3, .bool s3, .slice A3 l3 c3, .slice B3 k3 d3] 68)).cell? ⟨w2.heap.size, 0, none⟩ = some (.int .i64 i4) := hsa.hQ.cell 0
  have w3q_1 : (w3.alloc (.cells #[.int .i64 i3, .bool s3, .slice A3 l3 c3, .slice B3 k3 d3] 68)).cell? ⟨w2.heap.size, 1, none⟩ = some (.bool s4) := hsa.hQ.cell 1
  have w3q_2 : (w3.alloc (.cells #[.int .i64 i3, .bool s3, .slice A3 l3 c3, .slice B3 k3 d3] 68)).cell? ⟨w2.heap.size, 2, none⟩ = some (.slice A4 l4 c4) := hsa.hQ.cell 2
  have w3q_3 : (w3.alloc (.cells #[.int .i64 i3, .bool s3, .slice A3 l3 c3, .slice B3 k3 d3] 68)).cell? ⟨w2.heap.size, 3, none⟩ = some (.slice B4 k4 d4) := hsa.hQ.cell 3
  have w3pp_0 : (w3.alloc (.cells #[.int .i64 i3, .bool s3, .slice A3 l3 c3, .slice B3 k3 d3] 68)).cell? ⟨w1.heap.size, 0, none⟩ = some (.int .i64 i3) := hsa.hP.cell 0
  have w3pp_1 : (w3.alloc (.cells #[.int .i64 i3, .bool s3, .slice A3 l3 c3, .slice B3 k3 d3] 68)).cell? ⟨w1.heap.size, 1, none⟩ = some (.bool s3) := hsa.hP.cell 1
  have w3pp_2 : (w3.alloc (.cells #[.int .i64 i3, .bool s3, .slice A3 l3 c3, .slice B3 k3 d3] 68)).cell? ⟨w1.heap.size, 2, none⟩ = some (.slice A3 l3 c3) := hsa.hP.cell 2
  have w3pp_3 : (w3.alloc (.cells #[.int .i64 i3, .bool s3, .slice A3 l3 c3, .slice B3 k3 d3] 68)).cell? ⟨w1.heap.size, 3, none⟩ = some (.slice B3 k3 d3) := hsa.hP.cell 3
  have fap_0 : (w3.alloc (.cells #[.int .i64 i3, .bool s3, .slice A3 l3 c3, .slice B3 k3 d3] 68)).frozen? ⟨w1.heap.size, 0, none⟩ = false := hsa.hP.frozen 0
  have fap_1 : (w3.alloc (.cells #[.int .i64 i3, .bool s3, .slice A3 l3 c3, .slice B3 k3 d3] 68)).frozen? ⟨w1.heap.size, 1, none⟩ = false := hsa.hP.frozen 1
  have fap_2 : (w3.alloc (.cells #[.int .i64 i3, .bool s3, .slice A3 l3 c3, .slice B3 k3 d3] 68)).frozen? ⟨w1.heap.size, 2, none⟩ = false := hsa.hP.frozen 2
  have fap_3 : (w3.alloc (.cells #[.int .i64 i3, .bool s3, .slice A3 l3 c3, .slice B3 k3 d3] 68)).frozen? ⟨w1.heap.size, 3, none⟩ = false := hsa.hP.frozen 3
  have lap : w1.heap.size < (w3.alloc (.cells #[.int .i64 i3, .bool s3, .slice A3 l3 c3, .slice B3 k3 d3] 68)).heap.size := hsa.hP.lt
  have w3r_0 : (((((w3.alloc (.cells #[.int .i64 i3, .bool s3, .slice A3 l3 c3, .slice B3 k3 d3] 68)).setCell ⟨w1.heap.size, 0, none⟩ (.int .i64 i4)).setCell ⟨w1.heap.size, 1, none⟩ (.bool s4)).setCell ⟨w1.heap.size, 2, none⟩ (.slice A4 l4 c4)).setCell ⟨w1.heap.size, 3, none⟩ (.slice B4 k4 d4)).cell? ⟨w3.heap.size, 0, none⟩ = some (.int .i64 i3) := hbR2.cell 0
  have w3r_1 : (((((w3.alloc (.cells #[.int .i64 i3, .bool s3, .slice A3 l3 c3, .slice B3 k3 d3] 68)).setCell ⟨w1.heap.size, 0, none⟩ (.int .i64 i4)).setCell ⟨w1.heap.size, 1, none⟩ (.bool s4)).setCell ⟨w1.heap.size, 2, none⟩ (.slice A4 l4 c4)).setCell ⟨w1.heap.size, 3, none⟩ (.slice B4 k4 d4)).cell? ⟨w3.heap.size, 1, none⟩ = some (.bool s3) := hbR2.cell 1
  have w3r_2 : (((((w3.alloc (.cells #[.int .i64 i3, .bool s3, .slice A3 l3 c3, .slice B3 k3 d3] 68)).setCell ⟨w1.heap.size, 0, none⟩ (.int .i64 i4)).setCell ⟨w1.heap.size, 1, none⟩ (.bool s4)).setCell ⟨w1.heap.size, 2, none⟩ (.slice A4 l4 c4)).setCell ⟨w1.heap.size, 3, none⟩ (.slice B4 k4 d4)).cell? ⟨w3.heap.size, 2, none⟩ = some (.slice A3 l3 c3) := hbR2.cell 2
  have w3r_3 : (((((w3.alloc (.cells #[.int .i64 i3, .bool s3, .slice A3 l3 c3, .slice B3 k3 d3] 68)).setCell ⟨w1.heap.size, 0, none⟩ (.int .i64 i4)).setCell ⟨w1.heap.size, 1, none⟩ (.bool s4)).setCell ⟨w1.heap.size, 2, none⟩ (.slice A4 l4 c4)).setCell ⟨w1.heap.size, 3, none⟩ (.slice B4 k4 d4)).cell? ⟨w3.heap.size, 3, none⟩ = some (.slice B3 k3 d3) := hbR2.cell 3
  have w3bq_0 : (((((w3.alloc (.cells #[.int .i64 i3, .bool s3, .slice A3 l3 c3, .slice B3 k3 d3] 68)).setCell ⟨w1.heap.size, 0, none⟩ (.int .i64 i4)).setCell ⟨w1.heap.size, 1, none⟩ (.bool s4)).setCell ⟨w1.heap.size, 2, none⟩ (.slice A4 l4 c4)).setCell ⟨w1.heap.size, 3, none⟩ (.slice B4 k4 d4)).cell? ⟨w2.heap.size, 0, none⟩ = some (.int .i64 i4) := hsb.hQ.cell 0
  have w3bq_1 : (((((w3.alloc (.cells #[.int .i64 i3, .bool s3, .slice A3 l3 c3, .slice B3 k3 d3] 68)).setCell ⟨w1.heap.size, 0, none⟩ (.int .i64 i4)).setCell ⟨w1.heap.size, 1, none⟩ (.bool s4)).setCell ⟨w1.heap.size, 2, none⟩ (.slice A4 l4 c4)).setCell ⟨w1.heap.size, 3, none⟩ (.slice B4 k4 d4)).cell? ⟨w2.heap.size, 1, none⟩ = some (.bool s4) := hsb.hQ.cell 1
  have w3bq_2 : (((((w3.alloc (.cells #[.int .i64 i3, .bool s3, .slice A3 l3 c3, .slice B3 k3 d3] 68)).setCell ⟨w1.heap.size, 0, none⟩ (.int .i64 i4)).setCell ⟨w1.heap.size, 1, none⟩ (.bool s4)).setCell ⟨w1.heap.size, 2, none⟩ (.slice A4 l4 c4)).setCell ⟨w1.heap.size, 3, none⟩ (.slice B4 k4 d4)).cell? ⟨w2.heap.size, 2, none⟩ = some (.slice A4 l4 c4) := hsb.hQ.cell 2
  have w3bq_3 : (((((w3.alloc (.cells #[.int .i64 i3, .bool s3, .slice A3 l3 c3, .slice B3 k3 d3] 68)).setCell ⟨w1.heap.size, 0, none⟩ (.int .i64 i4)).setCell ⟨w1.heap.size, 1, none⟩ (.bool s4)).setCell ⟨w1.heap.size, 2, none⟩ (.slice A4 l4 c4)).setCell ⟨w1.heap.size, 3, none⟩ (.slice B4 k4 d4)).cell? ⟨w2.heap.size, 3, none⟩ = some (.slice B4 k4 d4) := hsb.hQ.cell 3
  have fbq_0 : (((((w3.alloc (.cells #[.int .i64 i3, .bool s3, .slice A3 l3 c3, .slice B3 k3 d3] 68)).setCell ⟨w1.heap.size, 0, none⟩ (.int .i64 i4)).setCell ⟨w1.heap.size, 1, none⟩ (.bool s4)).setCell ⟨w1.heap.size, 2, none⟩ (.slice A4 l4 c4)).setCell ⟨w1.heap.size, 3, none⟩ (.slice B4 k4 d4)).frozen? ⟨w2.heap.size, 0, none⟩ = false := hsb.hQ.frozen 0
  have fbq_1 : (((((w3.alloc (.cells #[.int .i64 i3, .bool s3, .slice A3 l3 c3, .slice B3 k3 d3] 68)).setCell ⟨w1.heap.size, 0, none⟩ (.int .i64 i4)).setCell ⟨w1.heap.size, 1, none⟩ (.bool s4)).setCell ⟨w1.heap.size, 2, none⟩ (.slice A4 l4 c4)).setCell ⟨w1.heap.size, 3, none⟩ (.slice B4 k4 d4)).frozen? ⟨w2.heap.size, 1, none⟩ = false := hsb.hQ.frozen 1
  have fbq_2 : (((((w3.alloc (.cells #[.int .i64 i3, .bool s3, .slice A3 l3 c3, .slice B3 k3 d3] 68)).setCell ⟨w1.heap.size, 0, none⟩ (.int .i64 i4)).setCell ⟨w1.heap.size, 1, none⟩ (.bool s4)).setCell ⟨w1.heap.size, 2, none⟩ (.slice A4 l4 c4)).setCell ⟨w1.heap.size, 3, none⟩ (.slice B4 k4 d4)).frozen? ⟨w2.heap.size, 2, none⟩ = false := hsb.hQ.frozen 2
  have fbq_3 : (((((w3.alloc (.cells #[.int .i64 i3, .bool s3, .slice A3 l3 c3, .slice B3 k3 d3] 68)).setCell ⟨w1.heap.size, 0, none⟩ (.int .i64 i4)).setCell ⟨w1.heap.size, 1, none⟩ (.bool s4)).setCell ⟨w1.heap.size, 2, none⟩ (.slice A4 l4 c4)).setCell ⟨w1.heap.size, 3, none⟩ (.slice B4 k4 d4)).frozen? ⟨w2.heap.size, 3, none⟩ = false := hsb.hQ.frozen 3
  have lbq : w2.heap.size < (((((w3.alloc (.cells #[.int .i64 i3, .bool s3, .slice A3 l3 c3, .slice B3 k3 d3] 68)).setCell ⟨w1.heap.size, 0, none⟩ (.int .i64 i4)).setCell ⟨w1.heap.size, 1, none⟩ (.bool s4)).setCell ⟨w1.heap.size, 2, none⟩ (.slice A4 l4 c4)).setCell ⟨w1.heap.size, 3, none⟩ (.slice B4 k4 d4)).heap.size := hsb.hQ.lt
  clear hst3 hsa hsb hbR hbR2
  have i_0 : (((((((((w3.alloc (.cells #[.int .i64 i3, .bool s3, .slice A3 l3 c3, .slice B3 k3 d3] 68)).setCell ⟨w1.heap.size, 0, none⟩ (.int .i64 i4)).setCell ⟨w1.heap.size, 1, none⟩ (.bool s4)).setCell ⟨w1.heap.size, 2, none⟩ (.slice A4 l4 c4)).setCell ⟨w1.heap.size, 3, none⟩ (.slice B4 k4 d4)).setCell ⟨w2.heap.size, 0, none⟩ (.int .i64 i3)).setCell ⟨w2.heap.size, 1, none⟩ (.bool s3)).setCell ⟨w2.heap.size, 2, none⟩ (.slice A3 l3 c3)).setCell ⟨w2.heap.size, 3, none⟩ (.slice B3 k3 d3)).cell? ⟨w.heap.size, 0, none⟩ = some (.bool false) := hsc.hH.cell 0
  have i_1 : (((((((((w3.alloc (.cells #[.int .i64 i3, .bool s3, .slice A3 l3 c3, .slice B3 k3 d3] 68)).setCell ⟨w1.heap.size, 0, none⟩ (.int .i64 i4)).setCell ⟨w1.heap.size, 1, none⟩ (.bool s4)).setCell ⟨w1.heap.size, 2, none⟩ (.slice A4 l4 c4)).setCell ⟨w1.heap.size, 3, none⟩ (.slice B4 k4 d4)).setCell ⟨w2.heap.size, 0, none⟩ (.int .i64 i3)).setCell ⟨w2.heap.size, 1, none⟩ (.bool s3)).setCell ⟨w2.heap.size, 2, none⟩ (.slice A3 l3 c3)).setCell ⟨w2.heap.size, 3, none⟩ (.slice B3 k3 d3)).cell? ⟨w.heap.size, 1, none⟩ = some (.int .i64 i1) := hsc.hH.cell 1
  have i_2 : (((((((((w3.alloc (.cells #[.int .i64 i3, .bool s3, .slice A3 l3 c3, .slice B3 k3 d3] 68)).setCell ⟨w1.heap.size, 0, none⟩ (.int .i64 i4)).setCell ⟨w1.heap.size, 1, none⟩ (.bool s4)).setCell ⟨w1.heap.size, 2, none⟩ (.slice A4 l4 c4)).setCell ⟨w1.heap.size, 3, none⟩ (.slice B4 k4 d4)).setCell ⟨w2.heap.size, 0, none⟩ (.int .i64 i3)).setCell ⟨w2.heap.size, 1, none⟩ (.bool s3)).setCell ⟨w2.heap.size, 2, none⟩ (.slice A3 l3 c3)).setCell ⟨w2.heap.size, 3, none⟩ (.slice B3 k3 d3)).cell? ⟨w.heap.size, 2, none⟩ = some (.bool s1) := hsc.hH.cell 2
  have i_3 : (((((((((w3.alloc (.cells #[.int .i64 i3, .bool s3, .slice A3 l3 c3, .slice B3 k3 d3] 68)).setCell ⟨w1.heap.size, 0, none⟩ (.int .i64 i4)).setCell ⟨w1.heap.size, 1, none⟩ (.bool s4)).setCell ⟨w1.heap.size, 2, none⟩ (.slice A4 l4 c4)).setCell ⟨w1.heap.size, 3, none⟩ (.slice B4 k4 d4)).setCell ⟨w2.heap.size, 0, none⟩ (.int .i64 i3)).setCell ⟨w2.heap.size, 1, none⟩ (.bool s3)).setCell ⟨w2.heap.size, 2, none⟩ (.slice A3 l3 c3)).setCell ⟨w2.heap.size, 3, none⟩ (.slice B3 k3 d3)).cell? ⟨w.heap.size, 3, none⟩ = some (.slice A1 l1 c1) := hsc.hH.cell 3
  have i_4 : (((((((((w3.alloc (.cells #[.int .i64 i3, .bool s3, .slice A3 l3 c3, .slice B3 k3 d3] 68)).setCell ⟨w1.heap.size, 0, none⟩ (.int .i64 i4)).setCell ⟨w1.heap.size, 1, none⟩ (.bool s4)).setCell ⟨w1.heap.size, 2, none⟩ (.slice A4 l4 c4)).setCell ⟨w1.heap.size, 3, none⟩ (.slice B4 k4 d4)).setCell ⟨w2.heap.size, 0, none⟩ (.int .i64 i3)).setCell ⟨w2.heap.size, 1, none⟩ (.bool s3)).setCell ⟨w2.heap.size, 2, none⟩ (.slice A3 l3 c3)).setCell ⟨w2.heap.size, 3, none⟩ (.slice B3 k3 d3)).cell? ⟨w.heap.size, 4, none⟩ = some (.slice B1 k1 d1) := hsc.hH.cell 4
  have i_5 : (((((((((w3.alloc (.cells #[.int .i64 i3, .bool s3, .slice A3 l3 c3, .slice B3 k3 d3] 68)).setCell ⟨w1.heap.size, 0, none⟩ (.int .i64 i4)).setCell ⟨w1.heap.size, 1, none⟩ (.bool s4)).setCell ⟨w1.heap.size, 2, none⟩ (.slice A4 l4 c4)).setCell ⟨w1.heap.size, 3, none⟩ (.slice B4 k4 d4)).setCell ⟨w2.heap.size, 0, none⟩ (.int .i64 i3)).setCell ⟨w2.heap.size, 1, none⟩ (.bool s3)).setCell ⟨w2.heap.size, 2, none⟩ (.slice A3 l3 c3)).setCell ⟨w2.heap.size, 3, none⟩ (.slice B3 k3 d3)).cell? ⟨w.heap.size, 5, none⟩ = some (.int .i64 i2) := hsc.hH.cell 5
  have i_6 : (((((((((w3.alloc (.cells #[.int .i64 i3, .bool s3, .slice A3 l3 c3, .slice B3 k3 d3] 68)).setCell ⟨w1.heap.size, 0, none⟩ (.int .i64 i4)).setCell ⟨w1.heap.size, 1, none⟩ (.bool s4)).setCell ⟨w1.heap.size, 2, none⟩ (.slice A4 l4 c4)).setCell ⟨w1.heap.size, 3, none⟩ (.slice B4 k4 d4)).setCell ⟨w2.heap.size, 0, none⟩ (.int .i64 i3)).setCell ⟨w2.heap.size, 1, none⟩ (.bool s3)).setCell ⟨w2.heap.size, 2, none⟩ (.slice A3 l3 c3)).setCell ⟨w2.heap.size, 3, none⟩ (.slice B3 k3 d3)).cell? ⟨w.heap.size, 6, none⟩ = some (.bool s2) := hsc.hH.cell 6
  have i_7 : (((((((((w3.alloc (.cells #[.int .i64 i3, .bool s3, .slice A3 l3 c3, .slice B3 k3 d3] 68)).setCell ⟨w1.heap.size, 0, none⟩ (.int .i64 i4)).setCell ⟨w1.heap.size, 1, none⟩ (.bool s4)).setCell ⟨w1.heap.size, 2, none⟩ (.slice A4 l4 c4)).setCell ⟨w1.heap.size, 3, none⟩ (.slice B4 k4 d4)).setCell ⟨w2.heap.size, 0, none⟩ (.int .i64 i3)).setCell ⟨w2.heap.size, 1, none⟩ (.bool s3)).setCell ⟨w2.heap.size, 2, none⟩ (.slice A3 l3 c3)).setCell ⟨w2.heap.size, 3, none⟩ (.slice B3 k3 d3)).cell? ⟨w.heap.size, 7, none⟩ = some (.slice A2 l2 c2) := hsc.hH.cell 7
  have i_8 : (((((((((w3.alloc (.cells #[.int .i64 i3, .bool s3, .slice A3 l3 c3, .slice B3 k3 d3] 68)).setCell ⟨w1.heap.size, 0, none⟩ (.int .i64 i4)).setCell ⟨w1.heap.size, 1, none⟩ (.bool s4)).setCell ⟨w1.heap.size, 2, none⟩ (.slice A4 l4 c4)).setCell ⟨w1.heap.size, 3, none⟩ (.slice B4 k4 d4)).setCell ⟨w2.heap.size, 0, none⟩ (.int .i64 i3)).setCell ⟨w2.heap.size, 1, none⟩ (.bool s3)).setCell ⟨w2.heap.size, 2, none⟩ (.slice A3 l3 c3)).setCell ⟨w2.heap.size, 3, none⟩ (.slice B3 k3 d3)).cell? ⟨w.heap.size, 8, none⟩ = some (.slice B2 k2 d2) := hsc.hH.cell 8
  have p_0 : (((((((((w3.alloc (.cells #[.int .i64 i3, .bool s3, .slice A3 l3 c3, .slice B3 k3 d3] 68)).setCell ⟨w1.heap.size, 0, none⟩ (.int .i64 i4)).setCell ⟨w1.heap.size, 1, none⟩ (.bool s4)).setCell ⟨w1.heap.size, 2, none⟩ (.slice A4 l4 c4)).setCell ⟨w1.heap.size, 3, none⟩ (.slice B4 k4 d4)).setCell ⟨w2.heap.size, 0, none⟩ (.int .i64 i3)).setCell ⟨w2.heap.size, 1, none⟩ (.bool s3)).setCell ⟨w2.heap.size, 2, none⟩ (.slice A3 l3 c3)).setCell ⟨w2.heap.size, 3, none⟩ (.slice B3 k3 d3)).cell? ⟨w1.heap.size, 0, none⟩ = some (.int .i64 i4) := hsc.hP.cell 0
  have p_1 : (((((((((w3.alloc (.cells #[.int .i64 i3, .bool s3, .slice A3 l3 c3, .slice B3 k3 d3] 68)).setCell ⟨w1.heap.size, 0, none⟩ (.int .i64 i4)).setCell ⟨w1.heap.size, 1, none⟩ (.bool s4)).setCell ⟨w1.heap.size, 2, none⟩ (.slice A4 l4 c4)).setCell ⟨w1.heap.size, 3, none⟩ (.slice B4 k4 d4)).setCell ⟨w2.heap.size, 0, none⟩ (.int .i64 i3)).setCell ⟨w2.heap.size, 1, none⟩ (.bool s3)).setCell ⟨w2.heap.size, 2, none⟩ (.slice A3 l3 c3)).setCell ⟨w2.heap.size, 3, none⟩ (.slice B3 k3 d3)).cell? ⟨w1.heap.size, 1, none⟩ = some (.bool s4) := hsc.hP.cell 1
  have p_2 : (((((((((w3.alloc (.cells #[.int .i64 i3, .bool s3, .slice A3 l3 c3, .slice B3 k3 d3] 68)).setCell ⟨w1.heap.size, 0, none⟩ (.int .i64 i4)).setCell ⟨w1.heap.size, 1, none⟩ (.bool s4)).setCell ⟨w1.heap.size, 2, none⟩ (.slice A4 l4 c4)).setCell ⟨w1.heap.size, 3, none⟩ (.slice B4 k4 d4)).setCell ⟨w2.heap.size, 0, none⟩ (.int .i64 i3)).setCell ⟨w2.heap.size, 1, none⟩ (.bool s3)).setCell ⟨w2.heap.size, 2, none⟩ (.slice A3 l3 c3)).setCell ⟨w2.heap.size, 3, none⟩ (.slice B3 k3 d3)).cell? ⟨w1.heap.size, 2, none⟩ = some (.slice A4 l4 c4) := hsc.hP.cell 2
  have p_3 : (((((((((w3.alloc (.cells #[.int .i64 i3, .bool s3, .slice A3 l3 c3, .slice B3 k3 d3] 68)).setCell ⟨w1.heap.size, 0, none⟩ (.int .i64 i4)).setCell ⟨w1.heap.size, 1, none⟩ (.bool s4)).setCell ⟨w1.heap.size, 2, none⟩ (.slice A4 l4 c4)).setCell ⟨w1.heap.size, 3, none⟩ (.slice B4 k4 d4)).setCell ⟨w2.heap.size, 0, none⟩ (.int .i64 i3)).setCell ⟨w2.heap.size, 1, none⟩ (.bool s3)).setCell ⟨w2.heap.size, 2, none⟩ (.slice A3 l3 c3)).setCell ⟨w2.heap.size, 3, none⟩ (.slice B3 k3 d3)).cell? ⟨w1.heap.size, 3, none⟩ = some (.slice B4 k4 d4) := hsc.hP.cell 3
  have q_0 : (((((((((w3.alloc (.cells #[.int .i64 i3, .bool s3, .slice A3 l3 c3, .slice B3 k3 d3] 68)).setCell ⟨w1.heap.size, 0, none⟩ (.int .i64 i4)).setCell ⟨w1.heap.size, 1, none⟩ (.bool s4)).setCell ⟨w1.heap.size, 2, none⟩ (.slice A4 l4 c4)).setCell ⟨w1.heap.size, 3, none⟩ (.slice B4 k4 d4)).setCell ⟨w2.heap.size, 0, none⟩ (.int .i64 i3)).setCell ⟨w2.heap.size, 1, none⟩ (.bool s3)).setCell ⟨w2.heap.size, 2, none⟩ (.slice A3 l3 c3)).setCell ⟨w2.heap.size, 3, none⟩ (.slice B3 k3 d3)).cell? ⟨w2.heap.size, 0, none⟩ = some (.int .i64 i3) := hsc.hQ.cell 0
  have q_1 : (((((((((w3.alloc (.cells #[.int .i64 i3, .bool s3, .slice A3 l3 c3, .slice B3 k3 d3] 68)).setCell ⟨w1.heap.size, 0, none⟩ (.int .i64 i4)).setCell ⟨w1.heap.size, 1, none⟩ (.bool s4)).setCell ⟨w1.heap.size, 2, none⟩ (.slice A4 l4 c4)).setCell ⟨w1.heap.size, 3, none⟩ (.slice B4 k4 d4)).setCell ⟨w2.heap.size, 0, none⟩ (.int .i64 i3)).setCell ⟨w2.heap.size, 1, none⟩ (.bool s3)).setCell ⟨w2.heap.size, 2, none⟩ (.slice A3 l3 c3)).setCell ⟨w2.heap.size, 3, none⟩ (.slice B3 k3 d3)).cell? ⟨w2.heap.size, 1, none⟩ = some (.bool s3) := hsc.hQ.cell 1
  have q_2 : (((((((((w3.alloc (.cells #[.int .i64 i3, .bool s3, .slice A3 l3 c3, .slice B3 k3 d3] 68)).setCell ⟨w1.heap.size, 0, none⟩ (.int .i64 i4)).setCell ⟨w1.heap.size, 1, none⟩ (.bool s4)).setCell ⟨w1.heap.size, 2, none⟩ (.slice A4 l4 c4)).setCell ⟨w1.heap.size, 3, none⟩ (.slice B4 k4 d4)).setCell ⟨w2.heap.size, 0, none⟩ (.int .i64 i3)).setCell ⟨w2.heap.size, 1, none⟩ (.bool s3)).setCell ⟨w2.heap.size, 2, none⟩ (.slice A3 l3 c3)).setCell ⟨w2.heap.size, 3, none⟩ (.slice B3 k3 d3)).cell? ⟨w2.heap.size, 2, none⟩ = some (.slice A3 l3 c3) := hsc.hQ.cell 2
  have q_3 : (((((((((w3.alloc (.cells #[.int .i64 i3, .bool s3, .slice A3 l3 c3, .slice B3 k3 d3] 68)).setCell ⟨w1.heap.size, 0, none⟩ (.int .i64 i4)).setCell ⟨w1.heap.size, 1, none⟩ (.bool s4)).setCell ⟨w1.heap.size, 2, none⟩ (.slice A4 l4 c4)).setCell ⟨w1.heap.size, 3, none⟩ (.slice B4 k4 d4)).setCell ⟨w2.heap.size, 0, none⟩ (.int .i64 i3)).setCell ⟨w2.heap.size, 1, none⟩ (.bool s3)).setCell ⟨w2.heap.size, 2, none⟩ (.slice A3 l3 c3)).setCell ⟨w2.heap.size, 3, none⟩ (.slice B3 k3 d3)).cell? ⟨w2.heap.size, 3, none⟩ = some (.slice B3 k3 d3) := hsc.hQ.cell 3
  have g_0 : (((((((((w3.alloc (.cells #[.int .i64 i3, .bool s3, .slice A3 l3 c3, .slice B3 k3 d3] 68)).setCell ⟨w1.heap.size, 0, none⟩ (.int .i64 i4)).setCell ⟨w1.heap.size, 1, none⟩ (.bool s4)).setCell ⟨w1.heap.size, 2, none⟩ (.slice A4 l4 c4)).setCell ⟨w1.heap.size, 3, none⟩ (.slice B4 k4 d4)).setCell ⟨w2.heap.size, 0, none⟩ (.int .i64 i3)).setCell ⟨w2.heap.size, 1, none⟩ (.bool s3)).setCell ⟨w2.heap.size, 2, none⟩ (.slice A3 l3 c3)).setCell ⟨w2.heap.size, 3, none⟩ (.slice B3 k3 d3)).cell? ⟨G, 0, none⟩ = some (.bool false) := hsc.hG.cell 0
  have g_1 : (((((((((w3.alloc (.cells #[.int .i64 i3, .bool s3, .slice A3 l3 c3, .slice B3 k3 d3] 68)).setCell ⟨w1.heap.size, 0, none⟩ (.int .i64 i4)).setCell ⟨w1.heap.size, 1, none⟩ (.bool s4)).setCell ⟨w1.heap.size, 2, none⟩ (.slice A4 l4 c4)).setCell ⟨w1.heap.size, 3, none⟩ (.slice B4 k4 d4)).setCell ⟨w2.heap.size, 0, none⟩ (.int .i64 i3)).setCell ⟨w2.heap.size, 1, none⟩ (.bool s3)).setCell ⟨w2.heap.size, 2, none⟩ (.slice A3 l3 c3)).setCell ⟨w2.heap.size, 3, none⟩ (.slice B3 k3 d3)).cell? ⟨G, 1, none⟩ = some (.int .i64 0) := hsc.hG.cell 1
  have g_2 : (((((((((w3.alloc (.cells #[.int .i64 i3, .bool s3, .slice A3 l3 c3, .slice B3 k3 d3] 68)).setCell ⟨w1.heap.size, 0, none⟩ (.int .i64 i4)).setCell ⟨w1.heap.size, 1, none⟩ (.bool s4)).setCell ⟨w1.heap.size, 2, none⟩ (.slice A4 l4 c4)).setCell ⟨w1.heap.size, 3, none⟩ (.slice B4 k4 d4)).setCell ⟨w2.heap.size, 0, none⟩ (.int .i64 i3)).setCell ⟨w2.heap.size, 1, none⟩ (.bool s3)).setCell ⟨w2.heap.size, 2, none⟩ (.slice A3 l3 c3)).setCell ⟨w2.heap.size, 3, none⟩ (.slice B3 k3 d3)).cell? ⟨G, 2, none⟩ = some (.bool false) := hsc.hG.cell 2
  have g_3 : (((((((((w3.alloc (.cells #[.int .i64 i3, .bool s3, .slice A3 l3 c3, .slice B3 k3 d3] 68)).setCell ⟨w1.heap.size, 0, none⟩ (.int .i64 i4)).setCell ⟨w1.heap.size, 1, none⟩ (.bool s4)).setCell ⟨w1.heap.size, 2, none⟩ (.slice A4 l4 c4)).setCell ⟨w1.heap.size, 3, none⟩ (.slice B4 k4 d4)).setCell ⟨w2.heap.size, 0, none⟩ (.int .i64 i3)).setCell ⟨w2.heap.size, 1, none⟩ (.bool s3)).setCell ⟨w2.heap.size, 2, none⟩ (.slice A3 l3 c3)).setCell ⟨w2.heap.size, 3, none⟩ (.slice B3 k3 d3)).cell? ⟨G, 3, none⟩ = some (.slice none 0 0) := hsc.hG.cell 3
  have g_4 : (((((((((w3.alloc (.cells #[.int .i64 i3, .bool s3, .slice A3 l3 c3, .slice B3 k3 d3] 68)).setCell ⟨w1.heap.size, 0, none⟩ (.int .i64 i4)).setCell ⟨w1.heap.size, 1, none⟩ (.bool s4)).setCell ⟨w1.heap.size, 2, none⟩ (.slice A4 l4 c4)).setCell ⟨w1.heap.size, 3, none⟩ (.slice B4 k4 d4)).setCell ⟨w2.heap.size, 0, none⟩ (.int .i64 i3)).setCell ⟨w2.heap.size, 1, none⟩ (.bool s3)).setCell ⟨w2.heap.size, 2, none⟩ (.slice A3 l3 c3)).setCell ⟨w2.heap.size, 3, none⟩ (.slice B3 k3 d3)).cell? ⟨G, 4, none⟩ = some (.slice none 0 0) := hsc.hG.cell 4
  have g_5 : (((((((((w3.alloc (.cells #[.int .i64 i3, .bool s3, .slice A3 l3 c3, .slice B3 k3 d3] 68)).setCell ⟨w1.heap.size, 0, none⟩ (.int .i64 i4)).setCell ⟨w1.heap.size, 1, none⟩ (.bool s4)).setCell ⟨w1.heap.size, 2, none⟩ (.slice A4 l4 c4)).setCell ⟨w1.heap.size, 3, none⟩ (.slice B4 k4 d4)).setCell ⟨w2.heap.size, 0, none⟩ (.int .i64 i3)).setCell ⟨w2.heap.size, 1, none⟩ (.bool s3)).setCell ⟨w2.heap.size, 2, none⟩ (.slice A3 l3 c3)).setCell ⟨w2.heap.size, 3, none⟩ (.slice B3 k3 d3)).cell? ⟨G, 5, none⟩ = some (.int .i64 0) := hsc.hG.cell 5
  have g_6 : (((((((((w3.alloc (.cells #[.int .i64 i3, .bool s3, .slice A3 l3 c3, .slice B3 k3 d3] 68)).setCell ⟨w1.heap.size, 0, none⟩ (.int .i64 i4)).setCell ⟨w1.heap.size, 1, none⟩ (.bool s4)).setCell ⟨w1.heap.size, 2, none⟩ (.slice A4 l4 c4)).setCell ⟨w1.heap.size, 3, none⟩ (.slice B4 k4 d4)).setCell ⟨w2.heap.size, 0, none⟩ (.int .i64 i3)).setCell ⟨w2.heap.size, 1, none⟩ (.bool s3)).setCell ⟨w2.heap.size, 2, none⟩ (.slice A3 l3 c3)).setCell ⟨w2.heap.size, 3, none⟩ (.slice B3 k3 d3)).cell? ⟨G, 6, none⟩ = some (.bool false) := hsc.hG.cell 6
  have g_7 : (((((((((w3.alloc (.cells #[.int .i64 i3, .bool s3, .slice A3 l3 c3, .slice B3 k3 d3] 68)).setCell ⟨w1.heap.size, 0, none⟩ (.int .i64 i4)).setCell ⟨w1.heap.size, 1, none⟩ (.bool s4)).setCell ⟨w1.heap.size, 2, none⟩ (.slice A4 l4 c4)).setCell ⟨w1.heap.size, 3, none⟩ (.slice B4 k4 d4)).setCell ⟨w2.heap.size, 0, none⟩ (.int .i64 i3)).setCell ⟨w2.heap.size, 1, none⟩ (.bool s3)).setCell ⟨w2.heap.size, 2, none⟩ (.slice A3 l3 c3)).setCell ⟨w2.heap.size, 3, none⟩ (.slice B3 k3 d3)).cell? ⟨G, 7, none⟩ = some (.slice none 0 0) := hsc.hG.cell 7
  have g_8 : (((((((((w3.alloc (.cells #[.int .i64 i3, .bool s3, .slice A3 l3 c3, .slice B3 k3 d3] 68)).setCell ⟨w1.heap.size, 0, none⟩ (.int .i64 i4)).setCell ⟨w1.heap.size, 1, none⟩ (.bool s4)).setCell ⟨w1.heap.size, 2, none⟩ (.slice A4 l4 c4)).setCell ⟨w1.heap.size, 3, none⟩ (.slice B4 k4 d4)).setCell ⟨w2.heap.size, 0, none⟩ (.int .i64 i3)).setCell ⟨w2.heap.size, 1, none⟩ (.bool s3)).setCell ⟨w2.heap.size, 2, none⟩ (.slice A3 l3 c3)).setCell ⟨w2.heap.size, 3, none⟩ (.slice B3 k3 d3)).cell? ⟨G, 8, none⟩ = some (.slice none 0 0) := hsc.hG.cell 8
  have fg_0 : (((((((((w3.alloc (.cells #[.int .i64 i3, .bool s3, .slice A3 l3 c3, .slice B3 k3 d3] 68)).setCell ⟨w1.heap.size, 0, none⟩ (.int .i64 i4)).setCell ⟨w1.heap.size, 1, none⟩ (.bool s4)).setCell ⟨w1.heap.size, 2, none⟩ (.slice A4 l4 c4)).setCell ⟨w1.heap.size, 3, none⟩ (.slice B4 k4 d4)).setCell ⟨w2.heap.size, 0, none⟩ (.int .i64 i3)).setCell ⟨w2.heap.size, 1, none⟩ (.bool s3)).setCell ⟨w2.heap.size, 2, none⟩ (.slice A3 l3 c3)).setCell ⟨w2.heap.size, 3, none⟩ (.slice B3 k3 d3)).frozen? ⟨G, 0, none⟩ = false := hsc.hG.frozen 0
  have fg_1 : (((((((((w3.alloc (.cells #[.int .i64 i3, .bool s3, .slice A3 l3 c3, .slice B3 k3 d3] 68)).setCell ⟨w1.heap.size, 0, none⟩ (.int .i64 i4)).setCell ⟨w1.heap.size, 1, none⟩ (.bool s4)).setCell ⟨w1.heap.size, 2, none⟩ (.slice A4 l4 c4)).setCell ⟨w1.heap.size, 3, none⟩ (.slice B4 k4 d4)).setCell ⟨w2.heap.size, 0, none⟩ (.int .i64 i3)).setCell ⟨w2.heap.size, 1, none⟩ (.bool s3)).setCell ⟨w2.heap.size, 2, none⟩ (.slice A3 l3 c3)).setCell ⟨w2.heap.size, 3, none⟩ (.slice B3 k3 d3)).frozen? ⟨G, 1, none⟩ = false := hsc.hG.frozen 1
  have fg_2 : (((((((((w3.alloc (.cells #[.int .i64 i3, .bool s3, .slice A3 l3 c3, .slice B3 k3 d3] 68)).setCell ⟨w1.heap.size, 0, none⟩ (.int .i64 i4)).setCell ⟨w1.heap.size, 1, none⟩ (.bool s4)).setCell ⟨w1.heap.size, 2, none⟩ (.slice A4 l4 c4)).setCell ⟨w1.heap.size, 3, none⟩ (.slice B4 k4 d4)).setCell ⟨w2.heap.size, 0, none⟩ (.int .i64 i3)).setCell ⟨w2.heap.size, 1, none⟩ (.bool s3)).setCell ⟨w2.heap.size, 2, none⟩ (.slice A3 l3 c3)).setCell ⟨w2.heap.size, 3, none⟩ (.slice B3 k3 d3)).frozen? ⟨G, 2, none⟩ = false := hsc.hG.frozen 2
  have fg_3 : (((((((((w3.alloc (.cells #[.int .i64 i3, .bool s3, .slice A3 l3 c3, .slice B3 k3 d3] 68)).setCell ⟨w1.heap.size, 0, none⟩ (.int .i64 i4)).setCell ⟨w1.heap.size, 1, none⟩ (.bool s4)).setCell ⟨w1.heap.size, 2, none⟩ (.slice A4 l4 c4)).setCell ⟨w1.heap.size, 3, none⟩ (.slice B4 k4 d4)).setCell ⟨w2.heap.size, 0, none⟩ (.int .i64 i3)).setCell ⟨w2.heap.size, 1, none⟩ (.bool s3)).setCell ⟨w2.heap.size, 2, none⟩ (.slice A3 l3 c3)).setCell ⟨w2.heap.size, 3, none⟩ (.slice B3 k3 d3)).frozen? ⟨G, 3, none⟩ = false := hsc.hG.frozen 3
  have fg_4 : (((((((((w3.alloc (.cells #[.int .i64 i3, .bool s3, .slice A3 l3 c3, .slice B3 k3 d3] 68)).setCell ⟨w1.heap.size, 0, none⟩ (.int .i64 i4)).setCell ⟨w1.heap.size, 1, none⟩ (.bool s4)).setCell ⟨w1.heap.size, 2, none⟩ (.slice A4 l4 c4)).setCell ⟨w1.heap.size, 3, none⟩ (.slice B4 k4 d4)).setCell ⟨w2.heap.size, 0, none⟩ (.int .i64 i3)).setCell ⟨w2.heap.size, 1, none⟩ (.bool s3)).setCell ⟨w2.heap.size, 2, none⟩ (.slice A3 l3 c3)).setCell ⟨w2.heap.size, 3, none⟩ (.slice B3 k3 d3)).frozen? ⟨G, 4, none⟩ = false := hsc.hG.frozen 4
  have fg_5 : (((((((((w3.alloc (.cells #[.int .i64 i3, .bool s3, .slice A3 l3 c3, .slice B3 k3 d3] 68)).setCell ⟨w1.heap.size, 0, none⟩ (.int .i64 i4)).setCell ⟨w1.heap.size, 1, none⟩ (.bool s4)).setCell ⟨w1.heap.size, 2, none⟩ (.slice A4 l4 c4)).setCell ⟨w1.heap.size, 3, none⟩ (.slice B4 k4 d4)).setCell ⟨w2.heap.size, 0, none⟩ (.int .i64 i3)).setCell ⟨w2.heap.size, 1, none⟩ (.bool s3)).setCell ⟨w2.heap.size, 2, none⟩ (.slice A3 l3 c3)).setCell ⟨w2.heap.size, 3, none⟩ (.slice B3 k3 d3)).frozen? ⟨G, 5, none⟩ = false := hsc.hG.frozen 5
  have fg_6 : (((((((((w3.alloc (.cells #[.int .i64 i3, .bool s3, .slice A3 l3 c3, .slice B3 k3 d3] 68)).setCell ⟨w1.heap.size, 0, none⟩ (.int .i64 i4)).setCell ⟨w1.heap.size, 1, none⟩ (.bool s4)).setCell ⟨w1.heap.size, 2, none⟩ (.slice A4 l4 c4)).setCell ⟨w1.heap.size, 3, none⟩ (.slice B4 k4 d4)).setCell ⟨w2.heap.size, 0, none⟩ (.int .i64 i3)).setCell ⟨w2.heap.size, 1, none⟩ (.bool s3)).setCell ⟨w2.heap.size, 2, none⟩ (.slice A3 l3 c3)).setCell ⟨w2.heap.size, 3, none⟩ (.slice B3 k3 d3)).frozen? ⟨G, 6, none⟩ = false := hsc.hG.frozen 6
  have fg_7 : (((((((((w3.alloc (.cells #[.int .i64 i3, .bool s3, .slice A3 l3 c3, .slice B3 k3 d3] 68)).setCell ⟨w1.heap.size, 0, none⟩ (.int .i64 i4)).setCell ⟨w1.heap.size, 1, none⟩ (.bool s4)).setCell ⟨w1.heap.size, 2, none⟩ (.slice A4 l4 c4)).setCell ⟨w1.heap.size, 3, none⟩ (.slice B4 k4 d4)).setCell ⟨w2.heap.size, 0, none⟩ (.int .i64 i3)).setCell ⟨w2.heap.size, 1, none⟩ (.bool s3)).setCell ⟨w2.heap.size, 2, none⟩ (.slice A3 l3 c3)).setCell ⟨w2.heap.size, 3, none⟩ (.slice B3 k3 d3)).frozen? ⟨G, 7, none⟩ = false := hsc.hG.frozen 7
  have fg_8 : (((((((((w3.alloc (.cells #[.int .i64 i3, .bool s3, .slice A3 l3 c3, .slice B3 k3 d3] 68)).setCell ⟨w1.heap.size, 0, none⟩ (.int .i64 i4)).setCell ⟨w1.heap.size, 1, none⟩ (.bool s4)).setCell ⟨w1.heap.size, 2, none⟩ (.slice A4 l4 c4)).setCell ⟨w1.heap.size, 3, none⟩ (.slice B4 k4 d4)).setCell ⟨w2.heap.size, 0, none⟩ (.int .i64 i3)).setCell ⟨w2.heap.size, 1, none⟩ (.bool s3)).setCell ⟨w2.heap.size, 2, none⟩ (.slice A3 l3 c3)).setCell ⟨w2.heap.size, 3, none⟩ (.slice B3 k3 d3)).frozen? ⟨G, 8, none⟩ = false := hsc.hG.frozen 8
  have fp_0 : (((((((((w3.alloc (.cells #[.int .i64 i3, .bool s3, .slice A3 l3 c3, .slice B3 k3 d3] 68)).setCell ⟨w1.heap.size, 0, none⟩ (.int .i64 i4)).setCell ⟨w1.heap.size, 1, none⟩ (.bool s4)).setCell ⟨w1.heap.size, 2, none⟩ (.slice A4 l4 c4)).setCell ⟨w1.heap.size, 3, none⟩ (.slice B4 k4 d4)).setCell ⟨w2.heap.size, 0, none⟩ (.int .i64 i3)).setCell ⟨w2.heap.size, 1, none⟩ (.bool s3)).setCell ⟨w2.heap.size, 2, none⟩ (.slice A3 l3 c3)).setCell ⟨w2.heap.size, 3, none⟩ (.slice B3 k3 d3)).frozen? ⟨w1.heap.size, 0, none⟩ = false := hsc.hP.frozen 0
  have fp_1 : (((((((((w3.alloc (.cells #[.int .i64 i3, .bool s3, .slice A3 l3 c3, .slice B3 k3 d3] 68)).setCell ⟨w1.heap.size, 0, none⟩ (.int .i64 i4)).setCell ⟨w1.heap.size, 1, none⟩ (.bool s4)).setCell ⟨w1.heap.size, 2, none⟩ (.slice A4 l4 c4)).setCell ⟨w1.heap.size, 3, none⟩ (.slice B4 k4 d4)).setCell ⟨w2.heap.size, 0, none⟩ (.int .i64 i3)).setCell ⟨w2.heap.size, 1, none⟩ (.bool s3)).setCell ⟨w2.heap.size, 2, none⟩ (.slice A3 l3 c3)).setCell ⟨w2.heap.size, 3, none⟩ (.slice B3 k3 d3)).frozen? ⟨w1.heap.size, 1, none⟩ = false := hsc.hP.frozen 1
  have fp_2 : (((((((((w3.alloc (.cells #[.int .i64 i3, .bool s3, .slice A3 l3 c3, .slice B3 k3 d3] 68)).setCell ⟨w1.heap.size, 0, none⟩ (.int .i64 i4)).setCell ⟨w1.heap.size, 1, none⟩ (.bool s4)).setCell ⟨w1.heap.size, 2, none⟩ (.slice A4 l4 c4)).setCell ⟨w1.heap.size, 3, none⟩ (.slice B4 k4 d4)).setCell ⟨w2.heap.size, 0, none⟩ (.int .i64 i3)).setCell ⟨w2.heap.size, 1, none⟩ (.bool s3)).setCell ⟨w2.heap.size, 2, none⟩ (.slice A3 l3 c3)).setCell ⟨w2.heap.size, 3, none⟩ (.slice B3 k3 d3)).frozen? ⟨w1.heap.size, 2, none⟩ = false := hsc.hP.frozen 2
  have fp_3 : (((((((((w3.alloc (.cells #[.int .i64 i3, .bool s3, .slice A3 l3 c3, .slice B3 k3 d3] 68)).setCell ⟨w1.heap.size, 0, none⟩ (.int .i64 i4)).setCell ⟨w1.heap.size, 1, none⟩ (.bool s4)).setCell ⟨w1.heap.size, 2, none⟩ (.slice A4 l4 c4)).setCell ⟨w1.heap.size, 3, none⟩ (.slice B4 k4 d4)).setCell ⟨w2.heap.size, 0, none⟩ (.int .i64 i3)).setCell ⟨w2.heap.size, 1, none⟩ (.bool s3)).setCell ⟨w2.heap.size, 2, none⟩ (.slice A3 l3 c3)).setCell ⟨w2.heap.size, 3, none⟩ (.slice B3 k3 d3)).frozen? ⟨w1.heap.size, 3, none⟩ = false := hsc.hP.frozen 3
  have fq_0 : (((((((((w3.alloc (.cells #[.int .i64 i3, .bool s3, .slice A3 l3 c3, .slice B3 k3 d3] 68)).setCell ⟨w1.heap.size, 0, none⟩ (.int .i64 i4)).setCell ⟨w1.heap.size, 1, none⟩ (.bool s4)).setCell ⟨w1.heap.size, 2, none⟩ (.slice A4 l4 c4)).setCell ⟨w1.heap.size, 3, none⟩ (.slice B4 k4 d4)).setCell ⟨w2.heap.size, 0, none⟩ (.int .i64 i3)).setCell ⟨w2.heap.size, 1, none⟩ (.bool s3)).setCell ⟨w2.heap.size, 2, none⟩ (.slice A3 l3 c3)).setCell ⟨w2.heap.size, 3, none⟩ (.slice B3 k3 d3)).frozen? ⟨w2.heap.size, 0, none⟩ = false := hsc.hQ.frozen 0
  have fq_1 : (((((((((w3.alloc (.cells #[.int .i64 i3, .bool s3, .slice A3 l3 c3, .slice B3 k3 d3] 68)).setCell ⟨w1.heap.size, 0, none⟩ (.int .i64 i4)).setCell ⟨w1.heap.size, 1, none⟩ (.bool s4)).setCell ⟨w1.heap.size, 2, none⟩ (.slice A4 l4 c4)).setCell ⟨w1.heap.size, 3, none⟩ (.slice B4 k4 d4)).setCell ⟨w2.heap.size, 0, none⟩ (.int .i64 i3)).setCell ⟨w2.heap.size, 1, none⟩ (.bool s3)).setCell ⟨w2.heap.size, 2, none⟩ (.slice A3 l3 c3)).setCell ⟨w2.heap.size, 3, none⟩ (.slice B3 k3 d3)).frozen? ⟨w2.heap.size, 1, none⟩ = false := hsc.hQ.frozen 1
  have fq_2 : (((((((((w3.alloc (.cells #[.int .i64 i3, .bool s3, .slice A3 l3 c3, .slice B3 k3 d3] 68)).setCell ⟨w1.heap.size, 0, none⟩ (.int .i64 i4)).setCell ⟨w1.heap.size, 1, none⟩ (.bool s4)).setCell ⟨w1.heap.size, 2, none⟩ (.slice A4 l4 c4)).setCell ⟨w1.heap.size, 3, none⟩ (.slice B4 k4 d4)).setCell ⟨w2.heap.size, 0, none⟩ (.int .i64 i3)).setCell ⟨w2.heap.size, 1, none⟩ (.bool s3)).setCell ⟨w2.heap.size, 2, none⟩ (.slice A3 l3 c3)).setCell ⟨w2.heap.size, 3, none⟩ (.slice B3 k3 d3)).frozen? ⟨w2.heap.size, 2, none⟩ = false := hsc.hQ.frozen 2
  have fq_3 : (((((((((w3.alloc (.cells #[.int .i64 i3, .bool s3, .slice A3 l3 c3, .slice B3 k3 d3] 68)).setCell ⟨w1.heap.size, 0, none⟩ (.int .i64 i4)).setCell ⟨w1.heap.size, 1, none⟩ (.bool s4)).setCell ⟨w1.heap.size, 2, none⟩ (.slice A4 l4 c4)).setCell ⟨w1.heap.size, 3, none⟩ (.slice B4 k4 d4)).setCell ⟨w2.heap.size, 0, none⟩ (.int .i64 i3)).setCell ⟨w2.heap.size, 1, none⟩ (.bool s3)).setCell ⟨w2.heap.size, 2, none⟩ (.slice A3 l3 c3)).setCell ⟨w2.heap.size, 3, none⟩ (.slice B3 k3 d3)).frozen? ⟨w2.heap.size, 3, none⟩ = false := hsc.hQ.frozen 3
  have lG : G < (((((((((w3.alloc (.cells #[.int .i64 i3, .bool s3, .slice A3 l3 c3, .slice B3 k3 d3] 68)).setCell ⟨w1.heap.size, 0, none⟩ (.int .i64 i4)).setCell ⟨w1.heap.size, 1, none⟩ (.bool s4)).setCell ⟨w1.heap.size, 2, none⟩ (.slice A4 l4 c4)).setCell ⟨w1.heap.size, 3, none⟩ (.slice B4 k4 d4)).setCell ⟨w2.heap.size, 0, none⟩ (.int .i64 i3)).setCell ⟨w2.heap.size, 1, none⟩ (.bool s3)).setCell ⟨w2.heap.size, 2, none⟩ (.slice A3 l3 c3)).setCell ⟨w2.heap.size, 3, none⟩ (.slice B3 k3 d3)).heap.size := hsc.hG.lt
  have lP : w1.heap.size < (((((((((w3.alloc (.cells #[.int .i64 i3, .bool s3, .slice A3 l3 c3, .slice B3 k3 d3] 68)).setCell ⟨w1.heap.size, 0, none⟩ (.int .i64 i4)).setCell ⟨w1.heap.size, 1, none⟩ (.bool s4)).setCell ⟨w1.heap.size, 2, none⟩ (.slice A4 l4 c4)).setCell ⟨w1.heap.size, 3, none⟩ (.slice B4 k4 d4)).setCell ⟨w2.heap.size, 0, none⟩ (.int .i64 i3)).setCell ⟨w2.heap.size, 1, none⟩ (.bool s3)).setCell ⟨w2.heap.size, 2, none⟩ (.slice A3 l3 c3)).setCell ⟨w2.heap.size, 3, none⟩ (.slice B3 k3 d3)).heap.size := hsc.hP.lt
  have lQ : w2.heap.size < (((((((((w3.alloc (.cells #[.int .i64 i3, .bool s3, .slice A3 l3 c3, .slice B3 k3 d3] 68)).setCell ⟨w1.heap.size, 0, none⟩ (.int .i64 i4)).setCell ⟨w1.heap.size, 1, none⟩ (.bool s4)).setCell ⟨w1.heap.size, 2, none⟩ (.slice A4 l4 c4)).setCell ⟨w1.heap.size, 3, none⟩ (.slice B4 k4 d4)).setCell ⟨w2.heap.size, 0, none⟩ (.int .i64 i3)).setCell ⟨w2.heap.size, 1, none⟩ (.bool s3)).setCell ⟨w2.heap.size, 2, none⟩ (.slice A3 l3 c3)).setCell ⟨w2.heap.size, 3, none⟩ (.slice B3 k3 d3)).heap.size := hsc.hQ.lt
  go_wp2_with fail
  clear w3p_0 w3q_0 w3pp_0 fap_0 w3r_0 w3bq_0 fbq_0 w3p_1 w3q_1 w3pp_1 fap_1 w3r_1 w3bq_1 fbq_1 w3p_2 w3q_2 w3pp_2 fap_2 w3r_2 w3bq_2 fbq_2 w3p_3 w3q_3 w3pp_3 fap_3 w3r_3 w3bq_3 fbq_3 lap lbq hnp
  clear i_0 i_1 i_2 i_3 i_4 i_5 i_6 i_7 i_8 p_0 p_1 p_2 p_3 q_0 q_1 q_2 q_3 g_0 g_1 g_2 g_3 g_4 g_5 g_6 g_7 g_8 fg_0 fg_1 fg_2 fg_3 fg_4 fg_5 fg_6 fg_7 fg_8 fp_0 fp_1 fp_2 fp_3 fq_0 fq_1 fq_2 fq_3 lG lP lQ
  refine (HSA.out _ hsc.r1).mono ?_
  rintro e w5 ⟨rfl, hE5⟩
  have hst5 := hsc.ext hE5
  clear hsc hE5
  have i_0 : (w5).cell? ⟨w.heap.size, 0, none⟩ = some (.bool false) := hst5.hH.cell 0
  have i_1 : (w5).cell? ⟨w.heap.size, 1, none⟩ = some (.int .i64 i1) := hst5.hH.cell 1
  have i_2 : (w5).cell? ⟨w.heap.size, 2, none⟩ = some (.bool s1) := hst5.hH.cell 2
  have i_3 : (w5).cell? ⟨w.heap.size, 3, none⟩ = some (.slice A1 l1 c1) := hst5.hH.cell 3
  have i_4 : (w5).cell? ⟨w.heap.size, 4, none⟩ = some (.slice B1 k1 d1) := hst5.hH.cell 4
  have i_5 : (w5).cell? ⟨w.heap.size, 5, none⟩ = some (.int .i64 i2) := hst5.hH.cell 5
  have i_6 : (w5).cell? ⟨w.heap.size, 6, none⟩ = some (.bool s2) := hst5.hH.cell 6
  have i_7 : (w5).cell? ⟨w.heap.size, 7, none⟩ = some (.slice A2 l2 c2) := hst5.hH.cell 7
  have i_8 : (w5).cell? ⟨w.heap.size, 8, none⟩ = some (.slice B2 k2 d2) := hst5.hH.cell 8
  have p_0 : (w5).cell? ⟨w1.heap.size, 0, none⟩ = some (.int .i64 i4) := hst5.hP.cell 0
  have p_1 : (w5).cell? ⟨w1.heap.size, 1, none⟩ = some (.bool s4) := hst5.hP.cell 1
  have p_2 : (w5).cell? ⟨w1.heap.size, 2, none⟩ = some (.slice A4 l4 c4) := hst5.hP.cell 2
  have p_3 : (w5).cell? ⟨w1.heap.size, 3, none⟩ = some (.slice B4 k4 d4) := hst5.hP.cell 3
  have q_0 : (w5).cell? ⟨w2.heap.size, 0, none⟩ = some (.int .i64 i3) := hst5.hQ.cell 0
  have q_1 : (w5).cell? ⟨w2.heap.size, 1, none⟩ = some (.bool s3) := hst5.hQ.cell 1
  have q_2 : (w5).cell? ⟨w2.heap.size, 2, none⟩ = some (.slice A3 l3 c3) := hst5.hQ.cell 2
  have q_3 : (w5).cell? ⟨w2.heap.size, 3, none⟩ = some (.slice B3 k3 d3) := hst5.hQ.cell 3
  have g_0 : (w5).cell? ⟨G, 0, none⟩ = some (.bool false) := hst5.hG.cell 0
  have g_1 : (w5).cell? ⟨G, 1, none⟩ = some (.int .i64 0) := hst5.hG.cell 1
  have g_2 : (w5).cell? ⟨G, 2, none⟩ = some (.bool false) := hst5.hG.cell 2
  have g_3 : (w5).cell? ⟨G, 3, none⟩ = some (.slice none 0 0) := hst5.hG.cell 3
  have g_4 : (w5).cell? ⟨G, 4, none⟩ = some (.slice none 0 0) := hst5.hG.cell 4
  have g_5 : (w5).cell? ⟨G, 5, none⟩ = some (.int .i64 0) := hst5.hG.cell 5
  have g_6 : (w5).cell? ⟨G, 6, none⟩ = some (.bool false) := hst5.hG.cell 6
  have g_7 : (w5).cell? ⟨G, 7, none⟩ = some (.slice none 0 0) := hst5.hG.cell 7
  have g_8 : (w5).cell? ⟨G, 8, none⟩ = some (.slice none 0 0) := hst5.hG.cell 8
  have fg_0 : (w5).frozen? ⟨G, 0, none⟩ = false := hst5.hG.frozen 0
  have fg_1 : (w5).frozen? ⟨G, 1, none⟩ = false := hst5.hG.frozen 1
  have fg_2 : (w5).frozen? ⟨G, 2, none⟩ = false := hst5.hG.frozen 2
  have fg_3 : (w5).frozen? ⟨G, 3, none⟩ = false := hst5.hG.frozen 3
  have fg_4 : (w5).frozen? ⟨G, 4, none⟩ = false := hst5.hG.frozen 4
  have fg_5 : (w5).frozen? ⟨G, 5, none⟩ = false := hst5.hG.frozen 5
  have fg_6 : (w5).frozen? ⟨G, 6, none⟩ = false := hst5.hG.frozen 6
  have fg_7 : (w5).frozen? ⟨G, 7, none⟩ = false := hst5.hG.frozen 7
  have fg_8 : (w5).frozen? ⟨G, 8, none⟩ = false := hst5.hG.frozen 8
  have fp_0 : (w5).frozen? ⟨w1.heap.size, 0, none⟩ = false := hst5.hP.frozen 0
  have fp_1 : (w5).frozen? ⟨w1.heap.size, 1, none⟩ = false := hst5.hP.frozen 1
  have fp_2 : (w5).frozen? ⟨w1.heap.size, 2, none⟩ = false := hst5.hP.frozen 2
  have fp_3 : (w5).frozen? ⟨w1.heap.size, 3, none⟩ = false := hst5.hP.frozen 3
  have fq_0 : (w5).frozen? ⟨w2.heap.size, 0, none⟩ = false := hst5.hQ.frozen 0
  have fq_1 : (w5).frozen? ⟨w2.heap.size, 1, none⟩ = false := hst5.hQ.frozen 1
  have fq_2 : (w5).frozen? ⟨w2.heap.size, 2, none⟩ = false := hst5.hQ.frozen 2
  have fq_3 : (w5).frozen? ⟨w2.heap.size, 3, none⟩ = false := hst5.hQ.frozen 3
  have lG : G < (w5).heap.size := hst5.hG.lt
  have lP : w1.heap.size < (w5).heap.size := hst5.hP.lt
  have lQ : w2.heap.size < (w5).heap.size := hst5.hQ.lt
  go_wp2_with fail
  exact bodyPost_ret (v := .agg #[.bool false, .int .i64 i4, .bool s4, .slice A4 l4 c4, .slice B4 k4 d4, .int .i64 i3, .bool s3, .slice A3 l3 c3, .slice B3 k3 d3]) (by simp [results, Try.results64, go_sem, lG, g_0, g_1, g_2, g_3, g_4, g_5, g_6, g_7, g_8]) rfl
    ⟨_, _, _, _, _, _, _, _, _, _, _, _, rfl, (RatBox.mk hst5.r3 hst5.hG (NoU.of rfl)).set9 rfl rfl rfl rfl rfl rfl rfl rfl rfl, (RatBox.mk hst5.r4 hst5.hG (NoU.of rfl)).set9 rfl rfl rfl rfl rfl rfl rfl rfl rfl, hst5.ex.set9 hGw _ _ _ _ _ _ _ _ _⟩

set_option maxHeartbeats 4000000 in
theorem size_yb (i1 : Int) (s1 : Bool) (A1 : Option Addr) (l1 c1 : Nat) (B1 : Option Addr) (k1 d1 N1 D1 : Nat) (i2 : Int) (s2 : Bool) (A2 : Option Addr) (l2 c2 : Nat) (B2 : Option Addr) (k2 d2 N2 D2 : Nat) (i3 : Int) (s3 : Bool) (N3 D3 : Nat) (i4 : Int) (s4 : Bool) (N4 D4 : Nat) (x y1 y2 : Int) (F E : Nat) (w : World) (h1 : RatAt w A1 l1 c1 B1 k1 d1 N1 D1) (h2 : RatAt w A2 l2 c2 B2 k2 d2 N2 D2)
    (HM1 : Hid (∀ w, RatAt w A1 l1 c1 B1 k1 d1 N1 D1 → Calls Try.prog 94 #[.agg #[.int .i64 i1, .bool s1, .slice A1 l1 c1, .slice B1 k1 d1]] w (RetEnd i3 s3 N3 D3 w)))
    (HM2 : Hid (∀ w, RatAt w A2 l2 c2 B2 k2 d2 N2 D2 → Calls Try.prog 94 #[.agg #[.int .i64 i2, .bool s2, .slice A2 l2 c2, .slice B2 k2 d2]] w (RetEnd i4 s4 N4 D4 w)))
    (HC : Hid (∀ A3 l3 c3 B3 k3 d3 A4 l4 c4 B4 k4 d4 w, RatAt w A3 l3 c3 B3 k3 d3 N3 D3 → RatAt w A4 l4 c4 B4 k4 d4 N4 D4 → Calls Try.prog 65 #[.agg #[.int .i64 i3, .bool s3, .slice A3 l3 c3, .slice B3 k3 d3], .agg #[.int .i64 i4, .bool s4, .slice A4 l4 c4, .slice B4 k4 d4]] w fun e w' => e = .returned (.int .i64 x) ∧ Ext w w'))
    (HSA : Hid (∀ w, RatAt w A1 l1 c1 B1 k1 d1 N1 D1 → Calls Try.prog 95 #[.agg #[.int .i64 i1, .bool s1, .slice A1 l1 c1, .slice B1 k1 d1]] w fun e w' => e = .returned (.int .i64 y1) ∧ Ext w w'))
    (HSB : Hid (∀ w, RatAt w A2 l2 c2 B2 k2 d2 N2 D2 → Calls Try.prog 95 #[.agg #[.int .i64 i2, .bool s2, .slice A2 l2 c2, .slice B2 k2 d2]] w fun e w' => e = .returned (.int .i64 y2) ∧ Ext w w'))
    (HF : Hid (∀ w, Calls Try.prog 92 #[.int .i64 0] w (RetEnd 0 false F E w)))
    (hx : decide (0 < x) = true) (hy1 : decide (y1 ≤ 0) = true) (hy2 : decide (0 ≤ y2) = false) :
    Calls Try.prog 64 #[.agg #[.bool false, .int .i64 i1, .bool s1, .slice A1 l1 c1, .slice B1 k1 d1, .int .i64 i2, .bool s2, .slice A2 l2 c2, .slice B2 k2 d2]] w (RetSet false i4 s4 N4 D4 i3 s3 N3 D3 w) := by
  have hbG := Blk.new2 w (.cells #[.bool false, .int .i64 i1, .bool s1, .slice A1 l1 c1, .slice B1 k1 d1, .int .i64 i2, .bool s2, .slice A2 l2 c2, .slice B2 k2 d2] 70) 70 #[.bool false, .int .i64 0, .bool false, .slice none 0 0, .slice none 0 0, .int .i64 0, .bool false, .slice none 0 0, .slice none 0 0]
  have hbI := (Blk.new w 70 #[.bool false, .int .i64 i1, .bool s1, .slice A1 l1 c1, .slice B1 k1 d1, .int .i64 i2, .bool s2, .slice A2 l2 c2, .slice B2 k2 d2]).ext ((Ext.refl _).alloc (.cells #[.bool false, .int .i64 0, .bool false, .slice none 0 0, .slice none 0 0, .int .i64 0, .bool false, .slice none 0 0, .slice none 0 0] 70))
  have hEw : Ext w ((w.alloc (.cells #[.bool false, .int .i64 i1, .bool s1, .slice A1 l1 c1, .slice B1 k1 d1, .int .i64 i2, .bool s2, .slice A2 l2 c2, .slice B2 k2 d2] 70)).alloc (.cells #[.bool false, .int .i64 0, .bool false, .slice none 0 0, .slice none 0 0, .int .i64 0, .bool false, .slice none 0 0, .slice none 0 0] 70)) := ((Ext.refl w).alloc _).alloc _
  obtain ⟨G, hG⟩ : ∃ G, G = w.heap.size + 1 := ⟨_, rfl⟩
  rw [← hG] at hbG
  have hGw : w.heap.size ≤ G := by omega
  have HGS := Lib.hid (show w.heap.size + 1 = G from hG.symm)
  have hr1 := h1.ext hEw
  have hr2 := h2.ext hEw
  clear hG h1 h2
  go_enter Try.func64, Try.ntmps64
  go_wp2_with fail
  refine (HM1.out _ hr1).mono ?_
  rintro e w1 ⟨A3, l3, c3, B3, k3, d3, rfl, h3, hE1⟩
  rw [HGS.out]
  clear HGS
  have hE1' : Ext w1 (w1.alloc (.cells #[.int .i64 i3, .bool s3, .slice A3 l3 c3, .slice B3 k3 d3] 68)) := (Ext.refl w1).alloc _
  have hbP := Blk.new w1 68 #[.int .i64 i3, .bool s3, .slice A3 l3 c3, .slice B3 k3 d3]
  have hbG1 := (hbG.ext hE1).ext hE1'
  have hbI1 := (hbI.ext hE1).ext hE1'
  have hr11 := (hr1.ext hE1).ext hE1'
  have hr21 := (hr2.ext hE1).ext hE1'
  have h31 := h3.ext hE1'
  have hEw1 := (hEw.trans hE1).trans hE1'
  have hlt1 : w.heap.size < w1.heap.size := by have a := hbI.lt; have b := hE1.size; omega
  have hlt2 : G < w1.heap.size := by have a := hbG.lt; have b := hE1.size; omega
  have hlt3 : w.heap.size ≤ w1.heap.size := by omega
  clear hbG hbI hr1 hr2 h3 hEw hE1 hE1'
  have i_0 : (w1.alloc (.cells #[.int .i64 i3, .bool s3, .slice A3 l3 c3, .slice B3 k3 d3] 68)).cell? ⟨w.heap.size, 0, none⟩ = some (.bool false) := hbI1.cell 0
  have i_1 : (w1.alloc (.cells #[.int .i64 i3, .bool s3, .slice A3 l3 c3, .slice B3 k3 d3] 68)).cell? ⟨w.heap.size, 1, none⟩ = some (.int .i64 i1) := hbI1.cell 1
  have i_2 : (w1.alloc (.cells #[.int .i64 i3, .bool s3, .slice A3 l3 c3, .slice B3 k3 d3] 68)).cell? ⟨w.heap.size, 2, none⟩ = some (.bool s1) := hbI1.cell 2
  have i_3 : (w1.alloc (.cells #[.int .i64 i3, .bool s3, .slice A3 l3 c3, .slice B3 k3 d3] 68)).cell? ⟨w.heap.size, 3, none⟩ = some (.slice A1 l1 c1) := hbI1.cell 3
  have i_4 : (w1.alloc (.cells #[.int .i64 i3, .bool s3, .slice A3 l3 c3, .slice B3 k3 d3] 68)).cell? ⟨w.heap.size, 4, none⟩ = some (.slice B1 k1 d1) := hbI1.cell 4
  have i_5 : (w1.alloc (.cells #[.int .i64 i3, .bool s3, .slice A3 l3 c3, .slice B3 k3 d3] 68)).cell? ⟨w.heap.size, 5, none⟩ = some (.int .i64 i2) := hbI1.cell 5
  have i_6 : (w1.alloc (.cells #[.int .i64 i3, .bool s3, .slice A3 l3 c3, .slice B3 k3 d3] 68)).cell? ⟨w.heap.size, 6, none⟩ = some (.bool s2) := hbI1.cell 6
  have i_7 : (w1.alloc (.cells #[.int .i64 i3, .bool s3, .slice A3 l3 c3, .slice B3 k3 d3] 68)).cell? ⟨w.heap.size, 7, none⟩ = some (.slice A2 l2 c2) := hbI1.cell 7
  have i_8 : (w1.alloc (.cells #[.int .i64 i3, .bool s3, .slice A3 l3 c3, .slice B3 k3 d3] 68)).cell? ⟨w.heap.size, 8, none⟩ = some (.slice B2 k2 d2) := hbI1.cell 8
  go_wp2_with fail
  clear i_0 i_1 i_2 i_3 i_4 i_5 i_6 i_7 i_8
  refine (HM2.out _ hr21).mono ?_
  rintro e w2 ⟨A4, l4, c4, B4, k4, d4, rfl, h4, hE2⟩
  have hE2' : Ext (w1.alloc (.cells #[.int .i64 i3, .bool s3, .slice A3 l3 c3, .slice B3 k3 d3] 68)) (w2.alloc (.cells #[.int .i64 i4, .bool s4, .slice A4 l4 c4, .slice B4 k4 d4] 68)) := hE2.alloc _
  have hst : MZ w.heap.size G w1.heap.size w2.heap.size i1 s1 A1 l1 c1 B1 k1 d1 N1 D1 i2 s2 A2 l2 c2 B2 k2 d2 N2 D2 i3 s3 A3 l3 c3 B3 k3 d3 N3 D3 i4 s4 A4 l4 c4 B4 k4 d4 N4 D4 w (w2.alloc (.cells #[.int .i64 i4, .bool s4, .slice A4 l4 c4, .slice B4 k4 d4] 68)) :=
    ⟨hbI1.ext hE2', hbG1.ext hE2', hbP.ext hE2', Blk.new w2 _ _, hr11.ext hE2', hr21.ext hE2', h31.ext hE2', h4.ext ((Ext.refl w2).alloc _), hEw1.trans hE2', hlt3, hlt1, hlt2, by have a := hbP.lt; have b := hE2.size; omega⟩
  clear hbI1 hbG1 hbP hr11 hr21 h31 h4 hEw1 hE2 hE2' hlt1 hlt2 hlt3
  have i_0 : (w2.alloc (.cells #[.int .i64 i4, .bool s4, .slice A4 l4 c4, .slice B4 k4 d4] 68)).cell? ⟨w.heap.size, 0, none⟩ = some (.bool false) := hst.hH.cell 0
  have i_1 : (w2.alloc (.cells #[.int .i64 i4, .bool s4, .slice A4 l4 c4, .slice B4 k4 d4] 68)).cell? ⟨w.heap.size, 1, none⟩ = some (.int .i64 i1) := hst.hH.cell 1
  have i_2 : (w2.alloc (.cells #[.int .i64 i4, .bool s4, .slice A4 l4 c4, .slice B4 k4 d4] 68)).cell? ⟨w.heap.size, 2, none⟩ = some (.bool s1) := hst.hH.cell 2
  have i_3 : (w2.alloc (.cells #[.int .i64 i4, .bool s4, .slice A4 l4 c4, .slice B4 k4 d4] 68)).cell? ⟨w.heap.size, 3, none⟩ = some (.slice A1 l1 c1) := hst.hH.cell 3
  have i_4 : (w2.alloc (.cells #[.int .i64 i4, .bool s4, .slice A4 l4 c4, .slice B4 k4 d4] 68)).cell? ⟨w.heap.size, 4, none⟩ = some (.slice B1 k1 d1) := hst.hH.cell 4
  have i_5 : (w2.alloc (.cells #[.int .i64 i4, .bool s4, .slice A4 l4 c4, .slice B4 k4 d4] 68)).cell? ⟨w.heap.size, 5, none⟩ = some (.int .i64 i2) := hst.hH.cell 5
  have i_6 : (w2.alloc (.cells #[.int .i64 i4, .bool s4, .slice A4 l4 c4, .slice B4 k4 d4] 68)).cell? ⟨w.heap.size, 6, none⟩ = some (.bool s2) := hst.hH.cell 6
  have i_7 : (w2.alloc (.cells #[.int .i64 i4, .bool s4, .slice A4 l4 c4, .slice B4 k4 d4] 68)).cell? ⟨w.heap.size, 7, none⟩ = some (.slice A2 l2 c2) := hst.hH.cell 7
  have i_8 : (w2.alloc (.cells #[.int .i64 i4, .bool s4, .slice A4 l4 c4, .slice B4 k4 d4] 68)).cell? ⟨w.heap.size, 8, none⟩ = some (.slice B2 k2 d2) := hst.hH.cell 8
  have p_0 : (w2.alloc (.cells #[.int .i64 i4, .bool s4, .slice A4 l4 c4, .slice B4 k4 d4] 68)).cell? ⟨w1.heap.size, 0, none⟩ = some (.int .i64 i3) := hst.hP.cell 0
  have p_1 : (w2.alloc (.cells #[.int .i64 i4, .bool s4, .slice A4 l4 c4, .slice B4 k4 d4] 68)).cell? ⟨w1.heap.size, 1, none⟩ = some (.bool s3) := hst.hP.cell 1
  have p_2 : (w2.alloc (.cells #[.int .i64 i4, .bool s4, .slice A4 l4 c4, .slice B4 k4 d4] 68)).cell? ⟨w1.heap.size, 2, none⟩ = some (.slice A3 l3 c3) := hst.hP.cell 2
  have p_3 : (w2.alloc (.cells #[.int .i64 i4, .bool s4, .slice A4 l4 c4, .slice B4 k4 d4] 68)).cell? ⟨w1.heap.size, 3, none⟩ = some (.slice B3 k3 d3) := hst.hP.cell 3
  have q_0 : (w2.alloc (.cells #[.int .i64 i4, .bool s4, .slice A4 l4 c4, .slice B4 k4 d4] 68)).cell? ⟨w2.heap.size, 0, none⟩ = some (.int .i64 i4) := hst.hQ.cell 0
  have q_1 : (w2.alloc (.cells #[.int .i64 i4, .bool s4, .slice A4 l4 c4, .slice B4 k4 d4] 68)).cell? ⟨w2.heap.size, 1, none⟩ = some (.bool s4) := hst.hQ.cell 1
  have q_2 : (w2.alloc (.cells #[.int .i64 i4, .bool s4, .slice A4 l4 c4, .slice B4 k4 d4] 68)).cell? ⟨w2.heap.size, 2, none⟩ = some (.slice A4 l4 c4) := hst.hQ.cell 2
  have q_3 : (w2.alloc (.cells #[.int .i64 i4, .bool s4, .slice A4 l4 c4, .slice B4 k4 d4] 68)).cell? ⟨w2.heap.size, 3, none⟩ = some (.slice B4 k4 d4) := hst.hQ.cell 3
  have g_0 : (w2.alloc (.cells #[.int .i64 i4, .bool s4, .slice A4 l4 c4, .slice B4 k4 d4] 68)).cell? ⟨G, 0, none⟩ = some (.bool false) := hst.hG.cell 0
  have g_1 : (w2.alloc (.cells #[.int .i64 i4, .bool s4, .slice A4 l4 c4, .slice B4 k4 d4] 68)).cell? ⟨G, 1, none⟩ = some (.int .i64 0) := hst.hG.cell 1
  have g_2 : (w2.alloc (.cells #[.int .i64 i4, .bool s4, .slice A4 l4 c4, .slice B4 k4 d4] 68)).cell? ⟨G, 2, none⟩ = some (.bool false) := hst.hG.cell 2
  have g_3 : (w2.alloc (.cells #[.int .i64 i4, .bool s4, .slice A4 l4 c4, .slice B4 k4 d4] 68)).cell? ⟨G, 3, none⟩ = some (.slice none 0 0) := hst.hG.cell 3
  have g_4 : (w2.alloc (.cells #[.int .i64 i4, .bool s4, .slice A4 l4 c4, .slice B4 k4 d4] 68)).cell? ⟨G, 4, none⟩ = some (.slice none 0 0) := hst.hG.cell 4
  have g_5 : (w2.alloc (.cells #[.int .i64 i4, .bool s4, .slice A4 l4 c4, .slice B4 k4 d4] 68)).cell? ⟨G, 5, none⟩ = some (.int .i64 0) := hst.hG.cell 5
  have g_6 : (w2.alloc (.cells #[.int .i64 i4, .bool s4, .slice A4 l4 c4, .slice B4 k4 d4] 68)).cell? ⟨G, 6, none⟩ = some (.bool false) := hst.hG.cell 6
  have g_7 : (w2.alloc (.cells #[.int .i64 i4, .bool s4, .slice A4 l4 c4, .slice B4 k4 d4] 68)).cell? ⟨G, 7, none⟩ = some (.slice none 0 0) := hst.hG.cell 7
  have g_8 : (w2.alloc (.cells #[.int .i64 i4, .bool s4, .slice A4 l4 c4, .slice B4 k4 d4] 68)).cell? ⟨G, 8, none⟩ = some (.slice none 0 0) := hst.hG.cell 8
  have fg_0 : (w2.alloc (.cells #[.int .i64 i4, .bool s4, .slice A4 l4 c4, .slice B4 k4 d4] 68)).frozen? ⟨G, 0, none⟩ = false := hst.hG.frozen 0
  have fg_1 : (w2.alloc (.cells #[.int .i64 i4, .bool s4, .slice A4 l4 c4, .slice B4 k4 d4] 68)).frozen? ⟨G, 1, none⟩ = false := hst.hG.frozen 1
  have fg_2 : (w2.alloc (.cells #[.int .i64 i4, .bool s4, .slice A4 l4 c4, .slice B4 k4 d4] 68)).frozen? ⟨G, 2, none⟩ = false := hst.hG.frozen 2
  have fg_3 : (w2.alloc (.cells #[.int .i64 i4, .bool s4, .slice A4 l4 c4, .slice B4 k4 d4] 68)).frozen? ⟨G, 3, none⟩ = false := hst.hG.frozen 3
  have fg_4 : (w2.alloc (.cells #[.int .i64 i4, .bool s4, .slice A4 l4 c4, .slice B4 k4 d4] 68)).frozen? ⟨G, 4, none⟩ = false := hst.hG.frozen 4
  have fg_5 : (w2.alloc (.cells #[.int .i64 i4, .bool s4, .slice A4 l4 c4, .slice B4 k4 d4] 68)).frozen? ⟨G, 5, none⟩ = false := hst.hG.frozen 5
  have fg_6 : (w2.alloc (.cells #[.int .i64 i4, .bool s4, .slice A4 l4 c4, .slice B4 k4 d4] 68)).frozen? ⟨G, 6, none⟩ = false := hst.hG.frozen 6
  have fg_7 : (w2.alloc (.cells #[.int .i64 i4, .bool s4, .slice A4 l4 c4, .slice B4 k4 d4] 68)).frozen? ⟨G, 7, none⟩ = false := hst.hG.frozen 7
  have fg_8 : (w2.alloc (.cells #[.int .i64 i4, .bool s4, .slice A4 l4 c4, .slice B4 k4 d4] 68)).frozen? ⟨G, 8, none⟩ = false := hst.hG.frozen 8
  have fp_0 : (w2.alloc (.cells #[.int .i64 i4, .bool s4, .slice A4 l4 c4, .slice B4 k4 d4] 68)).frozen? ⟨w1.heap.size, 0, none⟩ = false := hst.hP.frozen 0
  have fp_1 : (w2.alloc (.cells #[.int .i64 i4, .bool s4, .slice A4 l4 c4, .slice B4 k4 d4] 68)).frozen? ⟨w1.heap.size, 1, none⟩ = false := hst.hP.frozen 1
  have fp_2 : (w2.alloc (.cells #[.int .i64 i4, .bool s4, .slice A4 l4 c4, .slice B4 k4 d4] 68)).frozen? ⟨w1.heap.size, 2, none⟩ = false := hst.hP.frozen 2
  have fp_3 : (w2.alloc (.cells #[.int .i64 i4, .bool s4, .slice A4 l4 c4, .slice B4 k4 d4] 68)).frozen? ⟨w1.heap.size, 3, none⟩ = false := hst.hP.frozen 3
  have fq_0 : (w2.alloc (.cells #[.int .i64 i4, .bool s4, .slice A4 l4 c4, .slice B4 k4 d4] 68)).frozen? ⟨w2.heap.size, 0, none⟩ = false := hst.hQ.frozen 0
  have fq_1 : (w2.alloc (.cells #[.int .i64 i4, .bool s4, .slice A4 l4 c4, .slice B4 k4 d4] 68)).frozen? ⟨w2.heap.size, 1, none⟩ = false := hst.hQ.frozen 1
  have fq_2 : (w2.alloc (.cells #[.int .i64 i4, .bool s4, .slice A4 l4 c4, .slice B4 k4 d4] 68)).frozen? ⟨w2.heap.size, 2, none⟩ = false := hst.hQ.frozen 2
  have fq_3 : (w2.alloc (.cells #[.int .i64 i4, .bool s4, .slice A4 l4 c4, .slice B4 k4 d4] 68)).frozen? ⟨w2.heap.size, 3, none⟩ = false := hst.hQ.frozen 3
  have lG : G < (w2.alloc (.cells #[.int .i64 i4, .bool s4, .slice A4 l4 c4, .slice B4 k4 d4] 68)).heap.size := hst.hG.lt
  have lP : w1.heap.size < (w2.alloc (.cells #[.int .i64 i4, .bool s4, .slice A4 l4 c4, .slice B4 k4 d4] 68)).heap.size := hst.hP.lt
  have lQ : w2.heap.size < (w2.alloc (.cells #[.int .i64 i4, .bool s4, .slice A4 l4 c4, .slice B4 k4 d4] 68)).heap.size := hst.hQ.lt
  go_wp2_with fail
  clear i_0 i_1 i_2 i_3 i_4 i_5 i_6 i_7 i_8 p_0 p_1 p_2 p_3 q_0 q_1 q_2 q_3 g_0 g_1 g_2 g_3 g_4 g_5 g_6 g_7 g_8 fg_0 fg_1 fg_2 fg_3 fg_4 fg_5 fg_6 fg_7 fg_8 fp_0 fp_1 fp_2 fp_3 fq_0 fq_1 fq_2 fq_3 lG lP lQ
  refine (HC.out _ _ _ _ _ _ _ _ _ _ _ _ _ hst.r3 hst.r4).mono ?_
  rintro e w3 ⟨rfl, hE3⟩
  have hst3 := hst.ext hE3
  clear hst hE3
  have hsa := hst3.ext ((Ext.refl w3).alloc (.cells #[.int .i64 i3, .bool s3, .slice A3 l3 c3, .slice B3 k3 d3] 68))
  have hbR := Blk.new w3 68 #[.int .i64 i3, .bool s3, .slice A3 l3 c3, .slice B3 k3 d3]
  have hnp : w3.heap.size ≠ w1.heap.size := by have a := hst3.hP.lt; omega
  have hbR2 : Blk (((((w3.alloc (.cells #[.int .i64 i3, .bool s3, .slice A3 l3 c3, .slice B3 k3 d3] 68)).setCell ⟨w1.heap.size, 0, none⟩ (.int .i64 i4)).setCell ⟨w1.heap.size, 1, none⟩ (.bool s4)).setCell ⟨w1.heap.size, 2, none⟩ (.slice A4 l4 c4)).setCell ⟨w1.heap.size, 3, none⟩ (.slice B4 k4 d4)) w3.heap.size 68 #[.int .i64 i3, .bool s3, .slice A3 l3 c3, .slice B3 k3 d3] := hbR.far4 hnp _ _ _ _
  have hsb := hsa.setP hsa.r4 (i5 := i4) (s5 := s4)
  have hsc := hsb.setQ (show RatAt _ A3 l3 c3 B3 k3 d3 N3 D3 from ((RatBox.mk hsa.r3 hsa.hP (NoU.of rfl)).set4 rfl rfl rfl rfl).rat) (i5 := i3) (s5 := s3)
  have w3p_0 : w3.cell? ⟨w1.heap.size, 0, none⟩ = some (.int .i64 i3) := hst3.hP.cell 0
  have w3p_1 : w3.cell? ⟨w1.heap.size, 1, none⟩ = some (.bool s3) := hst3.hP.cell 1
  have w3p_2 : w3.cell? ⟨w1.heap.size, 2, none⟩ = some (.slice A3 l3 c3) := hst3.hP.cell 2
  have w3p_3 : w3.cell? ⟨w1.heap.size, 3, none⟩ = some (.slice B3 k3 d3) := hst3.hP.cell 3
  have w3q_0 : (w3.alloc (.cells #[.int .i64 i3, .bool s3, .slice A3 l3 c3, .slice B3 k3 d3] 68)).cell? ⟨w2.heap.size, 0, none⟩ = some (.int .i64 i4) := hsa.hQ.cell 0
  have w3q_1 : (w3.alloc (.cells #[.int .i64 i3, .bool s3, .slice A3 l3 c3, .slice B3 k3 d3] 68)).cell? ⟨w2.heap.size, 1, none⟩ = some (.bool s4) := hsa.hQ.cell 1
  have w3q_2 : (w3.alloc (.cells #[.int .i64 i3, .bool s3, .slice A3 l3 c3, .slice B3 k3 d3] 68)).cell? ⟨w2.heap.size, 2, none⟩ = some (.slice A4 l4 c4) := hsa.hQ.cell 2
  have w3q_3 : (w3.alloc (.cells #[.int .i64 i3, .bool s3, .slice A3 l3 c3, .slice B3 k3 d3] 68)).cell? ⟨w2.heap.size, 3, none⟩ = some (.slice B4 k4 d4) := hsa.hQ.cell 3
  have w3pp_0 : (w3.alloc (.cells #[.int .i64 i3, .bool s3, .slice A3 l3 c3, .slice B3 k3 d3] 68)).cell? ⟨w1.heap.size, 0, none⟩ = some (.int .i64 i3) := hsa.hP.cell 0
  have w3pp_1 : (w3.alloc (.cells #[.int .i64 i3, .bool s3, .slice A3 l3 c3, .slice B3 k3 d3] 68)).cell? ⟨w1.heap.size, 1, none⟩ = some (.bool s3) := hsa.hP.cell 1
  have w3pp_2 : (w3.alloc (.cells #[.int .i64 i3, .bool s3, .slice A3 l3 c3, .slice B3 k3 d3] 68)).cell? ⟨w1.heap.size, 2, none⟩ = some (.slice A3 l3 c3) := hsa.hP.cell 2
  have w3pp_3 : (w3.alloc (.cells #[.int .i64 i3, .bool s3, .slice A3 l3 c3, .slice B3 k3 d3] 68)).cell? ⟨w1.heap.size, 3, none⟩ = some (.slice B3 k3 d3) := hsa.hP.cell 3
  have fap_0 : (w3.alloc (.cells #[.int .i64 i3, .bool s3, .slice A3 l3 c3, .slice B3 k3 d3] 68)).frozen? ⟨w1.heap.size, 0, none⟩ = false := hsa.hP.frozen 0
  have fap_1 : (w3.alloc (.cells #[.int .i64 i3, .bool s3, .slice A3 l3 c3, .slice B3 k3 d3] 68)).frozen? ⟨w1.heap.size, 1, none⟩ = false := hsa.hP.frozen 1
  have fap_2 : (w3.alloc (.cells #[.int .i64 i3, .bool s3, .slice A3 l3 c3, .slice B3 k3 d3] 68)).frozen? ⟨w1.heap.size, 2, none⟩ = false := hsa.hP.frozen 2
  have fap_3 : (w3.alloc (.cells #[.int .i64 i3, .bool s3, .slice A3 l3 c3, .slice B3 k3 d3] 68)).frozen? ⟨w1.heap.size, 3, none⟩ = false := hsa.hP.frozen 3
  have lap : w1.heap.size < (w3.alloc (.cells #[.int .i64 i3, .bool s3, .slice A3 l3 c3, .slice B3 k3 d3] 68)).heap.size := hsa.hP.lt
  have w3r_0 : (((((w3.alloc (.cells #[.int .i64 i3, .bool s3, .slice A3 l3 c3, .slice B3 k3 d3] 68)).setCell ⟨w1.heap.size, 0, none⟩ (.int .i64 i4)).setCell ⟨w1.heap.size, 1, none⟩ (.bool s4)).setCell ⟨w1.heap.size, 2, none⟩ (.slice A4 l4 c4)).setCell ⟨w1.heap.size, 3, none⟩ (.slice B4 k4 d4)).cell? ⟨w3.heap.size, 0, none⟩ = some (.int .i64 i3) := hbR2.cell 0
  have w3r_1 : (((((w3.alloc (.cells #[.int .i64 i3, .bool s3, .slice A3 l3 c3, .slice B3 k3 d3] 68)).setCell ⟨w1.heap.size, 0, none⟩ (.int .i64 i4)).setCell ⟨w1.heap.size, 1, none⟩ (.bool s4)).setCell ⟨w1.heap.size, 2, none⟩ (.slice A4 l4 c4)).setCell ⟨w1.heap.size, 3, none⟩ (.slice B4 k4 d4)).cell? ⟨w3.heap.size, 1, none⟩ = some (.bool s3) := hbR2.cell 1
  have w3r_2 : (((((w3.alloc (.cells #[.int .i64 i3, .bool s3, .slice A3 l3 c3, .slice B3 k3 d3] 68)).setCell ⟨w1.heap.size, 0, none⟩ (.int .i64 i4)).setCell ⟨w1.heap.size, 1, none⟩ (.bool s4)).setCell ⟨w1.heap.size, 2, none⟩ (.slice A4 l4 c4)).setCell ⟨w1.heap.size, 3, none⟩ (.slice B4 k4 d4)).cell? ⟨w3.heap.size, 2, none⟩ = some (.slice A3 l3 c3) := hbR2.cell 2
  have w3r_3 : (((((w3.alloc (.cells #[.int .i64 i3, .bool s3, .slice A3 l3 c3, .slice B3 k3 d3] 68)).setCell ⟨w1.heap.size, 0, none⟩ (.int .i64 i4)).setCell ⟨w1.heap.size, 1, none⟩ (.bool s4)).setCell ⟨w1.heap.size, 2, none⟩ (.slice A4 l4 c4)).setCell ⟨w1.heap.size, 3, none⟩ (.slice B4 k4 d4)).cell? ⟨w3.heap.size, 3, none⟩ = some (.slice B3 k3 d3) := hbR2.cell 3
  have w3bq_0 : (((((w3.alloc (.cells #[.int .i64 i3, .bool s3, .slice A3 l3 c3, .slice B3 k3 d3] 68)).setCell ⟨w1.heap.size, 0, none⟩ (.int .i64 i4)).setCell ⟨w1.heap.size, 1, none⟩ (.bool s4)).setCell ⟨w1.heap.size, 2, none⟩ (.slice A4 l4 c4)).setCell ⟨w1.heap.size, 3, none⟩ (.slice B4 k4 d4)).cell? ⟨w2.heap.size, 0, none⟩ = some (.int .i64 i4) := hsb.hQ.cell 0
  have w3bq_1 : (((((w3.alloc (.cells #[.int .i64 i3, .bool s3, .slice A3 l3 c3, .slice B3 k3 d3] 68)).setCell ⟨w1.heap.size, 0, none⟩ (.int .i64 i4)).setCell ⟨w1.heap.size, 1, none⟩ (.bool s4)).setCell ⟨w1.heap.size, 2, none⟩ (.slice A4 l4 c4)).setCell ⟨w1.heap.size, 3, none⟩ (.slice B4 k4 d4)).cell? ⟨w2.heap.size, 1, none⟩ = some (.bool s4) := hsb.hQ.cell 1
  have w3bq_2 : (((((w3.alloc (.cells #[.int .i64 i3, .bool s3, .slice A3 l3 c3, .slice B3 k3 d3] 68)).setCell ⟨w1.heap.size, 0, none⟩ (.int .i64 i4)).setCell ⟨w1.heap.size, 1, none⟩ (.bool s4)).setCell ⟨w1.heap.size, 2, none⟩ (.slice A4 l4 c4)).setCell ⟨w1.heap.size, 3, none⟩ (.slice B4 k4 d4)).cell? ⟨w2.heap.size, 2, none⟩ = some (.slice A4 l4 c4) := hsb.hQ.cell 2
  have w3bq_3 : (((((w3.alloc (.cells #[.int .i64 i3, .bool s3, .slice A3 l3 c3, .slice B3 k3 d3] 68)).setCell ⟨w1.heap.size, 0, none⟩ (.int .i64 i4)).setCell ⟨w1.heap.size, 1, none⟩ (.bool s4)).setCell ⟨w1.heap.size, 2, none⟩ (.slice A4 l4 c4)).setCell ⟨w1.heap.size, 3, none⟩ (.slice B4 k4 d4)).cell? ⟨w2.heap.size, 3, none⟩ = some (.slice B4 k4 d4) := hsb.hQ.cell 3
  have fbq_0 : (((((w3.alloc (.cells #[.int .i64 i3, .bool s3, .slice A3 l3 c3, .slice B3 k3 d3] 68)).setCell ⟨w1.heap.size, 0, none⟩ (.int .i64 i4)).setCell ⟨w1.heap.size, 1, none⟩ (.bool s4)).setCell ⟨w1.heap.size, 2, none⟩ (.slice A4 l4 c4)).setCell ⟨w1.heap.size, 3, none⟩ (.slice B4 k4 d4)).frozen? ⟨w2.heap.size, 0, none⟩ = false := hsb.hQ.frozen 0
  have fbq_1 : (((((w3.alloc (.cells #[.int .i64 i3, .bool s3, .slice A3 l3 c3, .slice B3 k3 d3] 68)).setCell ⟨w1.heap.size, 0, none⟩ (.int .i64 i4)).setCell ⟨w1.heap.size, 1, none⟩ (.bool s4)).setCell ⟨w1.heap.size, 2, none⟩ (.slice A4 l4 c4)).setCell ⟨w1.heap.size, 3, none⟩ (.slice B4 k4 d4)).frozen? ⟨w2.heap.size, 1, none⟩ = false := hsb.hQ.frozen 1
  have fbq_2 : (((((w3.alloc (.cells #[.int .i64 i3, .bool s3, .slice A3 l3 c3, .slice B3 k3 d3] 68)).setCell ⟨w1.heap.size, 0, none⟩ (.int .i64 i4)).setCell ⟨w1.heap.size, 1, none⟩ (.bool s4)).setCell ⟨w1.heap.size, 2, none⟩ (.slice A4 l4 c4)).setCell ⟨w1.heap.size, 3, none⟩ (.slice B4 k4 d4)).frozen? ⟨w2.heap.size, 2, none⟩ = false := hsb.hQ.frozen 2
  have fbq_3 : (((((w3.alloc (.cells #[.int .i64 i3, .bool s3, .slice A3 l3 c3, .slice B3 k3 d3] 68)).setCell ⟨w1.heap.size, 0, none⟩ (.int .i64 i4)).setCell ⟨w1.heap.size, 1, none⟩ (.bool s4)).setCell ⟨w1.heap.size, 2, none⟩ (.slice A4 l4 c4)).setCell ⟨w1.heap.size, 3, none⟩ (.slice B4 k4 d4)).frozen? ⟨w2.heap.size, 3, none⟩ = false := hsb.hQ.frozen 3
  have lbq : w2.heap.size < (((((w3.alloc (.cells #[.int .i64 i3, .bool s3, .slice A3 l3 c3, .slice B3 k3 d3] 68)).setCell ⟨w1.heap.size, 0, none⟩ (.int .i64 i4)).setCell ⟨w1.heap.size, 1, none⟩ (.bool s4)).setCell ⟨w1.heap.size, 2, none⟩ (.slice A4 l4 c4)).setCell ⟨w1.heap.size, 3, none⟩ (.slice B4 k4 d4)).heap.size := hsb.hQ.lt
  clear hst3 hsa hsb hbR hbR2
  have i_0 : (((((((((w3.alloc (.cells #[.int .i64 i3, .bool s3, .slice A3 l3 c3, .slice B3 k3 d3] 68)).setCell ⟨w1.heap.size, 0, none⟩ (.int .i64 i4)).setCell ⟨w1.heap.size, 1, none⟩ (.bool s4)).setCell ⟨w1.heap.size, 2, none⟩ (.slice A4 l4 c4)).setCell ⟨w1.heap.size, 3, none⟩ (.slice B4 k4 d4)).setCell ⟨w2.heap.size, 0, none⟩ (.int .i64 i3)).setCell ⟨w2.heap.size, 1, none⟩ (.bool s3)).setCell ⟨w2.heap.size, 2, none⟩ (.slice A3 l3 c3)).setCell ⟨w2.heap.size, 3, none⟩ (.slice B3 k3 d3)).cell? ⟨w.heap.size, 0, none⟩ = some (.bool false) := hsc.hH.cell 0
  have i_1 : (((((((((w3.alloc (.cells #[.int .i64 i3, .bool s3, .slice A3 l3 c3, .slice B3 k3 d3] 68)).setCell ⟨w1.heap.size, 0, none⟩ (.int .i64 i4)).setCell ⟨w1.heap.size, 1, none⟩ (.bool s4)).setCell ⟨w1.heap.size, 2, none⟩ (.slice A4 l4 c4)).setCell ⟨w1.heap.size, 3, none⟩ (.slice B4 k4 d4)).setCell ⟨w2.heap.size, 0, none⟩ (.int .i64 i3)).setCell ⟨w2.heap.size, 1, none⟩ (.bool s3)).setCell ⟨w2.heap.size, 2, none⟩ (.slice A3 l3 c3)).setCell ⟨w2.heap.size, 3, none⟩ (.slice B3 k3 d3)).cell? ⟨w.heap.size, 1, none⟩ = some (.int .i64 i1) := hsc.hH.cell 1
  have i_2 : (((((((((w3.alloc (.cells #[.int .i64 i3, .bool s3, .slice A3 l3 c3, .slice B3 k3 d3] 68)).setCell ⟨w1.heap.size, 0, none⟩ (.int .i64 i4)).setCell ⟨w1.heap.size, 1, none⟩ (.bool s4)).setCell ⟨w1.heap.size, 2, none⟩ (.slice A4 l4 c4)).setCell ⟨w1.heap.size, 3, none⟩ (.slice B4 k4 d4)).setCell ⟨w2.heap.size, 0, none⟩ (.int .i64 i3)).setCell ⟨w2.heap.size, 1, none⟩ (.bool s3)).setCell ⟨w2.heap.size, 2, none⟩ (.slice A3 l3 c3)).setCell ⟨w2.heap.size, 3, none⟩ (.slice B3 k3 d3)).cell? ⟨w.heap.size, 2, none⟩ = some (.bool s1) := hsc.hH.cell 2
  have i_3 : (((((((((w3.alloc (.cells #[.int .i64 i3, .bool s3, .slice A3 l3 c3, .slice B3 k3 d3] 68)).setCell ⟨w1.heap.size, 0, none⟩ (.int .i64 i4)).setCell ⟨w1.heap.size, 1, none⟩ (.bool s4)).setCell ⟨w1.heap.size, 2, none⟩ (.slice A4 l4 c4)).setCell ⟨w1.heap.size, 3, none⟩ (.slice B4 k4 d4)).setCell ⟨w2.heap.size, 0, none⟩ (.int .i64 i3)).setCell ⟨w2.heap.size, 1, none⟩ (.bool s3)).setCell ⟨w2.heap.size, 2, none⟩ (.slice A3 l3 c3)).setCell ⟨w2.heap.size, 3, none⟩ (.slice B3 k3 d3)).cell? ⟨w.heap.size, 3, none⟩ = some (.slice A1 l1 c1) := hsc.hH.cell 3
  have i_4 : (((((((((w3.alloc (.cells #[.int .i64 i3, .bool s3, .slice A3 l3 c3, .slice B3 k3 d3] 68)).setCell ⟨w1.heap.size, 0, none⟩ (.int .i64 i4)).setCell ⟨w1.heap.size, 1, none⟩ (.bool s4)).setCell ⟨w1.heap.size, 2, none⟩ (.slice A4 l4 c4)).setCell ⟨w1.heap.size, 3, none⟩ (.slice B4 k4 d4)).setCell ⟨w2.heap.size, 0, none⟩ (.int .i64 i3)).setCell ⟨w2.heap.size, 1, none⟩ (.bool s3)).setCell ⟨w2.heap.size, 2, none⟩ (.slice A3 l3 c3)).setCell ⟨w2.heap.size, 3, none⟩ (.slice B3 k3 d3)).cell? ⟨w.heap.size, 4, none⟩ = some (.slice B1 k1 d1) := hsc.hH.cell 4
  have i_5 : (((((((((w3.alloc (.cells #[.int .i64 i3, .bool s3, .slice A3 l3 c3, .slice B3 k3 d3] 68)).setCell ⟨w1.heap.size, 0, none⟩ (.int .i64 i4)).setCell ⟨w1.heap.size, 1, none⟩ (.bool s4)).setCell ⟨w1.heap.size, 2, none⟩ (.slice A4 l4 c4)).setCell ⟨w1.heap.size, 3, none⟩ (.slice B4 k4 d4)).setCell ⟨w2.heap.size, 0, none⟩ (.int .i64 i3)).setCell ⟨w2.heap.size, 1, none⟩ (.bool s3)).setCell ⟨w2.heap.size, 2, none⟩ (.slice A3 l3 c3)).setCell ⟨w2.heap.size, 3, none⟩ (.slice B3 k3 d3)).cell? ⟨w.heap.size, 5, none⟩ = some (.int .i64 i2) := hsc.hH.cell 5
  have i_6 : (((((((((w3.alloc (.cells #[.int .i64 i3, .bool s3, .slice A3 l3 c3, .slice B3 k3 d3] 68)).setCell ⟨w1.heap.size, 0, none⟩ (.int .i64 i4)).setCell ⟨w1.heap.size, 1, none⟩ (.bool s4)).setCell ⟨w1.heap.size, 2, none⟩ (.slice A4 l4 c4)).setCell ⟨w1.heap.size, 3, none⟩ (.slice B4 k4 d4)).setCell ⟨w2.heap.size, 0, none⟩ (.int .i64 i3)).setCell ⟨w2.heap.size, 1, none⟩ (.bool s3)).setCell ⟨w2.heap.size, 2, none⟩ (.slice A3 l3 c3)).setCell ⟨w2.heap.size, 3, none⟩ (.slice B3 k3 d3)).cell? ⟨w.heap.size, 6, none⟩ = some (.bool s2) := hsc.hH.cell 6
  have i_7 : (((((((((w3.alloc (.cells #[.int .i64 i3, .bool s3, .slice A3 l3 c3, .slice B3 k3 d3] 68)).setCell ⟨w1.heap.size, 0, none⟩ (.int .i64 i4)).setCell ⟨w1.heap.size, 1, none⟩ (.bool s4)).setCell ⟨w1.heap.size, 2, none⟩ (.slice A4 l4 c4)).setCell ⟨w1.heap.size, 3, none⟩ (.slice B4 k4 d4)).setCell ⟨w2.heap.size, 0, none⟩ (.int .i64 i3)).setCell ⟨w2.heap.size, 1, none⟩ (.bool s3)).setCell ⟨w2.heap.size, 2, none⟩ (.slice A3 l3 c3)).setCell ⟨w2.heap.size, 3, none⟩ (.slice B3 k3 d3)).cell? ⟨w.heap.size, 7, none⟩ = some (.slice A2 l2 c2) := hsc.hH.cell 7
  have i_8 : (((((((((w3.alloc (.cells #[.int .i64 i3, .bool s3, .slice A3 l3 c3, .slice B3 k3 d3] 68)).setCell ⟨w1.heap.size, 0, none⟩ (.int .i64 i4)).setCell ⟨w1.heap.size, 1, none⟩ (.bool s4)).setCell ⟨w1.heap.size, 2, none⟩ (.slice A4 l4 c4)).setCell ⟨w1.heap.size, 3, none⟩ (.slice B4 k4 d4)).setCell ⟨w2.heap.size, 0, none⟩ (.int .i64 i3)).setCell ⟨w2.heap.size, 1, none⟩ (.bool s3)).setCell ⟨w2.heap.size, 2, none⟩ (.slice A3 l3 c3)).setCell ⟨w2.heap.size, 3, none⟩ (.slice B3 k3 d3)).cell? ⟨w.heap.size, 8, none⟩ = some (.slice B2 k2 d2) := hsc.hH.cell 8
  have p_0 : (((((((((w3.alloc (.cells #[.int .i64 i3, .bool s3, .slice A3 l3 c3, .slice B3 k3 d3] 68)).setCell ⟨w1.heap.size, 0, none⟩ (.int .i64 i4)).setCell ⟨w1.heap.size, 1, none⟩ (.bool s4)).setCell ⟨w1.heap.size, 2, none⟩ (.slice A4 l4 c4)).setCell ⟨w1.heap.size, 3, none⟩ (.slice B4 k4 d4)).setCell ⟨w2.heap.size, 0, none⟩ (.int .i64 i3)).setCell ⟨w2.heap.size, 1, none⟩ (.bool s3)).setCell ⟨w2.heap.size, 2, none⟩ (.slice A3 l3 c3)).setCell ⟨w2.heap.size, 3, none⟩ (.slice B3 k3 d3)).cell? ⟨w1.heap.size, 0, none⟩ = some (.int .i64 i4) := hsc.hP.cell 0
  have p_1 : (((((((((w3.alloc (.cells #[.int .i64 i3, .bool s3, .slice A3 l3 c3, .slice B3 k3 d3] 68)).setCell ⟨w1.heap.size, 0, none⟩ (.int .i64 i4)).setCell ⟨w1.heap.size, 1, none⟩ (.bool s4)).setCell ⟨w1.heap.size, 2, none⟩ (.slice A4 l4 c4)).setCell ⟨w1.heap.size, 3, none⟩ (.slice B4 k4 d4)).setCell ⟨w2.heap.size, 0, none⟩ (.int .i64 i3)).setCell ⟨w2.heap.size, 1, none⟩ (.bool s3)).setCell ⟨w2.heap.size, 2, none⟩ (.slice A3 l3 c3)).setCell ⟨w2.heap.size, 3, none⟩ (.slice B3 k3 d3)).cell? ⟨w1.heap.size, 1, none⟩ = some (.bool s4) := hsc.hP.cell 1
  have p_2 : (((((((((w3.alloc (.cells #[.int .i64 i3, .bool s3, .slice A3 l3 c3, .slice B3 k3 d3] 68)).setCell ⟨w1.heap.size, 0, none⟩ (.int .i64 i4)).setCell ⟨w1.heap.size, 1, none⟩ (.bool s4)).setCell ⟨w1.heap.size, 2, none⟩ (.slice A4 l4 c4)).setCell ⟨w1.heap.size, 3, none⟩ (.slice B4 k4 d4)).setCell ⟨w2.heap.size, 0, none⟩ (.int .i64 i3)).setCell ⟨w2.heap.size, 1, none⟩ (.bool s3)).setCell ⟨w2.heap.size, 2, none⟩ (.slice A3 l3 c3)).setCell ⟨w2.heap.size, 3, none⟩ (.slice B3 k3 d3)).cell? ⟨w1.heap.size, 2, none⟩ = some (.slice A4 l4 c4) := hsc.hP.cell 2
  have p_3 : (((((((((w3.alloc (.cells #[.int .i64 i3, .bool s3, .slice A3 l3 c3, .slice B3 k3 d3] 68)).setCell ⟨w1.heap.size, 0, none⟩ (.int .i64 i4)).setCell ⟨w1.heap.size, 1, none⟩ (.bool s4)).setCell ⟨w1.heap.size, 2, none⟩ (.slice A4 l4 c4)).setCell ⟨w1.heap.size, 3, none⟩ (.slice B4 k4 d4)).setCell ⟨w2.heap.size, 0, none⟩ (.int .i64 i3)).setCell ⟨w2.heap.size, 1, none⟩ (.bool s3)).setCell ⟨w2.heap.size, 2, none⟩ (.slice A3 l3 c3)).setCell ⟨w2.heap.size, 3, none⟩ (.slice B3 k3 d3)).cell? ⟨w1.heap.size, 3, none⟩ = some (.slice B4 k4 d4) := hsc.hP.cell 3
  have q_0 : (((((((((w3.alloc (.cells #[.int .i64 i3, .bool s3, .slice A3 l3 c3, .slice B3 k3 d3] 68)).setCell ⟨w1.heap.size, 0, none⟩ (.int .i64 i4)).setCell ⟨w1.heap.size, 1, none⟩ (.bool s4)).setCell ⟨w1.heap.size, 2, none⟩ (.slice A4 l4 c4)).setCell ⟨w1.heap.size, 3, none⟩ (.slice B4 k4 d4)).setCell ⟨w2.heap.size, 0, none⟩ (.int .i64 i3)).setCell ⟨w2.heap.size, 1, none⟩ (.bool s3)).setCell ⟨w2.heap.size, 2, none⟩ (.slice A3 l3 c3)).setCell ⟨w2.heap.size, 3, none⟩ (.slice B3 k3 d3)).cell? ⟨w2.heap.size, 0, none⟩ = some (.int .i64 i3) := hsc.hQ.cell 0
  have q_1 : (((((((((w3.alloc (.cells #[.int .i64 i3, .bool s3, .slice A3 l3 c3, .slice B3 k3 d3] 68)).setCell ⟨w1.heap.size, 0, none⟩ (.int .i64 i4)).setCell ⟨w1.heap.size, 1, none⟩ (.bool s4)).setCell ⟨w1.heap.size, 2, none⟩ (.slice A4 l4 c4)).setCell ⟨w1.heap.size, 3, none⟩ (.slice B4 k4 d4)).setCell ⟨w2.heap.size, 0, none⟩ (.int .i64 i3)).setCell ⟨w2.heap.size, 1, none⟩ (.bool s3)).setCell ⟨w2.heap.size, 2, none⟩ (.slice A3 l3 c3)).setCell ⟨w2.heap.size, 3, none⟩ (.slice B3 k3 d3)).cell? ⟨w2.heap.size, 1, none⟩ = some (.bool s3) := hsc.hQ.cell 1
  have q_2 : (((((((((w3.alloc (.cells #[.int .i64 i3, .bool s3, .slice A3 l3 c3, .slice B3 k3 d3] 68)).setCell ⟨w1.heap.size, 0, none⟩ (.int .i64 i4)).setCell ⟨w1.heap.size, 1, none⟩ (.bool s4)).setCell ⟨w1.heap.size, 2, none⟩ (.slice A4 l4 c4)).setCell ⟨w1.heap.size, 3, none⟩ (.slice B4 k4 d4)).setCell ⟨w2.heap.size, 0, none⟩ (.int .i64 i3)).setCell ⟨w2.heap.size, 1, none⟩ (.bool s3)).setCell ⟨w2.heap.size, 2, none⟩ (.slice A3 l3 c3)).setCell ⟨w2.heap.size, 3, none⟩ (.slice B3 k3 d3)).cell? ⟨w2.heap.size, 2, none⟩ = some (.slice A3 l3 c3) := hsc.hQ.cell 2
  have q_3 : (((((((((w3.alloc (.cells #[.int .i64 i3, .bool s3, .slice A3 l3 c3, .slice B3 k3 d3] 68)).setCell ⟨w1.heap.size, 0, none⟩ (.int .i64 i4)).setCell ⟨w1.heap.size, 1, none⟩ (.bool s4)).setCell ⟨w1.heap.size, 2, none⟩ (.slice A4 l4 c4)).setCell ⟨w1.heap.size, 3, none⟩ (.slice B4 k4 d4)).setCell ⟨w2.heap.size, 0, none⟩ (.int .i64 i3)).setCell ⟨w2.heap.size, 1, none⟩ (.bool s3)).setCell ⟨w2.heap.size, 2, none⟩ (.slice A3 l3 c3)).setCell ⟨w2.heap.size, 3, none⟩ (.slice B3 k3 d3)).cell? ⟨w2.heap.size, 3, none⟩ = some (.slice B3 k3 d3) := hsc.hQ.cell 3
  have g_0 : (((((((((w3.alloc (.cells #[.int .i64 i3, .bool s3, .slice A3 l3 c3, .slice B3 k3 d3] 68)).setCell ⟨w1.heap.size, 0, none⟩ (.int .i64 i4)).setCell ⟨w1.heap.size, 1, none⟩ (.bool s4)).setCell ⟨w1.heap.size, 2, none⟩ (.slice A4 l4 c4)).setCell ⟨w1.heap.size, 3, none⟩ (.slice B4 k4 d4)).setCell ⟨w2.heap.size, 0, none⟩ (.int .i64 i3)).setCell ⟨w2.heap.size, 1, none⟩ (.bool s3)).setCell ⟨w2.heap.size, 2, none⟩ (.slice A3 l3 c3)).setCell ⟨w2.heap.size, 3, none⟩ (.slice B3 k3 d3)).cell? ⟨G, 0, none⟩ = some (.bool false) := hsc.hG.cell 0
  have g_1 : (((((((((w3.alloc (.cells #[.int .i64 i3, .bool s3, .slice A3 l3 c3, .slice B3 k3 d3] 68)).setCell ⟨w1.heap.size, 0, none⟩ (.int .i64 i4)).setCell ⟨w1.heap.size, 1, none⟩ (.bool s4)).setCell ⟨w1.heap.size, 2, none⟩ (.slice A4 l4 c4)).setCell ⟨w1.heap.size, 3, none⟩ (.slice B4 k4 d4)).setCell ⟨w2.heap.size, 0, none⟩ (.int .i64 i3)).setCell ⟨w2.heap.size, 1, none⟩ (.bool s3)).setCell ⟨w2.heap.size, 2, none⟩ (.slice A3 l3 c3)).setCell ⟨w2.heap.size, 3, none⟩ (.slice B3 k3 d3)).cell? ⟨G, 1, none⟩ = some (.int .i64 0) := hsc.hG.cell 1
  have g_2 : (((((((((w3.alloc (.cells #[.int .i64 i3, .bool s3, .slice A3 l3 c3, .slice B3 k3 d3] 68)).setCell ⟨w1.heap.size, 0, none⟩ (.int .i64 i4)).setCell ⟨w1.heap.size, 1, none⟩ (.bool s4)).setCell ⟨w1.heap.size, 2, none⟩ (.slice A4 l4 c4)).setCell ⟨w1.heap.size, 3, none⟩ (.slice B4 k4 d4)).setCell ⟨w2.heap.size, 0, none⟩ (.int .i64 i3)).setCell ⟨w2.heap.size, 1, none⟩ (.bool s3)).setCell ⟨w2.heap.size, 2, none⟩ (.slice A3 l3 c3)).setCell ⟨w2.heap.size, 3, none⟩ (.slice B3 k3 d3)).cell? ⟨G, 2, none⟩ = some (.bool false) := hsc.hG.cell 2
  have g_3 : (((((((((w3.alloc (.cells #[.int .i64 i3, .bool s3, .slice A3 l3 c3, .slice B3 k3 d3] 68)).setCell ⟨w1.heap.size, 0, none⟩ (.int .i64 i4)).setCell ⟨w1.heap.size, 1, none⟩ (.bool s4)).setCell ⟨w1.heap.size, 2, none⟩ (.slice A4 l4 c4)).setCell ⟨w1.heap.size, 3, none⟩ (.slice B4 k4 d4)).setCell ⟨w2.heap.size, 0, none⟩ (.int .i64 i3)).setCell ⟨w2.heap.size, 1, none⟩ (.bool s3)).setCell ⟨w2.heap.size, 2, none⟩ (.slice A3 l3 c3)).setCell ⟨w2.heap.size, 3, none⟩ (.slice B3 k3 d3)).cell? ⟨G, 3, none⟩ = some (.slice none 0 0) := hsc.hG.cell 3
  have g_4 : (((((((((w3.alloc (.cells #[.int .i64 i3, .bool s3, .slice A3 l3 c3, .slice B3 k3 d3] 68)).setCell ⟨w1.heap.size, 0, none⟩ (.int .i64 i4)).setCell ⟨w1.heap.size, 1, none⟩ (.bool s4)).setCell ⟨w1.heap.size, 2, none⟩ (.slice A4 l4 c4)).setCell ⟨w1.heap.size, 3, none⟩ (.slice B4 k4 d4)).setCell ⟨w2.heap.size, 0, none⟩ (.int .i64 i3)).setCell ⟨w2.heap.size, 1, none⟩ (.bool s3)).setCell ⟨w2.heap.size, 2, none⟩ (.slice A3 l3 c3)).setCell ⟨w2.heap.size, 3, none⟩ (.slice B3 k3 d3)).cell? ⟨G, 4, none⟩ = some (.slice none 0 0) := hsc.hG.cell 4
  have g_5 : (((((((((w3.alloc (.cells #[.int .i64 i3, .bool s3, .slice A3 l3 c3, .slice B3 k3 d3] 68)).setCell ⟨w1.heap.size, 0, none⟩ (.int .i64 i4)).setCell ⟨w1.heap.size, 1, none⟩ (.bool s4)).setCell ⟨w1.heap.size, 2, none⟩ (.slice A4 l4 c4)).setCell ⟨w1.heap.size, 3, none⟩ (.slice B4 k4 d4)).setCell ⟨w2.heap.size, 0, none⟩ (.int .i64 i3)).setCell ⟨w2.heap.size, 1, none⟩ (.bool s3)).setCell ⟨w2.heap.size, 2, none⟩ (.slice A3 l3 c3)).setCell ⟨w2.heap.size, 3, none⟩ (.slice B3 k3 d3)).cell? ⟨G, 5, none⟩ = some (.int .i64 0) := hsc.hG.cell 5
  have g_6 : (((((((((w3.alloc (.cells #[.int .i64 i3, .bool s3, .slice A3 l3 c3, .slice B3 k3 d3] 68)).setCell ⟨w1.heap.size, 0, none⟩ (.int .i64 i4)).setCell ⟨w1.heap.size, 1, none⟩ (.bool s4)).setCell ⟨w1.heap.size, 2, none⟩ (.slice A4 l4 c4)).setCell ⟨w1.heap.size, 3, none⟩ (.slice B4 k4 d4)).setCell ⟨w2.heap.size, 0, none⟩ (.int .i64 i3)).setCell ⟨w2.heap.size, 1, none⟩ (.bool s3)).setCell ⟨w2.heap.size, 2, none⟩ (.slice A3 l3 c3)).setCell ⟨w2.heap.size, 3, none⟩ (.slice B3 k3 d3)).cell? ⟨G, 6, none⟩ = some (.bool false) := hsc.hG.cell 6
  have g_7 : (((((((((w3.alloc (.cells #[.int .i64 i3, .bool s3, .slice A3 l3 c3, .slice B3 k3 d3] 68)).setCell ⟨w1.heap.size, 0, none⟩ (.int .i64 i4)).setCell ⟨w1.heap.size, 1, none⟩ (.bool s4)).setCell ⟨w1.heap.size, 2, none⟩ (.slice A4 l4 c4)).setCell ⟨w1.heap.size, 3, none⟩ (.slice B4 k4 d4)).setCell ⟨w2.heap.size, 0, none⟩ (.int .i64 i3)).setCell ⟨w2.heap.size, 1, none⟩ (.bool s3)).setCell ⟨w2.heap.size, 2, none⟩ (.slice A3 l3 c3)).setCell ⟨w2.heap.size, 3, none⟩ (.slice B3 k3 d3)).cell? ⟨G, 7, none⟩ = some (.slice none 0 0) := hsc.hG.cell 7
  have g_8 : (((((((((w3.alloc (.cells #[.int .i64 i3, .bool s3, .slice A3 l3 c3, .slice B3 k3 d3] 68)).setCell ⟨w1.heap.size, 0, none⟩ (.int .i64 i4)).setCell ⟨w1.heap.size, 1, none⟩ (.bool s4)).setCell ⟨w1.heap.size, 2, none⟩ (.slice A4 l4 c4)).setCell ⟨w1.heap.size, 3, none⟩ (.slice B4 k4 d4)).setCell ⟨w2.heap.size, 0, none⟩ (.int .i64 i3)).setCell ⟨w2.heap.size, 1, none⟩ (.bool s3)).setCell ⟨w2.heap.size, 2, none⟩ (.slice A3 l3 c3)).setCell ⟨w2.heap.size, 3, none⟩ (.slice B3 k3 d3)).cell? ⟨G, 8, none⟩ = some (.slice none 0 0) := hsc.hG.cell 8
  have fg_0 : (((((((((w3.alloc (.cells #[.int .i64 i3, .bool s3, .slice A3 l3 c3, .slice B3 k3 d3] 68)).setCell ⟨w1.heap.size, 0, none⟩ (.int .i64 i4)).setCell ⟨w1.heap.size, 1, none⟩ (.bool s4)).setCell ⟨w1.heap.size, 2, none⟩ (.slice A4 l4 c4)).setCell ⟨w1.heap.size, 3, none⟩ (.slice B4 k4 d4)).setCell ⟨w2.heap.size, 0, none⟩ (.int .i64 i3)).setCell ⟨w2.heap.size, 1, none⟩ (.bool s3)).setCell ⟨w2.heap.size, 2, none⟩ (.slice A3 l3 c3)).setCell ⟨w2.heap.size, 3, none⟩ (.slice B3 k3 d3)).frozen? ⟨G, 0, none⟩ = false := hsc.hG.frozen 0
  have fg_1 : (((((((((w3.alloc (.cells #[.int .i64 i3, .bool s3, .slice A3 l3 c3, .slice B3 k3 d3] 68)).setCell ⟨w1.heap.size, 0, none⟩ (.int .i64 i4)).setCell ⟨w1.heap.size, 1, none⟩ (.bool s4)).setCell ⟨w1.heap.size, 2, none⟩ (.slice A4 l4 c4)).setCell ⟨w1.heap.size, 3, none⟩ (.slice B4 k4 d4)).setCell ⟨w2.heap.size, 0, none⟩ (.int .i64 i3)).setCell ⟨w2.heap.size, 1, none⟩ (.bool s3)).setCell ⟨w2.heap.size, 2, none⟩ (.slice A3 l3 c3)).setCell ⟨w2.heap.size, 3, none⟩ (.slice B3 k3 d3)).frozen? ⟨G, 1, none⟩ = false := hsc.hG.frozen 1
  have fg_2 : (((((((((w3.alloc (.cells #[.int .i64 i3, .bool s3, .slice A3 l3 c3, .slice B3 k3 d3] 68)).setCell ⟨w1.heap.size, 0, none⟩ (.int .i64 i4)).setCell ⟨w1.heap.size, 1, none⟩ (.bool s4)).setCell ⟨w1.heap.size, 2, none⟩ (.slice A4 l4 c4)).setCell ⟨w1.heap.size, 3, none⟩ (.slice B4 k4 d4)).setCell ⟨w2.heap.size, 0, none⟩ (.int .i64 i3)).setCell ⟨w2.heap.size, 1, none⟩ (.bool s3)).setCell ⟨w2.heap.size, 2, none⟩ (.slice A3 l3 c3)).setCell ⟨w2.heap.size, 3, none⟩ (.slice B3 k3 d3)).frozen? ⟨G, 2, none⟩ = false := hsc.hG.frozen 2
  have fg_3 : (((((((((w3.alloc (.cells #[.int .i64 i3, .bool s3, .slice A3 l3 c3, .slice B3 k3 d3] 68)).setCell ⟨w1.heap.size, 0, none⟩ (.int .i64 i4)).setCell ⟨w1.heap.size, 1, none⟩ (.bool s4)).setCell ⟨w1.heap.size, 2, none⟩ (.slice A4 l4 c4)).setCell ⟨w1.heap.size, 3, none⟩ (.slice B4 k4 d4)).setCell ⟨w2.heap.size, 0, none⟩ (.int .i64 i3)).setCell ⟨w2.heap.size, 1, none⟩ (.bool s3)).setCell ⟨w2.heap.size, 2, none⟩ (.slice A3 l3 c3)).setCell ⟨w2.heap.size, 3, none⟩ (.slice B3 k3 d3)).frozen? ⟨G, 3, none⟩ = false := hsc.hG.frozen 3
  have fg_4 : (((((((((w3.alloc (.cells #[.int .i64 i3, .bool s3, .slice A3 l3 c3, .slice B3 k3 d3] 68)).setCell ⟨w1.heap.size, 0, none⟩ (.int .i64 i4)).setCell ⟨w1.heap.size, 1, none⟩ (.bool s4)).setCell ⟨w1.heap.size, 2, none⟩ (.slice A4 l4 c4)).setCell ⟨w1.heap.size, 3, none⟩ (.slice B4 k4 d4)).setCell ⟨w2.heap.size, 0, none⟩ (.int .i64 i3)).setCell ⟨w2.heap.size, 1, none⟩ (.bool s3)).setCell ⟨w2.heap.size, 2, none⟩ (.slice A3 l3 c3)).setCell ⟨w2.heap.size, 3, none⟩ (.slice B3 k3 d3)).frozen? ⟨G, 4, none⟩ = false := hsc.hG.frozen 4
  have fg_5 : (((((((((w3.alloc (.cells #[.int .i64 i3, .bool s3, .slice A3 l3 c3, .slice B3 k3 d3] 68)).setCell ⟨w1.heap.size, 0, none⟩ (.int .i64 i4)).setCell ⟨w1.heap.size, 1, none⟩ (.bool s4)).setCell ⟨w1.heap.size, 2, none⟩ (.slice A4 l4 c4)).setCell ⟨w1.heap.size, 3, none⟩ (.slice B4 k4 d4)).setCell ⟨w2.heap.size, 0, none⟩ (.int .i64 i3)).setCell ⟨w2.heap.size, 1, none⟩ (.bool s3)).setCell ⟨w2.heap.size, 2, none⟩ (.slice A3 l3 c3)).setCell ⟨w2.heap.size, 3, none⟩ (.slice B3 k3 d3)).frozen? ⟨G, 5, none⟩ = false := hsc.hG.frozen 5
  have fg_6 : (((((((((w3.alloc (.cells #[.int .i64 i3, .bool s3, .slice A3 l3 c3, .slice B3 k3 d3] 68)).setCell ⟨w1.heap.size, 0, none⟩ (.int .i64 i4)).setCell ⟨w1.heap.size, 1, none⟩ (.bool s4)).setCell ⟨w1.heap.size, 2, none⟩ (.slice A4 l4 c4)).setCell ⟨w1.heap.size, 3, none⟩ (.slice B4 k4 d4)).setCell ⟨w2.heap.size, 0, none⟩ (.int .i64 i3)).setCell ⟨w2.heap.size, 1, none⟩ (.bool s3)).setCell ⟨w2.heap.size, 2, none⟩ (.slice A3 l3 c3)).setCell ⟨w2.heap.size, 3, none⟩ (.slice B3 k3 d3)).frozen? ⟨G, 6, none⟩ = false := hsc.hG.frozen 6
  have fg_7 : (((((((((w3.alloc (.cells #[.int .i64 i3, .bool s3, .slice A3 l3 c3, .slice B3 k3 d3] 68)).setCell ⟨w1.heap.size, 0, none⟩ (.int .i64 i4)).setCell ⟨w1.heap.size, 1, none⟩ (.bool s4)).setCell ⟨w1.heap.size, 2, none⟩ (.slice A4 l4 c4)).setCell ⟨w1.heap.size, 3, none⟩ (.slice B4 k4 d4)).setCell ⟨w2.heap.size, 0, none⟩ (.int .i64 i3)).setCell ⟨w2.heap.size, 1, none⟩ (.bool s3)).setCell ⟨w2.heap.size, 2, none⟩ (.slice A3 l3 c3)).setCell ⟨w2.heap.size, 3, none⟩ (.slice B3 k3 d3)).frozen? ⟨G, 7, none⟩ = false := hsc.hG.frozen 7
  have fg_8 : (((((((((w3.alloc (.cells #[.int .i64 i3, .bool s3, .slice A3 l3 c3, .slice B3 k3 d3] 68)).setCell ⟨w1.heap.size, 0, none⟩ (.int .i64 i4)).setCell ⟨w1.heap.size, 1, none⟩ (.bool s4)).setCell ⟨w1.heap.size, 2, none⟩ (.slice A4 l4 c4)).setCell ⟨w1.heap.size, 3, none⟩ (.slice B4 k4 d4)).setCell ⟨w2.heap.size, 0, none⟩ (.int .i64 i3)).setCell ⟨w2.heap.size, 1, none⟩ (.bool s3)).setCell ⟨w2.heap.size, 2, none⟩ (.slice A3 l3 c3)).setCell ⟨w2.heap.size, 3, none⟩ (.slice B3 k3 d3)).frozen? ⟨G, 8, none⟩ = false := hsc.hG.frozen 8
  have fp_0 : (((((((((w3.alloc (.cells #[.int .i64 i3, .bool s3, .slice A3 l3 c3, .slice B3 k3 d3] 68)).setCell ⟨w1.heap.size, 0, none⟩ (.int .i64 i4)).setCell ⟨w1.heap.size, 1, none⟩ (.bool s4)).setCell ⟨w1.heap.size, 2, none⟩ (.slice A4 l4 c4)).setCell ⟨w1.heap.size, 3, none⟩ (.slice B4 k4 d4)).setCell ⟨w2.heap.size, 0, none⟩ (.int .i64 i3)).setCell ⟨w2.heap.size, 1, none⟩ (.bool s3)).setCell ⟨w2.heap.size, 2, none⟩ (.slice A3 l3 c3)).setCell ⟨w2.heap.size, 3, none⟩ (.slice B3 k3 d3)).frozen? ⟨w1.heap.size, 0, none⟩ = false := hsc.hP.frozen 0
  have fp_1 : (((((((((w3.alloc (.cells #[.int .i64 i3, .bool s3, .slice A3 l3 c3, .slice B3 k3 d3] 68)).setCell ⟨w1.heap.size, 0, none⟩ (.int .i64 i4)).setCell ⟨w1.heap.size, 1, none⟩ (.bool s4)).setCell ⟨w1.heap.size, 2, none⟩ (.slice A4 l4 c4)).setCell ⟨w1.heap.size, 3, none⟩ (.slice B4 k4 d4)).setCell ⟨w2.heap.size, 0, none⟩ (.int .i64 i3)).setCell ⟨w2.heap.size, 1, none⟩ (.bool s3)).setCell ⟨w2.heap.size, 2, none⟩ (.slice A3 l3 c3)).setCell ⟨w2.heap.size, 3, none⟩ (.slice B3 k3 d3)).frozen? ⟨w1.heap.size, 1, none⟩ = false := hsc.hP.frozen 1
  have fp_2 : (((((((((w3.alloc (.cells #[.int .i64 i3, .bool s3, .slice A3 l3 c3, .slice B3 k3 d3] 68)).setCell ⟨w1.heap.size, 0, none⟩ (.int .i64 i4)).setCell ⟨w1.heap.size, 1, none⟩ (.bool s4)).setCell ⟨w1.heap.size, 2, none⟩ (.slice A4 l4 c4)).setCell ⟨w1.heap.size, 3, none⟩ (.slice B4 k4 d4)).setCell ⟨w2.heap.size, 0, none⟩ (.int .i64 i3)).setCell ⟨w2.heap.size, 1, none⟩ (.bool s3)).setCell ⟨w2.heap.size, 2, none⟩ (.slice A3 l3 c3)).setCell ⟨w2.heap.size, 3, none⟩ (.slice B3 k3 d3)).frozen? ⟨w1.heap.size, 2, none⟩ = false := hsc.hP.frozen 2
  have fp_3 : (((((((((w3.alloc (.cells #[.int .i64 i3, .bool s3, .slice A3 l3 c3, .slice B3 k3 d3] 68)).setCell ⟨w1.heap.size, 0, none⟩ (.int .i64 i4)).setCell ⟨w1.heap.size, 1, none⟩ (.bool s4)).setCell ⟨w1.heap.size, 2, none⟩ (.slice A4 l4 c4)).setCell ⟨w1.heap.size, 3, none⟩ (.slice B4 k4 d4)).setCell ⟨w2.heap.size, 0, none⟩ (.int .i64 i3)).setCell ⟨w2.heap.size, 1, none⟩ (.bool s3)).setCell ⟨w2.heap.size, 2, none⟩ (.slice A3 l3 c3)).setCell ⟨w2.heap.size, 3, none⟩ (.slice B3 k3 d3)).frozen? ⟨w1.heap.size, 3, none⟩ = false := hsc.hP.frozen 3
  have fq_0 : (((((((((w3.alloc (.cells #[.int .i64 i3, .bool s3, .slice A3 l3 c3, .slice B3 k3 d3] 68)).setCell ⟨w1.heap.size, 0, none⟩ (.int .i64 i4)).setCell ⟨w1.heap.size, 1, none⟩ (.bool s4)).setCell ⟨w1.heap.size, 2, none⟩ (.slice A4 l4 c4)).setCell ⟨w1.heap.size, 3, none⟩ (.slice B4 k4 d4)).setCell ⟨w2.heap.size, 0, none⟩ (.int .i64 i3)).setCell ⟨w2.heap.size, 1, none⟩ (.bool s3)).setCell ⟨w2.heap.size, 2, none⟩ (.slice A3 l3 c3)).setCell ⟨w2.heap.size, 3, none⟩ (.slice B3 k3 d3)).frozen? ⟨w2.heap.size, 0, none⟩ = false := hsc.hQ.frozen 0
  have fq_1 : (((((((((w3.alloc (.cells #[.int .i64 i3, .bool s3, .slice A3 l3 c3, .slice B3 k3 d3] 68)).setCell ⟨w1.heap.size, 0, none⟩ (.int .i64 i4)).setCell ⟨w1.heap.size, 1, none⟩ (.bool s4)).setCell ⟨w1.heap.size, 2, none⟩ (.slice A4 l4 c4)).setCell ⟨w1.heap.size, 3, none⟩ (.slice B4 k4 d4)).setCell ⟨w2.heap.size, 0, none⟩ (.int .i64 i3)).setCell ⟨w2.heap.size, 1, none⟩ (.bool s3)).setCell ⟨w2.heap.size, 2, none⟩ (.slice A3 l3 c3)).setCell ⟨w2.heap.size, 3, none⟩ (.slice B3 k3 d3)).frozen? ⟨w2.heap.size, 1, none⟩ = false := hsc.hQ.frozen 1
  have fq_2 : (((((((((w3.alloc (.cells #[.int .i64 i3, .bool s3, .slice A3 l3 c3, .slice B3 k3 d3] 68)).setCell ⟨w1.heap.size, 0, none⟩ (.int .i64 i4)).setCell ⟨w1.heap.size, 1, none⟩ (.bool s4)).setCell ⟨w1.heap.size, 2, none⟩ (.slice A4 l4 c4)).setCell ⟨w1.heap.size, 3, none⟩ (.slice B4 k4 d4)).setCell ⟨w2.heap.size, 0, none⟩ (.int .i64 i3)).setCell ⟨w2.heap.size, 1, none⟩ (.bool s3)).setCell ⟨w2.heap.size, 2, none⟩ (.slice A3 l3 c3)).setCell ⟨w2.heap.size, 3, none⟩ (.slice B3 k3 d3)).frozen? ⟨w2.heap.size, 2, none⟩ = false := hsc.hQ.frozen 2
  have fq_3 : (((((((((w3.alloc (.cells #[.int .i64 i3, .bool s3, .slice A3 l3 c3, .slice B3 k3 d3] 68)).setCell ⟨w1.heap.size, 0, none⟩ (.int .i64 i4)).setCell ⟨w1.heap.size, 1, none⟩ (.bool s4)).setCell ⟨w1.heap.size, 2, none⟩ (.slice A4 l4 c4)).setCell ⟨w1.heap.size, 3, none⟩ (.slice B4 k4 d4)).setCell ⟨w2.heap.size, 0, none⟩ (.int .i64 i3)).setCell ⟨w2.heap.size, 1, none⟩ (.bool s3)).setCell ⟨w2.heap.size, 2, none⟩ (.slice A3 l3 c3)).setCell ⟨w2.heap.size, 3, none⟩ (.slice B3 k3 d3)).frozen? ⟨w2.heap.size, 3, none⟩ = false := hsc.hQ.frozen 3
  have lG : G < (((((((((w3.alloc (.cells #[.int .i64 i3, .bool s3, .slice A3 l3 c3, .slice B3 k3 d3] 68)).setCell ⟨w1.heap.size, 0, none⟩ (.int .i64 i4)).setCell ⟨w1.heap.size, 1, none⟩ (.bool s4)).setCell ⟨w1.heap.size, 2, none⟩ (.slice A4 l4 c4)).setCell ⟨w1.heap.size, 3, none⟩ (.slice B4 k4 d4)).setCell ⟨w2.heap.size, 0, none⟩ (.int .i64 i3)).setCell ⟨w2.heap.size, 1, none⟩ (.bool s3)).setCell ⟨w2.heap.size, 2, none⟩ (.slice A3 l3 c3)).setCell ⟨w2.heap.size, 3, none⟩ (.slice B3 k3 d3)).heap.size := hsc.hG.lt
  have lP : w1.heap.size < (((((((((w3.alloc (.cells #[.int .i64 i3, .bool s3, .slice A3 l3 c3, .slice B3 k3 d3] 68)).setCell ⟨w1.heap.size, 0, none⟩ (.int .i64 i4)).setCell ⟨w1.heap.size, 1, none⟩ (.bool s4)).setCell ⟨w1.heap.size, 2, none⟩ (.slice A4 l4 c4)).setCell ⟨w1.heap.size, 3, none⟩ (.slice B4 k4 d4)).setCell ⟨w2.heap.size, 0, none⟩ (.int .i64 i3)).setCell ⟨w2.heap.size, 1, none⟩ (.bool s3)).setCell ⟨w2.heap.size, 2, none⟩ (.slice A3 l3 c3)).setCell ⟨w2.heap.size, 3, none⟩ (.slice B3 k3 d3)).heap.size := hsc.hP.lt
  have lQ : w2.heap.size < (((((((((w3.alloc (.cells #[.int .i64 i3, .bool s3, .slice A3 l3 c3, .slice B3 k3 d3] 68)).setCell ⟨w1.heap.size, 0, none⟩ (.int .i64 i4)).setCell ⟨w1.heap.size, 1, none⟩ (.bool s4)).setCell ⟨w1.heap.size, 2, none⟩ (.slice A4 l4 c4)).setCell ⟨w1.heap.size, 3, none⟩ (.slice B4 k4 d4)).setCell ⟨w2.heap.size, 0, none⟩ (.int .i64 i3)).setCell ⟨w2.heap.size, 1, none⟩ (.bool s3)).setCell ⟨w2.heap.size, 2, none⟩ (.slice A3 l3 c3)).setCell ⟨w2.heap.size, 3, none⟩ (.slice B3 k3 d3)).heap.size := hsc.hQ.lt
  go_wp2_with fail
  clear w3p_0 w3q_0 w3pp_0 fap_0 w3r_0 w3bq_0 fbq_0 w3p_1 w3q_1 w3pp_1 fap_1 w3r_1 w3bq_1 fbq_1 w3p_2 w3q_2 w3pp_2 fap_2 w3r_2 w3bq_2 fbq_2 w3p_3 w3q_3 w3pp_3 fap_3 w3r_3 w3bq_3 fbq_3 lap lbq hnp
  clear i_0 i_1 i_2 i_3 i_4 i_5 i_6 i_7 i_8 p_0 p_1 p_2 p_3 q_0 q_1 q_2 q_3 g_0 g_1 g_2 g_3 g_4 g_5 g_6 g_7 g_8 fg_0 fg_1 fg_2 fg_3 fg_4 fg_5 fg_6 fg_7 fg_8 fp_0 fp_1 fp_2 fp_3 fq_0 fq_1 fq_2 fq_3 lG lP lQ
  refine (HSA.out _ hsc.r1).mono ?_
  rintro e w5 ⟨rfl, hE5⟩
  have hst5 := hsc.ext hE5
  clear hsc hE5
  have i_0 : (w5).cell? ⟨w.heap.size, 0, none⟩ = some (.bool false) := hst5.hH.cell 0
  have i_1 : (w5).cell? ⟨w.heap.size, 1, none⟩ = some (.int .i64 i1) := hst5.hH.cell 1
  have i_2 : (w5).cell? ⟨w.heap.size, 2, none⟩ = some (.bool s1) := hst5.hH.cell 2
  have i_3 : (w5).cell? ⟨w.heap.size, 3, none⟩ = some (.slice A1 l1 c1) := hst5.hH.cell 3
  have i_4 : (w5).cell? ⟨w.heap.size, 4, none⟩ = some (.slice B1 k1 d1) := hst5.hH.cell 4
  have i_5 : (w5).cell? ⟨w.heap.size, 5, none⟩ = some (.int .i64 i2) := hst5.hH.cell 5
  have i_6 : (w5).cell? ⟨w.heap.size, 6, none⟩ = some (.bool s2) := hst5.hH.cell 6
  have i_7 : (w5).cell? ⟨w.heap.size, 7, none⟩ = some (.slice A2 l2 c2) := hst5.hH.cell 7
  have i_8 : (w5).cell? ⟨w.heap.size, 8, none⟩ = some (.slice B2 k2 d2) := hst5.hH.cell 8
  have p_0 : (w5).cell? ⟨w1.heap.size, 0, none⟩ = some (.int .i64 i4) := hst5.hP.cell 0
  have p_1 : (w5).cell? ⟨w1.heap.size, 1, none⟩ = some (.bool s4) := hst5.hP.cell 1
  have p_2 : (w5).cell? ⟨w1.heap.size, 2, none⟩ = some (.slice A4 l4 c4) := hst5.hP.cell 2
  have p_3 : (w5).cell? ⟨w1.heap.size, 3, none⟩ = some (.slice B4 k4 d4) := hst5.hP.cell 3
  have q_0 : (w5).cell? ⟨w2.heap.size, 0, none⟩ = some (.int .i64 i3) := hst5.hQ.cell 0
  have q_1 : (w5).cell? ⟨w2.heap.size, 1, none⟩ = some (.bool s3) := hst5.hQ.cell 1
  have q_2 : (w5).cell? ⟨w2.heap.size, 2, none⟩ = some (.slice A3 l3 c3) := hst5.hQ.cell 2
  have q_3 : (w5).cell? ⟨w2.heap.size, 3, none⟩ = some (.slice B3 k3 d3) := hst5.hQ.cell 3
  have g_0 : (w5).cell? ⟨G, 0, none⟩ = some (.bool false) := hst5.hG.cell 0
  have g_1 : (w5).cell? ⟨G, 1, none⟩ = some (.int .i64 0) := hst5.hG.cell 1
  have g_2 : (w5).cell? ⟨G, 2, none⟩ = some (.bool false) := hst5.hG.cell 2
  have g_3 : (w5).cell? ⟨G, 3, none⟩ = some (.slice none 0 0) := hst5.hG.cell 3
  have g_4 : (w5).cell? ⟨G, 4, none⟩ = some (.slice none 0 0) := hst5.hG.cell 4
  have g_5 : (w5).cell? ⟨G, 5, none⟩ = some (.int .i64 0) := hst5.hG.cell 5
  have g_6 : (w5).cell? ⟨G, 6, none⟩ = some (.bool false) := hst5.hG.cell 6
  have g_7 : (w5).cell? ⟨G, 7, none⟩ = some (.slice none 0 0) := hst5.hG.cell 7
  have g_8 : (w5).cell? ⟨G, 8, none⟩ = some (.slice none 0 0) := hst5.hG.cell 8
  have fg_0 : (w5).frozen? ⟨G, 0, none⟩ = false := hst5.hG.frozen 0
  have fg_1 : (w5).frozen? ⟨G, 1, none⟩ = false := hst5.hG.frozen 1
  have fg_2 : (w5).frozen? ⟨G, 2, none⟩ = false := hst5.hG.frozen 2
  have fg_3 : (w5).frozen? ⟨G, 3, none⟩ = false := hst5.hG.frozen 3
  have fg_4 : (w5).frozen? ⟨G, 4, none⟩ = false := hst5.hG.frozen 4
  have fg_5 : (w5).frozen? ⟨G, 5, none⟩ = false := hst5.hG.frozen 5
  have fg_6 : (w5).frozen? ⟨G, 6, none⟩ = false := hst5.hG.frozen 6
  have fg_7 : (w5).frozen? ⟨G, 7, none⟩ = false := hst5.hG.frozen 7
  have fg_8 : (w5).frozen? ⟨G, 8, none⟩ = false := hst5.hG.frozen 8
  have fp_0 : (w5).frozen? ⟨w1.heap.size, 0, none⟩ = false := hst5.hP.frozen 0
  have fp_1 : (w5).frozen? ⟨w1.heap.size, 1, none⟩ = false := hst5.hP.frozen 1
  have fp_2 : (w5).frozen? ⟨w1.heap.size, 2, none⟩ = false := hst5.hP.frozen 2
  have fp_3 : (w5).frozen? ⟨w1.heap.size, 3, none⟩ = false := hst5.hP.frozen 3
  have fq_0 : (w5).frozen? ⟨w2.heap.size, 0, none⟩ = false := hst5.hQ.frozen 0
  have fq_1 : (w5).frozen? ⟨w2.heap.size, 1, none⟩ = false := hst5.hQ.frozen 1
  have fq_2 : (w5).frozen? ⟨w2.heap.size, 2, none⟩ = false := hst5.hQ.frozen 2
  have fq_3 : (w5).frozen? ⟨w2.heap.size, 3, none⟩ = false := hst5.hQ.frozen 3
  have lG : G < (w5).heap.size := hst5.hG.lt
  have lP : w1.heap.size < (w5).heap.size := hst5.hP.lt
  have lQ : w2.heap.size < (w5).heap.size := hst5.hQ.lt
  go_wp2_with fail
  clear i_0 i_1 i_2 i_3 i_4 i_5 i_6 i_7 i_8 p_0 p_1 p_2 p_3 q_0 q_1 q_2 q_3 g_0 g_1 g_2 g_3 g_4 g_5 g_6 g_7 g_8 fg_0 fg_1 fg_2 fg_3 fg_4 fg_5 fg_6 fg_7 fg_8 fp_0 fp_1 fp_2 fp_3 fq_0 fq_1 fq_2 fq_3 lG lP lQ
  refine (HSB.out _ hst5.r2).mono ?_
  rintro e w6 ⟨rfl, hE6⟩
  have hst6 := hst5.ext hE6
  clear hst5 hE6
  have i_0 : (w6).cell? ⟨w.heap.size, 0, none⟩ = some (.bool false) := hst6.hH.cell 0
  have i_1 : (w6).cell? ⟨w.heap.size, 1, none⟩ = some (.int .i64 i1) := hst6.hH.cell 1
  have i_2 : (w6).cell? ⟨w.heap.size, 2, none⟩ = some (.bool s1) := hst6.hH.cell 2
  have i_3 : (w6).cell? ⟨w.heap.size, 3, none⟩ = some (.slice A1 l1 c1) := hst6.hH.cell 3
  have i_4 : (w6).cell? ⟨w.heap.size, 4, none⟩ = some (.slice B1 k1 d1) := hst6.hH.cell 4
  have i_5 : (w6).cell? ⟨w.heap.size, 5, none⟩ = some (.int .i64 i2) := hst6.hH.cell 5
  have i_6 : (w6).cell? ⟨w.heap.size, 6, none⟩ = some (.bool s2) := hst6.hH.cell 6
  have i_7 : (w6).cell? ⟨w.heap.size, 7, none⟩ = some (.slice A2 l2 c2) := hst6.hH.cell 7
  have i_8 : (w6).cell? ⟨w.heap.size, 8, none⟩ = some (.slice B2 k2 d2) := hst6.hH.cell 8
  have p_0 : (w6).cell? ⟨w1.heap.size, 0, none⟩ = some (.int .i64 i4) := hst6.hP.cell 0
  have p_1 : (w6).cell? ⟨w1.heap.size, 1, none⟩ = some (.bool s4) := hst6.hP.cell 1
  have p_2 : (w6).cell? ⟨w1.heap.size, 2, none⟩ = some (.slice A4 l4 c4) := hst6.hP.cell 2
  have p_3 : (w6).cell? ⟨w1.heap.size, 3, none⟩ = some (.slice B4 k4 d4) := hst6.hP.cell 3
  have q_0 : (w6).cell? ⟨w2.heap.size, 0, none⟩ = some (.int .i64 i3) := hst6.hQ.cell 0
  have q_1 : (w6).cell? ⟨w2.heap.size, 1, none⟩ = some (.bool s3) := hst6.hQ.cell 1
  have q_2 : (w6).cell? ⟨w2.heap.size, 2, none⟩ = some (.slice A3 l3 c3) := hst6.hQ.cell 2
  have q_3 : (w6).cell? ⟨w2.heap.size, 3, none⟩ = some (.slice B3 k3 d3) := hst6.hQ.cell 3
  have g_0 : (w6).cell? ⟨G, 0, none⟩ = some (.bool false) := hst6.hG.cell 0
  have g_1 : (w6).cell? ⟨G, 1, none⟩ = some (.int .i64 0) := hst6.hG.cell 1
  have g_2 : (w6).cell? ⟨G, 2, none⟩ = some (.bool false) := hst6.hG.cell 2
  have g_3 : (w6).cell? ⟨G, 3, none⟩ = some (.slice none 0 0) := hst6.hG.cell 3
  have g_4 : (w6).cell? ⟨G, 4, none⟩ = some (.slice none 0 0) := hst6.hG.cell 4
  have g_5 : (w6).cell? ⟨G, 5, none⟩ = some (.int .i64 0) := hst6.hG.cell 5
  have g_6 : (w6).cell? ⟨G, 6, none⟩ = some (.bool false) := hst6.hG.cell 6
  have g_7 : (w6).cell? ⟨G, 7, none⟩ = some (.slice none 0 0) := hst6.hG.cell 7
  have g_8 : (w6).cell? ⟨G, 8, none⟩ = some (.slice none 0 0) := hst6.hG.cell 8
  have fg_0 : (w6).frozen? ⟨G, 0, none⟩ = false := hst6.hG.frozen 0
  have fg_1 : (w6).frozen? ⟨G, 1, none⟩ = false := hst6.hG.frozen 1
  have fg_2 : (w6).frozen? ⟨G, 2, none⟩ = false := hst6.hG.frozen 2
  have fg_3 : (w6).frozen? ⟨G, 3, none⟩ = false := hst6.hG.frozen 3
  have fg_4 : (w6).frozen? ⟨G, 4, none⟩ = false := hst6.hG.frozen 4
  have fg_5 : (w6).frozen? ⟨G, 5, none⟩ = false := hst6.hG.frozen 5
  have fg_6 : (w6).frozen? ⟨G, 6, none⟩ = false := hst6.hG.frozen 6
  have fg_7 : (w6).frozen? ⟨G, 7, none⟩ = false := hst6.hG.frozen 7
  have fg_8 : (w6).frozen? ⟨G, 8, none⟩ = false := hst6.hG.frozen 8
  have fp_0 : (w6).frozen? ⟨w1.heap.size, 0, none⟩ = false := hst6.hP.frozen 0
  have fp_1 : (w6).frozen? ⟨w1.heap.size, 1, none⟩ = false := hst6.hP.frozen 1
  have fp_2 : (w6).frozen? ⟨w1.heap.size, 2, none⟩ = false := hst6.hP.frozen 2
  have fp_3 : (w6).frozen? ⟨w1.heap.size, 3, none⟩ = false := hst6.hP.frozen 3
  have fq_0 : (w6).frozen? ⟨w2.heap.size, 0, none⟩ = false := hst6.hQ.frozen 0
  have fq_1 : (w6).frozen? ⟨w2.heap.size, 1, none⟩ = false := hst6.hQ.frozen 1
  have fq_2 : (w6).frozen? ⟨w2.heap.size, 2, none⟩ = false := hst6.hQ.frozen 2
  have fq_3 : (w6).frozen? ⟨w2.heap.size, 3, none⟩ = false := hst6.hQ.frozen 3
  have lG : G < (w6).heap.size := hst6.hG.lt
  have lP : w1.heap.size < (w6).heap.size := hst6.hP.lt
  have lQ : w2.heap.size < (w6).heap.size := hst6.hQ.lt
  go_wp2_with fail
  exact bodyPost_ret (v := .agg #[.bool false, .int .i64 i4, .bool s4, .slice A4 l4 c4, .slice B4 k4 d4, .int .i64 i3, .bool s3, .slice A3 l3 c3, .slice B3 k3 d3]) (by simp [results, Try.results64, go_sem, lG, g_0, g_1, g_2, g_3, g_4, g_5, g_6, g_7, g_8]) rfl
    ⟨_, _, _, _, _, _, _, _, _, _, _, _, rfl, (RatBox.mk hst6.r3 hst6.hG (NoU.of rfl)).set9 rfl rfl rfl rfl rfl rfl rfl rfl rfl, (RatBox.mk hst6.r4 hst6.hG (NoU.of rfl)).set9 rfl rfl rfl rfl rfl rfl rfl rfl rfl, hst6.ex.set9 hGw _ _ _ _ _ _ _ _ _⟩

set_option maxHeartbeats 4000000 in
theorem size_yc (i1 : Int) (s1 : Bool) (A1 : Option Addr) (l1 c1 : Nat) (B1 : Option Addr) (k1 d1 N1 D1 : Nat) (i2 : Int) (s2 : Bool) (A2 : Option Addr) (l2 c2 : Nat) (B2 : Option Addr) (k2 d2 N2 D2 : Nat) (i3 : Int) (s3 : Bool) (N3 D3 : Nat) (i4 : Int) (s4 : Bool) (N4 D4 : Nat) (x y1 y2 : Int) (F E : Nat) (w : World) (h1 : RatAt w A1 l1 c1 B1 k1 d1 N1 D1) (h2 : RatAt w A2 l2 c2 B2 k2 d2 N2 D2)
    (HM1 : Hid (∀ w, RatAt w A1 l1 c1 B1 k1 d1 N1 D1 → Calls Try.prog 94 #[.agg #[.int .i64 i1, .bool s1, .slice A1 l1 c1, .slice B1 k1 d1]] w (RetEnd i3 s3 N3 D3 w)))
    (HM2 : Hid (∀ w, RatAt w A2 l2 c2 B2 k2 d2 N2 D2 → Calls Try.prog 94 #[.agg #[.int .i64 i2, .bool s2, .slice A2 l2 c2, .slice B2 k2 d2]] w (RetEnd i4 s4 N4 D4 w)))
    (HC : Hid (∀ A3 l3 c3 B3 k3 d3 A4 l4 c4 B4 k4 d4 w, RatAt w A3 l3 c3 B3 k3 d3 N3 D3 → RatAt w A4 l4 c4 B4 k4 d4 N4 D4 → Calls Try.prog 65 #[.agg #[.int .i64 i3, .bool s3, .slice A3 l3 c3, .slice B3 k3 d3], .agg #[.int .i64 i4, .bool s4, .slice A4 l4 c4, .slice B4 k4 d4]] w fun e w' => e = .returned (.int .i64 x) ∧ Ext w w'))
    (HSA : Hid (∀ w, RatAt w A1 l1 c1 B1 k1 d1 N1 D1 → Calls Try.prog 95 #[.agg #[.int .i64 i1, .bool s1, .slice A1 l1 c1, .slice B1 k1 d1]] w fun e w' => e = .returned (.int .i64 y1) ∧ Ext w w'))
    (HSB : Hid (∀ w, RatAt w A2 l2 c2 B2 k2 d2 N2 D2 → Calls Try.prog 95 #[.agg #[.int .i64 i2, .bool s2, .slice A2 l2 c2, .slice B2 k2 d2]] w fun e w' => e = .returned (.int .i64 y2) ∧ Ext w w'))
    (HF : Hid (∀ w, Calls Try.prog 92 #[.int .i64 0] w (RetEnd 0 false F E w)))
    (hx : decide (0 < x) = true) (hy1 : decide (y1 ≤ 0) = true) (hy2 : decide (0 ≤ y2) = true) :
    Calls Try.prog 64 #[.agg #[.bool false, .int .i64 i1, .bool s1, .slice A1 l1 c1, .slice B1 k1 d1, .int .i64 i2, .bool s2, .slice A2 l2 c2, .slice B2 k2 d2]] w (RetSet false 0 false F E i3 s3 N3 D3 w) := by
  have hbG := Blk.new2 w (.cells #[.bool false, .int .i64 i1, .bool s1, .slice A1 l1 c1, .slice B1 k1 d1, .int .i64 i2, .bool s2, .slice A2 l2 c2, .slice B2 k2 d2] 70) 70 #[.bool false, .int .i64 0, .bool false, .slice none 0 0, .slice none 0 0, .int .i64 0, .bool false, .slice none 0 0, .slice none 0 0]
  have hbI := (Blk.new w 70 #[.bool false, .int .i64 i1, .bool s1, .slice A1 l1 c1, .slice B1 k1 d1, .int .i64 i2, .bool s2, .slice A2 l2 c2, .slice B2 k2 d2]).ext ((Ext.refl _).alloc (.cells #[.bool false, .int .i64 0, .bool false, .slice none 0 0, .slice none 0 0, .int .i64 0, .bool false, .slice none 0 0, .slice none 0 0] 70))
  have hEw : Ext w ((w.alloc (.cells #[.bool false, .int .i64 i1, .bool s1, .slice A1 l1 c1, .slice B1 k1 d1, .int .i64 i2, .bool s2, .slice A2 l2 c2, .slice B2 k2 d2] 70)).alloc (.cells #[.bool false, .int .i64 0, .bool false, .slice none 0 0, .slice none 0 0, .int .i64 0, .bool false, .slice none 0 0, .slice none 0 0] 70)) := ((Ext.refl w).alloc _).alloc _
  obtain ⟨G, hG⟩ : ∃ G, G = w.heap.size + 1 := ⟨_, rfl⟩
  rw [← hG] at hbG
  have hGw : w.heap.size ≤ G := by omega
  have HGS := Lib.hid (show w.heap.size + 1 = G from hG.symm)
  have hr1 := h1.ext hEw
  have hr2 := h2.ext hEw
  clear hG h1 h2
  go_enter Try.func64, Try.ntmps64
  go_wp2_with fail
  refine (HM1.out _ hr1).mono ?_
  rintro e w1 ⟨A3, l3, c3, B3, k3, d3, rfl, h3, hE1⟩
  rw [HGS.out]
  clear HGS
  have hE1' : Ext w1 (w1.alloc (.cells #[.int .i64 i3, .bool s3, .slice A3 l3 c3, .slice B3 k3 d3] 68)) := (Ext.refl w1).alloc _
  have hbP := Blk.new w1 68 #[.int .i64 i3, .bool s3, .slice A3 l3 c3, .slice B3 k3 d3]
  have hbG1 := (hbG.ext hE1).ext hE1'
  have hbI1 := (hbI.ext hE1).ext hE1'
  have hr11 := (hr1.ext hE1).ext hE1'
  have hr21 := (hr2.ext hE1).ext hE1'
  have h31 := h3.ext hE1'
  have hEw1 := (hEw.trans hE1).trans hE1'
  have hlt1 : w.heap.size < w1.heap.size := by have a := hbI.lt; have b := hE1.size; omega
  have hlt2 : G < w1.heap.size := by have a := hbG.lt; have b := hE1.size; omega
  have hlt3 : w.heap.size ≤ w1.heap.size := by omega
  clear hbG hbI hr1 hr2 h3 hEw hE1 hE1'
  have i_0 : (w1.alloc (.cells #[.int .i64 i3, .bool s3, .slice A3 l3 c3, .slice B3 k3 d3] 68)).cell? ⟨w.heap.size, 0, none⟩ = some (.bool false) := hbI1.cell 0
  have i_1 : (w1.alloc (.cells #[.int .i64 i3, .bool s3, .slice A3 l3 c3, .slice B3 k3 d3] 68)).cell? ⟨w.heap.size, 1, none⟩ = some (.int .i64 i1) := hbI1.cell 1
  have i_2 : (w1.alloc (.cells #[.int .i64 i3, .bool s3, .slice A3 l3 c3, .slice B3 k3 d3] 68)).cell? ⟨w.heap.size, 2, none⟩ = some (.bool s1) := hbI1.cell 2
  have i_3 : (w1.alloc (.cells #[.int .i64 i3, .bool s3, .slice A3 l3 c3, .slice B3 k3 d3] 68)).cell? ⟨w.heap.size, 3, none⟩ = some (.slice A1 l1 c1) := hbI1.cell 3
  have i_4 : (w1.alloc (.cells #[.int .i64 i3, .bool s3, .slice A3 l3 c3, .slice B3 k3 d3] 68)).cell? ⟨w.heap.size, 4, none⟩ = some (.slice B1 k1 d1) := hbI1.cell 4
  have i_5 : (w1.alloc (.cells #[.int .i64 i3, .bool s3, .slice A3 l3 c3, .slice B3 k3 d3] 68)).cell? ⟨w.heap.size, 5, none⟩ = some (.int .i64 i2) := hbI1.cell 5
  have i_6 : (w1.alloc (.cells #[.int .i64 i3, .bool s3, .slice A3 l3 c3, .slice B3 k3 d3] 68)).cell? ⟨w.heap.size, 6, none⟩ = some (.bool s2) := hbI1.cell 6
  have i_7 : (w1.alloc (.cells #[.int .i64 i3, .bool s3, .slice A3 l3 c3, .slice B3 k3 d3] 68)).cell? ⟨w.heap.size, 7, none⟩ = some (.slice A2 l2 c2) := hbI1.cell 7
  have i_8 : (w1.alloc (.cells #[.int .i64 i3, .bool s3, .slice A3 l3 c3, .slice B3 k3 d3] 68)).cell? ⟨w.heap.size, 8, none⟩ = some (.slice B2 k2 d2) := hbI1.cell 8
  go_wp2_with fail
  clear i_0 i_1 i_2 i_3 i_4 i_5 i_6 i_7 i_8
  refine (HM2.out _ hr21).mono ?_
  rintro e w2 ⟨A4, l4, c4, B4, k4, d4, rfl, h4, hE2⟩
  have hE2' : Ext (w1.alloc (.cells #[.int .i64 i3, .bool s3, .slice A3 l3 c3, .slice B3 k3 d3] 68)) (w2.alloc (.cells #[.int .i64 i4, .bool s4, .slice A4 l4 c4, .slice B4 k4 d4] 68)) := hE2.alloc _
  have hst : MZ w.heap.size G w1.heap.size w2.heap.size i1 s1 A1 l1 c1 B1 k1 d1 N1 D1 i2 s2 A2 l2 c2 B2 k2 d2 N2 D2 i3 s3 A3 l3 c3 B3 k3 d3 N3 D3 i4 s4 A4 l4 c4 B4 k4 d4 N4 D4 w (w2.alloc (.cells #[.int .i64 i4, .bool s4, .slice A4 l4 c4, .slice B4 k4 d4] 68)) :=
    ⟨hbI1.ext hE2', hbG1.ext hE2', hbP.ext hE2', Blk.new w2 _ _, hr11.ext hE2', hr21.ext hE2', h31.ext hE2', h4.ext ((Ext.refl w2).alloc _), hEw1.trans hE2', hlt3, hlt1, hlt2, by have a := hbP.lt; have b := hE2.size; omega⟩
  clear hbI1 hbG1 hbP hr11 hr21 h31 h4 hEw1 hE2 hE2' hlt1 hlt2 hlt3
  have i_0 : (w2.alloc (.cells #[.int .i64 i4, .bool s4, .slice A4 l4 c4, .slice B4 k4 d4] 68)).cell? ⟨w.heap.size, 0, none⟩ = some (.bool false) := hst.hH.cell 0
  have i_1 : (w2.alloc (.cells #[.int .i64 i4, .bool s4, .slice A4 l4 c4, .slice B4 k4 d4] 68)).cell? ⟨w.heap.size, 1, none⟩ = some (.int .i64 i1) := hst.hH.cell 1
  have i_2 : (w2.alloc (.cells #[.int .i64 i4, .bool s4, .slice A4 l4 c4, .slice B4 k4 d4] 68)).cell? ⟨w.heap.size, 2, none⟩ = some (.bool s1) := hst.hH.cell 2
  have i_3 : (w2.alloc (.cells #[.int .i64 i4, .bool s4, .slice A4 l4 c4, .slice B4 k4 d4] 68)).cell? ⟨w.heap.size, 3, none⟩ = some (.slice A1 l1 c1) := hst.hH.cell 3
  have i_4 : (w2.alloc (.cells #[.int .i64 i4, .bool s4, .slice A4 l4 c4, .slice B4 k4 d4] 68)).cell? ⟨w.heap.size, 4, none⟩ = some (.slice B1 k1 d1) := hst.hH.cell 4
  have i_5 : (w2.alloc (.cells #[.int .i64 i4, .bool s4, .slice A4 l4 c4, .slice B4 k4 d4] 68)).cell? ⟨w.heap.size, 5, none⟩ = some (.int .i64 i2) := hst.hH.cell 5
  have i_6 : (w2.alloc (.cells #[.int .i64 i4, .bool s4, .slice A4 l4 c4, .slice B4 k4 d4] 68)).cell? ⟨w.heap.size, 6, none⟩ = some (.bool s2) := hst.hH.cell 6
  have i_7 : (w2.alloc (.cells #[.int .i64 i4, .bool s4, .slice A4 l4 c4, .slice B4 k4 d4] 68)).cell? ⟨w.heap.size, 7, none⟩ = some (.slice A2 l2 c2) := hst.hH.cell 7
  have i_8 : (w2.alloc (.cells #[.int .i64 i4, .bool s4, .slice A4 l4 c4, .slice B4 k4 d4] 68)).cell? ⟨w.heap.size, 8, none⟩ = some (.slice B2 k2 d2) := hst.hH.cell 8
  have p_0 : (w2.alloc (.cells #[.int .i64 i4, .bool s4, .slice A4 l4 c4, .slice B4 k4 d4] 68)).cell? ⟨w1.heap.size, 0, none⟩ = some (.int .i64 i3) := hst.hP.cell 0
  have p_1 : (w2.alloc (.cells #[.int .i64 i4, .bool s4, .slice A4 l4 c4, .slice B4 k4 d4] 68)).cell? ⟨w1.heap.size, 1, none⟩ = some (.bool s3) := hst.hP.cell 1
  have p_2 : (w2.alloc (.cells #[.int .i64 i4, .bool s4, .slice A4 l4 c4, .slice B4 k4 d4] 68)).cell? ⟨w1.heap.size, 2, none⟩ = some (.slice A3 l3 c3) := hst.hP.cell 2
  have p_3 : (w2.alloc (.cells #[.int .i64 i4, .bool s4, .slice A4 l4 c4, .slice B4 k4 d4] 68)).cell? ⟨w1.heap.size, 3, none⟩ = some (.slice B3 k3 d3) := hst.hP.cell 3
  have q_0 : (w2.alloc (.cells #[.int .i64 i4, .bool s4, .slice A4 l4 c4, .slice B4 k4 d4] 68)).cell? ⟨w2.heap.size, 0, none⟩ = some (.int .i64 i4) := hst.hQ.cell 0
  have q_1 : (w2.alloc (.cells #[.int .i64 i4, .bool s4, .slice A4 l4 c4, .slice B4 k4 d4] 68)).cell? ⟨w2.heap.size, 1, none⟩ = some (.bool s4) := hst.hQ.cell 1
  have q_2 : (w2.alloc (.cells #[.int .i64 i4, .bool s4, .slice A4 l4 c4, .slice B4 k4 d4] 68)).cell? ⟨w2.heap.size, 2, none⟩ = some (.slice A4 l4 c4) := hst.hQ.cell 2
  have q_3 : (w2.alloc (.cells #[.int .i64 i4, .bool s4, .slice A4 l4 c4, .slice B4 k4 d4] 68)).cell? ⟨w2.heap.size, 3, none⟩ = some (.slice B4 k4 d4) := hst.hQ.cell 3
  have g_0 : (w2.alloc (.cells #[.int .i64 i4, .bool s4, .slice A4 l4 c4, .slice B4 k4 d4] 68)).cell? ⟨G, 0, none⟩ = some (.bool false) := hst.hG.cell 0
  have g_1 : (w2.alloc (.cells #[.int .i64 i4, .bool s4, .slice A4 l4 c4, .slice B4 k4 d4] 68)).cell? ⟨G, 1, none⟩ = some (.int .i64 0) := hst.hG.cell 1
  have g_2 : (w2.alloc (.cells #[.int .i64 i4, .bool s4, .slice A4 l4 c4, .slice B4 k4 d4] 68)).cell? ⟨G, 2, none⟩ = some (.bool false) := hst.hG.cell 2
  have g_3 : (w2.alloc (.cells #[.int .i64 i4, .bool s4, .slice A4 l4 c4, .slice B4 k4 d4] 68)).cell? ⟨G, 3, none⟩ = some (.slice none 0 0) := hst.hG.cell 3
  have g_4 : (w2.alloc (.cells #[.int .i64 i4, .bool s4, .slice A4 l4 c4, .slice B4 k4 d4] 68)).cell? ⟨G, 4, none⟩ = some (.slice none 0 0) := hst.hG.cell 4
  have g_5 : (w2.alloc (.cells #[.int .i64 i4, .bool s4, .slice A4 l4 c4, .slice B4 k4 d4] 68)).cell? ⟨G, 5, none⟩ = some (.int .i64 0) := hst.hG.cell 5
  have g_6 : (w2.alloc (.cells #[.int .i64 i4, .bool s4, .slice A4 l4 c4, .slice B4 k4 d4] 68)).cell? ⟨G, 6, none⟩ = some (.bool false) := hst.hG.cell 6
  have g_7 : (w2.alloc (.cells #[.int .i64 i4, .bool s4, .slice A4 l4 c4, .slice B4 k4 d4] 68)).cell? ⟨G, 7, none⟩ = some (.slice none 0 0) := hst.hG.cell 7
  have g_8 : (w2.alloc (.cells #[.int .i64 i4, .bool s4, .slice A4 l4 c4, .slice B4 k4 d4] 68)).cell? ⟨G, 8, none⟩ = some (.slice none 0 0) := hst.hG.cell 8
  have fg_0 : (w2.alloc (.cells #[.int .i64 i4, .bool s4, .slice A4 l4 c4, .slice B4 k4 d4] 68)).frozen? ⟨G, 0, none⟩ = false := hst.hG.frozen 0
  have fg_1 : (w2.alloc (.cells #[.int .i64 i4, .bool s4, .slice A4 l4 c4, .slice B4 k4 d4] 68)).frozen? ⟨G, 1, none⟩ = false := hst.hG.frozen 1
  have fg_2 : (w2.alloc (.cells #[.int .i64 i4, .bool s4, .slice A4 l4 c4, .slice B4 k4 d4] 68)).frozen? ⟨G, 2, none⟩ = false := hst.hG.frozen 2
  have fg_3 : (w2.alloc (.cells #[.int .i64 i4, .bool s4, .slice A4 l4 c4, .slice B4 k4 d4] 68)).frozen? ⟨G, 3, none⟩ = false := hst.hG.frozen 3
  have fg_4 : (w2.alloc (.cells #[.int .i64 i4, .bool s4, .slice A4 l4 c4, .slice B4 k4 d4] 68)).frozen? ⟨G, 4, none⟩ = false := hst.hG.frozen 4
  have fg_5 : (w2.alloc (.cells #[.int .i64 i4, .bool s4, .slice A4 l4 c4, .slice B4 k4 d4] 68)).frozen? ⟨G, 5, none⟩ = false := hst.hG.frozen 5
  have fg_6 : (w2.alloc (.cells #[.int .i64 i4, .bool s4, .slice A4 l4 c4, .slice B4 k4 d4] 68)).frozen? ⟨G, 6, none⟩ = false := hst.hG.frozen 6
  have fg_7 : (w2.alloc (.cells #[.int .i64 i4, .bool s4, .slice A4 l4 c4, .slice B4 k4 d4] 68)).frozen? ⟨G, 7, none⟩ = false := hst.hG.frozen 7
  have fg_8 : (w2.alloc (.cells #[.int .i64 i4, .bool s4, .slice A4 l4 c4, .slice B4 k4 d4] 68)).frozen? ⟨G, 8, none⟩ = false := hst.hG.frozen 8
  have fp_0 : (w2.alloc (.cells #[.int .i64 i4, .bool s4, .slice A4 l4 c4, .slice B4 k4 d4] 68)).frozen? ⟨w1.heap.size, 0, none⟩ = false := hst.hP.frozen 0
  have fp_1 : (w2.alloc (.cells #[.int .i64 i4, .bool s4, .slice A4 l4 c4, .slice B4 k4 d4] 68)).frozen? ⟨w1.heap.size, 1, none⟩ = false := hst.hP.frozen 1
  have fp_2 : (w2.alloc (.cells #[.int .i64 i4, .bool s4, .slice A4 l4 c4, .slice B4 k4 d4] 68)).frozen? ⟨w1.heap.size, 2, none⟩ = false := hst.hP.frozen 2
  have fp_3 : (w2.alloc (.cells #[.int .i64 i4, .bool s4, .slice A4 l4 c4, .slice B4 k4 d4] 68)).frozen? ⟨w1.heap.size, 3, none⟩ = false := hst.hP.frozen 3
  have fq_0 : (w2.alloc (.cells #[.int .i64 i4, .bool s4, .slice A4 l4 c4, .slice B4 k4 d4] 68)).frozen? ⟨w2.heap.size, 0, none⟩ = false := hst.hQ.frozen 0
  have fq_1 : (w2.alloc (.cells #[.int .i64 i4, .bool s4, .slice A4 l4 c4, .slice B4 k4 d4] 68)).frozen? ⟨w2.heap.size, 1, none⟩ = false := hst.hQ.frozen 1
  have fq_2 : (w2.alloc (.cells #[.int .i64 i4, .bool s4, .slice A4 l4 c4, .slice B4 k4 d4] 68)).frozen? ⟨w2.heap.size, 2, none⟩ = false := hst.hQ.frozen 2
  have fq_3 : (w2.alloc (.cells #[.int .i64 i4, .bool s4, .slice A4 l4 c4, .slice B4 k4 d4] 68)).frozen? ⟨w2.heap.size, 3, none⟩ = false := hst.hQ.frozen 3
  have lG : G < (w2.alloc (.cells #[.int .i64 i4, .bool s4, .slice A4 l4 c4, .slice B4 k4 d4] 68)).heap.size := hst.hG.lt
  have lP : w1.heap.size < (w2.alloc (.cells #[.int .i64 i4, .bool s4, .slice A4 l4 c4, .slice B4 k4 d4] 68)).heap.size := hst.hP.lt
  have lQ : w2.heap.size < (w2.alloc (.cells #[.int .i64 i4, .bool s4, .slice A4 l4 c4, .slice B4 k4 d4] 68)).heap.size := hst.hQ.lt
  go_wp2_with fail
  clear i_0 i_1 i_2 i_3 i_4 i_5 i_6 i_7 i_8 p_0 p_1 p_2 p_3 q_0 q_1 q_2 q_3 g_0 g_1 g_2 g_3 g_4 g_5 g_6 g_7 g_8 fg_0 fg_1 fg_2 fg_3 fg_4 fg_5 fg_6 fg_7 fg_8 fp_0 fp_1 fp_2 fp_3 fq_0 fq_1 fq_2 fq_3 lG lP lQ
  refine (HC.out _ _ _ _ _ _ _ _ _ _ _ _ _ hst.r3 hst.r4).mono ?_
  rintro e w3 ⟨rfl, hE3⟩
  have hst3 := hst.ext hE3
  clear hst hE3
  have hsa := hst3.ext ((Ext.refl w3).alloc (.cells #[.int .i64 i3, .bool s3, .slice A3 l3 c3, .slice B3 k3 d3] 68))
  have hbR := Blk.new w3 68 #[.int .i64 i3, .bool s3, .slice A3 l3 c3, .slice B3 k3 d3]
  have hnp : w3.heap.size ≠ w1.heap.size := by have a := hst3.hP.lt; omega
  have hbR2 : Blk (((((w3.alloc (.cells #[.int .i64 i3, .bool s3, .slice A3 l3 c3, .slice B3 k3 d3] 68)).setCell ⟨w1.heap.size, 0, none⟩ (.int .i64 i4)).setCell ⟨w1.heap.size, 1, none⟩ (.bool s4)).setCell ⟨w1.heap.size, 2, none⟩ (.slice A4 l4 c4)).setCell ⟨w1.heap.size, 3, none⟩ (.slice B4 k4 d4)) w3.heap.size 68 #[.int .i64 i3, .bool s3, .slice A3 l3 c3, .slice B3 k3 d3] := hbR.far4 hnp _ _ _ _
  have hsb := hsa.setP hsa.r4 (i5 := i4) (s5 := s4)
  have hsc := hsb.setQ (show RatAt _ A3 l3 c3 B3 k3 d3 N3 D3 from ((RatBox.mk hsa.r3 hsa.hP (NoU.of rfl)).set4 rfl rfl rfl rfl).rat) (i5 := i3) (s5 := s3)
  have w3p_0 : w3.cell? ⟨w1.heap.size, 0, none⟩ = some (.int .i64 i3) := hst3.hP.cell 0
  have w3p_1 : w3.cell? ⟨w1.heap.size, 1, none⟩ = some (.bool s3) := hst3.hP.cell 1
  have w3p_2 : w3.cell? ⟨w1.heap.size, 2, none⟩ = some (.slice A3 l3 c3) := hst3.hP.cell 2
  have w3p_3 : w3.cell? ⟨w1.heap.size, 3, none⟩ = some (.slice B3 k3 d3) := hst3.hP.cell 3
  have w3q_0 : (w3.alloc (.cells #[.int .i64 i3, .bool s3, .slice A3 l3 c3, .slice B3 k3 d3] 68)).cell? ⟨w2.heap.size, 0, none⟩ = some (.int .i64 i4) := hsa.hQ.cell 0
  have w3q_1 : (w3.alloc (.cells #[.int .i64 i3, .bool s3, .slice A3 l3 c3, .slice B3 k3 d3] 68)).cell? ⟨w2.heap.size, 1, none⟩ = some (.bool s4) := hsa.hQ.cell 1
  have w3q_2 : (w3.alloc (.cells #[.int .i64 i3, .bool s3, .slice A3 l3 c3, .slice B3 k3 d3] 68)).cell? ⟨w2.heap.size, 2, none⟩ = some (.slice A4 l4 c4) := hsa.hQ.cell 2
  have w3q_3 : (w3.alloc (.cells #[.int .i64 i3, .bool s3, .slice A3 l3 c3, .slice B3 k3 d3] 68)).cell? ⟨w2.heap.size, 3, none⟩ = some (.slice B4 k4 d4) := hsa.hQ.cell 3
  have w3pp_0 : (w3.alloc (.cells #[.int .i64 i3, .bool s3, .slice A3 l3 c3, .slice B3 k3 d3] 68)).cell? ⟨w1.heap.size, 0, none⟩ = some (.int .i64 i3) := hsa.hP.cell 0
  have w3pp_1 : (w3.alloc (.cells #[.int .i64 i3, .bool s3, .slice A3 l3 c3, .slice B3 k3 d3] 68)).cell? ⟨w1.heap.size, 1, none⟩ = some (.bool s3) := hsa.hP.cell 1
  have w3pp_2 : (w3.alloc (.cells #[.int .i64 i3, .bool s3, .slice A3 l3 c3, .slice B3 k3 d3] 68)).cell? ⟨w1.heap.size, 2, none⟩ = some (.slice A3 l3 c3) := hsa.hP.cell 2
  have w3pp_3 : (w3.alloc (.cells #[.int .i64 i3, .bool s3, .slice A3 l3 c3, .slice B3 k3 d3] 68)).cell? ⟨w1.heap.size, 3, none⟩ = some (.slice B3 k3 d3) := hsa.hP.cell 3
  have fap_0 : (w3.alloc (.cells #[.int .i64 i3, .bool s3, .slice A3 l3 c3, .slice B3 k3 d3] 68)).frozen? ⟨w1.heap.size, 0, none⟩ = false := hsa.hP.frozen 0
  have fap_1 : (w3.alloc (.cells #[.int .i64 i3, .bool s3, .slice A3 l3 c3, .slice B3 k3 d3] 68)).frozen? ⟨w1.heap.size, 1, none⟩ = false := hsa.hP.frozen 1
  have fap_2 : (w3.alloc (.cells #[.int .i64 i3, .bool s3, .slice A3 l3 c3, .slice B3 k3 d3] 68)).frozen? ⟨w1.heap.size, 2, none⟩ = false := hsa.hP.frozen 2
  have fap_3 : (w3.alloc (.cells #[.int .i64 i3, .bool s3, .slice A3 l3 c3, .slice B3 k3 d3] 68)).frozen? ⟨w1.heap.size, 3, none⟩ = false := hsa.hP.frozen 3
  have lap : w1.heap.size < (w3.alloc (.cells #[.int .i64 i3, .bool s3, .slice A3 l3 c3, .slice B3 k3 d3] 68)).heap.size := hsa.hP.lt
  have w3r_0 : (((((w3.alloc (.cells #[.int .i64 i3, .bool s3, .slice A3 l3 c3, .slice B3 k3 d3] 68)).setCell ⟨w1.heap.size, 0, none⟩ (.int .i64 i4)).setCell ⟨w1.heap.size, 1, none⟩ (.bool s4)).setCell ⟨w1.heap.size, 2, none⟩ (.slice A4 l4 c4)).setCell ⟨w1.heap.size, 3, none⟩ (.slice B4 k4 d4)).cell? ⟨w3.heap.size, 0, none⟩ = some (.int .i64 i3) := hbR2.cell 0
  have w3r_1 : (((((w3.alloc (.cells #[.int .i64 i3, .bool s3, .slice A3 l3 c3, .slice B3 k3 d3] 68)).setCell ⟨w1.heap.size, 0, none⟩ (.int .i64 i4)).setCell ⟨w1.heap.size, 1, none⟩ (.bool s4)).setCell ⟨w1.heap.size, 2, none⟩ (.slice A4 l4 c4)).setCell ⟨w1.heap.size, 3, none⟩ (.slice B4 k4 d4)).cell? ⟨w3.heap.size, 1, none⟩ = some (.bool s3) := hbR2.cell 1
  have w3r_2 : (((((w3.alloc (.cells #[.int .i64 i3, .bool s3, .slice A3 l3 c3, .slice B3 k3 d3] 68)).setCell ⟨w1.heap.size, 0, none⟩ (.int .i64 i4)).setCell ⟨w1.heap.size, 1, none⟩ (.bool s4)).setCell ⟨w1.heap.size, 2, none⟩ (.slice A4 l4 c4)).setCell ⟨w1.heap.size, 3, none⟩ (.slice B4 k4 d4)).cell? ⟨w3.heap.size, 2, none⟩ = some (.slice A3 l3 c3) := hbR2.cell 2
  have w3r_3 : (((((w3.alloc (.cells #[.int .i64 i3, .bool s3, .slice A3 l3 c3, .slice B3 k3 d3] 68)).setCell ⟨w1.heap.size, 0, none⟩ (.int .i64 i4)).setCell ⟨w1.heap.size, 1, none⟩ (.bool s4)).setCell ⟨w1.heap.size, 2, none⟩ (.slice A4 l4 c4)).setCell ⟨w1.heap.size, 3, none⟩ (.slice B4 k4 d4)).cell? ⟨w3.heap.size, 3, none⟩ = some (.slice B3 k3 d3) := hbR2.cell 3
  have w3bq_0 : (((((w3.alloc (.cells #[.int .i64 i3, .bool s3, .slice A3 l3 c3, .slice B3 k3 d3] 68)).setCell ⟨w1.heap.size, 0, none⟩ (.int .i64 i4)).setCell ⟨w1.heap.size, 1, none⟩ (.bool s4)).setCell ⟨w1.heap.size, 2, none⟩ (.slice A4 l4 c4)).setCell ⟨w1.heap.size, 3, none⟩ (.slice B4 k4 d4)).cell? ⟨w2.heap.size, 0, none⟩ = some (.int .i64 i4) := hsb.hQ.cell 0
  have w3bq_1 : (((((w3.alloc (.cells #[.int .i64 i3, .bool s3, .slice A3 l3 c3, .slice B3 k3 d3] 68)).setCell ⟨w1.heap.size, 0, none⟩ (.int .i64 i4)).setCell ⟨w1.heap.size, 1, none⟩ (.bool s4)).setCell ⟨w1.heap.size, 2, none⟩ (.slice A4 l4 c4)).setCell ⟨w1.heap.size, 3, none⟩ (.slice B4 k4 d4)).cell? ⟨w2.heap.size, 1, none⟩ = some (.bool s4) := hsb.hQ.cell 1
  have w3bq_2 : (((((w3.alloc (.cells #[.int .i64 i3, .bool s3, .slice A3 l3 c3, .slice B3 k3 d3] 68)).setCell ⟨w1.heap.size, 0, none⟩ (.int .i64 i4)).setCell ⟨w1.heap.size, 1, none⟩ (.bool s4)).setCell ⟨w1.heap.size, 2, none⟩ (.slice A4 l4 c4)).setCell ⟨w1.heap.size, 3, none⟩ (.slice B4 k4 d4)).cell? ⟨w2.heap.size, 2, none⟩ = some (.slice A4 l4 c4) := hsb.hQ.cell 2
  have w3bq_3 : (((((w3.alloc (.cells #[.int .i64 i3, .bool s3, .slice A3 l3 c3, .slice B3 k3 d3] 68)).setCell ⟨w1.heap.size, 0, none⟩ (.int .i64 i4)).setCell ⟨w1.heap.size, 1, none⟩ (.bool s4)).setCell ⟨w1.heap.size, 2, none⟩ (.slice A4 l4 c4)).setCell ⟨w1.heap.size, 3, none⟩ (.slice B4 k4 d4)).cell? ⟨w2.heap.size, 3, none⟩ = some (.slice B4 k4 d4) := hsb.hQ.cell 3
  have fbq_0 : (((((w3.alloc (.cells #[.int .i64 i3, .bool s3, .slice A3 l3 c3, .slice B3 k3 d3] 68)).setCell ⟨w1.heap.size, 0, none⟩ (.int .i64 i4)).setCell ⟨w1.heap.size, 1, none⟩ (.bool s4)).setCell ⟨w1.heap.size, 2, none⟩ (.slice A4 l4 c4)).setCell ⟨w1.heap.size, 3, none⟩ (.slice B4 k4 d4)).frozen? ⟨w2.heap.size, 0, none⟩ = false := hsb.hQ.frozen 0
  have fbq_1 : (((((w3.alloc (.cells #[.int .i64 i3, .bool s3, .slice A3 l3 c3, .slice B3 k3 d3] 68)).setCell ⟨w1.heap.size, 0, none⟩ (.int .i64 i4)).setCell ⟨w1.heap.size, 1, none⟩ (.bool s4)).setCell ⟨w1.heap.size, 2, none⟩ (.slice A4 l4 c4)).setCell ⟨w1.heap.size, 3, none⟩ (.slice B4 k4 d4)).frozen? ⟨w2.heap.size, 1, none⟩ = false := hsb.hQ.frozen 1
  have fbq_2 : (((((w3.alloc (.cells #[.int .i64 i3, .bool s3, .slice A3 l3 c3, .slice B3 k3 d3] 68)).setCell ⟨w1.heap.size, 0, none⟩ (.int .i64 i4)).setCell ⟨w1.heap.size, 1, none⟩ (.bool s4)).setCell ⟨w1.heap.size, 2, none⟩ (.slice A4 l4 c4)).setCell ⟨w1.heap.size, 3, none⟩ (.slice B4 k4 d4)).frozen? ⟨w2.heap.size, 2, none⟩ = false := hsb.hQ.frozen 2
  have fbq_3 : (((((w3.alloc (.cells #[.int .i64 i3, .bool s3, .slice A3 l3 c3, .slice B3 k3 d3] 68)).setCell ⟨w1.heap.size, 0, none⟩ (.int .i64 i4)).setCell ⟨w1.heap.size, 1, none⟩ (.bool s4)).setCell ⟨w1.heap.size, 2, none⟩ (.slice A4 l4 c4)).setCell ⟨w1.heap.size, 3, none⟩ (.slice B4 k4 d4)).frozen? ⟨w2.heap.size, 3, none⟩ = false := hsb.hQ.frozen 3
  have lbq : w2.heap.size < (((((w3.alloc (.cells #[.int .i64 i3, .bool s3, .slice A3 l3 c3, .slice B3 k3 d3] 68)).setCell ⟨w1.heap.size, 0, none⟩ (.int .i64 i4)).setCell ⟨w1.heap.size, 1, none⟩ (.bool s4)).setCell ⟨w1.heap.size, 2, none⟩ (.slice A4 l4 c4)).setCell ⟨w1.heap.size, 3, none⟩ (.slice B4 k4 d4)).heap.size := hsb.hQ.lt
  clear hst3 hsa hsb hbR hbR2
  have i_0 : (((((((((w3.alloc (.cells #[.int .i64 i3, .bool s3, .slice A3 l3 c3, .slice B3 k3 d3] 68)).setCell ⟨w1.heap.size, 0, none⟩ (.int .i64 i4)).setCell ⟨w1.heap.size, 1, none⟩ (.bool s4)).setCell ⟨w1.heap.size, 2, none⟩ (.slice A4 l4 c4)).setCell ⟨w1.heap.size, 3, none⟩ (.slice B4 k4 d4)).setCell ⟨w2.heap.size, 0, none⟩ (.int .i64 i3)).setCell ⟨w2.heap.size, 1, none⟩ (.bool s3)).setCell ⟨w2.heap.size, 2, none⟩ (.slice A3 l3 c3)).setCell ⟨w2.heap.size, 3, none⟩ (.slice B3 k3 d3)).cell? ⟨w.heap.size, 0, none⟩ = some (.bool false) := hsc.hH.cell 0
  have i_1 : (((((((((w3.alloc (.cells #[.int .i64 i3, .bool s3, .slice A3 l3 c3, .slice B3 k3 d3] 68)).setCell ⟨w1.heap.size, 0, none⟩ (.int .i64 i4)).setCell ⟨w1.heap.size, 1, none⟩ (.bool s4)).setCell ⟨w1.heap.size, 2, none⟩ (.slice A4 l4 c4)).setCell ⟨w1.heap.size, 3, none⟩ (.slice B4 k4 d4)).setCell ⟨w2.heap.size, 0, none⟩ (.int .i64 i3)).setCell ⟨w2.heap.size, 1, none⟩ (.bool s3)).setCell ⟨w2.heap.size, 2, none⟩ (.slice A3 l3 c3)).setCell ⟨w2.heap.size, 3, none⟩ (.slice B3 k3 d3)).cell? ⟨w.heap.size, 1, none⟩ = some (.int .i64 i1) := hsc.hH.cell 1
  have i_2 : (((((((((w3.alloc (.cells #[.int .i64 i3, .bool s3, .slice A3 l3 c3, .slice B3 k3 d3] 68)).setCell ⟨w1.heap.size, 0, none⟩ (.int .i64 i4)).setCell ⟨w1.heap.size, 1, none⟩ (.bool s4)).setCell ⟨w1.heap.size, 2, none⟩ (.slice A4 l4 c4)).setCell ⟨w1.heap.size, 3, none⟩ (.slice B4 k4 d4)).setCell ⟨w2.heap.size, 0, none⟩ (.int .i64 i3)).setCell ⟨w2.heap.size, 1, none⟩ (.bool s3)).setCell ⟨w2.heap.size, 2, none⟩ (.slice A3 l3 c3)).setCell ⟨w2.heap.size, 3, none⟩ (.slice B3 k3 d3)).cell? ⟨w.heap.size, 2, none⟩ = some (.bool s1) := hsc.hH.cell 2
  have i_3 : (((((((((w3.alloc (.cells #[.int .i64 i3, .bool s3, .slice A3 l3 c3, .slice B3 k3 d3] 68)).setCell ⟨w1.heap.size, 0, none⟩ (.int .i64 i4)).setCell ⟨w1.heap.size, 1, none⟩ (.bool s4)).setCell ⟨w1.heap.size, 2, none⟩ (.slice A4 l4 c4)).setCell ⟨w1.heap.size, 3, none⟩ (.slice B4 k4 d4)).setCell ⟨w2.heap.size, 0, none⟩ (.int .i64 i3)).setCell ⟨w2.heap.size, 1, none⟩ (.bool s3)).setCell ⟨w2.heap.size, 2, none⟩ (.slice A3 l3 c3)).setCell ⟨w2.heap.size, 3, none⟩ (.slice B3 k3 d3)).cell? ⟨w.heap.size, 3, none⟩ = some (.slice A1 l1 c1) := hsc.hH.cell 3
  have i_4 : (((((((((w3.alloc (.cells #[.int .i64 i3, .bool s3, .slice A3 l3 c3, .slice B3 k3 d3] 68)).setCell ⟨w1.heap.size, 0, none⟩ (.int .i64 i4)).setCell ⟨w1.heap.size, 1, none⟩ (.bool s4)).setCell ⟨w1.heap.size, 2, none⟩ (.slice A4 l4 c4)).setCell ⟨w1.heap.size, 3, none⟩ (.slice B4 k4 d4)).setCell ⟨w2.heap.size, 0, none⟩ (.int .i64 i3)).setCell ⟨w2.heap.size, 1, none⟩ (.bool s3)).setCell ⟨w2.heap.size, 2, none⟩ (.slice A3 l3 c3)).setCell ⟨w2.heap.size, 3, none⟩ (.slice B3 k3 d3)).cell? ⟨w.heap.size, 4, none⟩ = some (.slice B1 k1 d1) := hsc.hH.cell 4
  have i_5 : (((((((((w3.alloc (.cells #[.int .i64 i3, .bool s3, .slice A3 l3 c3, .slice B3 k3 d3] 68)).setCell ⟨w1.heap.size, 0, none⟩ (.int .i64 i4)).setCell ⟨w1.heap.size, 1, none⟩ (.bool s4)).setCell ⟨w1.heap.size, 2, none⟩ (.slice A4 l4 c4)).setCell ⟨w1.heap.size, 3, none⟩ (.slice B4 k4 d4)).setCell ⟨w2.heap.size, 0, none⟩ (.int .i64 i3)).setCell ⟨w2.heap.size, 1, none⟩ (.bool s3)).setCell ⟨w2.heap.size, 2, none⟩ (.slice A3 l3 c3)).setCell ⟨w2.heap.size, 3, none⟩ (.slice B3 k3 d3)).cell? ⟨w.heap.size, 5, none⟩ = some (.int .i64 i2) := hsc.hH.cell 5
  have i_6 : (((((((((w3.alloc (.cells #[.int .i64 i3, .bool s3, .slice A3 l3 c3, .slice B3 k3 d3] 68)).setCell ⟨w1.heap.size, 0, none⟩ (.int .i64 i4)).setCell ⟨w1.heap.size, 1, none⟩ (.bool s4)).setCell ⟨w1.heap.size, 2, none⟩ (.slice A4 l4 c4)).setCell ⟨w1.heap.size, 3, none⟩ (.slice B4 k4 d4)).setCell ⟨w2.heap.size, 0, none⟩ (.int .i64 i3)).setCell ⟨w2.heap.size, 1, none⟩ (.bool s3)).setCell ⟨w2.heap.size, 2, none⟩ (.slice A3 l3 c3)).setCell ⟨w2.heap.size, 3, none⟩ (.slice B3 k3 d3)).cell? ⟨w.heap.size, 6, none⟩ = some (.bool s2) := hsc.hH.cell 6
  have i_7 : (((((((((w3.alloc (.cells #[.int .i64 i3, .bool s3, .slice A3 l3 c3, .slice B3 k3 d3] 68)).setCell ⟨w1.heap.size, 0, none⟩ (.int .i64 i4)).setCell ⟨w1.heap.size, 1, none⟩ (.bool s4)).setCell ⟨w1.heap.size, 2, none⟩ (.slice A4 l4 c4)).setCell ⟨w1.heap.size, 3, none⟩ (.slice B4 k4 d4)).setCell ⟨w2.heap.size, 0, none⟩ (.int .i64 i3)).setCell ⟨w2.heap.size, 1, none⟩ (.bool s3)).setCell ⟨w2.heap.size, 2, none⟩ (.slice A3 l3 c3)).setCell ⟨w2.heap.size, 3, none⟩ (.slice B3 k3 d3)).cell? ⟨w.heap.size, 7, none⟩ = some (.slice A2 l2 c2) := hsc.hH.cell 7
  have i_8 : (((((((((w3.alloc (.cells #[.int .i64 i3, .bool s3, .slice A3 l3 c3, .slice B3 k3 d3] 68)).setCell ⟨w1.heap.size, 0, none⟩ (.int .i64 i4)).setCell ⟨w1.heap.size, 1, none⟩ (.bool s4)).setCell ⟨w1.heap.size, 2, none⟩ (.slice A4 l4 c4)).setCell ⟨w1.heap.size, 3, none⟩ (.slice B4 k4 d4)).setCell ⟨w2.heap.size, 0, none⟩ (.int .i64 i3)).setCell ⟨w2.heap.size, 1, none⟩ (.bool s3)).setCell ⟨w2.heap.size, 2, none⟩ (.slice A3 l3 c3)).setCell ⟨w2.heap.size, 3, none⟩ (.slice B3 k3 d3)).cell? ⟨w.heap.size, 8, none⟩ = some (.slice B2 k2 d2) := hsc.hH.cell 8
  have p_0 : (((((((((w3.alloc (.cells #[.int .i64 i3, .bool s3, .slice A3 l3 c3, .slice B3 k3 d3] 68)).setCell ⟨w1.heap.size, 0, none⟩ (.int .i64 i4)).setCell ⟨w1.heap.size, 1, none⟩ (.bool s4)).setCell ⟨w1.heap.size, 2, none⟩ (.slice A4 l4 c4)).setCell ⟨w1.heap.size, 3, none⟩ (.slice B4 k4 d4)).setCell ⟨w2.heap.size, 0, none⟩ (.int .i64 i3)).setCell ⟨w2.heap.size, 1, none⟩ (.bool s3)).setCell ⟨w2.heap.size, 2, none⟩ (.slice A3 l3 c3)).setCell ⟨w2.heap.size, 3, none⟩ (.slice B3 k3 d3)).cell? ⟨w1.heap.size, 0, none⟩ = some (.int .i64 i4) := hsc.hP.cell 0
  have p_1 : (((((((((w3.alloc (.cells #[.int .i64 i3, .bool s3, .slice A3 l3 c3, .slice B3 k3 d3] 68)).setCell ⟨w1.heap.size, 0, none⟩ (.int .i64 i4)).setCell ⟨w1.heap.size, 1, none⟩ (.bool s4)).setCell ⟨w1.heap.size, 2, none⟩ (.slice A4 l4 c4)).setCell ⟨w1.heap.size, 3, none⟩ (.slice B4 k4 d4)).setCell ⟨w2.heap.size, 0, none⟩ (.int .i64 i3)).setCell ⟨w2.heap.size, 1, none⟩ (.bool s3)).setCell ⟨w2.heap.size, 2, none⟩ (.slice A3 l3 c3)).setCell ⟨w2.heap.size, 3, none⟩ (.slice B3 k3 d3)).cell? ⟨w1.heap.size, 1, none⟩ = some (.bool s4) := hsc.hP.cell 1
  have p_2 : (((((((((w3.alloc (.cells #[.int .i64 i3, .bool s3, .slice A3 l3 c3, .slice B3 k3 d3] 68)).setCell ⟨w1.heap.size, 0, none⟩ (.int .i64 i4)).setCell ⟨w1.heap.size, 1, none⟩ (.bool s4)).setCell ⟨w1.heap.size, 2, none⟩ (.slice A4 l4 c4)).setCell ⟨w1.heap.size, 3, none⟩ (.slice B4 k4 d4)).setCell ⟨w2.heap.size, 0, none⟩ (.int .i64 i3)).setCell ⟨w2.heap.size, 1, none⟩ (.bool s3)).setCell ⟨w2.heap.size, 2, none⟩ (.slice A3 l3 c3)).setCell ⟨w2.heap.size, 3, none⟩ (.slice B3 k3 d3)).cell? ⟨w1.heap.size, 2, none⟩ = some (.slice A4 l4 c4) := hsc.hP.cell 2
  have p_3 : (((((((((w3.alloc (.cells #[.int .i64 i3, .bool s3, .slice A3 l3 c3, .slice B3 k3 d3] 68)).setCell ⟨w1.heap.size, 0, none⟩ (.int .i64 i4)).setCell ⟨w1.heap.size, 1, none⟩ (.bool s4)).setCell ⟨w1.heap.size, 2, none⟩ (.slice A4 l4 c4)).setCell ⟨w1.heap.size, 3, none⟩ (.slice B4 k4 d4)).setCell ⟨w2.heap.size, 0, none⟩ (.int .i64 i3)).setCell ⟨w2.heap.size, 1, none⟩ (.bool s3)).setCell ⟨w2.heap.size, 2, none⟩ (.slice A3 l3 c3)).setCell ⟨w2.heap.size, 3, none⟩ (.slice B3 k3 d3)).cell? ⟨w1.heap.size, 3, none⟩ = some (.slice B4 k4 d4) := hsc.hP.cell 3
  have q_0 : (((((((((w3.alloc (.cells #[.int .i64 i3, .bool s3, .slice A3 l3 c3, .slice B3 k3 d3] 68)).setCell ⟨w1.heap.size, 0, none⟩ (.int .i64 i4)).setCell ⟨w1.heap.size, 1, none⟩ (.bool s4)).setCell ⟨w1.heap.size, 2, none⟩ (.slice A4 l4 c4)).setCell ⟨w1.heap.size, 3, none⟩ (.slice B4 k4 d4)).setCell ⟨w2.heap.size, 0, none⟩ (.int .i64 i3)).setCell ⟨w2.heap.size, 1, none⟩ (.bool s3)).setCell ⟨w2.heap.size, 2, none⟩ (.slice A3 l3 c3)).setCell ⟨w2.heap.size, 3, none⟩ (.slice B3 k3 d3)).cell? ⟨w2.heap.size, 0, none⟩ = some (.int .i64 i3) := hsc.hQ.cell 0
  have q_1 : (((((((((w3.alloc (.cells #[.int .i64 i3, .bool s3, .slice A3 l3 c3, .slice B3 k3 d3] 68)).setCell ⟨w1.heap.size, 0, none⟩ (.int .i64 i4)).setCell ⟨w1.heap.size, 1, none⟩ (.bool s4)).setCell ⟨w1.heap.size, 2, none⟩ (.slice A4 l4 c4)).setCell ⟨w1.heap.size, 3, none⟩ (.slice B4 k4 d4)).setCell ⟨w2.heap.size, 0, none⟩ (.int .i64 i3)).setCell ⟨w2.heap.size, 1, none⟩ (.bool s3)).setCell ⟨w2.heap.size, 2, none⟩ (.slice A3 l3 c3)).setCell ⟨w2.heap.size, 3, none⟩ (.slice B3 k3 d3)).cell? ⟨w2.heap.size, 1, none⟩ = some (.bool s3) := hsc.hQ.cell 1
  have q_2 : (((((((((w3.alloc (.cells #[.int .i64 i3, .bool s3, .slice A3 l3 c3, .slice B3 k3 d3] 68)).setCell ⟨w1.heap.size, 0, none⟩ (.int .i64 i4)).setCell ⟨w1.heap.size, 1, none⟩ (.bool s4)).setCell ⟨w1.heap.size, 2, none⟩ (.slice A4 l4 c4)).setCell ⟨w1.heap.size, 3, none⟩ (.slice B4 k4 d4)).setCell ⟨w2.heap.size, 0, none⟩ (.int .i64 i3)).setCell ⟨w2.heap.size, 1, none⟩ (.bool s3)).setCell ⟨w2.heap.size, 2, none⟩ (.slice A3 l3 c3)).setCell ⟨w2.heap.size, 3, none⟩ (.slice B3 k3 d3)).cell? ⟨w2.heap.size, 2, none⟩ = some (.slice A3 l3 c3) := hsc.hQ.cell 2
  have q_3 : (((((((((w3.alloc (.cells #[.int .i64 i3, .bool s3, .slice A3 l3 c3, .slice B3 k3 d3] 68)).setCell ⟨w1.heap.size, 0, none⟩ (.int .i64 i4)).setCell ⟨w1.heap.size, 1, none⟩ (.bool s4)).setCell ⟨w1.heap.size, 2, none⟩ (.slice A4 l4 c4)).setCell ⟨w1.heap.size, 3, none⟩ (.slice B4 k4 d4)).setCell ⟨w2.heap.size, 0, none⟩ (.int .i64 i3)).setCell ⟨w2.heap.size, 1, none⟩ (.bool s3)).setCell ⟨w2.heap.size, 2, none⟩ (.slice A3 l3 c3)).setCell ⟨w2.heap.size, 3, none⟩ (.slice B3 k3 d3)).cell? ⟨w2.heap.size, 3, none⟩ = some (.slice B3 k3 d3) := hsc.hQ.cell 3
  have g_0 : (((((((((w3.alloc (.cells #[.int .i64 i3, .bool s3, .slice A3 l3 c3, .slice B3 k3 d3] 68)).setCell ⟨w1.heap.size, 0, none⟩ (.int .i64 i4)).setCell ⟨w1.heap.size, 1, none⟩ (.bool s4)).setCell ⟨w1.heap.size, 2, none⟩ (.slice A4 l4 c4)).setCell ⟨w1.heap.size, 3, none⟩ (.slice B4 k4 d4)).setCell ⟨w2.heap.size, 0, none⟩ (.int .i64 i3)).setCell ⟨w2.heap.size, 1, none⟩ (.bool s3)).setCell ⟨w2.heap.size, 2, none⟩ (.slice A3 l3 c3)).setCell ⟨w2.heap.size, 3, none⟩ (.slice B3 k3 d3)).cell? ⟨G, 0, none⟩ = some (.bool false) := hsc.hG.cell 0
  have g_1 : (((((((((w3.alloc (.cells #[.int .i64 i3, .bool s3, .slice A3 l3 c3, .slice B3 k3 d3] 68)).setCell ⟨w1.heap.size, 0, none⟩ (.int .i64 i4)).setCell ⟨w1.heap.size, 1, none⟩ (.bool s4)).setCell ⟨w1.heap.size, 2, none⟩ (.slice A4 l4 c4)).setCell ⟨w1.heap.size, 3, none⟩ (.slice B4 k4 d4)).setCell ⟨w2.heap.size, 0, none⟩ (.int .i64 i3)).setCell ⟨w2.heap.size, 1, none⟩ (.bool s3)).setCell ⟨w2.heap.size, 2, none⟩ (.slice A3 l3 c3)).setCell ⟨w2.heap.size, 3, none⟩ (.slice B3 k3 d3)).cell? ⟨G, 1, none⟩ = some (.int .i64 0) := hsc.hG.cell 1
  have g_2 : (((((((((w3.alloc (.cells #[.int .i64 i3, .bool s3, .slice A3 l3 c3, .slice B3 k3 d3] 68)).setCell ⟨w1.heap.size, 0, none⟩ (.int .i64 i4)).setCell ⟨w1.heap.size, 1, none⟩ (.bool s4)).setCell ⟨w1.heap.size, 2, none⟩ (.slice A4 l4 c4)).setCell ⟨w1.heap.size, 3, none⟩ (.slice B4 k4 d4)).setCell ⟨w2.heap.size, 0, none⟩ (.int .i64 i3)).setCell ⟨w2.heap.size, 1, none⟩ (.bool s3)).setCell ⟨w2.heap.size, 2, none⟩ (.slice A3 l3 c3)).setCell ⟨w2.heap.size, 3, none⟩ (.slice B3 k3 d3)).cell? ⟨G, 2, none⟩ = some (.bool false) := hsc.hG.cell 2
  have g_3 : (((((((((w3.alloc (.cells #[.int .i64 i3, .bool s3, .slice A3 l3 c3, .slice B3 k3 d3] 68)).setCell ⟨w1.heap.size, 0, none⟩ (.int .i64 i4)).setCell ⟨w1.heap.size, 1, none⟩ (.bool s4)).setCell ⟨w1.heap.size, 2, none⟩ (.slice A4 l4 c4)).setCell ⟨w1.heap.size, 3, none⟩ (.slice B4 k4 d4)).setCell ⟨w2.heap.size, 0, none⟩ (.int .i64 i3)).setCell ⟨w2.heap.size, 1, none⟩ (.bool s3)).setCell ⟨w2.heap.size, 2, none⟩ (.slice A3 l3 c3)).setCell ⟨w2.heap.size, 3, none⟩ (.slice B3 k3 d3)).cell? ⟨G, 3, none⟩ = some (.slice none 0 0) := hsc.hG.cell 3
  have g_4 : (((((((((w3.alloc (.cells #[.int .i64 i3, .bool s3, .slice A3 l3 c3, .slice B3 k3 d3] 68)).setCell ⟨w1.heap.size, 0, none⟩ (.int .i64 i4)).setCell ⟨w1.heap.size, 1, none⟩ (.bool s4)).setCell ⟨w1.heap.size, 2, none⟩ (.slice A4 l4 c4)).setCell ⟨w1.heap.size, 3, none⟩ (.slice B4 k4 d4)).setCell ⟨w2.heap.size, 0, none⟩ (.int .i64 i3)).setCell ⟨w2.heap.size, 1, none⟩ (.bool s3)).setCell ⟨w2.heap.size, 2, none⟩ (.slice A3 l3 c3)).setCell ⟨w2.heap.size, 3, none⟩ (.slice B3 k3 d3)).cell? ⟨G, 4, none⟩ = some (.slice none 0 0) := hsc.hG.cell 4
  have g_5 : (((((((((w3.alloc (.cells #[.int .i64 i3, .bool s3, .slice A3 l3 c3, .slice B3 k3 d3] 68)).setCell ⟨w1.heap.size, 0, none⟩ (.int .i64 i4)).setCell ⟨w1.heap.size, 1, none⟩ (.bool s4)).setCell ⟨w1.heap.size, 2, none⟩ (.slice A4 l4 c4)).setCell ⟨w1.heap.size, 3, none⟩ (.slice B4 k4 d4)).setCell ⟨w2.heap.size, 0, none⟩ (.int .i64 i3)).setCell ⟨w2.heap.size, 1, none⟩ (.bool s3)).setCell ⟨w2.heap.size, 2, none⟩ (.slice A3 l3 c3)).setCell ⟨w2.heap.size, 3, none⟩ (.slice B3 k3 d3)).cell? ⟨G, 5, none⟩ = some (.int .i64 0) := hsc.hG.cell 5
  have g_6 : (((((((((w3.alloc (.cells #[.int .i64 i3, .bool s3, .slice A3 l3 c3, .slice B3 k3 d3] 68)).setCell ⟨w1.heap.size, 0, none⟩ (.int .i64 i4)).setCell ⟨w1.heap.size, 1, none⟩ (.bool s4)).setCell ⟨w1.heap.size, 2, none⟩ (.slice A4 l4 c4)).setCell ⟨w1.heap.size, 3, none⟩ (.slice B4 k4 d4)).setCell ⟨w2.heap.size, 0, none⟩ (.int .i64 i3)).setCell ⟨w2.heap.size, 1, none⟩ (.bool s3)).setCell ⟨w2.heap.size, 2, none⟩ (.slice A3 l3 c3)).setCell ⟨w2.heap.size, 3, none⟩ (.slice B3 k3 d3)).cell? ⟨G, 6, none⟩ = some (.bool false) := hsc.hG.cell 6
  have g_7 : (((((((((w3.alloc (.cells #[.int .i64 i3, .bool s3, .slice A3 l3 c3, .slice B3 k3 d3] 68)).setCell ⟨w1.heap.size, 0, none⟩ (.int .i64 i4)).setCell ⟨w1.heap.size, 1, none⟩ (.bool s4)).setCell ⟨w1.heap.size, 2, none⟩ (.slice A4 l4 c4)).setCell ⟨w1.heap.size, 3, none⟩ (.slice B4 k4 d4)).setCell ⟨w2.heap.size, 0, none⟩ (.int .i64 i3)).setCell ⟨w2.heap.size, 1, none⟩ (.bool s3)).setCell ⟨w2.heap.size, 2, none⟩ (.slice A3 l3 c3)).setCell ⟨w2.heap.size, 3, none⟩ (.slice B3 k3 d3)).cell? ⟨G, 7, none⟩ = some (.slice none 0 0) := hsc.hG.cell 7
  have g_8 : (((((((((w3.alloc (.cells #[.int .i64 i3, .bool s3, .slice A3 l3 c3, .slice B3 k3 d3] 68)).setCell ⟨w1.heap.size, 0, none⟩ (.int .i64 i4)).setCell ⟨w1.heap.size, 1, none⟩ (.bool s4)).setCell ⟨w1.heap.size, 2, none⟩ (.slice A4 l4 c4)).setCell ⟨w1.heap.size, 3, none⟩ (.slice B4 k4 d4)).setCell ⟨w2.heap.size, 0, none⟩ (.int .i64 i3)).setCell ⟨w2.heap.size, 1, none⟩ (.bool s3)).setCell ⟨w2.heap.size, 2, none⟩ (.slice A3 l3 c3)).setCell ⟨w2.heap.size, 3, none⟩ (.slice B3 k3 d3)).cell? ⟨G, 8, none⟩ = some (.slice none 0 0) := hsc.hG.cell 8
  have fg_0 : (((((((((w3.alloc (.cells #[.int .i64 i3, .bool s3, .slice A3 l3 c3, .slice B3 k3 d3] 68)).setCell ⟨w1.heap.size, 0, none⟩ (.int .i64 i4)).setCell ⟨w1.heap.size, 1, none⟩ (.bool s4)).setCell ⟨w1.heap.size, 2, none⟩ (.slice A4 l4 c4)).setCell ⟨w1.heap.size, 3, none⟩ (.slice B4 k4 d4)).setCell ⟨w2.heap.size, 0, none⟩ (.int .i64 i3)).setCell ⟨w2.heap.size, 1, none⟩ (.bool s3)).setCell ⟨w2.heap.size, 2, none⟩ (.slice A3 l3 c3)).setCell ⟨w2.heap.size, 3, none⟩ (.slice B3 k3 d3)).frozen? ⟨G, 0, none⟩ = false := hsc.hG.frozen 0
  have fg_1 : (((((((((w3.alloc (.cells #[.int .i64 i3, .bool s3, .slice A3 l3 c3, .slice B3 k3 d3] 68)).setCell ⟨w1.heap.size, 0, none⟩ (.int .i64 i4)).setCell ⟨w1.heap.size, 1, none⟩ (.bool s4)).setCell ⟨w1.heap.size, 2, none⟩ (.slice A4 l4 c4)).setCell ⟨w1.heap.size, 3, none⟩ (.slice B4 k4 d4)).setCell ⟨w2.heap.size, 0, none⟩ (.int .i64 i3)).setCell ⟨w2.heap.size, 1, none⟩ (.bool s3)).setCell ⟨w2.heap.size, 2, none⟩ (.slice A3 l3 c3)).setCell ⟨w2.heap.size, 3, none⟩ (.slice B3 k3 d3)).frozen? ⟨G, 1, none⟩ = false := hsc.hG.frozen 1
  have fg_2 : (((((((((w3.alloc (.cells #[.int .i64 i3, .bool s3, .slice A3 l3 c3, .slice B3 k3 d3] 68)).setCell ⟨w1.heap.size, 0, none⟩ (.int .i64 i4)).setCell ⟨w1.heap.size, 1, none⟩ (.bool s4)).setCell ⟨w1.heap.size, 2, none⟩ (.slice A4 l4 c4)).setCell ⟨w1.heap.size, 3, none⟩ (.slice B4 k4 d4)).setCell ⟨w2.heap.size, 0, none⟩ (.int .i64 i3)).setCell ⟨w2.heap.size, 1, none⟩ (.bool s3)).setCell ⟨w2.heap.size, 2, none⟩ (.slice A3 l3 c3)).setCell ⟨w2.heap.size, 3, none⟩ (.slice B3 k3 d3)).frozen? ⟨G, 2, none⟩ = false := hsc.hG.frozen 2
  have fg_3 : (((((((((w3.alloc (.cells #[.int .i64 i3, .bool s3, .slice A3 l3 c3, .slice B3 k3 d3] 68)).setCell ⟨w1.heap.size, 0, none⟩ (.int .i64 i4)).setCell ⟨w1.heap.size, 1, none⟩ (.bool s4)).setCell ⟨w1.heap.size, 2, none⟩ (.slice A4 l4 c4)).setCell ⟨w1.heap.size, 3, none⟩ (.slice B4 k4 d4)).setCell ⟨w2.heap.size, 0, none⟩ (.int .i64 i3)).setCell ⟨w2.heap.size, 1, none⟩ (.bool s3)).setCell ⟨w2.heap.size, 2, none⟩ (.slice A3 l3 c3)).setCell ⟨w2.heap.size, 3, none⟩ (.slice B3 k3 d3)).frozen? ⟨G, 3, none⟩ = false := hsc.hG.frozen 3
  have fg_4 : (((((((((w3.alloc (.cells #[.int .i64 i3, .bool s3, .slice A3 l3 c3, .slice B3 k3 d3] 68)).setCell ⟨w1.heap.size, 0, none⟩ (.int .i64 i4)).setCell ⟨w1.heap.size, 1, none⟩ (.bool s4)).setCell ⟨w1.heap.size, 2, none⟩ (.slice A4 l4 c4)).setCell ⟨w1.heap.size, 3, none⟩ (.slice B4 k4 d4)).setCell ⟨w2.heap.size, 0, none⟩ (.int .i64 i3)).setCell ⟨w2.heap.size, 1, none⟩ (.bool s3)).setCell ⟨w2.heap.size, 2, none⟩ (.slice A3 l3 c3)).setCell ⟨w2.heap.size, 3, none⟩ (.slice B3 k3 d3)).frozen? ⟨G, 4, none⟩ = false := hsc.hG.frozen 4
  have fg_5 : (((((((((w3.alloc (.cells #[.int .i64 i3, .bool s3, .slice A3 l3 c3, .slice B3 k3 d3] 68)).setCell ⟨w1.heap.size, 0, none⟩ (.int .i64 i4)).setCell ⟨w1.heap.size, 1, none⟩ (.bool s4)).setCell ⟨w1.heap.size, 2, none⟩ (.slice A4 l4 c4)).setCell ⟨w1.heap.size, 3, none⟩ (.slice B4 k4 d4)).setCell ⟨w2.heap.size, 0, none⟩ (.int .i64 i3)).setCell ⟨w2.heap.size, 1, none⟩ (.bool s3)).setCell ⟨w2.heap.size, 2, none⟩ (.slice A3 l3 c3)).setCell ⟨w2.heap.size, 3, none⟩ (.slice B3 k3 d3)).frozen? ⟨G, 5, none⟩ = false := hsc.hG.frozen 5
  have fg_6 : (((((((((w3.alloc (.cells #[.int .i64 i3, .bool s3, .slice A3 l3 c3, .slice B3 k3 d3] 68)).setCell ⟨w1.heap.size, 0, none⟩ (.int .i64 i4)).setCell ⟨w1.heap.size, 1, none⟩ (.bool s4)).setCell ⟨w1.heap.size, 2, none⟩ (.slice A4 l4 c4)).setCell ⟨w1.heap.size, 3, none⟩ (.slice B4 k4 d4)).setCell ⟨w2.heap.size, 0, none⟩ (.int .i64 i3)).setCell ⟨w2.heap.size, 1, none⟩ (.bool s3)).setCell ⟨w2.heap.size, 2, none⟩ (.slice A3 l3 c3)).setCell ⟨w2.heap.size, 3, none⟩ (.slice B3 k3 d3)).frozen? ⟨G, 6, none⟩ = false := hsc.hG.frozen 6
  have fg_7 : (((((((((w3.alloc (.cells #[.int .i64 i3, .bool s3, .slice A3 l3 c3, .slice B3 k3 d3] 68)).setCell ⟨w1.heap.size, 0, none⟩ (.int .i64 i4)).setCell ⟨w1.heap.size, 1, none⟩ (.bool s4)).setCell ⟨w1.heap.size, 2, none⟩ (.slice A4 l4 c4)).setCell ⟨w1.heap.size, 3, none⟩ (.slice B4 k4 d4)).setCell ⟨w2.heap.size, 0, none⟩ (.int .i64 i3)).setCell ⟨w2.heap.size, 1, none⟩ (.bool s3)).setCell ⟨w2.heap.size, 2, none⟩ (.slice A3 l3 c3)).setCell ⟨w2.heap.size, 3, none⟩ (.slice B3 k3 d3)).frozen? ⟨G, 7, none⟩ = false := hsc.hG.frozen 7
  have fg_8 : (((((((((w3.alloc (.cells #[.int .i64 i3, .bool s3, .slice A3 l3 c3, .slice B3 k3 d3] 68)).setCell ⟨w1.heap.size, 0, none⟩ (.int .i64 i4)).setCell ⟨w1.heap.size, 1, none⟩ (.bool s4)).setCell ⟨w1.heap.size, 2, none⟩ (.slice A4 l4 c4)).setCell ⟨w1.heap.size, 3, none⟩ (.slice B4 k4 d4)).setCell ⟨w2.heap.size, 0, none⟩ (.int .i64 i3)).setCell ⟨w2.heap.size, 1, none⟩ (.bool s3)).setCell ⟨w2.heap.size, 2, none⟩ (.slice A3 l3 c3)).setCell ⟨w2.heap.size, 3, none⟩ (.slice B3 k3 d3)).frozen? ⟨G, 8, none⟩ = false := hsc.hG.frozen 8
  have fp_0 : (((((((((w3.alloc (.cells #[.int .i64 i3, .bool s3, .slice A3 l3 c3, .slice B3 k3 d3] 68)).setCell ⟨w1.heap.size, 0, none⟩ (.int .i64 i4)).setCell ⟨w1.heap.size, 1, none⟩ (.bool s4)).setCell ⟨w1.heap.size, 2, none⟩ (.slice A4 l4 c4)).setCell ⟨w1.heap.size, 3, none⟩ (.slice B4 k4 d4)).setCell ⟨w2.heap.size, 0, none⟩ (.int .i64 i3)).setCell ⟨w2.heap.size, 1, none⟩ (.bool s3)).setCell ⟨w2.heap.size, 2, none⟩ (.slice A3 l3 c3)).setCell ⟨w2.heap.size, 3, none⟩ (.slice B3 k3 d3)).frozen? ⟨w1.heap.size, 0, none⟩ = false := hsc.hP.frozen 0
  have fp_1 : (((((((((w3.alloc (.cells #[.int .i64 i3, .bool s3, .slice A3 l3 c3, .slice B3 k3 d3] 68)).setCell ⟨w1.heap.size, 0, none⟩ (.int .i64 i4)).setCell ⟨w1.heap.size, 1, none⟩ (.bool s4)).setCell ⟨w1.heap.size, 2, none⟩ (.slice A4 l4 c4)).setCell ⟨w1.heap.size, 3, none⟩ (.slice B4 k4 d4)).setCell ⟨w2.heap.size, 0, none⟩ (.int .i64 i3)).setCell ⟨w2.heap.size, 1, none⟩ (.bool s3)).setCell ⟨w2.heap.size, 2, none⟩ (.slice A3 l3 c3)).setCell ⟨w2.heap.size, 3, none⟩ (.slice B3 k3 d3)).frozen? ⟨w1.heap.size, 1, none⟩ = false := hsc.hP.frozen 1
  have fp_2 : (((((((((w3.alloc (.cells #[.int .i64 i3, .bool s3, .slice A3 l3 c3, .slice B3 k3 d3] 68)).setCell ⟨w1.heap.size, 0, none⟩ (.int .i64 i4)).setCell ⟨w1.heap.size, 1, none⟩ (.bool s4)).setCell ⟨w1.heap.size, 2, none⟩ (.slice A4 l4 c4)).setCell ⟨w1.heap.size, 3, none⟩ (.slice B4 k4 d4)).setCell ⟨w2.heap.size, 0, none⟩ (.int .i64 i3)).setCell ⟨w2.heap.size, 1, none⟩ (.bool s3)).setCell ⟨w2.heap.size, 2, none⟩ (.slice A3 l3 c3)).setCell ⟨w2.heap.size, 3, none⟩ (.slice B3 k3 d3)).frozen? ⟨w1.heap.size, 2, none⟩ = false := hsc.hP.frozen 2
  have fp_3 : (((((((((w3.alloc (.cells #[.int .i64 i3, .bool s3, .slice A3 l3 c3, .slice B3 k3 d3] 68)).setCell ⟨w1.heap.size, 0, none⟩ (.int .i64 i4)).setCell ⟨w1.heap.size, 1, none⟩ (.bool s4)).setCell ⟨w1.heap.size, 2, none⟩ (.slice A4 l4 c4)).setCell ⟨w1.heap.size, 3, none⟩ (.slice B4 k4 d4)).setCell ⟨w2.heap.size, 0, none⟩ (.int .i64 i3)).setCell ⟨w2.heap.size, 1, none⟩ (.bool s3)).setCell ⟨w2.heap.size, 2, none⟩ (.slice A3 l3 c3)).setCell ⟨w2.heap.size, 3, none⟩ (.slice B3 k3 d3)).frozen? ⟨w1.heap.size, 3, none⟩ = false := hsc.hP.frozen 3
  have fq_0 : (((((((((w3.alloc (.cells #[.int .i64 i3, .bool s3, .slice A3 l3 c3, .slice B3 k3 d3] 68)).setCell ⟨w1.heap.size, 0, none⟩ (.int .i64 i4)).setCell ⟨w1.heap.size, 1, none⟩ (.bool s4)).setCell ⟨w1.heap.size, 2, none⟩ (.slice A4 l4 c4)).setCell ⟨w1.heap.size, 3, none⟩ (.slice B4 k4 d4)).setCell ⟨w2.heap.size, 0, none⟩ (.int .i64 i3)).setCell ⟨w2.heap.size, 1, none⟩ (.bool s3)).setCell ⟨w2.heap.size, 2, none⟩ (.slice A3 l3 c3)).setCell ⟨w2.heap.size, 3, none⟩ (.slice B3 k3 d3)).frozen? ⟨w2.heap.size, 0, none⟩ = false := hsc.hQ.frozen 0
  have fq_1 : (((((((((w3.alloc (.cells #[.int .i64 i3, .bool s3, .slice A3 l3 c3, .slice B3 k3 d3] 68)).setCell ⟨w1.heap.size, 0, none⟩ (.int .i64 i4)).setCell ⟨w1.heap.size, 1, none⟩ (.bool s4)).setCell ⟨w1.heap.size, 2, none⟩ (.slice A4 l4 c4)).setCell ⟨w1.heap.size, 3, none⟩ (.slice B4 k4 d4)).setCell ⟨w2.heap.size, 0, none⟩ (.int .i64 i3)).setCell ⟨w2.heap.size, 1, none⟩ (.bool s3)).setCell ⟨w2.heap.size, 2, none⟩ (.slice A3 l3 c3)).setCell ⟨w2.heap.size, 3, none⟩ (.slice B3 k3 d3)).frozen? ⟨w2.heap.size, 1, none⟩ = false := hsc.hQ.frozen 1
  have fq_2 : (((((((((w3.alloc (.cells #[.int .i64 i3, .bool s3, .slice A3 l3 c3, .slice B3 k3 d3] 68)).setCell ⟨w1.heap.size, 0, none⟩ (.int .i64 i4)).setCell ⟨w1.heap.size, 1, none⟩ (.bool s4)).setCell ⟨w1.heap.size, 2, none⟩ (.slice A4 l4 c4)).setCell ⟨w1.heap.size, 3, none⟩ (.slice B4 k4 d4)).setCell ⟨w2.heap.size, 0, none⟩ (.int .i64 i3)).setCell ⟨w2.heap.size, 1, none⟩ (.bool s3)).setCell ⟨w2.heap.size, 2, none⟩ (.slice A3 l3 c3)).setCell ⟨w2.heap.size, 3, none⟩ (.slice B3 k3 d3)).frozen? ⟨w2.heap.size, 2, none⟩ = false := hsc.hQ.frozen 2
  have fq_3 : (((((((((w3.alloc (.cells #[.int .i64 i3, .bool s3, .slice A3 l3 c3, .slice B3 k3 d3] 68)).setCell ⟨w1.heap.size, 0, none⟩ (.int .i64 i4)).setCell ⟨w1.heap.size, 1, none⟩ (.bool s4)).setCell ⟨w1.heap.size, 2, none⟩ (.slice A4 l4 c4)).setCell ⟨w1.heap.size, 3, none⟩ (.slice B4 k4 d4)).setCell ⟨w2.heap.size, 0, none⟩ (.int .i64 i3)).setCell ⟨w2.heap.size, 1, none⟩ (.bool s3)).setCell ⟨w2.heap.size, 2, none⟩ (.slice A3 l3 c3)).setCell ⟨w2.heap.size, 3, none⟩ (.slice B3 k3 d3)).frozen? ⟨w2.heap.size, 3, none⟩ = false := hsc.hQ.frozen 3
  have lG : G < (((((((((w3.alloc (.cells #[.int .i64 i3, .bool s3, .slice A3 l3 c3, .slice B3 k3 d3] 68)).setCell ⟨w1.heap.size, 0, none⟩ (.int .i64 i4)).setCell ⟨w1.heap.size, 1, none⟩ (.bool s4)).setCell ⟨w1.heap.size, 2, none⟩ (.slice A4 l4 c4)).setCell ⟨w1.heap.size, 3, none⟩ (.slice B4 k4 d4)).setCell ⟨w2.heap.size, 0, none⟩ (.int .i64 i3)).setCell ⟨w2.heap.size, 1, none⟩ (.bool s3)).setCell ⟨w2.heap.size, 2, none⟩ (.slice A3 l3 c3)).setCell ⟨w2.heap.size, 3, none⟩ (.slice B3 k3 d3)).heap.size := hsc.hG.lt
  have lP : w1.heap.size < (((((((((w3.alloc (.cells #[.int .i64 i3, .bool s3, .slice A3 l3 c3, .slice B3 k3 d3] 68)).setCell ⟨w1.heap.size, 0, none⟩ (.int .i64 i4)).setCell ⟨w1.heap.size, 1, none⟩ (.bool s4)).setCell ⟨w1.heap.size, 2, none⟩ (.slice A4 l4 c4)).setCell ⟨w1.heap.size, 3, none⟩ (.slice B4 k4 d4)).setCell ⟨w2.heap.size, 0, none⟩ (.int .i64 i3)).setCell ⟨w2.heap.size, 1, none⟩ (.bool s3)).setCell ⟨w2.heap.size, 2, none⟩ (.slice A3 l3 c3)).setCell ⟨w2.heap.size, 3, none⟩ (.slice B3 k3 d3)).heap.size := hsc.hP.lt
  have lQ : w2.heap.size < (((((((((w3.alloc (.cells #[.int .i64 i3, .bool s3, .slice A3 l3 c3, .slice B3 k3 d3] 68)).setCell ⟨w1.heap.size, 0, none⟩ (.int .i64 i4)).setCell ⟨w1.heap.size, 1, none⟩ (.bool s4)).setCell ⟨w1.heap.size, 2, none⟩ (.slice A4 l4 c4)).setCell ⟨w1.heap.size, 3, none⟩ (.slice B4 k4 d4)).setCell ⟨w2.heap.size, 0, none⟩ (.int .i64 i3)).setCell ⟨w2.heap.size, 1, none⟩ (.bool s3)).setCell ⟨w2.heap.size, 2, none⟩ (.slice A3 l3 c3)).setCell ⟨w2.heap.size, 3, none⟩ (.slice B3 k3 d3)).heap.size := hsc.hQ.lt
  go_wp2_with fail
  clear w3p_0 w3q_0 w3pp_0 fap_0 w3r_0 w3bq_0 fbq_0 w3p_1 w3q_1 w3pp_1 fap_1 w3r_1 w3bq_1 fbq_1 w3p_2 w3q_2 w3pp_2 fap_2 w3r_2 w3bq_2 fbq_2 w3p_3 w3q_3 w3pp_3 fap_3 w3r_3 w3bq_3 fbq_3 lap lbq hnp
  clear i_0 i_1 i_2 i_3 i_4 i_5 i_6 i_7 i_8 p_0 p_1 p_2 p_3 q_0 q_1 q_2 q_3 g_0 g_1 g_2 g_3 g_4 g_5 g_6 g_7 g_8 fg_0 fg_1 fg_2 fg_3 fg_4 fg_5 fg_6 fg_7 fg_8 fp_0 fp_1 fp_2 fp_3 fq_0 fq_1 fq_2 fq_3 lG lP lQ
  refine (HSA.out _ hsc.r1).mono ?_
  rintro e w5 ⟨rfl, hE5⟩
  have hst5 := hsc.ext hE5
  clear hsc hE5
  have i_0 : (w5).cell? ⟨w.heap.size, 0, none⟩ = some (.bool false) := hst5.hH.cell 0
  have i_1 : (w5).cell? ⟨w.heap.size, 1, none⟩ = some (.int .i64 i1) := hst5.hH.cell 1
  have i_2 : (w5).cell? ⟨w.heap.size, 2, none⟩ = some (.bool s1) := hst5.hH.cell 2
  have i_3 : (w5).cell? ⟨w.heap.size, 3, none⟩ = some (.slice A1 l1 c1) := hst5.hH.cell 3
  have i_4 : (w5).cell? ⟨w.heap.size, 4, none⟩ = some (.slice B1 k1 d1) := hst5.hH.cell 4
  have i_5 : (w5).cell? ⟨w.heap.size, 5, none⟩ = some (.int .i64 i2) := hst5.hH.cell 5
  have i_6 : (w5).cell? ⟨w.heap.size, 6, none⟩ = some (.bool s2) := hst5.hH.cell 6
  have i_7 : (w5).cell? ⟨w.heap.size, 7, none⟩ = some (.slice A2 l2 c2) := hst5.hH.cell 7
  have i_8 : (w5).cell? ⟨w.heap.size, 8, none⟩ = some (.slice B2 k2 d2) := hst5.hH.cell 8
  have p_0 : (w5).cell? ⟨w1.heap.size, 0, none⟩ = some (.int .i64 i4) := hst5.hP.cell 0
  have p_1 : (w5).cell? ⟨w1.heap.size, 1, none⟩ = some (.bool s4) := hst5.hP.cell 1
  have p_2 : (w5).cell? ⟨w1.heap.size, 2, none⟩ = some (.slice A4 l4 c4) := hst5.hP.cell 2
  have p_3 : (w5).cell? ⟨w1.heap.size, 3, none⟩ = some (.slice B4 k4 d4) := hst5.hP.cell 3
  have q_0 : (w5).cell? ⟨w2.heap.size, 0, none⟩ = some (.int .i64 i3) := hst5.hQ.cell 0
  have q_1 : (w5).cell? ⟨w2.heap.size, 1, none⟩ = some (.bool s3) := hst5.hQ.cell 1
  have q_2 : (w5).cell? ⟨w2.heap.size, 2, none⟩ = some (.slice A3 l3 c3) := hst5.hQ.cell 2
  have q_3 : (w5).cell? ⟨w2.heap.size, 3, none⟩ = some (.slice B3 k3 d3) := hst5.hQ.cell 3
  have g_0 : (w5).cell? ⟨G, 0, none⟩ = some (.bool false) := hst5.hG.cell 0
  have g_1 : (w5).cell? ⟨G, 1, none⟩ = some (.int .i64 0) := hst5.hG.cell 1
  have g_2 : (w5).cell? ⟨G, 2, none⟩ = some (.bool false) := hst5.hG.cell 2
  have g_3 : (w5).cell? ⟨G, 3, none⟩ = some (.slice none 0 0) := hst5.hG.cell 3
  have g_4 : (w5).cell? ⟨G, 4, none⟩ = some (.slice none 0 0) := hst5.hG.cell 4
  have g_5 : (w5).cell? ⟨G, 5, none⟩ = some (.int .i64 0) := hst5.hG.cell 5
  have g_6 : (w5).cell? ⟨G, 6, none⟩ = some (.bool false) := hst5.hG.cell 6
  have g_7 : (w5).cell? ⟨G, 7, none⟩ = some (.slice none 0 0) := hst5.hG.cell 7
  have g_8 : (w5).cell? ⟨G, 8, none⟩ = some (.slice none 0 0) := hst5.hG.cell 8
  have fg_0 : (w5).frozen? ⟨G, 0, none⟩ = false := hst5.hG.frozen 0
  have fg_1 : (w5).frozen? ⟨G, 1, none⟩ = false := hst5.hG.frozen 1
  have fg_2 : (w5).frozen? ⟨G, 2, none⟩ = false := hst5.hG.frozen 2
  have fg_3 : (w5).frozen? ⟨G, 3, none⟩ = false := hst5.hG.frozen 3
  have fg_4 : (w5).frozen? ⟨G, 4, none⟩ = false := hst5.hG.frozen 4
  have fg_5 : (w5).frozen? ⟨G, 5, none⟩ = false := hst5.hG.frozen 5
  have fg_6 : (w5).frozen? ⟨G, 6, none⟩ = false := hst5.hG.frozen 6
  have fg_7 : (w5).frozen? ⟨G, 7, none⟩ = false := hst5.hG.frozen 7
  have fg_8 : (w5).frozen? ⟨G, 8, none⟩ = false := hst5.hG.frozen 8
  have fp_0 : (w5).frozen? ⟨w1.heap.size, 0, none⟩ = false := hst5.hP.frozen 0
  have fp_1 : (w5).frozen? ⟨w1.heap.size, 1, none⟩ = false := hst5.hP.frozen 1
  have fp_2 : (w5).frozen? ⟨w1.heap.size, 2, none⟩ = false := hst5.hP.frozen 2
  have fp_3 : (w5).frozen? ⟨w1.heap.size, 3, none⟩ = false := hst5.hP.frozen 3
  have fq_0 : (w5).frozen? ⟨w2.heap.size, 0, none⟩ = false := hst5.hQ.frozen 0
  have fq_1 : (w5).frozen? ⟨w2.heap.size, 1, none⟩ = false := hst5.hQ.frozen 1
  have fq_2 : (w5).frozen? ⟨w2.heap.size, 2, none⟩ = false := hst5.hQ.frozen 2
  have fq_3 : (w5).frozen? ⟨w2.heap.size, 3, none⟩ = false := hst5.hQ.frozen 3
  have lG : G < (w5).heap.size := hst5.hG.lt
  have lP : w1.heap.size < (w5).heap.size := hst5.hP.lt
  have lQ : w2.heap.size < (w5).heap.size := hst5.hQ.lt
  go_wp2_with fail
  clear i_0 i_1 i_2 i_3 i_4 i_5 i_6 i_7 i_8 p_0 p_1 p_2 p_3 q_0 q_1 q_2 q_3 g_0 g_1 g_2 g_3 g_4 g_5 g_6 g_7 g_8 fg_0 fg_1 fg_2 fg_3 fg_4 fg_5 fg_6 fg_7 fg_8 fp_0 fp_1 fp_2 fp_3 fq_0 fq_1 fq_2 fq_3 lG lP lQ
  refine (HSB.out _ hst5.r2).mono ?_
  rintro e w6 ⟨rfl, hE6⟩
  have hst6 := hst5.ext hE6
  clear hst5 hE6
  have i_0 : (w6).cell? ⟨w.heap.size, 0, none⟩ = some (.bool false) := hst6.hH.cell 0
  have i_1 : (w6).cell? ⟨w.heap.size, 1, none⟩ = some (.int .i64 i1) := hst6.hH.cell 1
  have i_2 : (w6).cell? ⟨w.heap.size, 2, none⟩ = some (.bool s1) := hst6.hH.cell 2
  have i_3 : (w6).cell? ⟨w.heap.size, 3, none⟩ = some (.slice A1 l1 c1) := hst6.hH.cell 3
  have i_4 : (w6).cell? ⟨w.heap.size, 4, none⟩ = some (.slice B1 k1 d1) := hst6.hH.cell 4
  have i_5 : (w6).cell? ⟨w.heap.size, 5, none⟩ = some (.int .i64 i2) := hst6.hH.cell 5
  have i_6 : (w6).cell? ⟨w.heap.size, 6, none⟩ = some (.bool s2) := hst6.hH.cell 6
  have i_7 : (w6).cell? ⟨w.heap.size, 7, none⟩ = some (.slice A2 l2 c2) := hst6.hH.cell 7
  have i_8 : (w6).cell? ⟨w.heap.size, 8, none⟩ = some (.slice B2 k2 d2) := hst6.hH.cell 8
  have p_0 : (w6).cell? ⟨w1.heap.size, 0, none⟩ = some (.int .i64 i4) := hst6.hP.cell 0
  have p_1 : (w6).cell? ⟨w1.heap.size, 1, none⟩ = some (.bool s4) := hst6.hP.cell 1
  have p_2 : (w6).cell? ⟨w1.heap.size, 2, none⟩ = some (.slice A4 l4 c4) := hst6.hP.cell 2
  have p_3 : (w6).cell? ⟨w1.heap.size, 3, none⟩ = some (.slice B4 k4 d4) := hst6.hP.cell 3
  have q_0 : (w6).cell? ⟨w2.heap.size, 0, none⟩ = some (.int .i64 i3) := hst6.hQ.cell 0
  have q_1 : (w6).cell? ⟨w2.heap.size, 1, none⟩ = some (.bool s3) := hst6.hQ.cell 1
  have q_2 : (w6).cell? ⟨w2.heap.size, 2, none⟩ = some (.slice A3 l3 c3) := hst6.hQ.cell 2
  have q_3 : (w6).cell? ⟨w2.heap.size, 3, none⟩ = some (.slice B3 k3 d3) := hst6.hQ.cell 3
  have g_0 : (w6).cell? ⟨G, 0, none⟩ = some (.bool false) := hst6.hG.cell 0
  have g_1 : (w6).cell? ⟨G, 1, none⟩ = some (.int .i64 0) := hst6.hG.cell 1
  have g_2 : (w6).cell? ⟨G, 2, none⟩ = some (.bool false) := hst6.hG.cell 2
  have g_3 : (w6).cell? ⟨G, 3, none⟩ = some (.slice none 0 0) := hst6.hG.cell 3
  have g_4 : (w6).cell? ⟨G, 4, none⟩ = some (.slice none 0 0) := hst6.hG.cell 4
  have g_5 : (w6).cell? ⟨G, 5, none⟩ = some (.int .i64 0) := hst6.hG.cell 5
  have g_6 : (w6).cell? ⟨G, 6, none⟩ = some (.bool false) := hst6.hG.cell 6
  have g_7 : (w6).cell? ⟨G, 7, none⟩ = some (.slice none 0 0) := hst6.hG.cell 7
  have g_8 : (w6).cell? ⟨G, 8, none⟩ = some (.slice none 0 0) := hst6.hG.cell 8
  have fg_0 : (w6).frozen? ⟨G, 0, none⟩ = false := hst6.hG.frozen 0
  have fg_1 : (w6).frozen? ⟨G, 1, none⟩ = false := hst6.hG.frozen 1
  have fg_2 : (w6).frozen? ⟨G, 2, none⟩ = false := hst6.hG.frozen 2
  have fg_3 : (w6).frozen? ⟨G, 3, none⟩ = false := hst6.hG.frozen 3
  have fg_4 : (w6).frozen? ⟨G, 4, none⟩ = false := hst6.hG.frozen 4
  have fg_5 : (w6).frozen? ⟨G, 5, none⟩ = false := hst6.hG.frozen 5
  have fg_6 : (w6).frozen? ⟨G, 6, none⟩ = false := hst6.hG.frozen 6
  have fg_7 : (w6).frozen? ⟨G, 7, none⟩ = false := hst6.hG.frozen 7
  have fg_8 : (w6).frozen? ⟨G, 8, none⟩ = false := hst6.hG.frozen 8
  have fp_0 : (w6).frozen? ⟨w1.heap.size, 0, none⟩ = false := hst6.hP.frozen 0
  have fp_1 : (w6).frozen? ⟨w1.heap.size, 1, none⟩ = false := hst6.hP.frozen 1
  have fp_2 : (w6).frozen? ⟨w1.heap.size, 2, none⟩ = false := hst6.hP.frozen 2
  have fp_3 : (w6).frozen? ⟨w1.heap.size, 3, none⟩ = false := hst6.hP.frozen 3
  have fq_0 : (w6).frozen? ⟨w2.heap.size, 0, none⟩ = false := hst6.hQ.frozen 0
  have fq_1 : (w6).frozen? ⟨w2.heap.size, 1, none⟩ = false := hst6.hQ.frozen 1
  have fq_2 : (w6).frozen? ⟨w2.heap.size, 2, none⟩ = false := hst6.hQ.frozen 2
  have fq_3 : (w6).frozen? ⟨w2.heap.size, 3, none⟩ = false := hst6.hQ.frozen 3
  have lG : G < (w6).heap.size := hst6.hG.lt
  have lP : w1.heap.size < (w6).heap.size := hst6.hP.lt
  have lQ : w2.heap.size < (w6).heap.size := hst6.hQ.lt
  go_wp2_with fail
  clear i_0 i_1 i_2 i_3 i_4 i_5 i_6 i_7 i_8 p_0 p_1 p_2 p_3 q_0 q_1 q_2 q_3 g_0 g_1 g_2 g_3 g_4 g_5 g_6 g_7 g_8 fg_0 fg_1 fg_2 fg_3 fg_4 fg_5 fg_6 fg_7 fg_8 fp_0 fp_1 fp_2 fp_3 fq_0 fq_1 fq_2 fq_3 lG lP lQ
  refine (HF.out _).mono ?_
  rintro e w7 ⟨A5, l5, c5, B5, k5, d5, rfl, h5, hE7⟩
  have hst7 := hst6.ext hE7
  have hst8 := hst7.setP h5 (i5 := 0) (s5 := false)
  have w7p_0 : w7.cell? ⟨w1.heap.size, 0, none⟩ = some (.int .i64 i4) := hst7.hP.cell 0
  have w7p_1 : w7.cell? ⟨w1.heap.size, 1, none⟩ = some (.bool s4) := hst7.hP.cell 1
  have w7p_2 : w7.cell? ⟨w1.heap.size, 2, none⟩ = some (.slice A4 l4 c4) := hst7.hP.cell 2
  have w7p_3 : w7.cell? ⟨w1.heap.size, 3, none⟩ = some (.slice B4 k4 d4) := hst7.hP.cell 3
  have f7p_0 : w7.frozen? ⟨w1.heap.size, 0, none⟩ = false := hst7.hP.frozen 0
  have f7p_1 : w7.frozen? ⟨w1.heap.size, 1, none⟩ = false := hst7.hP.frozen 1
  have f7p_2 : w7.frozen? ⟨w1.heap.size, 2, none⟩ = false := hst7.hP.frozen 2
  have f7p_3 : w7.frozen? ⟨w1.heap.size, 3, none⟩ = false := hst7.hP.frozen 3
  have l7p : w1.heap.size < w7.heap.size := hst7.hP.lt
  clear hst6 hE7 hst7 h5
  have i_0 : (((((w7).setCell ⟨w1.heap.size, 0, none⟩ (.int .i64 0)).setCell ⟨w1.heap.size, 1, none⟩ (.bool false)).setCell ⟨w1.heap.size, 2, none⟩ (.slice A5 l5 c5)).setCell ⟨w1.heap.size, 3, none⟩ (.slice B5 k5 d5)).cell? ⟨w.heap.size, 0, none⟩ = some (.bool false) := hst8.hH.cell 0
  have i_1 : (((((w7).setCell ⟨w1.heap.size, 0, none⟩ (.int .i64 0)).setCell ⟨w1.heap.size, 1, none⟩ (.bool false)).setCell ⟨w1.heap.size, 2, none⟩ (.slice A5 l5 c5)).setCell ⟨w1.heap.size, 3, none⟩ (.slice B5 k5 d5)).cell? ⟨w.heap.size, 1, none⟩ = some (.int .i64 i1) := hst8.hH.cell 1
  have i_2 : (((((w7).setCell ⟨w1.heap.size, 0, none⟩ (.int .i64 0)).setCell ⟨w1.heap.size, 1, none⟩ (.bool false)).setCell ⟨w1.heap.size, 2, none⟩ (.slice A5 l5 c5)).setCell ⟨w1.heap.size, 3, none⟩ (.slice B5 k5 d5)).cell? ⟨w.heap.size, 2, none⟩ = some (.bool s1) := hst8.hH.cell 2
  have i_3 : (((((w7).setCell ⟨w1.heap.size, 0, none⟩ (.int .i64 0)).setCell ⟨w1.heap.size, 1, none⟩ (.bool false)).setCell ⟨w1.heap.size, 2, none⟩ (.slice A5 l5 c5)).setCell ⟨w1.heap.size, 3, none⟩ (.slice B5 k5 d5)).cell? ⟨w.heap.size, 3, none⟩ = some (.slice A1 l1 c1) := hst8.hH.cell 3
  have i_4 : (((((w7).setCell ⟨w1.heap.size, 0, none⟩ (.int .i64 0)).setCell ⟨w1.heap.size, 1, none⟩ (.bool false)).setCell ⟨w1.heap.size, 2, none⟩ (.slice A5 l5 c5)).setCell ⟨w1.heap.size, 3, none⟩ (.slice B5 k5 d5)).cell? ⟨w.heap.size, 4, none⟩ = some (.slice B1 k1 d1) := hst8.hH.cell 4
  have i_5 : (((((w7).setCell ⟨w1.heap.size, 0, none⟩ (.int .i64 0)).setCell ⟨w1.heap.size, 1, none⟩ (.bool false)).setCell ⟨w1.heap.size, 2, none⟩ (.slice A5 l5 c5)).setCell ⟨w1.heap.size, 3, none⟩ (.slice B5 k5 d5)).cell? ⟨w.heap.size, 5, none⟩ = some (.int .i64 i2) := hst8.hH.cell 5
  have i_6 : (((((w7).setCell ⟨w1.heap.size, 0, none⟩ (.int .i64 0)).setCell ⟨w1.heap.size, 1, none⟩ (.bool false)).setCell ⟨w1.heap.size, 2, none⟩ (.slice A5 l5 c5)).setCell ⟨w1.heap.size, 3, none⟩ (.slice B5 k5 d5)).cell? ⟨w.heap.size, 6, none⟩ = some (.bool s2) := hst8.hH.cell 6
  have i_7 : (((((w7).setCell ⟨w1.heap.size, 0, none⟩ (.int .i64 0)).setCell ⟨w1.heap.size, 1, none⟩ (.bool false)).setCell ⟨w1.heap.size, 2, none⟩ (.slice A5 l5 c5)).setCell ⟨w1.heap.size, 3, none⟩ (.slice B5 k5 d5)).cell? ⟨w.heap.size, 7, none⟩ = some (.slice A2 l2 c2) := hst8.hH.cell 7
  have i_8 : (((((w7).setCell ⟨w1.heap.size, 0, none⟩ (.int .i64 0)).setCell ⟨w1.heap.size, 1, none⟩ (.bool false)).setCell ⟨w1.heap.size, 2, none⟩ (.slice A5 l5 c5)).setCell ⟨w1.heap.size, 3, none⟩ (.slice B5 k5 d5)).cell? ⟨w.heap.size, 8, none⟩ = some (.slice B2 k2 d2) := hst8.hH.cell 8
  have p_0 : (((((w7).setCell ⟨w1.heap.size, 0, none⟩ (.int .i64 0)).setCell ⟨w1.heap.size, 1, none⟩ (.bool false)).setCell ⟨w1.heap.size, 2, none⟩ (.slice A5 l5 c5)).setCell ⟨w1.heap.size, 3, none⟩ (.slice B5 k5 d5)).cell? ⟨w1.heap.size, 0, none⟩ = some (.int .i64 0) := hst8.hP.cell 0
  have p_1 : (((((w7).setCell ⟨w1.heap.size, 0, none⟩ (.int .i64 0)).setCell ⟨w1.heap.size, 1, none⟩ (.bool false)).setCell ⟨w1.heap.size, 2, none⟩ (.slice A5 l5 c5)).setCell ⟨w1.heap.size, 3, none⟩ (.slice B5 k5 d5)).cell? ⟨w1.heap.size, 1, none⟩ = some (.bool false) := hst8.hP.cell 1
  have p_2 : (((((w7).setCell ⟨w1.heap.size, 0, none⟩ (.int .i64 0)).setCell ⟨w1.heap.size, 1, none⟩ (.bool false)).setCell ⟨w1.heap.size, 2, none⟩ (.slice A5 l5 c5)).setCell ⟨w1.heap.size, 3, none⟩ (.slice B5 k5 d5)).cell? ⟨w1.heap.size, 2, none⟩ = some (.slice A5 l5 c5) := hst8.hP.cell 2
  have p_3 : (((((w7).setCell ⟨w1.heap.size, 0, none⟩ (.int .i64 0)).setCell ⟨w1.heap.size, 1, none⟩ (.bool false)).setCell ⟨w1.heap.size, 2, none⟩ (.slice A5 l5 c5)).setCell ⟨w1.heap.size, 3, none⟩ (.slice B5 k5 d5)).cell? ⟨w1.heap.size, 3, none⟩ = some (.slice B5 k5 d5) := hst8.hP.cell 3
  have q_0 : (((((w7).setCell ⟨w1.heap.size, 0, none⟩ (.int .i64 0)).setCell ⟨w1.heap.size, 1, none⟩ (.bool false)).setCell ⟨w1.heap.size, 2, none⟩ (.slice A5 l5 c5)).setCell ⟨w1.heap.size, 3, none⟩ (.slice B5 k5 d5)).cell? ⟨w2.heap.size, 0, none⟩ = some (.int .i64 i3) := hst8.hQ.cell 0
  have q_1 : (((((w7).setCell ⟨w1.heap.size, 0, none⟩ (.int .i64 0)).setCell ⟨w1.heap.size, 1, none⟩ (.bool false)).setCell ⟨w1.heap.size, 2, none⟩ (.slice A5 l5 c5)).setCell ⟨w1.heap.size, 3, none⟩ (.slice B5 k5 d5)).cell? ⟨w2.heap.size, 1, none⟩ = some (.bool s3) := hst8.hQ.cell 1
  have q_2 : (((((w7).setCell ⟨w1.heap.size, 0, none⟩ (.int .i64 0)).setCell ⟨w1.heap.size, 1, none⟩ (.bool false)).setCell ⟨w1.heap.size, 2, none⟩ (.slice A5 l5 c5)).setCell ⟨w1.heap.size, 3, none⟩ (.slice B5 k5 d5)).cell? ⟨w2.heap.size, 2, none⟩ = some (.slice A3 l3 c3) := hst8.hQ.cell 2
  have q_3 : (((((w7).setCell ⟨w1.heap.size, 0, none⟩ (.int .i64 0)).setCell ⟨w1.heap.size, 1, none⟩ (.bool false)).setCell ⟨w1.heap.size, 2, none⟩ (.slice A5 l5 c5)).setCell ⟨w1.heap.size, 3, none⟩ (.slice B5 k5 d5)).cell? ⟨w2.heap.size, 3, none⟩ = some (.slice B3 k3 d3) := hst8.hQ.cell 3
  have g_0 : (((((w7).setCell ⟨w1.heap.size, 0, none⟩ (.int .i64 0)).setCell ⟨w1.heap.size, 1, none⟩ (.bool false)).setCell ⟨w1.heap.size, 2, none⟩ (.slice A5 l5 c5)).setCell ⟨w1.heap.size, 3, none⟩ (.slice B5 k5 d5)).cell? ⟨G, 0, none⟩ = some (.bool false) := hst8.hG.cell 0
  have g_1 : (((((w7).setCell ⟨w1.heap.size, 0, none⟩ (.int .i64 0)).setCell ⟨w1.heap.size, 1, none⟩ (.bool false)).setCell ⟨w1.heap.size, 2, none⟩ (.slice A5 l5 c5)).setCell ⟨w1.heap.size, 3, none⟩ (.slice B5 k5 d5)).cell? ⟨G, 1, none⟩ = some (.int .i64 0) := hst8.hG.cell 1
  have g_2 : (((((w7).setCell ⟨w1.heap.size, 0, none⟩ (.int .i64 0)).setCell ⟨w1.heap.size, 1, none⟩ (.bool false)).setCell ⟨w1.heap.size, 2, none⟩ (.slice A5 l5 c5)).setCell ⟨w1.heap.size, 3, none⟩ (.slice B5 k5 d5)).cell? ⟨G, 2, none⟩ = some (.bool false) := hst8.hG.cell 2
  have g_3 : (((((w7).setCell ⟨w1.heap.size, 0, none⟩ (.int .i64 0)).setCell ⟨w1.heap.size, 1, none⟩ (.bool false)).setCell ⟨w1.heap.size, 2, none⟩ (.slice A5 l5 c5)).setCell ⟨w1.heap.size, 3, none⟩ (.slice B5 k5 d5)).cell? ⟨G, 3, none⟩ = some (.slice none 0 0) := hst8.hG.cell 3
  have g_4 : (((((w7).setCell ⟨w1.heap.size, 0, none⟩ (.int .i64 0)).setCell ⟨w1.heap.size, 1, none⟩ (.bool false)).setCell ⟨w1.heap.size, 2, none⟩ (.slice A5 l5 c5)).setCell ⟨w1.heap.size, 3, none⟩ (.slice B5 k5 d5)).cell? ⟨G, 4, none⟩ = some (.slice none 0 0) := hst8.hG.cell 4
  have g_5 : (((((w7).setCell ⟨w1.heap.size, 0, none⟩ (.int .i64 0)).setCell ⟨w1.heap.size, 1, none⟩ (.bool false)).setCell ⟨w1.heap.size, 2, none⟩ (.slice A5 l5 c5)).setCell ⟨w1.heap.size, 3, none⟩ (.slice B5 k5 d5)).cell? ⟨G, 5, none⟩ = some (.int .i64 0) := hst8.hG.cell 5
  have g_6 : (((((w7).setCell ⟨w1.heap.size, 0, none⟩ (.int .i64 0)).setCell ⟨w1.heap.size, 1, none⟩ (.bool false)).setCell ⟨w1.heap.size, 2, none⟩ (.slice A5 l5 c5)).setCell ⟨w1.heap.size, 3, none⟩ (.slice B5 k5 d5)).cell? ⟨G, 6, none⟩ = some (.bool false) := hst8.hG.cell 6
  have g_7 : (((((w7).setCell ⟨w1.heap.size, 0, none⟩ (.int .i64 0)).setCell ⟨w1.heap.size, 1, none⟩ (.bool false)).setCell ⟨w1.heap.size, 2, none⟩ (.slice A5 l5 c5)).setCell ⟨w1.heap.size, 3, none⟩ (.slice B5 k5 d5)).cell? ⟨G, 7, none⟩ = some (.slice none 0 0) := hst8.hG.cell 7
  have g_8 : (((((w7).setCell ⟨w1.heap.size, 0, none⟩ (.int .i64 0)).setCell ⟨w1.heap.size, 1, none⟩ (.bool false)).setCell ⟨w1.heap.size, 2, none⟩ (.slice A5 l5 c5)).setCell ⟨w1.heap.size, 3, none⟩ (.slice B5 k5 d5)).cell? ⟨G, 8, none⟩ = some (.slice none 0 0) := hst8.hG.cell 8
  have fg_0 : (((((w7).setCell ⟨w1.heap.size, 0, none⟩ (.int .i64 0)).setCell ⟨w1.heap.size, 1, none⟩ (.bool false)).setCell ⟨w1.heap.size, 2, none⟩ (.slice A5 l5 c5)).setCell ⟨w1.heap.size, 3, none⟩ (.slice B5 k5 d5)).frozen? ⟨G, 0, none⟩ = false := hst8.hG.frozen 0
  have fg_1 : (((((w7).setCell ⟨w1.heap.size, 0, none⟩ (.int .i64 0)).setCell ⟨w1.heap.size, 1, none⟩ (.bool false)).setCell ⟨w1.heap.size, 2, none⟩ (.slice A5 l5 c5)).setCell ⟨w1.heap.size, 3, none⟩ (.slice B5 k5 d5)).frozen? ⟨G, 1, none⟩ = false := hst8.hG.frozen 1
  have fg_2 : (((((w7).setCell ⟨w1.heap.size, 0, none⟩ (.int .i64 0)).setCell ⟨w1.heap.size, 1, none⟩ (.bool false)).setCell ⟨w1.heap.size, 2, none⟩ (.slice A5 l5 c5)).setCell ⟨w1.heap.size, 3, none⟩ (.slice B5 k5 d5)).frozen? ⟨G, 2, none⟩ = false := hst8.hG.frozen 2
  have fg_3 : (((((w7).setCell ⟨w1.heap.size, 0, none⟩ (.int .i64 0)).setCell ⟨w1.heap.size, 1, none⟩ (.bool false)).setCell ⟨w1.heap.size, 2, none⟩ (.slice A5 l5 c5)).setCell ⟨w1.heap.size, 3, none⟩ (.slice B5 k5 d5)).frozen? ⟨G, 3, none⟩ = false := hst8.hG.frozen 3
  have fg_4 : (((((w7).setCell ⟨w1.heap.size, 0, none⟩ (.int .i64 0)).setCell ⟨w1.heap.size, 1, none⟩ (.bool false)).setCell ⟨w1.heap.size, 2, none⟩ (.slice A5 l5 c5)).setCell ⟨w1.heap.size, 3, none⟩ (.slice B5 k5 d5)).frozen? ⟨G, 4, none⟩ = false := hst8.hG.frozen 4
  have fg_5 : (((((w7).setCell ⟨w1.heap.size, 0, none⟩ (.int .i64 0)).setCell ⟨w1.heap.size, 1, none⟩ (.bool false)).setCell ⟨w1.heap.size, 2, none⟩ (.slice A5 l5 c5)).setCell ⟨w1.heap.size, 3, none⟩ (.slice B5 k5 d5)).frozen? ⟨G, 5, none⟩ = false := hst8.hG.frozen 5
  have fg_6 : (((((w7).setCell ⟨w1.heap.size, 0, none⟩ (.int .i64 0)).setCell ⟨w1.heap.size, 1, none⟩ (.bool false)).setCell ⟨w1.heap.size, 2, none⟩ (.slice A5 l5 c5)).setCell ⟨w1.heap.size, 3, none⟩ (.slice B5 k5 d5)).frozen? ⟨G, 6, none⟩ = false := hst8.hG.frozen 6
  have fg_7 : (((((w7).setCell ⟨w1.heap.size, 0, none⟩ (.int .i64 0)).setCell ⟨w1.heap.size, 1, none⟩ (.bool false)).setCell ⟨w1.heap.size, 2, none⟩ (.slice A5 l5 c5)).setCell ⟨w1.heap.size, 3, none⟩ (.slice B5 k5 d5)).frozen? ⟨G, 7, none⟩ = false := hst8.hG.frozen 7
  have fg_8 : (((((w7).setCell ⟨w1.heap.size, 0, none⟩ (.int .i64 0)).setCell ⟨w1.heap.size, 1, none⟩ (.bool false)).setCell ⟨w1.heap.size, 2, none⟩ (.slice A5 l5 c5)).setCell ⟨w1.heap.size, 3, none⟩ (.slice B5 k5 d5)).frozen? ⟨G, 8, none⟩ = false := hst8.hG.frozen 8
  have fp_0 : (((((w7).setCell ⟨w1.heap.size, 0, none⟩ (.int .i64 0)).setCell ⟨w1.heap.size, 1, none⟩ (.bool false)).setCell ⟨w1.heap.size, 2, none⟩ (.slice A5 l5 c5)).setCell ⟨w1.heap.size, 3, none⟩ (.slice B5 k5 d5)).frozen? ⟨w1.heap.size, 0, none⟩ = false := hst8.hP.frozen 0
  have fp_1 : (((((w7).setCell ⟨w1.heap.size, 0, none⟩ (.int .i64 0)).setCell ⟨w1.heap.size, 1, none⟩ (.bool false)).setCell ⟨w1.heap.size, 2, none⟩ (.slice A5 l5 c5)).setCell ⟨w1.heap.size, 3, none⟩ (.slice B5 k5 d5)).frozen? ⟨w1.heap.size, 1, none⟩ = false := hst8.hP.frozen 1
  have fp_2 : (((((w7).setCell ⟨w1.heap.size, 0, none⟩ (.int .i64 0)).setCell ⟨w1.heap.size, 1, none⟩ (.bool false)).setCell ⟨w1.heap.size, 2, none⟩ (.slice A5 l5 c5)).setCell ⟨w1.heap.size, 3, none⟩ (.slice B5 k5 d5)).frozen? ⟨w1.heap.size, 2, none⟩ = false := hst8.hP.frozen 2
  have fp_3 : (((((w7).setCell ⟨w1.heap.size, 0, none⟩ (.int .i64 0)).setCell ⟨w1.heap.size, 1, none⟩ (.bool false)).setCell ⟨w1.heap.size, 2, none⟩ (.slice A5 l5 c5)).setCell ⟨w1.heap.size, 3, none⟩ (.slice B5 k5 d5)).frozen? ⟨w1.heap.size, 3, none⟩ = false := hst8.hP.frozen 3
  have fq_0 : (((((w7).setCell ⟨w1.heap.size, 0, none⟩ (.int .i64 0)).setCell ⟨w1.heap.size, 1, none⟩ (.bool false)).setCell ⟨w1.heap.size, 2, none⟩ (.slice A5 l5 c5)).setCell ⟨w1.heap.size, 3, none⟩ (.slice B5 k5 d5)).frozen? ⟨w2.heap.size, 0, none⟩ = false := hst8.hQ.frozen 0
  have fq_1 : (((((w7).setCell ⟨w1.heap.size, 0, none⟩ (.int .i64 0)).setCell ⟨w1.heap.size, 1, none⟩ (.bool false)).setCell ⟨w1.heap.size, 2, none⟩ (.slice A5 l5 c5)).setCell ⟨w1.heap.size, 3, none⟩ (.slice B5 k5 d5)).frozen? ⟨w2.heap.size, 1, none⟩ = false := hst8.hQ.frozen 1
  have fq_2 : (((((w7).setCell ⟨w1.heap.size, 0, none⟩ (.int .i64 0)).setCell ⟨w1.heap.size, 1, none⟩ (.bool false)).setCell ⟨w1.heap.size, 2, none⟩ (.slice A5 l5 c5)).setCell ⟨w1.heap.size, 3, none⟩ (.slice B5 k5 d5)).frozen? ⟨w2.heap.size, 2, none⟩ = false := hst8.hQ.frozen 2
  have fq_3 : (((((w7).setCell ⟨w1.heap.size, 0, none⟩ (.int .i64 0)).setCell ⟨w1.heap.size, 1, none⟩ (.bool false)).setCell ⟨w1.heap.size, 2, none⟩ (.slice A5 l5 c5)).setCell ⟨w1.heap.size, 3, none⟩ (.slice B5 k5 d5)).frozen? ⟨w2.heap.size, 3, none⟩ = false := hst8.hQ.frozen 3
  have lG : G < (((((w7).setCell ⟨w1.heap.size, 0, none⟩ (.int .i64 0)).setCell ⟨w1.heap.size, 1, none⟩ (.bool false)).setCell ⟨w1.heap.size, 2, none⟩ (.slice A5 l5 c5)).setCell ⟨w1.heap.size, 3, none⟩ (.slice B5 k5 d5)).heap.size := hst8.hG.lt
  have lP : w1.heap.size < (((((w7).setCell ⟨w1.heap.size, 0, none⟩ (.int .i64 0)).setCell ⟨w1.heap.size, 1, none⟩ (.bool false)).setCell ⟨w1.heap.size, 2, none⟩ (.slice A5 l5 c5)).setCell ⟨w1.heap.size, 3, none⟩ (.slice B5 k5 d5)).heap.size := hst8.hP.lt
  have lQ : w2.heap.size < (((((w7).setCell ⟨w1.heap.size, 0, none⟩ (.int .i64 0)).setCell ⟨w1.heap.size, 1, none⟩ (.bool false)).setCell ⟨w1.heap.size, 2, none⟩ (.slice A5 l5 c5)).setCell ⟨w1.heap.size, 3, none⟩ (.slice B5 k5 d5)).heap.size := hst8.hQ.lt
  go_wp2_with fail
  exact bodyPost_ret (v := .agg #[.bool false, .int .i64 0, .bool false, .slice A5 l5 c5, .slice B5 k5 d5, .int .i64 i3, .bool s3, .slice A3 l3 c3, .slice B3 k3 d3]) (by simp [results, Try.results64, go_sem, lG, g_0, g_1, g_2, g_3, g_4, g_5, g_6, g_7, g_8]) rfl
    ⟨_, _, _, _, _, _, _, _, _, _, _, _, rfl, (RatBox.mk hst8.r3 hst8.hG (NoU.of rfl)).set9 rfl rfl rfl rfl rfl rfl rfl rfl rfl, (RatBox.mk hst8.r4 hst8.hG (NoU.of rfl)).set9 rfl rfl rfl rfl rfl rfl rfl rfl rfl, hst8.ex.set9 hGw _ _ _ _ _ _ _ _ _⟩


theorem cmpI_lt {a b : Int} : decide (0 < cmpI a b) = decide (b < a) := by
  refine decide_eq_decide.2 ?_
  unfold cmpI; repeat' split
  all_goals omega
theorem cmpI_le {a b : Int} : decide (cmpI a b ≤ 0) = decide (a ≤ b) := by
  refine decide_eq_decide.2 ?_
  unfold cmpI; repeat' split
  all_goals omega
theorem cmpI_ge {a b : Int} : decide (0 ≤ cmpI a b) = decide (b ≤ a) := by
  refine decide_eq_decide.2 ?_
  unfold cmpI; repeat' split
  all_goals omega
/-- The ends of the magnitudes between two patterns. -/
def szHi (p q : Nat) : Nat := if key (mx q) < key (mx p) then mx p else mx q
def szLo (p q : Nat) : Nat := if key p ≤ 0 ∧ 0 ≤ key q then 0 else if key (mx q) < key (mx p) then mx q else mx p

theorem size_full (p q : Nat) (A1 : Option Addr) (l1 c1 : Nat) (B1 : Option Addr) (k1 d1 : Nat) (A2 : Option Addr) (l2 c2 : Nat) (B2 : Option Addr) (k2 d2 : Nat) (w : World)
    (hp : p < 18446744073709551616) (hq : q < 18446744073709551616) (np : isNaN p = false) (nq : isNaN q = false) (h1 : RatAt w A1 l1 c1 B1 k1 d1 (bN p) (bD p)) (h2 : RatAt w A2 l2 c2 B2 k2 d2 (bN q) (bD q)) :
    Calls Try.prog 64 #[.agg #[.bool false, .int .i64 (bI p), .bool (bNeg p), .slice A1 l1 c1, .slice B1 k1 d1, .int .i64 (bI q), .bool (bNeg q), .slice A2 l2 c2, .slice B2 k2 d2]] w
      (RetSet false (bI (szLo p q)) (bNeg (szLo p q)) (bN (szLo p q)) (bD (szLo p q)) (bI (szHi p q)) (bNeg (szHi p q)) (bN (szHi p q)) (bD (szHi p q)) w) := by
  have HM1 := Lib.hid (fun w h => magn_any p A1 l1 c1 B1 k1 d1 w hp np h)
  have HM2 := Lib.hid (fun w h => magn_any q A2 l2 c2 B2 k2 d2 w hq nq h)
  have hP := mx_lt hp
  have hQ := mx_lt hq
  have nP := mx_nan np
  have nQ := mx_nan nq
  have HC := Lib.hid (fun A3 l3 c3 B3 k3 d3 A4 l4 c4 B4 k4 d4 w h3 h4 => cmp6_any (bI (mx p)) (bNeg (mx p)) A3 l3 c3 B3 k3 d3 (bN (mx p)) (bD (mx p)) (bI (mx q)) (bNeg (mx q)) A4 l4 c4 B4 k4 d4 (bN (mx q)) (bD (mx q)) w h3 h4 (bN_sz _) (bD_sz _) (bN_sz _) (bD_sz _) (bD_ne _) (bD_ne _))
  have HSA := Lib.hid (fun w h => sign6_any (bI p) (bNeg p) A1 l1 c1 B1 k1 d1 (bN p) (bD p) w h (bN_sz p))
  have HSB := Lib.hid (fun w h => sign6_any (bI q) (bNeg q) A2 l2 c2 B2 k2 d2 (bN q) (bD q) w h (bN_sz q))
  rw [eC_bits hP hQ nP nQ] at HC
  rw [eS_bits hp np] at HSA
  rw [eS_bits hq nq] at HSB
  have HF : Hid (∀ w, Calls Try.prog 92 #[.int .i64 0] w (RetEnd 0 false (fracN 0 1 0) (fracD 0 1 0) w)) := Lib.hid (fun w => finite_any 0 w (by omega))
  have eHi : szHi p q = if key (mx q) < key (mx p) then mx p else mx q := rfl
  have eLo : szLo p q = if key p ≤ 0 ∧ 0 ≤ key q then 0 else if key (mx q) < key (mx p) then mx q else mx p := rfl
  obtain ⟨b1, b2, b3, b4⟩ := b_zero
  by_cases g1 : key (mx q) < key (mx p)
  · have x1 : decide (0 < cmpI (key (mx p)) (key (mx q))) = true := by rw [cmpI_lt]; exact decide_eq_true g1
    rw [eHi, if_pos g1]
    by_cases g2 : key p ≤ 0
    · have x2 : decide (cmpI (key p) 0 ≤ 0) = true := by rw [cmpI_le]; exact decide_eq_true g2
      by_cases g3 : 0 ≤ key q
      · have x3 : decide (0 ≤ cmpI (key q) 0) = true := by rw [cmpI_ge]; exact decide_eq_true g3
        rw [eLo, if_pos ⟨g2, g3⟩, b1, b2, b3, b4]
        exact size_yc _ _ _ _ _ _ _ _ _ _ _ _ _ _ _ _ _ _ _ _ _ _ _ _ _ _ _ _ _ _ _ _ _ _ h1 h2 HM1 HM2 HC HSA HSB HF x1 x2 x3
      · have x3 : decide (0 ≤ cmpI (key q) 0) = false := by rw [cmpI_ge]; exact decide_eq_false g3
        rw [eLo, if_neg (fun h => g3 h.2), if_pos g1]
        exact size_yb _ _ _ _ _ _ _ _ _ _ _ _ _ _ _ _ _ _ _ _ _ _ _ _ _ _ _ _ _ _ _ _ _ _ h1 h2 HM1 HM2 HC HSA HSB HF x1 x2 x3
    · have x2 : decide (cmpI (key p) 0 ≤ 0) = false := by rw [cmpI_le]; exact decide_eq_false g2
      rw [eLo, if_neg (fun h => g2 h.1), if_pos g1]
      exact size_ya _ _ _ _ _ _ _ _ _ _ _ _ _ _ _ _ _ _ _ _ _ _ _ _ _ _ _ _ _ _ _ _ _ _ h1 h2 HM1 HM2 HC HSA HSB HF x1 x2
  · have x1 : decide (0 < cmpI (key (mx p)) (key (mx q))) = false := by rw [cmpI_lt]; exact decide_eq_false g1
    rw [eHi, if_neg g1]
    by_cases g2 : key p ≤ 0
    · have x2 : decide (cmpI (key p) 0 ≤ 0) = true := by rw [cmpI_le]; exact decide_eq_true g2
      by_cases g3 : 0 ≤ key q
      · have x3 : decide (0 ≤ cmpI (key q) 0) = true := by rw [cmpI_ge]; exact decide_eq_true g3
        rw [eLo, if_pos ⟨g2, g3⟩, b1, b2, b3, b4]
        exact size_nc _ _ _ _ _ _ _ _ _ _ _ _ _ _ _ _ _ _ _ _ _ _ _ _ _ _ _ _ _ _ _ _ _ _ h1 h2 HM1 HM2 HC HSA HSB HF x1 x2 x3
      · have x3 : decide (0 ≤ cmpI (key q) 0) = false := by rw [cmpI_ge]; exact decide_eq_false g3
        rw [eLo, if_neg (fun h => g3 h.2), if_neg g1]
        exact size_nb _ _ _ _ _ _ _ _ _ _ _ _ _ _ _ _ _ _ _ _ _ _ _ _ _ _ _ _ _ _ _ _ _ _ h1 h2 HM1 HM2 HC HSA HSB HF x1 x2 x3
    · have x2 : decide (cmpI (key p) 0 ≤ 0) = false := by rw [cmpI_le]; exact decide_eq_false g2
      rw [eLo, if_neg (fun h => g2 h.1), if_neg g1]
      exact size_na _ _ _ _ _ _ _ _ _ _ _ _ _ _ _ _ _ _ _ _ _ _ _ _ _ _ _ _ _ _ _ _ _ _ h1 h2 HM1 HM2 HC HSA HSB HF x1 x2

set_option maxHeartbeats 2000000 in
theorem size_none (i1 : Int) (s1 : Bool) (A1 : Option Addr) (l1 c1 : Nat) (B1 : Option Addr) (k1 d1 N1 D1 : Nat) (i2 : Int) (s2 : Bool) (A2 : Option Addr) (l2 c2 : Nat) (B2 : Option Addr) (k2 d2 N2 D2 : Nat) (w : World) (h1 : RatAt w A1 l1 c1 B1 k1 d1 N1 D1) (h2 : RatAt w A2 l2 c2 B2 k2 d2 N2 D2) :
    Calls Try.prog 64 #[.agg #[.bool true, .int .i64 i1, .bool s1, .slice A1 l1 c1, .slice B1 k1 d1, .int .i64 i2, .bool s2, .slice A2 l2 c2, .slice B2 k2 d2]] w (RetSet true i1 s1 N1 D1 i2 s2 N2 D2 w) := by
  go_enter Try.func64, Try.ntmps64
  go_wp2_with fail
  have hE : Ext w ((w.alloc (.cells #[.bool true, .int .i64 i1, .bool s1, .slice A1 l1 c1, .slice B1 k1 d1, .int .i64 i2, .bool s2, .slice A2 l2 c2, .slice B2 k2 d2] 70)).alloc (.cells #[.bool true, .int .i64 i1, .bool s1, .slice A1 l1 c1, .slice B1 k1 d1, .int .i64 i2, .bool s2, .slice A2 l2 c2, .slice B2 k2 d2] 70)) := ((Ext.refl w).alloc _).alloc _
  exact bodyPost_ret (v := .agg #[.bool true, .int .i64 i1, .bool s1, .slice A1 l1 c1, .slice B1 k1 d1, .int .i64 i2, .bool s2, .slice A2 l2 c2, .slice B2 k2 d2]) (by simp [results, Try.results64, go_sem]) rfl ⟨_, _, _, _, _, _, _, _, _, _, _, _, rfl, h1.ext hE, h2.ext hE, hE⟩

end Go.Proofs.Ytcimfccjcikemaa
