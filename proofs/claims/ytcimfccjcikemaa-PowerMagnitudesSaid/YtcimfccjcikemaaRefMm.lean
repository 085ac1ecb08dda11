/-
  The contracts of chapter 7's document: Max; both against the patterns. Conditions: those that each theorem names.
-/
import Derived.Test.YtcimfccjcikemaaRefMl
namespace Go.Proofs.Ytcimfccjcikemaa
open Go.RowKit Nm Rn
set_option maxRecDepth 100000
set_option linter.unusedVariables false
set_option linter.unusedSimpArgs false

set_option maxHeartbeats 4000000 in
theorem max7_e1 (x1 x2 y1 y2 : Nat) (f2 : Bool) (i1 : Int) (s1 : Bool) (N1 D1 : Nat) (i2 : Int) (s2 : Bool) (N2 D2 : Nat) (i3 : Int) (s3 : Bool) (N3 D3 : Nat) (i4 : Int) (s4 : Bool) (N4 D4 : Nat) (v1 v2 : Int) (r1 r2 : Nat) (w : World)
    (HO1 : Hid (∀ w, Calls Try.prog 63 #[.agg #[.int .u64 (x1 : Int), .int .u64 (x2 : Int)]] w (RetSet true i1 s1 N1 D1 i2 s2 N2 D2 w)))
    (HO2 : Hid (∀ w, Calls Try.prog 63 #[.agg #[.int .u64 (y1 : Int), .int .u64 (y2 : Int)]] w (RetSet f2 i3 s3 N3 D3 i4 s4 N4 D4 w)))
    (HEM : Hid (∀ w, Calls Try.prog 24 #[] w (RetI r1 r2 w))) :
    Calls Try.prog 36 #[.agg #[.int .u64 (x1 : Int), .int .u64 (x2 : Int)], .agg #[.int .u64 (y1 : Int), .int .u64 (y2 : Int)]] w (RetI r1 r2 w) := by
  have hb2 : Blk (((w.alloc (.cells #[.int .u64 (x1 : Int), .int .u64 (x2 : Int)] 24)).alloc (.cells #[.int .u64 (y1 : Int), .int .u64 (y2 : Int)] 24)).alloc (.cells #[.int .u64 0, .int .u64 0] 24)) (w.heap.size + 1) 24 #[.int .u64 (y1 : Int), .int .u64 (y2 : Int)] := (Blk.next w (.cells #[.int .u64 (x1 : Int), .int .u64 (x2 : Int)] 24) 24 #[.int .u64 (y1 : Int), .int .u64 (y2 : Int)]).ext ((Ext.refl _).alloc _)
  have hbG : Blk (((w.alloc (.cells #[.int .u64 (x1 : Int), .int .u64 (x2 : Int)] 24)).alloc (.cells #[.int .u64 (y1 : Int), .int .u64 (y2 : Int)] 24)).alloc (.cells #[.int .u64 0, .int .u64 0] 24)) (w.heap.size + 1 + 1) 24 #[.int .u64 0, .int .u64 0] := by
    have := Blk.next (w.alloc (.cells #[.int .u64 (x1 : Int), .int .u64 (x2 : Int)] 24)) (.cells #[.int .u64 (y1 : Int), .int .u64 (y2 : Int)] 24) 24 #[.int .u64 0, .int .u64 0]
    rwa [show (w.alloc (.cells #[.int .u64 (x1 : Int), .int .u64 (x2 : Int)] 24)).heap.size = w.heap.size + 1 by simp] at this
  have hEw : Ext w (((w.alloc (.cells #[.int .u64 (x1 : Int), .int .u64 (x2 : Int)] 24)).alloc (.cells #[.int .u64 (y1 : Int), .int .u64 (y2 : Int)] 24)).alloc (.cells #[.int .u64 0, .int .u64 0] 24)) := (((Ext.refl w).alloc _).alloc _).alloc _
  go_enter Try.func36, Try.ntmps36
  go_wp2_with fail
  refine (HO1.out _).mono ?_
  rintro e w1 ⟨A1, l1, c1, B1, k1, d1, A2, l2, c2, B2, k2, d2, rfl, h1, h2, hE1⟩
  obtain ⟨G, hG⟩ : ∃ G, G = w.heap.size + 1 + 1 := ⟨_, rfl⟩
  rw [show w.heap.size + 2 = G by omega]
  rw [← hG] at hbG
  have hGw : w.heap.size ≤ G := by omega
  have hE1' : Ext w1 (w1.alloc (.cells #[.bool true, .int .i64 i1, .bool s1, .slice A1 l1 c1, .slice B1 k1 d1, .int .i64 i2, .bool s2, .slice A2 l2 c2, .slice B2 k2 d2] 70)) := (Ext.refl w1).alloc _
  have hlt2 : G < w1.heap.size := by have a := hbG.lt; have b := hE1.size; omega
  have hlt3 : w.heap.size ≤ w1.heap.size := by omega
  have hb21 := (hb2.ext hE1).ext hE1'
  have hbG1 := (hbG.ext hE1).ext hE1'
  have hbS := Blk.new w1 70 #[.bool true, .int .i64 i1, .bool s1, .slice A1 l1 c1, .slice B1 k1 d1, .int .i64 i2, .bool s2, .slice A2 l2 c2, .slice B2 k2 d2]
  have h11 := h1.ext hE1'
  have h21 := h2.ext hE1'
  have hEw1 := (hEw.trans hE1).trans hE1'
  clear hb2 hbG h1 h2 hE1 hE1' hEw hG
  have j_0 : (w1.alloc (.cells #[.bool true, .int .i64 i1, .bool s1, .slice A1 l1 c1, .slice B1 k1 d1, .int .i64 i2, .bool s2, .slice A2 l2 c2, .slice B2 k2 d2] 70)).cell? ⟨w.heap.size + 1, 0, none⟩ = some (.int .u64 (y1 : Int)) := hb21.cell 0
  have j_1 : (w1.alloc (.cells #[.bool true, .int .i64 i1, .bool s1, .slice A1 l1 c1, .slice B1 k1 d1, .int .i64 i2, .bool s2, .slice A2 l2 c2, .slice B2 k2 d2] 70)).cell? ⟨w.heap.size + 1, 1, none⟩ = some (.int .u64 (y2 : Int)) := hb21.cell 1
  go_wp2_with fail
  clear j_0 j_1
  refine (HO2.out _).mono ?_
  rintro e w2 ⟨A3, l3, c3, B3, k3, d3, A4, l4, c4, B4, k4, d4, rfl, h3, h4, hE2⟩
  have hE2' : Ext (w1.alloc (.cells #[.bool true, .int .i64 i1, .bool s1, .slice A1 l1 c1, .slice B1 k1 d1, .int .i64 i2, .bool s2, .slice A2 l2 c2, .slice B2 k2 d2] 70)) (w2.alloc (.cells #[.bool f2, .int .i64 i3, .bool s3, .slice A3 l3 c3, .slice B3 k3 d3, .int .i64 i4, .bool s4, .slice A4 l4 c4, .slice B4 k4 d4] 70)) := hE2.alloc _
  have hst : MM G w1.heap.size w2.heap.size true f2 i1 s1 A1 l1 c1 B1 k1 d1 N1 D1 i2 s2 A2 l2 c2 B2 k2 d2 N2 D2 i3 s3 A3 l3 c3 B3 k3 d3 N3 D3 i4 s4 A4 l4 c4 B4 k4 d4 N4 D4 w (w2.alloc (.cells #[.bool f2, .int .i64 i3, .bool s3, .slice A3 l3 c3, .slice B3 k3 d3, .int .i64 i4, .bool s4, .slice A4 l4 c4, .slice B4 k4 d4] 70)) :=
    ⟨hbG1.ext hE2', hbS.ext hE2', Blk.new w2 _ _, h11.ext hE2', h21.ext hE2', h3.ext ((Ext.refl w2).alloc _), h4.ext ((Ext.refl w2).alloc _), hEw1.trans hE2', hlt3, hlt2, by have a := hbS.lt; have b := hE2.size; omega⟩
  clear hb21 hbG1 hbS h11 h21 hEw1 h3 h4 hE2 hE2' hlt2 hlt3
  have s_0 : (w2.alloc (.cells #[.bool f2, .int .i64 i3, .bool s3, .slice A3 l3 c3, .slice B3 k3 d3, .int .i64 i4, .bool s4, .slice A4 l4 c4, .slice B4 k4 d4] 70)).cell? ⟨w1.heap.size, 0, none⟩ = some (.bool true) := hst.hS.cell 0
  have s_1 : (w2.alloc (.cells #[.bool f2, .int .i64 i3, .bool s3, .slice A3 l3 c3, .slice B3 k3 d3, .int .i64 i4, .bool s4, .slice A4 l4 c4, .slice B4 k4 d4] 70)).cell? ⟨w1.heap.size, 1, none⟩ = some (.int .i64 i1) := hst.hS.cell 1
  have s_2 : (w2.alloc (.cells #[.bool f2, .int .i64 i3, .bool s3, .slice A3 l3 c3, .slice B3 k3 d3, .int .i64 i4, .bool s4, .slice A4 l4 c4, .slice B4 k4 d4] 70)).cell? ⟨w1.heap.size, 2, none⟩ = some (.bool s1) := hst.hS.cell 2
  have s_3 : (w2.alloc (.cells #[.bool f2, .int .i64 i3, .bool s3, .slice A3 l3 c3, .slice B3 k3 d3, .int .i64 i4, .bool s4, .slice A4 l4 c4, .slice B4 k4 d4] 70)).cell? ⟨w1.heap.size, 3, none⟩ = some (.slice A1 l1 c1) := hst.hS.cell 3
  have s_4 : (w2.alloc (.cells #[.bool f2, .int .i64 i3, .bool s3, .slice A3 l3 c3, .slice B3 k3 d3, .int .i64 i4, .bool s4, .slice A4 l4 c4, .slice B4 k4 d4] 70)).cell? ⟨w1.heap.size, 4, none⟩ = some (.slice B1 k1 d1) := hst.hS.cell 4
  have s_5 : (w2.alloc (.cells #[.bool f2, .int .i64 i3, .bool s3, .slice A3 l3 c3, .slice B3 k3 d3, .int .i64 i4, .bool s4, .slice A4 l4 c4, .slice B4 k4 d4] 70)).cell? ⟨w1.heap.size, 5, none⟩ = some (.int .i64 i2) := hst.hS.cell 5
  have s_6 : (w2.alloc (.cells #[.bool f2, .int .i64 i3, .bool s3, .slice A3 l3 c3, .slice B3 k3 d3, .int .i64 i4, .bool s4, .slice A4 l4 c4, .slice B4 k4 d4] 70)).cell? ⟨w1.heap.size, 6, none⟩ = some (.bool s2) := hst.hS.cell 6
  have s_7 : (w2.alloc (.cells #[.bool f2, .int .i64 i3, .bool s3, .slice A3 l3 c3, .slice B3 k3 d3, .int .i64 i4, .bool s4, .slice A4 l4 c4, .slice B4 k4 d4] 70)).cell? ⟨w1.heap.size, 7, none⟩ = some (.slice A2 l2 c2) := hst.hS.cell 7
  have s_8 : (w2.alloc (.cells #[.bool f2, .int .i64 i3, .bool s3, .slice A3 l3 c3, .slice B3 k3 d3, .int .i64 i4, .bool s4, .slice A4 l4 c4, .slice B4 k4 d4] 70)).cell? ⟨w1.heap.size, 8, none⟩ = some (.slice B2 k2 d2) := hst.hS.cell 8
  have t_0 : (w2.alloc (.cells #[.bool f2, .int .i64 i3, .bool s3, .slice A3 l3 c3, .slice B3 k3 d3, .int .i64 i4, .bool s4, .slice A4 l4 c4, .slice B4 k4 d4] 70)).cell? ⟨w2.heap.size, 0, none⟩ = some (.bool f2) := hst.hT.cell 0
  have t_1 : (w2.alloc (.cells #[.bool f2, .int .i64 i3, .bool s3, .slice A3 l3 c3, .slice B3 k3 d3, .int .i64 i4, .bool s4, .slice A4 l4 c4, .slice B4 k4 d4] 70)).cell? ⟨w2.heap.size, 1, none⟩ = some (.int .i64 i3) := hst.hT.cell 1
  have t_2 : (w2.alloc (.cells #[.bool f2, .int .i64 i3, .bool s3, .slice A3 l3 c3, .slice B3 k3 d3, .int .i64 i4, .bool s4, .slice A4 l4 c4, .slice B4 k4 d4] 70)).cell? ⟨w2.heap.size, 2, none⟩ = some (.bool s3) := hst.hT.cell 2
  have t_3 : (w2.alloc (.cells #[.bool f2, .int .i64 i3, .bool s3, .slice A3 l3 c3, .slice B3 k3 d3, .int .i64 i4, .bool s4, .slice A4 l4 c4, .slice B4 k4 d4] 70)).cell? ⟨w2.heap.size, 3, none⟩ = some (.slice A3 l3 c3) := hst.hT.cell 3
  have t_4 : (w2.alloc (.cells #[.bool f2, .int .i64 i3, .bool s3, .slice A3 l3 c3, .slice B3 k3 d3, .int .i64 i4, .bool s4, .slice A4 l4 c4, .slice B4 k4 d4] 70)).cell? ⟨w2.heap.size, 4, none⟩ = some (.slice B3 k3 d3) := hst.hT.cell 4
  have t_5 : (w2.alloc (.cells #[.bool f2, .int .i64 i3, .bool s3, .slice A3 l3 c3, .slice B3 k3 d3, .int .i64 i4, .bool s4, .slice A4 l4 c4, .slice B4 k4 d4] 70)).cell? ⟨w2.heap.size, 5, none⟩ = some (.int .i64 i4) := hst.hT.cell 5
  have t_6 : (w2.alloc (.cells #[.bool f2, .int .i64 i3, .bool s3, .slice A3 l3 c3, .slice B3 k3 d3, .int .i64 i4, .bool s4, .slice A4 l4 c4, .slice B4 k4 d4] 70)).cell? ⟨w2.heap.size, 6, none⟩ = some (.bool s4) := hst.hT.cell 6
  have t_7 : (w2.alloc (.cells #[.bool f2, .int .i64 i3, .bool s3, .slice A3 l3 c3, .slice B3 k3 d3, .int .i64 i4, .bool s4, .slice A4 l4 c4, .slice B4 k4 d4] 70)).cell? ⟨w2.heap.size, 7, none⟩ = some (.slice A4 l4 c4) := hst.hT.cell 7
  have t_8 : (w2.alloc (.cells #[.bool f2, .int .i64 i3, .bool s3, .slice A3 l3 c3, .slice B3 k3 d3, .int .i64 i4, .bool s4, .slice A4 l4 c4, .slice B4 k4 d4] 70)).cell? ⟨w2.heap.size, 8, none⟩ = some (.slice B4 k4 d4) := hst.hT.cell 8
  have g_0 : (w2.alloc (.cells #[.bool f2, .int .i64 i3, .bool s3, .slice A3 l3 c3, .slice B3 k3 d3, .int .i64 i4, .bool s4, .slice A4 l4 c4, .slice B4 k4 d4] 70)).cell? ⟨G, 0, none⟩ = some (.int .u64 0) := hst.hG.cell 0
  have g_1 : (w2.alloc (.cells #[.bool f2, .int .i64 i3, .bool s3, .slice A3 l3 c3, .slice B3 k3 d3, .int .i64 i4, .bool s4, .slice A4 l4 c4, .slice B4 k4 d4] 70)).cell? ⟨G, 1, none⟩ = some (.int .u64 0) := hst.hG.cell 1
  have fg_0 : (w2.alloc (.cells #[.bool f2, .int .i64 i3, .bool s3, .slice A3 l3 c3, .slice B3 k3 d3, .int .i64 i4, .bool s4, .slice A4 l4 c4, .slice B4 k4 d4] 70)).frozen? ⟨G, 0, none⟩ = false := hst.hG.frozen 0
  have fg_1 : (w2.alloc (.cells #[.bool f2, .int .i64 i3, .bool s3, .slice A3 l3 c3, .slice B3 k3 d3, .int .i64 i4, .bool s4, .slice A4 l4 c4, .slice B4 k4 d4] 70)).frozen? ⟨G, 1, none⟩ = false := hst.hG.frozen 1
  have fs_0 : (w2.alloc (.cells #[.bool f2, .int .i64 i3, .bool s3, .slice A3 l3 c3, .slice B3 k3 d3, .int .i64 i4, .bool s4, .slice A4 l4 c4, .slice B4 k4 d4] 70)).frozen? ⟨w1.heap.size, 0, none⟩ = false := hst.hS.frozen 0
  have fs_1 : (w2.alloc (.cells #[.bool f2, .int .i64 i3, .bool s3, .slice A3 l3 c3, .slice B3 k3 d3, .int .i64 i4, .bool s4, .slice A4 l4 c4, .slice B4 k4 d4] 70)).frozen? ⟨w1.heap.size, 1, none⟩ = false := hst.hS.frozen 1
  have fs_2 : (w2.alloc (.cells #[.bool f2, .int .i64 i3, .bool s3, .slice A3 l3 c3, .slice B3 k3 d3, .int .i64 i4, .bool s4, .slice A4 l4 c4, .slice B4 k4 d4] 70)).frozen? ⟨w1.heap.size, 2, none⟩ = false := hst.hS.frozen 2
  have fs_3 : (w2.alloc (.cells #[.bool f2, .int .i64 i3, .bool s3, .slice A3 l3 c3, .slice B3 k3 d3, .int .i64 i4, .bool s4, .slice A4 l4 c4, .slice B4 k4 d4] 70)).frozen? ⟨w1.heap.size, 3, none⟩ = false := hst.hS.frozen 3
  have fs_4 : (w2.alloc (.cells #[.bool f2, .int .i64 i3, .bool s3, .slice A3 l3 c3, .slice B3 k3 d3, .int .i64 i4, .bool s4, .slice A4 l4 c4, .slice B4 k4 d4] 70)).frozen? ⟨w1.heap.size, 4, none⟩ = false := hst.hS.frozen 4
  have fs_5 : (w2.alloc (.cells #[.bool f2, .int .i64 i3, .bool s3, .slice A3 l3 c3, .slice B3 k3 d3, .int .i64 i4, .bool s4, .slice A4 l4 c4, .slice B4 k4 d4] 70)).frozen? ⟨w1.heap.size, 5, none⟩ = false := hst.hS.frozen 5
  have fs_6 : (w2.alloc (.cells #[.bool f2, .int .i64 i3, .bool s3, .slice A3 l3 c3, .slice B3 k3 d3, .int .i64 i4, .bool s4, .slice A4 l4 c4, .slice B4 k4 d4] 70)).frozen? ⟨w1.heap.size, 6, none⟩ = false := hst.hS.frozen 6
  have fs_7 : (w2.alloc (.cells #[.bool f2, .int .i64 i3, .bool s3, .slice A3 l3 c3, .slice B3 k3 d3, .int .i64 i4, .bool s4, .slice A4 l4 c4, .slice B4 k4 d4] 70)).frozen? ⟨w1.heap.size, 7, none⟩ = false := hst.hS.frozen 7
  have fs_8 : (w2.alloc (.cells #[.bool f2, .int .i64 i3, .bool s3, .slice A3 l3 c3, .slice B3 k3 d3, .int .i64 i4, .bool s4, .slice A4 l4 c4, .slice B4 k4 d4] 70)).frozen? ⟨w1.heap.size, 8, none⟩ = false := hst.hS.frozen 8
  have lG : G < (w2.alloc (.cells #[.bool f2, .int .i64 i3, .bool s3, .slice A3 l3 c3, .slice B3 k3 d3, .int .i64 i4, .bool s4, .slice A4 l4 c4, .slice B4 k4 d4] 70)).heap.size := hst.hG.lt
  have lS : w1.heap.size < (w2.alloc (.cells #[.bool f2, .int .i64 i3, .bool s3, .slice A3 l3 c3, .slice B3 k3 d3, .int .i64 i4, .bool s4, .slice A4 l4 c4, .slice B4 k4 d4] 70)).heap.size := hst.hS.lt
  go_wp2_with fail
  clear s_0 t_0 fs_0 s_1 t_1 fs_1 s_2 t_2 fs_2 s_3 t_3 fs_3 s_4 t_4 fs_4 s_5 t_5 fs_5 s_6 t_6 fs_6 s_7 t_7 fs_7 s_8 t_8 fs_8 g_0 g_1 fg_0 fg_1 lG lS
  refine (HEM.out _).mono ?_
  rintro e w3 ⟨rfl, hE3⟩
  have hst3 := hst.ext hE3
  clear hst hE3
  have s_0 : (w3).cell? ⟨w1.heap.size, 0, none⟩ = some (.bool true) := hst3.hS.cell 0
  have s_1 : (w3).cell? ⟨w1.heap.size, 1, none⟩ = some (.int .i64 i1) := hst3.hS.cell 1
  have s_2 : (w3).cell? ⟨w1.heap.size, 2, none⟩ = some (.bool s1) := hst3.hS.cell 2
  have s_3 : (w3).cell? ⟨w1.heap.size, 3, none⟩ = some (.slice A1 l1 c1) := hst3.hS.cell 3
  have s_4 : (w3).cell? ⟨w1.heap.size, 4, none⟩ = some (.slice B1 k1 d1) := hst3.hS.cell 4
  have s_5 : (w3).cell? ⟨w1.heap.size, 5, none⟩ = some (.int .i64 i2) := hst3.hS.cell 5
  have s_6 : (w3).cell? ⟨w1.heap.size, 6, none⟩ = some (.bool s2) := hst3.hS.cell 6
  have s_7 : (w3).cell? ⟨w1.heap.size, 7, none⟩ = some (.slice A2 l2 c2) := hst3.hS.cell 7
  have s_8 : (w3).cell? ⟨w1.heap.size, 8, none⟩ = some (.slice B2 k2 d2) := hst3.hS.cell 8
  have t_0 : (w3).cell? ⟨w2.heap.size, 0, none⟩ = some (.bool f2) := hst3.hT.cell 0
  have t_1 : (w3).cell? ⟨w2.heap.size, 1, none⟩ = some (.int .i64 i3) := hst3.hT.cell 1
  have t_2 : (w3).cell? ⟨w2.heap.size, 2, none⟩ = some (.bool s3) := hst3.hT.cell 2
  have t_3 : (w3).cell? ⟨w2.heap.size, 3, none⟩ = some (.slice A3 l3 c3) := hst3.hT.cell 3
  have t_4 : (w3).cell? ⟨w2.heap.size, 4, none⟩ = some (.slice B3 k3 d3) := hst3.hT.cell 4
  have t_5 : (w3).cell? ⟨w2.heap.size, 5, none⟩ = some (.int .i64 i4) := hst3.hT.cell 5
  have t_6 : (w3).cell? ⟨w2.heap.size, 6, none⟩ = some (.bool s4) := hst3.hT.cell 6
  have t_7 : (w3).cell? ⟨w2.heap.size, 7, none⟩ = some (.slice A4 l4 c4) := hst3.hT.cell 7
  have t_8 : (w3).cell? ⟨w2.heap.size, 8, none⟩ = some (.slice B4 k4 d4) := hst3.hT.cell 8
  have g_0 : (w3).cell? ⟨G, 0, none⟩ = some (.int .u64 0) := hst3.hG.cell 0
  have g_1 : (w3).cell? ⟨G, 1, none⟩ = some (.int .u64 0) := hst3.hG.cell 1
  have fg_0 : (w3).frozen? ⟨G, 0, none⟩ = false := hst3.hG.frozen 0
  have fg_1 : (w3).frozen? ⟨G, 1, none⟩ = false := hst3.hG.frozen 1
  have fs_0 : (w3).frozen? ⟨w1.heap.size, 0, none⟩ = false := hst3.hS.frozen 0
  have fs_1 : (w3).frozen? ⟨w1.heap.size, 1, none⟩ = false := hst3.hS.frozen 1
  have fs_2 : (w3).frozen? ⟨w1.heap.size, 2, none⟩ = false := hst3.hS.frozen 2
  have fs_3 : (w3).frozen? ⟨w1.heap.size, 3, none⟩ = false := hst3.hS.frozen 3
  have fs_4 : (w3).frozen? ⟨w1.heap.size, 4, none⟩ = false := hst3.hS.frozen 4
  have fs_5 : (w3).frozen? ⟨w1.heap.size, 5, none⟩ = false := hst3.hS.frozen 5
  have fs_6 : (w3).frozen? ⟨w1.heap.size, 6, none⟩ = false := hst3.hS.frozen 6
  have fs_7 : (w3).frozen? ⟨w1.heap.size, 7, none⟩ = false := hst3.hS.frozen 7
  have fs_8 : (w3).frozen? ⟨w1.heap.size, 8, none⟩ = false := hst3.hS.frozen 8
  have lG : G < (w3).heap.size := hst3.hG.lt
  have lS : w1.heap.size < (w3).heap.size := hst3.hS.lt
  go_wp2_with fail
  exact bodyPost_ret (v := .agg #[.int .u64 (r1 : Int), .int .u64 (r2 : Int)]) (by simp [results, Try.results36, go_sem, lG, g_0, g_1]) rfl ⟨rfl, (hst3.ex.setCell hGw _).setCell hGw _⟩

set_option maxHeartbeats 4000000 in
theorem max7_e2 (x1 x2 y1 y2 : Nat) (i1 : Int) (s1 : Bool) (N1 D1 : Nat) (i2 : Int) (s2 : Bool) (N2 D2 : Nat) (i3 : Int) (s3 : Bool) (N3 D3 : Nat) (i4 : Int) (s4 : Bool) (N4 D4 : Nat) (v1 v2 : Int) (r1 r2 : Nat) (w : World)
    (HO1 : Hid (∀ w, Calls Try.prog 63 #[.agg #[.int .u64 (x1 : Int), .int .u64 (x2 : Int)]] w (RetSet false i1 s1 N1 D1 i2 s2 N2 D2 w)))
    (HO2 : Hid (∀ w, Calls Try.prog 63 #[.agg #[.int .u64 (y1 : Int), .int .u64 (y2 : Int)]] w (RetSet true i3 s3 N3 D3 i4 s4 N4 D4 w)))
    (HEM : Hid (∀ w, Calls Try.prog 24 #[] w (RetI r1 r2 w))) :
    Calls Try.prog 36 #[.agg #[.int .u64 (x1 : Int), .int .u64 (x2 : Int)], .agg #[.int .u64 (y1 : Int), .int .u64 (y2 : Int)]] w (RetI r1 r2 w) := by
  have hb2 : Blk (((w.alloc (.cells #[.int .u64 (x1 : Int), .int .u64 (x2 : Int)] 24)).alloc (.cells #[.int .u64 (y1 : Int), .int .u64 (y2 : Int)] 24)).alloc (.cells #[.int .u64 0, .int .u64 0] 24)) (w.heap.size + 1) 24 #[.int .u64 (y1 : Int), .int .u64 (y2 : Int)] := (Blk.next w (.cells #[.int .u64 (x1 : Int), .int .u64 (x2 : Int)] 24) 24 #[.int .u64 (y1 : Int), .int .u64 (y2 : Int)]).ext ((Ext.refl _).alloc _)
  have hbG : Blk (((w.alloc (.cells #[.int .u64 (x1 : Int), .int .u64 (x2 : Int)] 24)).alloc (.cells #[.int .u64 (y1 : Int), .int .u64 (y2 : Int)] 24)).alloc (.cells #[.int .u64 0, .int .u64 0] 24)) (w.heap.size + 1 + 1) 24 #[.int .u64 0, .int .u64 0] := by
    have := Blk.next (w.alloc (.cells #[.int .u64 (x1 : Int), .int .u64 (x2 : Int)] 24)) (.cells #[.int .u64 (y1 : Int), .int .u64 (y2 : Int)] 24) 24 #[.int .u64 0, .int .u64 0]
    rwa [show (w.alloc (.cells #[.int .u64 (x1 : Int), .int .u64 (x2 : Int)] 24)).heap.size = w.heap.size + 1 by simp] at this
  have hEw : Ext w (((w.alloc (.cells #[.int .u64 (x1 : Int), .int .u64 (x2 : Int)] 24)).alloc (.cells #[.int .u64 (y1 : Int), .int .u64 (y2 : Int)] 24)).alloc (.cells #[.int .u64 0, .int .u64 0] 24)) := (((Ext.refl w).alloc _).alloc _).alloc _
  go_enter Try.func36, Try.ntmps36
  go_wp2_with fail
  refine (HO1.out _).mono ?_
  rintro e w1 ⟨A1, l1, c1, B1, k1, d1, A2, l2, c2, B2, k2, d2, rfl, h1, h2, hE1⟩
  obtain ⟨G, hG⟩ : ∃ G, G = w.heap.size + 1 + 1 := ⟨_, rfl⟩
  rw [show w.heap.size + 2 = G by omega]
  rw [← hG] at hbG
  have hGw : w.heap.size ≤ G := by omega
  have hE1' : Ext w1 (w1.alloc (.cells #[.bool false, .int .i64 i1, .bool s1, .slice A1 l1 c1, .slice B1 k1 d1, .int .i64 i2, .bool s2, .slice A2 l2 c2, .slice B2 k2 d2] 70)) := (Ext.refl w1).alloc _
  have hlt2 : G < w1.heap.size := by have a := hbG.lt; have b := hE1.size; omega
  have hlt3 : w.heap.size ≤ w1.heap.size := by omega
  have hb21 := (hb2.ext hE1).ext hE1'
  have hbG1 := (hbG.ext hE1).ext hE1'
  have hbS := Blk.new w1 70 #[.bool false, .int .i64 i1, .bool s1, .slice A1 l1 c1, .slice B1 k1 d1, .int .i64 i2, .bool s2, .slice A2 l2 c2, .slice B2 k2 d2]
  have h11 := h1.ext hE1'
  have h21 := h2.ext hE1'
  have hEw1 := (hEw.trans hE1).trans hE1'
  clear hb2 hbG h1 h2 hE1 hE1' hEw hG
  have j_0 : (w1.alloc (.cells #[.bool false, .int .i64 i1, .bool s1, .slice A1 l1 c1, .slice B1 k1 d1, .int .i64 i2, .bool s2, .slice A2 l2 c2, .slice B2 k2 d2] 70)).cell? ⟨w.heap.size + 1, 0, none⟩ = some (.int .u64 (y1 : Int)) := hb21.cell 0
  have j_1 : (w1.alloc (.cells #[.bool false, .int .i64 i1, .bool s1, .slice A1 l1 c1, .slice B1 k1 d1, .int .i64 i2, .bool s2, .slice A2 l2 c2, .slice B2 k2 d2] 70)).cell? ⟨w.heap.size + 1, 1, none⟩ = some (.int .u64 (y2 : Int)) := hb21.cell 1
  go_wp2_with fail
  clear j_0 j_1
  refine (HO2.out _).mono ?_
  rintro e w2 ⟨A3, l3, c3, B3, k3, d3, A4, l4, c4, B4, k4, d4, rfl, h3, h4, hE2⟩
  have hE2' : Ext (w1.alloc (.cells #[.bool false, .int .i64 i1, .bool s1, .slice A1 l1 c1, .slice B1 k1 d1, .int .i64 i2, .bool s2, .slice A2 l2 c2, .slice B2 k2 d2] 70)) (w2.alloc (.cells #[.bool true, .int .i64 i3, .bool s3, .slice A3 l3 c3, .slice B3 k3 d3, .int .i64 i4, .bool s4, .slice A4 l4 c4, .slice B4 k4 d4] 70)) := hE2.alloc _
  have hst : MM G w1.heap.size w2.heap.size false true i1 s1 A1 l1 c1 B1 k1 d1 N1 D1 i2 s2 A2 l2 c2 B2 k2 d2 N2 D2 i3 s3 A3 l3 c3 B3 k3 d3 N3 D3 i4 s4 A4 l4 c4 B4 k4 d4 N4 D4 w (w2.alloc (.cells #[.bool true, .int .i64 i3, .bool s3, .slice A3 l3 c3, .slice B3 k3 d3, .int .i64 i4, .bool s4, .slice A4 l4 c4, .slice B4 k4 d4] 70)) :=
    ⟨hbG1.ext hE2', hbS.ext hE2', Blk.new w2 _ _, h11.ext hE2', h21.ext hE2', h3.ext ((Ext.refl w2).alloc _), h4.ext ((Ext.refl w2).alloc _), hEw1.trans hE2', hlt3, hlt2, by have a := hbS.lt; have b := hE2.size; omega⟩
  clear hb21 hbG1 hbS h11 h21 hEw1 h3 h4 hE2 hE2' hlt2 hlt3
  have s_0 : (w2.alloc (.cells #[.bool true, .int .i64 i3, .bool s3, .slice A3 l3 c3, .slice B3 k3 d3, .int .i64 i4, .bool s4, .slice A4 l4 c4, .slice B4 k4 d4] 70)).cell? ⟨w1.heap.size, 0, none⟩ = some (.bool false) := hst.hS.cell 0
  have s_1 : (w2.alloc (.cells #[.bool true, .int .i64 i3, .bool s3, .slice A3 l3 c3, .slice B3 k3 d3, .int .i64 i4, .bool s4, .slice A4 l4 c4, .slice B4 k4 d4] 70)).cell? ⟨w1.heap.size, 1, none⟩ = some (.int .i64 i1) := hst.hS.cell 1
  have s_2 : (w2.alloc (.cells #[.bool true, .int .i64 i3, .bool s3, .slice A3 l3 c3, .slice B3 k3 d3, .int .i64 i4, .bool s4, .slice A4 l4 c4, .slice B4 k4 d4] 70)).cell? ⟨w1.heap.size, 2, none⟩ = some (.bool s1) := hst.hS.cell 2
  have s_3 : (w2.alloc (.cells #[.bool true, .int .i64 i3, .bool s3, .slice A3 l3 c3, .slice B3 k3 d3, .int .i64 i4, .bool s4, .slice A4 l4 c4, .slice B4 k4 d4] 70)).cell? ⟨w1.heap.size, 3, none⟩ = some (.slice A1 l1 c1) := hst.hS.cell 3
  have s_4 : (w2.alloc (.cells #[.bool true, .int .i64 i3, .bool s3, .slice A3 l3 c3, .slice B3 k3 d3, .int .i64 i4, .bool s4, .slice A4 l4 c4, .slice B4 k4 d4] 70)).cell? ⟨w1.heap.size, 4, none⟩ = some (.slice B1 k1 d1) := hst.hS.cell 4
  have s_5 : (w2.alloc (.cells #[.bool true, .int .i64 i3, .bool s3, .slice A3 l3 c3, .slice B3 k3 d3, .int .i64 i4, .bool s4, .slice A4 l4 c4, .slice B4 k4 d4] 70)).cell? ⟨w1.heap.size, 5, none⟩ = some (.int .i64 i2) := hst.hS.cell 5
  have s_6 : (w2.alloc (.cells #[.bool true, .int .i64 i3, .bool s3, .slice A3 l3 c3, .slice B3 k3 d3, .int .i64 i4, .bool s4, .slice A4 l4 c4, .slice B4 k4 d4] 70)).cell? ⟨w1.heap.size, 6, none⟩ = some (.bool s2) := hst.hS.cell 6
  have s_7 : (w2.alloc (.cells #[.bool true, .int .i64 i3, .bool s3, .slice A3 l3 c3, .slice B3 k3 d3, .int .i64 i4, .bool s4, .slice A4 l4 c4, .slice B4 k4 d4] 70)).cell? ⟨w1.heap.size, 7, none⟩ = some (.slice A2 l2 c2) := hst.hS.cell 7
  have s_8 : (w2.alloc (.cells #[.bool true, .int .i64 i3, .bool s3, .slice A3 l3 c3, .slice B3 k3 d3, .int .i64 i4, .bool s4, .slice A4 l4 c4, .slice B4 k4 d4] 70)).cell? ⟨w1.heap.size, 8, none⟩ = some (.slice B2 k2 d2) := hst.hS.cell 8
  have t_0 : (w2.alloc (.cells #[.bool true, .int .i64 i3, .bool s3, .slice A3 l3 c3, .slice B3 k3 d3, .int .i64 i4, .bool s4, .slice A4 l4 c4, .slice B4 k4 d4] 70)).cell? ⟨w2.heap.size, 0, none⟩ = some (.bool true) := hst.hT.cell 0
  have t_1 : (w2.alloc (.cells #[.bool true, .int .i64 i3, .bool s3, .slice A3 l3 c3, .slice B3 k3 d3, .int .i64 i4, .bool s4, .slice A4 l4 c4, .slice B4 k4 d4] 70)).cell? ⟨w2.heap.size, 1, none⟩ = some (.int .i64 i3) := hst.hT.cell 1
  have t_2 : (w2.alloc (.cells #[.bool true, .int .i64 i3, .bool s3, .slice A3 l3 c3, .slice B3 k3 d3, .int .i64 i4, .bool s4, .slice A4 l4 c4, .slice B4 k4 d4] 70)).cell? ⟨w2.heap.size, 2, none⟩ = some (.bool s3) := hst.hT.cell 2
  have t_3 : (w2.alloc (.cells #[.bool true, .int .i64 i3, .bool s3, .slice A3 l3 c3, .slice B3 k3 d3, .int .i64 i4, .bool s4, .slice A4 l4 c4, .slice B4 k4 d4] 70)).cell? ⟨w2.heap.size, 3, none⟩ = some (.slice A3 l3 c3) := hst.hT.cell 3
  have t_4 : (w2.alloc (.cells #[.bool true, .int .i64 i3, .bool s3, .slice A3 l3 c3, .slice B3 k3 d3, .int .i64 i4, .bool s4, .slice A4 l4 c4, .slice B4 k4 d4] 70)).cell? ⟨w2.heap.size, 4, none⟩ = some (.slice B3 k3 d3) := hst.hT.cell 4
  have t_5 : (w2.alloc (.cells #[.bool true, .int .i64 i3, .bool s3, .slice A3 l3 c3, .slice B3 k3 d3, .int .i64 i4, .bool s4, .slice A4 l4 c4, .slice B4 k4 d4] 70)).cell? ⟨w2.heap.size, 5, none⟩ = some (.int .i64 i4) := hst.hT.cell 5
  have t_6 : (w2.alloc (.cells #[.bool true, .int .i64 i3, .bool s3, .slice A3 l3 c3, .slice B3 k3 d3, .int .i64 i4, .bool s4, .slice A4 l4 c4, .slice B4 k4 d4] 70)).cell? ⟨w2.heap.size, 6, none⟩ = some (.bool s4) := hst.hT.cell 6
  have t_7 : (w2.alloc (.cells #[.bool true, .int .i64 i3, .bool s3, .slice A3 l3 c3, .slice B3 k3 d3, .int .i64 i4, .bool s4, .slice A4 l4 c4, .slice B4 k4 d4] 70)).cell? ⟨w2.heap.size, 7, none⟩ = some (.slice A4 l4 c4) := hst.hT.cell 7
  have t_8 : (w2.alloc (.cells #[.bool true, .int .i64 i3, .bool s3, .slice A3 l3 c3, .slice B3 k3 d3, .int .i64 i4, .bool s4, .slice A4 l4 c4, .slice B4 k4 d4] 70)).cell? ⟨w2.heap.size, 8, none⟩ = some (.slice B4 k4 d4) := hst.hT.cell 8
  have g_0 : (w2.alloc (.cells #[.bool true, .int .i64 i3, .bool s3, .slice A3 l3 c3, .slice B3 k3 d3, .int .i64 i4, .bool s4, .slice A4 l4 c4, .slice B4 k4 d4] 70)).cell? ⟨G, 0, none⟩ = some (.int .u64 0) := hst.hG.cell 0
  have g_1 : (w2.alloc (.cells #[.bool true, .int .i64 i3, .bool s3, .slice A3 l3 c3, .slice B3 k3 d3, .int .i64 i4, .bool s4, .slice A4 l4 c4, .slice B4 k4 d4] 70)).cell? ⟨G, 1, none⟩ = some (.int .u64 0) := hst.hG.cell 1
  have fg_0 : (w2.alloc (.cells #[.bool true, .int .i64 i3, .bool s3, .slice A3 l3 c3, .slice B3 k3 d3, .int .i64 i4, .bool s4, .slice A4 l4 c4, .slice B4 k4 d4] 70)).frozen? ⟨G, 0, none⟩ = false := hst.hG.frozen 0
  have fg_1 : (w2.alloc (.cells #[.bool true, .int .i64 i3, .bool s3, .slice A3 l3 c3, .slice B3 k3 d3, .int .i64 i4, .bool s4, .slice A4 l4 c4, .slice B4 k4 d4] 70)).frozen? ⟨G, 1, none⟩ = false := hst.hG.frozen 1
  have fs_0 : (w2.alloc (.cells #[.bool true, .int .i64 i3, .bool s3, .slice A3 l3 c3, .slice B3 k3 d3, .int .i64 i4, .bool s4, .slice A4 l4 c4, .slice B4 k4 d4] 70)).frozen? ⟨w1.heap.size, 0, none⟩ = false := hst.hS.frozen 0
  have fs_1 : (w2.alloc (.cells #[.bool true, .int .i64 i3, .bool s3, .slice A3 l3 c3, .slice B3 k3 d3, .int .i64 i4, .bool s4, .slice A4 l4 c4, .slice B4 k4 d4] 70)).frozen? ⟨w1.heap.size, 1, none⟩ = false := hst.hS.frozen 1
  have fs_2 : (w2.alloc (.cells #[.bool true, .int .i64 i3, .bool s3, .slice A3 l3 c3, .slice B3 k3 d3, .int .i64 i4, .bool s4, .slice A4 l4 c4, .slice B4 k4 d4] 70)).frozen? ⟨w1.heap.size, 2, none⟩ = false := hst.hS.frozen 2
  have fs_3 : (w2.alloc (.cells #[.bool true, .int .i64 i3, .bool s3, .slice A3 l3 c3, .slice B3 k3 d3, .int .i64 i4, .bool s4, .slice A4 l4 c4, .slice B4 k4 d4] 70)).frozen? ⟨w1.heap.size, 3, none⟩ = false := hst.hS.frozen 3
  have fs_4 : (w2.alloc (.cells #[.bool true, .int .i64 i3, .bool s3, .slice A3 l3 c3, .slice B3 k3 d3, .int .i64 i4, .bool s4, .slice A4 l4 c4, .slice B4 k4 d4] 70)).frozen? ⟨w1.heap.size, 4, none⟩ = false := hst.hS.frozen 4
  have fs_5 : (w2.alloc (.cells #[.bool true, .int .i64 i3, .bool s3, .slice A3 l3 c3, .slice B3 k3 d3, .int .i64 i4, .bool s4, .slice A4 l4 c4, .slice B4 k4 d4] 70)).frozen? ⟨w1.heap.size, 5, none⟩ = false := hst.hS.frozen 5
  have fs_6 : (w2.alloc (.cells #[.bool true, .int .i64 i3, .bool s3, .slice A3 l3 c3, .slice B3 k3 d3, .int .i64 i4, .bool s4, .slice A4 l4 c4, .slice B4 k4 d4] 70)).frozen? ⟨w1.heap.size, 6, none⟩ = false := hst.hS.frozen 6
  have fs_7 : (w2.alloc (.cells #[.bool true, .int .i64 i3, .bool s3, .slice A3 l3 c3, .slice B3 k3 d3, .int .i64 i4, .bool s4, .slice A4 l4 c4, .slice B4 k4 d4] 70)).frozen? ⟨w1.heap.size, 7, none⟩ = false := hst.hS.frozen 7
  have fs_8 : (w2.alloc (.cells #[.bool true, .int .i64 i3, .bool s3, .slice A3 l3 c3, .slice B3 k3 d3, .int .i64 i4, .bool s4, .slice A4 l4 c4, .slice B4 k4 d4] 70)).frozen? ⟨w1.heap.size, 8, none⟩ = false := hst.hS.frozen 8
  have lG : G < (w2.alloc (.cells #[.bool true, .int .i64 i3, .bool s3, .slice A3 l3 c3, .slice B3 k3 d3, .int .i64 i4, .bool s4, .slice A4 l4 c4, .slice B4 k4 d4] 70)).heap.size := hst.hG.lt
  have lS : w1.heap.size < (w2.alloc (.cells #[.bool true, .int .i64 i3, .bool s3, .slice A3 l3 c3, .slice B3 k3 d3, .int .i64 i4, .bool s4, .slice A4 l4 c4, .slice B4 k4 d4] 70)).heap.size := hst.hS.lt
  go_wp2_with fail
  clear s_0 t_0 fs_0 s_1 t_1 fs_1 s_2 t_2 fs_2 s_3 t_3 fs_3 s_4 t_4 fs_4 s_5 t_5 fs_5 s_6 t_6 fs_6 s_7 t_7 fs_7 s_8 t_8 fs_8 g_0 g_1 fg_0 fg_1 lG lS
  refine (HEM.out _).mono ?_
  rintro e w3 ⟨rfl, hE3⟩
  have hst3 := hst.ext hE3
  clear hst hE3
  have s_0 : (w3).cell? ⟨w1.heap.size, 0, none⟩ = some (.bool false) := hst3.hS.cell 0
  have s_1 : (w3).cell? ⟨w1.heap.size, 1, none⟩ = some (.int .i64 i1) := hst3.hS.cell 1
  have s_2 : (w3).cell? ⟨w1.heap.size, 2, none⟩ = some (.bool s1) := hst3.hS.cell 2
  have s_3 : (w3).cell? ⟨w1.heap.size, 3, none⟩ = some (.slice A1 l1 c1) := hst3.hS.cell 3
  have s_4 : (w3).cell? ⟨w1.heap.size, 4, none⟩ = some (.slice B1 k1 d1) := hst3.hS.cell 4
  have s_5 : (w3).cell? ⟨w1.heap.size, 5, none⟩ = some (.int .i64 i2) := hst3.hS.cell 5
  have s_6 : (w3).cell? ⟨w1.heap.size, 6, none⟩ = some (.bool s2) := hst3.hS.cell 6
  have s_7 : (w3).cell? ⟨w1.heap.size, 7, none⟩ = some (.slice A2 l2 c2) := hst3.hS.cell 7
  have s_8 : (w3).cell? ⟨w1.heap.size, 8, none⟩ = some (.slice B2 k2 d2) := hst3.hS.cell 8
  have t_0 : (w3).cell? ⟨w2.heap.size, 0, none⟩ = some (.bool true) := hst3.hT.cell 0
  have t_1 : (w3).cell? ⟨w2.heap.size, 1, none⟩ = some (.int .i64 i3) := hst3.hT.cell 1
  have t_2 : (w3).cell? ⟨w2.heap.size, 2, none⟩ = some (.bool s3) := hst3.hT.cell 2
  have t_3 : (w3).cell? ⟨w2.heap.size, 3, none⟩ = some (.slice A3 l3 c3) := hst3.hT.cell 3
  have t_4 : (w3).cell? ⟨w2.heap.size, 4, none⟩ = some (.slice B3 k3 d3) := hst3.hT.cell 4
  have t_5 : (w3).cell? ⟨w2.heap.size, 5, none⟩ = some (.int .i64 i4) := hst3.hT.cell 5
  have t_6 : (w3).cell? ⟨w2.heap.size, 6, none⟩ = some (.bool s4) := hst3.hT.cell 6
  have t_7 : (w3).cell? ⟨w2.heap.size, 7, none⟩ = some (.slice A4 l4 c4) := hst3.hT.cell 7
  have t_8 : (w3).cell? ⟨w2.heap.size, 8, none⟩ = some (.slice B4 k4 d4) := hst3.hT.cell 8
  have g_0 : (w3).cell? ⟨G, 0, none⟩ = some (.int .u64 0) := hst3.hG.cell 0
  have g_1 : (w3).cell? ⟨G, 1, none⟩ = some (.int .u64 0) := hst3.hG.cell 1
  have fg_0 : (w3).frozen? ⟨G, 0, none⟩ = false := hst3.hG.frozen 0
  have fg_1 : (w3).frozen? ⟨G, 1, none⟩ = false := hst3.hG.frozen 1
  have fs_0 : (w3).frozen? ⟨w1.heap.size, 0, none⟩ = false := hst3.hS.frozen 0
  have fs_1 : (w3).frozen? ⟨w1.heap.size, 1, none⟩ = false := hst3.hS.frozen 1
  have fs_2 : (w3).frozen? ⟨w1.heap.size, 2, none⟩ = false := hst3.hS.frozen 2
  have fs_3 : (w3).frozen? ⟨w1.heap.size, 3, none⟩ = false := hst3.hS.frozen 3
  have fs_4 : (w3).frozen? ⟨w1.heap.size, 4, none⟩ = false := hst3.hS.frozen 4
  have fs_5 : (w3).frozen? ⟨w1.heap.size, 5, none⟩ = false := hst3.hS.frozen 5
  have fs_6 : (w3).frozen? ⟨w1.heap.size, 6, none⟩ = false := hst3.hS.frozen 6
  have fs_7 : (w3).frozen? ⟨w1.heap.size, 7, none⟩ = false := hst3.hS.frozen 7
  have fs_8 : (w3).frozen? ⟨w1.heap.size, 8, none⟩ = false := hst3.hS.frozen 8
  have lG : G < (w3).heap.size := hst3.hG.lt
  have lS : w1.heap.size < (w3).heap.size := hst3.hS.lt
  go_wp2_with fail
  exact bodyPost_ret (v := .agg #[.int .u64 (r1 : Int), .int .u64 (r2 : Int)]) (by simp [results, Try.results36, go_sem, lG, g_0, g_1]) rfl ⟨rfl, (hst3.ex.setCell hGw _).setCell hGw _⟩

set_option maxHeartbeats 4000000 in
theorem max7_nn (x1 x2 y1 y2 : Nat) (i1 : Int) (s1 : Bool) (N1 D1 : Nat) (i2 : Int) (s2 : Bool) (N2 D2 : Nat) (i3 : Int) (s3 : Bool) (N3 D3 : Nat) (i4 : Int) (s4 : Bool) (N4 D4 : Nat) (v1 v2 : Int) (r1 r2 : Nat) (w : World)
    (HO1 : Hid (∀ w, Calls Try.prog 63 #[.agg #[.int .u64 (x1 : Int), .int .u64 (x2 : Int)]] w (RetSet false i1 s1 N1 D1 i2 s2 N2 D2 w)))
    (HO2 : Hid (∀ w, Calls Try.prog 63 #[.agg #[.int .u64 (y1 : Int), .int .u64 (y2 : Int)]] w (RetSet false i3 s3 N3 D3 i4 s4 N4 D4 w)))
    (HC1 : Hid (∀ A3 l3 c3 B3 k3 d3 A1 l1 c1 B1 k1 d1 w, RatAt w A3 l3 c3 B3 k3 d3 N3 D3 → RatAt w A1 l1 c1 B1 k1 d1 N1 D1 → Calls Try.prog 65 #[.agg #[.int .i64 i3, .bool s3, .slice A3 l3 c3, .slice B3 k3 d3], .agg #[.int .i64 i1, .bool s1, .slice A1 l1 c1, .slice B1 k1 d1]] w fun e w' => e = .returned (.int .i64 v1) ∧ Ext w w'))
    (HC2 : Hid (∀ A4 l4 c4 B4 k4 d4 A2 l2 c2 B2 k2 d2 w, RatAt w A4 l4 c4 B4 k4 d4 N4 D4 → RatAt w A2 l2 c2 B2 k2 d2 N2 D2 → Calls Try.prog 65 #[.agg #[.int .i64 i4, .bool s4, .slice A4 l4 c4, .slice B4 k4 d4], .agg #[.int .i64 i2, .bool s2, .slice A2 l2 c2, .slice B2 k2 d2]] w fun e w' => e = .returned (.int .i64 v2) ∧ Ext w w'))
    (HL : Hid (∀ A1 l1 c1 B1 k1 d1 A2 l2 c2 B2 k2 d2 w, RatAt w A1 l1 c1 B1 k1 d1 N1 D1 → RatAt w A2 l2 c2 B2 k2 d2 N2 D2 → Calls Try.prog 61 #[.agg #[.bool false, .int .i64 i1, .bool s1, .slice A1 l1 c1, .slice B1 k1 d1, .int .i64 i2, .bool s2, .slice A2 l2 c2, .slice B2 k2 d2]] w (RetI r1 r2 w)))
    (hx1 : decide (0 < v1) = false) (hx2 : decide (0 < v2) = false) :
    Calls Try.prog 36 #[.agg #[.int .u64 (x1 : Int), .int .u64 (x2 : Int)], .agg #[.int .u64 (y1 : Int), .int .u64 (y2 : Int)]] w (RetI r1 r2 w) := by
  have hb2 : Blk (((w.alloc (.cells #[.int .u64 (x1 : Int), .int .u64 (x2 : Int)] 24)).alloc (.cells #[.int .u64 (y1 : Int), .int .u64 (y2 : Int)] 24)).alloc (.cells #[.int .u64 0, .int .u64 0] 24)) (w.heap.size + 1) 24 #[.int .u64 (y1 : Int), .int .u64 (y2 : Int)] := (Blk.next w (.cells #[.int .u64 (x1 : Int), .int .u64 (x2 : Int)] 24) 24 #[.int .u64 (y1 : Int), .int .u64 (y2 : Int)]).ext ((Ext.refl _).alloc _)
  have hbG : Blk (((w.alloc (.cells #[.int .u64 (x1 : Int), .int .u64 (x2 : Int)] 24)).alloc (.cells #[.int .u64 (y1 : Int), .int .u64 (y2 : Int)] 24)).alloc (.cells #[.int .u64 0, .int .u64 0] 24)) (w.heap.size + 1 + 1) 24 #[.int .u64 0, .int .u64 0] := by
    have := Blk.next (w.alloc (.cells #[.int .u64 (x1 : Int), .int .u64 (x2 : Int)] 24)) (.cells #[.int .u64 (y1 : Int), .int .u64 (y2 : Int)] 24) 24 #[.int .u64 0, .int .u64 0]
    rwa [show (w.alloc (.cells #[.int .u64 (x1 : Int), .int .u64 (x2 : Int)] 24)).heap.size = w.heap.size + 1 by simp] at this
  have hEw : Ext w (((w.alloc (.cells #[.int .u64 (x1 : Int), .int .u64 (x2 : Int)] 24)).alloc (.cells #[.int .u64 (y1 : Int), .int .u64 (y2 : Int)] 24)).alloc (.cells #[.int .u64 0, .int .u64 0] 24)) := (((Ext.refl w).alloc _).alloc _).alloc _
  go_enter Try.func36, Try.ntmps36
  go_wp2_with fail
  refine (HO1.out _).mono ?_
  rintro e w1 ⟨A1, l1, c1, B1, k1, d1, A2, l2, c2, B2, k2, d2, rfl, h1, h2, hE1⟩
  obtain ⟨G, hG⟩ : ∃ G, G = w.heap.size + 1 + 1 := ⟨_, rfl⟩
  rw [show w.heap.size + 2 = G by omega]
  rw [← hG] at hbG
  have hGw : w.heap.size ≤ G := by omega
  have hE1' : Ext w1 (w1.alloc (.cells #[.bool false, .int .i64 i1, .bool s1, .slice A1 l1 c1, .slice B1 k1 d1, .int .i64 i2, .bool s2, .slice A2 l2 c2, .slice B2 k2 d2] 70)) := (Ext.refl w1).alloc _
  have hlt2 : G < w1.heap.size := by have a := hbG.lt; have b := hE1.size; omega
  have hlt3 : w.heap.size ≤ w1.heap.size := by omega
  have hb21 := (hb2.ext hE1).ext hE1'
  have hbG1 := (hbG.ext hE1).ext hE1'
  have hbS := Blk.new w1 70 #[.bool false, .int .i64 i1, .bool s1, .slice A1 l1 c1, .slice B1 k1 d1, .int .i64 i2, .bool s2, .slice A2 l2 c2, .slice B2 k2 d2]
  have h11 := h1.ext hE1'
  have h21 := h2.ext hE1'
  have hEw1 := (hEw.trans hE1).trans hE1'
  clear hb2 hbG h1 h2 hE1 hE1' hEw hG
  have j_0 : (w1.alloc (.cells #[.bool false, .int .i64 i1, .bool s1, .slice A1 l1 c1, .slice B1 k1 d1, .int .i64 i2, .bool s2, .slice A2 l2 c2, .slice B2 k2 d2] 70)).cell? ⟨w.heap.size + 1, 0, none⟩ = some (.int .u64 (y1 : Int)) := hb21.cell 0
  have j_1 : (w1.alloc (.cells #[.bool false, .int .i64 i1, .bool s1, .slice A1 l1 c1, .slice B1 k1 d1, .int .i64 i2, .bool s2, .slice A2 l2 c2, .slice B2 k2 d2] 70)).cell? ⟨w.heap.size + 1, 1, none⟩ = some (.int .u64 (y2 : Int)) := hb21.cell 1
  go_wp2_with fail
  clear j_0 j_1
  refine (HO2.out _).mono ?_
  rintro e w2 ⟨A3, l3, c3, B3, k3, d3, A4, l4, c4, B4, k4, d4, rfl, h3, h4, hE2⟩
  have hE2' : Ext (w1.alloc (.cells #[.bool false, .int .i64 i1, .bool s1, .slice A1 l1 c1, .slice B1 k1 d1, .int .i64 i2, .bool s2, .slice A2 l2 c2, .slice B2 k2 d2] 70)) (w2.alloc (.cells #[.bool false, .int .i64 i3, .bool s3, .slice A3 l3 c3, .slice B3 k3 d3, .int .i64 i4, .bool s4, .slice A4 l4 c4, .slice B4 k4 d4] 70)) := hE2.alloc _
  have hst : MM G w1.heap.size w2.heap.size false false i1 s1 A1 l1 c1 B1 k1 d1 N1 D1 i2 s2 A2 l2 c2 B2 k2 d2 N2 D2 i3 s3 A3 l3 c3 B3 k3 d3 N3 D3 i4 s4 A4 l4 c4 B4 k4 d4 N4 D4 w (w2.alloc (.cells #[.bool false, .int .i64 i3, .bool s3, .slice A3 l3 c3, .slice B3 k3 d3, .int .i64 i4, .bool s4, .slice A4 l4 c4, .slice B4 k4 d4] 70)) :=
    ⟨hbG1.ext hE2', hbS.ext hE2', Blk.new w2 _ _, h11.ext hE2', h21.ext hE2', h3.ext ((Ext.refl w2).alloc _), h4.ext ((Ext.refl w2).alloc _), hEw1.trans hE2', hlt3, hlt2, by have a := hbS.lt; have b := hE2.size; omega⟩
  clear hb21 hbG1 hbS h11 h21 hEw1 h3 h4 hE2 hE2' hlt2 hlt3
  have s_0 : (w2.alloc (.cells #[.bool false, .int .i64 i3, .bool s3, .slice A3 l3 c3, .slice B3 k3 d3, .int .i64 i4, .bool s4, .slice A4 l4 c4, .slice B4 k4 d4] 70)).cell? ⟨w1.heap.size, 0, none⟩ = some (.bool false) := hst.hS.cell 0
  have s_1 : (w2.alloc (.cells #[.bool false, .int .i64 i3, .bool s3, .slice A3 l3 c3, .slice B3 k3 d3, .int .i64 i4, .bool s4, .slice A4 l4 c4, .slice B4 k4 d4] 70)).cell? ⟨w1.heap.size, 1, none⟩ = some (.int .i64 i1) := hst.hS.cell 1
  have s_2 : (w2.alloc (.cells #[.bool false, .int .i64 i3, .bool s3, .slice A3 l3 c3, .slice B3 k3 d3, .int .i64 i4, .bool s4, .slice A4 l4 c4, .slice B4 k4 d4] 70)).cell? ⟨w1.heap.size, 2, none⟩ = some (.bool s1) := hst.hS.cell 2
  have s_3 : (w2.alloc (.cells #[.bool false, .int .i64 i3, .bool s3, .slice A3 l3 c3, .slice B3 k3 d3, .int .i64 i4, .bool s4, .slice A4 l4 c4, .slice B4 k4 d4] 70)).cell? ⟨w1.heap.size, 3, none⟩ = some (.slice A1 l1 c1) := hst.hS.cell 3
  have s_4 : (w2.alloc (.cells #[.bool false, .int .i64 i3, .bool s3, .slice A3 l3 c3, .slice B3 k3 d3, .int .i64 i4, .bool s4, .slice A4 l4 c4, .slice B4 k4 d4] 70)).cell? ⟨w1.heap.size, 4, none⟩ = some (.slice B1 k1 d1) := hst.hS.cell 4
  have s_5 : (w2.alloc (.cells #[.bool false, .int .i64 i3, .bool s3, .slice A3 l3 c3, .slice B3 k3 d3, .int .i64 i4, .bool s4, .slice A4 l4 c4, .slice B4 k4 d4] 70)).cell? ⟨w1.heap.size, 5, none⟩ = some (.int .i64 i2) := hst.hS.cell 5
  have s_6 : (w2.alloc (.cells #[.bool false, .int .i64 i3, .bool s3, .slice A3 l3 c3, .slice B3 k3 d3, .int .i64 i4, .bool s4, .slice A4 l4 c4, .slice B4 k4 d4] 70)).cell? ⟨w1.heap.size, 6, none⟩ = some (.bool s2) := hst.hS.cell 6
  have s_7 : (w2.alloc (.cells #[.bool false, .int .i64 i3, .bool s3, .slice A3 l3 c3, .slice B3 k3 d3, .int .i64 i4, .bool s4, .slice A4 l4 c4, .slice B4 k4 d4] 70)).cell? ⟨w1.heap.size, 7, none⟩ = some (.slice A2 l2 c2) := hst.hS.cell 7
  have s_8 : (w2.alloc (.cells #[.bool false, .int .i64 i3, .bool s3, .slice A3 l3 c3, .slice B3 k3 d3, .int .i64 i4, .bool s4, .slice A4 l4 c4, .slice B4 k4 d4] 70)).cell? ⟨w1.heap.size, 8, none⟩ = some (.slice B2 k2 d2) := hst.hS.cell 8
  have t_0 : (w2.alloc (.cells #[.bool false, .int .i64 i3, .bool s3, .slice A3 l3 c3, .slice B3 k3 d3, .int .i64 i4, .bool s4, .slice A4 l4 c4, .slice B4 k4 d4] 70)).cell? ⟨w2.heap.size, 0, none⟩ = some (.bool false) := hst.hT.cell 0
  have t_1 : (w2.alloc (.cells #[.bool false, .int .i64 i3, .bool s3, .slice A3 l3 c3, .slice B3 k3 d3, .int .i64 i4, .bool s4, .slice A4 l4 c4, .slice B4 k4 d4] 70)).cell? ⟨w2.heap.size, 1, none⟩ = some (.int .i64 i3) := hst.hT.cell 1
  have t_2 : (w2.alloc (.cells #[.bool false, .int .i64 i3, .bool s3, .slice A3 l3 c3, .slice B3 k3 d3, .int .i64 i4, .bool s4, .slice A4 l4 c4, .slice B4 k4 d4] 70)).cell? ⟨w2.heap.size, 2, none⟩ = some (.bool s3) := hst.hT.cell 2
  have t_3 : (w2.alloc (.cells #[.bool false, .int .i64 i3, .bool s3, .slice A3 l3 c3, .slice B3 k3 d3, .int .i64 i4, .bool s4, .slice A4 l4 c4, .slice B4 k4 d4] 70)).cell? ⟨w2.heap.size, 3, none⟩ = some (.slice A3 l3 c3) := hst.hT.cell 3
  have t_4 : (w2.alloc (.cells #[.bool false, .int .i64 i3, .bool s3, .slice A3 l3 c3, .slice B3 k3 d3, .int .i64 i4, .bool s4, .slice A4 l4 c4, .slice B4 k4 d4] 70)).cell? ⟨w2.heap.size, 4, none⟩ = some (.slice B3 k3 d3) := hst.hT.cell 4
  have t_5 : (w2.alloc (.cells #[.bool false, .int .i64 i3, .bool s3, .slice A3 l3 c3, .slice B3 k3 d3, .int .i64 i4, .bool s4, .slice A4 l4 c4, .slice B4 k4 d4] 70)).cell? ⟨w2.heap.size, 5, none⟩ = some (.int .i64 i4) := hst.hT.cell 5
  have t_6 : (w2.alloc (.cells #[.bool false, .int .i64 i3, .bool s3, .slice A3 l3 c3, .slice B3 k3 d3, .int .i64 i4, .bool s4, .slice A4 l4 c4, .slice B4 k4 d4] 70)).cell? ⟨w2.heap.size, 6, none⟩ = some (.bool s4) := hst.hT.cell 6
  have t_7 : (w2.alloc (.cells #[.bool false, .int .i64 i3, .bool s3, .slice A3 l3 c3, .slice B3 k3 d3, .int .i64 i4, .bool s4, .slice A4 l4 c4, .slice B4 k4 d4] 70)).cell? ⟨w2.heap.size, 7, none⟩ = some (.slice A4 l4 c4) := hst.hT.cell 7
  have t_8 : (w2.alloc (.cells #[.bool false, .int .i64 i3, .bool s3, .slice A3 l3 c3, .slice B3 k3 d3, .int .i64 i4, .bool s4, .slice A4 l4 c4, .slice B4 k4 d4] 70)).cell? ⟨w2.heap.size, 8, none⟩ = some (.slice B4 k4 d4) := hst.hT.cell 8
  have g_0 : (w2.alloc (.cells #[.bool false, .int .i64 i3, .bool s3, .slice A3 l3 c3, .slice B3 k3 d3, .int .i64 i4, .bool s4, .slice A4 l4 c4, .slice B4 k4 d4] 70)).cell? ⟨G, 0, none⟩ = some (.int .u64 0) := hst.hG.cell 0
  have g_1 : (w2.alloc (.cells #[.bool false, .int .i64 i3, .bool s3, .slice A3 l3 c3, .slice B3 k3 d3, .int .i64 i4, .bool s4, .slice A4 l4 c4, .slice B4 k4 d4] 70)).cell? ⟨G, 1, none⟩ = some (.int .u64 0) := hst.hG.cell 1
  have fg_0 : (w2.alloc (.cells #[.bool false, .int .i64 i3, .bool s3, .slice A3 l3 c3, .slice B3 k3 d3, .int .i64 i4, .bool s4, .slice A4 l4 c4, .slice B4 k4 d4] 70)).frozen? ⟨G, 0, none⟩ = false := hst.hG.frozen 0
  have fg_1 : (w2.alloc (.cells #[.bool false, .int .i64 i3, .bool s3, .slice A3 l3 c3, .slice B3 k3 d3, .int .i64 i4, .bool s4, .slice A4 l4 c4, .slice B4 k4 d4] 70)).frozen? ⟨G, 1, none⟩ = false := hst.hG.frozen 1
  have fs_0 : (w2.alloc (.cells #[.bool false, .int .i64 i3, .bool s3, .slice A3 l3 c3, .slice B3 k3 d3, .int .i64 i4, .bool s4, .slice A4 l4 c4, .slice B4 k4 d4] 70)).frozen? ⟨w1.heap.size, 0, none⟩ = false := hst.hS.frozen 0
  have fs_1 : (w2.alloc (.cells #[.bool false, .int .i64 i3, .bool s3, .slice A3 l3 c3, .slice B3 k3 d3, .int .i64 i4, .bool s4, .slice A4 l4 c4, .slice B4 k4 d4] 70)).frozen? ⟨w1.heap.size, 1, none⟩ = false := hst.hS.frozen 1
  have fs_2 : (w2.alloc (.cells #[.bool false, .int .i64 i3, .bool s3, .slice A3 l3 c3, .slice B3 k3 d3, .int .i64 i4, .bool s4, .slice A4 l4 c4, .slice B4 k4 d4] 70)).frozen? ⟨w1.heap.size, 2, none⟩ = false := hst.hS.frozen 2
  have fs_3 : (w2.alloc (.cells #[.bool false, .int .i64 i3, .bool s3, .slice A3 l3 c3, .slice B3 k3 d3, .int .i64 i4, .bool s4, .slice A4 l4 c4, .slice B4 k4 d4] 70)).frozen? ⟨w1.heap.size, 3, none⟩ = false := hst.hS.frozen 3
  have fs_4 : (w2.alloc (.cells #[.bool false, .int .i64 i3, .bool s3, .slice A3 l3 c3, .slice B3 k3 d3, .int .i64 i4, .bool s4, .slice A4 l4 c4, .slice B4 k4 d4] 70)).frozen? ⟨w1.heap.size, 4, none⟩ = false := hst.hS.frozen 4
  have fs_5 : (w2.alloc (.cells #[.bool false, .int .i64 i3, .bool s3, .slice A3 l3 c3, .slice B3 k3 d3, .int .i64 i4, .bool s4, .slice A4 l4 c4, .slice B4 k4 d4] 70)).frozen? ⟨w1.heap.size, 5, none⟩ = false := hst.hS.frozen 5
  have fs_6 : (w2.alloc (.cells #[.bool false, .int .i64 i3, .bool s3, .slice A3 l3 c3, .slice B3 k3 d3, .int .i64 i4, .bool s4, .slice A4 l4 c4, .slice B4 k4 d4] 70)).frozen? ⟨w1.heap.size, 6, none⟩ = false := hst.hS.frozen 6
  have fs_7 : (w2.alloc (.cells #[.bool false, .int .i64 i3, .bool s3, .slice A3 l3 c3, .slice B3 k3 d3, .int .i64 i4, .bool s4, .slice A4 l4 c4, .slice B4 k4 d4] 70)).frozen? ⟨w1.heap.size, 7, none⟩ = false := hst.hS.frozen 7
  have fs_8 : (w2.alloc (.cells #[.bool false, .int .i64 i3, .bool s3, .slice A3 l3 c3, .slice B3 k3 d3, .int .i64 i4, .bool s4, .slice A4 l4 c4, .slice B4 k4 d4] 70)).frozen? ⟨w1.heap.size, 8, none⟩ = false := hst.hS.frozen 8
  have lG : G < (w2.alloc (.cells #[.bool false, .int .i64 i3, .bool s3, .slice A3 l3 c3, .slice B3 k3 d3, .int .i64 i4, .bool s4, .slice A4 l4 c4, .slice B4 k4 d4] 70)).heap.size := hst.hG.lt
  have lS : w1.heap.size < (w2.alloc (.cells #[.bool false, .int .i64 i3, .bool s3, .slice A3 l3 c3, .slice B3 k3 d3, .int .i64 i4, .bool s4, .slice A4 l4 c4, .slice B4 k4 d4] 70)).heap.size := hst.hS.lt
  go_wp2_with fail
  clear s_0 t_0 fs_0 s_1 t_1 fs_1 s_2 t_2 fs_2 s_3 t_3 fs_3 s_4 t_4 fs_4 s_5 t_5 fs_5 s_6 t_6 fs_6 s_7 t_7 fs_7 s_8 t_8 fs_8 g_0 g_1 fg_0 fg_1 lG lS
  refine (HC1.out _ _ _ _ _ _ _ _ _ _ _ _ _ hst.r3 hst.r1).mono ?_
  rintro e w3 ⟨rfl, hE3⟩
  have hst3 := hst.ext hE3
  clear hst hE3
  have s_0 : (w3).cell? ⟨w1.heap.size, 0, none⟩ = some (.bool false) := hst3.hS.cell 0
  have s_1 : (w3).cell? ⟨w1.heap.size, 1, none⟩ = some (.int .i64 i1) := hst3.hS.cell 1
  have s_2 : (w3).cell? ⟨w1.heap.size, 2, none⟩ = some (.bool s1) := hst3.hS.cell 2
  have s_3 : (w3).cell? ⟨w1.heap.size, 3, none⟩ = some (.slice A1 l1 c1) := hst3.hS.cell 3
  have s_4 : (w3).cell? ⟨w1.heap.size, 4, none⟩ = some (.slice B1 k1 d1) := hst3.hS.cell 4
  have s_5 : (w3).cell? ⟨w1.heap.size, 5, none⟩ = some (.int .i64 i2) := hst3.hS.cell 5
  have s_6 : (w3).cell? ⟨w1.heap.size, 6, none⟩ = some (.bool s2) := hst3.hS.cell 6
  have s_7 : (w3).cell? ⟨w1.heap.size, 7, none⟩ = some (.slice A2 l2 c2) := hst3.hS.cell 7
  have s_8 : (w3).cell? ⟨w1.heap.size, 8, none⟩ = some (.slice B2 k2 d2) := hst3.hS.cell 8
  have t_0 : (w3).cell? ⟨w2.heap.size, 0, none⟩ = some (.bool false) := hst3.hT.cell 0
  have t_1 : (w3).cell? ⟨w2.heap.size, 1, none⟩ = some (.int .i64 i3) := hst3.hT.cell 1
  have t_2 : (w3).cell? ⟨w2.heap.size, 2, none⟩ = some (.bool s3) := hst3.hT.cell 2
  have t_3 : (w3).cell? ⟨w2.heap.size, 3, none⟩ = some (.slice A3 l3 c3) := hst3.hT.cell 3
  have t_4 : (w3).cell? ⟨w2.heap.size, 4, none⟩ = some (.slice B3 k3 d3) := hst3.hT.cell 4
  have t_5 : (w3).cell? ⟨w2.heap.size, 5, none⟩ = some (.int .i64 i4) := hst3.hT.cell 5
  have t_6 : (w3).cell? ⟨w2.heap.size, 6, none⟩ = some (.bool s4) := hst3.hT.cell 6
  have t_7 : (w3).cell? ⟨w2.heap.size, 7, none⟩ = some (.slice A4 l4 c4) := hst3.hT.cell 7
  have t_8 : (w3).cell? ⟨w2.heap.size, 8, none⟩ = some (.slice B4 k4 d4) := hst3.hT.cell 8
  have g_0 : (w3).cell? ⟨G, 0, none⟩ = some (.int .u64 0) := hst3.hG.cell 0
  have g_1 : (w3).cell? ⟨G, 1, none⟩ = some (.int .u64 0) := hst3.hG.cell 1
  have fg_0 : (w3).frozen? ⟨G, 0, none⟩ = false := hst3.hG.frozen 0
  have fg_1 : (w3).frozen? ⟨G, 1, none⟩ = false := hst3.hG.frozen 1
  have fs_0 : (w3).frozen? ⟨w1.heap.size, 0, none⟩ = false := hst3.hS.frozen 0
  have fs_1 : (w3).frozen? ⟨w1.heap.size, 1, none⟩ = false := hst3.hS.frozen 1
  have fs_2 : (w3).frozen? ⟨w1.heap.size, 2, none⟩ = false := hst3.hS.frozen 2
  have fs_3 : (w3).frozen? ⟨w1.heap.size, 3, none⟩ = false := hst3.hS.frozen 3
  have fs_4 : (w3).frozen? ⟨w1.heap.size, 4, none⟩ = false := hst3.hS.frozen 4
  have fs_5 : (w3).frozen? ⟨w1.heap.size, 5, none⟩ = false := hst3.hS.frozen 5
  have fs_6 : (w3).frozen? ⟨w1.heap.size, 6, none⟩ = false := hst3.hS.frozen 6
  have fs_7 : (w3).frozen? ⟨w1.heap.size, 7, none⟩ = false := hst3.hS.frozen 7
  have fs_8 : (w3).frozen? ⟨w1.heap.size, 8, none⟩ = false := hst3.hS.frozen 8
  have lG : G < (w3).heap.size := hst3.hG.lt
  have lS : w1.heap.size < (w3).heap.size := hst3.hS.lt
  go_wp2_with fail
  clear s_0 t_0 fs_0 s_1 t_1 fs_1 s_2 t_2 fs_2 s_3 t_3 fs_3 s_4 t_4 fs_4 s_5 t_5 fs_5 s_6 t_6 fs_6 s_7 t_7 fs_7 s_8 t_8 fs_8 g_0 g_1 fg_0 fg_1 lG lS
  refine (HC2.out _ _ _ _ _ _ _ _ _ _ _ _ _ hst3.r4 hst3.r2).mono ?_
  rintro e w5 ⟨rfl, hE5⟩
  have hst5 := hst3.ext hE5
  clear hst3 hE5
  have s_0 : (w5).cell? ⟨w1.heap.size, 0, none⟩ = some (.bool false) := hst5.hS.cell 0
  have s_1 : (w5).cell? ⟨w1.heap.size, 1, none⟩ = some (.int .i64 i1) := hst5.hS.cell 1
  have s_2 : (w5).cell? ⟨w1.heap.size, 2, none⟩ = some (.bool s1) := hst5.hS.cell 2
  have s_3 : (w5).cell? ⟨w1.heap.size, 3, none⟩ = some (.slice A1 l1 c1) := hst5.hS.cell 3
  have s_4 : (w5).cell? ⟨w1.heap.size, 4, none⟩ = some (.slice B1 k1 d1) := hst5.hS.cell 4
  have s_5 : (w5).cell? ⟨w1.heap.size, 5, none⟩ = some (.int .i64 i2) := hst5.hS.cell 5
  have s_6 : (w5).cell? ⟨w1.heap.size, 6, none⟩ = some (.bool s2) := hst5.hS.cell 6
  have s_7 : (w5).cell? ⟨w1.heap.size, 7, none⟩ = some (.slice A2 l2 c2) := hst5.hS.cell 7
  have s_8 : (w5).cell? ⟨w1.heap.size, 8, none⟩ = some (.slice B2 k2 d2) := hst5.hS.cell 8
  have t_0 : (w5).cell? ⟨w2.heap.size, 0, none⟩ = some (.bool false) := hst5.hT.cell 0
  have t_1 : (w5).cell? ⟨w2.heap.size, 1, none⟩ = some (.int .i64 i3) := hst5.hT.cell 1
  have t_2 : (w5).cell? ⟨w2.heap.size, 2, none⟩ = some (.bool s3) := hst5.hT.cell 2
  have t_3 : (w5).cell? ⟨w2.heap.size, 3, none⟩ = some (.slice A3 l3 c3) := hst5.hT.cell 3
  have t_4 : (w5).cell? ⟨w2.heap.size, 4, none⟩ = some (.slice B3 k3 d3) := hst5.hT.cell 4
  have t_5 : (w5).cell? ⟨w2.heap.size, 5, none⟩ = some (.int .i64 i4) := hst5.hT.cell 5
  have t_6 : (w5).cell? ⟨w2.heap.size, 6, none⟩ = some (.bool s4) := hst5.hT.cell 6
  have t_7 : (w5).cell? ⟨w2.heap.size, 7, none⟩ = some (.slice A4 l4 c4) := hst5.hT.cell 7
  have t_8 : (w5).cell? ⟨w2.heap.size, 8, none⟩ = some (.slice B4 k4 d4) := hst5.hT.cell 8
  have g_0 : (w5).cell? ⟨G, 0, none⟩ = some (.int .u64 0) := hst5.hG.cell 0
  have g_1 : (w5).cell? ⟨G, 1, none⟩ = some (.int .u64 0) := hst5.hG.cell 1
  have fg_0 : (w5).frozen? ⟨G, 0, none⟩ = false := hst5.hG.frozen 0
  have fg_1 : (w5).frozen? ⟨G, 1, none⟩ = false := hst5.hG.frozen 1
  have fs_0 : (w5).frozen? ⟨w1.heap.size, 0, none⟩ = false := hst5.hS.frozen 0
  have fs_1 : (w5).frozen? ⟨w1.heap.size, 1, none⟩ = false := hst5.hS.frozen 1
  have fs_2 : (w5).frozen? ⟨w1.heap.size, 2, none⟩ = false := hst5.hS.frozen 2
  have fs_3 : (w5).frozen? ⟨w1.heap.size, 3, none⟩ = false := hst5.hS.frozen 3
  have fs_4 : (w5).frozen? ⟨w1.heap.size, 4, none⟩ = false := hst5.hS.frozen 4
  have fs_5 : (w5).frozen? ⟨w1.heap.size, 5, none⟩ = false := hst5.hS.frozen 5
  have fs_6 : (w5).frozen? ⟨w1.heap.size, 6, none⟩ = false := hst5.hS.frozen 6
  have fs_7 : (w5).frozen? ⟨w1.heap.size, 7, none⟩ = false := hst5.hS.frozen 7
  have fs_8 : (w5).frozen? ⟨w1.heap.size, 8, none⟩ = false := hst5.hS.frozen 8
  have lG : G < (w5).heap.size := hst5.hG.lt
  have lS : w1.heap.size < (w5).heap.size := hst5.hS.lt
  go_wp2_with fail
  clear s_0 t_0 fs_0 s_1 t_1 fs_1 s_2 t_2 fs_2 s_3 t_3 fs_3 s_4 t_4 fs_4 s_5 t_5 fs_5 s_6 t_6 fs_6 s_7 t_7 fs_7 s_8 t_8 fs_8 g_0 g_1 fg_0 fg_1 lG lS
  refine (HL.out _ _ _ _ _ _ _ _ _ _ _ _ _ hst5.r1 hst5.r2).mono ?_
  rintro e w7 ⟨rfl, hE7⟩
  have hst7 := hst5.ext hE7
  clear hst5 hE7
  have s_0 : (w7).cell? ⟨w1.heap.size, 0, none⟩ = some (.bool false) := hst7.hS.cell 0
  have s_1 : (w7).cell? ⟨w1.heap.size, 1, none⟩ = some (.int .i64 i1) := hst7.hS.cell 1
  have s_2 : (w7).cell? ⟨w1.heap.size, 2, none⟩ = some (.bool s1) := hst7.hS.cell 2
  have s_3 : (w7).cell? ⟨w1.heap.size, 3, none⟩ = some (.slice A1 l1 c1) := hst7.hS.cell 3
  have s_4 : (w7).cell? ⟨w1.heap.size, 4, none⟩ = some (.slice B1 k1 d1) := hst7.hS.cell 4
  have s_5 : (w7).cell? ⟨w1.heap.size, 5, none⟩ = some (.int .i64 i2) := hst7.hS.cell 5
  have s_6 : (w7).cell? ⟨w1.heap.size, 6, none⟩ = some (.bool s2) := hst7.hS.cell 6
  have s_7 : (w7).cell? ⟨w1.heap.size, 7, none⟩ = some (.slice A2 l2 c2) := hst7.hS.cell 7
  have s_8 : (w7).cell? ⟨w1.heap.size, 8, none⟩ = some (.slice B2 k2 d2) := hst7.hS.cell 8
  have t_0 : (w7).cell? ⟨w2.heap.size, 0, none⟩ = some (.bool false) := hst7.hT.cell 0
  have t_1 : (w7).cell? ⟨w2.heap.size, 1, none⟩ = some (.int .i64 i3) := hst7.hT.cell 1
  have t_2 : (w7).cell? ⟨w2.heap.size, 2, none⟩ = some (.bool s3) := hst7.hT.cell 2
  have t_3 : (w7).cell? ⟨w2.heap.size, 3, none⟩ = some (.slice A3 l3 c3) := hst7.hT.cell 3
  have t_4 : (w7).cell? ⟨w2.heap.size, 4, none⟩ = some (.slice B3 k3 d3) := hst7.hT.cell 4
  have t_5 : (w7).cell? ⟨w2.heap.size, 5, none⟩ = some (.int .i64 i4) := hst7.hT.cell 5
  have t_6 : (w7).cell? ⟨w2.heap.size, 6, none⟩ = some (.bool s4) := hst7.hT.cell 6
  have t_7 : (w7).cell? ⟨w2.heap.size, 7, none⟩ = some (.slice A4 l4 c4) := hst7.hT.cell 7
  have t_8 : (w7).cell? ⟨w2.heap.size, 8, none⟩ = some (.slice B4 k4 d4) := hst7.hT.cell 8
  have g_0 : (w7).cell? ⟨G, 0, none⟩ = some (.int .u64 0) := hst7.hG.cell 0
  have g_1 : (w7).cell? ⟨G, 1, none⟩ = some (.int .u64 0) := hst7.hG.cell 1
  have fg_0 : (w7).frozen? ⟨G, 0, none⟩ = false := hst7.hG.frozen 0
  have fg_1 : (w7).frozen? ⟨G, 1, none⟩ = false := hst7.hG.frozen 1
  have fs_0 : (w7).frozen? ⟨w1.heap.size, 0, none⟩ = false := hst7.hS.frozen 0
  have fs_1 : (w7).frozen? ⟨w1.heap.size, 1, none⟩ = false := hst7.hS.frozen 1
  have fs_2 : (w7).frozen? ⟨w1.heap.size, 2, none⟩ = false := hst7.hS.frozen 2
  have fs_3 : (w7).frozen? ⟨w1.heap.size, 3, none⟩ = false := hst7.hS.frozen 3
  have fs_4 : (w7).frozen? ⟨w1.heap.size, 4, none⟩ = false := hst7.hS.frozen 4
  have fs_5 : (w7).frozen? ⟨w1.heap.size, 5, none⟩ = false := hst7.hS.frozen 5
  have fs_6 : (w7).frozen? ⟨w1.heap.size, 6, none⟩ = false := hst7.hS.frozen 6
  have fs_7 : (w7).frozen? ⟨w1.heap.size, 7, none⟩ = false := hst7.hS.frozen 7
  have fs_8 : (w7).frozen? ⟨w1.heap.size, 8, none⟩ = false := hst7.hS.frozen 8
  have lG : G < (w7).heap.size := hst7.hG.lt
  have lS : w1.heap.size < (w7).heap.size := hst7.hS.lt
  go_wp2_with fail
  exact bodyPost_ret (v := .agg #[.int .u64 (r1 : Int), .int .u64 (r2 : Int)]) (by simp [results, Try.results36, go_sem, lG, g_0, g_1]) rfl ⟨rfl, (hst7.ex.setCell hGw _).setCell hGw _⟩

set_option maxHeartbeats 4000000 in
theorem max7_ny (x1 x2 y1 y2 : Nat) (i1 : Int) (s1 : Bool) (N1 D1 : Nat) (i2 : Int) (s2 : Bool) (N2 D2 : Nat) (i3 : Int) (s3 : Bool) (N3 D3 : Nat) (i4 : Int) (s4 : Bool) (N4 D4 : Nat) (v1 v2 : Int) (r1 r2 : Nat) (w : World)
    (HO1 : Hid (∀ w, Calls Try.prog 63 #[.agg #[.int .u64 (x1 : Int), .int .u64 (x2 : Int)]] w (RetSet false i1 s1 N1 D1 i2 s2 N2 D2 w)))
    (HO2 : Hid (∀ w, Calls Try.prog 63 #[.agg #[.int .u64 (y1 : Int), .int .u64 (y2 : Int)]] w (RetSet false i3 s3 N3 D3 i4 s4 N4 D4 w)))
    (HC1 : Hid (∀ A3 l3 c3 B3 k3 d3 A1 l1 c1 B1 k1 d1 w, RatAt w A3 l3 c3 B3 k3 d3 N3 D3 → RatAt w A1 l1 c1 B1 k1 d1 N1 D1 → Calls Try.prog 65 #[.agg #[.int .i64 i3, .bool s3, .slice A3 l3 c3, .slice B3 k3 d3], .agg #[.int .i64 i1, .bool s1, .slice A1 l1 c1, .slice B1 k1 d1]] w fun e w' => e = .returned (.int .i64 v1) ∧ Ext w w'))
    (HC2 : Hid (∀ A4 l4 c4 B4 k4 d4 A2 l2 c2 B2 k2 d2 w, RatAt w A4 l4 c4 B4 k4 d4 N4 D4 → RatAt w A2 l2 c2 B2 k2 d2 N2 D2 → Calls Try.prog 65 #[.agg #[.int .i64 i4, .bool s4, .slice A4 l4 c4, .slice B4 k4 d4], .agg #[.int .i64 i2, .bool s2, .slice A2 l2 c2, .slice B2 k2 d2]] w fun e w' => e = .returned (.int .i64 v2) ∧ Ext w w'))
    (HL : Hid (∀ A1 l1 c1 B1 k1 d1 A4 l4 c4 B4 k4 d4 w, RatAt w A1 l1 c1 B1 k1 d1 N1 D1 → RatAt w A4 l4 c4 B4 k4 d4 N4 D4 → Calls Try.prog 61 #[.agg #[.bool false, .int .i64 i1, .bool s1, .slice A1 l1 c1, .slice B1 k1 d1, .int .i64 i4, .bool s4, .slice A4 l4 c4, .slice B4 k4 d4]] w (RetI r1 r2 w)))
    (hx1 : decide (0 < v1) = false) (hx2 : decide (0 < v2) = true) :
    Calls Try.prog 36 #[.agg #[.int .u64 (x1 : Int), .int .u64 (x2 : Int)], .agg #[.int .u64 (y1 : Int), .int .u64 (y2 : Int)]] w (RetI r1 r2 w) := by
  have hb2 : Blk (((w.alloc (.cells #[.int .u64 (x1 : Int), .int .u64 (x2 : Int)] 24)).alloc (.cells #[.int .u64 (y1 : Int), .int .u64 (y2 : Int)] 24)).alloc (.cells #[.int .u64 0, .int .u64 0] 24)) (w.heap.size + 1) 24 #[.int .u64 (y1 : Int), .int .u64 (y2 : Int)] := (Blk.next w (.cells #[.int .u64 (x1 : Int), .int .u64 (x2 : Int)] 24) 24 #[.int .u64 (y1 : Int), .int .u64 (y2 : Int)]).ext ((Ext.refl _).alloc _)
  have hbG : Blk (((w.alloc (.cells #[.int .u64 (x1 : Int), .int .u64 (x2 : Int)] 24)).alloc (.cells #[.int .u64 (y1 : Int), .int .u64 (y2 : Int)] 24)).alloc (.cells #[.int .u64 0, .int .u64 0] 24)) (w.heap.size + 1 + 1) 24 #[.int .u64 0, .int .u64 0] := by
    have := Blk.next (w.alloc (.cells #[.int .u64 (x1 : Int), .int .u64 (x2 : Int)] 24)) (.cells #[.int .u64 (y1 : Int), .int .u64 (y2 : Int)] 24) 24 #[.int .u64 0, .int .u64 0]
    rwa [show (w.alloc (.cells #[.int .u64 (x1 : Int), .int .u64 (x2 : Int)] 24)).heap.size = w.heap.size + 1 by simp] at this
  have hEw : Ext w (((w.alloc (.cells #[.int .u64 (x1 : Int), .int .u64 (x2 : Int)] 24)).alloc (.cells #[.int .u64 (y1 : Int), .int .u64 (y2 : Int)] 24)).alloc (.cells #[.int .u64 0, .int .u64 0] 24)) := (((Ext.refl w).alloc _).alloc _).alloc _
  go_enter Try.func36, Try.ntmps36
  go_wp2_with fail
  refine (HO1.out _).mono ?_
  rintro e w1 ⟨A1, l1, c1, B1, k1, d1, A2, l2, c2, B2, k2, d2, rfl, h1, h2, hE1⟩
  obtain ⟨G, hG⟩ : ∃ G, G = w.heap.size + 1 + 1 := ⟨_, rfl⟩
  rw [show w.heap.size + 2 = G by omega]
  rw [← hG] at hbG
  have hGw : w.heap.size ≤ G := by omega
  have hE1' : Ext w1 (w1.alloc (.cells #[.bool false, .int .i64 i1, .bool s1, .slice A1 l1 c1, .slice B1 k1 d1, .int .i64 i2, .bool s2, .slice A2 l2 c2, .slice B2 k2 d2] 70)) := (Ext.refl w1).alloc _
  have hlt2 : G < w1.heap.size := by have a := hbG.lt; have b := hE1.size; omega
  have hlt3 : w.heap.size ≤ w1.heap.size := by omega
  have hb21 := (hb2.ext hE1).ext hE1'
  have hbG1 := (hbG.ext hE1).ext hE1'
  have hbS := Blk.new w1 70 #[.bool false, .int .i64 i1, .bool s1, .slice A1 l1 c1, .slice B1 k1 d1, .int .i64 i2, .bool s2, .slice A2 l2 c2, .slice B2 k2 d2]
  have h11 := h1.ext hE1'
  have h21 := h2.ext hE1'
  have hEw1 := (hEw.trans hE1).trans hE1'
  clear hb2 hbG h1 h2 hE1 hE1' hEw hG
  have j_0 : (w1.alloc (.cells #[.bool false, .int .i64 i1, .bool s1, .slice A1 l1 c1, .slice B1 k1 d1, .int .i64 i2, .bool s2, .slice A2 l2 c2, .slice B2 k2 d2] 70)).cell? ⟨w.heap.size + 1, 0, none⟩ = some (.int .u64 (y1 : Int)) := hb21.cell 0
  have j_1 : (w1.alloc (.cells #[.bool false, .int .i64 i1, .bool s1, .slice A1 l1 c1, .slice B1 k1 d1, .int .i64 i2, .bool s2, .slice A2 l2 c2, .slice B2 k2 d2] 70)).cell? ⟨w.heap.size + 1, 1, none⟩ = some (.int .u64 (y2 : Int)) := hb21.cell 1
  go_wp2_with fail
  clear j_0 j_1
  refine (HO2.out _).mono ?_
  rintro e w2 ⟨A3, l3, c3, B3, k3, d3, A4, l4, c4, B4, k4, d4, rfl, h3, h4, hE2⟩
  have hE2' : Ext (w1.alloc (.cells #[.bool false, .int .i64 i1, .bool s1, .slice A1 l1 c1, .slice B1 k1 d1, .int .i64 i2, .bool s2, .slice A2 l2 c2, .slice B2 k2 d2] 70)) (w2.alloc (.cells #[.bool false, .int .i64 i3, .bool s3, .slice A3 l3 c3, .slice B3 k3 d3, .int .i64 i4, .bool s4, .slice A4 l4 c4, .slice B4 k4 d4] 70)) := hE2.alloc _
  have hst : MM G w1.heap.size w2.heap.size false false i1 s1 A1 l1 c1 B1 k1 d1 N1 D1 i2 s2 A2 l2 c2 B2 k2 d2 N2 D2 i3 s3 A3 l3 c3 B3 k3 d3 N3 D3 i4 s4 A4 l4 c4 B4 k4 d4 N4 D4 w (w2.alloc (.cells #[.bool false, .int .i64 i3, .bool s3, .slice A3 l3 c3, .slice B3 k3 d3, .int .i64 i4, .bool s4, .slice A4 l4 c4, .slice B4 k4 d4] 70)) :=
    ⟨hbG1.ext hE2', hbS.ext hE2', Blk.new w2 _ _, h11.ext hE2', h21.ext hE2', h3.ext ((Ext.refl w2).alloc _), h4.ext ((Ext.refl w2).alloc _), hEw1.trans hE2', hlt3, hlt2, by have a := hbS.lt; have b := hE2.size; omega⟩
  clear hb21 hbG1 hbS h11 h21 hEw1 h3 h4 hE2 hE2' hlt2 hlt3
  have s_0 : (w2.alloc (.cells #[.bool false, .int .i64 i3, .bool s3, .slice A3 l3 c3, .slice B3 k3 d3, .int .i64 i4, .bool s4, .slice A4 l4 c4, .slice B4 k4 d4] 70)).cell? ⟨w1.heap.size, 0, none⟩ = some (.bool false) := hst.hS.cell 0
  have s_1 : (w2.alloc (.cells #[.bool false, .int .i64 i3, .bool s3, .slice A3 l3 c3, .slice B3 k3 d3, .int .i64 i4, .bool s4, .slice A4 l4 c4, .slice B4 k4 d4] 70)).cell? ⟨w1.heap.size, 1, none⟩ = some (.int .i64 i1) := hst.hS.cell 1
  have s_2 : (w2.alloc (.cells #[.bool false, .int .i64 i3, .bool s3, .slice A3 l3 c3, .slice B3 k3 d3, .int .i64 i4, .bool s4, .slice A4 l4 c4, .slice B4 k4 d4] 70)).cell? ⟨w1.heap.size, 2, none⟩ = some (.bool s1) := hst.hS.cell 2
  have s_3 : (w2.alloc (.cells #[.bool false, .int .i64 i3, .bool s3, .slice A3 l3 c3, .slice B3 k3 d3, .int .i64 i4, .bool s4, .slice A4 l4 c4, .slice B4 k4 d4] 70)).cell? ⟨w1.heap.size, 3, none⟩ = some (.slice A1 l1 c1) := hst.hS.cell 3
  have s_4 : (w2.alloc (.cells #[.bool false, .int .i64 i3, .bool s3, .slice A3 l3 c3, .slice B3 k3 d3, .int .i64 i4, .bool s4, .slice A4 l4 c4, .slice B4 k4 d4] 70)).cell? ⟨w1.heap.size, 4, none⟩ = some (.slice B1 k1 d1) := hst.hS.cell 4
  have s_5 : (w2.alloc (.cells #[.bool false, .int .i64 i3, .bool s3, .slice A3 l3 c3, .slice B3 k3 d3, .int .i64 i4, .bool s4, .slice A4 l4 c4, .slice B4 k4 d4] 70)).cell? ⟨w1.heap.size, 5, none⟩ = some (.int .i64 i2) := hst.hS.cell 5
  have s_6 : (w2.alloc (.cells #[.bool false, .int .i64 i3, .bool s3, .slice A3 l3 c3, .slice B3 k3 d3, .int .i64 i4, .bool s4, .slice A4 l4 c4, .slice B4 k4 d4] 70)).cell? ⟨w1.heap.size, 6, none⟩ = some (.bool s2) := hst.hS.cell 6
  have s_7 : (w2.alloc (.cells #[.bool false, .int .i64 i3, .bool s3, .slice A3 l3 c3, .slice B3 k3 d3, .int .i64 i4, .bool s4, .slice A4 l4 c4, .slice B4 k4 d4] 70)).cell? ⟨w1.heap.size, 7, none⟩ = some (.slice A2 l2 c2) := hst.hS.cell 7
  have s_8 : (w2.alloc (.cells #[.bool false, .int .i64 i3, .bool s3, .slice A3 l3 c3, .slice B3 k3 d3, .int .i64 i4, .bool s4, .slice A4 l4 c4, .slice B4 k4 d4] 70)).cell? ⟨w1.heap.size, 8, none⟩ = some (.slice B2 k2 d2) := hst.hS.cell 8
  have t_0 : (w2.alloc (.cells #[.bool false, .int .i64 i3, .bool s3, .slice A3 l3 c3, .slice B3 k3 d3, .int .i64 i4, .bool s4, .slice A4 l4 c4, .slice B4 k4 d4] 70)).cell? ⟨w2.heap.size, 0, none⟩ = some (.bool false) := hst.hT.cell 0
  have t_1 : (w2.alloc (.cells #[.bool false, .int .i64 i3, .bool s3, .slice A3 l3 c3, .slice B3 k3 d3, .int .i64 i4, .bool s4, .slice A4 l4 c4, .slice B4 k4 d4] 70)).cell? ⟨w2.heap.size, 1, none⟩ = some (.int .i64 i3) := hst.hT.cell 1
  have t_2 : (w2.alloc (.cells #[.bool false, .int .i64 i3, .bool s3, .slice A3 l3 c3, .slice B3 k3 d3, .int .i64 i4, .bool s4, .slice A4 l4 c4, .slice B4 k4 d4] 70)).cell? ⟨w2.heap.size, 2, none⟩ = some (.bool s3) := hst.hT.cell 2
  have t_3 : (w2.alloc (.cells #[.bool false, .int .i64 i3, .bool s3, .slice A3 l3 c3, .slice B3 k3 d3, .int .i64 i4, .bool s4, .slice A4 l4 c4, .slice B4 k4 d4] 70)).cell? ⟨w2.heap.size, 3, none⟩ = some (.slice A3 l3 c3) := hst.hT.cell 3
  have t_4 : (w2.alloc (.cells #[.bool false, .int .i64 i3, .bool s3, .slice A3 l3 c3, .slice B3 k3 d3, .int .i64 i4, .bool s4, .slice A4 l4 c4, .slice B4 k4 d4] 70)).cell? ⟨w2.heap.size, 4, none⟩ = some (.slice B3 k3 d3) := hst.hT.cell 4
  have t_5 : (w2.alloc (.cells #[.bool false, .int .i64 i3, .bool s3, .slice A3 l3 c3, .slice B3 k3 d3, .int .i64 i4, .bool s4, .slice A4 l4 c4, .slice B4 k4 d4] 70)).cell? ⟨w2.heap.size, 5, none⟩ = some (.int .i64 i4) := hst.hT.cell 5
  have t_6 : (w2.alloc (.cells #[.bool false, .int .i64 i3, .bool s3, .slice A3 l3 c3, .slice B3 k3 d3, .int .i64 i4, .bool s4, .slice A4 l4 c4, .slice B4 k4 d4] 70)).cell? ⟨w2.heap.size, 6, none⟩ = some (.bool s4) := hst.hT.cell 6
  have t_7 : (w2.alloc (.cells #[.bool false, .int .i64 i3, .bool s3, .slice A3 l3 c3, .slice B3 k3 d3, .int .i64 i4, .bool s4, .slice A4 l4 c4, .slice B4 k4 d4] 70)).cell? ⟨w2.heap.size, 7, none⟩ = some (.slice A4 l4 c4) := hst.hT.cell 7
  have t_8 : (w2.alloc (.cells #[.bool false, .int .i64 i3, .bool s3, .slice A3 l3 c3, .slice B3 k3 d3, .int .i64 i4, .bool s4, .slice A4 l4 c4, .slice B4 k4 d4] 70)).cell? ⟨w2.heap.size, 8, none⟩ = some (.slice B4 k4 d4) := hst.hT.cell 8
  have g_0 : (w2.alloc (.cells #[.bool false, .int .i64 i3, .bool s3, .slice A3 l3 c3, .slice B3 k3 d3, .int .i64 i4, .bool s4, .slice A4 l4 c4, .slice B4 k4 d4] 70)).cell? ⟨G, 0, none⟩ = some (.int .u64 0) := hst.hG.cell 0
  have g_1 : (w2.alloc (.cells #[.bool false, .int .i64 i3, .bool s3, .slice A3 l3 c3, .slice B3 k3 d3, .int .i64 i4, .bool s4, .slice A4 l4 c4, .slice B4 k4 d4] 70)).cell? ⟨G, 1, none⟩ = some (.int .u64 0) := hst.hG.cell 1
  have fg_0 : (w2.alloc (.cells #[.bool false, .int .i64 i3, .bool s3, .slice A3 l3 c3, .slice B3 k3 d3, .int .i64 i4, .bool s4, .slice A4 l4 c4, .slice B4 k4 d4] 70)).frozen? ⟨G, 0, none⟩ = false := hst.hG.frozen 0
  have fg_1 : (w2.alloc (.cells #[.bool false, .int .i64 i3, .bool s3, .slice A3 l3 c3, .slice B3 k3 d3, .int .i64 i4, .bool s4, .slice A4 l4 c4, .slice B4 k4 d4] 70)).frozen? ⟨G, 1, none⟩ = false := hst.hG.frozen 1
  have fs_0 : (w2.alloc (.cells #[.bool false, .int .i64 i3, .bool s3, .slice A3 l3 c3, .slice B3 k3 d3, .int .i64 i4, .bool s4, .slice A4 l4 c4, .slice B4 k4 d4] 70)).frozen? ⟨w1.heap.size, 0, none⟩ = false := hst.hS.frozen 0
  have fs_1 : (w2.alloc (.cells #[.bool false, .int .i64 i3, .bool s3, .slice A3 l3 c3, .slice B3 k3 d3, .int .i64 i4, .bool s4, .slice A4 l4 c4, .slice B4 k4 d4] 70)).frozen? ⟨w1.heap.size, 1, none⟩ = false := hst.hS.frozen 1
  have fs_2 : (w2.alloc (.cells #[.bool false, .int .i64 i3, .bool s3, .slice A3 l3 c3, .slice B3 k3 d3, .int .i64 i4, .bool s4, .slice A4 l4 c4, .slice B4 k4 d4] 70)).frozen? ⟨w1.heap.size, 2, none⟩ = false := hst.hS.frozen 2
  have fs_3 : (w2.alloc (.cells #[.bool false, .int .i64 i3, .bool s3, .slice A3 l3 c3, .slice B3 k3 d3, .int .i64 i4, .bool s4, .slice A4 l4 c4, .slice B4 k4 d4] 70)).frozen? ⟨w1.heap.size, 3, none⟩ = false := hst.hS.frozen 3
  have fs_4 : (w2.alloc (.cells #[.bool false, .int .i64 i3, .bool s3, .slice A3 l3 c3, .slice B3 k3 d3, .int .i64 i4, .bool s4, .slice A4 l4 c4, .slice B4 k4 d4] 70)).frozen? ⟨w1.heap.size, 4, none⟩ = false := hst.hS.frozen 4
  have fs_5 : (w2.alloc (.cells #[.bool false, .int .i64 i3, .bool s3, .slice A3 l3 c3, .slice B3 k3 d3, .int .i64 i4, .bool s4, .slice A4 l4 c4, .slice B4 k4 d4] 70)).frozen? ⟨w1.heap.size, 5, none⟩ = false := hst.hS.frozen 5
  have fs_6 : (w2.alloc (.cells #[.bool false, .int .i64 i3, .bool s3, .slice A3 l3 c3, .slice B3 k3 d3, .int .i64 i4, .bool s4, .slice A4 l4 c4, .slice B4 k4 d4] 70)).frozen? ⟨w1.heap.size, 6, none⟩ = false := hst.hS.frozen 6
  have fs_7 : (w2.alloc (.cells #[.bool false, .int .i64 i3, .bool s3, .slice A3 l3 c3, .slice B3 k3 d3, .int .i64 i4, .bool s4, .slice A4 l4 c4, .slice B4 k4 d4] 70)).frozen? ⟨w1.heap.size, 7, none⟩ = false := hst.hS.frozen 7
  have fs_8 : (w2.alloc (.cells #[.bool false, .int .i64 i3, .bool s3, .slice A3 l3 c3, .slice B3 k3 d3, .int .i64 i4, .bool s4, .slice A4 l4 c4, .slice B4 k4 d4] 70)).frozen? ⟨w1.heap.size, 8, none⟩ = false := hst.hS.frozen 8
  have lG : G < (w2.alloc (.cells #[.bool false, .int .i64 i3, .bool s3, .slice A3 l3 c3, .slice B3 k3 d3, .int .i64 i4, .bool s4, .slice A4 l4 c4, .slice B4 k4 d4] 70)).heap.size := hst.hG.lt
  have lS : w1.heap.size < (w2.alloc (.cells #[.bool false, .int .i64 i3, .bool s3, .slice A3 l3 c3, .slice B3 k3 d3, .int .i64 i4, .bool s4, .slice A4 l4 c4, .slice B4 k4 d4] 70)).heap.size := hst.hS.lt
  go_wp2_with fail
  clear s_0 t_0 fs_0 s_1 t_1 fs_1 s_2 t_2 fs_2 s_3 t_3 fs_3 s_4 t_4 fs_4 s_5 t_5 fs_5 s_6 t_6 fs_6 s_7 t_7 fs_7 s_8 t_8 fs_8 g_0 g_1 fg_0 fg_1 lG lS
  refine (HC1.out _ _ _ _ _ _ _ _ _ _ _ _ _ hst.r3 hst.r1).mono ?_
  rintro e w3 ⟨rfl, hE3⟩
  have hst3 := hst.ext hE3
  clear hst hE3
  have s_0 : (w3).cell? ⟨w1.heap.size, 0, none⟩ = some (.bool false) := hst3.hS.cell 0
  have s_1 : (w3).cell? ⟨w1.heap.size, 1, none⟩ = some (.int .i64 i1) := hst3.hS.cell 1
  have s_2 : (w3).cell? ⟨w1.heap.size, 2, none⟩ = some (.bool s1) := hst3.hS.cell 2
  have s_3 : (w3).cell? ⟨w1.heap.size, 3, none⟩ = some (.slice A1 l1 c1) := hst3.hS.cell 3
  have s_4 : (w3).cell? ⟨w1.heap.size, 4, none⟩ = some (.slice B1 k1 d1) := hst3.hS.cell 4
  have s_5 : (w3).cell? ⟨w1.heap.size, 5, none⟩ = some (.int .i64 i2) := hst3.hS.cell 5
  have s_6 : (w3).cell? ⟨w1.heap.size, 6, none⟩ = some (.bool s2) := hst3.hS.cell 6
  have s_7 : (w3).cell? ⟨w1.heap.size, 7, none⟩ = some (.slice A2 l2 c2) := hst3.hS.cell 7
  have s_8 : (w3).cell? ⟨w1.heap.size, 8, none⟩ = some (.slice B2 k2 d2) := hst3.hS.cell 8
  have t_0 : (w3).cell? ⟨w2.heap.size, 0, none⟩ = some (.bool false) := hst3.hT.cell 0
  have t_1 : (w3).cell? ⟨w2.heap.size, 1, none⟩ = some (.int .i64 i3) := hst3.hT.cell 1
  have t_2 : (w3).cell? ⟨w2.heap.size, 2, none⟩ = some (.bool s3) := hst3.hT.cell 2
  have t_3 : (w3).cell? ⟨w2.heap.size, 3, none⟩ = some (.slice A3 l3 c3) := hst3.hT.cell 3
  have t_4 : (w3).cell? ⟨w2.heap.size, 4, none⟩ = some (.slice B3 k3 d3) := hst3.hT.cell 4
  have t_5 : (w3).cell? ⟨w2.heap.size, 5, none⟩ = some (.int .i64 i4) := hst3.hT.cell 5
  have t_6 : (w3).cell? ⟨w2.heap.size, 6, none⟩ = some (.bool s4) := hst3.hT.cell 6
  have t_7 : (w3).cell? ⟨w2.heap.size, 7, none⟩ = some (.slice A4 l4 c4) := hst3.hT.cell 7
  have t_8 : (w3).cell? ⟨w2.heap.size, 8, none⟩ = some (.slice B4 k4 d4) := hst3.hT.cell 8
  have g_0 : (w3).cell? ⟨G, 0, none⟩ = some (.int .u64 0) := hst3.hG.cell 0
  have g_1 : (w3).cell? ⟨G, 1, none⟩ = some (.int .u64 0) := hst3.hG.cell 1
  have fg_0 : (w3).frozen? ⟨G, 0, none⟩ = false := hst3.hG.frozen 0
  have fg_1 : (w3).frozen? ⟨G, 1, none⟩ = false := hst3.hG.frozen 1
  have fs_0 : (w3).frozen? ⟨w1.heap.size, 0, none⟩ = false := hst3.hS.frozen 0
  have fs_1 : (w3).frozen? ⟨w1.heap.size, 1, none⟩ = false := hst3.hS.frozen 1
  have fs_2 : (w3).frozen? ⟨w1.heap.size, 2, none⟩ = false := hst3.hS.frozen 2
  have fs_3 : (w3).frozen? ⟨w1.heap.size, 3, none⟩ = false := hst3.hS.frozen 3
  have fs_4 : (w3).frozen? ⟨w1.heap.size, 4, none⟩ = false := hst3.hS.frozen 4
  have fs_5 : (w3).frozen? ⟨w1.heap.size, 5, none⟩ = false := hst3.hS.frozen 5
  have fs_6 : (w3).frozen? ⟨w1.heap.size, 6, none⟩ = false := hst3.hS.frozen 6
  have fs_7 : (w3).frozen? ⟨w1.heap.size, 7, none⟩ = false := hst3.hS.frozen 7
  have fs_8 : (w3).frozen? ⟨w1.heap.size, 8, none⟩ = false := hst3.hS.frozen 8
  have lG : G < (w3).heap.size := hst3.hG.lt
  have lS : w1.heap.size < (w3).heap.size := hst3.hS.lt
  go_wp2_with fail
  clear s_0 t_0 fs_0 s_1 t_1 fs_1 s_2 t_2 fs_2 s_3 t_3 fs_3 s_4 t_4 fs_4 s_5 t_5 fs_5 s_6 t_6 fs_6 s_7 t_7 fs_7 s_8 t_8 fs_8 g_0 g_1 fg_0 fg_1 lG lS
  refine (HC2.out _ _ _ _ _ _ _ _ _ _ _ _ _ hst3.r4 hst3.r2).mono ?_
  rintro e w5 ⟨rfl, hE5⟩
  have hst5 := hst3.ext hE5
  clear hst3 hE5
  have hst6 := hst5.setB
  have u_0 : (w5).cell? ⟨w2.heap.size, 0, none⟩ = some (.bool false) := hst5.hT.cell 0
  have u_1 : (w5).cell? ⟨w2.heap.size, 1, none⟩ = some (.int .i64 i3) := hst5.hT.cell 1
  have u_2 : (w5).cell? ⟨w2.heap.size, 2, none⟩ = some (.bool s3) := hst5.hT.cell 2
  have u_3 : (w5).cell? ⟨w2.heap.size, 3, none⟩ = some (.slice A3 l3 c3) := hst5.hT.cell 3
  have u_4 : (w5).cell? ⟨w2.heap.size, 4, none⟩ = some (.slice B3 k3 d3) := hst5.hT.cell 4
  have u_5 : (w5).cell? ⟨w2.heap.size, 5, none⟩ = some (.int .i64 i4) := hst5.hT.cell 5
  have u_6 : (w5).cell? ⟨w2.heap.size, 6, none⟩ = some (.bool s4) := hst5.hT.cell 6
  have u_7 : (w5).cell? ⟨w2.heap.size, 7, none⟩ = some (.slice A4 l4 c4) := hst5.hT.cell 7
  have u_8 : (w5).cell? ⟨w2.heap.size, 8, none⟩ = some (.slice B4 k4 d4) := hst5.hT.cell 8
  have fu_0 : (w5).frozen? ⟨w1.heap.size, 0, none⟩ = false := hst5.hS.frozen 0
  have fu_1 : (w5).frozen? ⟨w1.heap.size, 1, none⟩ = false := hst5.hS.frozen 1
  have fu_2 : (w5).frozen? ⟨w1.heap.size, 2, none⟩ = false := hst5.hS.frozen 2
  have fu_3 : (w5).frozen? ⟨w1.heap.size, 3, none⟩ = false := hst5.hS.frozen 3
  have fu_4 : (w5).frozen? ⟨w1.heap.size, 4, none⟩ = false := hst5.hS.frozen 4
  have fu_5 : (w5).frozen? ⟨w1.heap.size, 5, none⟩ = false := hst5.hS.frozen 5
  have fu_6 : (w5).frozen? ⟨w1.heap.size, 6, none⟩ = false := hst5.hS.frozen 6
  have fu_7 : (w5).frozen? ⟨w1.heap.size, 7, none⟩ = false := hst5.hS.frozen 7
  have fu_8 : (w5).frozen? ⟨w1.heap.size, 8, none⟩ = false := hst5.hS.frozen 8
  have lu : w1.heap.size < (w5).heap.size := hst5.hS.lt
  have us_0 : (w5).cell? ⟨w1.heap.size, 0, none⟩ = some (.bool false) := hst5.hS.cell 0
  have us_1 : (w5).cell? ⟨w1.heap.size, 1, none⟩ = some (.int .i64 i1) := hst5.hS.cell 1
  have us_2 : (w5).cell? ⟨w1.heap.size, 2, none⟩ = some (.bool s1) := hst5.hS.cell 2
  have us_3 : (w5).cell? ⟨w1.heap.size, 3, none⟩ = some (.slice A1 l1 c1) := hst5.hS.cell 3
  have us_4 : (w5).cell? ⟨w1.heap.size, 4, none⟩ = some (.slice B1 k1 d1) := hst5.hS.cell 4
  have us_5 : (w5).cell? ⟨w1.heap.size, 5, none⟩ = some (.int .i64 i2) := hst5.hS.cell 5
  have us_6 : (w5).cell? ⟨w1.heap.size, 6, none⟩ = some (.bool s2) := hst5.hS.cell 6
  have us_7 : (w5).cell? ⟨w1.heap.size, 7, none⟩ = some (.slice A2 l2 c2) := hst5.hS.cell 7
  have us_8 : (w5).cell? ⟨w1.heap.size, 8, none⟩ = some (.slice B2 k2 d2) := hst5.hS.cell 8
  clear hst5
  have s_0 : (((((w5).setCell ⟨w1.heap.size, 5, none⟩ (.int .i64 i4)).setCell ⟨w1.heap.size, 6, none⟩ (.bool s4)).setCell ⟨w1.heap.size, 7, none⟩ (.slice A4 l4 c4)).setCell ⟨w1.heap.size, 8, none⟩ (.slice B4 k4 d4)).cell? ⟨w1.heap.size, 0, none⟩ = some (.bool false) := hst6.hS.cell 0
  have s_1 : (((((w5).setCell ⟨w1.heap.size, 5, none⟩ (.int .i64 i4)).setCell ⟨w1.heap.size, 6, none⟩ (.bool s4)).setCell ⟨w1.heap.size, 7, none⟩ (.slice A4 l4 c4)).setCell ⟨w1.heap.size, 8, none⟩ (.slice B4 k4 d4)).cell? ⟨w1.heap.size, 1, none⟩ = some (.int .i64 i1) := hst6.hS.cell 1
  have s_2 : (((((w5).setCell ⟨w1.heap.size, 5, none⟩ (.int .i64 i4)).setCell ⟨w1.heap.size, 6, none⟩ (.bool s4)).setCell ⟨w1.heap.size, 7, none⟩ (.slice A4 l4 c4)).setCell ⟨w1.heap.size, 8, none⟩ (.slice B4 k4 d4)).cell? ⟨w1.heap.size, 2, none⟩ = some (.bool s1) := hst6.hS.cell 2
  have s_3 : (((((w5).setCell ⟨w1.heap.size, 5, none⟩ (.int .i64 i4)).setCell ⟨w1.heap.size, 6, none⟩ (.bool s4)).setCell ⟨w1.heap.size, 7, none⟩ (.slice A4 l4 c4)).setCell ⟨w1.heap.size, 8, none⟩ (.slice B4 k4 d4)).cell? ⟨w1.heap.size, 3, none⟩ = some (.slice A1 l1 c1) := hst6.hS.cell 3
  have s_4 : (((((w5).setCell ⟨w1.heap.size, 5, none⟩ (.int .i64 i4)).setCell ⟨w1.heap.size, 6, none⟩ (.bool s4)).setCell ⟨w1.heap.size, 7, none⟩ (.slice A4 l4 c4)).setCell ⟨w1.heap.size, 8, none⟩ (.slice B4 k4 d4)).cell? ⟨w1.heap.size, 4, none⟩ = some (.slice B1 k1 d1) := hst6.hS.cell 4
  have s_5 : (((((w5).setCell ⟨w1.heap.size, 5, none⟩ (.int .i64 i4)).setCell ⟨w1.heap.size, 6, none⟩ (.bool s4)).setCell ⟨w1.heap.size, 7, none⟩ (.slice A4 l4 c4)).setCell ⟨w1.heap.size, 8, none⟩ (.slice B4 k4 d4)).cell? ⟨w1.heap.size, 5, none⟩ = some (.int .i64 i4) := hst6.hS.cell 5
  have s_6 : (((((w5).setCell ⟨w1.heap.size, 5, none⟩ (.int .i64 i4)).setCell ⟨w1.heap.size, 6, none⟩ (.bool s4)).setCell ⟨w1.heap.size, 7, none⟩ (.slice A4 l4 c4)).setCell ⟨w1.heap.size, 8, none⟩ (.slice B4 k4 d4)).cell? ⟨w1.heap.size, 6, none⟩ = some (.bool s4) := hst6.hS.cell 6
  have s_7 : (((((w5).setCell ⟨w1.heap.size, 5, none⟩ (.int .i64 i4)).setCell ⟨w1.heap.size, 6, none⟩ (.bool s4)).setCell ⟨w1.heap.size, 7, none⟩ (.slice A4 l4 c4)).setCell ⟨w1.heap.size, 8, none⟩ (.slice B4 k4 d4)).cell? ⟨w1.heap.size, 7, none⟩ = some (.slice A4 l4 c4) := hst6.hS.cell 7
  have s_8 : (((((w5).setCell ⟨w1.heap.size, 5, none⟩ (.int .i64 i4)).setCell ⟨w1.heap.size, 6, none⟩ (.bool s4)).setCell ⟨w1.heap.size, 7, none⟩ (.slice A4 l4 c4)).setCell ⟨w1.heap.size, 8, none⟩ (.slice B4 k4 d4)).cell? ⟨w1.heap.size, 8, none⟩ = some (.slice B4 k4 d4) := hst6.hS.cell 8
  have t_0 : (((((w5).setCell ⟨w1.heap.size, 5, none⟩ (.int .i64 i4)).setCell ⟨w1.heap.size, 6, none⟩ (.bool s4)).setCell ⟨w1.heap.size, 7, none⟩ (.slice A4 l4 c4)).setCell ⟨w1.heap.size, 8, none⟩ (.slice B4 k4 d4)).cell? ⟨w2.heap.size, 0, none⟩ = some (.bool false) := hst6.hT.cell 0
  have t_1 : (((((w5).setCell ⟨w1.heap.size, 5, none⟩ (.int .i64 i4)).setCell ⟨w1.heap.size, 6, none⟩ (.bool s4)).setCell ⟨w1.heap.size, 7, none⟩ (.slice A4 l4 c4)).setCell ⟨w1.heap.size, 8, none⟩ (.slice B4 k4 d4)).cell? ⟨w2.heap.size, 1, none⟩ = some (.int .i64 i3) := hst6.hT.cell 1
  have t_2 : (((((w5).setCell ⟨w1.heap.size, 5, none⟩ (.int .i64 i4)).setCell ⟨w1.heap.size, 6, none⟩ (.bool s4)).setCell ⟨w1.heap.size, 7, none⟩ (.slice A4 l4 c4)).setCell ⟨w1.heap.size, 8, none⟩ (.slice B4 k4 d4)).cell? ⟨w2.heap.size, 2, none⟩ = some (.bool s3) := hst6.hT.cell 2
  have t_3 : (((((w5).setCell ⟨w1.heap.size, 5, none⟩ (.int .i64 i4)).setCell ⟨w1.heap.size, 6, none⟩ (.bool s4)).setCell ⟨w1.heap.size, 7, none⟩ (.slice A4 l4 c4)).setCell ⟨w1.heap.size, 8, none⟩ (.slice B4 k4 d4)).cell? ⟨w2.heap.size, 3, none⟩ = some (.slice A3 l3 c3) := hst6.hT.cell 3
  have t_4 : (((((w5).setCell ⟨w1.heap.size, 5, none⟩ (.int .i64 i4)).setCell ⟨w1.heap.size, 6, none⟩ (.bool s4)).setCell ⟨w1.heap.size, 7, none⟩ (.slice A4 l4 c4)).setCell ⟨w1.heap.size, 8, none⟩ (.slice B4 k4 d4)).cell? ⟨w2.heap.size, 4, none⟩ = some (.slice B3 k3 d3) := hst6.hT.cell 4
  have t_5 : (((((w5).setCell ⟨w1.heap.size, 5, none⟩ (.int .i64 i4)).setCell ⟨w1.heap.size, 6, none⟩ (.bool s4)).setCell ⟨w1.heap.size, 7, none⟩ (.slice A4 l4 c4)).setCell ⟨w1.heap.size, 8, none⟩ (.slice B4 k4 d4)).cell? ⟨w2.heap.size, 5, none⟩ = some (.int .i64 i4) := hst6.hT.cell 5
  have t_6 : (((((w5).setCell ⟨w1.heap.size, 5, none⟩ (.int .i64 i4)).setCell ⟨w1.heap.size, 6, none⟩ (.bool s4)).setCell ⟨w1.heap.size, 7, none⟩ (.slice A4 l4 c4)).setCell ⟨w1.heap.size, 8, none⟩ (.slice B4 k4 d4)).cell? ⟨w2.heap.size, 6, none⟩ = some (.bool s4) := hst6.hT.cell 6
  have t_7 : (((((w5).setCell ⟨w1.heap.size, 5, none⟩ (.int .i64 i4)).setCell ⟨w1.heap.size, 6, none⟩ (.bool s4)).setCell ⟨w1.heap.size, 7, none⟩ (.slice A4 l4 c4)).setCell ⟨w1.heap.size, 8, none⟩ (.slice B4 k4 d4)).cell? ⟨w2.heap.size, 7, none⟩ = some (.slice A4 l4 c4) := hst6.hT.cell 7
  have t_8 : (((((w5).setCell ⟨w1.heap.size, 5, none⟩ (.int .i64 i4)).setCell ⟨w1.heap.size, 6, none⟩ (.bool s4)).setCell ⟨w1.heap.size, 7, none⟩ (.slice A4 l4 c4)).setCell ⟨w1.heap.size, 8, none⟩ (.slice B4 k4 d4)).cell? ⟨w2.heap.size, 8, none⟩ = some (.slice B4 k4 d4) := hst6.hT.cell 8
  have g_0 : (((((w5).setCell ⟨w1.heap.size, 5, none⟩ (.int .i64 i4)).setCell ⟨w1.heap.size, 6, none⟩ (.bool s4)).setCell ⟨w1.heap.size, 7, none⟩ (.slice A4 l4 c4)).setCell ⟨w1.heap.size, 8, none⟩ (.slice B4 k4 d4)).cell? ⟨G, 0, none⟩ = some (.int .u64 0) := hst6.hG.cell 0
  have g_1 : (((((w5).setCell ⟨w1.heap.size, 5, none⟩ (.int .i64 i4)).setCell ⟨w1.heap.size, 6, none⟩ (.bool s4)).setCell ⟨w1.heap.size, 7, none⟩ (.slice A4 l4 c4)).setCell ⟨w1.heap.size, 8, none⟩ (.slice B4 k4 d4)).cell? ⟨G, 1, none⟩ = some (.int .u64 0) := hst6.hG.cell 1
  have fg_0 : (((((w5).setCell ⟨w1.heap.size, 5, none⟩ (.int .i64 i4)).setCell ⟨w1.heap.size, 6, none⟩ (.bool s4)).setCell ⟨w1.heap.size, 7, none⟩ (.slice A4 l4 c4)).setCell ⟨w1.heap.size, 8, none⟩ (.slice B4 k4 d4)).frozen? ⟨G, 0, none⟩ = false := hst6.hG.frozen 0
  have fg_1 : (((((w5).setCell ⟨w1.heap.size, 5, none⟩ (.int .i64 i4)).setCell ⟨w1.heap.size, 6, none⟩ (.bool s4)).setCell ⟨w1.heap.size, 7, none⟩ (.slice A4 l4 c4)).setCell ⟨w1.heap.size, 8, none⟩ (.slice B4 k4 d4)).frozen? ⟨G, 1, none⟩ = false := hst6.hG.frozen 1
  have fs_0 : (((((w5).setCell ⟨w1.heap.size, 5, none⟩ (.int .i64 i4)).setCell ⟨w1.heap.size, 6, none⟩ (.bool s4)).setCell ⟨w1.heap.size, 7, none⟩ (.slice A4 l4 c4)).setCell ⟨w1.heap.size, 8, none⟩ (.slice B4 k4 d4)).frozen? ⟨w1.heap.size, 0, none⟩ = false := hst6.hS.frozen 0
  have fs_1 : (((((w5).setCell ⟨w1.heap.size, 5, none⟩ (.int .i64 i4)).setCell ⟨w1.heap.size, 6, none⟩ (.bool s4)).setCell ⟨w1.heap.size, 7, none⟩ (.slice A4 l4 c4)).setCell ⟨w1.heap.size, 8, none⟩ (.slice B4 k4 d4)).frozen? ⟨w1.heap.size, 1, none⟩ = false := hst6.hS.frozen 1
  have fs_2 : (((((w5).setCell ⟨w1.heap.size, 5, none⟩ (.int .i64 i4)).setCell ⟨w1.heap.size, 6, none⟩ (.bool s4)).setCell ⟨w1.heap.size, 7, none⟩ (.slice A4 l4 c4)).setCell ⟨w1.heap.size, 8, none⟩ (.slice B4 k4 d4)).frozen? ⟨w1.heap.size, 2, none⟩ = false := hst6.hS.frozen 2
  have fs_3 : (((((w5).setCell ⟨w1.heap.size, 5, none⟩ (.int .i64 i4)).setCell ⟨w1.heap.size, 6, none⟩ (.bool s4)).setCell ⟨w1.heap.size, 7, none⟩ (.slice A4 l4 c4)).setCell ⟨w1.heap.size, 8, none⟩ (.slice B4 k4 d4)).frozen? ⟨w1.heap.size, 3, none⟩ = false := hst6.hS.frozen 3
  have fs_4 : (((((w5).setCell ⟨w1.heap.size, 5, none⟩ (.int .i64 i4)).setCell ⟨w1.heap.size, 6, none⟩ (.bool s4)).setCell ⟨w1.heap.size, 7, none⟩ (.slice A4 l4 c4)).setCell ⟨w1.heap.size, 8, none⟩ (.slice B4 k4 d4)).frozen? ⟨w1.heap.size, 4, none⟩ = false := hst6.hS.frozen 4
  have fs_5 : (((((w5).setCell ⟨w1.heap.size, 5, none⟩ (.int .i64 i4)).setCell ⟨w1.heap.size, 6, none⟩ (.bool s4)).setCell ⟨w1.heap.size, 7, none⟩ (.slice A4 l4 c4)).setCell ⟨w1.heap.size, 8, none⟩ (.slice B4 k4 d4)).frozen? ⟨w1.heap.size, 5, none⟩ = false := hst6.hS.frozen 5
  have fs_6 : (((((w5).setCell ⟨w1.heap.size, 5, none⟩ (.int .i64 i4)).setCell ⟨w1.heap.size, 6, none⟩ (.bool s4)).setCell ⟨w1.heap.size, 7, none⟩ (.slice A4 l4 c4)).setCell ⟨w1.heap.size, 8, none⟩ (.slice B4 k4 d4)).frozen? ⟨w1.heap.size, 6, none⟩ = false := hst6.hS.frozen 6
  have fs_7 : (((((w5).setCell ⟨w1.heap.size, 5, none⟩ (.int .i64 i4)).setCell ⟨w1.heap.size, 6, none⟩ (.bool s4)).setCell ⟨w1.heap.size, 7, none⟩ (.slice A4 l4 c4)).setCell ⟨w1.heap.size, 8, none⟩ (.slice B4 k4 d4)).frozen? ⟨w1.heap.size, 7, none⟩ = false := hst6.hS.frozen 7
  have fs_8 : (((((w5).setCell ⟨w1.heap.size, 5, none⟩ (.int .i64 i4)).setCell ⟨w1.heap.size, 6, none⟩ (.bool s4)).setCell ⟨w1.heap.size, 7, none⟩ (.slice A4 l4 c4)).setCell ⟨w1.heap.size, 8, none⟩ (.slice B4 k4 d4)).frozen? ⟨w1.heap.size, 8, none⟩ = false := hst6.hS.frozen 8
  have lG : G < (((((w5).setCell ⟨w1.heap.size, 5, none⟩ (.int .i64 i4)).setCell ⟨w1.heap.size, 6, none⟩ (.bool s4)).setCell ⟨w1.heap.size, 7, none⟩ (.slice A4 l4 c4)).setCell ⟨w1.heap.size, 8, none⟩ (.slice B4 k4 d4)).heap.size := hst6.hG.lt
  have lS : w1.heap.size < (((((w5).setCell ⟨w1.heap.size, 5, none⟩ (.int .i64 i4)).setCell ⟨w1.heap.size, 6, none⟩ (.bool s4)).setCell ⟨w1.heap.size, 7, none⟩ (.slice A4 l4 c4)).setCell ⟨w1.heap.size, 8, none⟩ (.slice B4 k4 d4)).heap.size := hst6.hS.lt
  go_wp2_with fail
  clear u_0 fu_0 us_0 u_1 fu_1 us_1 u_2 fu_2 us_2 u_3 fu_3 us_3 u_4 fu_4 us_4 u_5 fu_5 us_5 u_6 fu_6 us_6 u_7 fu_7 us_7 u_8 fu_8 us_8 lu
  clear s_0 t_0 fs_0 s_1 t_1 fs_1 s_2 t_2 fs_2 s_3 t_3 fs_3 s_4 t_4 fs_4 s_5 t_5 fs_5 s_6 t_6 fs_6 s_7 t_7 fs_7 s_8 t_8 fs_8 g_0 g_1 fg_0 fg_1 lG lS
  refine (HL.out _ _ _ _ _ _ _ _ _ _ _ _ _ hst6.r1 hst6.r2).mono ?_
  rintro e w7 ⟨rfl, hE7⟩
  have hst7 := hst6.ext hE7
  clear hst6 hE7
  have s_0 : (w7).cell? ⟨w1.heap.size, 0, none⟩ = some (.bool false) := hst7.hS.cell 0
  have s_1 : (w7).cell? ⟨w1.heap.size, 1, none⟩ = some (.int .i64 i1) := hst7.hS.cell 1
  have s_2 : (w7).cell? ⟨w1.heap.size, 2, none⟩ = some (.bool s1) := hst7.hS.cell 2
  have s_3 : (w7).cell? ⟨w1.heap.size, 3, none⟩ = some (.slice A1 l1 c1) := hst7.hS.cell 3
  have s_4 : (w7).cell? ⟨w1.heap.size, 4, none⟩ = some (.slice B1 k1 d1) := hst7.hS.cell 4
  have s_5 : (w7).cell? ⟨w1.heap.size, 5, none⟩ = some (.int .i64 i4) := hst7.hS.cell 5
  have s_6 : (w7).cell? ⟨w1.heap.size, 6, none⟩ = some (.bool s4) := hst7.hS.cell 6
  have s_7 : (w7).cell? ⟨w1.heap.size, 7, none⟩ = some (.slice A4 l4 c4) := hst7.hS.cell 7
  have s_8 : (w7).cell? ⟨w1.heap.size, 8, none⟩ = some (.slice B4 k4 d4) := hst7.hS.cell 8
  have t_0 : (w7).cell? ⟨w2.heap.size, 0, none⟩ = some (.bool false) := hst7.hT.cell 0
  have t_1 : (w7).cell? ⟨w2.heap.size, 1, none⟩ = some (.int .i64 i3) := hst7.hT.cell 1
  have t_2 : (w7).cell? ⟨w2.heap.size, 2, none⟩ = some (.bool s3) := hst7.hT.cell 2
  have t_3 : (w7).cell? ⟨w2.heap.size, 3, none⟩ = some (.slice A3 l3 c3) := hst7.hT.cell 3
  have t_4 : (w7).cell? ⟨w2.heap.size, 4, none⟩ = some (.slice B3 k3 d3) := hst7.hT.cell 4
  have t_5 : (w7).cell? ⟨w2.heap.size, 5, none⟩ = some (.int .i64 i4) := hst7.hT.cell 5
  have t_6 : (w7).cell? ⟨w2.heap.size, 6, none⟩ = some (.bool s4) := hst7.hT.cell 6
  have t_7 : (w7).cell? ⟨w2.heap.size, 7, none⟩ = some (.slice A4 l4 c4) := hst7.hT.cell 7
  have t_8 : (w7).cell? ⟨w2.heap.size, 8, none⟩ = some (.slice B4 k4 d4) := hst7.hT.cell 8
  have g_0 : (w7).cell? ⟨G, 0, none⟩ = some (.int .u64 0) := hst7.hG.cell 0
  have g_1 : (w7).cell? ⟨G, 1, none⟩ = some (.int .u64 0) := hst7.hG.cell 1
  have fg_0 : (w7).frozen? ⟨G, 0, none⟩ = false := hst7.hG.frozen 0
  have fg_1 : (w7).frozen? ⟨G, 1, none⟩ = false := hst7.hG.frozen 1
  have fs_0 : (w7).frozen? ⟨w1.heap.size, 0, none⟩ = false := hst7.hS.frozen 0
  have fs_1 : (w7).frozen? ⟨w1.heap.size, 1, none⟩ = false := hst7.hS.frozen 1
  have fs_2 : (w7).frozen? ⟨w1.heap.size, 2, none⟩ = false := hst7.hS.frozen 2
  have fs_3 : (w7).frozen? ⟨w1.heap.size, 3, none⟩ = false := hst7.hS.frozen 3
  have fs_4 : (w7).frozen? ⟨w1.heap.size, 4, none⟩ = false := hst7.hS.frozen 4
  have fs_5 : (w7).frozen? ⟨w1.heap.size, 5, none⟩ = false := hst7.hS.frozen 5
  have fs_6 : (w7).frozen? ⟨w1.heap.size, 6, none⟩ = false := hst7.hS.frozen 6
  have fs_7 : (w7).frozen? ⟨w1.heap.size, 7, none⟩ = false := hst7.hS.frozen 7
  have fs_8 : (w7).frozen? ⟨w1.heap.size, 8, none⟩ = false := hst7.hS.frozen 8
  have lG : G < (w7).heap.size := hst7.hG.lt
  have lS : w1.heap.size < (w7).heap.size := hst7.hS.lt
  go_wp2_with fail
  exact bodyPost_ret (v := .agg #[.int .u64 (r1 : Int), .int .u64 (r2 : Int)]) (by simp [results, Try.results36, go_sem, lG, g_0, g_1]) rfl ⟨rfl, (hst7.ex.setCell hGw _).setCell hGw _⟩

set_option maxHeartbeats 4000000 in
theorem max7_yn (x1 x2 y1 y2 : Nat) (i1 : Int) (s1 : Bool) (N1 D1 : Nat) (i2 : Int) (s2 : Bool) (N2 D2 : Nat) (i3 : Int) (s3 : Bool) (N3 D3 : Nat) (i4 : Int) (s4 : Bool) (N4 D4 : Nat) (v1 v2 : Int) (r1 r2 : Nat) (w : World)
    (HO1 : Hid (∀ w, Calls Try.prog 63 #[.agg #[.int .u64 (x1 : Int), .int .u64 (x2 : Int)]] w (RetSet false i1 s1 N1 D1 i2 s2 N2 D2 w)))
    (HO2 : Hid (∀ w, Calls Try.prog 63 #[.agg #[.int .u64 (y1 : Int), .int .u64 (y2 : Int)]] w (RetSet false i3 s3 N3 D3 i4 s4 N4 D4 w)))
    (HC1 : Hid (∀ A3 l3 c3 B3 k3 d3 A1 l1 c1 B1 k1 d1 w, RatAt w A3 l3 c3 B3 k3 d3 N3 D3 → RatAt w A1 l1 c1 B1 k1 d1 N1 D1 → Calls Try.prog 65 #[.agg #[.int .i64 i3, .bool s3, .slice A3 l3 c3, .slice B3 k3 d3], .agg #[.int .i64 i1, .bool s1, .slice A1 l1 c1, .slice B1 k1 d1]] w fun e w' => e = .returned (.int .i64 v1) ∧ Ext w w'))
    (HC2 : Hid (∀ A4 l4 c4 B4 k4 d4 A2 l2 c2 B2 k2 d2 w, RatAt w A4 l4 c4 B4 k4 d4 N4 D4 → RatAt w A2 l2 c2 B2 k2 d2 N2 D2 → Calls Try.prog 65 #[.agg #[.int .i64 i4, .bool s4, .slice A4 l4 c4, .slice B4 k4 d4], .agg #[.int .i64 i2, .bool s2, .slice A2 l2 c2, .slice B2 k2 d2]] w fun e w' => e = .returned (.int .i64 v2) ∧ Ext w w'))
    (HL : Hid (∀ A3 l3 c3 B3 k3 d3 A2 l2 c2 B2 k2 d2 w, RatAt w A3 l3 c3 B3 k3 d3 N3 D3 → RatAt w A2 l2 c2 B2 k2 d2 N2 D2 → Calls Try.prog 61 #[.agg #[.bool false, .int .i64 i3, .bool s3, .slice A3 l3 c3, .slice B3 k3 d3, .int .i64 i2, .bool s2, .slice A2 l2 c2, .slice B2 k2 d2]] w (RetI r1 r2 w)))
    (hx1 : decide (0 < v1) = true) (hx2 : decide (0 < v2) = false) :
    Calls Try.prog 36 #[.agg #[.int .u64 (x1 : Int), .int .u64 (x2 : Int)], .agg #[.int .u64 (y1 : Int), .int .u64 (y2 : Int)]] w (RetI r1 r2 w) := by
  have hb2 : Blk (((w.alloc (.cells #[.int .u64 (x1 : Int), .int .u64 (x2 : Int)] 24)).alloc (.cells #[.int .u64 (y1 : Int), .int .u64 (y2 : Int)] 24)).alloc (.cells #[.int .u64 0, .int .u64 0] 24)) (w.heap.size + 1) 24 #[.int .u64 (y1 : Int), .int .u64 (y2 : Int)] := (Blk.next w (.cells #[.int .u64 (x1 : Int), .int .u64 (x2 : Int)] 24) 24 #[.int .u64 (y1 : Int), .int .u64 (y2 : Int)]).ext ((Ext.refl _).alloc _)
  have hbG : Blk (((w.alloc (.cells #[.int .u64 (x1 : Int), .int .u64 (x2 : Int)] 24)).alloc (.cells #[.int .u64 (y1 : Int), .int .u64 (y2 : Int)] 24)).alloc (.cells #[.int .u64 0, .int .u64 0] 24)) (w.heap.size + 1 + 1) 24 #[.int .u64 0, .int .u64 0] := by
    have := Blk.next (w.alloc (.cells #[.int .u64 (x1 : Int), .int .u64 (x2 : Int)] 24)) (.cells #[.int .u64 (y1 : Int), .int .u64 (y2 : Int)] 24) 24 #[.int .u64 0, .int .u64 0]
    rwa [show (w.alloc (.cells #[.int .u64 (x1 : Int), .int .u64 (x2 : Int)] 24)).heap.size = w.heap.size + 1 by simp] at this
  have hEw : Ext w (((w.alloc (.cells #[.int .u64 (x1 : Int), .int .u64 (x2 : Int)] 24)).alloc (.cells #[.int .u64 (y1 : Int), .int .u64 (y2 : Int)] 24)).alloc (.cells #[.int .u64 0, .int .u64 0] 24)) := (((Ext.refl w).alloc _).alloc _).alloc _
  go_enter Try.func36, Try.ntmps36
  go_wp2_with fail
  refine (HO1.out _).mono ?_
  rintro e w1 ⟨A1, l1, c1, B1, k1, d1, A2, l2, c2, B2, k2, d2, rfl, h1, h2, hE1⟩
  obtain ⟨G, hG⟩ : ∃ G, G = w.heap.size + 1 + 1 := ⟨_, rfl⟩
  rw [show w.heap.size + 2 = G by omega]
  rw [← hG] at hbG
  have hGw : w.heap.size ≤ G := by omega
  have hE1' : Ext w1 (w1.alloc (.cells #[.bool false, .int .i64 i1, .bool s1, .slice A1 l1 c1, .slice B1 k1 d1, .int .i64 i2, .bool s2, .slice A2 l2 c2, .slice B2 k2 d2] 70)) := (Ext.refl w1).alloc _
  have hlt2 : G < w1.heap.size := by have a := hbG.lt; have b := hE1.size; omega
  have hlt3 : w.heap.size ≤ w1.heap.size := by omega
  have hb21 := (hb2.ext hE1).ext hE1'
  have hbG1 := (hbG.ext hE1).ext hE1'
  have hbS := Blk.new w1 70 #[.bool false, .int .i64 i1, .bool s1, .slice A1 l1 c1, .slice B1 k1 d1, .int .i64 i2, .bool s2, .slice A2 l2 c2, .slice B2 k2 d2]
  have h11 := h1.ext hE1'
  have h21 := h2.ext hE1'
  have hEw1 := (hEw.trans hE1).trans hE1'
  clear hb2 hbG h1 h2 hE1 hE1' hEw hG
  have j_0 : (w1.alloc (.cells #[.bool false, .int .i64 i1, .bool s1, .slice A1 l1 c1, .slice B1 k1 d1, .int .i64 i2, .bool s2, .slice A2 l2 c2, .slice B2 k2 d2] 70)).cell? ⟨w.heap.size + 1, 0, none⟩ = some (.int .u64 (y1 : Int)) := hb21.cell 0
  have j_1 : (w1.alloc (.cells #[.bool false, .int .i64 i1, .bool s1, .slice A1 l1 c1, .slice B1 k1 d1, .int .i64 i2, .bool s2, .slice A2 l2 c2, .slice B2 k2 d2] 70)).cell? ⟨w.heap.size + 1, 1, none⟩ = some (.int .u64 (y2 : Int)) := hb21.cell 1
  go_wp2_with fail
  clear j_0 j_1
  refine (HO2.out _).mono ?_
  rintro e w2 ⟨A3, l3, c3, B3, k3, d3, A4, l4, c4, B4, k4, d4, rfl, h3, h4, hE2⟩
  have hE2' : Ext (w1.alloc (.cells #[.bool false, .int .i64 i1, .bool s1, .slice A1 l1 c1, .slice B1 k1 d1, .int .i64 i2, .bool s2, .slice A2 l2 c2, .slice B2 k2 d2] 70)) (w2.alloc (.cells #[.bool false, .int .i64 i3, .bool s3, .slice A3 l3 c3, .slice B3 k3 d3, .int .i64 i4, .bool s4, .slice A4 l4 c4, .slice B4 k4 d4] 70)) := hE2.alloc _
  have hst : MM G w1.heap.size w2.heap.size false false i1 s1 A1 l1 c1 B1 k1 d1 N1 D1 i2 s2 A2 l2 c2 B2 k2 d2 N2 D2 i3 s3 A3 l3 c3 B3 k3 d3 N3 D3 i4 s4 A4 l4 c4 B4 k4 d4 N4 D4 w (w2.alloc (.cells #[.bool false, .int .i64 i3, .bool s3, .slice A3 l3 c3, .slice B3 k3 d3, .int .i64 i4, .bool s4, .slice A4 l4 c4, .slice B4 k4 d4] 70)) :=
    ⟨hbG1.ext hE2', hbS.ext hE2', Blk.new w2 _ _, h11.ext hE2', h21.ext hE2', h3.ext ((Ext.refl w2).alloc _), h4.ext ((Ext.refl w2).alloc _), hEw1.trans hE2', hlt3, hlt2, by have a := hbS.lt; have b := hE2.size; omega⟩
  clear hb21 hbG1 hbS h11 h21 hEw1 h3 h4 hE2 hE2' hlt2 hlt3
  have s_0 : (w2.alloc (.cells #[.bool false, .int .i64 i3, .bool s3, .slice A3 l3 c3, .slice B3 k3 d3, .int .i64 i4, .bool s4, .slice A4 l4 c4, .slice B4 k4 d4] 70)).cell? ⟨w1.heap.size, 0, none⟩ = some (.bool false) := hst.hS.cell 0
  have s_1 : (w2.alloc (.cells #[.bool false, .int .i64 i3, .bool s3, .slice A3 l3 c3, .slice B3 k3 d3, .int .i64 i4, .bool s4, .slice A4 l4 c4, .slice B4 k4 d4] 70)).cell? ⟨w1.heap.size, 1, none⟩ = some (.int .i64 i1) := hst.hS.cell 1
  have s_2 : (w2.alloc (.cells #[.bool false, .int .i64 i3, .bool s3, .slice A3 l3 c3, .slice B3 k3 d3, .int .i64 i4, .bool s4, .slice A4 l4 c4, .slice B4 k4 d4] 70)).cell? ⟨w1.heap.size, 2, none⟩ = some (.bool s1) := hst.hS.cell 2
  have s_3 : (w2.alloc (.cells #[.bool false, .int .i64 i3, .bool s3, .slice A3 l3 c3, .slice B3 k3 d3, .int .i64 i4, .bool s4, .slice A4 l4 c4, .slice B4 k4 d4] 70)).cell? ⟨w1.heap.size, 3, none⟩ = some (.slice A1 l1 c1) := hst.hS.cell 3
  have s_4 : (w2.alloc (.cells #[.bool false, .int .i64 i3, .bool s3, .slice A3 l3 c3, .slice B3 k3 d3, .int .i64 i4, .bool s4, .slice A4 l4 c4, .slice B4 k4 d4] 70)).cell? ⟨w1.heap.size, 4, none⟩ = some (.slice B1 k1 d1) := hst.hS.cell 4
  have s_5 : (w2.alloc (.cells #[.bool false, .int .i64 i3, .bool s3, .slice A3 l3 c3, .slice B3 k3 d3, .int .i64 i4, .bool s4, .slice A4 l4 c4, .slice B4 k4 d4] 70)).cell? ⟨w1.heap.size, 5, none⟩ = some (.int .i64 i2) := hst.hS.cell 5
  have s_6 : (w2.alloc (.cells #[.bool false, .int .i64 i3, .bool s3, .slice A3 l3 c3, .slice B3 k3 d3, .int .i64 i4, .bool s4, .slice A4 l4 c4, .slice B4 k4 d4] 70)).cell? ⟨w1.heap.size, 6, none⟩ = some (.bool s2) := hst.hS.cell 6
  have s_7 : (w2.alloc (.cells #[.bool false, .int .i64 i3, .bool s3, .slice A3 l3 c3, .slice B3 k3 d3, .int .i64 i4, .bool s4, .slice A4 l4 c4, .slice B4 k4 d4] 70)).cell? ⟨w1.heap.size, 7, none⟩ = some (.slice A2 l2 c2) := hst.hS.cell 7
  have s_8 : (w2.alloc (.cells #[.bool false, .int .i64 i3, .bool s3, .slice A3 l3 c3, .slice B3 k3 d3, .int .i64 i4, .bool s4, .slice A4 l4 c4, .slice B4 k4 d4] 70)).cell? ⟨w1.heap.size, 8, none⟩ = some (.slice B2 k2 d2) := hst.hS.cell 8
  have t_0 : (w2.alloc (.cells #[.bool false, .int .i64 i3, .bool s3, .slice A3 l3 c3, .slice B3 k3 d3, .int .i64 i4, .bool s4, .slice A4 l4 c4, .slice B4 k4 d4] 70)).cell? ⟨w2.heap.size, 0, none⟩ = some (.bool false) := hst.hT.cell 0
  have t_1 : (w2.alloc (.cells #[.bool false, .int .i64 i3, .bool s3, .slice A3 l3 c3, .slice B3 k3 d3, .int .i64 i4, .bool s4, .slice A4 l4 c4, .slice B4 k4 d4] 70)).cell? ⟨w2.heap.size, 1, none⟩ = some (.int .i64 i3) := hst.hT.cell 1
  have t_2 : (w2.alloc (.cells #[.bool false, .int .i64 i3, .bool s3, .slice A3 l3 c3, .slice B3 k3 d3, .int .i64 i4, .bool s4, .slice A4 l4 c4, .slice B4 k4 d4] 70)).cell? ⟨w2.heap.size, 2, none⟩ = some (.bool s3) := hst.hT.cell 2
  have t_3 : (w2.alloc (.cells #[.bool false, .int .i64 i3, .bool s3, .slice A3 l3 c3, .slice B3 k3 d3, .int .i64 i4, .bool s4, .slice A4 l4 c4, .slice B4 k4 d4] 70)).cell? ⟨w2.heap.size, 3, none⟩ = some (.slice A3 l3 c3) := hst.hT.cell 3
  have t_4 : (w2.alloc (.cells #[.bool false, .int .i64 i3, .bool s3, .slice A3 l3 c3, .slice B3 k3 d3, .int .i64 i4, .bool s4, .slice A4 l4 c4, .slice B4 k4 d4] 70)).cell? ⟨w2.heap.size, 4, none⟩ = some (.slice B3 k3 d3) := hst.hT.cell 4
  have t_5 : (w2.alloc (.cells #[.bool false, .int .i64 i3, .bool s3, .slice A3 l3 c3, .slice B3 k3 d3, .int .i64 i4, .bool s4, .slice A4 l4 c4, .slice B4 k4 d4] 70)).cell? ⟨w2.heap.size, 5, none⟩ = some (.int .i64 i4) := hst.hT.cell 5
  have t_6 : (w2.alloc (.cells #[.bool false, .int .i64 i3, .bool s3, .slice A3 l3 c3, .slice B3 k3 d3, .int .i64 i4, .bool s4, .slice A4 l4 c4, .slice B4 k4 d4] 70)).cell? ⟨w2.heap.size, 6, none⟩ = some (.bool s4) := hst.hT.cell 6
  have t_7 : (w2.alloc (.cells #[.bool false, .int .i64 i3, .bool s3, .slice A3 l3 c3, .slice B3 k3 d3, .int .i64 i4, .bool s4, .slice A4 l4 c4, .slice B4 k4 d4] 70)).cell? ⟨w2.heap.size, 7, none⟩ = some (.slice A4 l4 c4) := hst.hT.cell 7
  have t_8 : (w2.alloc (.cells #[.bool false, .int .i64 i3, .bool s3, .slice A3 l3 c3, .slice B3 k3 d3, .int .i64 i4, .bool s4, .slice A4 l4 c4, .slice B4 k4 d4] 70)).cell? ⟨w2.heap.size, 8, none⟩ = some (.slice B4 k4 d4) := hst.hT.cell 8
  have g_0 : (w2.alloc (.cells #[.bool false, .int .i64 i3, .bool s3, .slice A3 l3 c3, .slice B3 k3 d3, .int .i64 i4, .bool s4, .slice A4 l4 c4, .slice B4 k4 d4] 70)).cell? ⟨G, 0, none⟩ = some (.int .u64 0) := hst.hG.cell 0
  have g_1 : (w2.alloc (.cells #[.bool false, .int .i64 i3, .bool s3, .slice A3 l3 c3, .slice B3 k3 d3, .int .i64 i4, .bool s4, .slice A4 l4 c4, .slice B4 k4 d4] 70)).cell? ⟨G, 1, none⟩ = some (.int .u64 0) := hst.hG.cell 1
  have fg_0 : (w2.alloc (.cells #[.bool false, .int .i64 i3, .bool s3, .slice A3 l3 c3, .slice B3 k3 d3, .int .i64 i4, .bool s4, .slice A4 l4 c4, .slice B4 k4 d4] 70)).frozen? ⟨G, 0, none⟩ = false := hst.hG.frozen 0
  have fg_1 : (w2.alloc (.cells #[.bool false, .int .i64 i3, .bool s3, .slice A3 l3 c3, .slice B3 k3 d3, .int .i64 i4, .bool s4, .slice A4 l4 c4, .slice B4 k4 d4] 70)).frozen? ⟨G, 1, none⟩ = false := hst.hG.frozen 1
  have fs_0 : (w2.alloc (.cells #[.bool false, .int .i64 i3, .bool s3, .slice A3 l3 c3, .slice B3 k3 d3, .int .i64 i4, .bool s4, .slice A4 l4 c4, .slice B4 k4 d4] 70)).frozen? ⟨w1.heap.size, 0, none⟩ = false := hst.hS.frozen 0
  have fs_1 : (w2.alloc (.cells #[.bool false, .int .i64 i3, .bool s3, .slice A3 l3 c3, .slice B3 k3 d3, .int .i64 i4, .bool s4, .slice A4 l4 c4, .slice B4 k4 d4] 70)).frozen? ⟨w1.heap.size, 1, none⟩ = false := hst.hS.frozen 1
  have fs_2 : (w2.alloc (.cells #[.bool false, .int .i64 i3, .bool s3, .slice A3 l3 c3, .slice B3 k3 d3, .int .i64 i4, .bool s4, .slice A4 l4 c4, .slice B4 k4 d4] 70)).frozen? ⟨w1.heap.size, 2, none⟩ = false := hst.hS.frozen 2
  have fs_3 : (w2.alloc (.cells #[.bool false, .int .i64 i3, .bool s3, .slice A3 l3 c3, .slice B3 k3 d3, .int .i64 i4, .bool s4, .slice A4 l4 c4, .slice B4 k4 d4] 70)).frozen? ⟨w1.heap.size, 3, none⟩ = false := hst.hS.frozen 3
  have fs_4 : (w2.alloc (.cells #[.bool false, .int .i64 i3, .bool s3, .slice A3 l3 c3, .slice B3 k3 d3, .int .i64 i4, .bool s4, .slice A4 l4 c4, .slice B4 k4 d4] 70)).frozen? ⟨w1.heap.size, 4, none⟩ = false := hst.hS.frozen 4
  have fs_5 : (w2.alloc (.cells #[.bool false, .int .i64 i3, .bool s3, .slice A3 l3 c3, .slice B3 k3 d3, .int .i64 i4, .bool s4, .slice A4 l4 c4, .slice B4 k4 d4] 70)).frozen? ⟨w1.heap.size, 5, none⟩ = false := hst.hS.frozen 5
  have fs_6 : (w2.alloc (.cells #[.bool false, .int .i64 i3, .bool s3, .slice A3 l3 c3, .slice B3 k3 d3, .int .i64 i4, .bool s4, .slice A4 l4 c4, .slice B4 k4 d4] 70)).frozen? ⟨w1.heap.size, 6, none⟩ = false := hst.hS.frozen 6
  have fs_7 : (w2.alloc (.cells #[.bool false, .int .i64 i3, .bool s3, .slice A3 l3 c3, .slice B3 k3 d3, .int .i64 i4, .bool s4, .slice A4 l4 c4, .slice B4 k4 d4] 70)).frozen? ⟨w1.heap.size, 7, none⟩ = false := hst.hS.frozen 7
  have fs_8 : (w2.alloc (.cells #[.bool false, .int .i64 i3, .bool s3, .slice A3 l3 c3, .slice B3 k3 d3, .int .i64 i4, .bool s4, .slice A4 l4 c4, .slice B4 k4 d4] 70)).frozen? ⟨w1.heap.size, 8, none⟩ = false := hst.hS.frozen 8
  have lG : G < (w2.alloc (.cells #[.bool false, .int .i64 i3, .bool s3, .slice A3 l3 c3, .slice B3 k3 d3, .int .i64 i4, .bool s4, .slice A4 l4 c4, .slice B4 k4 d4] 70)).heap.size := hst.hG.lt
  have lS : w1.heap.size < (w2.alloc (.cells #[.bool false, .int .i64 i3, .bool s3, .slice A3 l3 c3, .slice B3 k3 d3, .int .i64 i4, .bool s4, .slice A4 l4 c4, .slice B4 k4 d4] 70)).heap.size := hst.hS.lt
  go_wp2_with fail
  clear s_0 t_0 fs_0 s_1 t_1 fs_1 s_2 t_2 fs_2 s_3 t_3 fs_3 s_4 t_4 fs_4 s_5 t_5 fs_5 s_6 t_6 fs_6 s_7 t_7 fs_7 s_8 t_8 fs_8 g_0 g_1 fg_0 fg_1 lG lS
  refine (HC1.out _ _ _ _ _ _ _ _ _ _ _ _ _ hst.r3 hst.r1).mono ?_
  rintro e w3 ⟨rfl, hE3⟩
  have hst3 := hst.ext hE3
  clear hst hE3
  have hst4 := hst3.setA
  have u_0 : (w3).cell? ⟨w2.heap.size, 0, none⟩ = some (.bool false) := hst3.hT.cell 0
  have u_1 : (w3).cell? ⟨w2.heap.size, 1, none⟩ = some (.int .i64 i3) := hst3.hT.cell 1
  have u_2 : (w3).cell? ⟨w2.heap.size, 2, none⟩ = some (.bool s3) := hst3.hT.cell 2
  have u_3 : (w3).cell? ⟨w2.heap.size, 3, none⟩ = some (.slice A3 l3 c3) := hst3.hT.cell 3
  have u_4 : (w3).cell? ⟨w2.heap.size, 4, none⟩ = some (.slice B3 k3 d3) := hst3.hT.cell 4
  have u_5 : (w3).cell? ⟨w2.heap.size, 5, none⟩ = some (.int .i64 i4) := hst3.hT.cell 5
  have u_6 : (w3).cell? ⟨w2.heap.size, 6, none⟩ = some (.bool s4) := hst3.hT.cell 6
  have u_7 : (w3).cell? ⟨w2.heap.size, 7, none⟩ = some (.slice A4 l4 c4) := hst3.hT.cell 7
  have u_8 : (w3).cell? ⟨w2.heap.size, 8, none⟩ = some (.slice B4 k4 d4) := hst3.hT.cell 8
  have fu_0 : (w3).frozen? ⟨w1.heap.size, 0, none⟩ = false := hst3.hS.frozen 0
  have fu_1 : (w3).frozen? ⟨w1.heap.size, 1, none⟩ = false := hst3.hS.frozen 1
  have fu_2 : (w3).frozen? ⟨w1.heap.size, 2, none⟩ = false := hst3.hS.frozen 2
  have fu_3 : (w3).frozen? ⟨w1.heap.size, 3, none⟩ = false := hst3.hS.frozen 3
  have fu_4 : (w3).frozen? ⟨w1.heap.size, 4, none⟩ = false := hst3.hS.frozen 4
  have fu_5 : (w3).frozen? ⟨w1.heap.size, 5, none⟩ = false := hst3.hS.frozen 5
  have fu_6 : (w3).frozen? ⟨w1.heap.size, 6, none⟩ = false := hst3.hS.frozen 6
  have fu_7 : (w3).frozen? ⟨w1.heap.size, 7, none⟩ = false := hst3.hS.frozen 7
  have fu_8 : (w3).frozen? ⟨w1.heap.size, 8, none⟩ = false := hst3.hS.frozen 8
  have lu : w1.heap.size < (w3).heap.size := hst3.hS.lt
  have us_0 : (w3).cell? ⟨w1.heap.size, 0, none⟩ = some (.bool false) := hst3.hS.cell 0
  have us_1 : (w3).cell? ⟨w1.heap.size, 1, none⟩ = some (.int .i64 i1) := hst3.hS.cell 1
  have us_2 : (w3).cell? ⟨w1.heap.size, 2, none⟩ = some (.bool s1) := hst3.hS.cell 2
  have us_3 : (w3).cell? ⟨w1.heap.size, 3, none⟩ = some (.slice A1 l1 c1) := hst3.hS.cell 3
  have us_4 : (w3).cell? ⟨w1.heap.size, 4, none⟩ = some (.slice B1 k1 d1) := hst3.hS.cell 4
  have us_5 : (w3).cell? ⟨w1.heap.size, 5, none⟩ = some (.int .i64 i2) := hst3.hS.cell 5
  have us_6 : (w3).cell? ⟨w1.heap.size, 6, none⟩ = some (.bool s2) := hst3.hS.cell 6
  have us_7 : (w3).cell? ⟨w1.heap.size, 7, none⟩ = some (.slice A2 l2 c2) := hst3.hS.cell 7
  have us_8 : (w3).cell? ⟨w1.heap.size, 8, none⟩ = some (.slice B2 k2 d2) := hst3.hS.cell 8
  clear hst3
  have s_0 : (((((w3).setCell ⟨w1.heap.size, 1, none⟩ (.int .i64 i3)).setCell ⟨w1.heap.size, 2, none⟩ (.bool s3)).setCell ⟨w1.heap.size, 3, none⟩ (.slice A3 l3 c3)).setCell ⟨w1.heap.size, 4, none⟩ (.slice B3 k3 d3)).cell? ⟨w1.heap.size, 0, none⟩ = some (.bool false) := hst4.hS.cell 0
  have s_1 : (((((w3).setCell ⟨w1.heap.size, 1, none⟩ (.int .i64 i3)).setCell ⟨w1.heap.size, 2, none⟩ (.bool s3)).setCell ⟨w1.heap.size, 3, none⟩ (.slice A3 l3 c3)).setCell ⟨w1.heap.size, 4, none⟩ (.slice B3 k3 d3)).cell? ⟨w1.heap.size, 1, none⟩ = some (.int .i64 i3) := hst4.hS.cell 1
  have s_2 : (((((w3).setCell ⟨w1.heap.size, 1, none⟩ (.int .i64 i3)).setCell ⟨w1.heap.size, 2, none⟩ (.bool s3)).setCell ⟨w1.heap.size, 3, none⟩ (.slice A3 l3 c3)).setCell ⟨w1.heap.size, 4, none⟩ (.slice B3 k3 d3)).cell? ⟨w1.heap.size, 2, none⟩ = some (.bool s3) := hst4.hS.cell 2
  have s_3 : (((((w3).setCell ⟨w1.heap.size, 1, none⟩ (.int .i64 i3)).setCell ⟨w1.heap.size, 2, none⟩ (.bool s3)).setCell ⟨w1.heap.size, 3, none⟩ (.slice A3 l3 c3)).setCell ⟨w1.heap.size, 4, none⟩ (.slice B3 k3 d3)).cell? ⟨w1.heap.size, 3, none⟩ = some (.slice A3 l3 c3) := hst4.hS.cell 3
  have s_4 : (((((w3).setCell ⟨w1.heap.size, 1, none⟩ (.int .i64 i3)).setCell ⟨w1.heap.size, 2, none⟩ (.bool s3)).setCell ⟨w1.heap.size, 3, none⟩ (.slice A3 l3 c3)).setCell ⟨w1.heap.size, 4, none⟩ (.slice B3 k3 d3)).cell? ⟨w1.heap.size, 4, none⟩ = some (.slice B3 k3 d3) := hst4.hS.cell 4
  have s_5 : (((((w3).setCell ⟨w1.heap.size, 1, none⟩ (.int .i64 i3)).setCell ⟨w1.heap.size, 2, none⟩ (.bool s3)).setCell ⟨w1.heap.size, 3, none⟩ (.slice A3 l3 c3)).setCell ⟨w1.heap.size, 4, none⟩ (.slice B3 k3 d3)).cell? ⟨w1.heap.size, 5, none⟩ = some (.int .i64 i2) := hst4.hS.cell 5
  have s_6 : (((((w3).setCell ⟨w1.heap.size, 1, none⟩ (.int .i64 i3)).setCell ⟨w1.heap.size, 2, none⟩ (.bool s3)).setCell ⟨w1.heap.size, 3, none⟩ (.slice A3 l3 c3)).setCell ⟨w1.heap.size, 4, none⟩ (.slice B3 k3 d3)).cell? ⟨w1.heap.size, 6, none⟩ = some (.bool s2) := hst4.hS.cell 6
  have s_7 : (((((w3).setCell ⟨w1.heap.size, 1, none⟩ (.int .i64 i3)).setCell ⟨w1.heap.size, 2, none⟩ (.bool s3)).setCell ⟨w1.heap.size, 3, none⟩ (.slice A3 l3 c3)).setCell ⟨w1.heap.size, 4, none⟩ (.slice B3 k3 d3)).cell? ⟨w1.heap.size, 7, none⟩ = some (.slice A2 l2 c2) := hst4.hS.cell 7
  have s_8 : (((((w3).setCell ⟨w1.heap.size, 1, none⟩ (.int .i64 i3)).setCell ⟨w1.heap.size, 2, none⟩ (.bool s3)).setCell ⟨w1.heap.size, 3, none⟩ (.slice A3 l3 c3)).setCell ⟨w1.heap.size, 4, none⟩ (.slice B3 k3 d3)).cell? ⟨w1.heap.size, 8, none⟩ = some (.slice B2 k2 d2) := hst4.hS.cell 8
  have t_0 : (((((w3).setCell ⟨w1.heap.size, 1, none⟩ (.int .i64 i3)).setCell ⟨w1.heap.size, 2, none⟩ (.bool s3)).setCell ⟨w1.heap.size, 3, none⟩ (.slice A3 l3 c3)).setCell ⟨w1.heap.size, 4, none⟩ (.slice B3 k3 d3)).cell? ⟨w2.heap.size, 0, none⟩ = some (.bool false) := hst4.hT.cell 0
  have t_1 : (((((w3).setCell ⟨w1.heap.size, 1, none⟩ (.int .i64 i3)).setCell ⟨w1.heap.size, 2, none⟩ (.bool s3)).setCell ⟨w1.heap.size, 3, none⟩ (.slice A3 l3 c3)).setCell ⟨w1.heap.size, 4, none⟩ (.slice B3 k3 d3)).cell? ⟨w2.heap.size, 1, none⟩ = some (.int .i64 i3) := hst4.hT.cell 1
  have t_2 : (((((w3).setCell ⟨w1.heap.size, 1, none⟩ (.int .i64 i3)).setCell ⟨w1.heap.size, 2, none⟩ (.bool s3)).setCell ⟨w1.heap.size, 3, none⟩ (.slice A3 l3 c3)).setCell ⟨w1.heap.size, 4, none⟩ (.slice B3 k3 d3)).cell? ⟨w2.heap.size, 2, none⟩ = some (.bool s3) := hst4.hT.cell 2
  have t_3 : (((((w3).setCell ⟨w1.heap.size, 1, none⟩ (.int .i64 i3)).setCell ⟨w1.heap.size, 2, none⟩ (.bool s3)).setCell ⟨w1.heap.size, 3, none⟩ (.slice A3 l3 c3)).setCell ⟨w1.heap.size, 4, none⟩ (.slice B3 k3 d3)).cell? ⟨w2.heap.size, 3, none⟩ = some (.slice A3 l3 c3) := hst4.hT.cell 3
  have t_4 : (((((w3).setCell ⟨w1.heap.size, 1, none⟩ (.int .i64 i3)).setCell ⟨w1.heap.size, 2, none⟩ (.bool s3)).setCell ⟨w1.heap.size, 3, none⟩ (.slice A3 l3 c3)).setCell ⟨w1.heap.size, 4, none⟩ (.slice B3 k3 d3)).cell? ⟨w2.heap.size, 4, none⟩ = some (.slice B3 k3 d3) := hst4.hT.cell 4
  have t_5 : (((((w3).setCell ⟨w1.heap.size, 1, none⟩ (.int .i64 i3)).setCell ⟨w1.heap.size, 2, none⟩ (.bool s3)).setCell ⟨w1.heap.size, 3, none⟩ (.slice A3 l3 c3)).setCell ⟨w1.heap.size, 4, none⟩ (.slice B3 k3 d3)).cell? ⟨w2.heap.size, 5, none⟩ = some (.int .i64 i4) := hst4.hT.cell 5
  have t_6 : (((((w3).setCell ⟨w1.heap.size, 1, none⟩ (.int .i64 i3)).setCell ⟨w1.heap.size, 2, none⟩ (.bool s3)).setCell ⟨w1.heap.size, 3, none⟩ (.slice A3 l3 c3)).setCell ⟨w1.heap.size, 4, none⟩ (.slice B3 k3 d3)).cell? ⟨w2.heap.size, 6, none⟩ = some (.bool s4) := hst4.hT.cell 6
  have t_7 : (((((w3).setCell ⟨w1.heap.size, 1, none⟩ (.int .i64 i3)).setCell ⟨w1.heap.size, 2, none⟩ (.bool s3)).setCell ⟨w1.heap.size, 3, none⟩ (.slice A3 l3 c3)).setCell ⟨w1.heap.size, 4, none⟩ (.slice B3 k3 d3)).cell? ⟨w2.heap.size, 7, none⟩ = some (.slice A4 l4 c4) := hst4.hT.cell 7
  have t_8 : (((((w3).setCell ⟨w1.heap.size, 1, none⟩ (.int .i64 i3)).setCell ⟨w1.heap.size, 2, none⟩ (.bool s3)).setCell ⟨w1.heap.size, 3, none⟩ (.slice A3 l3 c3)).setCell ⟨w1.heap.size, 4, none⟩ (.slice B3 k3 d3)).cell? ⟨w2.heap.size, 8, none⟩ = some (.slice B4 k4 d4) := hst4.hT.cell 8
  have g_0 : (((((w3).setCell ⟨w1.heap.size, 1, none⟩ (.int .i64 i3)).setCell ⟨w1.heap.size, 2, none⟩ (.bool s3)).setCell ⟨w1.heap.size, 3, none⟩ (.slice A3 l3 c3)).setCell ⟨w1.heap.size, 4, none⟩ (.slice B3 k3 d3)).cell? ⟨G, 0, none⟩ = some (.int .u64 0) := hst4.hG.cell 0
  have g_1 : (((((w3).setCell ⟨w1.heap.size, 1, none⟩ (.int .i64 i3)).setCell ⟨w1.heap.size, 2, none⟩ (.bool s3)).setCell ⟨w1.heap.size, 3, none⟩ (.slice A3 l3 c3)).setCell ⟨w1.heap.size, 4, none⟩ (.slice B3 k3 d3)).cell? ⟨G, 1, none⟩ = some (.int .u64 0) := hst4.hG.cell 1
  have fg_0 : (((((w3).setCell ⟨w1.heap.size, 1, none⟩ (.int .i64 i3)).setCell ⟨w1.heap.size, 2, none⟩ (.bool s3)).setCell ⟨w1.heap.size, 3, none⟩ (.slice A3 l3 c3)).setCell ⟨w1.heap.size, 4, none⟩ (.slice B3 k3 d3)).frozen? ⟨G, 0, none⟩ = false := hst4.hG.frozen 0
  have fg_1 : (((((w3).setCell ⟨w1.heap.size, 1, none⟩ (.int .i64 i3)).setCell ⟨w1.heap.size, 2, none⟩ (.bool s3)).setCell ⟨w1.heap.size, 3, none⟩ (.slice A3 l3 c3)).setCell ⟨w1.heap.size, 4, none⟩ (.slice B3 k3 d3)).frozen? ⟨G, 1, none⟩ = false := hst4.hG.frozen 1
  have fs_0 : (((((w3).setCell ⟨w1.heap.size, 1, none⟩ (.int .i64 i3)).setCell ⟨w1.heap.size, 2, none⟩ (.bool s3)).setCell ⟨w1.heap.size, 3, none⟩ (.slice A3 l3 c3)).setCell ⟨w1.heap.size, 4, none⟩ (.slice B3 k3 d3)).frozen? ⟨w1.heap.size, 0, none⟩ = false := hst4.hS.frozen 0
  have fs_1 : (((((w3).setCell ⟨w1.heap.size, 1, none⟩ (.int .i64 i3)).setCell ⟨w1.heap.size, 2, none⟩ (.bool s3)).setCell ⟨w1.heap.size, 3, none⟩ (.slice A3 l3 c3)).setCell ⟨w1.heap.size, 4, none⟩ (.slice B3 k3 d3)).frozen? ⟨w1.heap.size, 1, none⟩ = false := hst4.hS.frozen 1
  have fs_2 : (((((w3).setCell ⟨w1.heap.size, 1, none⟩ (.int .i64 i3)).setCell ⟨w1.heap.size, 2, none⟩ (.bool s3)).setCell ⟨w1.heap.size, 3, none⟩ (.slice A3 l3 c3)).setCell ⟨w1.heap.size, 4, none⟩ (.slice B3 k3 d3)).frozen? ⟨w1.heap.size, 2, none⟩ = false := hst4.hS.frozen 2
  have fs_3 : (((((w3).setCell ⟨w1.heap.size, 1, none⟩ (.int .i64 i3)).setCell ⟨w1.heap.size, 2, none⟩ (.bool s3)).setCell ⟨w1.heap.size, 3, none⟩ (.slice A3 l3 c3)).setCell ⟨w1.heap.size, 4, none⟩ (.slice B3 k3 d3)).frozen? ⟨w1.heap.size, 3, none⟩ = false := hst4.hS.frozen 3
  have fs_4 : (((((w3).setCell ⟨w1.heap.size, 1, none⟩ (.int .i64 i3)).setCell ⟨w1.heap.size, 2, none⟩ (.bool s3)).setCell ⟨w1.heap.size, 3, none⟩ (.slice A3 l3 c3)).setCell ⟨w1.heap.size, 4, none⟩ (.slice B3 k3 d3)).frozen? ⟨w1.heap.size, 4, none⟩ = false := hst4.hS.frozen 4
  have fs_5 : (((((w3).setCell ⟨w1.heap.size, 1, none⟩ (.int .i64 i3)).setCell ⟨w1.heap.size, 2, none⟩ (.bool s3)).setCell ⟨w1.heap.size, 3, none⟩ (.slice A3 l3 c3)).setCell ⟨w1.heap.size, 4, none⟩ (.slice B3 k3 d3)).frozen? ⟨w1.heap.size, 5, none⟩ = false := hst4.hS.frozen 5
  have fs_6 : (((((w3).setCell ⟨w1.heap.size, 1, none⟩ (.int .i64 i3)).setCell ⟨w1.heap.size, 2, none⟩ (.bool s3)).setCell ⟨w1.heap.size, 3, none⟩ (.slice A3 l3 c3)).setCell ⟨w1.heap.size, 4, none⟩ (.slice B3 k3 d3)).frozen? ⟨w1.heap.size, 6, none⟩ = false := hst4.hS.frozen 6
  have fs_7 : (((((w3).setCell ⟨w1.heap.size, 1, none⟩ (.int .i64 i3)).setCell ⟨w1.heap.size, 2, none⟩ (.bool s3)).setCell ⟨w1.heap.size, 3, none⟩ (.slice A3 l3 c3)).setCell ⟨w1.heap.size, 4, none⟩ (.slice B3 k3 d3)).frozen? ⟨w1.heap.size, 7, none⟩ = false := hst4.hS.frozen 7
  have fs_8 : (((((w3).setCell ⟨w1.heap.size, 1, none⟩ (.int .i64 i3)).setCell ⟨w1.heap.size, 2, none⟩ (.bool s3)).setCell ⟨w1.heap.size, 3, none⟩ (.slice A3 l3 c3)).setCell ⟨w1.heap.size, 4, none⟩ (.slice B3 k3 d3)).frozen? ⟨w1.heap.size, 8, none⟩ = false := hst4.hS.frozen 8
  have lG : G < (((((w3).setCell ⟨w1.heap.size, 1, none⟩ (.int .i64 i3)).setCell ⟨w1.heap.size, 2, none⟩ (.bool s3)).setCell ⟨w1.heap.size, 3, none⟩ (.slice A3 l3 c3)).setCell ⟨w1.heap.size, 4, none⟩ (.slice B3 k3 d3)).heap.size := hst4.hG.lt
  have lS : w1.heap.size < (((((w3).setCell ⟨w1.heap.size, 1, none⟩ (.int .i64 i3)).setCell ⟨w1.heap.size, 2, none⟩ (.bool s3)).setCell ⟨w1.heap.size, 3, none⟩ (.slice A3 l3 c3)).setCell ⟨w1.heap.size, 4, none⟩ (.slice B3 k3 d3)).heap.size := hst4.hS.lt
  go_wp2_with fail
  clear u_0 fu_0 us_0 u_1 fu_1 us_1 u_2 fu_2 us_2 u_3 fu_3 us_3 u_4 fu_4 us_4 u_5 fu_5 us_5 u_6 fu_6 us_6 u_7 fu_7 us_7 u_8 fu_8 us_8 lu
  clear s_0 t_0 fs_0 s_1 t_1 fs_1 s_2 t_2 fs_2 s_3 t_3 fs_3 s_4 t_4 fs_4 s_5 t_5 fs_5 s_6 t_6 fs_6 s_7 t_7 fs_7 s_8 t_8 fs_8 g_0 g_1 fg_0 fg_1 lG lS
  refine (HC2.out _ _ _ _ _ _ _ _ _ _ _ _ _ hst4.r4 hst4.r2).mono ?_
  rintro e w5 ⟨rfl, hE5⟩
  have hst5 := hst4.ext hE5
  clear hst4 hE5
  have s_0 : (w5).cell? ⟨w1.heap.size, 0, none⟩ = some (.bool false) := hst5.hS.cell 0
  have s_1 : (w5).cell? ⟨w1.heap.size, 1, none⟩ = some (.int .i64 i3) := hst5.hS.cell 1
  have s_2 : (w5).cell? ⟨w1.heap.size, 2, none⟩ = some (.bool s3) := hst5.hS.cell 2
  have s_3 : (w5).cell? ⟨w1.heap.size, 3, none⟩ = some (.slice A3 l3 c3) := hst5.hS.cell 3
  have s_4 : (w5).cell? ⟨w1.heap.size, 4, none⟩ = some (.slice B3 k3 d3) := hst5.hS.cell 4
  have s_5 : (w5).cell? ⟨w1.heap.size, 5, none⟩ = some (.int .i64 i2) := hst5.hS.cell 5
  have s_6 : (w5).cell? ⟨w1.heap.size, 6, none⟩ = some (.bool s2) := hst5.hS.cell 6
  have s_7 : (w5).cell? ⟨w1.heap.size, 7, none⟩ = some (.slice A2 l2 c2) := hst5.hS.cell 7
  have s_8 : (w5).cell? ⟨w1.heap.size, 8, none⟩ = some (.slice B2 k2 d2) := hst5.hS.cell 8
  have t_0 : (w5).cell? ⟨w2.heap.size, 0, none⟩ = some (.bool false) := hst5.hT.cell 0
  have t_1 : (w5).cell? ⟨w2.heap.size, 1, none⟩ = some (.int .i64 i3) := hst5.hT.cell 1
  have t_2 : (w5).cell? ⟨w2.heap.size, 2, none⟩ = some (.bool s3) := hst5.hT.cell 2
  have t_3 : (w5).cell? ⟨w2.heap.size, 3, none⟩ = some (.slice A3 l3 c3) := hst5.hT.cell 3
  have t_4 : (w5).cell? ⟨w2.heap.size, 4, none⟩ = some (.slice B3 k3 d3) := hst5.hT.cell 4
  have t_5 : (w5).cell? ⟨w2.heap.size, 5, none⟩ = some (.int .i64 i4) := hst5.hT.cell 5
  have t_6 : (w5).cell? ⟨w2.heap.size, 6, none⟩ = some (.bool s4) := hst5.hT.cell 6
  have t_7 : (w5).cell? ⟨w2.heap.size, 7, none⟩ = some (.slice A4 l4 c4) := hst5.hT.cell 7
  have t_8 : (w5).cell? ⟨w2.heap.size, 8, none⟩ = some (.slice B4 k4 d4) := hst5.hT.cell 8
  have g_0 : (w5).cell? ⟨G, 0, none⟩ = some (.int .u64 0) := hst5.hG.cell 0
  have g_1 : (w5).cell? ⟨G, 1, none⟩ = some (.int .u64 0) := hst5.hG.cell 1
  have fg_0 : (w5).frozen? ⟨G, 0, none⟩ = false := hst5.hG.frozen 0
  have fg_1 : (w5).frozen? ⟨G, 1, none⟩ = false := hst5.hG.frozen 1
  have fs_0 : (w5).frozen? ⟨w1.heap.size, 0, none⟩ = false := hst5.hS.frozen 0
  have fs_1 : (w5).frozen? ⟨w1.heap.size, 1, none⟩ = false := hst5.hS.frozen 1
  have fs_2 : (w5).frozen? ⟨w1.heap.size, 2, none⟩ = false := hst5.hS.frozen 2
  have fs_3 : (w5).frozen? ⟨w1.heap.size, 3, none⟩ = false := hst5.hS.frozen 3
  have fs_4 : (w5).frozen? ⟨w1.heap.size, 4, none⟩ = false := hst5.hS.frozen 4
  have fs_5 : (w5).frozen? ⟨w1.heap.size, 5, none⟩ = false := hst5.hS.frozen 5
  have fs_6 : (w5).frozen? ⟨w1.heap.size, 6, none⟩ = false := hst5.hS.frozen 6
  have fs_7 : (w5).frozen? ⟨w1.heap.size, 7, none⟩ = false := hst5.hS.frozen 7
  have fs_8 : (w5).frozen? ⟨w1.heap.size, 8, none⟩ = false := hst5.hS.frozen 8
  have lG : G < (w5).heap.size := hst5.hG.lt
  have lS : w1.heap.size < (w5).heap.size := hst5.hS.lt
  go_wp2_with fail
  clear s_0 t_0 fs_0 s_1 t_1 fs_1 s_2 t_2 fs_2 s_3 t_3 fs_3 s_4 t_4 fs_4 s_5 t_5 fs_5 s_6 t_6 fs_6 s_7 t_7 fs_7 s_8 t_8 fs_8 g_0 g_1 fg_0 fg_1 lG lS
  refine (HL.out _ _ _ _ _ _ _ _ _ _ _ _ _ hst5.r1 hst5.r2).mono ?_
  rintro e w7 ⟨rfl, hE7⟩
  have hst7 := hst5.ext hE7
  clear hst5 hE7
  have s_0 : (w7).cell? ⟨w1.heap.size, 0, none⟩ = some (.bool false) := hst7.hS.cell 0
  have s_1 : (w7).cell? ⟨w1.heap.size, 1, none⟩ = some (.int .i64 i3) := hst7.hS.cell 1
  have s_2 : (w7).cell? ⟨w1.heap.size, 2, none⟩ = some (.bool s3) := hst7.hS.cell 2
  have s_3 : (w7).cell? ⟨w1.heap.size, 3, none⟩ = some (.slice A3 l3 c3) := hst7.hS.cell 3
  have s_4 : (w7).cell? ⟨w1.heap.size, 4, none⟩ = some (.slice B3 k3 d3) := hst7.hS.cell 4
  have s_5 : (w7).cell? ⟨w1.heap.size, 5, none⟩ = some (.int .i64 i2) := hst7.hS.cell 5
  have s_6 : (w7).cell? ⟨w1.heap.size, 6, none⟩ = some (.bool s2) := hst7.hS.cell 6
  have s_7 : (w7).cell? ⟨w1.heap.size, 7, none⟩ = some (.slice A2 l2 c2) := hst7.hS.cell 7
  have s_8 : (w7).cell? ⟨w1.heap.size, 8, none⟩ = some (.slice B2 k2 d2) := hst7.hS.cell 8
  have t_0 : (w7).cell? ⟨w2.heap.size, 0, none⟩ = some (.bool false) := hst7.hT.cell 0
  have t_1 : (w7).cell? ⟨w2.heap.size, 1, none⟩ = some (.int .i64 i3) := hst7.hT.cell 1
  have t_2 : (w7).cell? ⟨w2.heap.size, 2, none⟩ = some (.bool s3) := hst7.hT.cell 2
  have t_3 : (w7).cell? ⟨w2.heap.size, 3, none⟩ = some (.slice A3 l3 c3) := hst7.hT.cell 3
  have t_4 : (w7).cell? ⟨w2.heap.size, 4, none⟩ = some (.slice B3 k3 d3) := hst7.hT.cell 4
  have t_5 : (w7).cell? ⟨w2.heap.size, 5, none⟩ = some (.int .i64 i4) := hst7.hT.cell 5
  have t_6 : (w7).cell? ⟨w2.heap.size, 6, none⟩ = some (.bool s4) := hst7.hT.cell 6
  have t_7 : (w7).cell? ⟨w2.heap.size, 7, none⟩ = some (.slice A4 l4 c4) := hst7.hT.cell 7
  have t_8 : (w7).cell? ⟨w2.heap.size, 8, none⟩ = some (.slice B4 k4 d4) := hst7.hT.cell 8
  have g_0 : (w7).cell? ⟨G, 0, none⟩ = some (.int .u64 0) := hst7.hG.cell 0
  have g_1 : (w7).cell? ⟨G, 1, none⟩ = some (.int .u64 0) := hst7.hG.cell 1
  have fg_0 : (w7).frozen? ⟨G, 0, none⟩ = false := hst7.hG.frozen 0
  have fg_1 : (w7).frozen? ⟨G, 1, none⟩ = false := hst7.hG.frozen 1
  have fs_0 : (w7).frozen? ⟨w1.heap.size, 0, none⟩ = false := hst7.hS.frozen 0
  have fs_1 : (w7).frozen? ⟨w1.heap.size, 1, none⟩ = false := hst7.hS.frozen 1
  have fs_2 : (w7).frozen? ⟨w1.heap.size, 2, none⟩ = false := hst7.hS.frozen 2
  have fs_3 : (w7).frozen? ⟨w1.heap.size, 3, none⟩ = false := hst7.hS.frozen 3
  have fs_4 : (w7).frozen? ⟨w1.heap.size, 4, none⟩ = false := hst7.hS.frozen 4
  have fs_5 : (w7).frozen? ⟨w1.heap.size, 5, none⟩ = false := hst7.hS.frozen 5
  have fs_6 : (w7).frozen? ⟨w1.heap.size, 6, none⟩ = false := hst7.hS.frozen 6
  have fs_7 : (w7).frozen? ⟨w1.heap.size, 7, none⟩ = false := hst7.hS.frozen 7
  have fs_8 : (w7).frozen? ⟨w1.heap.size, 8, none⟩ = false := hst7.hS.frozen 8
  have lG : G < (w7).heap.size := hst7.hG.lt
  have lS : w1.heap.size < (w7).heap.size := hst7.hS.lt
  go_wp2_with fail
  exact bodyPost_ret (v := .agg #[.int .u64 (r1 : Int), .int .u64 (r2 : Int)]) (by simp [results, Try.results36, go_sem, lG, g_0, g_1]) rfl ⟨rfl, (hst7.ex.setCell hGw _).setCell hGw _⟩

set_option maxHeartbeats 4000000 in
theorem max7_yy (x1 x2 y1 y2 : Nat) (i1 : Int) (s1 : Bool) (N1 D1 : Nat) (i2 : Int) (s2 : Bool) (N2 D2 : Nat) (i3 : Int) (s3 : Bool) (N3 D3 : Nat) (i4 : Int) (s4 : Bool) (N4 D4 : Nat) (v1 v2 : Int) (r1 r2 : Nat) (w : World)
    (HO1 : Hid (∀ w, Calls Try.prog 63 #[.agg #[.int .u64 (x1 : Int), .int .u64 (x2 : Int)]] w (RetSet false i1 s1 N1 D1 i2 s2 N2 D2 w)))
    (HO2 : Hid (∀ w, Calls Try.prog 63 #[.agg #[.int .u64 (y1 : Int), .int .u64 (y2 : Int)]] w (RetSet false i3 s3 N3 D3 i4 s4 N4 D4 w)))
    (HC1 : Hid (∀ A3 l3 c3 B3 k3 d3 A1 l1 c1 B1 k1 d1 w, RatAt w A3 l3 c3 B3 k3 d3 N3 D3 → RatAt w A1 l1 c1 B1 k1 d1 N1 D1 → Calls Try.prog 65 #[.agg #[.int .i64 i3, .bool s3, .slice A3 l3 c3, .slice B3 k3 d3], .agg #[.int .i64 i1, .bool s1, .slice A1 l1 c1, .slice B1 k1 d1]] w fun e w' => e = .returned (.int .i64 v1) ∧ Ext w w'))
    (HC2 : Hid (∀ A4 l4 c4 B4 k4 d4 A2 l2 c2 B2 k2 d2 w, RatAt w A4 l4 c4 B4 k4 d4 N4 D4 → RatAt w A2 l2 c2 B2 k2 d2 N2 D2 → Calls Try.prog 65 #[.agg #[.int .i64 i4, .bool s4, .slice A4 l4 c4, .slice B4 k4 d4], .agg #[.int .i64 i2, .bool s2, .slice A2 l2 c2, .slice B2 k2 d2]] w fun e w' => e = .returned (.int .i64 v2) ∧ Ext w w'))
    (HL : Hid (∀ A3 l3 c3 B3 k3 d3 A4 l4 c4 B4 k4 d4 w, RatAt w A3 l3 c3 B3 k3 d3 N3 D3 → RatAt w A4 l4 c4 B4 k4 d4 N4 D4 → Calls Try.prog 61 #[.agg #[.bool false, .int .i64 i3, .bool s3, .slice A3 l3 c3, .slice B3 k3 d3, .int .i64 i4, .bool s4, .slice A4 l4 c4, .slice B4 k4 d4]] w (RetI r1 r2 w)))
    (hx1 : decide (0 < v1) = true) (hx2 : decide (0 < v2) = true) :
    Calls Try.prog 36 #[.agg #[.int .u64 (x1 : Int), .int .u64 (x2 : Int)], .agg #[.int .u64 (y1 : Int), .int .u64 (y2 : Int)]] w (RetI r1 r2 w) := by
  have hb2 : Blk (((w.alloc (.cells #[.int .u64 (x1 : Int), .int .u64 (x2 : Int)] 24)).alloc (.cells #[.int .u64 (y1 : Int), .int .u64 (y2 : Int)] 24)).alloc (.cells #[.int .u64 0, .int .u64 0] 24)) (w.heap.size + 1) 24 #[.int .u64 (y1 : Int), .int .u64 (y2 : Int)] := (Blk.next w (.cells #[.int .u64 (x1 : Int), .int .u64 (x2 : Int)] 24) 24 #[.int .u64 (y1 : Int), .int .u64 (y2 : Int)]).ext ((Ext.refl _).alloc _)
  have hbG : Blk (((w.alloc (.cells #[.int .u64 (x1 : Int), .int .u64 (x2 : Int)] 24)).alloc (.cells #[.int .u64 (y1 : Int), .int .u64 (y2 : Int)] 24)).alloc (.cells #[.int .u64 0, .int .u64 0] 24)) (w.heap.size + 1 + 1) 24 #[.int .u64 0, .int .u64 0] := by
    have := Blk.next (w.alloc (.cells #[.int .u64 (x1 : Int), .int .u64 (x2 : Int)] 24)) (.cells #[.int .u64 (y1 : Int), .int .u64 (y2 : Int)] 24) 24 #[.int .u64 0, .int .u64 0]
    rwa [show (w.alloc (.cells #[.int .u64 (x1 : Int), .int .u64 (x2 : Int)] 24)).heap.size = w.heap.size + 1 by simp] at this
  have hEw : Ext w (((w.alloc (.cells #[.int .u64 (x1 : Int), .int .u64 (x2 : Int)] 24)).alloc (.cells #[.int .u64 (y1 : Int), .int .u64 (y2 : Int)] 24)).alloc (.cells #[.int .u64 0, .int .u64 0] 24)) := (((Ext.refl w).alloc _).alloc _).alloc _
  go_enter Try.func36, Try.ntmps36
  go_wp2_with fail
  refine (HO1.out _).mono ?_
  rintro e w1 ⟨A1, l1, c1, B1, k1, d1, A2, l2, c2, B2, k2, d2, rfl, h1, h2, hE1⟩
  obtain ⟨G, hG⟩ : ∃ G, G = w.heap.size + 1 + 1 := ⟨_, rfl⟩
  rw [show w.heap.size + 2 = G by omega]
  rw [← hG] at hbG
  have hGw : w.heap.size ≤ G := by omega
  have hE1' : Ext w1 (w1.alloc (.cells #[.bool false, .int .i64 i1, .bool s1, .slice A1 l1 c1, .slice B1 k1 d1, .int .i64 i2, .bool s2, .slice A2 l2 c2, .slice B2 k2 d2] 70)) := (Ext.refl w1).alloc _
  have hlt2 : G < w1.heap.size := by have a := hbG.lt; have b := hE1.size; omega
  have hlt3 : w.heap.size ≤ w1.heap.size := by omega
  have hb21 := (hb2.ext hE1).ext hE1'
  have hbG1 := (hbG.ext hE1).ext hE1'
  have hbS := Blk.new w1 70 #[.bool false, .int .i64 i1, .bool s1, .slice A1 l1 c1, .slice B1 k1 d1, .int .i64 i2, .bool s2, .slice A2 l2 c2, .slice B2 k2 d2]
  have h11 := h1.ext hE1'
  have h21 := h2.ext hE1'
  have hEw1 := (hEw.trans hE1).trans hE1'
  clear hb2 hbG h1 h2 hE1 hE1' hEw hG
  have j_0 : (w1.alloc (.cells #[.bool false, .int .i64 i1, .bool s1, .slice A1 l1 c1, .slice B1 k1 d1, .int .i64 i2, .bool s2, .slice A2 l2 c2, .slice B2 k2 d2] 70)).cell? ⟨w.heap.size + 1, 0, none⟩ = some (.int .u64 (y1 : Int)) := hb21.cell 0
  have j_1 : (w1.alloc (.cells #[.bool false, .int .i64 i1, .bool s1, .slice A1 l1 c1, .slice B1 k1 d1, .int .i64 i2, .bool s2, .slice A2 l2 c2, .slice B2 k2 d2] 70)).cell? ⟨w.heap.size + 1, 1, none⟩ = some (.int .u64 (y2 : Int)) := hb21.cell 1
  go_wp2_with fail
  clear j_0 j_1
  refine (HO2.out _).mono ?_
  rintro e w2 ⟨A3, l3, c3, B3, k3, d3, A4, l4, c4, B4, k4, d4, rfl, h3, h4, hE2⟩
  have hE2' : Ext (w1.alloc (.cells #[.bool false, .int .i64 i1, .bool s1, .slice A1 l1 c1, .slice B1 k1 d1, .int .i64 i2, .bool s2, .slice A2 l2 c2, .slice B2 k2 d2] 70)) (w2.alloc (.cells #[.bool false, .int .i64 i3, .bool s3, .slice A3 l3 c3, .slice B3 k3 d3, .int .i64 i4, .bool s4, .slice A4 l4 c4, .slice B4 k4 d4] 70)) := hE2.alloc _
  have hst : MM G w1.heap.size w2.heap.size false false i1 s1 A1 l1 c1 B1 k1 d1 N1 D1 i2 s2 A2 l2 c2 B2 k2 d2 N2 D2 i3 s3 A3 l3 c3 B3 k3 d3 N3 D3 i4 s4 A4 l4 c4 B4 k4 d4 N4 D4 w (w2.alloc (.cells #[.bool false, .int .i64 i3, .bool s3, .slice A3 l3 c3, .slice B3 k3 d3, .int .i64 i4, .bool s4, .slice A4 l4 c4, .slice B4 k4 d4] 70)) :=
    ⟨hbG1.ext hE2', hbS.ext hE2', Blk.new w2 _ _, h11.ext hE2', h21.ext hE2', h3.ext ((Ext.refl w2).alloc _), h4.ext ((Ext.refl w2).alloc _), hEw1.trans hE2', hlt3, hlt2, by have a := hbS.lt; have b := hE2.size; omega⟩
  clear hb21 hbG1 hbS h11 h21 hEw1 h3 h4 hE2 hE2' hlt2 hlt3
  have s_0 : (w2.alloc (.cells #[.bool false, .int .i64 i3, .bool s3, .slice A3 l3 c3, .slice B3 k3 d3, .int .i64 i4, .bool s4, .slice A4 l4 c4, .slice B4 k4 d4] 70)).cell? ⟨w1.heap.size, 0, none⟩ = some (.bool false) := hst.hS.cell 0
  have s_1 : (w2.alloc (.cells #[.bool false, .int .i64 i3, .bool s3, .slice A3 l3 c3, .slice B3 k3 d3, .int .i64 i4, .bool s4, .slice A4 l4 c4, .slice B4 k4 d4] 70)).cell? ⟨w1.heap.size, 1, none⟩ = some (.int .i64 i1) := hst.hS.cell 1
  have s_2 : (w2.alloc (.cells #[.bool false, .int .i64 i3, .bool s3, .slice A3 l3 c3, .slice B3 k3 d3, .int .i64 i4, .bool s4, .slice A4 l4 c4, .slice B4 k4 d4] 70)).cell? ⟨w1.heap.size, 2, none⟩ = some (.bool s1) := hst.hS.cell 2
  have s_3 : (w2.alloc (.cells #[.bool false, .int .i64 i3, .bool s3, .slice A3 l3 c3, .slice B3 k3 d3, .int .i64 i4, .bool s4, .slice A4 l4 c4, .slice B4 k4 d4] 70)).cell? ⟨w1.heap.size, 3, none⟩ = some (.slice A1 l1 c1) := hst.hS.cell 3
  have s_4 : (w2.alloc (.cells #[.bool false, .int .i64 i3, .bool s3, .slice A3 l3 c3, .slice B3 k3 d3, .int .i64 i4, .bool s4, .slice A4 l4 c4, .slice B4 k4 d4] 70)).cell? ⟨w1.heap.size, 4, none⟩ = some (.slice B1 k1 d1) := hst.hS.cell 4
  have s_5 : (w2.alloc (.cells #[.bool false, .int .i64 i3, .bool s3, .slice A3 l3 c3, .slice B3 k3 d3, .int .i64 i4, .bool s4, .slice A4 l4 c4, .slice B4 k4 d4] 70)).cell? ⟨w1.heap.size, 5, none⟩ = some (.int .i64 i2) := hst.hS.cell 5
  have s_6 : (w2.alloc (.cells #[.bool false, .int .i64 i3, .bool s3, .slice A3 l3 c3, .slice B3 k3 d3, .int .i64 i4, .bool s4, .slice A4 l4 c4, .slice B4 k4 d4] 70)).cell? ⟨w1.heap.size, 6, none⟩ = some (.bool s2) := hst.hS.cell 6
  have s_7 : (w2.alloc (.cells #[.bool false, .int .i64 i3, .bool s3, .slice A3 l3 c3, .slice B3 k3 d3, .int .i64 i4, .bool s4, .slice A4 l4 c4, .slice B4 k4 d4] 70)).cell? ⟨w1.heap.size, 7, none⟩ = some (.slice A2 l2 c2) := hst.hS.cell 7
  have s_8 : (w2.alloc (.cells #[.bool false, .int .i64 i3, .bool s3, .slice A3 l3 c3, .slice B3 k3 d3, .int .i64 i4, .bool s4, .slice A4 l4 c4, .slice B4 k4 d4] 70)).cell? ⟨w1.heap.size, 8, none⟩ = some (.slice B2 k2 d2) := hst.hS.cell 8
  have t_0 : (w2.alloc (.cells #[.bool false, .int .i64 i3, .bool s3, .slice A3 l3 c3, .slice B3 k3 d3, .int .i64 i4, .bool s4, .slice A4 l4 c4, .slice B4 k4 d4] 70)).cell? ⟨w2.heap.size, 0, none⟩ = some (.bool false) := hst.hT.cell 0
  have t_1 : (w2.alloc (.cells #[.bool false, .int .i64 i3, .bool s3, .slice A3 l3 c3, .slice B3 k3 d3, .int .i64 i4, .bool s4, .slice A4 l4 c4, .slice B4 k4 d4] 70)).cell? ⟨w2.heap.size, 1, none⟩ = some (.int .i64 i3) := hst.hT.cell 1
  have t_2 : (w2.alloc (.cells #[.bool false, .int .i64 i3, .bool s3, .slice A3 l3 c3, .slice B3 k3 d3, .int .i64 i4, .bool s4, .slice A4 l4 c4, .slice B4 k4 d4] 70)).cell? ⟨w2.heap.size, 2, none⟩ = some (.bool s3) := hst.hT.cell 2
  have t_3 : (w2.alloc (.cells #[.bool false, .int .i64 i3, .bool s3, .slice A3 l3 c3, .slice B3 k3 d3, .int .i64 i4, .bool s4, .slice A4 l4 c4, .slice B4 k4 d4] 70)).cell? ⟨w2.heap.size, 3, none⟩ = some (.slice A3 l3 c3) := hst.hT.cell 3
  have t_4 : (w2.alloc (.cells #[.bool false, .int .i64 i3, .bool s3, .slice A3 l3 c3, .slice B3 k3 d3, .int .i64 i4, .bool s4, .slice A4 l4 c4, .slice B4 k4 d4] 70)).cell? ⟨w2.heap.size, 4, none⟩ = some (.slice B3 k3 d3) := hst.hT.cell 4
  have t_5 : (w2.alloc (.cells #[.bool false, .int .i64 i3, .bool s3, .slice A3 l3 c3, .slice B3 k3 d3, .int .i64 i4, .bool s4, .slice A4 l4 c4, .slice B4 k4 d4] 70)).cell? ⟨w2.heap.size, 5, none⟩ = some (.int .i64 i4) := hst.hT.cell 5
  have t_6 : (w2.alloc (.cells #[.bool false, .int .i64 i3, .bool s3, .slice A3 l3 c3, .slice B3 k3 d3, .int .i64 i4, .bool s4, .slice A4 l4 c4, .slice B4 k4 d4] 70)).cell? ⟨w2.heap.size, 6, none⟩ = some (.bool s4) := hst.hT.cell 6
  have t_7 : (w2.alloc (.cells #[.bool false, .int .i64 i3, .bool s3, .slice A3 l3 c3, .slice B3 k3 d3, .int .i64 i4, .bool s4, .slice A4 l4 c4, .slice B4 k4 d4] 70)).cell? ⟨w2.heap.size, 7, none⟩ = some (.slice A4 l4 c4) := hst.hT.cell 7
  have t_8 : (w2.alloc (.cells #[.bool false, .int .i64 i3, .bool s3, .slice A3 l3 c3, .slice B3 k3 d3, .int .i64 i4, .bool s4, .slice A4 l4 c4, .slice B4 k4 d4] 70)).cell? ⟨w2.heap.size, 8, none⟩ = some (.slice B4 k4 d4) := hst.hT.cell 8
  have g_0 : (w2.alloc (.cells #[.bool false, .int .i64 i3, .bool s3, .slice A3 l3 c3, .slice B3 k3 d3, .int .i64 i4, .bool s4, .slice A4 l4 c4, .slice B4 k4 d4] 70)).cell? ⟨G, 0, none⟩ = some (.int .u64 0) := hst.hG.cell 0
  have g_1 : (w2.alloc (.cells #[.bool false, .int .i64 i3, .bool s3, .slice A3 l3 c3, .slice B3 k3 d3, .int .i64 i4, .bool s4, .slice A4 l4 c4, .slice B4 k4 d4] 70)).cell? ⟨G, 1, none⟩ = some (.int .u64 0) := hst.hG.cell 1
  have fg_0 : (w2.alloc (.cells #[.bool false, .int .i64 i3, .bool s3, .slice A3 l3 c3, .slice B3 k3 d3, .int .i64 i4, .bool s4, .slice A4 l4 c4, .slice B4 k4 d4] 70)).frozen? ⟨G, 0, none⟩ = false := hst.hG.frozen 0
  have fg_1 : (w2.alloc (.cells #[.bool false, .int .i64 i3, .bool s3, .slice A3 l3 c3, .slice B3 k3 d3, .int .i64 i4, .bool s4, .slice A4 l4 c4, .slice B4 k4 d4] 70)).frozen? ⟨G, 1, none⟩ = false := hst.hG.frozen 1
  have fs_0 : (w2.alloc (.cells #[.bool false, .int .i64 i3, .bool s3, .slice A3 l3 c3, .slice B3 k3 d3, .int .i64 i4, .bool s4, .slice A4 l4 c4, .slice B4 k4 d4] 70)).frozen? ⟨w1.heap.size, 0, none⟩ = false := hst.hS.frozen 0
  have fs_1 : (w2.alloc (.cells #[.bool false, .int .i64 i3, .bool s3, .slice A3 l3 c3, .slice B3 k3 d3, .int .i64 i4, .bool s4, .slice A4 l4 c4, .slice B4 k4 d4] 70)).frozen? ⟨w1.heap.size, 1, none⟩ = false := hst.hS.frozen 1
  have fs_2 : (w2.alloc (.cells #[.bool false, .int .i64 i3, .bool s3, .slice A3 l3 c3, .slice B3 k3 d3, .int .i64 i4, .bool s4, .slice A4 l4 c4, .slice B4 k4 d4] 70)).frozen? ⟨w1.heap.size, 2, none⟩ = false := hst.hS.frozen 2
  have fs_3 : (w2.alloc (.cells #[.bool false, .int .i64 i3, .bool s3, .slice A3 l3 c3, .slice B3 k3 d3, .int .i64 i4, .bool s4, .slice A4 l4 c4, .slice B4 k4 d4] 70)).frozen? ⟨w1.heap.size, 3, none⟩ = false := hst.hS.frozen 3
  have fs_4 : (w2.alloc (.cells #[.bool false, .int .i64 i3, .bool s3, .slice A3 l3 c3, .slice B3 k3 d3, .int .i64 i4, .bool s4, .slice A4 l4 c4, .slice B4 k4 d4] 70)).frozen? ⟨w1.heap.size, 4, none⟩ = false := hst.hS.frozen 4
  have fs_5 : (w2.alloc (.cells #[.bool false, .int .i64 i3, .bool s3, .slice A3 l3 c3, .slice B3 k3 d3, .int .i64 i4, .bool s4, .slice A4 l4 c4, .slice B4 k4 d4] 70)).frozen? ⟨w1.heap.size, 5, none⟩ = false := hst.hS.frozen 5
  have fs_6 : (w2.alloc (.cells #[.bool false, .int .i64 i3, .bool s3, .slice A3 l3 c3, .slice B3 k3 d3, .int .i64 i4, .bool s4, .slice A4 l4 c4, .slice B4 k4 d4] 70)).frozen? ⟨w1.heap.size, 6, none⟩ = false := hst.hS.frozen 6
  have fs_7 : (w2.alloc (.cells #[.bool false, .int .i64 i3, .bool s3, .slice A3 l3 c3, .slice B3 k3 d3, .int .i64 i4, .bool s4, .slice A4 l4 c4, .slice B4 k4 d4] 70)).frozen? ⟨w1.heap.size, 7, none⟩ = false := hst.hS.frozen 7
  have fs_8 : (w2.alloc (.cells #[.bool false, .int .i64 i3, .bool s3, .slice A3 l3 c3, .slice B3 k3 d3, .int .i64 i4, .bool s4, .slice A4 l4 c4, .slice B4 k4 d4] 70)).frozen? ⟨w1.heap.size, 8, none⟩ = false := hst.hS.frozen 8
  have lG : G < (w2.alloc (.cells #[.bool false, .int .i64 i3, .bool s3, .slice A3 l3 c3, .slice B3 k3 d3, .int .i64 i4, .bool s4, .slice A4 l4 c4, .slice B4 k4 d4] 70)).heap.size := hst.hG.lt
  have lS : w1.heap.size < (w2.alloc (.cells #[.bool false, .int .i64 i3, .bool s3, .slice A3 l3 c3, .slice B3 k3 d3, .int .i64 i4, .bool s4, .slice A4 l4 c4, .slice B4 k4 d4] 70)).heap.size := hst.hS.lt
  go_wp2_with fail
  clear s_0 t_0 fs_0 s_1 t_1 fs_1 s_2 t_2 fs_2 s_3 t_3 fs_3 s_4 t_4 fs_4 s_5 t_5 fs_5 s_6 t_6 fs_6 s_7 t_7 fs_7 s_8 t_8 fs_8 g_0 g_1 fg_0 fg_1 lG lS
  refine (HC1.out _ _ _ _ _ _ _ _ _ _ _ _ _ hst.r3 hst.r1).mono ?_
  rintro e w3 ⟨rfl, hE3⟩
  have hst3 := hst.ext hE3
  clear hst hE3
  have hst4 := hst3.setA
  have u_0 : (w3).cell? ⟨w2.heap.size, 0, none⟩ = some (.bool false) := hst3.hT.cell 0
  have u_1 : (w3).cell? ⟨w2.heap.size, 1, none⟩ = some (.int .i64 i3) := hst3.hT.cell 1
  have u_2 : (w3).cell? ⟨w2.heap.size, 2, none⟩ = some (.bool s3) := hst3.hT.cell 2
  have u_3 : (w3).cell? ⟨w2.heap.size, 3, none⟩ = some (.slice A3 l3 c3) := hst3.hT.cell 3
  have u_4 : (w3).cell? ⟨w2.heap.size, 4, none⟩ = some (.slice B3 k3 d3) := hst3.hT.cell 4
  have u_5 : (w3).cell? ⟨w2.heap.size, 5, none⟩ = some (.int .i64 i4) := hst3.hT.cell 5
  have u_6 : (w3).cell? ⟨w2.heap.size, 6, none⟩ = some (.bool s4) := hst3.hT.cell 6
  have u_7 : (w3).cell? ⟨w2.heap.size, 7, none⟩ = some (.slice A4 l4 c4) := hst3.hT.cell 7
  have u_8 : (w3).cell? ⟨w2.heap.size, 8, none⟩ = some (.slice B4 k4 d4) := hst3.hT.cell 8
  have fu_0 : (w3).frozen? ⟨w1.heap.size, 0, none⟩ = false := hst3.hS.frozen 0
  have fu_1 : (w3).frozen? ⟨w1.heap.size, 1, none⟩ = false := hst3.hS.frozen 1
  have fu_2 : (w3).frozen? ⟨w1.heap.size, 2, none⟩ = false := hst3.hS.frozen 2
  have fu_3 : (w3).frozen? ⟨w1.heap.size, 3, none⟩ = false := hst3.hS.frozen 3
  have fu_4 : (w3).frozen? ⟨w1.heap.size, 4, none⟩ = false := hst3.hS.frozen 4
  have fu_5 : (w3).frozen? ⟨w1.heap.size, 5, none⟩ = false := hst3.hS.frozen 5
  have fu_6 : (w3).frozen? ⟨w1.heap.size, 6, none⟩ = false := hst3.hS.frozen 6
  have fu_7 : (w3).frozen? ⟨w1.heap.size, 7, none⟩ = false := hst3.hS.frozen 7
  have fu_8 : (w3).frozen? ⟨w1.heap.size, 8, none⟩ = false := hst3.hS.frozen 8
  have lu : w1.heap.size < (w3).heap.size := hst3.hS.lt
  have us_0 : (w3).cell? ⟨w1.heap.size, 0, none⟩ = some (.bool false) := hst3.hS.cell 0
  have us_1 : (w3).cell? ⟨w1.heap.size, 1, none⟩ = some (.int .i64 i1) := hst3.hS.cell 1
  have us_2 : (w3).cell? ⟨w1.heap.size, 2, none⟩ = some (.bool s1) := hst3.hS.cell 2
  have us_3 : (w3).cell? ⟨w1.heap.size, 3, none⟩ = some (.slice A1 l1 c1) := hst3.hS.cell 3
  have us_4 : (w3).cell? ⟨w1.heap.size, 4, none⟩ = some (.slice B1 k1 d1) := hst3.hS.cell 4
  have us_5 : (w3).cell? ⟨w1.heap.size, 5, none⟩ = some (.int .i64 i2) := hst3.hS.cell 5
  have us_6 : (w3).cell? ⟨w1.heap.size, 6, none⟩ = some (.bool s2) := hst3.hS.cell 6
  have us_7 : (w3).cell? ⟨w1.heap.size, 7, none⟩ = some (.slice A2 l2 c2) := hst3.hS.cell 7
  have us_8 : (w3).cell? ⟨w1.heap.size, 8, none⟩ = some (.slice B2 k2 d2) := hst3.hS.cell 8
  clear hst3
  have s_0 : (((((w3).setCell ⟨w1.heap.size, 1, none⟩ (.int .i64 i3)).setCell ⟨w1.heap.size, 2, none⟩ (.bool s3)).setCell ⟨w1.heap.size, 3, none⟩ (.slice A3 l3 c3)).setCell ⟨w1.heap.size, 4, none⟩ (.slice B3 k3 d3)).cell? ⟨w1.heap.size, 0, none⟩ = some (.bool false) := hst4.hS.cell 0
  have s_1 : (((((w3).setCell ⟨w1.heap.size, 1, none⟩ (.int .i64 i3)).setCell ⟨w1.heap.size, 2, none⟩ (.bool s3)).setCell ⟨w1.heap.size, 3, none⟩ (.slice A3 l3 c3)).setCell ⟨w1.heap.size, 4, none⟩ (.slice B3 k3 d3)).cell? ⟨w1.heap.size, 1, none⟩ = some (.int .i64 i3) := hst4.hS.cell 1
  have s_2 : (((((w3).setCell ⟨w1.heap.size, 1, none⟩ (.int .i64 i3)).setCell ⟨w1.heap.size, 2, none⟩ (.bool s3)).setCell ⟨w1.heap.size, 3, none⟩ (.slice A3 l3 c3)).setCell ⟨w1.heap.size, 4, none⟩ (.slice B3 k3 d3)).cell? ⟨w1.heap.size, 2, none⟩ = some (.bool s3) := hst4.hS.cell 2
  have s_3 : (((((w3).setCell ⟨w1.heap.size, 1, none⟩ (.int .i64 i3)).setCell ⟨w1.heap.size, 2, none⟩ (.bool s3)).setCell ⟨w1.heap.size, 3, none⟩ (.slice A3 l3 c3)).setCell ⟨w1.heap.size, 4, none⟩ (.slice B3 k3 d3)).cell? ⟨w1.heap.size, 3, none⟩ = some (.slice A3 l3 c3) := hst4.hS.cell 3
  have s_4 : (((((w3).setCell ⟨w1.heap.size, 1, none⟩ (.int .i64 i3)).setCell ⟨w1.heap.size, 2, none⟩ (.bool s3)).setCell ⟨w1.heap.size, 3, none⟩ (.slice A3 l3 c3)).setCell ⟨w1.heap.size, 4, none⟩ (.slice B3 k3 d3)).cell? ⟨w1.heap.size, 4, none⟩ = some (.slice B3 k3 d3) := hst4.hS.cell 4
  have s_5 : (((((w3).setCell ⟨w1.heap.size, 1, none⟩ (.int .i64 i3)).setCell ⟨w1.heap.size, 2, none⟩ (.bool s3)).setCell ⟨w1.heap.size, 3, none⟩ (.slice A3 l3 c3)).setCell ⟨w1.heap.size, 4, none⟩ (.slice B3 k3 d3)).cell? ⟨w1.heap.size, 5, none⟩ = some (.int .i64 i2) := hst4.hS.cell 5
  have s_6 : (((((w3).setCell ⟨w1.heap.size, 1, none⟩ (.int .i64 i3)).setCell ⟨w1.heap.size, 2, none⟩ (.bool s3)).setCell ⟨w1.heap.size, 3, none⟩ (.slice A3 l3 c3)).setCell ⟨w1.heap.size, 4, none⟩ (.slice B3 k3 d3)).cell? ⟨w1.heap.size, 6, none⟩ = some (.bool s2) := hst4.hS.cell 6
  have s_7 : (((((w3).setCell ⟨w1.heap.size, 1, none⟩ (.int .i64 i3)).setCell ⟨w1.heap.size, 2, none⟩ (.bool s3)).setCell ⟨w1.heap.size, 3, none⟩ (.slice A3 l3 c3)).setCell ⟨w1.heap.size, 4, none⟩ (.slice B3 k3 d3)).cell? ⟨w1.heap.size, 7, none⟩ = some (.slice A2 l2 c2) := hst4.hS.cell 7
  have s_8 : (((((w3).setCell ⟨w1.heap.size, 1, none⟩ (.int .i64 i3)).setCell ⟨w1.heap.size, 2, none⟩ (.bool s3)).setCell ⟨w1.heap.size, 3, none⟩ (.slice A3 l3 c3)).setCell ⟨w1.heap.size, 4, none⟩ (.slice B3 k3 d3)).cell? ⟨w1.heap.size, 8, none⟩ = some (.slice B2 k2 d2) := hst4.hS.cell 8
  have t_0 : (((((w3).setCell ⟨w1.heap.size, 1, none⟩ (.int .i64 i3)).setCell ⟨w1.heap.size, 2, none⟩ (.bool s3)).setCell ⟨w1.heap.size, 3, none⟩ (.slice A3 l3 c3)).setCell ⟨w1.heap.size, 4, none⟩ (.slice B3 k3 d3)).cell? ⟨w2.heap.size, 0, none⟩ = some (.bool false) := hst4.hT.cell 0
  have t_1 : (((((w3).setCell ⟨w1.heap.size, 1, none⟩ (.int .i64 i3)).setCell ⟨w1.heap.size, 2, none⟩ (.bool s3)).setCell ⟨w1.heap.size, 3, none⟩ (.slice A3 l3 c3)).setCell ⟨w1.heap.size, 4, none⟩ (.slice B3 k3 d3)).cell? ⟨w2.heap.size, 1, none⟩ = some (.int .i64 i3) := hst4.hT.cell 1
  have t_2 : (((((w3).setCell ⟨w1.heap.size, 1, none⟩ (.int .i64 i3)).setCell ⟨w1.heap.size, 2, none⟩ (.bool s3)).setCell ⟨w1.heap.size, 3, none⟩ (.slice A3 l3 c3)).setCell ⟨w1.heap.size, 4, none⟩ (.slice B3 k3 d3)).cell? ⟨w2.heap.size, 2, none⟩ = some (.bool s3) := hst4.hT.cell 2
  have t_3 : (((((w3).setCell ⟨w1.heap.size, 1, none⟩ (.int .i64 i3)).setCell ⟨w1.heap.size, 2, none⟩ (.bool s3)).setCell ⟨w1.heap.size, 3, none⟩ (.slice A3 l3 c3)).setCell ⟨w1.heap.size, 4, none⟩ (.slice B3 k3 d3)).cell? ⟨w2.heap.size, 3, none⟩ = some (.slice A3 l3 c3) := hst4.hT.cell 3
  have t_4 : (((((w3).setCell ⟨w1.heap.size, 1, none⟩ (.int .i64 i3)).setCell ⟨w1.heap.size, 2, none⟩ (.bool s3)).setCell ⟨w1.heap.size, 3, none⟩ (.slice A3 l3 c3)).setCell ⟨w1.heap.size, 4, none⟩ (.slice B3 k3 d3)).cell? ⟨w2.heap.size, 4, none⟩ = some (.slice B3 k3 d3) := hst4.hT.cell 4
  have t_5 : (((((w3).setCell ⟨w1.heap.size, 1, none⟩ (.int .i64 i3)).setCell ⟨w1.heap.size, 2, none⟩ (.bool s3)).setCell ⟨w1.heap.size, 3, none⟩ (.slice A3 l3 c3)).setCell ⟨w1.heap.size, 4, none⟩ (.slice B3 k3 d3)).cell? ⟨w2.heap.size, 5, none⟩ = some (.int .i64 i4) := hst4.hT.cell 5
  have t_6 : (((((w3).setCell ⟨w1.heap.size, 1, none⟩ (.int .i64 i3)).setCell ⟨w1.heap.size, 2, none⟩ (.bool s3)).setCell ⟨w1.heap.size, 3, none⟩ (.slice A3 l3 c3)).setCell ⟨w1.heap.size, 4, none⟩ (.slice B3 k3 d3)).cell? ⟨w2.heap.size, 6, none⟩ = some (.bool s4) := hst4.hT.cell 6
  have t_7 : (((((w3).setCell ⟨w1.heap.size, 1, none⟩ (.int .i64 i3)).setCell ⟨w1.heap.size, 2, none⟩ (.bool s3)).setCell ⟨w1.heap.size, 3, none⟩ (.slice A3 l3 c3)).setCell ⟨w1.heap.size, 4, none⟩ (.slice B3 k3 d3)).cell? ⟨w2.heap.size, 7, none⟩ = some (.slice A4 l4 c4) := hst4.hT.cell 7
  have t_8 : (((((w3).setCell ⟨w1.heap.size, 1, none⟩ (.int .i64 i3)).setCell ⟨w1.heap.size, 2, none⟩ (.bool s3)).setCell ⟨w1.heap.size, 3, none⟩ (.slice A3 l3 c3)).setCell ⟨w1.heap.size, 4, none⟩ (.slice B3 k3 d3)).cell? ⟨w2.heap.size, 8, none⟩ = some (.slice B4 k4 d4) := hst4.hT.cell 8
  have g_0 : (((((w3).setCell ⟨w1.heap.size, 1, none⟩ (.int .i64 i3)).setCell ⟨w1.heap.size, 2, none⟩ (.bool s3)).setCell ⟨w1.heap.size, 3, none⟩ (.slice A3 l3 c3)).setCell ⟨w1.heap.size, 4, none⟩ (.slice B3 k3 d3)).cell? ⟨G, 0, none⟩ = some (.int .u64 0) := hst4.hG.cell 0
  have g_1 : (((((w3).setCell ⟨w1.heap.size, 1, none⟩ (.int .i64 i3)).setCell ⟨w1.heap.size, 2, none⟩ (.bool s3)).setCell ⟨w1.heap.size, 3, none⟩ (.slice A3 l3 c3)).setCell ⟨w1.heap.size, 4, none⟩ (.slice B3 k3 d3)).cell? ⟨G, 1, none⟩ = some (.int .u64 0) := hst4.hG.cell 1
  have fg_0 : (((((w3).setCell ⟨w1.heap.size, 1, none⟩ (.int .i64 i3)).setCell ⟨w1.heap.size, 2, none⟩ (.bool s3)).setCell ⟨w1.heap.size, 3, none⟩ (.slice A3 l3 c3)).setCell ⟨w1.heap.size, 4, none⟩ (.slice B3 k3 d3)).frozen? ⟨G, 0, none⟩ = false := hst4.hG.frozen 0
  have fg_1 : (((((w3).setCell ⟨w1.heap.size, 1, none⟩ (.int .i64 i3)).setCell ⟨w1.heap.size, 2, none⟩ (.bool s3)).setCell ⟨w1.heap.size, 3, none⟩ (.slice A3 l3 c3)).setCell ⟨w1.heap.size, 4, none⟩ (.slice B3 k3 d3)).frozen? ⟨G, 1, none⟩ = false := hst4.hG.frozen 1
  have fs_0 : (((((w3).setCell ⟨w1.heap.size, 1, none⟩ (.int .i64 i3)).setCell ⟨w1.heap.size, 2, none⟩ (.bool s3)).setCell ⟨w1.heap.size, 3, none⟩ (.slice A3 l3 c3)).setCell ⟨w1.heap.size, 4, none⟩ (.slice B3 k3 d3)).frozen? ⟨w1.heap.size, 0, none⟩ = false := hst4.hS.frozen 0
  have fs_1 : (((((w3).setCell ⟨w1.heap.size, 1, none⟩ (.int .i64 i3)).setCell ⟨w1.heap.size, 2, none⟩ (.bool s3)).setCell ⟨w1.heap.size, 3, none⟩ (.slice A3 l3 c3)).setCell ⟨w1.heap.size, 4, none⟩ (.slice B3 k3 d3)).frozen? ⟨w1.heap.size, 1, none⟩ = false := hst4.hS.frozen 1
  have fs_2 : (((((w3).setCell ⟨w1.heap.size, 1, none⟩ (.int .i64 i3)).setCell ⟨w1.heap.size, 2, none⟩ (.bool s3)).setCell ⟨w1.heap.size, 3, none⟩ (.slice A3 l3 c3)).setCell ⟨w1.heap.size, 4, none⟩ (.slice B3 k3 d3)).frozen? ⟨w1.heap.size, 2, none⟩ = false := hst4.hS.frozen 2
  have fs_3 : (((((w3).setCell ⟨w1.heap.size, 1, none⟩ (.int .i64 i3)).setCell ⟨w1.heap.size, 2, none⟩ (.bool s3)).setCell ⟨w1.heap.size, 3, none⟩ (.slice A3 l3 c3)).setCell ⟨w1.heap.size, 4, none⟩ (.slice B3 k3 d3)).frozen? ⟨w1.heap.size, 3, none⟩ = false := hst4.hS.frozen 3
  have fs_4 : (((((w3).setCell ⟨w1.heap.size, 1, none⟩ (.int .i64 i3)).setCell ⟨w1.heap.size, 2, none⟩ (.bool s3)).setCell ⟨w1.heap.size, 3, none⟩ (.slice A3 l3 c3)).setCell ⟨w1.heap.size, 4, none⟩ (.slice B3 k3 d3)).frozen? ⟨w1.heap.size, 4, none⟩ = false := hst4.hS.frozen 4
  have fs_5 : (((((w3).setCell ⟨w1.heap.size, 1, none⟩ (.int .i64 i3)).setCell ⟨w1.heap.size, 2, none⟩ (.bool s3)).setCell ⟨w1.heap.size, 3, none⟩ (.slice A3 l3 c3)).setCell ⟨w1.heap.size, 4, none⟩ (.slice B3 k3 d3)).frozen? ⟨w1.heap.size, 5, none⟩ = false := hst4.hS.frozen 5
  have fs_6 : (((((w3).setCell ⟨w1.heap.size, 1, none⟩ (.int .i64 i3)).setCell ⟨w1.heap.size, 2, none⟩ (.bool s3)).setCell ⟨w1.heap.size, 3, none⟩ (.slice A3 l3 c3)).setCell ⟨w1.heap.size, 4, none⟩ (.slice B3 k3 d3)).frozen? ⟨w1.heap.size, 6, none⟩ = false := hst4.hS.frozen 6
  have fs_7 : (((((w3).setCell ⟨w1.heap.size, 1, none⟩ (.int .i64 i3)).setCell ⟨w1.heap.size, 2, none⟩ (.bool s3)).setCell ⟨w1.heap.size, 3, none⟩ (.slice A3 l3 c3)).setCell ⟨w1.heap.size, 4, none⟩ (.slice B3 k3 d3)).frozen? ⟨w1.heap.size, 7, none⟩ = false := hst4.hS.frozen 7
  have fs_8 : (((((w3).setCell ⟨w1.heap.size, 1, none⟩ (.int .i64 i3)).setCell ⟨w1.heap.size, 2, none⟩ (.bool s3)).setCell ⟨w1.heap.size, 3, none⟩ (.slice A3 l3 c3)).setCell ⟨w1.heap.size, 4, none⟩ (.slice B3 k3 d3)).frozen? ⟨w1.heap.size, 8, none⟩ = false := hst4.hS.frozen 8
  have lG : G < (((((w3).setCell ⟨w1.heap.size, 1, none⟩ (.int .i64 i3)).setCell ⟨w1.heap.size, 2, none⟩ (.bool s3)).setCell ⟨w1.heap.size, 3, none⟩ (.slice A3 l3 c3)).setCell ⟨w1.heap.size, 4, none⟩ (.slice B3 k3 d3)).heap.size := hst4.hG.lt
  have lS : w1.heap.size < (((((w3).setCell ⟨w1.heap.size, 1, none⟩ (.int .i64 i3)).setCell ⟨w1.heap.size, 2, none⟩ (.bool s3)).setCell ⟨w1.heap.size, 3, none⟩ (.slice A3 l3 c3)).setCell ⟨w1.heap.size, 4, none⟩ (.slice B3 k3 d3)).heap.size := hst4.hS.lt
  go_wp2_with fail
  clear u_0 fu_0 us_0 u_1 fu_1 us_1 u_2 fu_2 us_2 u_3 fu_3 us_3 u_4 fu_4 us_4 u_5 fu_5 us_5 u_6 fu_6 us_6 u_7 fu_7 us_7 u_8 fu_8 us_8 lu
  clear s_0 t_0 fs_0 s_1 t_1 fs_1 s_2 t_2 fs_2 s_3 t_3 fs_3 s_4 t_4 fs_4 s_5 t_5 fs_5 s_6 t_6 fs_6 s_7 t_7 fs_7 s_8 t_8 fs_8 g_0 g_1 fg_0 fg_1 lG lS
  refine (HC2.out _ _ _ _ _ _ _ _ _ _ _ _ _ hst4.r4 hst4.r2).mono ?_
  rintro e w5 ⟨rfl, hE5⟩
  have hst5 := hst4.ext hE5
  clear hst4 hE5
  have hst6 := hst5.setB
  have u_0 : (w5).cell? ⟨w2.heap.size, 0, none⟩ = some (.bool false) := hst5.hT.cell 0
  have u_1 : (w5).cell? ⟨w2.heap.size, 1, none⟩ = some (.int .i64 i3) := hst5.hT.cell 1
  have u_2 : (w5).cell? ⟨w2.heap.size, 2, none⟩ = some (.bool s3) := hst5.hT.cell 2
  have u_3 : (w5).cell? ⟨w2.heap.size, 3, none⟩ = some (.slice A3 l3 c3) := hst5.hT.cell 3
  have u_4 : (w5).cell? ⟨w2.heap.size, 4, none⟩ = some (.slice B3 k3 d3) := hst5.hT.cell 4
  have u_5 : (w5).cell? ⟨w2.heap.size, 5, none⟩ = some (.int .i64 i4) := hst5.hT.cell 5
  have u_6 : (w5).cell? ⟨w2.heap.size, 6, none⟩ = some (.bool s4) := hst5.hT.cell 6
  have u_7 : (w5).cell? ⟨w2.heap.size, 7, none⟩ = some (.slice A4 l4 c4) := hst5.hT.cell 7
  have u_8 : (w5).cell? ⟨w2.heap.size, 8, none⟩ = some (.slice B4 k4 d4) := hst5.hT.cell 8
  have fu_0 : (w5).frozen? ⟨w1.heap.size, 0, none⟩ = false := hst5.hS.frozen 0
  have fu_1 : (w5).frozen? ⟨w1.heap.size, 1, none⟩ = false := hst5.hS.frozen 1
  have fu_2 : (w5).frozen? ⟨w1.heap.size, 2, none⟩ = false := hst5.hS.frozen 2
  have fu_3 : (w5).frozen? ⟨w1.heap.size, 3, none⟩ = false := hst5.hS.frozen 3
  have fu_4 : (w5).frozen? ⟨w1.heap.size, 4, none⟩ = false := hst5.hS.frozen 4
  have fu_5 : (w5).frozen? ⟨w1.heap.size, 5, none⟩ = false := hst5.hS.frozen 5
  have fu_6 : (w5).frozen? ⟨w1.heap.size, 6, none⟩ = false := hst5.hS.frozen 6
  have fu_7 : (w5).frozen? ⟨w1.heap.size, 7, none⟩ = false := hst5.hS.frozen 7
  have fu_8 : (w5).frozen? ⟨w1.heap.size, 8, none⟩ = false := hst5.hS.frozen 8
  have lu : w1.heap.size < (w5).heap.size := hst5.hS.lt
  have us_0 : (w5).cell? ⟨w1.heap.size, 0, none⟩ = some (.bool false) := hst5.hS.cell 0
  have us_1 : (w5).cell? ⟨w1.heap.size, 1, none⟩ = some (.int .i64 i3) := hst5.hS.cell 1
  have us_2 : (w5).cell? ⟨w1.heap.size, 2, none⟩ = some (.bool s3) := hst5.hS.cell 2
  have us_3 : (w5).cell? ⟨w1.heap.size, 3, none⟩ = some (.slice A3 l3 c3) := hst5.hS.cell 3
  have us_4 : (w5).cell? ⟨w1.heap.size, 4, none⟩ = some (.slice B3 k3 d3) := hst5.hS.cell 4
  have us_5 : (w5).cell? ⟨w1.heap.size, 5, none⟩ = some (.int .i64 i2) := hst5.hS.cell 5
  have us_6 : (w5).cell? ⟨w1.heap.size, 6, none⟩ = some (.bool s2) := hst5.hS.cell 6
  have us_7 : (w5).cell? ⟨w1.heap.size, 7, none⟩ = some (.slice A2 l2 c2) := hst5.hS.cell 7
  have us_8 : (w5).cell? ⟨w1.heap.size, 8, none⟩ = some (.slice B2 k2 d2) := hst5.hS.cell 8
  clear hst5
  have s_0 : (((((w5).setCell ⟨w1.heap.size, 5, none⟩ (.int .i64 i4)).setCell ⟨w1.heap.size, 6, none⟩ (.bool s4)).setCell ⟨w1.heap.size, 7, none⟩ (.slice A4 l4 c4)).setCell ⟨w1.heap.size, 8, none⟩ (.slice B4 k4 d4)).cell? ⟨w1.heap.size, 0, none⟩ = some (.bool false) := hst6.hS.cell 0
  have s_1 : (((((w5).setCell ⟨w1.heap.size, 5, none⟩ (.int .i64 i4)).setCell ⟨w1.heap.size, 6, none⟩ (.bool s4)).setCell ⟨w1.heap.size, 7, none⟩ (.slice A4 l4 c4)).setCell ⟨w1.heap.size, 8, none⟩ (.slice B4 k4 d4)).cell? ⟨w1.heap.size, 1, none⟩ = some (.int .i64 i3) := hst6.hS.cell 1
  have s_2 : (((((w5).setCell ⟨w1.heap.size, 5, none⟩ (.int .i64 i4)).setCell ⟨w1.heap.size, 6, none⟩ (.bool s4)).setCell ⟨w1.heap.size, 7, none⟩ (.slice A4 l4 c4)).setCell ⟨w1.heap.size, 8, none⟩ (.slice B4 k4 d4)).cell? ⟨w1.heap.size, 2, none⟩ = some (.bool s3) := hst6.hS.cell 2
  have s_3 : (((((w5).setCell ⟨w1.heap.size, 5, none⟩ (.int .i64 i4)).setCell ⟨w1.heap.size, 6, none⟩ (.bool s4)).setCell ⟨w1.heap.size, 7, none⟩ (.slice A4 l4 c4)).setCell ⟨w1.heap.size, 8, none⟩ (.slice B4 k4 d4)).cell? ⟨w1.heap.size, 3, none⟩ = some (.slice A3 l3 c3) := hst6.hS.cell 3
  have s_4 : (((((w5).setCell ⟨w1.heap.size, 5, none⟩ (.int .i64 i4)).setCell ⟨w1.heap.size, 6, none⟩ (.bool s4)).setCell ⟨w1.heap.size, 7, none⟩ (.slice A4 l4 c4)).setCell ⟨w1.heap.size, 8, none⟩ (.slice B4 k4 d4)).cell? ⟨w1.heap.size, 4, none⟩ = some (.slice B3 k3 d3) := hst6.hS.cell 4
  have s_5 : (((((w5).setCell ⟨w1.heap.size, 5, none⟩ (.int .i64 i4)).setCell ⟨w1.heap.size, 6, none⟩ (.bool s4)).setCell ⟨w1.heap.size, 7, none⟩ (.slice A4 l4 c4)).setCell ⟨w1.heap.size, 8, none⟩ (.slice B4 k4 d4)).cell? ⟨w1.heap.size, 5, none⟩ = some (.int .i64 i4) := hst6.hS.cell 5
  have s_6 : (((((w5).setCell ⟨w1.heap.size, 5, none⟩ (.int .i64 i4)).setCell ⟨w1.heap.size, 6, none⟩ (.bool s4)).setCell ⟨w1.heap.size, 7, none⟩ (.slice A4 l4 c4)).setCell ⟨w1.heap.size, 8, none⟩ (.slice B4 k4 d4)).cell? ⟨w1.heap.size, 6, none⟩ = some (.bool s4) := hst6.hS.cell 6
  have s_7 : (((((w5).setCell ⟨w1.heap.size, 5, none⟩ (.int .i64 i4)).setCell ⟨w1.heap.size, 6, none⟩ (.bool s4)).setCell ⟨w1.heap.size, 7, none⟩ (.slice A4 l4 c4)).setCell ⟨w1.heap.size, 8, none⟩ (.slice B4 k4 d4)).cell? ⟨w1.heap.size, 7, none⟩ = some (.slice A4 l4 c4) := hst6.hS.cell 7
  have s_8 : (((((w5).setCell ⟨w1.heap.size, 5, none⟩ (.int .i64 i4)).setCell ⟨w1.heap.size, 6, none⟩ (.bool s4)).setCell ⟨w1.heap.size, 7, none⟩ (.slice A4 l4 c4)).setCell ⟨w1.heap.size, 8, none⟩ (.slice B4 k4 d4)).cell? ⟨w1.heap.size, 8, none⟩ = some (.slice B4 k4 d4) := hst6.hS.cell 8
  have t_0 : (((((w5).setCell ⟨w1.heap.size, 5, none⟩ (.int .i64 i4)).setCell ⟨w1.heap.size, 6, none⟩ (.bool s4)).setCell ⟨w1.heap.size, 7, none⟩ (.slice A4 l4 c4)).setCell ⟨w1.heap.size, 8, none⟩ (.slice B4 k4 d4)).cell? ⟨w2.heap.size, 0, none⟩ = some (.bool false) := hst6.hT.cell 0
  have t_1 : (((((w5).setCell ⟨w1.heap.size, 5, none⟩ (.int .i64 i4)).setCell ⟨w1.heap.size, 6, none⟩ (.bool s4)).setCell ⟨w1.heap.size, 7, none⟩ (.slice A4 l4 c4)).setCell ⟨w1.heap.size, 8, none⟩ (.slice B4 k4 d4)).cell? ⟨w2.heap.size, 1, none⟩ = some (.int .i64 i3) := hst6.hT.cell 1
  have t_2 : (((((w5).setCell ⟨w1.heap.size, 5, none⟩ (.int .i64 i4)).setCell ⟨w1.heap.size, 6, none⟩ (.bool s4)).setCell ⟨w1.heap.size, 7, none⟩ (.slice A4 l4 c4)).setCell ⟨w1.heap.size, 8, none⟩ (.slice B4 k4 d4)).cell? ⟨w2.heap.size, 2, none⟩ = some (.bool s3) := hst6.hT.cell 2
  have t_3 : (((((w5).setCell ⟨w1.heap.size, 5, none⟩ (.int .i64 i4)).setCell ⟨w1.heap.size, 6, none⟩ (.bool s4)).setCell ⟨w1.heap.size, 7, none⟩ (.slice A4 l4 c4)).setCell ⟨w1.heap.size, 8, none⟩ (.slice B4 k4 d4)).cell? ⟨w2.heap.size, 3, none⟩ = some (.slice A3 l3 c3) := hst6.hT.cell 3
  have t_4 : (((((w5).setCell ⟨w1.heap.size, 5, none⟩ (.int .i64 i4)).setCell ⟨w1.heap.size, 6, none⟩ (.bool s4)).setCell ⟨w1.heap.size, 7, none⟩ (.slice A4 l4 c4)).setCell ⟨w1.heap.size, 8, none⟩ (.slice B4 k4 d4)).cell? ⟨w2.heap.size, 4, none⟩ = some (.slice B3 k3 d3) := hst6.hT.cell 4
  have t_5 : (((((w5).setCell ⟨w1.heap.size, 5, none⟩ (.int .i64 i4)).setCell ⟨w1.heap.size, 6, none⟩ (.bool s4)).setCell ⟨w1.heap.size, 7, none⟩ (.slice A4 l4 c4)).setCell ⟨w1.heap.size, 8, none⟩ (.slice B4 k4 d4)).cell? ⟨w2.heap.size, 5, none⟩ = some (.int .i64 i4) := hst6.hT.cell 5
  have t_6 : (((((w5).setCell ⟨w1.heap.size, 5, none⟩ (.int .i64 i4)).setCell ⟨w1.heap.size, 6, none⟩ (.bool s4)).setCell ⟨w1.heap.size, 7, none⟩ (.slice A4 l4 c4)).setCell ⟨w1.heap.size, 8, none⟩ (.slice B4 k4 d4)).cell? ⟨w2.heap.size, 6, none⟩ = some (.bool s4) := hst6.hT.cell 6
  have t_7 : (((((w5).setCell ⟨w1.heap.size, 5, none⟩ (.int .i64 i4)).setCell ⟨w1.heap.size, 6, none⟩ (.bool s4)).setCell ⟨w1.heap.size, 7, none⟩ (.slice A4 l4 c4)).setCell ⟨w1.heap.size, 8, none⟩ (.slice B4 k4 d4)).cell? ⟨w2.heap.size, 7, none⟩ = some (.slice A4 l4 c4) := hst6.hT.cell 7
  have t_8 : (((((w5).setCell ⟨w1.heap.size, 5, none⟩ (.int .i64 i4)).setCell ⟨w1.heap.size, 6, none⟩ (.bool s4)).setCell ⟨w1.heap.size, 7, none⟩ (.slice A4 l4 c4)).setCell ⟨w1.heap.size, 8, none⟩ (.slice B4 k4 d4)).cell? ⟨w2.heap.size, 8, none⟩ = some (.slice B4 k4 d4) := hst6.hT.cell 8
  have g_0 : (((((w5).setCell ⟨w1.heap.size, 5, none⟩ (.int .i64 i4)).setCell ⟨w1.heap.size, 6, none⟩ (.bool s4)).setCell ⟨w1.heap.size, 7, none⟩ (.slice A4 l4 c4)).setCell ⟨w1.heap.size, 8, none⟩ (.slice B4 k4 d4)).cell? ⟨G, 0, none⟩ = some (.int .u64 0) := hst6.hG.cell 0
  have g_1 : (((((w5).setCell ⟨w1.heap.size, 5, none⟩ (.int .i64 i4)).setCell ⟨w1.heap.size, 6, none⟩ (.bool s4)).setCell ⟨w1.heap.size, 7, none⟩ (.slice A4 l4 c4)).setCell ⟨w1.heap.size, 8, none⟩ (.slice B4 k4 d4)).cell? ⟨G, 1, none⟩ = some (.int .u64 0) := hst6.hG.cell 1
  have fg_0 : (((((w5).setCell ⟨w1.heap.size, 5, none⟩ (.int .i64 i4)).setCell ⟨w1.heap.size, 6, none⟩ (.bool s4)).setCell ⟨w1.heap.size, 7, none⟩ (.slice A4 l4 c4)).setCell ⟨w1.heap.size, 8, none⟩ (.slice B4 k4 d4)).frozen? ⟨G, 0, none⟩ = false := hst6.hG.frozen 0
  have fg_1 : (((((w5).setCell ⟨w1.heap.size, 5, none⟩ (.int .i64 i4)).setCell ⟨w1.heap.size, 6, none⟩ (.bool s4)).setCell ⟨w1.heap.size, 7, none⟩ (.slice A4 l4 c4)).setCell ⟨w1.heap.size, 8, none⟩ (.slice B4 k4 d4)).frozen? ⟨G, 1, none⟩ = false := hst6.hG.frozen 1
  have fs_0 : (((((w5).setCell ⟨w1.heap.size, 5, none⟩ (.int .i64 i4)).setCell ⟨w1.heap.size, 6, none⟩ (.bool s4)).setCell ⟨w1.heap.size, 7, none⟩ (.slice A4 l4 c4)).setCell ⟨w1.heap.size, 8, none⟩ (.slice B4 k4 d4)).frozen? ⟨w1.heap.size, 0, none⟩ = false := hst6.hS.frozen 0
  have fs_1 : (((((w5).setCell ⟨w1.heap.size, 5, none⟩ (.int .i64 i4)).setCell ⟨w1.heap.size, 6, none⟩ (.bool s4)).setCell ⟨w1.heap.size, 7, none⟩ (.slice A4 l4 c4)).setCell ⟨w1.heap.size, 8, none⟩ (.slice B4 k4 d4)).frozen? ⟨w1.heap.size, 1, none⟩ = false := hst6.hS.frozen 1
  have fs_2 : (((((w5).setCell ⟨w1.heap.size, 5, none⟩ (.int .i64 i4)).setCell ⟨w1.heap.size, 6, none⟩ (.bool s4)).setCell ⟨w1.heap.size, 7, none⟩ (.slice A4 l4 c4)).setCell ⟨w1.heap.size, 8, none⟩ (.slice B4 k4 d4)).frozen? ⟨w1.heap.size, 2, none⟩ = false := hst6.hS.frozen 2
  have fs_3 : (((((w5).setCell ⟨w1.heap.size, 5, none⟩ (.int .i64 i4)).setCell ⟨w1.heap.size, 6, none⟩ (.bool s4)).setCell ⟨w1.heap.size, 7, none⟩ (.slice A4 l4 c4)).setCell ⟨w1.heap.size, 8, none⟩ (.slice B4 k4 d4)).frozen? ⟨w1.heap.size, 3, none⟩ = false := hst6.hS.frozen 3
  have fs_4 : (((((w5).setCell ⟨w1.heap.size, 5, none⟩ (.int .i64 i4)).setCell ⟨w1.heap.size, 6, none⟩ (.bool s4)).setCell ⟨w1.heap.size, 7, none⟩ (.slice A4 l4 c4)).setCell ⟨w1.heap.size, 8, none⟩ (.slice B4 k4 d4)).frozen? ⟨w1.heap.size, 4, none⟩ = false := hst6.hS.frozen 4
  have fs_5 : (((((w5).setCell ⟨w1.heap.size, 5, none⟩ (.int .i64 i4)).setCell ⟨w1.heap.size, 6, none⟩ (.bool s4)).setCell ⟨w1.heap.size, 7, none⟩ (.slice A4 l4 c4)).setCell ⟨w1.heap.size, 8, none⟩ (.slice B4 k4 d4)).frozen? ⟨w1.heap.size, 5, none⟩ = false := hst6.hS.frozen 5
  have fs_6 : (((((w5).setCell ⟨w1.heap.size, 5, none⟩ (.int .i64 i4)).setCell ⟨w1.heap.size, 6, none⟩ (.bool s4)).setCell ⟨w1.heap.size, 7, none⟩ (.slice A4 l4 c4)).setCell ⟨w1.heap.size, 8, none⟩ (.slice B4 k4 d4)).frozen? ⟨w1.heap.size, 6, none⟩ = false := hst6.hS.frozen 6
  have fs_7 : (((((w5).setCell ⟨w1.heap.size, 5, none⟩ (.int .i64 i4)).setCell ⟨w1.heap.size, 6, none⟩ (.bool s4)).setCell ⟨w1.heap.size, 7, none⟩ (.slice A4 l4 c4)).setCell ⟨w1.heap.size, 8, none⟩ (.slice B4 k4 d4)).frozen? ⟨w1.heap.size, 7, none⟩ = false := hst6.hS.frozen 7
  have fs_8 : (((((w5).setCell ⟨w1.heap.size, 5, none⟩ (.int .i64 i4)).setCell ⟨w1.heap.size, 6, none⟩ (.bool s4)).setCell ⟨w1.heap.size, 7, none⟩ (.slice A4 l4 c4)).setCell ⟨w1.heap.size, 8, none⟩ (.slice B4 k4 d4)).frozen? ⟨w1.heap.size, 8, none⟩ = false := hst6.hS.frozen 8
  have lG : G < (((((w5).setCell ⟨w1.heap.size, 5, none⟩ (.int .i64 i4)).setCell ⟨w1.heap.size, 6, none⟩ (.bool s4)).setCell ⟨w1.heap.size, 7, none⟩ (.slice A4 l4 c4)).setCell ⟨w1.heap.size, 8, none⟩ (.slice B4 k4 d4)).heap.size := hst6.hG.lt
  have lS : w1.heap.size < (((((w5).setCell ⟨w1.heap.size, 5, none⟩ (.int .i64 i4)).setCell ⟨w1.heap.size, 6, none⟩ (.bool s4)).setCell ⟨w1.heap.size, 7, none⟩ (.slice A4 l4 c4)).setCell ⟨w1.heap.size, 8, none⟩ (.slice B4 k4 d4)).heap.size := hst6.hS.lt
  go_wp2_with fail
  clear u_0 fu_0 us_0 u_1 fu_1 us_1 u_2 fu_2 us_2 u_3 fu_3 us_3 u_4 fu_4 us_4 u_5 fu_5 us_5 u_6 fu_6 us_6 u_7 fu_7 us_7 u_8 fu_8 us_8 lu
  clear s_0 t_0 fs_0 s_1 t_1 fs_1 s_2 t_2 fs_2 s_3 t_3 fs_3 s_4 t_4 fs_4 s_5 t_5 fs_5 s_6 t_6 fs_6 s_7 t_7 fs_7 s_8 t_8 fs_8 g_0 g_1 fg_0 fg_1 lG lS
  refine (HL.out _ _ _ _ _ _ _ _ _ _ _ _ _ hst6.r1 hst6.r2).mono ?_
  rintro e w7 ⟨rfl, hE7⟩
  have hst7 := hst6.ext hE7
  clear hst6 hE7
  have s_0 : (w7).cell? ⟨w1.heap.size, 0, none⟩ = some (.bool false) := hst7.hS.cell 0
  have s_1 : (w7).cell? ⟨w1.heap.size, 1, none⟩ = some (.int .i64 i3) := hst7.hS.cell 1
  have s_2 : (w7).cell? ⟨w1.heap.size, 2, none⟩ = some (.bool s3) := hst7.hS.cell 2
  have s_3 : (w7).cell? ⟨w1.heap.size, 3, none⟩ = some (.slice A3 l3 c3) := hst7.hS.cell 3
  have s_4 : (w7).cell? ⟨w1.heap.size, 4, none⟩ = some (.slice B3 k3 d3) := hst7.hS.cell 4
  have s_5 : (w7).cell? ⟨w1.heap.size, 5, none⟩ = some (.int .i64 i4) := hst7.hS.cell 5
  have s_6 : (w7).cell? ⟨w1.heap.size, 6, none⟩ = some (.bool s4) := hst7.hS.cell 6
  have s_7 : (w7).cell? ⟨w1.heap.size, 7, none⟩ = some (.slice A4 l4 c4) := hst7.hS.cell 7
  have s_8 : (w7).cell? ⟨w1.heap.size, 8, none⟩ = some (.slice B4 k4 d4) := hst7.hS.cell 8
  have t_0 : (w7).cell? ⟨w2.heap.size, 0, none⟩ = some (.bool false) := hst7.hT.cell 0
  have t_1 : (w7).cell? ⟨w2.heap.size, 1, none⟩ = some (.int .i64 i3) := hst7.hT.cell 1
  have t_2 : (w7).cell? ⟨w2.heap.size, 2, none⟩ = some (.bool s3) := hst7.hT.cell 2
  have t_3 : (w7).cell? ⟨w2.heap.size, 3, none⟩ = some (.slice A3 l3 c3) := hst7.hT.cell 3
  have t_4 : (w7).cell? ⟨w2.heap.size, 4, none⟩ = some (.slice B3 k3 d3) := hst7.hT.cell 4
  have t_5 : (w7).cell? ⟨w2.heap.size, 5, none⟩ = some (.int .i64 i4) := hst7.hT.cell 5
  have t_6 : (w7).cell? ⟨w2.heap.size, 6, none⟩ = some (.bool s4) := hst7.hT.cell 6
  have t_7 : (w7).cell? ⟨w2.heap.size, 7, none⟩ = some (.slice A4 l4 c4) := hst7.hT.cell 7
  have t_8 : (w7).cell? ⟨w2.heap.size, 8, none⟩ = some (.slice B4 k4 d4) := hst7.hT.cell 8
  have g_0 : (w7).cell? ⟨G, 0, none⟩ = some (.int .u64 0) := hst7.hG.cell 0
  have g_1 : (w7).cell? ⟨G, 1, none⟩ = some (.int .u64 0) := hst7.hG.cell 1
  have fg_0 : (w7).frozen? ⟨G, 0, none⟩ = false := hst7.hG.frozen 0
  have fg_1 : (w7).frozen? ⟨G, 1, none⟩ = false := hst7.hG.frozen 1
  have fs_0 : (w7).frozen? ⟨w1.heap.size, 0, none⟩ = false := hst7.hS.frozen 0
  have fs_1 : (w7).frozen? ⟨w1.heap.size, 1, none⟩ = false := hst7.hS.frozen 1
  have fs_2 : (w7).frozen? ⟨w1.heap.size, 2, none⟩ = false := hst7.hS.frozen 2
  have fs_3 : (w7).frozen? ⟨w1.heap.size, 3, none⟩ = false := hst7.hS.frozen 3
  have fs_4 : (w7).frozen? ⟨w1.heap.size, 4, none⟩ = false := hst7.hS.frozen 4
  have fs_5 : (w7).frozen? ⟨w1.heap.size, 5, none⟩ = false := hst7.hS.frozen 5
  have fs_6 : (w7).frozen? ⟨w1.heap.size, 6, none⟩ = false := hst7.hS.frozen 6
  have fs_7 : (w7).frozen? ⟨w1.heap.size, 7, none⟩ = false := hst7.hS.frozen 7
  have fs_8 : (w7).frozen? ⟨w1.heap.size, 8, none⟩ = false := hst7.hS.frozen 8
  have lG : G < (w7).heap.size := hst7.hG.lt
  have lS : w1.heap.size < (w7).heap.size := hst7.hS.lt
  go_wp2_with fail
  exact bodyPost_ret (v := .agg #[.int .u64 (r1 : Int), .int .u64 (r2 : Int)]) (by simp [results, Try.results36, go_sem, lG, g_0, g_1]) rfl ⟨rfl, (hst7.ex.setCell hGw _).setCell hGw _⟩

theorem cmpI_lt0 {a b : Int} : decide (cmpI a b < 0) = decide (a < b) := by
  refine decide_eq_decide.2 ?_
  unfold cmpI; repeat' split
  all_goals omega
/-- The lesser, the greater of two patterns. -/
def kmin (a b : Nat) : Nat := if key b < key a then b else a
def kmax (a b : Nat) : Nat := if key a < key b then b else a

/-- The ends of Min. -/
def minLo (x1 x2 y1 y2 : Nat) : Nat := if (rdLo x1 x2 = infR ∧ rdHi x1 x2 = minf) ∨ (rdLo y1 y2 = infR ∧ rdHi y1 y2 = minf) then infR else pl (kmin (rdLo x1 x2) (rdLo y1 y2))
def minHi (x1 x2 y1 y2 : Nat) : Nat := if (rdLo x1 x2 = infR ∧ rdHi x1 x2 = minf) ∨ (rdLo y1 y2 = infR ∧ rdHi y1 y2 = minf) then minf else pl (kmin (rdHi x1 x2) (rdHi y1 y2))
theorem min7_any (x1 x2 y1 y2 : Nat) (w : World) (hx1 : x1 < 18446744073709551616) (hx2 : x2 < 18446744073709551616) (hy1 : y1 < 18446744073709551616) (hy2 : y2 < 18446744073709551616) :
    Calls Try.prog 34 #[.agg #[.int .u64 (x1 : Int), .int .u64 (x2 : Int)], .agg #[.int .u64 (y1 : Int), .int .u64 (y2 : Int)]] w (RetI (minLo x1 x2 y1 y2) (minHi x1 x2 y1 y2) w) := by
  have eLo : minLo x1 x2 y1 y2 = if (rdLo x1 x2 = infR ∧ rdHi x1 x2 = minf) ∨ (rdLo y1 y2 = infR ∧ rdHi y1 y2 = minf) then infR else pl (kmin (rdLo x1 x2) (rdLo y1 y2)) := rfl
  have eHi : minHi x1 x2 y1 y2 = if (rdLo x1 x2 = infR ∧ rdHi x1 x2 = minf) ∨ (rdLo y1 y2 = infR ∧ rdHi y1 y2 = minf) then minf else pl (kmin (rdHi x1 x2) (rdHi y1 y2)) := rfl
  have HEM := Lib.hid (fun w => empty6_any w)
  by_cases he : rdLo x1 x2 = infR ∧ rdHi x1 x2 = minf
  · rw [eLo, eHi, if_pos (.inl he), if_pos (.inl he)]
    have HO1 := Lib.hid (fun w => of6_none x1 x2 w hx1 hx2 he)
    by_cases he2 : rdLo y1 y2 = infR ∧ rdHi y1 y2 = minf
    · exact min7_e1 x1 x2 y1 y2 _ _ _ _ _ _ _ _ _ _ _ _ _ _ _ _ _ 0 0 infR minf w HO1 (Lib.hid (fun w => of6_none y1 y2 w hy1 hy2 he2)) HEM
    · exact min7_e1 x1 x2 y1 y2 _ _ _ _ _ _ _ _ _ _ _ _ _ _ _ _ _ 0 0 infR minf w HO1 (Lib.hid (fun w => of6_full y1 y2 w hy1 hy2 he2)) HEM
  · have HO1 := Lib.hid (fun w => of6_full x1 x2 w hx1 hx2 he)
    by_cases he2 : rdLo y1 y2 = infR ∧ rdHi y1 y2 = minf
    · rw [eLo, eHi, if_pos (.inr he2), if_pos (.inr he2)]
      exact min7_e2 x1 x2 y1 y2 _ _ _ _ _ _ _ _ _ _ _ _ _ _ _ _ 0 0 infR minf w HO1 (Lib.hid (fun w => of6_none y1 y2 w hy1 hy2 he2)) HEM
    · have HO2 := Lib.hid (fun w => of6_full y1 y2 w hy1 hy2 he2)
      have hno : ¬ ((rdLo x1 x2 = infR ∧ rdHi x1 x2 = minf) ∨ (rdLo y1 y2 = infR ∧ rdHi y1 y2 = minf)) := fun h => h.elim he he2
      rw [eLo, eHi, if_neg hno, if_neg hno]
      obtain ⟨a1, a2, a3, a4, a5, a6, _, _⟩ := rd_ends hx1 hx2 he
      obtain ⟨b1, b2, b3, b4, b5, b6, _, _⟩ := rd_ends hy1 hy2 he2
      clear he he2 hno eLo eHi
      generalize rdLo x1 x2 = p at *
      generalize rdHi x1 x2 = q at *
      generalize rdLo y1 y2 = p2 at *
      generalize rdHi y1 y2 = q2 at *
      have HC1 := Lib.hid (fun A3 l3 c3 B3 k3 d3 A1 l1 c1 B1 k1 d1 w h3 h1 => cmp6_any (bI p2) (bNeg p2) A3 l3 c3 B3 k3 d3 (bN p2) (bD p2) (bI p) (bNeg p) A1 l1 c1 B1 k1 d1 (bN p) (bD p) w h3 h1 (bN_sz _) (bD_sz _) (bN_sz _) (bD_sz _) (bD_ne _) (bD_ne _))
      have HC2 := Lib.hid (fun A3 l3 c3 B3 k3 d3 A1 l1 c1 B1 k1 d1 w h3 h1 => cmp6_any (bI q2) (bNeg q2) A3 l3 c3 B3 k3 d3 (bN q2) (bD q2) (bI q) (bNeg q) A1 l1 c1 B1 k1 d1 (bN q) (bD q) w h3 h1 (bN_sz _) (bD_sz _) (bN_sz _) (bD_sz _) (bD_ne _) (bD_ne _))
      rw [eC_bits b1 a1 b3 a3] at HC1
      rw [eC_bits b2 a2 b4 a4] at HC2
      have hls := fun (P Q : Nat) (u1 : P < 18446744073709551616) (u2 : isNaN P = false) (u3 : P ≠ infR) (v1 : Q < 18446744073709551616) (v2 : isNaN Q = false) (v3 : Q ≠ minf) => Lib.hid (fun A l c B k d A2 l2 c2 B2 k2 d2 w h1 h2 => (ls_lo u1 u2 u3) ▸ (ls_hi v1 v2 v3) ▸ least6_full (bI P) (bNeg P) A l c B k d (bN P) (bD P) (bI Q) (bNeg Q) A2 l2 c2 B2 k2 d2 (bN Q) (bD Q) w h1 h2 (bN_sz P) (bD_sz P) (bN_sz Q) (bD_sz Q) (bD_ne P) (bD_ne Q))

      have ka : kmin p p2 = if key p2 < key p then p2 else p := rfl
      have kb : kmin q q2 = if key q2 < key q then q2 else q := rfl
      by_cases g1 : key p2 < key p <;> by_cases g2 : key q2 < key q

      · rw [ka, kb, if_pos g1, if_pos g2]
        exact min7_yy x1 x2 y1 y2 _ _ _ _ _ _ _ _ _ _ _ _ _ _ _ _ _ _ _ _ w HO1 HO2 HC1 HC2 (hls p2 q2 b1 b3 b5 b2 b4 b6) (by rw [cmpI_lt0]; exact decide_eq_true g1) (by rw [cmpI_lt0]; exact decide_eq_true g2)
      · rw [ka, kb, if_pos g1, if_neg g2]
        exact min7_yn x1 x2 y1 y2 _ _ _ _ _ _ _ _ _ _ _ _ _ _ _ _ _ _ _ _ w HO1 HO2 HC1 HC2 (hls p2 q b1 b3 b5 a2 a4 a6) (by rw [cmpI_lt0]; exact decide_eq_true g1) (by rw [cmpI_lt0]; exact decide_eq_false g2)
      · rw [ka, kb, if_neg g1, if_pos g2]
        exact min7_ny x1 x2 y1 y2 _ _ _ _ _ _ _ _ _ _ _ _ _ _ _ _ _ _ _ _ w HO1 HO2 HC1 HC2 (hls p q2 a1 a3 a5 b2 b4 b6) (by rw [cmpI_lt0]; exact decide_eq_false g1) (by rw [cmpI_lt0]; exact decide_eq_true g2)
      · rw [ka, kb, if_neg g1, if_neg g2]
        exact min7_nn x1 x2 y1 y2 _ _ _ _ _ _ _ _ _ _ _ _ _ _ _ _ _ _ _ _ w HO1 HO2 HC1 HC2 (hls p q a1 a3 a5 a2 a4 a6) (by rw [cmpI_lt0]; exact decide_eq_false g1) (by rw [cmpI_lt0]; exact decide_eq_false g2)

/-- The ends of Max. -/
def maxLo (x1 x2 y1 y2 : Nat) : Nat := if (rdLo x1 x2 = infR ∧ rdHi x1 x2 = minf) ∨ (rdLo y1 y2 = infR ∧ rdHi y1 y2 = minf) then infR else pl (kmax (rdLo x1 x2) (rdLo y1 y2))
def maxHi (x1 x2 y1 y2 : Nat) : Nat := if (rdLo x1 x2 = infR ∧ rdHi x1 x2 = minf) ∨ (rdLo y1 y2 = infR ∧ rdHi y1 y2 = minf) then minf else pl (kmax (rdHi x1 x2) (rdHi y1 y2))
theorem max7_any (x1 x2 y1 y2 : Nat) (w : World) (hx1 : x1 < 18446744073709551616) (hx2 : x2 < 18446744073709551616) (hy1 : y1 < 18446744073709551616) (hy2 : y2 < 18446744073709551616) :
    Calls Try.prog 36 #[.agg #[.int .u64 (x1 : Int), .int .u64 (x2 : Int)], .agg #[.int .u64 (y1 : Int), .int .u64 (y2 : Int)]] w (RetI (maxLo x1 x2 y1 y2) (maxHi x1 x2 y1 y2) w) := by
  have eLo : maxLo x1 x2 y1 y2 = if (rdLo x1 x2 = infR ∧ rdHi x1 x2 = minf) ∨ (rdLo y1 y2 = infR ∧ rdHi y1 y2 = minf) then infR else pl (kmax (rdLo x1 x2) (rdLo y1 y2)) := rfl
  have eHi : maxHi x1 x2 y1 y2 = if (rdLo x1 x2 = infR ∧ rdHi x1 x2 = minf) ∨ (rdLo y1 y2 = infR ∧ rdHi y1 y2 = minf) then minf else pl (kmax (rdHi x1 x2) (rdHi y1 y2)) := rfl
  have HEM := Lib.hid (fun w => empty6_any w)
  by_cases he : rdLo x1 x2 = infR ∧ rdHi x1 x2 = minf
  · rw [eLo, eHi, if_pos (.inl he), if_pos (.inl he)]
    have HO1 := Lib.hid (fun w => of6_none x1 x2 w hx1 hx2 he)
    by_cases he2 : rdLo y1 y2 = infR ∧ rdHi y1 y2 = minf
    · exact max7_e1 x1 x2 y1 y2 _ _ _ _ _ _ _ _ _ _ _ _ _ _ _ _ _ 0 0 infR minf w HO1 (Lib.hid (fun w => of6_none y1 y2 w hy1 hy2 he2)) HEM
    · exact max7_e1 x1 x2 y1 y2 _ _ _ _ _ _ _ _ _ _ _ _ _ _ _ _ _ 0 0 infR minf w HO1 (Lib.hid (fun w => of6_full y1 y2 w hy1 hy2 he2)) HEM
  · have HO1 := Lib.hid (fun w => of6_full x1 x2 w hx1 hx2 he)
    by_cases he2 : rdLo y1 y2 = infR ∧ rdHi y1 y2 = minf
    · rw [eLo, eHi, if_pos (.inr he2), if_pos (.inr he2)]
      exact max7_e2 x1 x2 y1 y2 _ _ _ _ _ _ _ _ _ _ _ _ _ _ _ _ 0 0 infR minf w HO1 (Lib.hid (fun w => of6_none y1 y2 w hy1 hy2 he2)) HEM
    · have HO2 := Lib.hid (fun w => of6_full y1 y2 w hy1 hy2 he2)
      have hno : ¬ ((rdLo x1 x2 = infR ∧ rdHi x1 x2 = minf) ∨ (rdLo y1 y2 = infR ∧ rdHi y1 y2 = minf)) := fun h => h.elim he he2
      rw [eLo, eHi, if_neg hno, if_neg hno]
      obtain ⟨a1, a2, a3, a4, a5, a6, _, _⟩ := rd_ends hx1 hx2 he
      obtain ⟨b1, b2, b3, b4, b5, b6, _, _⟩ := rd_ends hy1 hy2 he2
      clear he he2 hno eLo eHi
      generalize rdLo x1 x2 = p at *
      generalize rdHi x1 x2 = q at *
      generalize rdLo y1 y2 = p2 at *
      generalize rdHi y1 y2 = q2 at *
      have HC1 := Lib.hid (fun A3 l3 c3 B3 k3 d3 A1 l1 c1 B1 k1 d1 w h3 h1 => cmp6_any (bI p2) (bNeg p2) A3 l3 c3 B3 k3 d3 (bN p2) (bD p2) (bI p) (bNeg p) A1 l1 c1 B1 k1 d1 (bN p) (bD p) w h3 h1 (bN_sz _) (bD_sz _) (bN_sz _) (bD_sz _) (bD_ne _) (bD_ne _))
      have HC2 := Lib.hid (fun A3 l3 c3 B3 k3 d3 A1 l1 c1 B1 k1 d1 w h3 h1 => cmp6_any (bI q2) (bNeg q2) A3 l3 c3 B3 k3 d3 (bN q2) (bD q2) (bI q) (bNeg q) A1 l1 c1 B1 k1 d1 (bN q) (bD q) w h3 h1 (bN_sz _) (bD_sz _) (bN_sz _) (bD_sz _) (bD_ne _) (bD_ne _))
      rw [eC_bits b1 a1 b3 a3] at HC1
      rw [eC_bits b2 a2 b4 a4] at HC2
      have hls := fun (P Q : Nat) (u1 : P < 18446744073709551616) (u2 : isNaN P = false) (u3 : P ≠ infR) (v1 : Q < 18446744073709551616) (v2 : isNaN Q = false) (v3 : Q ≠ minf) => Lib.hid (fun A l c B k d A2 l2 c2 B2 k2 d2 w h1 h2 => (ls_lo u1 u2 u3) ▸ (ls_hi v1 v2 v3) ▸ least6_full (bI P) (bNeg P) A l c B k d (bN P) (bD P) (bI Q) (bNeg Q) A2 l2 c2 B2 k2 d2 (bN Q) (bD Q) w h1 h2 (bN_sz P) (bD_sz P) (bN_sz Q) (bD_sz Q) (bD_ne P) (bD_ne Q))

      have ka : kmax p p2 = if key p < key p2 then p2 else p := rfl
      have kb : kmax q q2 = if key q < key q2 then q2 else q := rfl
      by_cases g1 : key p < key p2 <;> by_cases g2 : key q < key q2

      · rw [ka, kb, if_pos g1, if_pos g2]
        exact max7_yy x1 x2 y1 y2 _ _ _ _ _ _ _ _ _ _ _ _ _ _ _ _ _ _ _ _ w HO1 HO2 HC1 HC2 (hls p2 q2 b1 b3 b5 b2 b4 b6) (by rw [cmpI_lt]; exact decide_eq_true g1) (by rw [cmpI_lt]; exact decide_eq_true g2)
      · rw [ka, kb, if_pos g1, if_neg g2]
        exact max7_yn x1 x2 y1 y2 _ _ _ _ _ _ _ _ _ _ _ _ _ _ _ _ _ _ _ _ w HO1 HO2 HC1 HC2 (hls p2 q b1 b3 b5 a2 a4 a6) (by rw [cmpI_lt]; exact decide_eq_true g1) (by rw [cmpI_lt]; exact decide_eq_false g2)
      · rw [ka, kb, if_neg g1, if_pos g2]
        exact max7_ny x1 x2 y1 y2 _ _ _ _ _ _ _ _ _ _ _ _ _ _ _ _ _ _ _ _ w HO1 HO2 HC1 HC2 (hls p q2 a1 a3 a5 b2 b4 b6) (by rw [cmpI_lt]; exact decide_eq_false g1) (by rw [cmpI_lt]; exact decide_eq_true g2)
      · rw [ka, kb, if_neg g1, if_neg g2]
        exact max7_nn x1 x2 y1 y2 _ _ _ _ _ _ _ _ _ _ _ _ _ _ _ _ _ _ _ _ w HO1 HO2 HC1 HC2 (hls p q a1 a3 a5 a2 a4 a6) (by rw [cmpI_lt]; exact decide_eq_false g1) (by rw [cmpI_lt]; exact decide_eq_false g2)

end Go.Proofs.Ytcimfccjcikemaa
