/-
  The contracts of the program's intervals, third part: patterns in and out of them; Valid. Conditions: those that each theorem names.
-/
import Derived.Test.YtcimfccjcikemaaIvB
import Derived.Outline
namespace Go.Proofs.Ytcimfccjcikemaa
open Go.RowKit Nm Rn
set_option maxRecDepth 100000
set_option linter.unusedVariables false
set_option linter.unusedSimpArgs false

/-- A world in which a box of two words lies, and behind it another one. -/
theorem two_boxes (w : World) (s t : TypeId) (x y p q : Value) : ∃ w1, w1 = (w.alloc (.cells #[x, y] s)).alloc (.cells #[p, q] t) ∧ Ext w w1 ∧ w1.cell? ⟨w.heap.size, 0, none⟩ = some x ∧ w1.cell? ⟨w.heap.size, 1, none⟩ = some y ∧
    Blk w1 (w.heap.size + 1) t #[p, q] := by
  have hb := (Blk.new w s #[x, y]).ext ((Ext.refl _).alloc (.cells #[p, q] t))
  exact ⟨_, rfl, ((Ext.refl w).alloc _).alloc _, hb.cell 0, hb.cell 1, Blk.new2 w _ t #[p, q]⟩

set_option maxHeartbeats 1000000 in
theorem out6_any (lo hi : Nat) (w : World) :
    Calls Try.prog 16 #[.agg #[.float .f64 lo, .float .f64 hi]] w (RetI lo hi w) := by
  obtain ⟨w1, hw1, hEw, b0, b1, hblk⟩ := two_boxes w 27 24 (.float .f64 lo) (.float .f64 hi) (.int .u64 0) (.int .u64 0)
  go_enter Try.func16, Try.ntmps16
  go_wp2_with fail
  rw [← hw1]
  clear hw1
  obtain ⟨G, hG⟩ : ∃ G, G = w.heap.size + 1 := ⟨_, rfl⟩
  rw [← hG] at hblk
  rw [← hG]
  have hGw : w.heap.size ≤ G := by omega
  have hGl := hblk.lt
  have q0 : w1.cell? ⟨G, 0, none⟩ = some (.int .u64 0) := hblk.cell 0
  have q1 : w1.cell? ⟨G, 1, none⟩ = some (.int .u64 0) := hblk.cell 1
  have f0 := hblk.frozen 0
  have f1 := hblk.frozen 1
  clear hG
  go_still_tail 7, (by kernel_rfl)
  change wpList _ _ _ _ _ w1.drew
  go_wp2
  exact bodyPost_ret (v := .agg #[.int .u64 (lo : Int), .int .u64 (hi : Int)]) (by simp [results, Try.results16, go_sem, hGl, q0, q1]) rfl ⟨rfl, (hEw.drew.setCell hGw _).setCell hGw _⟩
set_option maxHeartbeats 1000000 in
theorem in6_any (lo hi : Nat) (w : World) :
    Calls Try.prog 19 #[.agg #[.int .u64 (lo : Int), .int .u64 (hi : Int)]] w (RetF lo hi w) := by
  obtain ⟨w1, hw1, hEw, b0, b1, hblk⟩ := two_boxes w 24 27 (.int .u64 (lo : Int)) (.int .u64 (hi : Int)) (.float .f64 0) (.float .f64 0)
  go_enter Try.func19, Try.ntmps19
  go_wp2_with fail
  rw [← hw1]
  clear hw1
  obtain ⟨G, hG⟩ : ∃ G, G = w.heap.size + 1 := ⟨_, rfl⟩
  rw [← hG] at hblk
  rw [← hG]
  have hGw : w.heap.size ≤ G := by omega
  have hGl := hblk.lt
  have q0 : w1.cell? ⟨G, 0, none⟩ = some (.float .f64 0) := hblk.cell 0
  have q1 : w1.cell? ⟨G, 1, none⟩ = some (.float .f64 0) := hblk.cell 1
  have f0 := hblk.frozen 0
  have f1 := hblk.frozen 1
  clear hG
  go_still_tail 7, (by kernel_rfl)
  change wpList _ _ _ _ _ w1.drew
  go_wp2
  exact bodyPost_ret (v := .agg #[.float .f64 lo, .float .f64 hi]) (by simp [results, Try.results19, go_sem, hGl, q0, q1]) rfl ⟨rfl, (hEw.drew.setCell hGw _).setCell hGw _⟩
set_option maxHeartbeats 1000000 in
theorem out7_any (lo hi : Nat) (w : World) :
    Calls Try.prog 29 #[.agg #[.float .f64 lo, .float .f64 hi]] w (RetI lo hi w) := by
  obtain ⟨w1, hw1, hEw, b0, b1, hblk⟩ := two_boxes w 27 24 (.float .f64 lo) (.float .f64 hi) (.int .u64 0) (.int .u64 0)
  go_enter Try.func29, Try.ntmps29
  go_wp2_with fail
  rw [← hw1]
  clear hw1
  obtain ⟨G, hG⟩ : ∃ G, G = w.heap.size + 1 := ⟨_, rfl⟩
  rw [← hG] at hblk
  rw [← hG]
  have hGw : w.heap.size ≤ G := by omega
  have hGl := hblk.lt
  have q0 : w1.cell? ⟨G, 0, none⟩ = some (.int .u64 0) := hblk.cell 0
  have q1 : w1.cell? ⟨G, 1, none⟩ = some (.int .u64 0) := hblk.cell 1
  have f0 := hblk.frozen 0
  have f1 := hblk.frozen 1
  clear hG
  go_still_tail 7, (by kernel_rfl)
  change wpList _ _ _ _ _ w1.drew
  go_wp2
  exact bodyPost_ret (v := .agg #[.int .u64 (lo : Int), .int .u64 (hi : Int)]) (by simp [results, Try.results29, go_sem, hGl, q0, q1]) rfl ⟨rfl, (hEw.drew.setCell hGw _).setCell hGw _⟩
set_option maxHeartbeats 1000000 in
theorem in7_any (lo hi : Nat) (w : World) :
    Calls Try.prog 31 #[.agg #[.int .u64 (lo : Int), .int .u64 (hi : Int)]] w (RetF lo hi w) := by
  obtain ⟨w1, hw1, hEw, b0, b1, hblk⟩ := two_boxes w 24 27 (.int .u64 (lo : Int)) (.int .u64 (hi : Int)) (.float .f64 0) (.float .f64 0)
  go_enter Try.func31, Try.ntmps31
  go_wp2_with fail
  rw [← hw1]
  clear hw1
  obtain ⟨G, hG⟩ : ∃ G, G = w.heap.size + 1 := ⟨_, rfl⟩
  rw [← hG] at hblk
  rw [← hG]
  have hGw : w.heap.size ≤ G := by omega
  have hGl := hblk.lt
  have q0 : w1.cell? ⟨G, 0, none⟩ = some (.float .f64 0) := hblk.cell 0
  have q1 : w1.cell? ⟨G, 1, none⟩ = some (.float .f64 0) := hblk.cell 1
  have f0 := hblk.frozen 0
  have f1 := hblk.frozen 1
  clear hG
  go_still_tail 7, (by kernel_rfl)
  change wpList _ _ _ _ _ w1.drew
  go_wp2
  exact bodyPost_ret (v := .agg #[.float .f64 lo, .float .f64 hi]) (by simp [results, Try.results31, go_sem, hGl, q0, q1]) rfl ⟨rfl, (hEw.drew.setCell hGw _).setCell hGw _⟩
end Go.Proofs.Ytcimfccjcikemaa
