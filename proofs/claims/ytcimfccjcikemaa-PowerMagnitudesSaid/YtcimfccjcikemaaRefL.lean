/-
  The contracts of the document's own intervals, second part: whether two ends are valid, what is made of them. Conditions: those that each theorem names.
-/
import Derived.Test.YtcimfccjcikemaaRefK
import Derived.Deep.RegionWith
namespace Go.Proofs.Ytcimfccjcikemaa
open Go.RowKit Nm Rn
set_option maxRecDepth 100000
set_option linter.unusedVariables false
set_option linter.unusedSimpArgs false

/-- What New answers. -/
def newLo (lo hi : Nat) : Nat := if sndB lo hi then pl lo else 0
def newHi (lo hi : Nat) : Nat := if sndB lo hi then pl hi else 0

set_option maxHeartbeats 1000000 in
theorem new6_any (lo hi : Nat) (w : World) (hl : lo < 18446744073709551616) (hh : hi < 18446744073709551616) :
    Calls Try.prog 15 #[.int .u64 (lo : Int), .int .u64 (hi : Int)] w fun e w' => e = .returned (.tuple #[.agg #[.int .u64 (newLo lo hi : Nat), .int .u64 (newHi lo hi : Nat)], .bool (sndB lo hi)]) ∧ Ext w w' := by
  have hs := fun w => sound6_any lo hi w hl hh
  have hr := fun w => read6_any lo hi w hl hh
  cases hb : sndB lo hi
  · rw [hb] at hs
    have e1 : newLo lo hi = 0 := by unfold newLo; rw [if_neg (by simp [hb])]
    have e2 : newHi lo hi = 0 := by unfold newHi; rw [if_neg (by simp [hb])]
    rw [e1, e2]
    have HS := Lib.hid hs
    clear hs hr hb e1 e2 hl hh
    go_enter Try.func15, Try.ntmps15
    go_wp2_with fail
    refine (HS.out _).mono ?_
    rintro e w1 ⟨rfl, hE1⟩
    have hblk := ((Blk.new w 24 #[.int .u64 0, .int .u64 0]).ext ((Ext.refl _).alloc (.cells #[.int .u64 (lo : Int), .int .u64 (hi : Int)] 24))).ext hE1
    have hEw : Ext w w1 := (((Ext.refl w).alloc _).alloc _).trans hE1
    obtain ⟨G, hG⟩ : ∃ G, G = w.heap.size := ⟨_, rfl⟩
    rw [← hG] at hblk
    rw [← hG]
    have hGw : w.heap.size ≤ G := by omega
    have hGl := hblk.lt
    have q0 : w1.cell? ⟨G, 0, none⟩ = some (.int .u64 0) := hblk.cell 0
    have q1 : w1.cell? ⟨G, 1, none⟩ = some (.int .u64 0) := hblk.cell 1
    have f0 := hblk.frozen 0
    have f1 := hblk.frozen 1
    clear hG hE1
    go_wp2
    exact bodyPost_ret (v := .tuple #[.agg #[.int .u64 0, .int .u64 0], .bool false]) (by simp [results, Try.results15, go_sem, hGl, q0, q1]) rfl ⟨rfl, (hEw.setCell hGw _).setCell hGw _⟩
  · rw [hb] at hs
    have e1 : rdLo lo hi = newLo lo hi := by unfold newLo rdLo; rw [if_pos hb, if_pos hb]
    have e2 : rdHi lo hi = newHi lo hi := by unfold newHi rdHi; rw [if_pos hb, if_pos hb]
    rw [e1, e2] at hr
    obtain ⟨a, ha⟩ : ∃ a, a = newLo lo hi := ⟨_, rfl⟩
    obtain ⟨b, hb'⟩ : ∃ b, b = newHi lo hi := ⟨_, rfl⟩
    rw [← ha, ← hb'] at hr ⊢
    have HS := Lib.hid hs
    have HR := Lib.hid hr
    clear hs hr hb e1 e2 hl hh ha hb'
    go_enter Try.func15, Try.ntmps15
    go_wp2_with fail
    refine (HS.out _).mono ?_
    rintro e w1 ⟨rfl, hE1⟩
    have hbox := (Blk.new2 w (.cells #[.int .u64 0, .int .u64 0] 24) 24 #[.int .u64 (lo : Int), .int .u64 (hi : Int)]).ext hE1
    have b0 : w1.cell? ⟨w.heap.size + 1, 0, none⟩ = some (.int .u64 (lo : Int)) := hbox.cell 0
    have b1 : w1.cell? ⟨w.heap.size + 1, 1, none⟩ = some (.int .u64 (hi : Int)) := hbox.cell 1
    have hbl := hbox.lt
    go_wp2_with fail
    refine (HR.out _).mono ?_
    rintro e w2 ⟨rfl, hE2⟩
    have hE := hE1.trans hE2
    have hblk := ((Blk.new w 24 #[.int .u64 0, .int .u64 0]).ext ((Ext.refl _).alloc (.cells #[.int .u64 (lo : Int), .int .u64 (hi : Int)] 24))).ext hE
    have hEw : Ext w w2 := (((Ext.refl w).alloc _).alloc _).trans hE
    obtain ⟨G, hG⟩ : ∃ G, G = w.heap.size := ⟨_, rfl⟩
    rw [← hG] at hblk
    rw [← hG]
    have hGw : w.heap.size ≤ G := by omega
    have hGl := hblk.lt
    have q0 : w2.cell? ⟨G, 0, none⟩ = some (.int .u64 0) := hblk.cell 0
    have q1 : w2.cell? ⟨G, 1, none⟩ = some (.int .u64 0) := hblk.cell 1
    have f0 := hblk.frozen 0
    have f1 := hblk.frozen 1
    clear hG hE hE1 hE2
    go_wp2
    exact bodyPost_ret (v := .tuple #[.agg #[.int .u64 (a : Int), .int .u64 (b : Int)], .bool true]) (by simp [results, Try.results15, go_sem, hGl, q0, q1]) rfl ⟨rfl, (hEw.setCell hGw _).setCell hGw _⟩

/-- Whether two ends are valid as they stand. -/
def vldB (lo hi : Nat) : Bool := (decide (lo = infR) && decide (hi = minf)) || (sndB lo hi && decide (lo ≠ 9223372036854775808) && decide (hi ≠ 9223372036854775808))

end Go.Proofs.Ytcimfccjcikemaa
