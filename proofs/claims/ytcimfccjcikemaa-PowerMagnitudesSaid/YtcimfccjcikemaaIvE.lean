/-
  The contracts of the program's intervals, fifth part: empty, turned, Neg. Conditions: those that each theorem names.
-/
import Derived.Test.YtcimfccjcikemaaIvC
import Derived.Test.YtcimfccjcikemaaNg
import Derived.StillTailTactics
namespace Go.Proofs.Ytcimfccjcikemaa
open Go.RowKit Nm Rn
set_option maxRecDepth 100000
set_option linter.unusedVariables false
set_option linter.unusedSimpArgs false

set_option maxHeartbeats 1000000 in
theorem iemp_any (lo hi : Nat) (w : World) (hl : lo < 18446744073709551616) (hh : hi < 18446744073709551616) :
    Calls Try.prog 59 #[.agg #[.float .f64 lo, .float .f64 hi]] w fun e w' => e = .returned (.bool (ltB hi lo)) ∧ Ext w w' := by
  have hq := fo_gt hl hh
  obtain ⟨R, hR⟩ : ∃ R, R = ltB hi lo := ⟨_, rfl⟩
  rw [← hR] at hq ⊢
  clear hR hl hh
  go_enter Try.func59, Try.ntmps59
  go_wp2
  go_ret
  exact ⟨ret_bool (by first | rfl | exact hq), (Ext.refl w).alloc _⟩

set_option maxHeartbeats 1000000 in
theorem iturned_any (lo hi : Nat) (w : World) (hl : lo < 18446744073709551616) (hh : hi < 18446744073709551616) :
    Calls Try.prog 60 #[.agg #[.float .f64 lo, .float .f64 hi]] w (RetF (pl (ng hi)) (pl (ng lo)) w) := by
  have hp1 := fun w => iplain_any (ng hi) w (ng_lt hh)
  have hp2 := fun w => iplain_any (ng lo) w (ng_lt hl)
  have n1 : Go.Op.negFloat .f64 hi = ng hi := ng_xor hh
  have n2 : Go.Op.negFloat .f64 lo = ng lo := ng_xor hl
  obtain ⟨a, ha⟩ : ∃ a, a = pl (ng hi) := ⟨_, rfl⟩
  obtain ⟨b, hb⟩ : ∃ b, b = pl (ng lo) := ⟨_, rfl⟩
  obtain ⟨x, hx⟩ : ∃ x, x = ng hi := ⟨_, rfl⟩
  obtain ⟨y, hy⟩ : ∃ y, y = ng lo := ⟨_, rfl⟩
  rw [← ha, ← hx] at hp1
  rw [← hb, ← hy] at hp2
  rw [← hx] at n1
  rw [← hy] at n2
  have u1 : ∀ w, (Go.Op.unary .neg (.float .f64 hi)).run Try.prog w = .ok (.float .f64 x) w := by
    intro w; rw [← n1]; rfl
  have u2 : ∀ w, (Go.Op.unary .neg (.float .f64 lo)).run Try.prog w = .ok (.float .f64 y) w := by
    intro w; rw [← n2]; rfl
  clear n1 n2
  rw [← ha, ← hb]
  have HP1 := Lib.hid hp1
  have HP2 := Lib.hid hp2
  clear hp1 hp2 ha hb hx hy hl hh
  obtain ⟨w1, hw1, hEw, b0, b1, hblk⟩ := two_boxes w 27 27 (.float .f64 lo) (.float .f64 hi) (.float .f64 0) (.float .f64 0)
  go_enter Try.func60, Try.ntmps60
  go_wp2_with fail
  rw [← hw1]
  clear hw1
  obtain ⟨G, hG⟩ : ∃ G, G = w.heap.size + 1 := ⟨_, rfl⟩
  rw [← hG] at hblk
  rw [← hG]
  have hGw : w.heap.size ≤ G := by omega
  have hGl := hblk.lt
  have q0 : w1.cell? ⟨G, 0, none⟩ = some (.float .f64 0) := hblk.cell 0
  have q1 : w1.cell? ⟨G, 1, none⟩ = some (.float .f64 0) := hblk.cell 1
  have f0 := hblk.frozen 0
  have f1 := hblk.frozen 1
  clear hG
  refine wp_region_still_tail 9 (by kernel_rfl) (by kernel_rfl) ?_
  simp only [List.take_succ_cons, List.take_zero, List.drop_succ_cons, List.drop_zero]
  still_step
  still_step
  still_step
  still_call ((HP1.out _).mono fun _ _ h => ⟨h.1, h.2.symm⟩)
  still_step
  still_step
  still_step
  still_call ((HP2.out _).mono fun _ _ h => ⟨h.1, h.2.symm⟩)
  still_step
  refine wpStill_nil ?_
  change wpList _ _ _ _ _ w1.drew
  go_wp2
  exact bodyPost_ret (v := .agg #[.float .f64 a, .float .f64 b]) (by simp [results, Try.results60, go_sem, hGl, q0, q1]) rfl ⟨rfl, (hEw.drew.setCell hGw _).setCell hGw _⟩

/-- Read and written back into the argument's own box. -/
theorem box_set2 {w w2 : World} {H : Nat} {t : TypeId} {x y : Value} (a b : Value) (hb : Blk w2 H t #[x, y]) (hE : Ext w w2) (hH : w.heap.size ≤ H) :
    Blk ((w2.setCell ⟨H, 0, none⟩ a).setCell ⟨H, 1, none⟩ b) H t #[a, b] ∧ Ext w ((w2.setCell ⟨H, 0, none⟩ a).setCell ⟨H, 1, none⟩ b) :=
  ⟨(hb.set_ 0 a).set_ 1 b, (hE.setCell hH _).setCell (by show w.heap.size ≤ H; exact hH) _⟩

set_option maxHeartbeats 2000000 in
theorem ineg_any (lo hi : Nat) (w : World) (hl : lo < 18446744073709551616) (hh : hi < 18446744073709551616) :
    Calls Try.prog 27 #[.agg #[.float .f64 lo, .float .f64 hi]] w (RetF (ngLo lo hi) (ngHi lo hi) w) := by
  have hr := fun w => iread_any lo hi w hl hh
  have key1 : ∃ (a b r1 r2 : Nat) (E : Bool), a = rdLo lo hi ∧ b = rdHi lo hi ∧ (∀ w, Calls Try.prog 59 #[.agg #[.float .f64 a, .float .f64 b]] w fun e w' => e = .returned (.bool E) ∧ Ext w w') ∧ (∀ w, Calls Try.prog 60 #[.agg #[.float .f64 a, .float .f64 b]] w (RetF r1 r2 w)) ∧ ((E = true ∧ ngLo lo hi = a ∧ ngHi lo hi = b) ∨ (E = false ∧ ngLo lo hi = r1 ∧ ngHi lo hi = r2)) := by
    by_cases he : rdLo lo hi = infR ∧ rdHi lo hi = minf
    · refine ⟨infR, minf, _, _, _, he.1.symm, he.2.symm, fun w => iemp_any infR minf w infR_lt minf_lt, fun w => iturned_any infR minf w infR_lt minf_lt, .inl ⟨rfl, ?_, ?_⟩⟩
      · unfold ngLo; rw [if_pos he]
      · unfold ngHi; rw [if_pos he]
    · obtain ⟨g1, g2, g3, g4, g5, g6, _, g8⟩ := rd_ends hl hh he
      refine ⟨_, _, _, _, _, rfl, rfl, fun w => iemp_any _ _ w g1 g2, fun w => iturned_any _ _ w g1 g2, .inr ⟨?_, ?_, ?_⟩⟩
      · unfold ltB
        rw [decide_eq_false (p := key (rdHi lo hi) < key (rdLo lo hi)) (by omega), Bool.and_false]
      · unfold ngLo; rw [if_neg he]
      · unfold ngHi; rw [if_neg he]
  obtain ⟨a, b, r1, r2, E, ha, hb, hem, htu, hcase⟩ := key1
  rw [← ha, ← hb] at hr
  have HR := Lib.hid hr
  have HEM := Lib.hid hem
  have HTU := Lib.hid htu
  clear hr hem htu ha hb hl hh
  rcases hcase with ⟨rfl, e1, e2⟩ | ⟨rfl, e1, e2⟩
  all_goals
    rw [e1, e2]
    clear e1 e2
    go_enter Try.func27, Try.ntmps27
    go_wp2_with fail
    refine (HR.out _).mono ?_
    rintro e w2 ⟨rfl, hE2⟩
    have hbH := ((Blk.new w 27 #[.float .f64 lo, .float .f64 hi]).ext ((Ext.refl _).alloc (.cells #[.float .f64 0, .float .f64 0] 27))).ext hE2
    have hbG := (Blk.new2 w (.cells #[.float .f64 lo, .float .f64 hi] 27) 27 #[.float .f64 0, .float .f64 0]).ext hE2
    have hEw : Ext w w2 := (((Ext.refl w).alloc _).alloc _).trans hE2
    have hbH3 := (box_set2 (.float .f64 a) (.float .f64 b) hbH hEw (Nat.le_refl _)).1
    have hE3 := (box_set2 (.float .f64 a) (.float .f64 b) hbH hEw (Nat.le_refl _)).2
    have hbG3 : Blk ((w2.setCell ⟨w.heap.size, 0, none⟩ (.float .f64 a)).setCell ⟨w.heap.size, 1, none⟩ (.float .f64 b)) (w.heap.size + 1) 27 #[.float .f64 0, .float .f64 0] :=
      (hbG.far (by show w.heap.size + 1 ≠ w.heap.size; omega) _).far (by show w.heap.size + 1 ≠ w.heap.size; omega) _
    have s0 : w2.cell? ⟨w.heap.size, 0, none⟩ = some (.float .f64 lo) := hbH.cell 0
    have s1 : w2.cell? ⟨w.heap.size, 1, none⟩ = some (.float .f64 hi) := hbH.cell 1
    have fs0 := hbH.frozen 0
    have fs1 := hbH.frozen 1
    have hsl := hbH.lt
    obtain ⟨G, hG⟩ : ∃ G, G = w.heap.size + 1 := ⟨_, rfl⟩
    rw [← hG] at hbG3
    rw [← hG]
    have hGw : w.heap.size ≤ G := by omega
    have b0 : ((w2.setCell ⟨w.heap.size, 0, none⟩ (.float .f64 a)).setCell ⟨w.heap.size, 1, none⟩ (.float .f64 b)).cell? ⟨w.heap.size, 0, none⟩ = some (.float .f64 a) := hbH3.cell 0
    have b1 : ((w2.setCell ⟨w.heap.size, 0, none⟩ (.float .f64 a)).setCell ⟨w.heap.size, 1, none⟩ (.float .f64 b)).cell? ⟨w.heap.size, 1, none⟩ = some (.float .f64 b) := hbH3.cell 1
    clear hG hE2 hbG hEw hbH
    go_wp2_with fail
    refine (HEM.out _).mono ?_
    rintro e w4 ⟨rfl, hE4⟩
    have hbH4 := hbH3.ext hE4
    have hbG4 := hbG3.ext hE4
    have hEE := hE3.trans hE4
    clear s0 s1 fs0 fs1 hsl b0 b1 hbH3 hbG3 hE3 hE4
    have b0 : w4.cell? ⟨w.heap.size, 0, none⟩ = some (.float .f64 a) := hbH4.cell 0
    have b1 : w4.cell? ⟨w.heap.size, 1, none⟩ = some (.float .f64 b) := hbH4.cell 1
    have hGl := hbG4.lt
    have q0 : w4.cell? ⟨G, 0, none⟩ = some (.float .f64 0) := hbG4.cell 0
    have q1 : w4.cell? ⟨G, 1, none⟩ = some (.float .f64 0) := hbG4.cell 1
    have f0 := hbG4.frozen 0
    have f1 := hbG4.frozen 1
    clear hbH4
    go_wp2_with fail
  · exact bodyPost_ret (v := .agg #[.float .f64 a, .float .f64 b]) (by simp [results, Try.results27, go_sem, hGl, q0, q1]) rfl ⟨rfl, (hEE.setCell hGw _).setCell hGw _⟩
  · refine (HTU.out _).mono ?_
    rintro e w5 ⟨rfl, hE5⟩
    have hbG5 := hbG4.ext hE5
    have hEF := hEE.trans hE5
    clear hE5 hEE hbG4 q0 q1 f0 f1 hGl b0 b1
    have hGl := hbG5.lt
    have q0 : w5.cell? ⟨G, 0, none⟩ = some (.float .f64 0) := hbG5.cell 0
    have q1 : w5.cell? ⟨G, 1, none⟩ = some (.float .f64 0) := hbG5.cell 1
    have f0 := hbG5.frozen 0
    have f1 := hbG5.frozen 1
    go_wp2
    exact bodyPost_ret (v := .agg #[.float .f64 r1, .float .f64 r2]) (by simp [results, Try.results27, go_sem, hGl, q0, q1]) rfl ⟨rfl, (hEF.setCell hGw _).setCell hGw _⟩
end Go.Proofs.Ytcimfccjcikemaa
