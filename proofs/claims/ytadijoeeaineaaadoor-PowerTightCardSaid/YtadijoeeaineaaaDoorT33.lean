/-
  The contract of the program's Pow where it answers a number. Conditions: those that each theorem names.
-/
import Derived.Test.YtadijoeeaineaaaDoorT22
import Derived.Test.YtadijoeeaineaaaDoorT06
import Derived.Test.YtadijoeeaineaaaDoorT27
import Derived.StillTailTactics
import Derived.Test.YtadijoeeaineaaaDoorT12
import Derived.Deep.DeepCutAuto
import Derived.Test.YtadijoeeaineaaaDoorT03
import Derived.Test.YtadijoeeaineaaaDoorT09
namespace Go.Proofs.YtadijoeeaineaaaDoor
open Go.RowKit Nm Rn
theorem pow_num (d : Int) (x : Nat) (n : Int) (w : World) (hx : x < 18446744073709551616) (hT : Tab w) (h : isNaN (powR d x n) = false) :
    Calls Tryd.prog 10 #[.int .i64 d, .float .f64 x, .int .i64 n] w fun e w' => e = .returned (.float .f64 (powR d x n)) ∧ Ext w w' := by
  refine (rpow_prog d x n w hx hT).mono ?_
  rintro e w2 ⟨r, rfl, hr, hc, hE⟩
  rw [cn_eq hc h]
  exact ⟨rfl, hE⟩
end Go.Proofs.YtadijoeeaineaaaDoor

/-
  The contract of the program's empty; its intervals' zero and size. Conditions: those that each theorem names.
-/
namespace Go.Proofs.YtadijoeeaineaaaDoor
open Go.RowKit Nm Rn
set_option maxRecDepth 100000
set_option linter.unusedVariables false
set_option linter.unusedSimpArgs false

theorem zero_iv (w : World) : (zeroValue 61).run Tryd.prog w = .ok (.agg #[.float .f64 0, .float .f64 0]) w := by kernel_rfl
theorem agg_iv (w : World) : (isAgg 61).run Tryd.prog w = .ok true w := by kernel_rfl
theorem size_iv (w : World) : (sizeOf 61).run Tryd.prog w = .ok 2 w := by kernel_rfl
set_option maxHeartbeats 1000000 in
theorem iemp_any (lo hi : Nat) (w : World) (hl : lo < 18446744073709551616) (hh : hi < 18446744073709551616) :
    Calls Tryd.prog 150 #[.agg #[.float .f64 lo, .float .f64 hi]] w fun e w' => e = .returned (.bool (ltB hi lo)) ∧ Ext w w' := by
  have hq := fo_gt hl hh
  obtain ⟨R, hR⟩ : ∃ R, R = ltB hi lo := ⟨_, rfl⟩
  rw [← hR] at hq ⊢
  clear hR hl hh
  go_enter Tryd.func150, Tryd.ntmps150
  go_wp2
  go_ret
  exact ⟨ret_bool (by first | rfl | exact hq), (Ext.refl w).alloc _⟩

end Go.Proofs.YtadijoeeaineaaaDoor

/-
  The contracts of the program's intervals, fourth part: Valid. Conditions: those that each theorem names.
-/
namespace Go.Proofs.YtadijoeeaineaaaDoor
open Go.RowKit Nm Rn
set_option maxRecDepth 100000
set_option linter.unusedVariables false
set_option linter.unusedSimpArgs false

@[go_sem] theorem run_equalIn_float (P : Program) (w : World) (d : Nat) (t : TypeId) (k : FloatKind) (a b : Nat) (h : P.underlying t = some (.float k)) : (Op.equalIn (d + 1) t (.float k a) (.float k b)).run P w = .ok (k.format.order a b == some .eq) w := by
  simp [Op.equalIn, run_underlying h, Op.floatEq]
theorem eqF {a b c d : Nat} (ha : a < 18446744073709551616) (hb : b < 18446744073709551616) (hc : c < 18446744073709551616) (hd : d < 18446744073709551616) (w : World) : (binOp .eql 61 (.agg #[.float .f64 a, .float .f64 b]) (.agg #[.float .f64 c, .float .f64 d])).run Tryd.prog w = .ok (.bool (eqB a c && eqB b d)) w := by
  rw [← fo_eq ha hc, ← fo_eq hb hd]
  cases h1 : (FloatKind.f64.format.order a c == some .eq) <;> cases h2 : (FloatKind.f64.format.order b d == some .eq) <;> go_simp <;> simp [h1, h2]
theorem eqF' {a b c d : Nat} (ha : a < 18446744073709551616) (hb : b < 18446744073709551616) (hc : c < 18446744073709551616) (hd : d < 18446744073709551616) {E : Bool} (h : (eqB a c && eqB b d) = E) (w : World) : (binOp .eql 61 (.agg #[.float .f64 a, .float .f64 b]) (.agg #[.float .f64 c, .float .f64 d])).run Tryd.prog w = .ok (.bool E) w := by rw [eqF ha hb hc hd, h]

end Go.Proofs.YtadijoeeaineaaaDoor

/-
  The contracts of the program's intervals, fifth part: empty, turned, Neg. Conditions: those that each theorem names.
-/
namespace Go.Proofs.YtadijoeeaineaaaDoor
open Go.RowKit Nm Rn
set_option maxRecDepth 100000
set_option linter.unusedVariables false
set_option linter.unusedSimpArgs false

set_option maxHeartbeats 1000000 in
theorem iturned_any (lo hi : Nat) (w : World) (hl : lo < 18446744073709551616) (hh : hi < 18446744073709551616) :
    Calls Tryd.prog 151 #[.agg #[.float .f64 lo, .float .f64 hi]] w (RetF (pl (ng hi)) (pl (ng lo)) w) := by
  have hp1 := fun w => iplain_any (ng hi) w (ng_lt hh)
  have hp2 := fun w => iplain_any (ng lo) w (ng_lt hl)
  have n1 : Go.Op.negFloat .f64 hi = ng hi := ng_xor hh
  have n2 : Go.Op.negFloat .f64 lo = ng lo := ng_xor hl
  obtain ⟨a, ha⟩ : ∃ a, a = pl (ng hi) := ⟨_, rfl⟩
  obtain ⟨b, hb⟩ : ∃ b, b = pl (ng lo) := ⟨_, rfl⟩
  obtain ⟨x, hx⟩ : ∃ x, x = ng hi := ⟨_, rfl⟩
  obtain ⟨y, hy⟩ : ∃ y, y = ng lo := ⟨_, rfl⟩
  rw [← ha, ← hx] at hp1
  rw [← hb, ← hy] at hp2
  rw [← hx] at n1
  rw [← hy] at n2
  have u1 : ∀ w, (Go.Op.unary .neg (.float .f64 hi)).run Tryd.prog w = .ok (.float .f64 x) w := by
    intro w; rw [← n1]; rfl
  have u2 : ∀ w, (Go.Op.unary .neg (.float .f64 lo)).run Tryd.prog w = .ok (.float .f64 y) w := by
    intro w; rw [← n2]; rfl
  clear n1 n2
  rw [← ha, ← hb]
  have HP1 := Lib.hid hp1
  have HP2 := Lib.hid hp2
  clear hp1 hp2 ha hb hx hy hl hh
  obtain ⟨w1, hw1, hEw, b0, b1, hblk⟩ := two_boxes w 61 61 (.float .f64 lo) (.float .f64 hi) (.float .f64 0) (.float .f64 0)
  go_enter Tryd.func151, Tryd.ntmps151
  go_wp2_with fail
  rw [← hw1]
  clear hw1
  obtain ⟨G, hG⟩ : ∃ G, G = w.heap.size + 1 := ⟨_, rfl⟩
  rw [← hG] at hblk
  rw [← hG]
  have hGw : w.heap.size ≤ G := by omega
  have hGl := hblk.lt
  have q0 : w1.cell? ⟨G, 0, none⟩ = some (.float .f64 0) := hblk.cell 0
  have q1 : w1.cell? ⟨G, 1, none⟩ = some (.float .f64 0) := hblk.cell 1
  have f0 := hblk.frozen 0
  have f1 := hblk.frozen 1
  clear hG
  refine wp_region_still_tail 9 (by kernel_rfl) (by kernel_rfl) ?_
  simp only [List.take_succ_cons, List.take_zero, List.drop_succ_cons, List.drop_zero]
  still_step
  still_step
  still_step
  still_call ((HP1.out _).mono fun _ _ h => ⟨h.1, h.2.symm⟩)
  still_step
  still_step
  still_step
  still_call ((HP2.out _).mono fun _ _ h => ⟨h.1, h.2.symm⟩)
  still_step
  refine wpStill_nil ?_
  change wpList _ _ _ _ _ w1.drew
  go_wp2
  exact bodyPost_ret (v := .agg #[.float .f64 a, .float .f64 b]) (by simp [results, Tryd.results151, go_sem, hGl, q0, q1]) rfl ⟨rfl, (hEw.drew.setCell hGw _).setCell hGw _⟩

/-- Read and written back into the argument's own box. -/
theorem box_set2 {w w2 : World} {H : Nat} {t : TypeId} {x y : Value} (a b : Value) (hb : Blk w2 H t #[x, y]) (hE : Ext w w2) (hH : w.heap.size ≤ H) :
    Blk ((w2.setCell ⟨H, 0, none⟩ a).setCell ⟨H, 1, none⟩ b) H t #[a, b] ∧ Ext w ((w2.setCell ⟨H, 0, none⟩ a).setCell ⟨H, 1, none⟩ b) :=
  ⟨(hb.set_ 0 a).set_ 1 b, (hE.setCell hH _).setCell (by show w.heap.size ≤ H; exact hH) _⟩

set_option maxHeartbeats 2000000 in
theorem ineg_any (lo hi : Nat) (w : World) (hl : lo < 18446744073709551616) (hh : hi < 18446744073709551616) :
    Calls Tryd.prog 110 #[.agg #[.float .f64 lo, .float .f64 hi]] w (RetF (ngLo lo hi) (ngHi lo hi) w) := by
  have hr := fun w => iread_any lo hi w hl hh
  have key1 : ∃ (a b r1 r2 : Nat) (E : Bool), a = rdLo lo hi ∧ b = rdHi lo hi ∧ (∀ w, Calls Tryd.prog 150 #[.agg #[.float .f64 a, .float .f64 b]] w fun e w' => e = .returned (.bool E) ∧ Ext w w') ∧ (∀ w, Calls Tryd.prog 151 #[.agg #[.float .f64 a, .float .f64 b]] w (RetF r1 r2 w)) ∧ ((E = true ∧ ngLo lo hi = a ∧ ngHi lo hi = b) ∨ (E = false ∧ ngLo lo hi = r1 ∧ ngHi lo hi = r2)) := by
    by_cases he : rdLo lo hi = infR ∧ rdHi lo hi = minf
    · refine ⟨infR, minf, _, _, _, he.1.symm, he.2.symm, fun w => iemp_any infR minf w infR_lt minf_lt, fun w => iturned_any infR minf w infR_lt minf_lt, .inl ⟨rfl, ?_, ?_⟩⟩
      · unfold ngLo; rw [if_pos he]
      · unfold ngHi; rw [if_pos he]
    · obtain ⟨g1, g2, g3, g4, g5, g6, _, g8⟩ := rd_ends hl hh he
      refine ⟨_, _, _, _, _, rfl, rfl, fun w => iemp_any _ _ w g1 g2, fun w => iturned_any _ _ w g1 g2, .inr ⟨?_, ?_, ?_⟩⟩
      · unfold ltB
        rw [decide_eq_false (p := key (rdHi lo hi) < key (rdLo lo hi)) (by omega), Bool.and_false]
      · unfold ngLo; rw [if_neg he]
      · unfold ngHi; rw [if_neg he]
  obtain ⟨a, b, r1, r2, E, ha, hb, hem, htu, hcase⟩ := key1
  rw [← ha, ← hb] at hr
  have HR := Lib.hid hr
  have HEM := Lib.hid hem
  have HTU := Lib.hid htu
  clear hr hem htu ha hb hl hh
  rcases hcase with ⟨rfl, e1, e2⟩ | ⟨rfl, e1, e2⟩
  all_goals
    rw [e1, e2]
    clear e1 e2
    go_enter Tryd.func110, Tryd.ntmps110
    go_wp2_with fail
    refine (HR.out _).mono ?_
    rintro e w2 ⟨rfl, hE2⟩
    have hbH := ((Blk.new w 61 #[.float .f64 lo, .float .f64 hi]).ext ((Ext.refl _).alloc (.cells #[.float .f64 0, .float .f64 0] 61))).ext hE2
    have hbG := (Blk.new2 w (.cells #[.float .f64 lo, .float .f64 hi] 61) 61 #[.float .f64 0, .float .f64 0]).ext hE2
    have hEw : Ext w w2 := (((Ext.refl w).alloc _).alloc _).trans hE2
    have hbH3 := (box_set2 (.float .f64 a) (.float .f64 b) hbH hEw (Nat.le_refl _)).1
    have hE3 := (box_set2 (.float .f64 a) (.float .f64 b) hbH hEw (Nat.le_refl _)).2
    have hbG3 : Blk ((w2.setCell ⟨w.heap.size, 0, none⟩ (.float .f64 a)).setCell ⟨w.heap.size, 1, none⟩ (.float .f64 b)) (w.heap.size + 1) 61 #[.float .f64 0, .float .f64 0] :=
      (hbG.far (by show w.heap.size + 1 ≠ w.heap.size; omega) _).far (by show w.heap.size + 1 ≠ w.heap.size; omega) _
    have s0 : w2.cell? ⟨w.heap.size, 0, none⟩ = some (.float .f64 lo) := hbH.cell 0
    have s1 : w2.cell? ⟨w.heap.size, 1, none⟩ = some (.float .f64 hi) := hbH.cell 1
    have fs0 := hbH.frozen 0
    have fs1 := hbH.frozen 1
    have hsl := hbH.lt
    obtain ⟨G, hG⟩ : ∃ G, G = w.heap.size + 1 := ⟨_, rfl⟩
    rw [← hG] at hbG3
    rw [← hG]
    have hGw : w.heap.size ≤ G := by omega
    have b0 : ((w2.setCell ⟨w.heap.size, 0, none⟩ (.float .f64 a)).setCell ⟨w.heap.size, 1, none⟩ (.float .f64 b)).cell? ⟨w.heap.size, 0, none⟩ = some (.float .f64 a) := hbH3.cell 0
    have b1 : ((w2.setCell ⟨w.heap.size, 0, none⟩ (.float .f64 a)).setCell ⟨w.heap.size, 1, none⟩ (.float .f64 b)).cell? ⟨w.heap.size, 1, none⟩ = some (.float .f64 b) := hbH3.cell 1
    clear hG hE2 hbG hEw hbH
    go_wp2_with fail
    refine (HEM.out _).mono ?_
    rintro e w4 ⟨rfl, hE4⟩
    have hbH4 := hbH3.ext hE4
    have hbG4 := hbG3.ext hE4
    have hEE := hE3.trans hE4
    clear s0 s1 fs0 fs1 hsl b0 b1 hbH3 hbG3 hE3 hE4
    have b0 : w4.cell? ⟨w.heap.size, 0, none⟩ = some (.float .f64 a) := hbH4.cell 0
    have b1 : w4.cell? ⟨w.heap.size, 1, none⟩ = some (.float .f64 b) := hbH4.cell 1
    have hGl := hbG4.lt
    have q0 : w4.cell? ⟨G, 0, none⟩ = some (.float .f64 0) := hbG4.cell 0
    have q1 : w4.cell? ⟨G, 1, none⟩ = some (.float .f64 0) := hbG4.cell 1
    have f0 := hbG4.frozen 0
    have f1 := hbG4.frozen 1
    clear hbH4
    go_wp2_with fail
  · exact bodyPost_ret (v := .agg #[.float .f64 a, .float .f64 b]) (by simp [results, Tryd.results110, go_sem, hGl, q0, q1]) rfl ⟨rfl, (hEE.setCell hGw _).setCell hGw _⟩
  · refine (HTU.out _).mono ?_
    rintro e w5 ⟨rfl, hE5⟩
    have hbG5 := hbG4.ext hE5
    have hEF := hEE.trans hE5
    clear hE5 hEE hbG4 q0 q1 f0 f1 hGl b0 b1
    have hGl := hbG5.lt
    have q0 : w5.cell? ⟨G, 0, none⟩ = some (.float .f64 0) := hbG5.cell 0
    have q1 : w5.cell? ⟨G, 1, none⟩ = some (.float .f64 0) := hbG5.cell 1
    have f0 := hbG5.frozen 0
    have f1 := hbG5.frozen 1
    go_wp2
    exact bodyPost_ret (v := .agg #[.float .f64 r1, .float .f64 r2]) (by simp [results, Tryd.results110, go_sem, hGl, q0, q1]) rfl ⟨rfl, (hEF.setCell hGw _).setCell hGw _⟩
end Go.Proofs.YtadijoeeaineaaaDoor

/-
  What max and min of two floats answer. Conditions: those that each theorem names.
-/
namespace Go.Proofs.YtadijoeeaineaaaDoor
open Go.RowKit Nm Rn
set_option maxRecDepth 100000
set_option linter.unusedVariables false
set_option linter.unusedSimpArgs false

theorem lt_key {x y : Nat} (nx : isNaN x = false) (ny : isNaN y = false) : ltB x y = decide (key x < key y) := by unfold ltB; rw [nx, ny]; rfl
theorem eq_key {x y : Nat} (nx : isNaN x = false) (ny : isNaN y = false) : eqB x y = decide (key x = key y) := by unfold eqB; rw [nx, ny]; rfl
theorem le_key {x y : Nat} (nx : isNaN x = false) (ny : isNaN y = false) : leB x y = decide (key x ≤ key y) := by unfold leB; rw [nx, ny]; rfl

theorem max_run {x y : Nat} (hx : x < 18446744073709551616) (hy : y < 18446744073709551616) (nx : isNaN x = false) (ny : isNaN y = false) (h : key x = key y → x = y) (P : Program) (w : World) (ats : Array TypeId) (ty : TypeId) :
    (Builtin.max_ ats ty #[.float .f64 x, .float .f64 y]).run P w = .ok (.float .f64 (if key x < key y then y else x)) w := by
  have h1 := fo_lt hx hy
  have h2 := fo_eq hx hy
  have h3 := fo_gt hx hy
  rw [lt_key nx ny] at h1
  rw [eq_key nx ny] at h2
  rw [lt_key ny nx] at h3
  have hm : (Builtin.max2 (.float .f64 x) (.float .f64 y)).run P w = .ok (.float .f64 (if key x < key y then y else x)) w := by
    rcases Int.lt_trichotomy (key x) (key y) with g | g | g
    · rw [decide_eq_true g] at h1
      rw [if_pos g]
      have e := eq_of_beq h1
      simp only [Builtin.max2, Builtin.min2, e]; rfl
    · rw [decide_eq_true g] at h2
      have e := eq_of_beq h2
      have := h g
      subst this
      rw [if_neg (by omega)]
      simp only [Builtin.max2, Builtin.min2, e, ite_self]; rfl
    · rw [decide_eq_true g] at h3
      rw [if_neg (by omega)]
      have e := eq_of_beq h3
      simp only [Builtin.max2, Builtin.min2, e]; rfl
  unfold Builtin.max_
  simp only [List.foldlM]
  simpa using hm
theorem min_run {x y : Nat} (hx : x < 18446744073709551616) (hy : y < 18446744073709551616) (nx : isNaN x = false) (ny : isNaN y = false) (h : key x = key y → x = y) (P : Program) (w : World) (ats : Array TypeId) (ty : TypeId) :
    (Builtin.min_ ats ty #[.float .f64 x, .float .f64 y]).run P w = .ok (.float .f64 (if key y < key x then y else x)) w := by
  have h1 := fo_lt hx hy
  have h2 := fo_eq hx hy
  have h3 := fo_gt hx hy
  rw [lt_key nx ny] at h1
  rw [eq_key nx ny] at h2
  rw [lt_key ny nx] at h3
  have hm : (Builtin.min2 (.float .f64 x) (.float .f64 y)).run P w = .ok (.float .f64 (if key y < key x then y else x)) w := by
    rcases Int.lt_trichotomy (key x) (key y) with g | g | g
    · rw [decide_eq_true g] at h1
      rw [if_neg (by omega)]
      have e := eq_of_beq h1
      simp only [Builtin.max2, Builtin.min2, e]; rfl
    · rw [decide_eq_true g] at h2
      have e := eq_of_beq h2
      have := h g
      subst this
      rw [if_neg (by omega)]
      simp only [Builtin.max2, Builtin.min2, e, ite_self]; rfl
    · rw [decide_eq_true g] at h3
      rw [if_pos g]
      have e := eq_of_beq h3
      simp only [Builtin.max2, Builtin.min2, e]; rfl
  unfold Builtin.min_
  simp only [List.foldlM]
  simpa using hm
end Go.Proofs.YtadijoeeaineaaaDoor

/-
  The contracts of the program's intervals, sixth part: the greater and the lesser of two floats; equality with the empty interval. Conditions: those that each theorem names.
-/
namespace Go.Proofs.YtadijoeeaineaaaDoor
open Go.RowKit Nm Rn
set_option maxRecDepth 100000
set_option linter.unusedVariables false
set_option linter.unusedSimpArgs false

end Go.Proofs.YtadijoeeaineaaaDoor

/-
  The contract of the program's Abs. Conditions: those that each theorem names.
-/
namespace Go.Proofs.YtadijoeeaineaaaDoor
open Go.RowKit Nm Rn
set_option maxRecDepth 100000
set_option linter.unusedVariables false
set_option linter.unusedSimpArgs false

set_option maxHeartbeats 4000000 in
theorem pabs_E (lo hi a b : Nat) (w : World)
    (HR : Hid (∀ w, Calls Tryd.prog 98 #[.agg #[.float .f64 lo, .float .f64 hi]] w (RetF a b w)))
    (hq : ∀ w, (binOp .eql 61 (.agg #[.float .f64 a, .float .f64 b]) (.agg #[.float .f64 infR, .float .f64 minf])).run Tryd.prog w = .ok (.bool true) w) (c : Bool) :
    Calls Tryd.prog 56 #[.agg #[.float .f64 lo, .float .f64 hi]] w (RetF a b w) := by
  have HEM := Lib.hid (fun w => iempty_any w)
  obtain ⟨I1, hI1⟩ : ∃ I, I = infR := ⟨_, rfl⟩
  obtain ⟨I2, hI2⟩ : ∃ I, I = minf := ⟨_, rfl⟩
  rw [← hI1, ← hI2] at hq HEM
  clear hI1 hI2
  go_enter Tryd.func56, Tryd.ntmps56
  go_wp2_with fail
  refine (HR.out _).mono ?_
  rintro e w2 ⟨rfl, hE2⟩
  have hbH := ((Blk.new w 61 #[.float .f64 lo, .float .f64 hi]).ext ((Ext.refl _).alloc (.cells #[.float .f64 0, .float .f64 0] 61))).ext hE2
  have hbG := (Blk.new2 w (.cells #[.float .f64 lo, .float .f64 hi] 61) 61 #[.float .f64 0, .float .f64 0]).ext hE2
  have hEw : Ext w w2 := (((Ext.refl w).alloc _).alloc _).trans hE2
  have hbH3 := (box_set2 (.float .f64 a) (.float .f64 b) hbH hEw (Nat.le_refl _)).1
  have hE3 := (box_set2 (.float .f64 a) (.float .f64 b) hbH hEw (Nat.le_refl _)).2
  have hbG3 : Blk (((w2).setCell ⟨w.heap.size, 0, none⟩ (.float .f64 a)).setCell ⟨w.heap.size, 1, none⟩ (.float .f64 b)) (w.heap.size + 1) 61 #[.float .f64 0, .float .f64 0] :=
    (hbG.far (by show w.heap.size + 1 ≠ w.heap.size; omega) _).far (by show w.heap.size + 1 ≠ w.heap.size; omega) _
  have s0 : w2.cell? ⟨w.heap.size, 0, none⟩ = some (.float .f64 lo) := hbH.cell 0
  have s1 : w2.cell? ⟨w.heap.size, 1, none⟩ = some (.float .f64 hi) := hbH.cell 1
  have fs0 := hbH.frozen 0
  have fs1 := hbH.frozen 1
  have hsl := hbH.lt
  obtain ⟨G, hG⟩ : ∃ G, G = w.heap.size + 1 := ⟨_, rfl⟩
  rw [← hG] at hbG3
  rw [← hG]
  have hGw : w.heap.size ≤ G := by omega
  clear hG hE2 hbG hEw hbH
  go_wp2_with fail
  clear s0 s1 fs0 fs1 hsl
  obtain ⟨S, hS⟩ : ∃ S : World → Prop, S = fun wz => Blk wz w.heap.size 61 #[.float .f64 a, .float .f64 b] ∧ Blk wz G 61 #[.float .f64 0, .float .f64 0] ∧ Ext w wz := ⟨_, rfl⟩
  have hSE : ∀ w w', S w → Ext w w' → S w' := fun w w' h1 h2 => by rw [hS] at h1 ⊢; exact ⟨h1.1.ext h2, h1.2.1.ext h2, h1.2.2.trans h2⟩
  have hS3 : S (((w2).setCell ⟨w.heap.size, 0, none⟩ (.float .f64 a)).setCell ⟨w.heap.size, 1, none⟩ (.float .f64 b)) := by rw [hS]; exact ⟨hbH3, hbG3, hE3⟩
  clear hbH3 hbG3 hE3
  generalize ((w2).setCell ⟨w.heap.size, 0, none⟩ (.float .f64 a)).setCell ⟨w.heap.size, 1, none⟩ (.float .f64 b) = w3 at hS3 ⊢
  have hS1 : S { w3 with drawn := w3.drawn + 1 } := hSE _ _ hS3 (Ext.refl w3).drew
  have HSS := Lib.hid hS
  have HSE := Lib.hid hSE
  clear hS hSE hS3
  refine wp_region_steady S (by kernel_rfl) (by kernel_rfl) hS1 ?_
  repeat (refine wpG_step (fun K hK => ?_)
          go_simp
          first
          | (refine hK _ ?_
             clear hK K)
          | (apply StepG.mk
             intro wz hz
             have hz' := hz
             rw [HSS.out] at hz'
             have g0 := hz'.1.cell 0
             have g1 := hz'.1.cell 1
             simp only [List.getElem?_toArray, List.getElem?_cons_zero, List.getElem?_cons_succ] at g0 g1
             clear hz'
             go_simp
             first
             | exact ⟨rfl, hz⟩
             | (go_at_call 99; exact (HEM.out _).mono fun e w5 h5 => ⟨h5.1, HSE.out _ _ hz h5.2⟩)
             refine hK _ ?_
             clear hK K))
  refine wpG_nil ?_
  intro w5 hw5
  rw [HSS.out] at hw5
  have hb5 := hw5.1
  have hg5 := hw5.2.1
  have hE5 := hw5.2.2
  clear hw5 hS1 HSE HSS S hq
  have b0 : (w5).cell? ⟨w.heap.size, 0, none⟩ = some (.float .f64 a) := hb5.cell 0
  have b1 : (w5).cell? ⟨w.heap.size, 1, none⟩ = some (.float .f64 b) := hb5.cell 1
  have hGl := hg5.lt
  have q0 : (w5).cell? ⟨G, 0, none⟩ = some (.float .f64 0) := hg5.cell 0
  have q1 : (w5).cell? ⟨G, 1, none⟩ = some (.float .f64 0) := hg5.cell 1
  have f0 := hg5.frozen 0
  have f1 := hg5.frozen 1
  go_wp2_with fail
  exact bodyPost_ret (v := .agg #[.float .f64 a, .float .f64 b]) (by simp [results, Tryd.results56, go_sem, hGl, q0, q1]) rfl ⟨rfl, (hE5.setCell hGw _).setCell hGw _⟩

set_option maxHeartbeats 4000000 in
theorem pabs_c (lo hi a b : Nat) (w : World)
    (HR : Hid (∀ w, Calls Tryd.prog 98 #[.agg #[.float .f64 lo, .float .f64 hi]] w (RetF a b w)))
    (hq : ∀ w, (binOp .eql 61 (.agg #[.float .f64 a, .float .f64 b]) (.agg #[.float .f64 infR, .float .f64 minf])).run Tryd.prog w = .ok (.bool false) w)
    (hge : (FloatKind.f64.format.order a 0 == some .gt || FloatKind.f64.format.order a 0 == some .eq) = true) :
    Calls Tryd.prog 56 #[.agg #[.float .f64 lo, .float .f64 hi]] w (RetF a b w) := by
  have HEM := Lib.hid (fun w => iempty_any w)
  obtain ⟨I1, hI1⟩ : ∃ I, I = infR := ⟨_, rfl⟩
  obtain ⟨I2, hI2⟩ : ∃ I, I = minf := ⟨_, rfl⟩
  rw [← hI1, ← hI2] at hq HEM
  clear hI1 hI2
  go_enter Tryd.func56, Tryd.ntmps56
  go_wp2_with fail
  refine (HR.out _).mono ?_
  rintro e w2 ⟨rfl, hE2⟩
  have hbH := ((Blk.new w 61 #[.float .f64 lo, .float .f64 hi]).ext ((Ext.refl _).alloc (.cells #[.float .f64 0, .float .f64 0] 61))).ext hE2
  have hbG := (Blk.new2 w (.cells #[.float .f64 lo, .float .f64 hi] 61) 61 #[.float .f64 0, .float .f64 0]).ext hE2
  have hEw : Ext w w2 := (((Ext.refl w).alloc _).alloc _).trans hE2
  have hbH3 := (box_set2 (.float .f64 a) (.float .f64 b) hbH hEw (Nat.le_refl _)).1
  have hE3 := (box_set2 (.float .f64 a) (.float .f64 b) hbH hEw (Nat.le_refl _)).2
  have hbG3 : Blk (((w2).setCell ⟨w.heap.size, 0, none⟩ (.float .f64 a)).setCell ⟨w.heap.size, 1, none⟩ (.float .f64 b)) (w.heap.size + 1) 61 #[.float .f64 0, .float .f64 0] :=
    (hbG.far (by show w.heap.size + 1 ≠ w.heap.size; omega) _).far (by show w.heap.size + 1 ≠ w.heap.size; omega) _
  have s0 : w2.cell? ⟨w.heap.size, 0, none⟩ = some (.float .f64 lo) := hbH.cell 0
  have s1 : w2.cell? ⟨w.heap.size, 1, none⟩ = some (.float .f64 hi) := hbH.cell 1
  have fs0 := hbH.frozen 0
  have fs1 := hbH.frozen 1
  have hsl := hbH.lt
  obtain ⟨G, hG⟩ : ∃ G, G = w.heap.size + 1 := ⟨_, rfl⟩
  rw [← hG] at hbG3
  rw [← hG]
  have hGw : w.heap.size ≤ G := by omega
  clear hG hE2 hbG hEw hbH
  go_wp2_with fail
  clear s0 s1 fs0 fs1 hsl
  obtain ⟨S, hS⟩ : ∃ S : World → Prop, S = fun wz => Blk wz w.heap.size 61 #[.float .f64 a, .float .f64 b] ∧ Blk wz G 61 #[.float .f64 0, .float .f64 0] ∧ Ext w wz := ⟨_, rfl⟩
  have hSE : ∀ w w', S w → Ext w w' → S w' := fun w w' h1 h2 => by rw [hS] at h1 ⊢; exact ⟨h1.1.ext h2, h1.2.1.ext h2, h1.2.2.trans h2⟩
  have hS3 : S (((w2).setCell ⟨w.heap.size, 0, none⟩ (.float .f64 a)).setCell ⟨w.heap.size, 1, none⟩ (.float .f64 b)) := by rw [hS]; exact ⟨hbH3, hbG3, hE3⟩
  clear hbH3 hbG3 hE3
  generalize ((w2).setCell ⟨w.heap.size, 0, none⟩ (.float .f64 a)).setCell ⟨w.heap.size, 1, none⟩ (.float .f64 b) = w3 at hS3 ⊢
  have hS1 : S { w3 with drawn := w3.drawn + 1 } := hSE _ _ hS3 (Ext.refl w3).drew
  have HSS := Lib.hid hS
  have HSE := Lib.hid hSE
  clear hS hSE hS3
  refine wp_region_steady S (by kernel_rfl) (by kernel_rfl) hS1 ?_
  repeat (refine wpG_step (fun K hK => ?_)
          go_simp
          first
          | (refine hK _ ?_
             clear hK K)
          | (apply StepG.mk
             intro wz hz
             have hz' := hz
             rw [HSS.out] at hz'
             have g0 := hz'.1.cell 0
             have g1 := hz'.1.cell 1
             simp only [List.getElem?_toArray, List.getElem?_cons_zero, List.getElem?_cons_succ] at g0 g1
             clear hz'
             go_simp
             first
             | exact ⟨rfl, hz⟩
             | (go_at_call 99; exact (HEM.out _).mono fun e w5 h5 => ⟨h5.1, HSE.out _ _ hz h5.2⟩)
             refine hK _ ?_
             clear hK K))
  refine wpG_nil ?_
  intro w5 hw5
  rw [HSS.out] at hw5
  have hb5 := hw5.1
  have hg5 := hw5.2.1
  have hE5 := hw5.2.2
  clear hw5 hS1 HSE HSS S hq
  have b0 : (w5).cell? ⟨w.heap.size, 0, none⟩ = some (.float .f64 a) := hb5.cell 0
  have b1 : (w5).cell? ⟨w.heap.size, 1, none⟩ = some (.float .f64 b) := hb5.cell 1
  have hGl := hg5.lt
  have q0 : (w5).cell? ⟨G, 0, none⟩ = some (.float .f64 0) := hg5.cell 0
  have q1 : (w5).cell? ⟨G, 1, none⟩ = some (.float .f64 0) := hg5.cell 1
  have f0 := hg5.frozen 0
  have f1 := hg5.frozen 1
  go_wp2_with fail
  exact bodyPost_ret (v := .agg #[.float .f64 a, .float .f64 b]) (by simp [results, Tryd.results56, go_sem, hGl, q0, q1]) rfl ⟨rfl, (hE5.setCell hGw _).setCell hGw _⟩

set_option maxHeartbeats 4000000 in
theorem pabs_d (lo hi a b : Nat) (w : World)
    (HR : Hid (∀ w, Calls Tryd.prog 98 #[.agg #[.float .f64 lo, .float .f64 hi]] w (RetF a b w)))
    (hq : ∀ w, (binOp .eql 61 (.agg #[.float .f64 a, .float .f64 b]) (.agg #[.float .f64 infR, .float .f64 minf])).run Tryd.prog w = .ok (.bool false) w)
    (hge : (FloatKind.f64.format.order a 0 == some .gt || FloatKind.f64.format.order a 0 == some .eq) = false)
    (hle : (FloatKind.f64.format.order b 0 == some .lt || FloatKind.f64.format.order b 0 == some .eq) = true)
    (r1 r2 : Nat) (HN : Hid (∀ w, Calls Tryd.prog 110 #[.agg #[.float .f64 a, .float .f64 b]] w (RetF r1 r2 w))) :
    Calls Tryd.prog 56 #[.agg #[.float .f64 lo, .float .f64 hi]] w (RetF r1 r2 w) := by
  have HEM := Lib.hid (fun w => iempty_any w)
  obtain ⟨I1, hI1⟩ : ∃ I, I = infR := ⟨_, rfl⟩
  obtain ⟨I2, hI2⟩ : ∃ I, I = minf := ⟨_, rfl⟩
  rw [← hI1, ← hI2] at hq HEM
  clear hI1 hI2
  go_enter Tryd.func56, Tryd.ntmps56
  go_wp2_with fail
  refine (HR.out _).mono ?_
  rintro e w2 ⟨rfl, hE2⟩
  have hbH := ((Blk.new w 61 #[.float .f64 lo, .float .f64 hi]).ext ((Ext.refl _).alloc (.cells #[.float .f64 0, .float .f64 0] 61))).ext hE2
  have hbG := (Blk.new2 w (.cells #[.float .f64 lo, .float .f64 hi] 61) 61 #[.float .f64 0, .float .f64 0]).ext hE2
  have hEw : Ext w w2 := (((Ext.refl w).alloc _).alloc _).trans hE2
  have hbH3 := (box_set2 (.float .f64 a) (.float .f64 b) hbH hEw (Nat.le_refl _)).1
  have hE3 := (box_set2 (.float .f64 a) (.float .f64 b) hbH hEw (Nat.le_refl _)).2
  have hbG3 : Blk (((w2).setCell ⟨w.heap.size, 0, none⟩ (.float .f64 a)).setCell ⟨w.heap.size, 1, none⟩ (.float .f64 b)) (w.heap.size + 1) 61 #[.float .f64 0, .float .f64 0] :=
    (hbG.far (by show w.heap.size + 1 ≠ w.heap.size; omega) _).far (by show w.heap.size + 1 ≠ w.heap.size; omega) _
  have s0 : w2.cell? ⟨w.heap.size, 0, none⟩ = some (.float .f64 lo) := hbH.cell 0
  have s1 : w2.cell? ⟨w.heap.size, 1, none⟩ = some (.float .f64 hi) := hbH.cell 1
  have fs0 := hbH.frozen 0
  have fs1 := hbH.frozen 1
  have hsl := hbH.lt
  obtain ⟨G, hG⟩ : ∃ G, G = w.heap.size + 1 := ⟨_, rfl⟩
  rw [← hG] at hbG3
  rw [← hG]
  have hGw : w.heap.size ≤ G := by omega
  clear hG hE2 hbG hEw hbH
  go_wp2_with fail
  clear s0 s1 fs0 fs1 hsl
  obtain ⟨S, hS⟩ : ∃ S : World → Prop, S = fun wz => Blk wz w.heap.size 61 #[.float .f64 a, .float .f64 b] ∧ Blk wz G 61 #[.float .f64 0, .float .f64 0] ∧ Ext w wz := ⟨_, rfl⟩
  have hSE : ∀ w w', S w → Ext w w' → S w' := fun w w' h1 h2 => by rw [hS] at h1 ⊢; exact ⟨h1.1.ext h2, h1.2.1.ext h2, h1.2.2.trans h2⟩
  have hS3 : S (((w2).setCell ⟨w.heap.size, 0, none⟩ (.float .f64 a)).setCell ⟨w.heap.size, 1, none⟩ (.float .f64 b)) := by rw [hS]; exact ⟨hbH3, hbG3, hE3⟩
  clear hbH3 hbG3 hE3
  generalize ((w2).setCell ⟨w.heap.size, 0, none⟩ (.float .f64 a)).setCell ⟨w.heap.size, 1, none⟩ (.float .f64 b) = w3 at hS3 ⊢
  have hS1 : S { w3 with drawn := w3.drawn + 1 } := hSE _ _ hS3 (Ext.refl w3).drew
  have HSS := Lib.hid hS
  have HSE := Lib.hid hSE
  clear hS hSE hS3
  refine wp_region_steady S (by kernel_rfl) (by kernel_rfl) hS1 ?_
  repeat (refine wpG_step (fun K hK => ?_)
          go_simp
          first
          | (refine hK _ ?_
             clear hK K)
          | (apply StepG.mk
             intro wz hz
             have hz' := hz
             rw [HSS.out] at hz'
             have g0 := hz'.1.cell 0
             have g1 := hz'.1.cell 1
             simp only [List.getElem?_toArray, List.getElem?_cons_zero, List.getElem?_cons_succ] at g0 g1
             clear hz'
             go_simp
             first
             | exact ⟨rfl, hz⟩
             | (go_at_call 99; exact (HEM.out _).mono fun e w5 h5 => ⟨h5.1, HSE.out _ _ hz h5.2⟩)
             refine hK _ ?_
             clear hK K))
  refine wpG_nil ?_
  intro w5 hw5
  rw [HSS.out] at hw5
  have hb5 := hw5.1
  have hg5 := hw5.2.1
  have hE5 := hw5.2.2
  clear hw5 hS1 HSE HSS S hq
  have b0 : (w5).cell? ⟨w.heap.size, 0, none⟩ = some (.float .f64 a) := hb5.cell 0
  have b1 : (w5).cell? ⟨w.heap.size, 1, none⟩ = some (.float .f64 b) := hb5.cell 1
  have hGl := hg5.lt
  have q0 : (w5).cell? ⟨G, 0, none⟩ = some (.float .f64 0) := hg5.cell 0
  have q1 : (w5).cell? ⟨G, 1, none⟩ = some (.float .f64 0) := hg5.cell 1
  have f0 := hg5.frozen 0
  have f1 := hg5.frozen 1
  go_wp2_with fail
  refine (HN.out _).mono ?_
  rintro e w6 ⟨rfl, hE6⟩
  have hg6 := hg5.ext hE6
  have hE7 := hE5.trans hE6
  clear b0 b1 q0 q1 f0 f1 hGl hb5 hg5 hE5 hE6
  have hGl := hg6.lt
  have q0 : w6.cell? ⟨G, 0, none⟩ = some (.float .f64 0) := hg6.cell 0
  have q1 : w6.cell? ⟨G, 1, none⟩ = some (.float .f64 0) := hg6.cell 1
  have f0 := hg6.frozen 0
  have f1 := hg6.frozen 1
  go_wp2_with fail
  exact bodyPost_ret (v := .agg #[.float .f64 r1, .float .f64 r2]) (by simp [results, Tryd.results56, go_sem, hGl, q0, q1]) rfl ⟨rfl, (hE7.setCell hGw _).setCell hGw _⟩

set_option maxHeartbeats 4000000 in
theorem pabs_m (lo hi a b : Nat) (w : World)
    (HR : Hid (∀ w, Calls Tryd.prog 98 #[.agg #[.float .f64 lo, .float .f64 hi]] w (RetF a b w)))
    (hq : ∀ w, (binOp .eql 61 (.agg #[.float .f64 a, .float .f64 b]) (.agg #[.float .f64 infR, .float .f64 minf])).run Tryd.prog w = .ok (.bool false) w)
    (hge : (FloatKind.f64.format.order a 0 == some .gt || FloatKind.f64.format.order a 0 == some .eq) = false)
    (hle : (FloatKind.f64.format.order b 0 == some .lt || FloatKind.f64.format.order b 0 == some .eq) = false)
    (na m : Nat) (u1 : ∀ w, (Go.Op.unary .neg (.float .f64 a)).run Tryd.prog w = .ok (.float .f64 na) w) (hmx : ∀ ats ty w, (Builtin.max_ ats ty #[.float .f64 na, .float .f64 b]).run Tryd.prog w = .ok (.float .f64 m) w) :
    Calls Tryd.prog 56 #[.agg #[.float .f64 lo, .float .f64 hi]] w (RetF 0 m w) := by
  have HEM := Lib.hid (fun w => iempty_any w)
  obtain ⟨I1, hI1⟩ : ∃ I, I = infR := ⟨_, rfl⟩
  obtain ⟨I2, hI2⟩ : ∃ I, I = minf := ⟨_, rfl⟩
  rw [← hI1, ← hI2] at hq HEM
  clear hI1 hI2
  go_enter Tryd.func56, Tryd.ntmps56
  go_wp2_with fail
  refine (HR.out _).mono ?_
  rintro e w2 ⟨rfl, hE2⟩
  have hbH := ((Blk.new w 61 #[.float .f64 lo, .float .f64 hi]).ext ((Ext.refl _).alloc (.cells #[.float .f64 0, .float .f64 0] 61))).ext hE2
  have hbG := (Blk.new2 w (.cells #[.float .f64 lo, .float .f64 hi] 61) 61 #[.float .f64 0, .float .f64 0]).ext hE2
  have hEw : Ext w w2 := (((Ext.refl w).alloc _).alloc _).trans hE2
  have hbH3 := (box_set2 (.float .f64 a) (.float .f64 b) hbH hEw (Nat.le_refl _)).1
  have hE3 := (box_set2 (.float .f64 a) (.float .f64 b) hbH hEw (Nat.le_refl _)).2
  have hbG3 : Blk (((w2).setCell ⟨w.heap.size, 0, none⟩ (.float .f64 a)).setCell ⟨w.heap.size, 1, none⟩ (.float .f64 b)) (w.heap.size + 1) 61 #[.float .f64 0, .float .f64 0] :=
    (hbG.far (by show w.heap.size + 1 ≠ w.heap.size; omega) _).far (by show w.heap.size + 1 ≠ w.heap.size; omega) _
  have s0 : w2.cell? ⟨w.heap.size, 0, none⟩ = some (.float .f64 lo) := hbH.cell 0
  have s1 : w2.cell? ⟨w.heap.size, 1, none⟩ = some (.float .f64 hi) := hbH.cell 1
  have fs0 := hbH.frozen 0
  have fs1 := hbH.frozen 1
  have hsl := hbH.lt
  obtain ⟨G, hG⟩ : ∃ G, G = w.heap.size + 1 := ⟨_, rfl⟩
  rw [← hG] at hbG3
  rw [← hG]
  have hGw : w.heap.size ≤ G := by omega
  clear hG hE2 hbG hEw hbH
  go_wp2_with fail
  clear s0 s1 fs0 fs1 hsl
  obtain ⟨S, hS⟩ : ∃ S : World → Prop, S = fun wz => Blk wz w.heap.size 61 #[.float .f64 a, .float .f64 b] ∧ Blk wz G 61 #[.float .f64 0, .float .f64 0] ∧ Ext w wz := ⟨_, rfl⟩
  have hSE : ∀ w w', S w → Ext w w' → S w' := fun w w' h1 h2 => by rw [hS] at h1 ⊢; exact ⟨h1.1.ext h2, h1.2.1.ext h2, h1.2.2.trans h2⟩
  have hS3 : S (((w2).setCell ⟨w.heap.size, 0, none⟩ (.float .f64 a)).setCell ⟨w.heap.size, 1, none⟩ (.float .f64 b)) := by rw [hS]; exact ⟨hbH3, hbG3, hE3⟩
  clear hbH3 hbG3 hE3
  generalize ((w2).setCell ⟨w.heap.size, 0, none⟩ (.float .f64 a)).setCell ⟨w.heap.size, 1, none⟩ (.float .f64 b) = w3 at hS3 ⊢
  have hS1 : S { w3 with drawn := w3.drawn + 1 } := hSE _ _ hS3 (Ext.refl w3).drew
  have HSS := Lib.hid hS
  have HSE := Lib.hid hSE
  clear hS hSE hS3
  refine wp_region_steady S (by kernel_rfl) (by kernel_rfl) hS1 ?_
  repeat (refine wpG_step (fun K hK => ?_)
          go_simp
          first
          | (refine hK _ ?_
             clear hK K)
          | (apply StepG.mk
             intro wz hz
             have hz' := hz
             rw [HSS.out] at hz'
             have g0 := hz'.1.cell 0
             have g1 := hz'.1.cell 1
             simp only [List.getElem?_toArray, List.getElem?_cons_zero, List.getElem?_cons_succ] at g0 g1
             clear hz'
             go_simp
             first
             | exact ⟨rfl, hz⟩
             | (go_at_call 99; exact (HEM.out _).mono fun e w5 h5 => ⟨h5.1, HSE.out _ _ hz h5.2⟩)
             refine hK _ ?_
             clear hK K))
  refine wpG_nil ?_
  intro w5 hw5
  rw [HSS.out] at hw5
  have hb5 := hw5.1
  have hg5 := hw5.2.1
  have hE5 := hw5.2.2
  clear hw5 hS1 HSE HSS S hq
  have b0 : (w5).cell? ⟨w.heap.size, 0, none⟩ = some (.float .f64 a) := hb5.cell 0
  have b1 : (w5).cell? ⟨w.heap.size, 1, none⟩ = some (.float .f64 b) := hb5.cell 1
  have hGl := hg5.lt
  have q0 : (w5).cell? ⟨G, 0, none⟩ = some (.float .f64 0) := hg5.cell 0
  have q1 : (w5).cell? ⟨G, 1, none⟩ = some (.float .f64 0) := hg5.cell 1
  have f0 := hg5.frozen 0
  have f1 := hg5.frozen 1
  go_wp2_with fail
  exact bodyPost_ret (v := .agg #[.float .f64 0, .float .f64 m]) (by simp [results, Tryd.results56, go_sem, hGl, q0, q1]) rfl ⟨rfl, (hE5.setCell hGw _).setCell hGw _⟩

end Go.Proofs.YtadijoeeaineaaaDoor
