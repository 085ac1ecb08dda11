/-
 The contracts of the program's intervals, fifth part: empty, turned, Neg. Conditions: those that each theorem names.
-/
import Derived.Test.YtbcaggdgoidlaaaGreatDoorH28
import Derived.Test.YtbcaggdgoidlaaaGreatDoorH37
import Derived.Test.YtbcaggdgoidlaaaGreatDoorH03
import Derived.StillTailTactics
import Derived.Test.YtbcaggdgoidlaaaGreatDoorH09
import Derived.Test.YtbcaggdgoidlaaaGreatDoorH12
import Derived.Test.YtbcaggdgoidlaaaGreatDoorH06
namespace Go.Proofs.YtbcaggdgoidlaaaGreatDoor
open Go.RowKit Nm Rn
set_option maxRecDepth 100000
set_option linter.unusedVariables false
set_option linter.unusedSimpArgs false
set_option maxHeartbeats 1000000 in
theorem iturned_any (lo hi : Nat) (w : World) (hl : lo < 18446744073709551616) (hh : hi < 18446744073709551616) :
   Calls Tryz.prog 72 #[.agg #[.float .f64 lo, .float .f64 hi]] w (RetF (pl (ng hi)) (pl (ng lo)) w) := by
 have hp1 := fun w => iplain_any (ng hi) w (ng_lt hh)
 have hp2 := fun w => iplain_any (ng lo) w (ng_lt hl)
 have n1 : Go.Op.negFloat .f64 hi = ng hi := ng_xor hh
 have n2 : Go.Op.negFloat .f64 lo = ng lo := ng_xor hl
 obtain ⟨a, ha⟩ : ∃ a, a = pl (ng hi) := ⟨_, rfl⟩
 obtain ⟨b, hb⟩ : ∃ b, b = pl (ng lo) := ⟨_, rfl⟩
 obtain ⟨x, hx⟩ : ∃ x, x = ng hi := ⟨_, rfl⟩
 obtain ⟨y, hy⟩ : ∃ y, y = ng lo := ⟨_, rfl⟩
 rw [← ha, ← hx] at hp1
 rw [← hb, ← hy] at hp2
 rw [← hx] at n1
 rw [← hy] at n2
 have u1 : ∀ w, (Go.Op.unary .neg (.float .f64 hi)).run Tryz.prog w = .ok (.float .f64 x) w := by
   intro w; rw [← n1]; rfl
 have u2 : ∀ w, (Go.Op.unary .neg (.float .f64 lo)).run Tryz.prog w = .ok (.float .f64 y) w := by
   intro w; rw [← n2]; rfl
 clear n1 n2
 rw [← ha, ← hb]
 have HP1 := Lib.hid hp1
 have HP2 := Lib.hid hp2
 clear hp1 hp2 ha hb hx hy hl hh
 obtain ⟨w1, hw1, hEw, b0, b1, hblk⟩ := two_boxes w 32 32 (.float .f64 lo) (.float .f64 hi) (.float .f64 0) (.float .f64 0)
 go_enter Tryz.func72, Tryz.ntmps72
 go_wp2_with fail
 rw [← hw1]
 clear hw1
 obtain ⟨G, hG⟩ : ∃ G, G = w.heap.size + 1 := ⟨_, rfl⟩
 rw [← hG] at hblk
 rw [← hG]
 have hGw : w.heap.size ≤ G := by omega
 have hGl := hblk.lt
 have q0 : w1.cell? ⟨G, 0, none⟩ = some (.float .f64 0) := hblk.cell 0
 have q1 : w1.cell? ⟨G, 1, none⟩ = some (.float .f64 0) := hblk.cell 1
 have f0 := hblk.frozen 0
 have f1 := hblk.frozen 1
 clear hG
 refine wp_region_still_tail 9 (by kernel_rfl) (by kernel_rfl) ?_
 simp only [List.take_succ_cons, List.take_zero, List.drop_succ_cons, List.drop_zero]
 still_step
 still_step
 still_step
 still_call ((HP1.out _).mono fun _ _ h => ⟨h.1, h.2.symm⟩)
 still_step
 still_step
 still_step
 still_call ((HP2.out _).mono fun _ _ h => ⟨h.1, h.2.symm⟩)
 still_step
 refine wpStill_nil ?_
 change wpList _ _ _ _ _ w1.drew
 go_wp2
 exact bodyPost_ret (v := .agg #[.float .f64 a, .float .f64 b]) (by simp [results, Tryz.results72, go_sem, hGl, q0, q1]) rfl ⟨rfl, (hEw.drew.setCell hGw _).setCell hGw _⟩
theorem box_set2 {w w2 : World} {H : Nat} {t : TypeId} {x y : Value} (a b : Value) (hb : Blk w2 H t #[x, y]) (hE : Ext w w2) (hH : w.heap.size ≤ H) :
   Blk ((w2.setCell ⟨H, 0, none⟩ a).setCell ⟨H, 1, none⟩ b) H t #[a, b] ∧ Ext w ((w2.setCell ⟨H, 0, none⟩ a).setCell ⟨H, 1, none⟩ b) :=
 ⟨(hb.set_ 0 a).set_ 1 b, (hE.setCell hH _).setCell (by show w.heap.size ≤ H; exact hH) _⟩
set_option maxHeartbeats 2000000 in
theorem ineg_any (lo hi : Nat) (w : World) (hl : lo < 18446744073709551616) (hh : hi < 18446744073709551616) :
   Calls Tryz.prog 45 #[.agg #[.float .f64 lo, .float .f64 hi]] w (RetF (ngLo lo hi) (ngHi lo hi) w) := by
 have hr := fun w => iread_any lo hi w hl hh
 have key1 : ∃ (a b r1 r2 : Nat) (E : Bool), a = rdLo lo hi ∧ b = rdHi lo hi ∧ (∀ w, Calls Tryz.prog 71 #[.agg #[.float .f64 a, .float .f64 b]] w fun e w' => e = .returned (.bool E) ∧ Ext w w') ∧ (∀ w, Calls Tryz.prog 72 #[.agg #[.float .f64 a, .float .f64 b]] w (RetF r1 r2 w)) ∧ ((E = true ∧ ngLo lo hi = a ∧ ngHi lo hi = b) ∨ (E = false ∧ ngLo lo hi = r1 ∧ ngHi lo hi = r2)) := by
   by_cases he : rdLo lo hi = infR ∧ rdHi lo hi = minf
   · refine ⟨infR, minf, _, _, _, he.1.symm, he.2.symm, fun w => iemp_any infR minf w infR_lt minf_lt, fun w => iturned_any infR minf w infR_lt minf_lt, .inl ⟨rfl, ?_, ?_⟩⟩
     · unfold ngLo; rw [if_pos he]
     · unfold ngHi; rw [if_pos he]
   · obtain ⟨g1, g2, g3, g4, g5, g6, _, g8⟩ := rd_ends hl hh he
     refine ⟨_, _, _, _, _, rfl, rfl, fun w => iemp_any _ _ w g1 g2, fun w => iturned_any _ _ w g1 g2, .inr ⟨?_, ?_, ?_⟩⟩
     · unfold ltB
       rw [decide_eq_false (p := key (rdHi lo hi) < key (rdLo lo hi)) (by omega), Bool.and_false]
     · unfold ngLo; rw [if_neg he]
     · unfold ngHi; rw [if_neg he]
 obtain ⟨a, b, r1, r2, E, ha, hb, hem, htu, hcase⟩ := key1
 rw [← ha, ← hb] at hr
 have HR := Lib.hid hr
 have HEM := Lib.hid hem
 have HTU := Lib.hid htu
 clear hr hem htu ha hb hl hh
 rcases hcase with ⟨rfl, e1, e2⟩ | ⟨rfl, e1, e2⟩
 all_goals
   rw [e1, e2]
   clear e1 e2
   go_enter Tryz.func45, Tryz.ntmps45
   go_wp2_with fail
   refine (HR.out _).mono ?_
   rintro e w2 ⟨rfl, hE2⟩
   have hbH := ((Blk.new w 32 #[.float .f64 lo, .float .f64 hi]).ext ((Ext.refl _).alloc (.cells #[.float .f64 0, .float .f64 0] 32))).ext hE2
   have hbG := (Blk.new2 w (.cells #[.float .f64 lo, .float .f64 hi] 32) 32 #[.float .f64 0, .float .f64 0]).ext hE2
   have hEw : Ext w w2 := (((Ext.refl w).alloc _).alloc _).trans hE2
   have hbH3 := (box_set2 (.float .f64 a) (.float .f64 b) hbH hEw (Nat.le_refl _)).1
   have hE3 := (box_set2 (.float .f64 a) (.float .f64 b) hbH hEw (Nat.le_refl _)).2
   have hbG3 : Blk ((w2.setCell ⟨w.heap.size, 0, none⟩ (.float .f64 a)).setCell ⟨w.heap.size, 1, none⟩ (.float .f64 b)) (w.heap.size + 1) 32 #[.float .f64 0, .float .f64 0] :=
     (hbG.far (by show w.heap.size + 1 ≠ w.heap.size; omega) _).far (by show w.heap.size + 1 ≠ w.heap.size; omega) _
   have s0 : w2.cell? ⟨w.heap.size, 0, none⟩ = some (.float .f64 lo) := hbH.cell 0
   have s1 : w2.cell? ⟨w.heap.size, 1, none⟩ = some (.float .f64 hi) := hbH.cell 1
   have fs0 := hbH.frozen 0
   have fs1 := hbH.frozen 1
   have hsl := hbH.lt
   obtain ⟨G, hG⟩ : ∃ G, G = w.heap.size + 1 := ⟨_, rfl⟩
   rw [← hG] at hbG3
   rw [← hG]
   have hGw : w.heap.size ≤ G := by omega
   have b0 : ((w2.setCell ⟨w.heap.size, 0, none⟩ (.float .f64 a)).setCell ⟨w.heap.size, 1, none⟩ (.float .f64 b)).cell? ⟨w.heap.size, 0, none⟩ = some (.float .f64 a) := hbH3.cell 0
   have b1 : ((w2.setCell ⟨w.heap.size, 0, none⟩ (.float .f64 a)).setCell ⟨w.heap.size, 1, none⟩ (.float .f64 b)).cell? ⟨w.heap.size, 1, none⟩ = some (.float .f64 b) := hbH3.cell 1
   clear hG hE2 hbG hEw hbH
   go_wp2_with fail
   refine (HEM.out _).mono ?_
   rintro e w4 ⟨rfl, hE4⟩
   have hbH4 := hbH3.ext hE4
   have hbG4 := hbG3.ext hE4
   have hEE := hE3.trans hE4
   clear s0 s1 fs0 fs1 hsl b0 b1 hbH3 hbG3 hE3 hE4
   have b0 : w4.cell? ⟨w.heap.size, 0, none⟩ = some (.float .f64 a) := hbH4.cell 0
   have b1 : w4.cell? ⟨w.heap.size, 1, none⟩ = some (.float .f64 b) := hbH4.cell 1
   have hGl := hbG4.lt
   have q0 : w4.cell? ⟨G, 0, none⟩ = some (.float .f64 0) := hbG4.cell 0
   have q1 : w4.cell? ⟨G, 1, none⟩ = some (.float .f64 0) := hbG4.cell 1
   have f0 := hbG4.frozen 0
   have f1 := hbG4.frozen 1
   clear hbH4
   go_wp2_with fail
 · exact bodyPost_ret (v := .agg #[.float .f64 a, .float .f64 b]) (by simp [results, Tryz.results45, go_sem, hGl, q0, q1]) rfl ⟨rfl, (hEE.setCell hGw _).setCell hGw _⟩
 · refine (HTU.out _).mono ?_
   rintro e w5 ⟨rfl, hE5⟩
   have hbG5 := hbG4.ext hE5
   have hEF := hEE.trans hE5
   clear hE5 hEE hbG4 q0 q1 f0 f1 hGl b0 b1
   have hGl := hbG5.lt
   have q0 : w5.cell? ⟨G, 0, none⟩ = some (.float .f64 0) := hbG5.cell 0
   have q1 : w5.cell? ⟨G, 1, none⟩ = some (.float .f64 0) := hbG5.cell 1
   have f0 := hbG5.frozen 0
   have f1 := hbG5.frozen 1
   go_wp2
   exact bodyPost_ret (v := .agg #[.float .f64 r1, .float .f64 r2]) (by simp [results, Tryz.results45, go_sem, hGl, q0, q1]) rfl ⟨rfl, (hEF.setCell hGw _).setCell hGw _⟩
end Go.Proofs.YtbcaggdgoidlaaaGreatDoor

namespace Go.Proofs.YtbcaggdgoidlaaaGreatDoor
open Go.RowKit Nm Rn
set_option maxRecDepth 100000
set_option linter.unusedVariables false
set_option linter.unusedSimpArgs false
theorem lt_key {x y : Nat} (nx : isNaN x = false) (ny : isNaN y = false) : ltB x y = decide (key x < key y) := by unfold ltB; rw [nx, ny]; rfl
theorem eq_key {x y : Nat} (nx : isNaN x = false) (ny : isNaN y = false) : eqB x y = decide (key x = key y) := by unfold eqB; rw [nx, ny]; rfl
theorem le_key {x y : Nat} (nx : isNaN x = false) (ny : isNaN y = false) : leB x y = decide (key x ≤ key y) := by unfold leB; rw [nx, ny]; rfl
theorem max_run {x y : Nat} (hx : x < 18446744073709551616) (hy : y < 18446744073709551616) (nx : isNaN x = false) (ny : isNaN y = false) (h : key x = key y → x = y) (P : Program) (w : World) (ats : Array TypeId) (ty : TypeId) :
   (Builtin.max_ ats ty #[.float .f64 x, .float .f64 y]).run P w = .ok (.float .f64 (if key x < key y then y else x)) w := by
 have h1 := fo_lt hx hy
 have h2 := fo_eq hx hy
 have h3 := fo_gt hx hy
 rw [lt_key nx ny] at h1
 rw [eq_key nx ny] at h2
 rw [lt_key ny nx] at h3
 have hm : (Builtin.max2 (.float .f64 x) (.float .f64 y)).run P w = .ok (.float .f64 (if key x < key y then y else x)) w := by
   rcases Int.lt_trichotomy (key x) (key y) with g | g | g
   · rw [decide_eq_true g] at h1
     rw [if_pos g]
     have e := eq_of_beq h1
     simp only [Builtin.max2, Builtin.min2, e]; rfl
   · rw [decide_eq_true g] at h2
     have e := eq_of_beq h2
     have := h g
     subst this
     rw [if_neg (by omega)]
     simp only [Builtin.max2, Builtin.min2, e, ite_self]; rfl
   · rw [decide_eq_true g] at h3
     rw [if_neg (by omega)]
     have e := eq_of_beq h3
     simp only [Builtin.max2, Builtin.min2, e]; rfl
 unfold Builtin.max_
 simp only [List.foldlM]
 simpa using hm
theorem min_run {x y : Nat} (hx : x < 18446744073709551616) (hy : y < 18446744073709551616) (nx : isNaN x = false) (ny : isNaN y = false) (h : key x = key y → x = y) (P : Program) (w : World) (ats : Array TypeId) (ty : TypeId) :
   (Builtin.min_ ats ty #[.float .f64 x, .float .f64 y]).run P w = .ok (.float .f64 (if key y < key x then y else x)) w := by
 have h1 := fo_lt hx hy
 have h2 := fo_eq hx hy
 have h3 := fo_gt hx hy
 rw [lt_key nx ny] at h1
 rw [eq_key nx ny] at h2
 rw [lt_key ny nx] at h3
 have hm : (Builtin.min2 (.float .f64 x) (.float .f64 y)).run P w = .ok (.float .f64 (if key y < key x then y else x)) w := by
   rcases Int.lt_trichotomy (key x) (key y) with g | g | g
   · rw [decide_eq_true g] at h1
     rw [if_neg (by omega)]
     have e := eq_of_beq h1
     simp only [Builtin.max2, Builtin.min2, e]; rfl
   · rw [decide_eq_true g] at h2
     have e := eq_of_beq h2
     have := h g
     subst this
     rw [if_neg (by omega)]
     simp only [Builtin.max2, Builtin.min2, e, ite_self]; rfl
   · rw [decide_eq_true g] at h3
     rw [if_pos g]
     have e := eq_of_beq h3
     simp only [Builtin.max2, Builtin.min2, e]; rfl
 unfold Builtin.min_
 simp only [List.foldlM]
 simpa using hm
end Go.Proofs.YtbcaggdgoidlaaaGreatDoor

namespace Go.Proofs.YtbcaggdgoidlaaaGreatDoor
open Go.RowKit Nm Rn
set_option maxRecDepth 100000
set_option linter.unusedVariables false
set_option linter.unusedSimpArgs false
end Go.Proofs.YtbcaggdgoidlaaaGreatDoor

namespace Go.Proofs.YtbcaggdgoidlaaaGreatDoor
open Go.RowKit Nm Rn
set_option maxRecDepth 100000
set_option linter.unusedVariables false
set_option linter.unusedSimpArgs false
set_option maxHeartbeats 4000000 in
theorem pabs_E (lo hi a b : Nat) (w : World)
   (HR : Hid (∀ w, Calls Tryz.prog 30 #[.agg #[.float .f64 lo, .float .f64 hi]] w (RetF a b w)))
   (hq : ∀ w, (binOp .eql 32 (.agg #[.float .f64 a, .float .f64 b]) (.agg #[.float .f64 infR, .float .f64 minf])).run Tryz.prog w = .ok (.bool true) w) (c : Bool) :
   Calls Tryz.prog 22 #[.agg #[.float .f64 lo, .float .f64 hi]] w (RetF a b w) := by
 have HEM := Lib.hid (fun w => iempty_any w)
 obtain ⟨I1, hI1⟩ : ∃ I, I = infR := ⟨_, rfl⟩
 obtain ⟨I2, hI2⟩ : ∃ I, I = minf := ⟨_, rfl⟩
 rw [← hI1, ← hI2] at hq HEM
 clear hI1 hI2
 go_enter Tryz.func22, Tryz.ntmps22
 go_wp2_with fail
 refine (HR.out _).mono ?_
 rintro e w2 ⟨rfl, hE2⟩
 have hbH := ((Blk.new w 32 #[.float .f64 lo, .float .f64 hi]).ext ((Ext.refl _).alloc (.cells #[.float .f64 0, .float .f64 0] 32))).ext hE2
 have hbG := (Blk.new2 w (.cells #[.float .f64 lo, .float .f64 hi] 32) 32 #[.float .f64 0, .float .f64 0]).ext hE2
 have hEw : Ext w w2 := (((Ext.refl w).alloc _).alloc _).trans hE2
 have hbH3 := (box_set2 (.float .f64 a) (.float .f64 b) hbH hEw (Nat.le_refl _)).1
 have hE3 := (box_set2 (.float .f64 a) (.float .f64 b) hbH hEw (Nat.le_refl _)).2
 have hbG3 : Blk (((w2).setCell ⟨w.heap.size, 0, none⟩ (.float .f64 a)).setCell ⟨w.heap.size, 1, none⟩ (.float .f64 b)) (w.heap.size + 1) 32 #[.float .f64 0, .float .f64 0] :=
   (hbG.far (by show w.heap.size + 1 ≠ w.heap.size; omega) _).far (by show w.heap.size + 1 ≠ w.heap.size; omega) _
 have s0 : w2.cell? ⟨w.heap.size, 0, none⟩ = some (.float .f64 lo) := hbH.cell 0
 have s1 : w2.cell? ⟨w.heap.size, 1, none⟩ = some (.float .f64 hi) := hbH.cell 1
 have fs0 := hbH.frozen 0
 have fs1 := hbH.frozen 1
 have hsl := hbH.lt
 obtain ⟨G, hG⟩ : ∃ G, G = w.heap.size + 1 := ⟨_, rfl⟩
 rw [← hG] at hbG3
 rw [← hG]
 have hGw : w.heap.size ≤ G := by omega
 clear hG hE2 hbG hEw hbH
 go_wp2_with fail
 clear s0 s1 fs0 fs1 hsl
 obtain ⟨S, hS⟩ : ∃ S : World → Prop, S = fun wz => Blk wz w.heap.size 32 #[.float .f64 a, .float .f64 b] ∧ Blk wz G 32 #[.float .f64 0, .float .f64 0] ∧ Ext w wz := ⟨_, rfl⟩
 have hSE : ∀ w w', S w → Ext w w' → S w' := fun w w' h1 h2 => by rw [hS] at h1 ⊢; exact ⟨h1.1.ext h2, h1.2.1.ext h2, h1.2.2.trans h2⟩
 have hS3 : S (((w2).setCell ⟨w.heap.size, 0, none⟩ (.float .f64 a)).setCell ⟨w.heap.size, 1, none⟩ (.float .f64 b)) := by rw [hS]; exact ⟨hbH3, hbG3, hE3⟩
 clear hbH3 hbG3 hE3
 generalize ((w2).setCell ⟨w.heap.size, 0, none⟩ (.float .f64 a)).setCell ⟨w.heap.size, 1, none⟩ (.float .f64 b) = w3 at hS3 ⊢
 have hS1 : S { w3 with drawn := w3.drawn + 1 } := hSE _ _ hS3 (Ext.refl w3).drew
 have HSS := Lib.hid hS
 have HSE := Lib.hid hSE
 clear hS hSE hS3
 refine wp_region_steady S (by kernel_rfl) (by kernel_rfl) hS1 ?_
 repeat (refine wpG_step (fun K hK => ?_)
         go_simp
         first
         | (refine hK _ ?_
            clear hK K)
         | (apply StepG.mk
            intro wz hz
            have hz' := hz
            rw [HSS.out] at hz'
            have g0 := hz'.1.cell 0
            have g1 := hz'.1.cell 1
            simp only [List.getElem?_toArray, List.getElem?_cons_zero, List.getElem?_cons_succ] at g0 g1
            clear hz'
            go_simp
            first
            | exact ⟨rfl, hz⟩
            | (go_at_call 31; exact (HEM.out _).mono fun e w5 h5 => ⟨h5.1, HSE.out _ _ hz h5.2⟩)
            refine hK _ ?_
            clear hK K))
 refine wpG_nil ?_
 intro w5 hw5
 rw [HSS.out] at hw5
 have hb5 := hw5.1
 have hg5 := hw5.2.1
 have hE5 := hw5.2.2
 clear hw5 hS1 HSE HSS S hq
 have b0 : (w5).cell? ⟨w.heap.size, 0, none⟩ = some (.float .f64 a) := hb5.cell 0
 have b1 : (w5).cell? ⟨w.heap.size, 1, none⟩ = some (.float .f64 b) := hb5.cell 1
 have hGl := hg5.lt
 have q0 : (w5).cell? ⟨G, 0, none⟩ = some (.float .f64 0) := hg5.cell 0
 have q1 : (w5).cell? ⟨G, 1, none⟩ = some (.float .f64 0) := hg5.cell 1
 have f0 := hg5.frozen 0
 have f1 := hg5.frozen 1
 go_wp2_with fail
 exact bodyPost_ret (v := .agg #[.float .f64 a, .float .f64 b]) (by simp [results, Tryz.results22, go_sem, hGl, q0, q1]) rfl ⟨rfl, (hE5.setCell hGw _).setCell hGw _⟩
set_option maxHeartbeats 4000000 in
theorem pabs_c (lo hi a b : Nat) (w : World)
   (HR : Hid (∀ w, Calls Tryz.prog 30 #[.agg #[.float .f64 lo, .float .f64 hi]] w (RetF a b w)))
   (hq : ∀ w, (binOp .eql 32 (.agg #[.float .f64 a, .float .f64 b]) (.agg #[.float .f64 infR, .float .f64 minf])).run Tryz.prog w = .ok (.bool false) w)
   (hge : (FloatKind.f64.format.order a 0 == some .gt || FloatKind.f64.format.order a 0 == some .eq) = true) :
   Calls Tryz.prog 22 #[.agg #[.float .f64 lo, .float .f64 hi]] w (RetF a b w) := by
 have HEM := Lib.hid (fun w => iempty_any w)
 obtain ⟨I1, hI1⟩ : ∃ I, I = infR := ⟨_, rfl⟩
 obtain ⟨I2, hI2⟩ : ∃ I, I = minf := ⟨_, rfl⟩
 rw [← hI1, ← hI2] at hq HEM
 clear hI1 hI2
 go_enter Tryz.func22, Tryz.ntmps22
 go_wp2_with fail
 refine (HR.out _).mono ?_
 rintro e w2 ⟨rfl, hE2⟩
 have hbH := ((Blk.new w 32 #[.float .f64 lo, .float .f64 hi]).ext ((Ext.refl _).alloc (.cells #[.float .f64 0, .float .f64 0] 32))).ext hE2
 have hbG := (Blk.new2 w (.cells #[.float .f64 lo, .float .f64 hi] 32) 32 #[.float .f64 0, .float .f64 0]).ext hE2
 have hEw : Ext w w2 := (((Ext.refl w).alloc _).alloc _).trans hE2
 have hbH3 := (box_set2 (.float .f64 a) (.float .f64 b) hbH hEw (Nat.le_refl _)).1
 have hE3 := (box_set2 (.float .f64 a) (.float .f64 b) hbH hEw (Nat.le_refl _)).2
 have hbG3 : Blk (((w2).setCell ⟨w.heap.size, 0, none⟩ (.float .f64 a)).setCell ⟨w.heap.size, 1, none⟩ (.float .f64 b)) (w.heap.size + 1) 32 #[.float .f64 0, .float .f64 0] :=
   (hbG.far (by show w.heap.size + 1 ≠ w.heap.size; omega) _).far (by show w.heap.size + 1 ≠ w.heap.size; omega) _
 have s0 : w2.cell? ⟨w.heap.size, 0, none⟩ = some (.float .f64 lo) := hbH.cell 0
 have s1 : w2.cell? ⟨w.heap.size, 1, none⟩ = some (.float .f64 hi) := hbH.cell 1
 have fs0 := hbH.frozen 0
 have fs1 := hbH.frozen 1
 have hsl := hbH.lt
 obtain ⟨G, hG⟩ : ∃ G, G = w.heap.size + 1 := ⟨_, rfl⟩
 rw [← hG] at hbG3
 rw [← hG]
 have hGw : w.heap.size ≤ G := by omega
 clear hG hE2 hbG hEw hbH
 go_wp2_with fail
 clear s0 s1 fs0 fs1 hsl
 obtain ⟨S, hS⟩ : ∃ S : World → Prop, S = fun wz => Blk wz w.heap.size 32 #[.float .f64 a, .float .f64 b] ∧ Blk wz G 32 #[.float .f64 0, .float .f64 0] ∧ Ext w wz := ⟨_, rfl⟩
 have hSE : ∀ w w', S w → Ext w w' → S w' := fun w w' h1 h2 => by rw [hS] at h1 ⊢; exact ⟨h1.1.ext h2, h1.2.1.ext h2, h1.2.2.trans h2⟩
 have hS3 : S (((w2).setCell ⟨w.heap.size, 0, none⟩ (.float .f64 a)).setCell ⟨w.heap.size, 1, none⟩ (.float .f64 b)) := by rw [hS]; exact ⟨hbH3, hbG3, hE3⟩
 clear hbH3 hbG3 hE3
 generalize ((w2).setCell ⟨w.heap.size, 0, none⟩ (.float .f64 a)).setCell ⟨w.heap.size, 1, none⟩ (.float .f64 b) = w3 at hS3 ⊢
 have hS1 : S { w3 with drawn := w3.drawn + 1 } := hSE _ _ hS3 (Ext.refl w3).drew
 have HSS := Lib.hid hS
 have HSE := Lib.hid hSE
 clear hS hSE hS3
 refine wp_region_steady S (by kernel_rfl) (by kernel_rfl) hS1 ?_
 repeat (refine wpG_step (fun K hK => ?_)
         go_simp
         first
         | (refine hK _ ?_
            clear hK K)
         | (apply StepG.mk
            intro wz hz
            have hz' := hz
            rw [HSS.out] at hz'
            have g0 := hz'.1.cell 0
            have g1 := hz'.1.cell 1
            simp only [List.getElem?_toArray, List.getElem?_cons_zero, List.getElem?_cons_succ] at g0 g1
            clear hz'
            go_simp
            first
            | exact ⟨rfl, hz⟩
            | (go_at_call 31; exact (HEM.out _).mono fun e w5 h5 => ⟨h5.1, HSE.out _ _ hz h5.2⟩)
            refine hK _ ?_
            clear hK K))
 refine wpG_nil ?_
 intro w5 hw5
 rw [HSS.out] at hw5
 have hb5 := hw5.1
 have hg5 := hw5.2.1
 have hE5 := hw5.2.2
 clear hw5 hS1 HSE HSS S hq
 have b0 : (w5).cell? ⟨w.heap.size, 0, none⟩ = some (.float .f64 a) := hb5.cell 0
 have b1 : (w5).cell? ⟨w.heap.size, 1, none⟩ = some (.float .f64 b) := hb5.cell 1
 have hGl := hg5.lt
 have q0 : (w5).cell? ⟨G, 0, none⟩ = some (.float .f64 0) := hg5.cell 0
 have q1 : (w5).cell? ⟨G, 1, none⟩ = some (.float .f64 0) := hg5.cell 1
 have f0 := hg5.frozen 0
 have f1 := hg5.frozen 1
 go_wp2_with fail
 exact bodyPost_ret (v := .agg #[.float .f64 a, .float .f64 b]) (by simp [results, Tryz.results22, go_sem, hGl, q0, q1]) rfl ⟨rfl, (hE5.setCell hGw _).setCell hGw _⟩
set_option maxHeartbeats 4000000 in
theorem pabs_d (lo hi a b : Nat) (w : World)
   (HR : Hid (∀ w, Calls Tryz.prog 30 #[.agg #[.float .f64 lo, .float .f64 hi]] w (RetF a b w)))
   (hq : ∀ w, (binOp .eql 32 (.agg #[.float .f64 a, .float .f64 b]) (.agg #[.float .f64 infR, .float .f64 minf])).run Tryz.prog w = .ok (.bool false) w)
   (hge : (FloatKind.f64.format.order a 0 == some .gt || FloatKind.f64.format.order a 0 == some .eq) = false)
   (hle : (FloatKind.f64.format.order b 0 == some .lt || FloatKind.f64.format.order b 0 == some .eq) = true)
   (r1 r2 : Nat) (HN : Hid (∀ w, Calls Tryz.prog 45 #[.agg #[.float .f64 a, .float .f64 b]] w (RetF r1 r2 w))) :
   Calls Tryz.prog 22 #[.agg #[.float .f64 lo, .float .f64 hi]] w (RetF r1 r2 w) := by
 have HEM := Lib.hid (fun w => iempty_any w)
 obtain ⟨I1, hI1⟩ : ∃ I, I = infR := ⟨_, rfl⟩
 obtain ⟨I2, hI2⟩ : ∃ I, I = minf := ⟨_, rfl⟩
 rw [← hI1, ← hI2] at hq HEM
 clear hI1 hI2
 go_enter Tryz.func22, Tryz.ntmps22
 go_wp2_with fail
 refine (HR.out _).mono ?_
 rintro e w2 ⟨rfl, hE2⟩
 have hbH := ((Blk.new w 32 #[.float .f64 lo, .float .f64 hi]).ext ((Ext.refl _).alloc (.cells #[.float .f64 0, .float .f64 0] 32))).ext hE2
 have hbG := (Blk.new2 w (.cells #[.float .f64 lo, .float .f64 hi] 32) 32 #[.float .f64 0, .float .f64 0]).ext hE2
 have hEw : Ext w w2 := (((Ext.refl w).alloc _).alloc _).trans hE2
 have hbH3 := (box_set2 (.float .f64 a) (.float .f64 b) hbH hEw (Nat.le_refl _)).1
 have hE3 := (box_set2 (.float .f64 a) (.float .f64 b) hbH hEw (Nat.le_refl _)).2
 have hbG3 : Blk (((w2).setCell ⟨w.heap.size, 0, none⟩ (.float .f64 a)).setCell ⟨w.heap.size, 1, none⟩ (.float .f64 b)) (w.heap.size + 1) 32 #[.float .f64 0, .float .f64 0] :=
   (hbG.far (by show w.heap.size + 1 ≠ w.heap.size; omega) _).far (by show w.heap.size + 1 ≠ w.heap.size; omega) _
 have s0 : w2.cell? ⟨w.heap.size, 0, none⟩ = some (.float .f64 lo) := hbH.cell 0
 have s1 : w2.cell? ⟨w.heap.size, 1, none⟩ = some (.float .f64 hi) := hbH.cell 1
 have fs0 := hbH.frozen 0
 have fs1 := hbH.frozen 1
 have hsl := hbH.lt
 obtain ⟨G, hG⟩ : ∃ G, G = w.heap.size + 1 := ⟨_, rfl⟩
 rw [← hG] at hbG3
 rw [← hG]
 have hGw : w.heap.size ≤ G := by omega
 clear hG hE2 hbG hEw hbH
 go_wp2_with fail
 clear s0 s1 fs0 fs1 hsl
 obtain ⟨S, hS⟩ : ∃ S : World → Prop, S = fun wz => Blk wz w.heap.size 32 #[.float .f64 a, .float .f64 b] ∧ Blk wz G 32 #[.float .f64 0, .float .f64 0] ∧ Ext w wz := ⟨_, rfl⟩
 have hSE : ∀ w w', S w → Ext w w' → S w' := fun w w' h1 h2 => by rw [hS] at h1 ⊢; exact ⟨h1.1.ext h2, h1.2.1.ext h2, h1.2.2.trans h2⟩
 have hS3 : S (((w2).setCell ⟨w.heap.size, 0, none⟩ (.float .f64 a)).setCell ⟨w.heap.size, 1, none⟩ (.float .f64 b)) := by rw [hS]; exact ⟨hbH3, hbG3, hE3⟩
 clear hbH3 hbG3 hE3
 generalize ((w2).setCell ⟨w.heap.size, 0, none⟩ (.float .f64 a)).setCell ⟨w.heap.size, 1, none⟩ (.float .f64 b) = w3 at hS3 ⊢
 have hS1 : S { w3 with drawn := w3.drawn + 1 } := hSE _ _ hS3 (Ext.refl w3).drew
 have HSS := Lib.hid hS
 have HSE := Lib.hid hSE
 clear hS hSE hS3
 refine wp_region_steady S (by kernel_rfl) (by kernel_rfl) hS1 ?_
 repeat (refine wpG_step (fun K hK => ?_)
         go_simp
         first
         | (refine hK _ ?_
            clear hK K)
         | (apply StepG.mk
            intro wz hz
            have hz' := hz
            rw [HSS.out] at hz'
            have g0 := hz'.1.cell 0
            have g1 := hz'.1.cell 1
            simp only [List.getElem?_toArray, List.getElem?_cons_zero, List.getElem?_cons_succ] at g0 g1
            clear hz'
            go_simp
            first
            | exact ⟨rfl, hz⟩
            | (go_at_call 31; exact (HEM.out _).mono fun e w5 h5 => ⟨h5.1, HSE.out _ _ hz h5.2⟩)
            refine hK _ ?_
            clear hK K))
 refine wpG_nil ?_
 intro w5 hw5
 rw [HSS.out] at hw5
 have hb5 := hw5.1
 have hg5 := hw5.2.1
 have hE5 := hw5.2.2
 clear hw5 hS1 HSE HSS S hq
 have b0 : (w5).cell? ⟨w.heap.size, 0, none⟩ = some (.float .f64 a) := hb5.cell 0
 have b1 : (w5).cell? ⟨w.heap.size, 1, none⟩ = some (.float .f64 b) := hb5.cell 1
 have hGl := hg5.lt
 have q0 : (w5).cell? ⟨G, 0, none⟩ = some (.float .f64 0) := hg5.cell 0
 have q1 : (w5).cell? ⟨G, 1, none⟩ = some (.float .f64 0) := hg5.cell 1
 have f0 := hg5.frozen 0
 have f1 := hg5.frozen 1
 go_wp2_with fail
 refine (HN.out _).mono ?_
 rintro e w6 ⟨rfl, hE6⟩
 have hg6 := hg5.ext hE6
 have hE7 := hE5.trans hE6
 clear b0 b1 q0 q1 f0 f1 hGl hb5 hg5 hE5 hE6
 have hGl := hg6.lt
 have q0 : w6.cell? ⟨G, 0, none⟩ = some (.float .f64 0) := hg6.cell 0
 have q1 : w6.cell? ⟨G, 1, none⟩ = some (.float .f64 0) := hg6.cell 1
 have f0 := hg6.frozen 0
 have f1 := hg6.frozen 1
 go_wp2_with fail
 exact bodyPost_ret (v := .agg #[.float .f64 r1, .float .f64 r2]) (by simp [results, Tryz.results22, go_sem, hGl, q0, q1]) rfl ⟨rfl, (hE7.setCell hGw _).setCell hGw _⟩
set_option maxHeartbeats 4000000 in
theorem pabs_m (lo hi a b : Nat) (w : World)
   (HR : Hid (∀ w, Calls Tryz.prog 30 #[.agg #[.float .f64 lo, .float .f64 hi]] w (RetF a b w)))
   (hq : ∀ w, (binOp .eql 32 (.agg #[.float .f64 a, .float .f64 b]) (.agg #[.float .f64 infR, .float .f64 minf])).run Tryz.prog w = .ok (.bool false) w)
   (hge : (FloatKind.f64.format.order a 0 == some .gt || FloatKind.f64.format.order a 0 == some .eq) = false)
   (hle : (FloatKind.f64.format.order b 0 == some .lt || FloatKind.f64.format.order b 0 == some .eq) = false)
   (na m : Nat) (u1 : ∀ w, (Go.Op.unary .neg (.float .f64 a)).run Tryz.prog w = .ok (.float .f64 na) w) (hmx : ∀ ats ty w, (Builtin.max_ ats ty #[.float .f64 na, .float .f64 b]).run Tryz.prog w = .ok (.float .f64 m) w) :
   Calls Tryz.prog 22 #[.agg #[.float .f64 lo, .float .f64 hi]] w (RetF 0 m w) := by
 have HEM := Lib.hid (fun w => iempty_any w)
 obtain ⟨I1, hI1⟩ : ∃ I, I = infR := ⟨_, rfl⟩
 obtain ⟨I2, hI2⟩ : ∃ I, I = minf := ⟨_, rfl⟩
 rw [← hI1, ← hI2] at hq HEM
 clear hI1 hI2
 go_enter Tryz.func22, Tryz.ntmps22
 go_wp2_with fail
 refine (HR.out _).mono ?_
 rintro e w2 ⟨rfl, hE2⟩
 have hbH := ((Blk.new w 32 #[.float .f64 lo, .float .f64 hi]).ext ((Ext.refl _).alloc (.cells #[.float .f64 0, .float .f64 0] 32))).ext hE2
 have hbG := (Blk.new2 w (.cells #[.float .f64 lo, .float .f64 hi] 32) 32 #[.float .f64 0, .float .f64 0]).ext hE2
 have hEw : Ext w w2 := (((Ext.refl w).alloc _).alloc _).trans hE2
 have hbH3 := (box_set2 (.float .f64 a) (.float .f64 b) hbH hEw (Nat.le_refl _)).1
 have hE3 := (box_set2 (.float .f64 a) (.float .f64 b) hbH hEw (Nat.le_refl _)).2
 have hbG3 : Blk (((w2).setCell ⟨w.heap.size, 0, none⟩ (.float .f64 a)).setCell ⟨w.heap.size, 1, none⟩ (.float .f64 b)) (w.heap.size + 1) 32 #[.float .f64 0, .float .f64 0] :=
   (hbG.far (by show w.heap.size + 1 ≠ w.heap.size; omega) _).far (by show w.heap.size + 1 ≠ w.heap.size; omega) _
 have s0 : w2.cell? ⟨w.heap.size, 0, none⟩ = some (.float .f64 lo) := hbH.cell 0
 have s1 : w2.cell? ⟨w.heap.size, 1, none⟩ = some (.float .f64 hi) := hbH.cell 1
 have fs0 := hbH.frozen 0
 have fs1 := hbH.frozen 1
 have hsl := hbH.lt
 obtain ⟨G, hG⟩ : ∃ G, G = w.heap.size + 1 := ⟨_, rfl⟩
 rw [← hG] at hbG3
 rw [← hG]
 have hGw : w.heap.size ≤ G := by omega
 clear hG hE2 hbG hEw hbH
 go_wp2_with fail
 clear s0 s1 fs0 fs1 hsl
 obtain ⟨S, hS⟩ : ∃ S : World → Prop, S = fun wz => Blk wz w.heap.size 32 #[.float .f64 a, .float .f64 b] ∧ Blk wz G 32 #[.float .f64 0, .float .f64 0] ∧ Ext w wz := ⟨_, rfl⟩
 have hSE : ∀ w w', S w → Ext w w' → S w' := fun w w' h1 h2 => by rw [hS] at h1 ⊢; exact ⟨h1.1.ext h2, h1.2.1.ext h2, h1.2.2.trans h2⟩
 have hS3 : S (((w2).setCell ⟨w.heap.size, 0, none⟩ (.float .f64 a)).setCell ⟨w.heap.size, 1, none⟩ (.float .f64 b)) := by rw [hS]; exact ⟨hbH3, hbG3, hE3⟩
 clear hbH3 hbG3 hE3
 generalize ((w2).setCell ⟨w.heap.size, 0, none⟩ (.float .f64 a)).setCell ⟨w.heap.size, 1, none⟩ (.float .f64 b) = w3 at hS3 ⊢
 have hS1 : S { w3 with drawn := w3.drawn + 1 } := hSE _ _ hS3 (Ext.refl w3).drew
 have HSS := Lib.hid hS
 have HSE := Lib.hid hSE
 clear hS hSE hS3
 refine wp_region_steady S (by kernel_rfl) (by kernel_rfl) hS1 ?_
 repeat (refine wpG_step (fun K hK => ?_)
         go_simp
         first
         | (refine hK _ ?_
            clear hK K)
         | (apply StepG.mk
            intro wz hz
            have hz' := hz
            rw [HSS.out] at hz'
            have g0 := hz'.1.cell 0
            have g1 := hz'.1.cell 1
            simp only [List.getElem?_toArray, List.getElem?_cons_zero, List.getElem?_cons_succ] at g0 g1
            clear hz'
            go_simp
            first
            | exact ⟨rfl, hz⟩
            | (go_at_call 31; exact (HEM.out _).mono fun e w5 h5 => ⟨h5.1, HSE.out _ _ hz h5.2⟩)
            refine hK _ ?_
            clear hK K))
 refine wpG_nil ?_
 intro w5 hw5
 rw [HSS.out] at hw5
 have hb5 := hw5.1
 have hg5 := hw5.2.1
 have hE5 := hw5.2.2
 clear hw5 hS1 HSE HSS S hq
 have b0 : (w5).cell? ⟨w.heap.size, 0, none⟩ = some (.float .f64 a) := hb5.cell 0
 have b1 : (w5).cell? ⟨w.heap.size, 1, none⟩ = some (.float .f64 b) := hb5.cell 1
 have hGl := hg5.lt
 have q0 : (w5).cell? ⟨G, 0, none⟩ = some (.float .f64 0) := hg5.cell 0
 have q1 : (w5).cell? ⟨G, 1, none⟩ = some (.float .f64 0) := hg5.cell 1
 have f0 := hg5.frozen 0
 have f1 := hg5.frozen 1
 go_wp2_with fail
 exact bodyPost_ret (v := .agg #[.float .f64 0, .float .f64 m]) (by simp [results, Tryz.results22, go_sem, hGl, q0, q1]) rfl ⟨rfl, (hE5.setCell hGw _).setCell hGw _⟩
end Go.Proofs.YtbcaggdgoidlaaaGreatDoor

namespace Go.Proofs.YtbcaggdgoidlaaaGreatDoor
open Go.RowKit Nm Rn
set_option maxRecDepth 100000
set_option linter.unusedVariables false
set_option linter.unusedSimpArgs false
theorem plain_ne {x : Nat} (h : plN x = x) : x ≠ 9223372036854775808 := by
 intro e; subst e
 have : plN 9223372036854775808 = 0 := rfl
 omega
theorem pl_self {x : Nat} (h : x ≠ 9223372036854775808) : pl x = x := by unfold pl; rw [if_neg h]
theorem key_inj {x y : Nat} (hx : x < 18446744073709551616) (hy : y < 18446744073709551616) (px : x ≠ 9223372036854775808) (py : y ≠ 9223372036854775808) (h : key x = key y) : x = y := by
 revert h
 unfold key sg mg
 split <;> split <;> rename_i h1 h2 <;> simp only [decide_eq_true_eq] at h1 h2 <;> (intro h; omega)
theorem ng_mg {x : Nat} (hx : x < 18446744073709551616) (h : key x < 0) : ng x = mg x ∧ mg x ≠ 9223372036854775808 := by
 revert h; unfold key ng
 cases hs : sg x
 · intro h; rw [if_neg (by simp)] at h; omega
 · intro _
   have := of_decide_eq_true hs
   rw [if_pos rfl]; unfold mg; omega
theorem rd_rd {lo hi : Nat} (hl : lo < 18446744073709551616) (hh : hi < 18446744073709551616) (h : ¬ (rdLo lo hi = infR ∧ rdHi lo hi = minf)) :
   rdLo (rdLo lo hi) (rdHi lo hi) = rdLo lo hi ∧ rdHi (rdLo lo hi) (rdHi lo hi) = rdHi lo hi := by
 obtain ⟨g1, g2, g3, g4, g5, g6, g7, g8⟩ := rd_ends hl hh h
 have p1 := plain_ne (rdLo_pl lo hi)
 have p2 := plain_ne (rdHi_pl lo hi)
 generalize rdLo lo hi = p at *
 generalize rdHi lo hi = q at *
 have r1 := key_le g3
 have r2 := key_le g4
 have i1 := key_eq_inf g1 g3
 have i2 := key_eq_minf g2 g4
 have hs : sndB p q = true := by
   unfold sndB leB ltB
   rw [g3, g4, nan_inf, nan_minf, key_inf, key_minf]
   simp only [Bool.not_false, Bool.true_and, Bool.and_eq_true, decide_eq_true_eq]
   refine ⟨⟨g8, ?_⟩, ?_⟩ <;> omega
 unfold rdLo rdHi
 rw [hs, if_pos rfl, if_pos rfl, pl_self p1, pl_self p2]
 exact ⟨rfl, rfl⟩
set_option maxHeartbeats 2000000 in
theorem pabs_any (lo hi : Nat) (w : World) (hl : lo < 18446744073709551616) (hh : hi < 18446744073709551616) :
   Calls Tryz.prog 22 #[.agg #[.float .f64 lo, .float .f64 hi]] w (RetF (abLo lo hi) (abHi lo hi) w) := by
 have eLo : abLo lo hi = if rdLo lo hi = infR ∧ rdHi lo hi = minf then infR else pl (szLo (rdLo lo hi) (rdHi lo hi)) := rfl
 have eHi : abHi lo hi = if rdLo lo hi = infR ∧ rdHi lo hi = minf then minf else pl (szHi (rdLo lo hi) (rdHi lo hi)) := rfl
 have HR := Lib.hid (fun w => iread_any lo hi w hl hh)
 by_cases he : rdLo lo hi = infR ∧ rdHi lo hi = minf
 · rw [eLo, eHi, if_pos he, if_pos he]
   rw [he.1, he.2] at HR
   exact pabs_E lo hi infR minf w HR (eqF' infR_lt minf_lt infR_lt minf_lt rfl) true
 · rw [eLo, eHi, if_neg he, if_neg he]
   obtain ⟨g1, g2, g3, g4, g5, g6, g7, g8⟩ := rd_ends hl hh he
   have p1 := plain_ne (rdLo_pl lo hi)
   have p2 := plain_ne (rdHi_pl lo hi)
   have hrr := rd_rd hl hh he
   have hng : ngLo (rdLo lo hi) (rdHi lo hi) = pl (ng (rdHi lo hi)) ∧ ngHi (rdLo lo hi) (rdHi lo hi) = pl (ng (rdLo lo hi)) := by
     unfold ngLo ngHi
     rw [hrr.1, hrr.2, if_neg he, if_neg he]
     exact ⟨rfl, rfl⟩
   clear eLo eHi hrr g7
   generalize rdLo lo hi = p at *
   generalize rdHi lo hi = q at *
   have hq := eqF' (E := false) g1 g2 infR_lt minf_lt (by
     rw [eq_key g3 nan_inf, eq_key g4 nan_minf, key_inf, key_minf, Bool.and_eq_false_iff, decide_eq_false_iff_not, decide_eq_false_iff_not, key_eq_inf g1 g3]
     exact .inl g5)
   have z0 : (0 : Nat) < 18446744073709551616 := by omega
   have n0 : isNaN 0 = false := rfl
   have k0 : key 0 = 0 := rfl
   have hge := fo_ge g1 z0
   have hle := fo_le g2 z0
   rw [le_key n0 g3, k0] at hge
   rw [le_key g4 n0, k0] at hle
   have kp := @mx_key p
   have kq := @mx_key q
   have sHi : szHi p q = if key (mx q) < key (mx p) then mx p else mx q := rfl
   have sLo : szLo p q = if key p ≤ 0 ∧ 0 ≤ key q then 0 else if key (mx q) < key (mx p) then mx q else mx p := rfl
   by_cases c1 : 0 ≤ key p
   · rw [decide_eq_true c1] at hge
     have m1 : mx p = p := by unfold mx; rw [if_neg (by omega)]
     have m2 : mx q = q := by unfold mx; rw [if_neg (by omega)]
     rw [m1, m2] at sHi sLo
     have r1 : pl (szLo p q) = p := by
       rw [sLo, if_neg (c := key q < key p) (by omega)]
       split
       · rename_i g
         have : p = 0 := key_inj g1 z0 p1 (by omega) (by omega)
         rw [this]; rfl
       · exact pl_self p1
     have r2 : pl (szHi p q) = q := by rw [sHi, if_neg (by omega)]; exact pl_self p2
     rw [r1, r2]
     exact pabs_c lo hi p q w HR hq hge
   · rw [decide_eq_false c1] at hge
     have hn1 := ng_mg g1 (by omega)
     have m1 : mx p = ng p := by unfold mx; rw [if_pos (by omega), hn1.1]
     have kp' : key (ng p) = -key p := key_ng g1
     rw [m1] at sHi sLo
     by_cases c2 : key q ≤ 0
     · rw [decide_eq_true c2] at hle
       have hN := fun w => ineg_any p q w g1 g2
       rw [hng.1, hng.2] at hN
       have r12 : pl (szLo p q) = pl (ng q) ∧ pl (szHi p q) = pl (ng p) := by
         by_cases c3 : key q = 0
         · have e : q = 0 := key_inj g2 z0 p2 (by omega) (by omega)
           subst e
           have m2 : mx 0 = 0 := rfl
           rw [m2] at sHi sLo
           rw [sLo, sHi, if_pos ⟨by omega, by omega⟩, if_pos (by omega)]
           exact ⟨rfl, rfl⟩
         · have hn2 := ng_mg g2 (by omega)
           have m2 : mx q = ng q := by unfold mx; rw [if_pos (by omega), hn2.1]
           have kq' : key (ng q) = -key q := key_ng g2
           rw [m2] at sHi sLo
           rw [sLo, sHi, if_neg (fun h => by omega)]
           by_cases c4 : key (ng q) < key (ng p)
           · rw [if_pos c4, if_pos c4]; exact ⟨rfl, rfl⟩
           · have e : p = q := key_inj g1 g2 p1 p2 (by omega)
             rw [if_neg c4, if_neg c4, e]; exact ⟨rfl, rfl⟩
       rw [r12.1, r12.2]
       exact pabs_d lo hi p q w HR hq hge hle _ _ (Lib.hid hN)
     · rw [decide_eq_false c2] at hle
       have m2 : mx q = q := by unfold mx; rw [if_neg (by omega)]
       rw [m2] at sHi sLo
       have nn : isNaN (ng p) = false := by
         have h3 := g3
         unfold isNaN at h3 ⊢; rw [mg_ng g1]; exact h3
       have pn : ng p ≠ 9223372036854775808 := by rw [hn1.1]; exact hn1.2
       have r1 : pl (szLo p q) = 0 := by rw [sLo, if_pos ⟨by omega, by omega⟩]; rfl
       have r2 : pl (szHi p q) = if key (ng p) < key q then q else ng p := by
         rw [sHi]
         by_cases c4 : key q < key (ng p)
         · rw [if_pos c4, if_neg (by omega)]; exact pl_self pn
         · rw [if_neg c4]
           by_cases c5 : key (ng p) < key q
           · rw [if_pos c5]; exact pl_self p2
           · rw [if_neg c5, pl_self p2]
             exact key_inj g2 (ng_lt g1) p2 pn (by omega)
       rw [r1, r2]
       have hmx := fun ats ty w => max_run (ng_lt g1) g2 nn g4 (fun h => key_inj (ng_lt g1) g2 pn p2 h) Tryz.prog w ats ty
       have u1 : ∀ w, (Go.Op.unary .neg (.float .f64 p)).run Tryz.prog w = .ok (.float .f64 (ng p)) w := by
         intro w
         have : Go.Op.negFloat .f64 p = ng p := ng_xor g1
         rw [← this]; rfl
       exact pabs_m lo hi p q w HR hq hge hle _ _ u1 hmx
end Go.Proofs.YtbcaggdgoidlaaaGreatDoor
