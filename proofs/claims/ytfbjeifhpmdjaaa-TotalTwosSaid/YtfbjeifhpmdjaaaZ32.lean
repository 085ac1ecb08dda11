/-
  The contract of the program's FMA. Conditions: those that each theorem names.
-/
import Derived.Test.YtfbjeifhpmdjaaaZ31
import Derived.Test.YtfbjeifhpmdjaaaZ09
import Derived.Test.YtfbjeifhpmdjaaaZ11
namespace Go.Proofs.Ytfbjeifhpmdjaaa
open Go.RowKit Nm Rn
set_option maxRecDepth 100000
set_option linter.unusedVariables false
set_option linter.unusedSimpArgs false

theorem eq0Z {e : Nat} {E : Int} (h : Fl e E) : eqB e 0 = decide (E = 0) := h.eqB Fl.zero
theorem lt_small {s : Nat} (hs : s < 18446744073709551616) (hf : mg s < infR) : ltB (mg s) 553942754166571008 = decide (rv (mg s) < Ks) := by
  rw [ltB_pos (by omega) (by rw [infR_val]; omega), ← rv_small_]
  exact decide_eq_decide.2 rv_lt_iff.symm
theorem fl_mag {e : Nat} {E : Int} (h : Fl e E) : Fl (mg e) (E.natAbs : Int) := by
  have hm : mg (mg e) = mg e := by unfold mg; omega
  have := Fl.of (b := mg e) (by have := mg_lt e; omega) (by rw [hm]; exact h.fin)
  have e1 : sv (mg e) = (E.natAbs : Int) := by
    unfold sv
    rw [hm, show sg (mg e) = false by unfold sg; exact decide_eq_false (by have := mg_lt e; omega), h.abs]
    simp
  rwa [e1] at this

theorem four_cases {b1 b2 b3 b4 : Bool} (h : ¬ (b1 = true ∧ b2 = true ∧ b3 = true ∧ b4 = false)) : b1 = false ∨ (b1 = true ∧ b2 = false) ∨ (b1 = true ∧ b2 = true ∧ b3 = false) ∨ (b1 = true ∧ b2 = true ∧ b3 = true ∧ b4 = true) := by
  cases b1 <;> cases b2 <;> cases b3 <;> cases b4 <;> simp_all

set_option maxHeartbeats 2000000 in
theorem rfma_odd (d : Int) (x y z : Nat) (w : World) (hx : x < 18446744073709551616) (hy : y < 18446744073709551616) (hz : z < 18446744073709551616) (ho : (oddF x || oddF y) = true) :
    Calls Try.prog 41 #[.int .i64 d, .float .f64 x, .float .f64 y, .float .f64 z] w (RetFl (addR d (mulR d x y) z) w) := by
  have hE0 : Ext w (w.alloc (.cells #[.float .f64 x, .float .f64 y] 28)) := (Ext.refl w).alloc _
  have hc0 : (w.alloc (.cells #[.float .f64 x, .float .f64 y] 28)).cell? ⟨w.heap.size, 0, none⟩ = some (.float .f64 x) := by simp
  have hc1 : (w.alloc (.cells #[.float .f64 x, .float .f64 y] 28)).cell? ⟨w.heap.size, 1, none⟩ = some (.float .f64 y) := by simp
  have HO := Lib.hid (fun g w c0 c1 => odd_two g x y w c0 c1 hx hy)
  rw [ho] at HO
  have hm := mul_odd hx hy ho
  obtain ⟨V, hV⟩ : ∃ V, V = addR d (mulR d x y) z := ⟨_, rfl⟩
  rw [← hV]
  rcases hm with ⟨hm, hr⟩ | ⟨s, hm, hr⟩
  · rw [hr, addR_nan d NaNc_nan] at hV
    have HV := Lib.hid hV
    have hrun := fun w => run_nan (op := .mul) (x := x) (y := y) hm (by simp) w
    have hrun2 := fun v w => run_nan (op := .add) (x := nanOf v x y) (y := z) (add_nan (nanOf_lt v x y) (nanOf_nan v x y)) (by simp) w
    clear ho hm hr hV hx hy hz
    go_enter Try.func41, Try.ntmps41
    go_wp2
    go_step3
    go_wp2_with (go_at_call 75; ((with_reducible refine (HO.out _ _ hc0 hc1).mono ?_); rintro e w' ⟨rfl, rfl⟩))
    rw [Exit.noGoto_ret]
    go_ret
    exact ⟨_, rfl, nanOf_lt _ _ _, by rw [cn_nan (nanOf_nan _ _ _)]; exact HV.out.symm, hE0.drew.drew⟩
  · rw [hr] at hV
    have hrun := fun w => fmul hm w
    have ha := add_odd (x := infP s) (y := z) (infP_lt s) hz (by cases s <;> rfl)
    rcases ha with ⟨ha, hr2⟩ | ⟨s2, ha, hr2⟩
    · rw [hr2] at hV
      have HV := Lib.hid hV
      have hrun2 := fun w => run_nan (op := .add) (x := infP s) (y := z) ha (by simp) w
      clear ho hm hr hV hx hy hz ha hr2
      go_enter Try.func41, Try.ntmps41
      go_wp2
      go_step3
      go_wp2_with (go_at_call 75; ((with_reducible refine (HO.out _ _ hc0 hc1).mono ?_); rintro e w' ⟨rfl, rfl⟩))
      rw [Exit.noGoto_ret]
      go_ret
      exact ⟨_, rfl, nanOf_lt _ _ _, by rw [cn_nan (nanOf_nan _ _ _)]; exact HV.out.symm, hE0.drew⟩
    · rw [hr2] at hV
      have HV := Lib.hid hV
      have hrun2 := fun w => fadd ha w
      clear ho hm hr hV hx hy hz ha hr2
      go_enter Try.func41, Try.ntmps41
      go_wp2
      go_step3
      go_wp2_with (go_at_call 75; ((with_reducible refine (HO.out _ _ hc0 hc1).mono ?_); rintro e w' ⟨rfl, rfl⟩))
      rw [Exit.noGoto_ret]
      go_ret
      exact ⟨_, rfl, infP_lt s2, by rw [cn_infP]; exact HV.out.symm, hE0⟩

set_option maxHeartbeats 2000000 in
theorem rfma_oddz (d : Int) (x y z : Nat) (w : World) (hx : x < 18446744073709551616) (hy : y < 18446744073709551616) (hz : z < 18446744073709551616) (ho : (oddF x || oddF y) = false) (hoz : oddF z = true) :
    Calls Try.prog 41 #[.int .i64 d, .float .f64 x, .float .f64 y, .float .f64 z] w fun e w' => e = .returned (.float .f64 z) ∧ Ext w w' := by
  have hE0 : Ext w (w.alloc (.cells #[.float .f64 x, .float .f64 y] 28)) := (Ext.refl w).alloc _
  have hc0 : (w.alloc (.cells #[.float .f64 x, .float .f64 y] 28)).cell? ⟨w.heap.size, 0, none⟩ = some (.float .f64 x) := by simp
  have hc1 : (w.alloc (.cells #[.float .f64 x, .float .f64 y] 28)).cell? ⟨w.heap.size, 1, none⟩ = some (.float .f64 y) := by simp
  have HO := Lib.hid (fun g w c0 c1 => odd_two g x y w c0 c1 hx hy)
  rw [ho] at HO
  obtain ⟨wa, hwa⟩ : ∃ wa, wa = w.alloc (.cells #[.float .f64 x, .float .f64 y] 28) := ⟨_, rfl⟩
  have hz0 : (wa.alloc (.cells #[.float .f64 z] 28)).cell? ⟨wa.heap.size, 0, none⟩ = some (.float .f64 z) := by simp
  have hE1 : Ext w (wa.alloc (.cells #[.float .f64 z] 28)) := by rw [hwa]; exact hE0.alloc _
  rw [hwa] at hz0 hE1
  clear hwa
  rw [show (w.alloc (.cells #[.float .f64 x, .float .f64 y] 28)).heap.size = w.heap.size + 1 by simp] at hz0
  have HZ := Lib.hid (fun g w c0 => odd_one g z w c0 hz)
  rw [hoz] at HZ
  clear ho hoz hx hy hz
  go_enter Try.func41, Try.ntmps41
  go_wp2
  go_step3
  go_wp2_with (first | (go_at_call 75; ((with_reducible refine (HO.out _ _ hc0 hc1).mono ?_); rintro e w' ⟨rfl, rfl⟩)) | (go_at_call 75; ((with_reducible refine (HZ.out _ _ hz0).mono ?_); rintro e w' ⟨rfl, rfl⟩)))
  rw [Exit.noGoto_ret]
  go_ret
  exact ⟨rfl, hE1⟩

set_option maxHeartbeats 8000000 in
theorem rfma_far (d : Int) (x y z : Nat) (w : World) (hx : x < 18446744073709551616) (hy : y < 18446744073709551616) (hz : z < 18446744073709551616) (ho : (oddF x || oddF y) = false) (hoz : oddF z = false) (hb : ¬ (midB x = true ∧ midB y = true ∧ midB (Ieee.double.word (sg x ^^ sg y) (near (zq (rv (mg x) * rv (mg y)) (2 ^ 1073)))) = true ∧ grB z = false)) :
    Calls Try.prog 41 #[.int .i64 d, .float .f64 x, .float .f64 y, .float .f64 z] w fun e w' => e = .returned (.float .f64 (rT d (sv x * sv y + sv z * (K74 : Int)))) ∧ Ext w w' := by
  have hE0 : Ext w (w.alloc (.cells #[.float .f64 x, .float .f64 y] 28)) := (Ext.refl w).alloc _
  have hc0 : (w.alloc (.cells #[.float .f64 x, .float .f64 y] 28)).cell? ⟨w.heap.size, 0, none⟩ = some (.float .f64 x) := by simp
  have hc1 : (w.alloc (.cells #[.float .f64 x, .float .f64 y] 28)).cell? ⟨w.heap.size, 1, none⟩ = some (.float .f64 y) := by simp
  have HO := Lib.hid (fun g w c0 c1 => odd_two g x y w c0 c1 hx hy)
  rw [ho] at HO
  obtain ⟨wa, hwa⟩ : ∃ wa, wa = w.alloc (.cells #[.float .f64 x, .float .f64 y] 28) := ⟨_, rfl⟩
  have hz0 : (wa.alloc (.cells #[.float .f64 z] 28)).cell? ⟨wa.heap.size, 0, none⟩ = some (.float .f64 z) := by simp
  have hE1 : Ext w (wa.alloc (.cells #[.float .f64 z] 28)) := by rw [hwa]; exact hE0.alloc _
  rw [hwa] at hz0 hE1
  clear hwa
  rw [show (w.alloc (.cells #[.float .f64 x, .float .f64 y] 28)).heap.size = w.heap.size + 1 by simp] at hz0
  have HZ := Lib.hid (fun g w c0 => odd_one g z w c0 hz)
  rw [hoz] at HZ
  rw [Bool.or_eq_false_iff] at ho
  have fx := oddF_fin ho.1
  have fy := oddF_fin ho.2
  have fz := oddF_fin hoz
  have hm := mul_fin hx hy fx fy
  obtain ⟨p, hp⟩ : ∃ p, p = Ieee.double.word (sg x ^^ sg y) (near (zq (rv (mg x) * rv (mg y)) (2 ^ 1073))) := ⟨_, rfl⟩
  rw [← hp] at hm
  have hnl := near_lt' (zq (rv (mg x) * rv (mg y)) (2 ^ 1073))
  have hpl : p < 18446744073709551616 := by rw [hp]; exact word_lt hnl
  have hpi : mg p ≤ infR := by rw [hp, mg_word hnl]; exact near_le _
  have hrun := fun w => fmul hm w
  have HMX := Lib.hid (fun w => middle_any x w hx (by omega))
  have HMY := Lib.hid (fun w => middle_any y w hy (by omega))
  have HMP := Lib.hid (fun w => middle_any p w hpl hpi)
  have HAZ := Lib.hid (fun w => mabs_any z w hz)
  have q1 := fo_gt (mg_lt64 z) (show 8660422083433463808 < 18446744073709551616 by omega)
  have q1' : ltB 8660422083433463808 (mg z) = grB z := rfl
  rw [q1'] at q1
  obtain ⟨V, hV⟩ : ∃ V, V = rT d (sv x * sv y + sv z * (K74 : Int)) := ⟨_, rfl⟩
  rw [← hV]
  clear q1'
  rw [← hp] at hb
  obtain ⟨b1, hb1⟩ : ∃ b, b = midB x := ⟨_, rfl⟩
  obtain ⟨b2, hb2⟩ : ∃ b, b = midB y := ⟨_, rfl⟩
  obtain ⟨b3, hb3⟩ : ∃ b, b = midB p := ⟨_, rfl⟩
  obtain ⟨b4, hb4⟩ : ∃ b, b = grB z := ⟨_, rfl⟩
  rw [← hb1] at HMX hb
  rw [← hb2] at HMY hb
  rw [← hb3] at HMP hb
  rw [← hb4] at q1 hb
  have HPX := Lib.hid (fun w => part_any x w hx)
  have HPY := Lib.hid (fun w => part_any y w hy)
  have HPZ := Lib.hid (fun w => part_any z w hz)
  have HPR := Lib.hid (fun A n c B m e w h k => product_any (sg x) (sg y) A n c (nd (fbSig x)) (fbExp x) B m e (nd (fbSig y)) (fbExp y) w h (by have := h.len; rw [nd_length] at this; have := fbSig_nw x; omega) k (by have := k.len; rw [nd_length] at this; have := fbSig_nw y; omega) (by rw [nv_nd, nv_nd]; have := fbSig_bl x; have := fbSig_bl y; omega) (by have := fbExp_lo x; omega) (by have := fbExp_hi x; omega) (by have := fbExp_lo y; omega) (by have := fbExp_hi y; omega))
  have HSM := Lib.hid (fun A1 n1 c1 A2 n2 c2 w h k => sum_any (sg x != sg y) (sg z) A1 n1 c1 (fbSig x * fbSig y) (fbExp x + fbExp y) A2 n2 c2 (fbSig z) (fbExp z) w h k (by have := fbExp_lo x; have := fbExp_lo y; omega) (by have := fbExp_hi x; have := fbExp_hi y; omega) (by have := fbExp_lo z; omega) (by have := fbExp_hi z; omega) (by have := bl_mul_le (fbSig x) (fbSig y); have := fbSig_bl x; have := fbSig_bl y; omega) (by have := fbSig_bl z; omega))
  have hT : un (sg x != sg y) (fbSig x * fbSig y) (fbExp x + fbExp y) + un (sg z) (fbSig z) (fbExp z) = sv x * sv y + sv z * (K74 : Int) := by
    rw [part_un, ← part_mul x y]
    unfold un
    have h1 := fbExp_lo x
    have h2 := fbExp_lo y
    rw [show (fbExp x + fbExp y + 2148).toNat = (fbExp x + 1074).toNat + (fbExp y + 1074).toNat by omega]
  have HTO := Lib.hid (fun neg A n c (U : Nat) ex w h (hn : nw U ≤ 16384) h1 h2 => to_any d neg A n c (nd U) ex w h (by have := h.len; rw [nd_length] at this; omega) (by rw [nv_nd]; exact hn) h1 h2)
  simp only [nv_nd] at HTO HPR
  have HV : Hid (∀ neg U ex, -2148 ≤ ex → un neg U ex = un (sg x != sg y) (fbSig x * fbSig y) (fbExp x + fbExp y) + un (sg z) (fbSig z) (fbExp z) → rnd d neg (zd (2 * U) (ex - 1)) = V) := Lib.hid (fun neg U ex h1 h2 => by rw [un_exact d h1 h2, hT]; exact hV.symm)
  clear hT
  have hcase := four_cases hb
  clear hb hb1 hb2 hb3 hb4 hV hpi hpl hnl hp hm fx fy fz ho hoz hx hy hz
  rcases hcase with rfl | ⟨rfl, rfl⟩ | ⟨rfl, rfl, rfl⟩ | ⟨rfl, rfl, rfl, rfl⟩
  all_goals
    go_enter Try.func41, Try.ntmps41
    go_wp2
    apply wp_scope_to (l := 0) (hf := by rfl)
    · go_wp2_with (first | (go_at_call 75; ((with_reducible refine (HO.out _ _ hc0 hc1).mono ?_); rintro e w' ⟨rfl, rfl⟩)) | (go_at_call 75; ((with_reducible refine (HZ.out _ _ hz0).mono ?_); rintro e w' ⟨rfl, rfl⟩)) | (go_at_call 82; ((with_reducible refine (HMX.out _).mono ?_); rintro e w' ⟨rfl, rfl⟩)) | (go_at_call 82; ((with_reducible refine (HMY.out _).mono ?_); rintro e w' ⟨rfl, rfl⟩)) | (go_at_call 82; ((with_reducible refine (HMP.out _).mono ?_); rintro e w' ⟨rfl, rfl⟩)) | (go_at_call 76; ((with_reducible refine (HAZ.out _).mono ?_); rintro e w' ⟨rfl, rfl⟩)))
      go_step3
      exact ⟨rfl, rfl, rfl⟩
    · go_wp2_with fail
      refine (HPX.out _).mono ?_
      rintro e w2 ⟨A1, n1, c1, rfl, hR1, hX1⟩
      go_wp2_with fail
      refine (HPY.out _).mono ?_
      rintro e w3 ⟨A2, n2, c2, rfl, hR2, hX2⟩
      go_wp2_with fail
      refine (HPR.out _ _ _ _ _ _ _ (hR1.ext hX2) hR2).mono ?_
      rintro e w4 ⟨A3, n3, c3, rfl, hR3, hX3⟩
      go_wp2_with fail
      refine (HPZ.out _).mono ?_
      rintro e w5 ⟨A4, n4, c4, rfl, hR4, hX4⟩
      go_wp2_with fail
      refine (HSM.out _ _ _ _ _ _ _ (hR3.ext hX4) hR4).mono ?_
      rintro e w6 ⟨neg, U, ex, ⟨A5, n5, c5, rfl, hR5, hX5⟩, hU1, hU2, hU3, hU4⟩
      go_wp2_with fail
      refine (HTO.out _ _ _ _ _ _ _ hR5 hU1 (by omega) (by omega)).mono ?_
      rintro e w7 ⟨rfl, hX6⟩
      rw [HV.out _ _ _ hU2 hU4]
      go_wp2
      rw [jump_ret]
      go_ret
      exact ⟨rfl, (((((hE1.trans hX1).trans hX2).trans hX3).trans hX4).trans hX5).trans hX6⟩

set_option maxHeartbeats 8000000 in
theorem rfma_near (d : Int) (x y z : Nat) (w : World) (hx : x < 18446744073709551616) (hy : y < 18446744073709551616) (hz : z < 18446744073709551616) (ho : (oddF x || oddF y) = false) (hoz : oddF z = false) (hb1 : midB x = true) (hb2 : midB y = true) (hb3 : midB (Ieee.double.word (sg x ^^ sg y) (near (zq (rv (mg x) * rv (mg y)) (2 ^ 1073)))) = true) (hb4 : grB z = false) :
    Calls Try.prog 41 #[.int .i64 d, .float .f64 x, .float .f64 y, .float .f64 z] w fun e w' => e = .returned (.float .f64 (rT d (sv x * sv y + sv z * (K74 : Int)))) ∧ Ext w w' := by
  have hE0 : Ext w (w.alloc (.cells #[.float .f64 x, .float .f64 y] 28)) := (Ext.refl w).alloc _
  have hc0 : (w.alloc (.cells #[.float .f64 x, .float .f64 y] 28)).cell? ⟨w.heap.size, 0, none⟩ = some (.float .f64 x) := by simp
  have hc1 : (w.alloc (.cells #[.float .f64 x, .float .f64 y] 28)).cell? ⟨w.heap.size, 1, none⟩ = some (.float .f64 y) := by simp
  have HO := Lib.hid (fun g w c0 c1 => odd_two g x y w c0 c1 hx hy)
  rw [ho] at HO
  obtain ⟨wa, hwa⟩ : ∃ wa, wa = w.alloc (.cells #[.float .f64 x, .float .f64 y] 28) := ⟨_, rfl⟩
  have hz0 : (wa.alloc (.cells #[.float .f64 z] 28)).cell? ⟨wa.heap.size, 0, none⟩ = some (.float .f64 z) := by simp
  have hE1 : Ext w (wa.alloc (.cells #[.float .f64 z] 28)) := by rw [hwa]; exact hE0.alloc _
  rw [hwa] at hz0 hE1
  clear hwa
  rw [show (w.alloc (.cells #[.float .f64 x, .float .f64 y] 28)).heap.size = w.heap.size + 1 by simp] at hz0
  have HZ := Lib.hid (fun g w c0 => odd_one g z w c0 hz)
  rw [hoz] at HZ
  rw [Bool.or_eq_false_iff] at ho
  have fx := oddF_fin ho.1
  have fy := oddF_fin ho.2
  have fz := oddF_fin hoz
  have hm := mul_fin hx hy fx fy
  obtain ⟨p, hp⟩ : ∃ p, p = Ieee.double.word (sg x ^^ sg y) (near (zq (rv (mg x) * rv (mg y)) (2 ^ 1073))) := ⟨_, rfl⟩
  rw [← hp] at hm
  have hnl := near_lt' (zq (rv (mg x) * rv (mg y)) (2 ^ 1073))
  have hpl : p < 18446744073709551616 := by rw [hp]; exact word_lt hnl
  have hpi : mg p ≤ infR := by rw [hp, mg_word hnl]; exact near_le _
  have hrun := fun w => fmul hm w
  have HMX := Lib.hid (fun w => middle_any x w hx (by omega))
  have HMY := Lib.hid (fun w => middle_any y w hy (by omega))
  have HMP := Lib.hid (fun w => middle_any p w hpl hpi)
  have HAZ := Lib.hid (fun w => mabs_any z w hz)
  have q1 := fo_gt (mg_lt64 z) (show 8660422083433463808 < 18446744073709551616 by omega)
  have q1' : ltB 8660422083433463808 (mg z) = grB z := rfl
  rw [q1'] at q1
  obtain ⟨V, hV⟩ : ∃ V, V = rT d (sv x * sv y + sv z * (K74 : Int)) := ⟨_, rfl⟩
  rw [← hV]
  clear q1'
  rw [← hp] at hb3
  rw [hb1] at HMX
  rw [hb2] at HMY
  rw [hb3] at HMP
  rw [hb4] at q1
  obtain ⟨mx, -⟩ := mid_of hb1
  obtain ⟨my, -⟩ := mid_of hb2
  obtain ⟨mp, fp⟩ := mid_of hb3
  obtain ⟨q, ee, s, f, g, E, F, G, hq, oe, ⟨t, u, o5, o6, o1, o2, o3, o4, o7, o8⟩, og, fE, fF, fG, fS, bS, hres⟩ := fma_quick (Fl.of hx fx) (Fl.of hy fy) (Fl.of hz fz) mx my hm fp mp (by rw [sv_abs]; exact grB_fin fz hb4)
  have HMI := Lib.hid (fun w => missed_any x y p ee w oe)
  have r1 := fun w => fadd o1 w
  have r2 := fun w => fsub o2 w
  have r3 := fun w => fsub o3 w
  have r4 := fun w => fsub o4 w
  have r5 := fun w => fsub o7 w
  have r6 := fun w => fadd o8 w
  have r7 := fun w => fadd og w
  have HAS := Lib.hid (fun w => mabs_any s w fS.lt)
  have HAE := Lib.hid (fun w => mabs_any ee w fE.lt)
  have c1 := fo_ne fF.lt (show 0 < 18446744073709551616 by omega)
  have c2 := fo_eq fF.lt (show 0 < 18446744073709551616 by omega)
  have c3 := fo_ne fE.lt (show 0 < 18446744073709551616 by omega)
  have c4 := fo_lt (mg_lt64 s) (show 553942754166571008 < 18446744073709551616 by omega)
  rw [eq0Z fF] at c1 c2
  rw [eq0Z fE] at c3
  rw [lt_small fS.lt fS.fin] at c4
  have hTq : rT d (sv x * sv y + sv z * (K74 : Int)) = rnd d (decide (q + sv z < 0)) (4 * (q + sv z).natAbs) := by
    rw [← rT_units, Int.add_mul, ← hq, K74_i]
  have HNU : Hid ((E = 0 ∨ (F = 0 ∧ E.natAbs * 36028797018963968 < (sv s).natAbs)) → ∀ w, Calls Try.prog 77 #[.int .i64 d, .float .f64 s, .float .f64 g] w fun en w' => en = .returned (.float .f64 V) ∧ w = w') := Lib.hid (fun hh w => by
    have := nudge_any d s g G w fS.lt fS.fin fG.lt (by rw [fG.ltB Fl.zero]) (by rw [Fl.zero.ltB fG])
    rwa [← hres hh d, ← hTq, ← hV] at this)
  have HPX := Lib.hid (fun w => part_any x w hx)
  have HPY := Lib.hid (fun w => part_any y w hy)
  have HPZ := Lib.hid (fun w => part_any z w hz)
  have HPR := Lib.hid (fun A n c B m e w h k => product_any (sg x) (sg y) A n c (nd (fbSig x)) (fbExp x) B m e (nd (fbSig y)) (fbExp y) w h (by have := h.len; rw [nd_length] at this; have := fbSig_nw x; omega) k (by have := k.len; rw [nd_length] at this; have := fbSig_nw y; omega) (by rw [nv_nd, nv_nd]; have := fbSig_bl x; have := fbSig_bl y; omega) (by have := fbExp_lo x; omega) (by have := fbExp_hi x; omega) (by have := fbExp_lo y; omega) (by have := fbExp_hi y; omega))
  have HSM := Lib.hid (fun A1 n1 c1 A2 n2 c2 w h k => sum_any (sg x != sg y) (sg z) A1 n1 c1 (fbSig x * fbSig y) (fbExp x + fbExp y) A2 n2 c2 (fbSig z) (fbExp z) w h k (by have := fbExp_lo x; have := fbExp_lo y; omega) (by have := fbExp_hi x; have := fbExp_hi y; omega) (by have := fbExp_lo z; omega) (by have := fbExp_hi z; omega) (by have := bl_mul_le (fbSig x) (fbSig y); have := fbSig_bl x; have := fbSig_bl y; omega) (by have := fbSig_bl z; omega))
  have hT : un (sg x != sg y) (fbSig x * fbSig y) (fbExp x + fbExp y) + un (sg z) (fbSig z) (fbExp z) = sv x * sv y + sv z * (K74 : Int) := by
    rw [part_un, ← part_mul x y]
    unfold un
    have h1 := fbExp_lo x
    have h2 := fbExp_lo y
    rw [show (fbExp x + fbExp y + 2148).toNat = (fbExp x + 1074).toNat + (fbExp y + 1074).toNat by omega]
  have HTO := Lib.hid (fun neg A n c (U : Nat) ex w h (hn : nw U ≤ 16384) h1 h2 => to_any d neg A n c (nd U) ex w h (by have := h.len; rw [nd_length] at this; omega) (by rw [nv_nd]; exact hn) h1 h2)
  simp only [nv_nd] at HTO HPR
  have HV : Hid (∀ neg U ex, -2148 ≤ ex → un neg U ex = un (sg x != sg y) (fbSig x * fbSig y) (fbExp x + fbExp y) + un (sg z) (fbSig z) (fbExp z) → rnd d neg (zd (2 * U) (ex - 1)) = V) := Lib.hid (fun neg U ex h1 h2 => by rw [un_exact d h1 h2, hT]; exact hV.symm)
  clear hT
  by_cases hs : rv (mg s) < Ks
  · rw [decide_eq_true hs] at c4
    clear hs hTq hres oe o1 o2 o3 o4 o7 o8 og hq mx my mp fp hb1 hb2 hb3 hb4 hV hpi hpl hnl hp hm fx fy fz ho hoz hx hy hz bS HNU
    by_cases hF : F = 0
    · rw [decide_eq_true hF, Bool.not_true] at c1
      rw [decide_eq_true hF] at c2
      clear hF
      go_enter Try.func41, Try.ntmps41
      go_wp2
      apply wp_scope_to (l := 0) (hf := by rfl)
      · go_wp2_with (first | (go_at_call 75; ((with_reducible refine (HO.out _ _ hc0 hc1).mono ?_); rintro e w' ⟨rfl, rfl⟩)) | (go_at_call 75; ((with_reducible refine (HZ.out _ _ hz0).mono ?_); rintro e w' ⟨rfl, rfl⟩)) | (go_at_call 82; ((with_reducible refine (HMX.out _).mono ?_); rintro e w' ⟨rfl, rfl⟩)) | (go_at_call 82; ((with_reducible refine (HMY.out _).mono ?_); rintro e w' ⟨rfl, rfl⟩)) | (go_at_call 82; ((with_reducible refine (HMP.out _).mono ?_); rintro e w' ⟨rfl, rfl⟩)) | (go_at_call 76; ((with_reducible refine (HAZ.out _).mono ?_); rintro e w' ⟨rfl, rfl⟩)) | (go_at_call 76; ((with_reducible refine (HAS.out _).mono ?_); rintro e w' ⟨rfl, rfl⟩)) | (go_at_call 76; ((with_reducible refine (HAE.out _).mono ?_); rintro e w' ⟨rfl, rfl⟩)) | (go_at_call 83; refine (HMI.out _).mono ?_; rintro e w' ⟨rfl, rfl⟩))
        go_step3
        exact ⟨rfl, rfl, rfl⟩
      · go_wp2_with fail
        refine (HPX.out _).mono ?_
        rintro e w2 ⟨A1, n1, c1, rfl, hR1, hX1⟩
        go_wp2_with fail
        refine (HPY.out _).mono ?_
        rintro e w3 ⟨A2, n2, c2, rfl, hR2, hX2⟩
        go_wp2_with fail
        refine (HPR.out _ _ _ _ _ _ _ (hR1.ext hX2) hR2).mono ?_
        rintro e w4 ⟨A3, n3, c3, rfl, hR3, hX3⟩
        go_wp2_with fail
        refine (HPZ.out _).mono ?_
        rintro e w5 ⟨A4, n4, c4, rfl, hR4, hX4⟩
        go_wp2_with fail
        refine (HSM.out _ _ _ _ _ _ _ (hR3.ext hX4) hR4).mono ?_
        rintro e w6 ⟨neg, U, ex, ⟨A5, n5, c5, rfl, hR5, hX5⟩, hU1, hU2, hU3, hU4⟩
        go_wp2_with fail
        refine (HTO.out _ _ _ _ _ _ _ hR5 hU1 (by omega) (by omega)).mono ?_
        rintro e w7 ⟨rfl, hX6⟩
        rw [HV.out _ _ _ hU2 hU4]
        go_wp2
        rw [jump_ret]
        go_ret
        exact ⟨rfl, (((((hE1.trans hX1).trans hX2).trans hX3).trans hX4).trans hX5).trans hX6⟩
    · rw [decide_eq_false hF, Bool.not_false] at c1
      rw [decide_eq_false hF] at c2
      clear hF
      by_cases hE : E = 0
      · rw [decide_eq_true hE, Bool.not_true] at c3
        clear hE
        go_enter Try.func41, Try.ntmps41
        go_wp2
        apply wp_scope_to (l := 0) (hf := by rfl)
        · go_wp2_with (first | (go_at_call 75; ((with_reducible refine (HO.out _ _ hc0 hc1).mono ?_); rintro e w' ⟨rfl, rfl⟩)) | (go_at_call 75; ((with_reducible refine (HZ.out _ _ hz0).mono ?_); rintro e w' ⟨rfl, rfl⟩)) | (go_at_call 82; ((with_reducible refine (HMX.out _).mono ?_); rintro e w' ⟨rfl, rfl⟩)) | (go_at_call 82; ((with_reducible refine (HMY.out _).mono ?_); rintro e w' ⟨rfl, rfl⟩)) | (go_at_call 82; ((with_reducible refine (HMP.out _).mono ?_); rintro e w' ⟨rfl, rfl⟩)) | (go_at_call 76; ((with_reducible refine (HAZ.out _).mono ?_); rintro e w' ⟨rfl, rfl⟩)) | (go_at_call 76; ((with_reducible refine (HAS.out _).mono ?_); rintro e w' ⟨rfl, rfl⟩)) | (go_at_call 76; ((with_reducible refine (HAE.out _).mono ?_); rintro e w' ⟨rfl, rfl⟩)) | (go_at_call 83; refine (HMI.out _).mono ?_; rintro e w' ⟨rfl, rfl⟩))
          go_step3
          exact ⟨rfl, rfl, rfl⟩
        · go_wp2_with fail
          refine (HPX.out _).mono ?_
          rintro e w2 ⟨A1, n1, c1, rfl, hR1, hX1⟩
          go_wp2_with fail
          refine (HPY.out _).mono ?_
          rintro e w3 ⟨A2, n2, c2, rfl, hR2, hX2⟩
          go_wp2_with fail
          refine (HPR.out _ _ _ _ _ _ _ (hR1.ext hX2) hR2).mono ?_
          rintro e w4 ⟨A3, n3, c3, rfl, hR3, hX3⟩
          go_wp2_with fail
          refine (HPZ.out _).mono ?_
          rintro e w5 ⟨A4, n4, c4, rfl, hR4, hX4⟩
          go_wp2_with fail
          refine (HSM.out _ _ _ _ _ _ _ (hR3.ext hX4) hR4).mono ?_
          rintro e w6 ⟨neg, U, ex, ⟨A5, n5, c5, rfl, hR5, hX5⟩, hU1, hU2, hU3, hU4⟩
          go_wp2_with fail
          refine (HTO.out _ _ _ _ _ _ _ hR5 hU1 (by omega) (by omega)).mono ?_
          rintro e w7 ⟨rfl, hX6⟩
          rw [HV.out _ _ _ hU2 hU4]
          go_wp2
          rw [jump_ret]
          go_ret
          exact ⟨rfl, (((((hE1.trans hX1).trans hX2).trans hX3).trans hX4).trans hX5).trans hX6⟩
      · rw [decide_eq_false hE, Bool.not_false] at c3
        clear hE
        go_enter Try.func41, Try.ntmps41
        go_wp2
        apply wp_scope_to (l := 0) (hf := by rfl)
        · go_wp2_with (first | (go_at_call 75; ((with_reducible refine (HO.out _ _ hc0 hc1).mono ?_); rintro e w' ⟨rfl, rfl⟩)) | (go_at_call 75; ((with_reducible refine (HZ.out _ _ hz0).mono ?_); rintro e w' ⟨rfl, rfl⟩)) | (go_at_call 82; ((with_reducible refine (HMX.out _).mono ?_); rintro e w' ⟨rfl, rfl⟩)) | (go_at_call 82; ((with_reducible refine (HMY.out _).mono ?_); rintro e w' ⟨rfl, rfl⟩)) | (go_at_call 82; ((with_reducible refine (HMP.out _).mono ?_); rintro e w' ⟨rfl, rfl⟩)) | (go_at_call 76; ((with_reducible refine (HAZ.out _).mono ?_); rintro e w' ⟨rfl, rfl⟩)) | (go_at_call 76; ((with_reducible refine (HAS.out _).mono ?_); rintro e w' ⟨rfl, rfl⟩)) | (go_at_call 76; ((with_reducible refine (HAE.out _).mono ?_); rintro e w' ⟨rfl, rfl⟩)) | (go_at_call 83; refine (HMI.out _).mono ?_; rintro e w' ⟨rfl, rfl⟩))
          go_step3
          exact ⟨rfl, rfl, rfl⟩
        · go_wp2_with fail
          refine (HPX.out _).mono ?_
          rintro e w2 ⟨A1, n1, c1, rfl, hR1, hX1⟩
          go_wp2_with fail
          refine (HPY.out _).mono ?_
          rintro e w3 ⟨A2, n2, c2, rfl, hR2, hX2⟩
          go_wp2_with fail
          refine (HPR.out _ _ _ _ _ _ _ (hR1.ext hX2) hR2).mono ?_
          rintro e w4 ⟨A3, n3, c3, rfl, hR3, hX3⟩
          go_wp2_with fail
          refine (HPZ.out _).mono ?_
          rintro e w5 ⟨A4, n4, c4, rfl, hR4, hX4⟩
          go_wp2_with fail
          refine (HSM.out _ _ _ _ _ _ _ (hR3.ext hX4) hR4).mono ?_
          rintro e w6 ⟨neg, U, ex, ⟨A5, n5, c5, rfl, hR5, hX5⟩, hU1, hU2, hU3, hU4⟩
          go_wp2_with fail
          refine (HTO.out _ _ _ _ _ _ _ hR5 hU1 (by omega) (by omega)).mono ?_
          rintro e w7 ⟨rfl, hX6⟩
          rw [HV.out _ _ _ hU2 hU4]
          go_wp2
          rw [jump_ret]
          go_ret
          exact ⟨rfl, (((((hE1.trans hX1).trans hX2).trans hX3).trans hX4).trans hX5).trans hX6⟩
  · rw [decide_eq_false hs] at c4
    obtain ⟨mm, qq, om, fm, hqq⟩ := mul_55 fS.lt fS.fin (by rw [sv_abs]; omega)
    have r8 := fun w => fmul om w
    have c5 := fo_ge (mg_lt64 ee) fm.lt
    rw [fm.leB (fl_mag fE)] at c5
    by_cases hF : F = 0
    · rw [decide_eq_true hF, Bool.not_true] at c1
      rw [decide_eq_true hF] at c2
      by_cases hle : (qq : Int) ≤ (E.natAbs : Int)
      · rw [decide_eq_true hle] at c5
        clear hle hF hs hTq hres oe o1 o2 o3 o4 o7 o8 og hq mx my mp fp hb1 hb2 hb3 hb4 hV hpi hpl hnl hp hm fx fy fz ho hoz hx hy hz bS HNU om hqq fm
        go_enter Try.func41, Try.ntmps41
        go_wp2
        apply wp_scope_to (l := 0) (hf := by rfl)
        · go_wp2_with (first | (go_at_call 75; ((with_reducible refine (HO.out _ _ hc0 hc1).mono ?_); rintro e w' ⟨rfl, rfl⟩)) | (go_at_call 75; ((with_reducible refine (HZ.out _ _ hz0).mono ?_); rintro e w' ⟨rfl, rfl⟩)) | (go_at_call 82; ((with_reducible refine (HMX.out _).mono ?_); rintro e w' ⟨rfl, rfl⟩)) | (go_at_call 82; ((with_reducible refine (HMY.out _).mono ?_); rintro e w' ⟨rfl, rfl⟩)) | (go_at_call 82; ((with_reducible refine (HMP.out _).mono ?_); rintro e w' ⟨rfl, rfl⟩)) | (go_at_call 76; ((with_reducible refine (HAZ.out _).mono ?_); rintro e w' ⟨rfl, rfl⟩)) | (go_at_call 76; ((with_reducible refine (HAS.out _).mono ?_); rintro e w' ⟨rfl, rfl⟩)) | (go_at_call 76; ((with_reducible refine (HAE.out _).mono ?_); rintro e w' ⟨rfl, rfl⟩)) | (go_at_call 83; refine (HMI.out _).mono ?_; rintro e w' ⟨rfl, rfl⟩))
          go_step3
          exact ⟨rfl, rfl, rfl⟩
        · go_wp2_with fail
          refine (HPX.out _).mono ?_
          rintro e w2 ⟨A1, n1, c1, rfl, hR1, hX1⟩
          go_wp2_with fail
          refine (HPY.out _).mono ?_
          rintro e w3 ⟨A2, n2, c2, rfl, hR2, hX2⟩
          go_wp2_with fail
          refine (HPR.out _ _ _ _ _ _ _ (hR1.ext hX2) hR2).mono ?_
          rintro e w4 ⟨A3, n3, c3, rfl, hR3, hX3⟩
          go_wp2_with fail
          refine (HPZ.out _).mono ?_
          rintro e w5 ⟨A4, n4, c4, rfl, hR4, hX4⟩
          go_wp2_with fail
          refine (HSM.out _ _ _ _ _ _ _ (hR3.ext hX4) hR4).mono ?_
          rintro e w6 ⟨neg, U, ex, ⟨A5, n5, c5, rfl, hR5, hX5⟩, hU1, hU2, hU3, hU4⟩
          go_wp2_with fail
          refine (HTO.out _ _ _ _ _ _ _ hR5 hU1 (by omega) (by omega)).mono ?_
          rintro e w7 ⟨rfl, hX6⟩
          rw [HV.out _ _ _ hU2 hU4]
          go_wp2
          rw [jump_ret]
          go_ret
          exact ⟨rfl, (((((hE1.trans hX1).trans hX2).trans hX3).trans hX4).trans hX5).trans hX6⟩
      · rw [decide_eq_false hle] at c5
        have HNU := Lib.hid (HNU.out (.inr ⟨hF, by omega⟩))
        clear hle hF hs hTq hres oe o1 o2 o3 o4 o7 o8 og hq mx my mp fp hb1 hb2 hb3 hb4 hV hpi hpl hnl hp hm fx fy fz ho hoz hx hy hz bS om hqq fm HV HTO HSM HPR HPX HPY HPZ
        go_enter Try.func41, Try.ntmps41
        go_wp2
        go_step3
        go_wp2_with (first | (go_at_call 75; ((with_reducible refine (HO.out _ _ hc0 hc1).mono ?_); rintro e w' ⟨rfl, rfl⟩)) | (go_at_call 75; ((with_reducible refine (HZ.out _ _ hz0).mono ?_); rintro e w' ⟨rfl, rfl⟩)) | (go_at_call 82; ((with_reducible refine (HMX.out _).mono ?_); rintro e w' ⟨rfl, rfl⟩)) | (go_at_call 82; ((with_reducible refine (HMY.out _).mono ?_); rintro e w' ⟨rfl, rfl⟩)) | (go_at_call 82; ((with_reducible refine (HMP.out _).mono ?_); rintro e w' ⟨rfl, rfl⟩)) | (go_at_call 76; ((with_reducible refine (HAZ.out _).mono ?_); rintro e w' ⟨rfl, rfl⟩)) | (go_at_call 76; ((with_reducible refine (HAS.out _).mono ?_); rintro e w' ⟨rfl, rfl⟩)) | (go_at_call 76; ((with_reducible refine (HAE.out _).mono ?_); rintro e w' ⟨rfl, rfl⟩)) | (go_at_call 83; refine (HMI.out _).mono ?_; rintro e w' ⟨rfl, rfl⟩) | (go_at_call 77; refine (HNU.out _).mono ?_; rintro e w' ⟨rfl, rfl⟩))
        rw [Exit.noGoto_ret]
        go_ret
        exact ⟨rfl, hE1⟩
    · rw [decide_eq_false hF, Bool.not_false] at c1
      rw [decide_eq_false hF] at c2
      by_cases hE : E = 0
      · rw [decide_eq_true hE, Bool.not_true] at c3
        have HNU := Lib.hid (HNU.out (.inl hE))
        clear hE hF hs hTq hres oe o1 o2 o3 o4 o7 o8 og hq mx my mp fp hb1 hb2 hb3 hb4 hV hpi hpl hnl hp hm fx fy fz ho hoz hx hy hz bS om hqq fm HV HTO HSM HPR HPX HPY HPZ
        go_enter Try.func41, Try.ntmps41
        go_wp2
        go_step3
        go_wp2_with (first | (go_at_call 75; ((with_reducible refine (HO.out _ _ hc0 hc1).mono ?_); rintro e w' ⟨rfl, rfl⟩)) | (go_at_call 75; ((with_reducible refine (HZ.out _ _ hz0).mono ?_); rintro e w' ⟨rfl, rfl⟩)) | (go_at_call 82; ((with_reducible refine (HMX.out _).mono ?_); rintro e w' ⟨rfl, rfl⟩)) | (go_at_call 82; ((with_reducible refine (HMY.out _).mono ?_); rintro e w' ⟨rfl, rfl⟩)) | (go_at_call 82; ((with_reducible refine (HMP.out _).mono ?_); rintro e w' ⟨rfl, rfl⟩)) | (go_at_call 76; ((with_reducible refine (HAZ.out _).mono ?_); rintro e w' ⟨rfl, rfl⟩)) | (go_at_call 76; ((with_reducible refine (HAS.out _).mono ?_); rintro e w' ⟨rfl, rfl⟩)) | (go_at_call 76; ((with_reducible refine (HAE.out _).mono ?_); rintro e w' ⟨rfl, rfl⟩)) | (go_at_call 83; refine (HMI.out _).mono ?_; rintro e w' ⟨rfl, rfl⟩) | (go_at_call 77; refine (HNU.out _).mono ?_; rintro e w' ⟨rfl, rfl⟩))
        rw [Exit.noGoto_ret]
        go_ret
        exact ⟨rfl, hE1⟩
      · rw [decide_eq_false hE, Bool.not_false] at c3
        clear hE hF hs hTq hres oe o1 o2 o3 o4 o7 o8 og hq mx my mp fp hb1 hb2 hb3 hb4 hV hpi hpl hnl hp hm fx fy fz ho hoz hx hy hz bS HNU om hqq fm
        go_enter Try.func41, Try.ntmps41
        go_wp2
        apply wp_scope_to (l := 0) (hf := by rfl)
        · go_wp2_with (first | (go_at_call 75; ((with_reducible refine (HO.out _ _ hc0 hc1).mono ?_); rintro e w' ⟨rfl, rfl⟩)) | (go_at_call 75; ((with_reducible refine (HZ.out _ _ hz0).mono ?_); rintro e w' ⟨rfl, rfl⟩)) | (go_at_call 82; ((with_reducible refine (HMX.out _).mono ?_); rintro e w' ⟨rfl, rfl⟩)) | (go_at_call 82; ((with_reducible refine (HMY.out _).mono ?_); rintro e w' ⟨rfl, rfl⟩)) | (go_at_call 82; ((with_reducible refine (HMP.out _).mono ?_); rintro e w' ⟨rfl, rfl⟩)) | (go_at_call 76; ((with_reducible refine (HAZ.out _).mono ?_); rintro e w' ⟨rfl, rfl⟩)) | (go_at_call 76; ((with_reducible refine (HAS.out _).mono ?_); rintro e w' ⟨rfl, rfl⟩)) | (go_at_call 76; ((with_reducible refine (HAE.out _).mono ?_); rintro e w' ⟨rfl, rfl⟩)) | (go_at_call 83; refine (HMI.out _).mono ?_; rintro e w' ⟨rfl, rfl⟩))
          go_step3
          exact ⟨rfl, rfl, rfl⟩
        · go_wp2_with fail
          refine (HPX.out _).mono ?_
          rintro e w2 ⟨A1, n1, c1, rfl, hR1, hX1⟩
          go_wp2_with fail
          refine (HPY.out _).mono ?_
          rintro e w3 ⟨A2, n2, c2, rfl, hR2, hX2⟩
          go_wp2_with fail
          refine (HPR.out _ _ _ _ _ _ _ (hR1.ext hX2) hR2).mono ?_
          rintro e w4 ⟨A3, n3, c3, rfl, hR3, hX3⟩
          go_wp2_with fail
          refine (HPZ.out _).mono ?_
          rintro e w5 ⟨A4, n4, c4, rfl, hR4, hX4⟩
          go_wp2_with fail
          refine (HSM.out _ _ _ _ _ _ _ (hR3.ext hX4) hR4).mono ?_
          rintro e w6 ⟨neg, U, ex, ⟨A5, n5, c5, rfl, hR5, hX5⟩, hU1, hU2, hU3, hU4⟩
          go_wp2_with fail
          refine (HTO.out _ _ _ _ _ _ _ hR5 hU1 (by omega) (by omega)).mono ?_
          rintro e w7 ⟨rfl, hX6⟩
          rw [HV.out _ _ _ hU2 hU4]
          go_wp2
          rw [jump_ret]
          go_ret
          exact ⟨rfl, (((((hE1.trans hX1).trans hX2).trans hX3).trans hX4).trans hX5).trans hX6⟩

theorem rfma_any (d : Int) (x y z : Nat) (w : World) (hx : x < 18446744073709551616) (hy : y < 18446744073709551616) (hz : z < 18446744073709551616) :
    Calls Try.prog 41 #[.int .i64 d, .float .f64 x, .float .f64 y, .float .f64 z] w (RetFl (fmaR d x y z) w) := by
  unfold fmaR
  have e1 : ∀ b, oddP b = oddF b := fun b => rfl
  rw [e1, e1, e1]
  cases ho : (oddF x || oddF y)
  · rw [if_neg (by simp)]
    cases hoz : oddF z
    · rw [if_neg (by simp)]
      have key : Calls Try.prog 41 #[.int .i64 d, .float .f64 x, .float .f64 y, .float .f64 z] w fun e w' => e = .returned (.float .f64 (rT d (sv x * sv y + sv z * (K74 : Int)))) ∧ Ext w w' := by
        by_cases hb : midB x = true ∧ midB y = true ∧ midB (Ieee.double.word (sg x ^^ sg y) (near (zq (rv (mg x) * rv (mg y)) (2 ^ 1073)))) = true ∧ grB z = false
        · exact rfma_near d x y z w hx hy hz ho hoz hb.1 hb.2.1 hb.2.2.1 hb.2.2.2
        · exact rfma_far d x y z w hx hy hz ho hoz hb
      refine key.mono ?_
      rintro e w' ⟨rfl, hE⟩
      exact ⟨_, rfl, (rT_ok _ _).1, (rT_ok _ _).2, hE⟩
    · rw [if_pos rfl]
      refine (rfma_oddz d x y z w hx hy hz ho hoz).mono ?_
      rintro e w' ⟨rfl, hE⟩
      exact ⟨_, rfl, hz, rfl, hE⟩
  · rw [if_pos rfl]
    exact rfma_odd d x y z w hx hy hz ho
end Go.Proofs.Ytfbjeifhpmdjaaa
