/-
  The walk through RoundRoads. Conditions: those that each theorem names.
-/
import Derived.Test.YtadijoeeaineaaaDoorZ40
import Derived.Test.YtadijoeeaineaaaDoorZ37
import Derived.Test.YtadijoeeaineaaaDoorZ28
import Derived.Deep.CutRange
import Derived.Deep.CutBlock
import Derived.Test.YtadijoeeaineaaaDoorZ07
import Derived.Test.YtadijoeeaineaaaDoorZ29
import Derived.Test.YtadijoeeaineaaaDoorZ17
import Derived.Test.YtadijoeeaineaaaDoorZ14
import Derived.StillTailTactics
namespace Go.Proofs.YtadijoeeaineaaaDoor
open Go.RowKit Nm Rn
set_option maxRecDepth 100000
set_option linter.unusedVariables false
set_option linter.unusedSimpArgs false

set_option maxHeartbeats 16000000 in
theorem roads_walk (d : Int) (x y : Nat) (n : Int) (w : World) (hx : x < 18446744073709551616) (hy : y < 18446744073709551616) (n1 : -9223372036854775808 ≤ n) (n2 : n ≤ 9223372036854775807) (hT : Tab w) :
    Calls Tryd.prog 4 #[.int .i64 d, .agg #[.int .u64 (x : Int), .int .u64 (y : Int)], .int .i64 n] w fun e w' => e = .returned (.bool true) ∧ Ext w w' := by
  have HT := Lib.hid hT
  have HL := Lib.hid (fun r w h => lbits_any r w h)
  have HF1 := Lib.hid (fun w => fma_one d hx hy ▸ rfma_any d x 4607182418800017408 y w hx (by decide) hy)
  have HAD := Lib.hid (fun w => radd_any_ d x y w hx hy)
  have HF0 := Lib.hid (fun w => fma_zero d x y ▸ rfma_any d x y 0 w hx hy (by decide))
  have HMU := Lib.hid (fun w => rmul_any d x y w hx hy)
  have HP2 := Lib.hid (fun w h => pow_two_ d x ▸ rpow_prog d x 2 w hx h)
  have HMX := Lib.hid (fun w => rmul_any d x x w hx hx)
  have gx := andNot_top x hx
  obtain ⟨VA, hVA⟩ : ∃ V, V = addR d x y := ⟨_, rfl⟩
  obtain ⟨VM, hVM⟩ : ∃ V, V = mulR d x y := ⟨_, rfl⟩
  obtain ⟨VQ, hVQ⟩ : ∃ V, V = mulR d x x := ⟨_, rfl⟩
  rw [← hVA] at HF1 HAD
  rw [← hVM] at HF0 HMU
  rw [← hVQ] at HP2 HMX
  clear hVA hVM hVQ
  obtain ⟨VI, VD, b, HPI, HDI, hb, hbx⟩ : ∃ VI VD b, Hid (∀ w, Tab w → Calls Tryd.prog 10 #[.int .i64 d, .float .f64 x, .int .i64 (-1)] w (RetFl VI w)) ∧ Hid (∀ w, Calls Tryd.prog 16 #[.int .i64 d, .float .f64 4607182418800017408, .float .f64 x] w (RetFl VD w)) ∧ ((VI : Int) != (VD : Int)) = b ∧ (b = true → ((mg x : Int) != 0) = false) :=
    ⟨_, _, _, Lib.hid (fun w h => rpow_prog d x (-1) w hx h), Lib.hid (fun w => rdiv_any d 4607182418800017408 x w (by decide) hx), rfl, fun h => by
      by_cases hz : mg x = 0
      · rw [hz]; rfl
      · rw [pow_inv_ d hz] at h
        simp at h⟩
  obtain ⟨VS, hVS⟩ : ∃ V, V = sqrtR d x := ⟨_, rfl⟩
  obtain ⟨VP, hVP⟩ : ∃ V, V = plN x := ⟨_, rfl⟩
  have HR2 := Lib.hid (fun w => root_two_ d x ▸ rroot_any d x 2 w hx)
  have HSQ := Lib.hid (fun w => rsqrt_any d x w hx)
  have HP1 := Lib.hid (fun w h => pow_one_ d hx ▸ rpow_prog d x 1 w hx h)
  have HR1 := Lib.hid (fun w => root_one_ d hx ▸ rroot_any d x 1 w hx)
  have HPL := Lib.hid (fun w => plain3_any x w hx)
  rw [← hVS] at HR2 HSQ
  rw [← hVP] at HP1 HR1 HPL
  clear hVS hVP
  have HLV := Lib.hid (fun w => lives_any w)
  have HFX := Lib.hid (fun w => finite2_any x w hx)
  have HFY := Lib.hid (fun w => finite2_any y w hy)
  obtain ⟨fx, hfx⟩ : ∃ b, b = decide (mg x < infR) := ⟨_, rfl⟩
  obtain ⟨fy, hfy⟩ : ∃ b, b = decide (mg y < infR) := ⟨_, rfl⟩
  rw [← hfx] at HFX
  rw [← hfy] at HFY
  have HP : Hid (fx = true → fy = true → ∃ (sx sy : Bool) (N1 D1 N2 D2 P Q : Nat) (L sv : Int) (V1 V2 : Nat), RdF d x y sx sy N1 D1 N2 D2 P Q L sv V1 V2 ∧ Hid ((sv != 0) = true → ∀ K : Nat, 1 ≤ K → K ≤ 1000000 → ∃ PK QK PL, RdQ d x y (!(sx == sy)) P Q K PK QK PL V2) ∧ ((sv != 0) = true ∨ (sv != 0) = false)) := Lib.hid (fun h1 h2 => by
    have e1 : mg x < infR := of_decide_eq_true (hfx.symm.trans h1)
    have e2 : mg y < infR := of_decide_eq_true (hfy.symm.trans h2)
    refine ⟨_, _, _, _, _, _, _, _, _, _, _, _, rdF_of d x y hx hy e1 e2, Lib.hid fun h3 K k1 k2 => rdQ_of d x y K hx hy e1 e2 (fun h0 => ?_) k1 k2, ?_⟩
    · rw [(fbN_zero y).2 h0] at h3
      unfold sgnZ at h3
      simp at h3
    · cases h : (sgnZ (sgn y) (fbN y) != 0) <;> simp)
  clear hfx hfy
  have hbz : b = false ∨ b = true ∧ ((mg x : Int) != 0) = false := by
    cases b
    · exact .inl rfl
    · exact .inr ⟨rfl, hbx rfl⟩
  clear hbx
  have hO := Own.start w
  go_enter Tryd.func4, Tryd.ntmps4
  go_upto_region 1 with ((with_reducible refine at_box ?_); refine own_box (cs := [.int .u64 (x : Int), .int .u64 (y : Int)]) hO rfl rfl ?_; clear hO; intro g w1 hO)
  have hf := hO.cells
  simp only [BC, CC, Nat.zero_add, Nat.reduceAdd, and_true] at hf
  go_wp2_with (go_at_call 11; ((with_reducible refine (fl_any _ _).mono ?_); rintro e w' ⟨rfl, rfl⟩))

  refine (HF1.out _).mono ?_
  rintro e w2 ⟨r, rfl, hr, hc, hE'⟩
  replace hO := hO.ext hE'
  clear hE' hf
  have hf := hO.cells
  simp only [BC, CC, Nat.zero_add, Nat.reduceAdd, and_true] at hf
  go_wp2_with fail
  refine (HL.out r _ hr).mono ?_
  rintro e w' ⟨rfl, rfl⟩
  rw [hc]
  clear hc hr
  go_wp2_with fail
  refine (HAD.out _).mono ?_
  rintro e w3 ⟨r, rfl, hr, hc, hE'⟩
  replace hO := hO.ext hE'
  clear hE' hf
  have hf := hO.cells
  simp only [BC, CC, Nat.zero_add, Nat.reduceAdd, and_true] at hf
  go_wp2_with fail
  refine (HL.out r _ hr).mono ?_
  rintro e w' ⟨rfl, rfl⟩
  rw [hc]
  clear hc hr
  go_wp2_with fail
  refine (HF0.out _).mono ?_
  rintro e w4 ⟨r, rfl, hr, hc, hE'⟩
  replace hO := hO.ext hE'
  clear hE' hf
  have hf := hO.cells
  simp only [BC, CC, Nat.zero_add, Nat.reduceAdd, and_true] at hf
  go_wp2_with fail
  refine (HL.out r _ hr).mono ?_
  rintro e w' ⟨rfl, rfl⟩
  rw [hc]
  clear hc hr
  go_wp2_with fail
  refine (HMU.out _).mono ?_
  rintro e w5 ⟨r, rfl, hr, hc, hE'⟩
  replace hO := hO.ext hE'
  clear hE' hf
  have hf := hO.cells
  simp only [BC, CC, Nat.zero_add, Nat.reduceAdd, and_true] at hf
  go_wp2_with fail
  refine (HL.out r _ hr).mono ?_
  rintro e w' ⟨rfl, rfl⟩
  rw [hc]
  clear hc hr
  go_upto_region 5 with fail
  go_cut [71] from 45 (fun s wx => s = .bool false ∧ Own w [⟨g, 29, [.int .u64 (x : Int), .int .u64 (y : Int)]⟩] [] wx)
  case first =>
    rcases hbz with rfl | ⟨rfl, hmz⟩
    all_goals
      go_wp2_with fail
      refine (HP2.out _ (HT.out.ext hO.toExt)).mono ?_
      rintro e w6 ⟨r, rfl, hr, hc, hE'⟩
      replace hO := hO.ext hE'
      clear hE' hf
      have hf := hO.cells
      simp only [BC, CC, Nat.zero_add, Nat.reduceAdd, and_true] at hf
      go_wp2_with fail
      refine (HL.out r _ hr).mono ?_
      rintro e w' ⟨rfl, rfl⟩
      rw [hc]
      clear hc hr
      go_wp2_with fail
      refine (HMX.out _).mono ?_
      rintro e w7 ⟨r, rfl, hr, hc, hE'⟩
      replace hO := hO.ext hE'
      clear hE' hf
      have hf := hO.cells
      simp only [BC, CC, Nat.zero_add, Nat.reduceAdd, and_true] at hf
      go_wp2_with fail
      refine (HL.out r _ hr).mono ?_
      rintro e w' ⟨rfl, rfl⟩
      rw [hc]
      clear hc hr
      go_wp2_with fail
      refine (HPI.out _ (HT.out.ext hO.toExt)).mono ?_
      rintro e w8 ⟨r, rfl, hr, hc, hE'⟩
      replace hO := hO.ext hE'
      clear hE' hf
      have hf := hO.cells
      simp only [BC, CC, Nat.zero_add, Nat.reduceAdd, and_true] at hf
      go_wp2_with fail
      refine (HL.out r _ hr).mono ?_
      rintro e w' ⟨rfl, rfl⟩
      rw [hc]
      clear hc hr
      go_wp2_with fail
      refine (HDI.out _).mono ?_
      rintro e w9 ⟨r, rfl, hr, hc, hE'⟩
      replace hO := hO.ext hE'
      clear hE' hf
      have hf := hO.cells
      simp only [BC, CC, Nat.zero_add, Nat.reduceAdd, and_true] at hf
      go_wp2_with fail
      refine (HL.out r _ hr).mono ?_
      rintro e w' ⟨rfl, rfl⟩
      rw [hc]
      clear hc hr
      go_wp2_with fail
      go_meet
      exact ⟨rfl, hO⟩
  case rest =>
  obtain ⟨rfl, hO⟩ := hcut
  clear hf
  have hf := hO.cells
  simp only [BC, CC, Nat.zero_add, Nat.reduceAdd, and_true] at hf
  clear hbz HP2 HMX HPI HDI HF1 HAD HF0 HMU
  go_wp2_with fail
  obtain ⟨S, hS⟩ : ∃ S : World → Prop, S = Own w [⟨g, 29, [.int .u64 (x : Int), .int .u64 (y : Int)]⟩] [] := ⟨_, rfl⟩
  have hSE : ∀ w w', S w → Ext w w' → S w' := fun w w' h1 h2 => by rw [hS] at h1 ⊢; exact h1.ext h2
  have hS1 : S wc.drew := by rw [hS]; exact hO.ext (Ext.refl wc).drew
  have HS := Lib.hid hS
  clear hS hO hf
  obtain ⟨sp, hsp⟩ : ∃ sp : Nat → Sp, sp = ofList [det (.int .i64 d), det (.float .f64 x), anyOf (fun v wz => ∃ r, v = .float .f64 r ∧ r < 18446744073709551616 ∧ cn r = VS), det (.int .u64 (VS : Int)), det (.int .i64 d), det (.float .f64 x), anyOf (fun v wz => ∃ r, v = .float .f64 r ∧ r < 18446744073709551616 ∧ cn r = VS), det (.int .u64 (VS : Int)), det (.bool false), det (.bool false), det (.int .i64 d), det (.float .f64 x), anyOf (fun v wz => ∃ r, v = .float .f64 r ∧ r < 18446744073709551616 ∧ cn r = VP), det (.int .u64 (VP : Int)), det (.pointer (some ⟨g, 0, none⟩)), det (.int .u64 (x : Int)), det (.int .u64 (VP : Int)), det (.bool false), det (.bool false), det (.bool false), det (.int .i64 d), det (.float .f64 x), anyOf (fun v wz => ∃ r, v = .float .f64 r ∧ r < 18446744073709551616 ∧ cn r = VP), det (.int .u64 (VP : Int)), det (.pointer (some ⟨g, 0, none⟩)), det (.int .u64 (x : Int)), det (.int .u64 (VP : Int)), det (.bool false)] := ⟨_, rfl⟩
  have HSP := Lib.hid hsp
  clear hsp
  refine wp_region_loose 28 S sp (by kernel_rfl) (by kernel_rfl) hS1 hSE ?_
  simp only [List.take_succ_cons, List.take_zero, List.drop_succ_cons, List.drop_zero]
  refine wpX_step (fun K hK => ?_)
  go_simp
  refine StepY.det (by rw [HSP.out]; rfl) ?_ ?_
  · intro wz hz hF
    clear hz hF
    go_simp
    exact ⟨rfl, Ext.refl _⟩
  refine hK _ _ ?_
  clear hK K
  refine wpX_step (fun K hK => ?_)
  go_simp
  refine StepY.det (by rw [HSP.out]; rfl) ?_ ?_
  · intro wz hz hF
    clear hz hF
    go_simp
    exact ⟨rfl, Ext.refl _⟩
  refine hK _ _ ?_
  clear hK K
  refine wpX_step (fun K hK => ?_)
  go_simp
  refine StepY.any (by rw [HSP.out]; rfl) ?_ ?_
  · intro wz hz hF
    rw [HS.out] at hz
    have hX := hz.toExt
    clear hF hz
    go_simp
    refine (HR2.out _).mono ?_
    rintro e w2 ⟨r, rfl, hr, hc, hE1⟩
    exact ⟨_, rfl, ⟨r, rfl, hr, hc⟩, hE1⟩
  intro v1
  refine hK _ _ ?_
  clear hK K
  refine wpX_step (fun K hK => ?_)
  go_simp
  refine StepY.det (by rw [HSP.out]; rfl) ?_ ?_
  · intro wz hz hF
    obtain ⟨wa', ea, r, hv1, hr, hc⟩ := hF.any 2 (by kernel_rfl) (by rw [HSP.out]; rfl)
    clear hF hz
    simp only [asFun, List.nil_append, List.cons_append, List.getD_cons_succ, List.getD_cons_zero] at hv1
    subst hv1
    go_simp
    refine (HL.out r _ hr).mono ?_
    rintro e w5 ⟨rfl, rfl⟩
    exact ⟨_, rfl, by rw [hc]; rfl, Ext.refl _⟩
  refine hK _ _ ?_
  clear hK K
  refine wpX_step (fun K hK => ?_)
  go_simp
  refine StepY.det (by rw [HSP.out]; rfl) ?_ ?_
  · intro wz hz hF
    clear hz hF
    go_simp
    exact ⟨rfl, Ext.refl _⟩
  refine hK _ _ ?_
  clear hK K
  refine wpX_step (fun K hK => ?_)
  go_simp
  refine StepY.det (by rw [HSP.out]; rfl) ?_ ?_
  · intro wz hz hF
    clear hz hF
    go_simp
    exact ⟨rfl, Ext.refl _⟩
  refine hK _ _ ?_
  clear hK K
  refine wpX_step (fun K hK => ?_)
  go_simp
  refine StepY.any (by rw [HSP.out]; rfl) ?_ ?_
  · intro wz hz hF
    rw [HS.out] at hz
    have hX := hz.toExt
    clear hF hz
    go_simp
    refine (HSQ.out _).mono ?_
    rintro e w2 ⟨r, rfl, hr, hc, hE1⟩
    exact ⟨_, rfl, ⟨r, rfl, hr, hc⟩, hE1⟩
  intro v2
  refine hK _ _ ?_
  clear hK K
  refine wpX_step (fun K hK => ?_)
  go_simp
  refine StepY.det (by rw [HSP.out]; rfl) ?_ ?_
  · intro wz hz hF
    obtain ⟨wa', ea, r, hv1, hr, hc⟩ := hF.any 6 (by kernel_rfl) (by rw [HSP.out]; rfl)
    clear hF hz
    simp only [asFun, List.nil_append, List.cons_append, List.getD_cons_succ, List.getD_cons_zero] at hv1
    subst hv1
    go_simp
    refine (HL.out r _ hr).mono ?_
    rintro e w5 ⟨rfl, rfl⟩
    exact ⟨_, rfl, by rw [hc]; rfl, Ext.refl _⟩
  refine hK _ _ ?_
  clear hK K
  refine wpX_step (fun K hK => ?_)
  go_simp
  refine StepY.det (by rw [HSP.out]; rfl) ?_ ?_
  · intro wz hz hF
    clear hz hF
    go_simp
    exact ⟨rfl, Ext.refl _⟩
  refine hK _ _ ?_
  clear hK K
  refine wpX_step (fun K hK => ?_)
  go_simp
  refine StepY.det (by rw [HSP.out]; rfl) ?_ ?_
  · intro wz hz hF
    clear hz hF
    go_simp
    exact ⟨rfl, Ext.refl _⟩
  refine hK _ _ ?_
  clear hK K
  refine wpX_step (fun K hK => ?_)
  go_simp
  refine StepY.det (by rw [HSP.out]; rfl) ?_ ?_
  · intro wz hz hF
    clear hz hF
    go_simp
    exact ⟨rfl, Ext.refl _⟩
  refine hK _ _ ?_
  clear hK K
  refine wpX_step (fun K hK => ?_)
  go_simp
  refine StepY.det (by rw [HSP.out]; rfl) ?_ ?_
  · intro wz hz hF
    clear hz hF
    go_simp
    exact ⟨rfl, Ext.refl _⟩
  refine hK _ _ ?_
  clear hK K
  refine wpX_step (fun K hK => ?_)
  go_simp
  refine StepY.any (by rw [HSP.out]; rfl) ?_ ?_
  · intro wz hz hF
    rw [HS.out] at hz
    have hX := hz.toExt
    clear hF hz
    go_simp
    refine (HP1.out _ (HT.out.ext hX)).mono ?_
    rintro e w2 ⟨r, rfl, hr, hc, hE1⟩
    exact ⟨_, rfl, ⟨r, rfl, hr, hc⟩, hE1⟩
  intro v3
  refine hK _ _ ?_
  clear hK K
  refine wpX_step (fun K hK => ?_)
  go_simp
  refine StepY.det (by rw [HSP.out]; rfl) ?_ ?_
  · intro wz hz hF
    obtain ⟨wa', ea, r, hv1, hr, hc⟩ := hF.any 12 (by kernel_rfl) (by rw [HSP.out]; rfl)
    clear hF hz
    simp only [asFun, List.nil_append, List.cons_append, List.getD_cons_succ, List.getD_cons_zero] at hv1
    subst hv1
    go_simp
    refine (HL.out r _ hr).mono ?_
    rintro e w5 ⟨rfl, rfl⟩
    exact ⟨_, rfl, by rw [hc]; rfl, Ext.refl _⟩
  refine hK _ _ ?_
  clear hK K
  refine wpX_step (fun K hK => ?_)
  go_simp
  refine StepY.det (by rw [HSP.out]; rfl) ?_ ?_
  · intro wz hz hF
    clear hz hF
    go_simp
    exact ⟨rfl, Ext.refl _⟩
  refine hK _ _ ?_
  clear hK K
  refine wpX_step (fun K hK => ?_)
  go_simp
  refine StepY.det (by rw [HSP.out]; rfl) ?_ ?_
  · intro wz hz hF
    rw [HS.out] at hz
    have hf := hz.cells
    simp only [BC, CC, Nat.zero_add, Nat.reduceAdd, and_true] at hf
    clear hz hF
    go_simp
    exact ⟨rfl, Ext.refl _⟩
  refine hK _ _ ?_
  clear hK K
  refine wpX_step (fun K hK => ?_)
  go_simp
  refine StepY.det (by rw [HSP.out]; rfl) ?_ ?_
  · intro wz hz hF
    clear hz hF
    go_simp
    refine (HPL.out _).mono ?_
    rintro e w5 ⟨rfl, rfl⟩
    exact ⟨_, rfl, rfl, Ext.refl _⟩
  refine hK _ _ ?_
  clear hK K
  refine wpX_step (fun K hK => ?_)
  go_simp
  refine StepY.det (by rw [HSP.out]; rfl) ?_ ?_
  · intro wz hz hF
    clear hz hF
    go_simp
    exact ⟨rfl, Ext.refl _⟩
  refine hK _ _ ?_
  clear hK K
  refine wpX_step (fun K hK => ?_)
  go_simp
  refine StepY.det (by rw [HSP.out]; rfl) ?_ ?_
  · intro wz hz hF
    clear hz hF
    go_simp
    exact ⟨rfl, Ext.refl _⟩
  refine hK _ _ ?_
  clear hK K
  refine wpX_step (fun K hK => ?_)
  go_simp
  refine StepY.det (by rw [HSP.out]; rfl) ?_ ?_
  · intro wz hz hF
    clear hz hF
    go_simp
    exact ⟨rfl, Ext.refl _⟩
  refine hK _ _ ?_
  clear hK K
  refine wpX_step (fun K hK => ?_)
  go_simp
  refine StepY.det (by rw [HSP.out]; rfl) ?_ ?_
  · intro wz hz hF
    clear hz hF
    go_simp
    exact ⟨rfl, Ext.refl _⟩
  refine hK _ _ ?_
  clear hK K
  refine wpX_step (fun K hK => ?_)
  go_simp
  refine StepY.det (by rw [HSP.out]; rfl) ?_ ?_
  · intro wz hz hF
    clear hz hF
    go_simp
    exact ⟨rfl, Ext.refl _⟩
  refine hK _ _ ?_
  clear hK K
  refine wpX_step (fun K hK => ?_)
  go_simp
  refine StepY.any (by rw [HSP.out]; rfl) ?_ ?_
  · intro wz hz hF
    rw [HS.out] at hz
    have hX := hz.toExt
    clear hF hz
    go_simp
    refine (HR1.out _).mono ?_
    rintro e w2 ⟨r, rfl, hr, hc, hE1⟩
    exact ⟨_, rfl, ⟨r, rfl, hr, hc⟩, hE1⟩
  intro v4
  refine hK _ _ ?_
  clear hK K
  refine wpX_step (fun K hK => ?_)
  go_simp
  refine StepY.det (by rw [HSP.out]; rfl) ?_ ?_
  · intro wz hz hF
    obtain ⟨wa', ea, r, hv1, hr, hc⟩ := hF.any 22 (by kernel_rfl) (by rw [HSP.out]; rfl)
    clear hF hz
    simp only [asFun, List.nil_append, List.cons_append, List.getD_cons_succ, List.getD_cons_zero] at hv1
    subst hv1
    go_simp
    refine (HL.out r _ hr).mono ?_
    rintro e w5 ⟨rfl, rfl⟩
    exact ⟨_, rfl, by rw [hc]; rfl, Ext.refl _⟩
  refine hK _ _ ?_
  clear hK K
  refine wpX_step (fun K hK => ?_)
  go_simp
  refine StepY.det (by rw [HSP.out]; rfl) ?_ ?_
  · intro wz hz hF
    clear hz hF
    go_simp
    exact ⟨rfl, Ext.refl _⟩
  refine hK _ _ ?_
  clear hK K
  refine wpX_step (fun K hK => ?_)
  go_simp
  refine StepY.det (by rw [HSP.out]; rfl) ?_ ?_
  · intro wz hz hF
    rw [HS.out] at hz
    have hf := hz.cells
    simp only [BC, CC, Nat.zero_add, Nat.reduceAdd, and_true] at hf
    clear hz hF
    go_simp
    exact ⟨rfl, Ext.refl _⟩
  refine hK _ _ ?_
  clear hK K
  refine wpX_step (fun K hK => ?_)
  go_simp
  refine StepY.det (by rw [HSP.out]; rfl) ?_ ?_
  · intro wz hz hF
    clear hz hF
    go_simp
    refine (HPL.out _).mono ?_
    rintro e w5 ⟨rfl, rfl⟩
    exact ⟨_, rfl, rfl, Ext.refl _⟩
  refine hK _ _ ?_
  clear hK K
  refine wpX_step (fun K hK => ?_)
  go_simp
  refine StepY.det (by rw [HSP.out]; rfl) ?_ ?_
  · intro wz hz hF
    clear hz hF
    go_simp
    exact ⟨rfl, Ext.refl _⟩
  refine hK _ _ ?_
  clear hK K
  refine wpX_nil ?_
  intro wq hz hF
  clear hF
  rw [HS.out] at hz
  have hO := hz
  clear hz HS HSP
  have hf := hO.cells
  simp only [BC, CC, Nat.zero_add, Nat.reduceAdd, and_true] at hf
  cases fx
  · go_wp2_with (first | (go_at_call 20; (with_reducible refine (HFX.out _).mono ?_); rintro e w' ⟨rfl, rfl⟩) | (go_at_call 20; (with_reducible refine (HFY.out _).mono ?_); rintro e w' ⟨rfl, rfl⟩))
    refine (HLV.out _).mono ?_
    rintro e w' ⟨rfl, hE'⟩
    have hEE := hO.toExt.trans hE'
    clear hO hf hE'
    go_wp2
    go_ret
    exact ⟨rfl, hEE⟩
  cases fy
  · go_wp2_with (first | (go_at_call 20; (with_reducible refine (HFX.out _).mono ?_); rintro e w' ⟨rfl, rfl⟩) | (go_at_call 20; (with_reducible refine (HFY.out _).mono ?_); rintro e w' ⟨rfl, rfl⟩))
    refine (HLV.out _).mono ?_
    rintro e w' ⟨rfl, hE'⟩
    have hEE := hO.toExt.trans hE'
    clear hO hf hE'
    go_wp2
    go_ret
    exact ⟨rfl, hEE⟩
  obtain ⟨sx, sy, N1, D1, N2, D2, P, Q, L, sv, V1, V2, HR, HQ, hsv⟩ := HP.out rfl rfl
  have hLw : IntKind.i64.wrap (1 - L) = 1 - L := by
    have := HR.lb.out
    exact IntWalk.i64_in _ (by omega)
  go_wp2_with (first | (go_at_call 20; (with_reducible refine (HFX.out _).mono ?_); rintro e w' ⟨rfl, rfl⟩) | (go_at_call 20; (with_reducible refine (HFY.out _).mono ?_); rintro e w' ⟨rfl, rfl⟩))
  refine (HR.fx.out _).mono ?_
  rintro e w11 ⟨A1, l1, c1, B1, k1, d1, rfl, hW1, hW2, hE1⟩
  have hO := ((hO.ext hE1).add hW1).add hW2
  clear hW1 hW2 hE1
  clear hf
  have hf := hO.cells
  simp only [BC, CC, Nat.zero_add, Nat.reduceAdd, and_true] at hf
  go_wp2_with (first | ((with_reducible refine at_alloc ?_); refine own_alloc hO zero_rat rfl rfl ?_; clear hO; intro ga wa hO; clear hf; have hf := hO.cells; simp only [BC, CC, Nat.zero_add, Nat.reduceAdd, and_true] at hf) | ((with_reducible refine at_store (T := 38) ?_); refine own_store (T := 38) hO 0 rfl rfl rfl size_rat rfl rfl rfl ?_; clear hO; intro wb hO; simp only [List.set_cons_zero, List.set_cons_succ, spl, List.take_succ_cons, List.take_zero, List.nil_append, List.cons_append, List.length_cons, List.length_nil, List.drop_succ_cons, List.drop_zero, List.drop_nil, Nat.reduceAdd, Nat.zero_add, List.append_nil] at hO; clear hf; have hf := hO.cells; simp only [BC, CC, Nat.zero_add, Nat.reduceAdd, and_true] at hf))
  refine (HR.fy.out _).mono ?_
  rintro e w12 ⟨A2, l2, c2, B2, k2, d2, rfl, hW1, hW2, hE1⟩
  have hO := ((hO.ext hE1).add hW1).add hW2
  clear hW1 hW2 hE1
  clear hf
  have hf := hO.cells
  simp only [BC, CC, Nat.zero_add, Nat.reduceAdd, and_true] at hf
  go_wp2_with (first | ((with_reducible refine at_alloc ?_); refine own_alloc hO zero_rat rfl rfl ?_; clear hO; intro gb wc hO; clear hf; have hf := hO.cells; simp only [BC, CC, Nat.zero_add, Nat.reduceAdd, and_true] at hf) | ((with_reducible refine at_store (T := 38) ?_); refine own_store (T := 38) hO 0 rfl rfl rfl size_rat rfl rfl rfl ?_; clear hO; intro wd hO; simp only [List.set_cons_zero, List.set_cons_succ, spl, List.take_succ_cons, List.take_zero, List.nil_append, List.cons_append, List.length_cons, List.length_nil, List.drop_succ_cons, List.drop_zero, List.drop_nil, Nat.reduceAdd, Nat.zero_add, List.append_nil] at hO; clear hf; have hf := hO.cells; simp only [BC, CC, Nat.zero_add, Nat.reduceAdd, and_true] at hf))
  obtain ⟨S, hS⟩ : ∃ S : World → Prop, S = Own w [⟨gb, 38, [.bool sy, .slice A2 l2 c2, .slice B2 k2 d2]⟩, ⟨ga, 38, [.bool sx, .slice A1 l1 c1, .slice B1 k1 d1]⟩, ⟨g, 29, [.int .u64 (x : Int), .int .u64 (y : Int)]⟩] [⟨B2, k2, d2, nd D2⟩, ⟨A2, l2, c2, nd N2⟩, ⟨B1, k1, d1, nd D1⟩, ⟨A1, l1, c1, nd N1⟩] := ⟨_, rfl⟩
  have hSE : ∀ w w', S w → Ext w w' → S w' := fun w w' h1 h2 => by rw [hS] at h1 ⊢; exact h1.ext h2
  have hS1 : S wd.drew := by rw [hS]; exact hO.ext (Ext.refl wd).drew
  have HS := Lib.hid hS
  clear hS hO hf
  obtain ⟨sp, hsp⟩ : ∃ sp : Nat → Sp, sp = ofList [det (.int .i64 d), det (.pointer (some ⟨ga, 0, none⟩)), det (.bool sx), det (.pointer (some ⟨ga, 1, none⟩)), det (.slice A1 l1 c1), det (.pointer (some ⟨ga, 2, none⟩)), det (.slice B1 k1 d1), det (.int .i64 L), det (.int .i64 (1 - L)), anyOf (fun v wz => ∃ r, v = .float .f64 r ∧ r < 18446744073709551616 ∧ cn r = V1), det (.int .u64 (V1 : Int)), det (.int .i64 d), det (.pointer (some ⟨ga, 0, none⟩)), det (.bool sx), det (.pointer (some ⟨ga, 1, none⟩)), det (.slice A1 l1 c1), det (.pointer (some ⟨ga, 2, none⟩)), det (.slice B1 k1 d1), anyOf (fun v wz => ∃ r, v = .float .f64 r ∧ r < 18446744073709551616 ∧ cn r = V1), det (.int .u64 (V1 : Int)), det (.bool false), det (.bool false), det (.int .i64 d), det (.pointer (some ⟨ga, 0, none⟩)), det (.bool sx), det (.pointer (some ⟨ga, 1, none⟩)), det (.slice A1 l1 c1), det (.pointer (some ⟨ga, 2, none⟩)), det (.slice B1 k1 d1), anyOf (fun v wz => ∃ r, v = .float .f64 r ∧ r < 18446744073709551616 ∧ cn r = V1), det (.int .u64 (V1 : Int)), det (.pointer (some ⟨g, 0, none⟩)), det (.int .u64 (x : Int)), det (.int .u64 (V1 : Int))] := ⟨_, rfl⟩
  have HSP := Lib.hid hsp
  clear hsp
  refine wp_region_loose 34 S sp (by kernel_rfl) (by kernel_rfl) hS1 hSE ?_
  simp only [List.take_succ_cons, List.take_zero, List.drop_succ_cons, List.drop_zero]
  refine wpX_step (fun K hK => ?_)
  go_simp
  refine StepY.det (by rw [HSP.out]; rfl) ?_ ?_
  · intro wz hz hF
    clear hz hF
    go_simp
    exact ⟨rfl, Ext.refl _⟩
  refine hK _ _ ?_
  clear hK K
  refine wpX_step (fun K hK => ?_)
  go_simp
  refine StepY.det (by rw [HSP.out]; rfl) ?_ ?_
  · intro wz hz hF
    clear hz hF
    go_simp
    exact ⟨rfl, Ext.refl _⟩
  refine hK _ _ ?_
  clear hK K
  refine wpX_step (fun K hK => ?_)
  go_simp
  refine StepY.det (by rw [HSP.out]; rfl) ?_ ?_
  · intro wz hz hF
    rw [HS.out] at hz
    have hf := hz.cells
    simp only [BC, CC, Nat.zero_add, Nat.reduceAdd, and_true] at hf
    clear hz hF
    go_simp
    exact ⟨rfl, Ext.refl _⟩
  refine hK _ _ ?_
  clear hK K
  refine wpX_step (fun K hK => ?_)
  go_simp
  refine StepY.det (by rw [HSP.out]; rfl) ?_ ?_
  · intro wz hz hF
    clear hz hF
    go_simp
    exact ⟨rfl, Ext.refl _⟩
  refine hK _ _ ?_
  clear hK K
  refine wpX_step (fun K hK => ?_)
  go_simp
  refine StepY.det (by rw [HSP.out]; rfl) ?_ ?_
  · intro wz hz hF
    rw [HS.out] at hz
    have hf := hz.cells
    simp only [BC, CC, Nat.zero_add, Nat.reduceAdd, and_true] at hf
    clear hz hF
    go_simp
    exact ⟨rfl, Ext.refl _⟩
  refine hK _ _ ?_
  clear hK K
  refine wpX_step (fun K hK => ?_)
  go_simp
  refine StepY.det (by rw [HSP.out]; rfl) ?_ ?_
  · intro wz hz hF
    clear hz hF
    go_simp
    exact ⟨rfl, Ext.refl _⟩
  refine hK _ _ ?_
  clear hK K
  refine wpX_step (fun K hK => ?_)
  go_simp
  refine StepY.det (by rw [HSP.out]; rfl) ?_ ?_
  · intro wz hz hF
    rw [HS.out] at hz
    have hf := hz.cells
    simp only [BC, CC, Nat.zero_add, Nat.reduceAdd, and_true] at hf
    clear hz hF
    go_simp
    exact ⟨rfl, Ext.refl _⟩
  refine hK _ _ ?_
  clear hK K
  refine wpX_step (fun K hK => ?_)
  go_simp
  refine StepY.det (by rw [HSP.out]; rfl) ?_ ?_
  · intro wz hz hF
    rw [HS.out] at hz
    have hD := hz.wd 2 rfl
    clear hF hz
    go_simp
    refine (HR.ln.out _ _ _ _ hD).mono ?_
    rintro e w5 ⟨rfl, rfl⟩
    exact ⟨_, rfl, rfl, Ext.refl _⟩
  refine hK _ _ ?_
  clear hK K
  refine wpX_step (fun K hK => ?_)
  go_simp
  refine StepY.det (by rw [HSP.out]; rfl) ?_ ?_
  · intro wz hz hF
    clear hz hF
    go_simp
    exact ⟨rfl, Ext.refl _⟩
  refine hK _ _ ?_
  clear hK K
  refine wpX_step (fun K hK => ?_)
  go_simp
  refine StepY.any (by rw [HSP.out]; rfl) ?_ ?_
  · intro wz hz hF
    rw [HS.out] at hz
    have hN := hz.wd 3 rfl
    clear hF hz
    go_simp
    refine (HR.of.out _ _ _ _ hN).mono ?_
    rintro e w2 ⟨r, rfl, hr, hc, hE1⟩
    exact ⟨_, rfl, ⟨r, rfl, hr, hc⟩, hE1⟩
  intro v1
  refine hK _ _ ?_
  clear hK K
  refine wpX_step (fun K hK => ?_)
  go_simp
  refine StepY.det (by rw [HSP.out]; rfl) ?_ ?_
  · intro wz hz hF
    obtain ⟨wa', ea, r, hv1, hr, hc⟩ := hF.any 9 (by kernel_rfl) (by rw [HSP.out]; rfl)
    clear hF hz
    simp only [asFun, List.nil_append, List.cons_append, List.getD_cons_succ, List.getD_cons_zero] at hv1
    subst hv1
    go_simp
    refine (HL.out r _ hr).mono ?_
    rintro e w5 ⟨rfl, rfl⟩
    exact ⟨_, rfl, by rw [hc]; rfl, Ext.refl _⟩
  refine hK _ _ ?_
  clear hK K
  refine wpX_step (fun K hK => ?_)
  go_simp
  refine StepY.det (by rw [HSP.out]; rfl) ?_ ?_
  · intro wz hz hF
    clear hz hF
    go_simp
    exact ⟨rfl, Ext.refl _⟩
  refine hK _ _ ?_
  clear hK K
  refine wpX_step (fun K hK => ?_)
  go_simp
  refine StepY.det (by rw [HSP.out]; rfl) ?_ ?_
  · intro wz hz hF
    clear hz hF
    go_simp
    exact ⟨rfl, Ext.refl _⟩
  refine hK _ _ ?_
  clear hK K
  refine wpX_step (fun K hK => ?_)
  go_simp
  refine StepY.det (by rw [HSP.out]; rfl) ?_ ?_
  · intro wz hz hF
    rw [HS.out] at hz
    have hf := hz.cells
    simp only [BC, CC, Nat.zero_add, Nat.reduceAdd, and_true] at hf
    clear hz hF
    go_simp
    exact ⟨rfl, Ext.refl _⟩
  refine hK _ _ ?_
  clear hK K
  refine wpX_step (fun K hK => ?_)
  go_simp
  refine StepY.det (by rw [HSP.out]; rfl) ?_ ?_
  · intro wz hz hF
    clear hz hF
    go_simp
    exact ⟨rfl, Ext.refl _⟩
  refine hK _ _ ?_
  clear hK K
  refine wpX_step (fun K hK => ?_)
  go_simp
  refine StepY.det (by rw [HSP.out]; rfl) ?_ ?_
  · intro wz hz hF
    rw [HS.out] at hz
    have hf := hz.cells
    simp only [BC, CC, Nat.zero_add, Nat.reduceAdd, and_true] at hf
    clear hz hF
    go_simp
    exact ⟨rfl, Ext.refl _⟩
  refine hK _ _ ?_
  clear hK K
  refine wpX_step (fun K hK => ?_)
  go_simp
  refine StepY.det (by rw [HSP.out]; rfl) ?_ ?_
  · intro wz hz hF
    clear hz hF
    go_simp
    exact ⟨rfl, Ext.refl _⟩
  refine hK _ _ ?_
  clear hK K
  refine wpX_step (fun K hK => ?_)
  go_simp
  refine StepY.det (by rw [HSP.out]; rfl) ?_ ?_
  · intro wz hz hF
    rw [HS.out] at hz
    have hf := hz.cells
    simp only [BC, CC, Nat.zero_add, Nat.reduceAdd, and_true] at hf
    clear hz hF
    go_simp
    exact ⟨rfl, Ext.refl _⟩
  refine hK _ _ ?_
  clear hK K
  refine wpX_step (fun K hK => ?_)
  go_simp
  refine StepY.any (by rw [HSP.out]; rfl) ?_ ?_
  · intro wz hz hF
    rw [HS.out] at hz
    have hN := hz.wd 3 rfl
    have hD := hz.wd 2 rfl
    clear hF hz
    go_simp
    refine (HR.ra.out _ _ _ _ _ _ _ hN hD).mono ?_
    rintro e w2 ⟨r, rfl, hr, hc, hE1⟩
    exact ⟨_, rfl, ⟨r, rfl, hr, hc⟩, hE1⟩
  intro v2
  refine hK _ _ ?_
  clear hK K
  refine wpX_step (fun K hK => ?_)
  go_simp
  refine StepY.det (by rw [HSP.out]; rfl) ?_ ?_
  · intro wz hz hF
    obtain ⟨wa', ea, r, hv1, hr, hc⟩ := hF.any 18 (by kernel_rfl) (by rw [HSP.out]; rfl)
    clear hF hz
    simp only [asFun, List.nil_append, List.cons_append, List.getD_cons_succ, List.getD_cons_zero] at hv1
    subst hv1
    go_simp
    refine (HL.out r _ hr).mono ?_
    rintro e w5 ⟨rfl, rfl⟩
    exact ⟨_, rfl, by rw [hc]; rfl, Ext.refl _⟩
  refine hK _ _ ?_
  clear hK K
  refine wpX_step (fun K hK => ?_)
  go_simp
  refine StepY.det (by rw [HSP.out]; rfl) ?_ ?_
  · intro wz hz hF
    clear hz hF
    go_simp
    exact ⟨rfl, Ext.refl _⟩
  refine hK _ _ ?_
  clear hK K
  refine wpX_step (fun K hK => ?_)
  go_simp
  refine StepY.det (by rw [HSP.out]; rfl) ?_ ?_
  · intro wz hz hF
    clear hz hF
    go_simp
    exact ⟨rfl, Ext.refl _⟩
  refine hK _ _ ?_
  clear hK K
  refine wpX_step (fun K hK => ?_)
  go_simp
  refine StepY.det (by rw [HSP.out]; rfl) ?_ ?_
  · intro wz hz hF
    clear hz hF
    go_simp
    exact ⟨rfl, Ext.refl _⟩
  refine hK _ _ ?_
  clear hK K
  refine wpX_step (fun K hK => ?_)
  go_simp
  refine StepY.det (by rw [HSP.out]; rfl) ?_ ?_
  · intro wz hz hF
    clear hz hF
    go_simp
    exact ⟨rfl, Ext.refl _⟩
  refine hK _ _ ?_
  clear hK K
  refine wpX_step (fun K hK => ?_)
  go_simp
  refine StepY.det (by rw [HSP.out]; rfl) ?_ ?_
  · intro wz hz hF
    rw [HS.out] at hz
    have hf := hz.cells
    simp only [BC, CC, Nat.zero_add, Nat.reduceAdd, and_true] at hf
    clear hz hF
    go_simp
    exact ⟨rfl, Ext.refl _⟩
  refine hK _ _ ?_
  clear hK K
  refine wpX_step (fun K hK => ?_)
  go_simp
  refine StepY.det (by rw [HSP.out]; rfl) ?_ ?_
  · intro wz hz hF
    clear hz hF
    go_simp
    exact ⟨rfl, Ext.refl _⟩
  refine hK _ _ ?_
  clear hK K
  refine wpX_step (fun K hK => ?_)
  go_simp
  refine StepY.det (by rw [HSP.out]; rfl) ?_ ?_
  · intro wz hz hF
    rw [HS.out] at hz
    have hf := hz.cells
    simp only [BC, CC, Nat.zero_add, Nat.reduceAdd, and_true] at hf
    clear hz hF
    go_simp
    exact ⟨rfl, Ext.refl _⟩
  refine hK _ _ ?_
  clear hK K
  refine wpX_step (fun K hK => ?_)
  go_simp
  refine StepY.det (by rw [HSP.out]; rfl) ?_ ?_
  · intro wz hz hF
    clear hz hF
    go_simp
    exact ⟨rfl, Ext.refl _⟩
  refine hK _ _ ?_
  clear hK K
  refine wpX_step (fun K hK => ?_)
  go_simp
  refine StepY.det (by rw [HSP.out]; rfl) ?_ ?_
  · intro wz hz hF
    rw [HS.out] at hz
    have hf := hz.cells
    simp only [BC, CC, Nat.zero_add, Nat.reduceAdd, and_true] at hf
    clear hz hF
    go_simp
    exact ⟨rfl, Ext.refl _⟩
  refine hK _ _ ?_
  clear hK K
  refine wpX_step (fun K hK => ?_)
  go_simp
  refine StepY.any (by rw [HSP.out]; rfl) ?_ ?_
  · intro wz hz hF
    rw [HS.out] at hz
    have hN := hz.wd 3 rfl
    have hD := hz.wd 2 rfl
    clear hF hz
    go_simp
    refine (HR.ra.out _ _ _ _ _ _ _ hN hD).mono ?_
    rintro e w2 ⟨r, rfl, hr, hc, hE1⟩
    exact ⟨_, rfl, ⟨r, rfl, hr, hc⟩, hE1⟩
  intro v3
  refine hK _ _ ?_
  clear hK K
  refine wpX_step (fun K hK => ?_)
  go_simp
  refine StepY.det (by rw [HSP.out]; rfl) ?_ ?_
  · intro wz hz hF
    obtain ⟨wa', ea, r, hv1, hr, hc⟩ := hF.any 29 (by kernel_rfl) (by rw [HSP.out]; rfl)
    clear hF hz
    simp only [asFun, List.nil_append, List.cons_append, List.getD_cons_succ, List.getD_cons_zero] at hv1
    subst hv1
    go_simp
    refine (HL.out r _ hr).mono ?_
    rintro e w5 ⟨rfl, rfl⟩
    exact ⟨_, rfl, by rw [hc]; rfl, Ext.refl _⟩
  refine hK _ _ ?_
  clear hK K
  refine wpX_step (fun K hK => ?_)
  go_simp
  refine StepY.det (by rw [HSP.out]; rfl) ?_ ?_
  · intro wz hz hF
    clear hz hF
    go_simp
    exact ⟨rfl, Ext.refl _⟩
  refine hK _ _ ?_
  clear hK K
  refine wpX_step (fun K hK => ?_)
  go_simp
  refine StepY.det (by rw [HSP.out]; rfl) ?_ ?_
  · intro wz hz hF
    rw [HS.out] at hz
    have hf := hz.cells
    simp only [BC, CC, Nat.zero_add, Nat.reduceAdd, and_true] at hf
    clear hz hF
    go_simp
    exact ⟨rfl, Ext.refl _⟩
  refine hK _ _ ?_
  clear hK K
  refine wpX_step (fun K hK => ?_)
  go_simp
  refine StepY.det (by rw [HSP.out]; rfl) ?_ ?_
  · intro wz hz hF
    clear hz hF
    go_simp
    refine (HR.pl.out _).mono ?_
    rintro e w5 ⟨rfl, rfl⟩
    exact ⟨_, rfl, rfl, Ext.refl _⟩
  refine hK _ _ ?_
  clear hK K
  refine wpX_nil ?_
  intro wq hz hF
  clear hF
  rw [HS.out] at hz
  have hO := hz
  clear hz HS HSP
  have hf := hO.cells
  simp only [BC, CC, Nat.zero_add, Nat.reduceAdd, and_true] at hf
  go_upto_region 15 with fail
  have hkk : decide (n < 1) = true ∨ (decide (n < 1) = false ∧ decide (1000000 < n) = true) ∨ (decide (n < 1) = false ∧ decide (1000000 < n) = false) := by
    rcases Int.lt_or_le n 1 with h | h
    · exact .inl (decide_eq_true h)
    · refine .inr ?_
      rcases Int.lt_or_le 1000000 n with h2 | h2
      · exact .inl ⟨decide_eq_false (by omega), decide_eq_true h2⟩
      · exact .inr ⟨decide_eq_false (by omega), decide_eq_false (by omega)⟩
  go_cut [159] from 154 (fun s wx => (s = .bool true ∨ (s = .bool false ∧ 1 ≤ n ∧ n ≤ 1000000)) ∧ wx = wq)
  case first =>
    rcases hkk with u1 | ⟨u1, u2⟩ | ⟨u1, u2⟩
    · go_wp2_with fail
      go_meet
      exact ⟨.inl rfl, rfl⟩
    · go_wp2_with fail
      go_meet
      exact ⟨.inl rfl, rfl⟩
    · have p1 := of_decide_eq_false u1
      have p2 := of_decide_eq_false u2
      go_wp2_with fail
      go_meet
      exact ⟨.inr ⟨rfl, by omega, by omega⟩, rfl⟩
  case rest =>
  obtain ⟨hs, rfl⟩ := hcut
  clear hkk
  go_upto_if 159 with fail
  go_cut [2] from 154 (fun s wx => (∃ K : Nat, s = .int .i64 (K : Int) ∧ 1 ≤ K ∧ K ≤ 1000000) ∧ wx = wc)
  case first =>
    rcases hs with rfl | ⟨rfl, p1, p2⟩
    · go_wp2_with fail
      go_meet
      exact ⟨⟨3, rfl, by omega, by omega⟩, rfl⟩
    · go_wp2_with fail
      go_meet
      exact ⟨⟨n.toNat, by rw [Int.toNat_of_nonneg (by omega)], by omega, by omega⟩, rfl⟩
  case rest =>
  obtain ⟨⟨K, rfl, hK1, hK2⟩, rfl⟩ := hcut
  clear hs
  have hKw : IntKind.u64.wrap (K : Int) = (K : Int) := by rw [IntKind.wrap_u64]; omega
  have HSM := Lib.hid (fun w => small_any (K : Int) w (by omega) (by omega))
  rw [show (K : Int).toNat = K from rfl] at HSM
  go_wp2_with fail
  refine (HSM.out _).mono ?_
  rintro e w21 ⟨A5, l5, c5, rfl, hW1, hE1⟩
  have hO := (hO.ext hE1).add hW1
  clear hW1 hE1
  clear hf
  have hf := hO.cells
  simp only [BC, CC, Nat.zero_add, Nat.reduceAdd, and_true] at hf
  go_wp2_with fail
  refine (HR.sg.out _ _ _ _ _ _ _ (hO.wd 2 rfl)).mono ?_
  rintro e w22 ⟨rfl, hE1⟩
  have hO := hO.ext hE1
  clear hE1
  clear hf
  have hf := hO.cells
  simp only [BC, CC, Nat.zero_add, Nat.reduceAdd, and_true] at hf
  rcases hsv with hsv | hsv
  · obtain ⟨PK, QK, PL, HQQ⟩ := HQ.out hsv K (by omega) (by omega)
    go_wp2_with fail
    refine (HR.t1.out _ _ _ _ _ _ _ (hO.wd 4 rfl) (hO.wd 1 rfl)).mono ?_
    rintro e w23 ⟨A3, l3, c3, rfl, hW1, hE1⟩
    have hO := (hO.ext hE1).add hW1
    clear hW1 hE1
    clear hf
    have hf := hO.cells
    simp only [BC, CC, Nat.zero_add, Nat.reduceAdd, and_true] at hf
    go_wp2_with fail
    refine (HR.t2.out _ _ _ _ _ _ _ (hO.wd 4 rfl) (hO.wd 3 rfl)).mono ?_
    rintro e w24 ⟨A4, l4, c4, rfl, hW1, hE1⟩
    have hO := (hO.ext hE1).add hW1
    clear hW1 hE1
    clear hf
    have hf := hO.cells
    simp only [BC, CC, Nat.zero_add, Nat.reduceAdd, and_true] at hf
    go_wp2_with fail
    refine (HQQ.rq.out _ _ _ _ _ _ _ (hO.wd 1 rfl) (hO.wd 0 rfl)).mono ?_
    rintro e w25 ⟨r, rfl, hr, hc, hE1⟩
    have hO := hO.ext hE1
    clear hE1
    clear hf
    have hf := hO.cells
    simp only [BC, CC, Nat.zero_add, Nat.reduceAdd, and_true] at hf
    go_wp2_with fail
    refine (HL.out r _ hr).mono ?_
    rintro e w' ⟨rfl, rfl⟩
    rw [hc]
    clear hc hr
    go_wp2_with fail
    obtain ⟨S, hS⟩ : ∃ S : World → Prop, S = Own w [⟨gb, 38, [.bool sy, .slice A2 l2 c2, .slice B2 k2 d2]⟩, ⟨ga, 38, [.bool sx, .slice A1 l1 c1, .slice B1 k1 d1]⟩, ⟨g, 29, [.int .u64 (x : Int), .int .u64 (y : Int)]⟩] [⟨A4, l4, c4, nd Q⟩, ⟨A3, l3, c3, nd P⟩, ⟨A5, l5, c5, nd K⟩, ⟨B2, k2, d2, nd D2⟩, ⟨A2, l2, c2, nd N2⟩, ⟨B1, k1, d1, nd D1⟩, ⟨A1, l1, c1, nd N1⟩] := ⟨_, rfl⟩
    have hSE : ∀ w w', S w → Ext w w' → S w' := fun w w' h1 h2 => by rw [hS] at h1 ⊢; exact h1.ext h2
    have hS1 : S w25.drew := by rw [hS]; exact hO.ext (Ext.refl w25).drew
    have HS := Lib.hid hS
    clear hS hO hf
    obtain ⟨sp, hsp⟩ : ∃ sp : Nat → Sp, sp = ofList [det (.int .u64 (V2 : Int)), det (.int .i64 d), det (.float .f64 x), det (.float .f64 y), anyOf (fun v wz => ∃ r, v = .float .f64 r ∧ r < 18446744073709551616 ∧ cn r = V2), det (.int .u64 (V2 : Int)), det (.bool false), det (.bool false), det (.int .u64 (V2 : Int)), det (.int .i64 d), det (.pointer (some ⟨ga, 0, none⟩)), det (.bool sx), det (.pointer (some ⟨gb, 0, none⟩)), det (.bool sy), det (.bool (!(sx == sy))), det (.slice A3 l3 c3), det (.slice A5 l5 c5), anyOf (fun v wz => ∃ A n c, v = .slice A n c ∧ Wds wz A n c (nd PK)), det (.slice A4 l4 c4), det (.slice A5 l5 c5), anyOf (fun v wz => ∃ A n c, v = .slice A n c ∧ Wds wz A n c (nd QK)), anyOf (fun v wz => ∃ r, v = .float .f64 r ∧ r < 18446744073709551616 ∧ cn r = V2), det (.int .u64 (V2 : Int)), det (.bool false), det (.bool false), det (.bool false), det (.int .u64 (V2 : Int)), det (.int .i64 d), det (.pointer (some ⟨ga, 0, none⟩)), det (.bool sx), det (.pointer (some ⟨gb, 0, none⟩)), det (.bool sy), det (.bool (!(sx == sy))), det (.slice A3 l3 c3), anyOf (fun v wz => ∃ A n c, v = .slice A n c ∧ Wds wz A n c (nd PL)), det (.slice A4 l4 c4), anyOf (fun v wz => ∃ r, v = .float .f64 r ∧ r < 18446744073709551616 ∧ cn r = V2), det (.int .u64 (V2 : Int))] := ⟨_, rfl⟩
    have HSP := Lib.hid hsp
    clear hsp
    refine wp_region_loose 38 S sp (by kernel_rfl) (by kernel_rfl) hS1 hSE ?_
    simp only [List.take_succ_cons, List.take_zero, List.drop_succ_cons, List.drop_zero]
    refine wpX_step (fun K hK => ?_)
    go_simp
    refine StepY.det (by rw [HSP.out]; rfl) ?_ ?_
    · intro wz hz hF
      clear hz hF
      go_simp
      exact ⟨rfl, Ext.refl _⟩
    refine hK _ _ ?_
    clear hK K
    refine wpX_step (fun K hK => ?_)
    go_simp
    refine StepY.det (by rw [HSP.out]; rfl) ?_ ?_
    · intro wz hz hF
      clear hz hF
      go_simp
      exact ⟨rfl, Ext.refl _⟩
    refine hK _ _ ?_
    clear hK K
    refine wpX_step (fun K hK => ?_)
    go_simp
    refine StepY.det (by rw [HSP.out]; rfl) ?_ ?_
    · intro wz hz hF
      clear hz hF
      go_simp
      exact ⟨rfl, Ext.refl _⟩
    refine hK _ _ ?_
    clear hK K
    refine wpX_step (fun K hK => ?_)
    go_simp
    refine StepY.det (by rw [HSP.out]; rfl) ?_ ?_
    · intro wz hz hF
      clear hz hF
      go_simp
      exact ⟨rfl, Ext.refl _⟩
    refine hK _ _ ?_
    clear hK K
    refine wpX_step (fun K hK => ?_)
    go_simp
    refine StepY.any (by rw [HSP.out]; rfl) ?_ ?_
    · intro wz hz hF
      rw [HS.out] at hz
      have hX := hz.toExt
      clear hF hz
      go_simp
      refine (HQQ.dv.out _).mono ?_
      rintro e w2 ⟨r, rfl, hr, hc, hE1⟩
      exact ⟨_, rfl, ⟨r, rfl, hr, hc⟩, hE1⟩
    intro v1
    refine hK _ _ ?_
    clear hK K
    refine wpX_step (fun K hK => ?_)
    go_simp
    refine StepY.det (by rw [HSP.out]; rfl) ?_ ?_
    · intro wz hz hF
      obtain ⟨wa', ea, r, hv1, hr, hc⟩ := hF.any 4 (by kernel_rfl) (by rw [HSP.out]; rfl)
      clear hF hz
      simp only [asFun, List.nil_append, List.cons_append, List.getD_cons_succ, List.getD_cons_zero] at hv1
      subst hv1
      go_simp
      refine (HL.out r _ hr).mono ?_
      rintro e w5 ⟨rfl, rfl⟩
      exact ⟨_, rfl, by rw [hc]; rfl, Ext.refl _⟩
    refine hK _ _ ?_
    clear hK K
    refine wpX_step (fun K hK => ?_)
    go_simp
    refine StepY.det (by rw [HSP.out]; rfl) ?_ ?_
    · intro wz hz hF
      clear hz hF
      go_simp
      exact ⟨rfl, Ext.refl _⟩
    refine hK _ _ ?_
    clear hK K
    refine wpX_step (fun K hK => ?_)
    go_simp
    refine StepY.det (by rw [HSP.out]; rfl) ?_ ?_
    · intro wz hz hF
      clear hz hF
      go_simp
      exact ⟨rfl, Ext.refl _⟩
    refine hK _ _ ?_
    clear hK K
    refine wpX_step (fun K hK => ?_)
    go_simp
    refine StepY.det (by rw [HSP.out]; rfl) ?_ ?_
    · intro wz hz hF
      clear hz hF
      go_simp
      exact ⟨rfl, Ext.refl _⟩
    refine hK _ _ ?_
    clear hK K
    refine wpX_step (fun K hK => ?_)
    go_simp
    refine StepY.det (by rw [HSP.out]; rfl) ?_ ?_
    · intro wz hz hF
      clear hz hF
      go_simp
      exact ⟨rfl, Ext.refl _⟩
    refine hK _ _ ?_
    clear hK K
    refine wpX_step (fun K hK => ?_)
    go_simp
    refine StepY.det (by rw [HSP.out]; rfl) ?_ ?_
    · intro wz hz hF
      clear hz hF
      go_simp
      exact ⟨rfl, Ext.refl _⟩
    refine hK _ _ ?_
    clear hK K
    refine wpX_step (fun K hK => ?_)
    go_simp
    refine StepY.det (by rw [HSP.out]; rfl) ?_ ?_
    · intro wz hz hF
      rw [HS.out] at hz
      have hf := hz.cells
      simp only [BC, CC, Nat.zero_add, Nat.reduceAdd, and_true] at hf
      clear hz hF
      go_simp
      exact ⟨rfl, Ext.refl _⟩
    refine hK _ _ ?_
    clear hK K
    refine wpX_step (fun K hK => ?_)
    go_simp
    refine StepY.det (by rw [HSP.out]; rfl) ?_ ?_
    · intro wz hz hF
      clear hz hF
      go_simp
      exact ⟨rfl, Ext.refl _⟩
    refine hK _ _ ?_
    clear hK K
    refine wpX_step (fun K hK => ?_)
    go_simp
    refine StepY.det (by rw [HSP.out]; rfl) ?_ ?_
    · intro wz hz hF
      rw [HS.out] at hz
      have hf := hz.cells
      simp only [BC, CC, Nat.zero_add, Nat.reduceAdd, and_true] at hf
      clear hz hF
      go_simp
      exact ⟨rfl, Ext.refl _⟩
    refine hK _ _ ?_
    clear hK K
    refine wpX_step (fun K hK => ?_)
    go_simp
    refine StepY.det (by rw [HSP.out]; rfl) ?_ ?_
    · intro wz hz hF
      clear hz hF
      go_simp
      exact ⟨rfl, Ext.refl _⟩
    refine hK _ _ ?_
    clear hK K
    refine wpX_step (fun K hK => ?_)
    go_simp
    refine StepY.det (by rw [HSP.out]; rfl) ?_ ?_
    · intro wz hz hF
      clear hz hF
      go_simp
      exact ⟨rfl, Ext.refl _⟩
    refine hK _ _ ?_
    clear hK K
    refine wpX_step (fun K hK => ?_)
    go_simp
    refine StepY.det (by rw [HSP.out]; rfl) ?_ ?_
    · intro wz hz hF
      clear hz hF
      go_simp
      exact ⟨rfl, Ext.refl _⟩
    refine hK _ _ ?_
    clear hK K
    refine wpX_step (fun K hK => ?_)
    go_simp
    refine StepY.any (by rw [HSP.out]; rfl) ?_ ?_
    · intro wz hz hF
      rw [HS.out] at hz
      have hP := hz.wd 1 rfl
      have hK := hz.wd 2 rfl
      clear hF hz
      go_simp
      refine (HQQ.u1.out _ _ _ _ _ _ _ hP hK).mono ?_
      rintro e w2 ⟨A9, n9, c9, rfl, hW9, hE1⟩
      exact ⟨_, rfl, ⟨A9, n9, c9, rfl, hW9⟩, hE1⟩
    intro v2
    refine hK _ _ ?_
    clear hK K
    refine wpX_step (fun K hK => ?_)
    go_simp
    refine StepY.det (by rw [HSP.out]; rfl) ?_ ?_
    · intro wz hz hF
      clear hz hF
      go_simp
      exact ⟨rfl, Ext.refl _⟩
    refine hK _ _ ?_
    clear hK K
    refine wpX_step (fun K hK => ?_)
    go_simp
    refine StepY.det (by rw [HSP.out]; rfl) ?_ ?_
    · intro wz hz hF
      clear hz hF
      go_simp
      exact ⟨rfl, Ext.refl _⟩
    refine hK _ _ ?_
    clear hK K
    refine wpX_step (fun K hK => ?_)
    go_simp
    refine StepY.any (by rw [HSP.out]; rfl) ?_ ?_
    · intro wz hz hF
      rw [HS.out] at hz
      have hP := hz.wd 0 rfl
      have hK := hz.wd 2 rfl
      clear hF hz
      go_simp
      refine (HQQ.u2.out _ _ _ _ _ _ _ hP hK).mono ?_
      rintro e w2 ⟨A9, n9, c9, rfl, hW9, hE1⟩
      exact ⟨_, rfl, ⟨A9, n9, c9, rfl, hW9⟩, hE1⟩
    intro v3
    refine hK _ _ ?_
    clear hK K
    refine wpX_step (fun K hK => ?_)
    go_simp
    refine StepY.any (by rw [HSP.out]; rfl) ?_ ?_
    · intro wz hz hF
      obtain ⟨wa', ea, A8, n8, c8, hv1, hw1⟩ := hF.any 17 (by kernel_rfl) (by rw [HSP.out]; rfl)
      obtain ⟨wb', eb, A9, n9, c9, hv2, hw2⟩ := hF.any 20 (by kernel_rfl) (by rw [HSP.out]; rfl)
      clear hF hz
      simp only [asFun, List.nil_append, List.cons_append, List.getD_cons_succ, List.getD_cons_zero] at hv1 hv2
      subst hv1 hv2
      go_simp
      refine (HQQ.rk.out _ _ _ _ _ _ _ (hw1.ext ea) (hw2.ext eb)).mono ?_
      rintro e w2 ⟨r, rfl, hr, hc, hE1⟩
      exact ⟨_, rfl, ⟨r, rfl, hr, hc⟩, hE1⟩
    intro v4
    refine hK _ _ ?_
    clear hK K
    refine wpX_step (fun K hK => ?_)
    go_simp
    refine StepY.det (by rw [HSP.out]; rfl) ?_ ?_
    · intro wz hz hF
      obtain ⟨wa', ea, r, hv1, hr, hc⟩ := hF.any 21 (by kernel_rfl) (by rw [HSP.out]; rfl)
      clear hF hz
      simp only [asFun, List.nil_append, List.cons_append, List.getD_cons_succ, List.getD_cons_zero] at hv1
      subst hv1
      go_simp
      refine (HL.out r _ hr).mono ?_
      rintro e w5 ⟨rfl, rfl⟩
      exact ⟨_, rfl, by rw [hc]; rfl, Ext.refl _⟩
    refine hK _ _ ?_
    clear hK K
    refine wpX_step (fun K hK => ?_)
    go_simp
    refine StepY.det (by rw [HSP.out]; rfl) ?_ ?_
    · intro wz hz hF
      clear hz hF
      go_simp
      exact ⟨rfl, Ext.refl _⟩
    refine hK _ _ ?_
    clear hK K
    refine wpX_step (fun K hK => ?_)
    go_simp
    refine StepY.det (by rw [HSP.out]; rfl) ?_ ?_
    · intro wz hz hF
      clear hz hF
      go_simp
      exact ⟨rfl, Ext.refl _⟩
    refine hK _ _ ?_
    clear hK K
    refine wpX_step (fun K hK => ?_)
    go_simp
    refine StepY.det (by rw [HSP.out]; rfl) ?_ ?_
    · intro wz hz hF
      clear hz hF
      go_simp
      exact ⟨rfl, Ext.refl _⟩
    refine hK _ _ ?_
    clear hK K
    refine wpX_step (fun K hK => ?_)
    go_simp
    refine StepY.det (by rw [HSP.out]; rfl) ?_ ?_
    · intro wz hz hF
      clear hz hF
      go_simp
      exact ⟨rfl, Ext.refl _⟩
    refine hK _ _ ?_
    clear hK K
    refine wpX_step (fun K hK => ?_)
    go_simp
    refine StepY.det (by rw [HSP.out]; rfl) ?_ ?_
    · intro wz hz hF
      clear hz hF
      go_simp
      exact ⟨rfl, Ext.refl _⟩
    refine hK _ _ ?_
    clear hK K
    refine wpX_step (fun K hK => ?_)
    go_simp
    refine StepY.det (by rw [HSP.out]; rfl) ?_ ?_
    · intro wz hz hF
      clear hz hF
      go_simp
      exact ⟨rfl, Ext.refl _⟩
    refine hK _ _ ?_
    clear hK K
    refine wpX_step (fun K hK => ?_)
    go_simp
    refine StepY.det (by rw [HSP.out]; rfl) ?_ ?_
    · intro wz hz hF
      rw [HS.out] at hz
      have hf := hz.cells
      simp only [BC, CC, Nat.zero_add, Nat.reduceAdd, and_true] at hf
      clear hz hF
      go_simp
      exact ⟨rfl, Ext.refl _⟩
    refine hK _ _ ?_
    clear hK K
    refine wpX_step (fun K hK => ?_)
    go_simp
    refine StepY.det (by rw [HSP.out]; rfl) ?_ ?_
    · intro wz hz hF
      clear hz hF
      go_simp
      exact ⟨rfl, Ext.refl _⟩
    refine hK _ _ ?_
    clear hK K
    refine wpX_step (fun K hK => ?_)
    go_simp
    refine StepY.det (by rw [HSP.out]; rfl) ?_ ?_
    · intro wz hz hF
      rw [HS.out] at hz
      have hf := hz.cells
      simp only [BC, CC, Nat.zero_add, Nat.reduceAdd, and_true] at hf
      clear hz hF
      go_simp
      exact ⟨rfl, Ext.refl _⟩
    refine hK _ _ ?_
    clear hK K
    refine wpX_step (fun K hK => ?_)
    go_simp
    refine StepY.det (by rw [HSP.out]; rfl) ?_ ?_
    · intro wz hz hF
      clear hz hF
      go_simp
      exact ⟨rfl, Ext.refl _⟩
    refine hK _ _ ?_
    clear hK K
    refine wpX_step (fun K hK => ?_)
    go_simp
    refine StepY.det (by rw [HSP.out]; rfl) ?_ ?_
    · intro wz hz hF
      clear hz hF
      go_simp
      exact ⟨rfl, Ext.refl _⟩
    refine hK _ _ ?_
    clear hK K
    refine wpX_step (fun K hK => ?_)
    go_simp
    refine StepY.any (by rw [HSP.out]; rfl) ?_ ?_
    · intro wz hz hF
      rw [HS.out] at hz
      have hP := hz.wd 1 rfl
      clear hF hz
      go_simp
      refine (HQQ.lf.out _ _ _ _ hP).mono ?_
      rintro e w2 ⟨A9, n9, c9, rfl, hW9, hE1⟩
      exact ⟨_, rfl, ⟨A9, n9, c9, rfl, hW9⟩, hE1⟩
    intro v5
    refine hK _ _ ?_
    clear hK K
    refine wpX_step (fun K hK => ?_)
    go_simp
    refine StepY.det (by rw [HSP.out]; rfl) ?_ ?_
    · intro wz hz hF
      clear hz hF
      go_simp
      exact ⟨rfl, Ext.refl _⟩
    refine hK _ _ ?_
    clear hK K
    refine wpX_step (fun K hK => ?_)
    go_simp
    refine StepY.any (by rw [HSP.out]; rfl) ?_ ?_
    · intro wz hz hF
      obtain ⟨wa', ea, A8, n8, c8, hv1, hw1⟩ := hF.any 34 (by kernel_rfl) (by rw [HSP.out]; rfl)
      rw [HS.out] at hz
      have hQ := hz.wd 0 rfl
      clear hF hz
      simp only [asFun, List.nil_append, List.cons_append, List.getD_cons_succ, List.getD_cons_zero] at hv1
      subst hv1
      go_simp
      refine (HQQ.rl.out _ _ _ _ _ _ _ (hw1.ext ea) hQ).mono ?_
      rintro e w2 ⟨r, rfl, hr, hc, hE1⟩
      exact ⟨_, rfl, ⟨r, rfl, hr, hc⟩, hE1⟩
    intro v6
    refine hK _ _ ?_
    clear hK K
    refine wpX_step (fun K hK => ?_)
    go_simp
    refine StepY.det (by rw [HSP.out]; rfl) ?_ ?_
    · intro wz hz hF
      obtain ⟨wa', ea, r, hv1, hr, hc⟩ := hF.any 36 (by kernel_rfl) (by rw [HSP.out]; rfl)
      clear hF hz
      simp only [asFun, List.nil_append, List.cons_append, List.getD_cons_succ, List.getD_cons_zero] at hv1
      subst hv1
      go_simp
      refine (HL.out r _ hr).mono ?_
      rintro e w5 ⟨rfl, rfl⟩
      exact ⟨_, rfl, by rw [hc]; rfl, Ext.refl _⟩
    refine hK _ _ ?_
    clear hK K
    refine wpX_nil ?_
    intro wq hz hF
    clear hF
    rw [HS.out] at hz
    have hO := hz
    clear hz HS HSP
    have hf := hO.cells
    simp only [BC, CC, Nat.zero_add, Nat.reduceAdd, and_true] at hf
    go_wp2_with fail
    refine (HLV.out _).mono ?_
    rintro e w' ⟨rfl, hE'⟩
    have hEE := hO.toExt.trans hE'
    clear hO hf hE'
    go_wp2
    go_ret
    exact ⟨rfl, hEE⟩
  · go_wp2_with fail
    refine (HLV.out _).mono ?_
    rintro e w' ⟨rfl, hE'⟩
    have hEE := hO.toExt.trans hE'
    clear hO hf hE'
    go_wp2
    go_ret
    exact ⟨rfl, hEE⟩
end Go.Proofs.YtadijoeeaineaaaDoor
