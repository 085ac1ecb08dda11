/-
  The walk through RoundTight. Conditions: those that each theorem names.
-/
import Derived.Test.YtmcfflecaklpcaaZ48
import Derived.Test.YtmcfflecaklpcaaZ36
import Derived.Test.YtmcfflecaklpcaaZ49
import Derived.Test.YtmcfflecaklpcaaZ22
namespace Go.Proofs.Ytmcfflecaklpcaa
open Go.RowKit Nm Rn
set_option maxRecDepth 100000
set_option linter.unusedVariables false
set_option linter.unusedSimpArgs false

/-- What a round of the law's loop leans on. -/
structure OpT (k : Int) (x y z : Nat) (sx sy sz : Bool) (s : Bool) (N D LO HI NE : Nat) : Prop where
  ex : Hid (∀ (A1 : Option Addr) (l1 c1 : Nat) (B1 : Option Addr) (k1 d1 : Nat) (A2 : Option Addr) (l2 c2 : Nat) (B2 : Option Addr) (k2 d2 : Nat) (A3 : Option Addr) (l3 c3 : Nat) (B3 : Option Addr) (k3 d3 : Nat) (w : World), RatAt w A1 l1 c1 B1 k1 d1 (fbN x) (fbD x) → RatAt w A2 l2 c2 B2 k2 d2 (fbN y) (fbD y) → RatAt w A3 l3 c3 B3 k3 d3 (fbN z) (fbD z) → Calls Try.prog 25 #[.int .i64 k, .agg #[.bool sx, .slice A1 l1 c1, .slice B1 k1 d1], .agg #[.bool sy, .slice A2 l2 c2, .slice B2 k2 d2], .agg #[.bool sz, .slice A3 l3 c3, .slice B3 k3 d3]] w (RetR s N D w))
  lo : Hid (∀ (w : World), Calls Try.prog 23 #[.int .i64 k, .int .i64 (-1), .float .f64 x, .float .f64 y, .float .f64 z] w fun e w' => e = .returned (.int .u64 (LO : Nat)) ∧ Ext w w')
  hi : Hid (∀ (w : World), Calls Try.prog 23 #[.int .i64 k, .int .i64 1, .float .f64 x, .float .f64 y, .float .f64 z] w fun e w' => e = .returned (.int .u64 (HI : Nat)) ∧ Ext w w')
  ne : Hid (∀ (w : World), Calls Try.prog 23 #[.int .i64 k, .int .i64 0, .float .f64 x, .float .f64 y, .float .f64 z] w fun e w' => e = .returned (.int .u64 (NE : Nat)) ∧ Ext w w')
  ti : Hid (∀ (A : Option Addr) (l c : Nat) (B : Option Addr) (k d : Nat) (w : World), RatAt w A l c B k d N D → Calls Try.prog 24 #[.agg #[.bool s, .slice A l c, .slice B k d], .int .u64 (LO : Int), .int .u64 (HI : Int), .int .u64 (NE : Int)] w fun e w' => e = .returned (.bool true) ∧ Ext w w')
theorem opT_of {k : Int} {x y z : Nat} (h : ∃ s N D, OpS k x y z s N D) : ∃ s N D LO HI NE, OpT k x y z (sg x && decide (mg x ≠ 0)) (sg y && decide (mg y ≠ 0)) (sg z && decide (mg z ≠ 0)) s N D LO HI NE := by
  obtain ⟨s, N, D, h⟩ := h
  exact ⟨s, N, D, _, _, _, h.ex, Lib.hid (h.as_.out (-1)), Lib.hid (h.as_.out 1), Lib.hid (h.as_.out 0), Lib.hid (fun A l c B k d w hr => tight_any s A l c B k d N D _ _ _ w hr h.pos (tg_of h.pos h.sgn) h.bN h.bD)⟩

set_option maxHeartbeats 16000000 in
theorem tight_walk (x y z : Nat) (w : World) (hx : x < 18446744073709551616) (hy : y < 18446744073709551616) (hz : z < 18446744073709551616) :
    Calls Try.prog 6 #[.agg #[.int .u64 (x : Int), .int .u64 (y : Int), .int .u64 (z : Int)]] w fun e w' => e = .returned (.bool true) ∧ Ext w w' := by
  obtain ⟨fx, hfx⟩ : ∃ b, b = decide (mg x < infR) := ⟨_, rfl⟩
  obtain ⟨fy, hfy⟩ : ∃ b, b = decide (mg y < infR) := ⟨_, rfl⟩
  obtain ⟨fz, hfz⟩ : ∃ b, b = decide (mg z < infR) := ⟨_, rfl⟩
  have HF1 := Lib.hid (fun w => finite2_any x w hx)
  have HF2 := Lib.hid (fun w => finite2_any y w hy)
  have HF3 := Lib.hid (fun w => finite2_any z w hz)
  rw [← hfx] at HF1
  rw [← hfy] at HF2
  rw [← hfz] at HF3
  have HB1 := Lib.hid (fun w => frombits_any x w hx)
  have HB2 := Lib.hid (fun w => frombits_any y w hy)
  have HB3 := Lib.hid (fun w => frombits_any z w hz)
  obtain ⟨sx, hsx⟩ : ∃ b, b = (sg x && decide (mg x ≠ 0)) := ⟨_, rfl⟩
  obtain ⟨sy, hsy⟩ : ∃ b, b = (sg y && decide (mg y ≠ 0)) := ⟨_, rfl⟩
  obtain ⟨sz, hsz⟩ : ∃ b, b = (sg z && decide (mg z ≠ 0)) := ⟨_, rfl⟩
  rw [← hsx] at HB1
  rw [← hsy] at HB2
  rw [← hsz] at HB3
  have HLV := Lib.hid (fun w => lives_any w)
  have HL := Lib.hid (fun r w h => lbits_any r w h)
  have HA1 := Lib.hid (fun w => radd_any_ 1 x y w hx hy)
  have HA2 := Lib.hid (fun w => radd_any_ 1 y x w hy hx)
  rw [addR_comm] at HA2
  obtain ⟨V, hV⟩ : ∃ V, V = addR 1 x y := ⟨_, rfl⟩
  rw [← hV] at HA1 HA2
  have HOP : Hid (fx = true → fy = true → fz = true → ∀ k : Nat, k < 5 → (k = 3 → mg y ≠ 0) → ∃ s N D LO HI NE, OpT (k : Int) x y z sx sy sz s N D LO HI NE) := Lib.hid (fun h1 h2 h3 k hk hk3 => by
    have fx' : mg x < infR := of_decide_eq_true (hfx.symm.trans h1)
    have fy' : mg y < infR := of_decide_eq_true (hfy.symm.trans h2)
    have fz' : mg z < infR := of_decide_eq_true (hfz.symm.trans h3)
    rw [hsx, hsy, hsz]
    have hc : k = 0 ∨ k = 1 ∨ k = 2 ∨ k = 3 ∨ k = 4 := by omega
    rcases hc with rfl | rfl | rfl | rfl | rfl
    · exact opT_of (op_0 x y z hx hy hz fx' fy' fz')
    · exact opT_of (op_1 x y z hx hy hz fx' fy' fz')
    · exact opT_of (op_2 x y z hx hy hz fx' fy' fz')
    · exact opT_of (op_3 x y z hx hy hz fx' fy' fz' (hk3 rfl))
    · exact opT_of (op_4 x y z hx hy hz fx' fy' fz'))
  obtain ⟨sv, hsv⟩ : ∃ sv, sv = sgnZ sy (fbN y) := ⟨_, rfl⟩
  have HSG : Hid (∀ (A : Option Addr) (l c : Nat) (B : Option Addr) (k d : Nat) (w : World), RatAt w A l c B k d (fbN y) (fbD y) → Calls Try.prog 22 #[.agg #[.bool sy, .slice A l c, .slice B k d]] w fun e w' => e = .returned (.int .i64 sv) ∧ Ext w w') := Lib.hid (fun A l c B k d w h => by
    have hl := h.lenN
    have hb := fbN_bits y
    have := rsign_any sy A l c (nd (fbN y)) B k d w h.1 (by omega)
    rwa [nv_nd, ← hsv] at this)
  have HSV : Hid ((mg y = 0 ∧ (sv == 0) = true) ∨ (mg y ≠ 0 ∧ (sv == 0) = false)) := Lib.hid (by
    by_cases h0 : mg y = 0
    · refine .inl ⟨h0, ?_⟩
      rw [hsv, (fbN_zero y).2 h0]
      unfold sgnZ
      simp
    · refine .inr ⟨h0, ?_⟩
      have h1 : fbN y ≠ 0 := fun h => h0 ((fbN_zero y).1 h)
      rw [hsv, beq_eq_false_iff_ne]
      unfold sgnZ
      rw [if_neg h1]
      split <;> omega)
  clear hV hsv hfx hfy hfz hx hy hz hsx hsy hsz
  have hO := Own.start w
  have hf : True := trivial
  go_enter Try.func6, Try.ntmps6
  go_upto_region 1 with ((with_reducible refine at_box ?_); refine own_box (cs := [.int .u64 (x : Int), .int .u64 (y : Int), .int .u64 (z : Int)]) hO rfl rfl ?_; clear hO; intro g w1 hO)
  clear hf
  have hf := hO.cells
  simp only [BC, CC, Nat.zero_add, Nat.reduceAdd, and_true] at hf
  go_wp2_with fail
  go_loop [3] (fun iv => iv = .int .i64 0 ∨ (iv = .int .i64 1 ∧ fx = true) ∨ (iv = .int .i64 2 ∧ fx = true ∧ fy = true) ∨ (iv = .int .i64 3 ∧ Hid (fx = true ∧ fy = true ∧ fz = true))) (fun iv => (3 - intOf iv).toNat)
  case atStart => exact .inl rfl
  case round =>
    rcases hrel with rfl | ⟨rfl, h1⟩ | ⟨rfl, h1, h2⟩ | ⟨rfl, HT⟩
    · cases fx
      · go_wp2_with (go_at_call 16; refine (HF1.out _).mono ?_; rintro e w' ⟨rfl, rfl⟩)
        obtain ⟨S, hS⟩ : ∃ S : World → Prop, S = Own w [⟨g, 41, [.int .u64 (x : Int), .int .u64 (y : Int), .int .u64 (z : Int)]⟩] [] := ⟨_, rfl⟩
        have hSE : ∀ w w', S w → Ext w w' → S w' := fun w w' h1 h2 => by rw [hS] at h1 ⊢; exact h1.ext h2
        have hS1 : S w1.drew := by rw [hS]; exact hO.ext (Ext.refl w1).drew
        have HS := Lib.hid hS
        clear hS hO hf
        obtain ⟨sp, hsp⟩ : ∃ sp : Nat → Sp, sp = ofList [det (.bool true), det (.bool true), det (.pointer (some ⟨g, 0, none⟩)), det (.int .u64 (x : Int)), det (.float .f64 x), det (.pointer (some ⟨g, 1, none⟩)), det (.int .u64 (y : Int)), det (.float .f64 y),
          anyOf (fun v wz => ∃ r, v = .float .f64 r ∧ r < 18446744073709551616 ∧ cn r = V), det (.int .u64 (V : Int)), det (.pointer (some ⟨g, 1, none⟩)), det (.int .u64 (y : Int)), det (.float .f64 y), det (.pointer (some ⟨g, 0, none⟩)), det (.int .u64 (x : Int)), det (.float .f64 x),
          anyOf (fun v wz => ∃ r, v = .float .f64 r ∧ r < 18446744073709551616 ∧ cn r = V), det (.int .u64 (V : Int)), det (.bool true), det (.bool true)] := ⟨_, rfl⟩
        have HSP := Lib.hid hsp
        clear hsp
        refine wp_region_loose 20 S sp (by kernel_rfl) (by kernel_rfl) hS1 hSE ?_
        simp only [List.take_succ_cons, List.take_zero, List.drop_succ_cons, List.drop_zero]
        refine wpX_step (fun K hK => ?_)
        go_simp
        refine StepY.det (by rw [HSP.out]; rfl) ?_ ?_
        · intro wz hz hF
          clear hz hF
          go_simp
          go_at_call 20
          refine (HLV.out _).mono ?_
          rintro e w5 ⟨rfl, hE5⟩
          exact ⟨_, rfl, rfl, hE5⟩
        refine hK _ _ ?_
        clear hK K
        refine wpX_step (fun K hK => ?_)
        go_simp
        refine StepY.det (by rw [HSP.out]; rfl) ?_ ?_
        · intro wz hz hF
          clear hz hF
          go_simp
          exact ⟨rfl, Ext.refl _⟩
        refine hK _ _ ?_
        clear hK K
        refine wpX_step (fun K hK => ?_)
        go_simp
        refine StepY.det (by rw [HSP.out]; rfl) ?_ ?_
        · intro wz hz hF
          clear hz hF
          go_simp
          exact ⟨rfl, Ext.refl _⟩
        refine hK _ _ ?_
        clear hK K
        refine wpX_step (fun K hK => ?_)
        go_simp
        refine StepY.det (by rw [HSP.out]; rfl) ?_ ?_
        · intro wz hz hF
          rw [HS.out] at hz
          have hf := hz.cells
          simp only [BC, CC, Nat.zero_add, Nat.reduceAdd, and_true] at hf
          clear hz hF
          go_simp
          exact ⟨rfl, Ext.refl _⟩
        refine hK _ _ ?_
        clear hK K
        refine wpX_step (fun K hK => ?_)
        go_simp
        refine StepY.det (by rw [HSP.out]; rfl) ?_ ?_
        · intro wz hz hF
          clear hz hF
          go_simp
          go_at_call 12
          refine (fl_any _ _).mono ?_
          rintro e w5 ⟨rfl, rfl⟩
          exact ⟨_, rfl, rfl, Ext.refl _⟩
        refine hK _ _ ?_
        clear hK K
        refine wpX_step (fun K hK => ?_)
        go_simp
        refine StepY.det (by rw [HSP.out]; rfl) ?_ ?_
        · intro wz hz hF
          clear hz hF
          go_simp
          exact ⟨rfl, Ext.refl _⟩
        refine hK _ _ ?_
        clear hK K
        refine wpX_step (fun K hK => ?_)
        go_simp
        refine StepY.det (by rw [HSP.out]; rfl) ?_ ?_
        · intro wz hz hF
          rw [HS.out] at hz
          have hf := hz.cells
          simp only [BC, CC, Nat.zero_add, Nat.reduceAdd, and_true] at hf
          clear hz hF
          go_simp
          exact ⟨rfl, Ext.refl _⟩
        refine hK _ _ ?_
        clear hK K
        refine wpX_step (fun K hK => ?_)
        go_simp
        refine StepY.det (by rw [HSP.out]; rfl) ?_ ?_
        · intro wz hz hF
          clear hz hF
          go_simp
          go_at_call 12
          refine (fl_any _ _).mono ?_
          rintro e w5 ⟨rfl, rfl⟩
          exact ⟨_, rfl, rfl, Ext.refl _⟩
        refine hK _ _ ?_
        clear hK K
        refine wpX_step (fun K hK => ?_)
        go_simp
        refine StepY.any (by rw [HSP.out]; rfl) ?_ ?_
        · intro wz hz hF
          clear hF hz
          go_simp
          go_at_call 21
          refine (HA1.out _).mono ?_
          rintro e w2 ⟨r, rfl, hr, hc, hE1⟩
          exact ⟨_, rfl, ⟨r, rfl, hr, hc⟩, hE1⟩
        intro vHA1
        refine hK _ _ ?_
        clear hK K
        refine wpX_step (fun K hK => ?_)
        go_simp
        refine StepY.det (by rw [HSP.out]; rfl) ?_ ?_
        · intro wz hz hF
          obtain ⟨wa', ea, r, hv1, hr, hc⟩ := hF.any 8 (by kernel_rfl) (by rw [HSP.out]; rfl)
          clear hF
          simp only [asFun, List.nil_append, List.cons_append, List.getD_cons_succ, List.getD_cons_zero] at hv1
          subst hv1
          go_simp
          go_at_call 10
          refine (HL.out r _ hr).mono ?_
          rintro e w5 ⟨rfl, rfl⟩
          exact ⟨_, rfl, by rw [hc]; rfl, Ext.refl _⟩
        refine hK _ _ ?_
        clear hK K
        refine wpX_step (fun K hK => ?_)
        go_simp
        refine StepY.det (by rw [HSP.out]; rfl) ?_ ?_
        · intro wz hz hF
          clear hz hF
          go_simp
          exact ⟨rfl, Ext.refl _⟩
        refine hK _ _ ?_
        clear hK K
        refine wpX_step (fun K hK => ?_)
        go_simp
        refine StepY.det (by rw [HSP.out]; rfl) ?_ ?_
        · intro wz hz hF
          rw [HS.out] at hz
          have hf := hz.cells
          simp only [BC, CC, Nat.zero_add, Nat.reduceAdd, and_true] at hf
          clear hz hF
          go_simp
          exact ⟨rfl, Ext.refl _⟩
        refine hK _ _ ?_
        clear hK K
        refine wpX_step (fun K hK => ?_)
        go_simp
        refine StepY.det (by rw [HSP.out]; rfl) ?_ ?_
        · intro wz hz hF
          clear hz hF
          go_simp
          go_at_call 12
          refine (fl_any _ _).mono ?_
          rintro e w5 ⟨rfl, rfl⟩
          exact ⟨_, rfl, rfl, Ext.refl _⟩
        refine hK _ _ ?_
        clear hK K
        refine wpX_step (fun K hK => ?_)
        go_simp
        refine StepY.det (by rw [HSP.out]; rfl) ?_ ?_
        · intro wz hz hF
          clear hz hF
          go_simp
          exact ⟨rfl, Ext.refl _⟩
        refine hK _ _ ?_
        clear hK K
        refine wpX_step (fun K hK => ?_)
        go_simp
        refine StepY.det (by rw [HSP.out]; rfl) ?_ ?_
        · intro wz hz hF
          rw [HS.out] at hz
          have hf := hz.cells
          simp only [BC, CC, Nat.zero_add, Nat.reduceAdd, and_true] at hf
          clear hz hF
          go_simp
          exact ⟨rfl, Ext.refl _⟩
        refine hK _ _ ?_
        clear hK K
        refine wpX_step (fun K hK => ?_)
        go_simp
        refine StepY.det (by rw [HSP.out]; rfl) ?_ ?_
        · intro wz hz hF
          clear hz hF
          go_simp
          go_at_call 12
          refine (fl_any _ _).mono ?_
          rintro e w5 ⟨rfl, rfl⟩
          exact ⟨_, rfl, rfl, Ext.refl _⟩
        refine hK _ _ ?_
        clear hK K
        refine wpX_step (fun K hK => ?_)
        go_simp
        refine StepY.any (by rw [HSP.out]; rfl) ?_ ?_
        · intro wz hz hF
          clear hF hz
          go_simp
          go_at_call 21
          refine (HA2.out _).mono ?_
          rintro e w2 ⟨r, rfl, hr, hc, hE1⟩
          exact ⟨_, rfl, ⟨r, rfl, hr, hc⟩, hE1⟩
        intro vHA2
        refine hK _ _ ?_
        clear hK K
        refine wpX_step (fun K hK => ?_)
        go_simp
        refine StepY.det (by rw [HSP.out]; rfl) ?_ ?_
        · intro wz hz hF
          obtain ⟨wa', ea, r, hv1, hr, hc⟩ := hF.any 16 (by kernel_rfl) (by rw [HSP.out]; rfl)
          clear hF
          simp only [asFun, List.nil_append, List.cons_append, List.getD_cons_succ, List.getD_cons_zero] at hv1
          subst hv1
          go_simp
          go_at_call 10
          refine (HL.out r _ hr).mono ?_
          rintro e w5 ⟨rfl, rfl⟩
          exact ⟨_, rfl, by rw [hc]; rfl, Ext.refl _⟩
        refine hK _ _ ?_
        clear hK K
        refine wpX_step (fun K hK => ?_)
        go_simp
        refine StepY.det (by rw [HSP.out]; rfl) ?_ ?_
        · intro wz hz hF
          clear hz hF
          go_simp
          exact ⟨rfl, Ext.refl _⟩
        refine hK _ _ ?_
        clear hK K
        refine wpX_step (fun K hK => ?_)
        go_simp
        refine StepY.det (by rw [HSP.out]; rfl) ?_ ?_
        · intro wz hz hF
          clear hz hF
          go_simp
          exact ⟨rfl, Ext.refl _⟩
        refine hK _ _ ?_
        clear hK K
        refine wpX_nil ?_
        intro w14 hz hF
        clear hF
        rw [HS.out] at hz
        have hE := hz.toExt
        clear hz
        go_wp2
        go_ret
        exact ⟨by first | rfl | simp, hE⟩
      · go_wp2_with (go_at_call 16; refine (HF1.out _).mono ?_; rintro e w' ⟨rfl, rfl⟩)
        go_round
        case rel => exact .inr (.inl ⟨rfl, trivial⟩)
        case measure => simp [intOf]
    · have H1 := Lib.hid h1
      clear h1
      cases fy
      · go_wp2_with (go_at_call 16; refine (HF2.out _).mono ?_; rintro e w' ⟨rfl, rfl⟩)
        obtain ⟨S, hS⟩ : ∃ S : World → Prop, S = Own w [⟨g, 41, [.int .u64 (x : Int), .int .u64 (y : Int), .int .u64 (z : Int)]⟩] [] := ⟨_, rfl⟩
        have hSE : ∀ w w', S w → Ext w w' → S w' := fun w w' h1 h2 => by rw [hS] at h1 ⊢; exact h1.ext h2
        have hS1 : S w1.drew := by rw [hS]; exact hO.ext (Ext.refl w1).drew
        have HS := Lib.hid hS
        clear hS hO hf
        obtain ⟨sp, hsp⟩ : ∃ sp : Nat → Sp, sp = ofList [det (.bool true), det (.bool true), det (.pointer (some ⟨g, 0, none⟩)), det (.int .u64 (x : Int)), det (.float .f64 x), det (.pointer (some ⟨g, 1, none⟩)), det (.int .u64 (y : Int)), det (.float .f64 y),
          anyOf (fun v wz => ∃ r, v = .float .f64 r ∧ r < 18446744073709551616 ∧ cn r = V), det (.int .u64 (V : Int)), det (.pointer (some ⟨g, 1, none⟩)), det (.int .u64 (y : Int)), det (.float .f64 y), det (.pointer (some ⟨g, 0, none⟩)), det (.int .u64 (x : Int)), det (.float .f64 x),
          anyOf (fun v wz => ∃ r, v = .float .f64 r ∧ r < 18446744073709551616 ∧ cn r = V), det (.int .u64 (V : Int)), det (.bool true), det (.bool true)] := ⟨_, rfl⟩
        have HSP := Lib.hid hsp
        clear hsp
        refine wp_region_loose 20 S sp (by kernel_rfl) (by kernel_rfl) hS1 hSE ?_
        simp only [List.take_succ_cons, List.take_zero, List.drop_succ_cons, List.drop_zero]
        refine wpX_step (fun K hK => ?_)
        go_simp
        refine StepY.det (by rw [HSP.out]; rfl) ?_ ?_
        · intro wz hz hF
          clear hz hF
          go_simp
          go_at_call 20
          refine (HLV.out _).mono ?_
          rintro e w5 ⟨rfl, hE5⟩
          exact ⟨_, rfl, rfl, hE5⟩
        refine hK _ _ ?_
        clear hK K
        refine wpX_step (fun K hK => ?_)
        go_simp
        refine StepY.det (by rw [HSP.out]; rfl) ?_ ?_
        · intro wz hz hF
          clear hz hF
          go_simp
          exact ⟨rfl, Ext.refl _⟩
        refine hK _ _ ?_
        clear hK K
        refine wpX_step (fun K hK => ?_)
        go_simp
        refine StepY.det (by rw [HSP.out]; rfl) ?_ ?_
        · intro wz hz hF
          clear hz hF
          go_simp
          exact ⟨rfl, Ext.refl _⟩
        refine hK _ _ ?_
        clear hK K
        refine wpX_step (fun K hK => ?_)
        go_simp
        refine StepY.det (by rw [HSP.out]; rfl) ?_ ?_
        · intro wz hz hF
          rw [HS.out] at hz
          have hf := hz.cells
          simp only [BC, CC, Nat.zero_add, Nat.reduceAdd, and_true] at hf
          clear hz hF
          go_simp
          exact ⟨rfl, Ext.refl _⟩
        refine hK _ _ ?_
        clear hK K
        refine wpX_step (fun K hK => ?_)
        go_simp
        refine StepY.det (by rw [HSP.out]; rfl) ?_ ?_
        · intro wz hz hF
          clear hz hF
          go_simp
          go_at_call 12
          refine (fl_any _ _).mono ?_
          rintro e w5 ⟨rfl, rfl⟩
          exact ⟨_, rfl, rfl, Ext.refl _⟩
        refine hK _ _ ?_
        clear hK K
        refine wpX_step (fun K hK => ?_)
        go_simp
        refine StepY.det (by rw [HSP.out]; rfl) ?_ ?_
        · intro wz hz hF
          clear hz hF
          go_simp
          exact ⟨rfl, Ext.refl _⟩
        refine hK _ _ ?_
        clear hK K
        refine wpX_step (fun K hK => ?_)
        go_simp
        refine StepY.det (by rw [HSP.out]; rfl) ?_ ?_
        · intro wz hz hF
          rw [HS.out] at hz
          have hf := hz.cells
          simp only [BC, CC, Nat.zero_add, Nat.reduceAdd, and_true] at hf
          clear hz hF
          go_simp
          exact ⟨rfl, Ext.refl _⟩
        refine hK _ _ ?_
        clear hK K
        refine wpX_step (fun K hK => ?_)
        go_simp
        refine StepY.det (by rw [HSP.out]; rfl) ?_ ?_
        · intro wz hz hF
          clear hz hF
          go_simp
          go_at_call 12
          refine (fl_any _ _).mono ?_
          rintro e w5 ⟨rfl, rfl⟩
          exact ⟨_, rfl, rfl, Ext.refl _⟩
        refine hK _ _ ?_
        clear hK K
        refine wpX_step (fun K hK => ?_)
        go_simp
        refine StepY.any (by rw [HSP.out]; rfl) ?_ ?_
        · intro wz hz hF
          clear hF hz
          go_simp
          go_at_call 21
          refine (HA1.out _).mono ?_
          rintro e w2 ⟨r, rfl, hr, hc, hE1⟩
          exact ⟨_, rfl, ⟨r, rfl, hr, hc⟩, hE1⟩
        intro vHA1
        refine hK _ _ ?_
        clear hK K
        refine wpX_step (fun K hK => ?_)
        go_simp
        refine StepY.det (by rw [HSP.out]; rfl) ?_ ?_
        · intro wz hz hF
          obtain ⟨wa', ea, r, hv1, hr, hc⟩ := hF.any 8 (by kernel_rfl) (by rw [HSP.out]; rfl)
          clear hF
          simp only [asFun, List.nil_append, List.cons_append, List.getD_cons_succ, List.getD_cons_zero] at hv1
          subst hv1
          go_simp
          go_at_call 10
          refine (HL.out r _ hr).mono ?_
          rintro e w5 ⟨rfl, rfl⟩
          exact ⟨_, rfl, by rw [hc]; rfl, Ext.refl _⟩
        refine hK _ _ ?_
        clear hK K
        refine wpX_step (fun K hK => ?_)
        go_simp
        refine StepY.det (by rw [HSP.out]; rfl) ?_ ?_
        · intro wz hz hF
          clear hz hF
          go_simp
          exact ⟨rfl, Ext.refl _⟩
        refine hK _ _ ?_
        clear hK K
        refine wpX_step (fun K hK => ?_)
        go_simp
        refine StepY.det (by rw [HSP.out]; rfl) ?_ ?_
        · intro wz hz hF
          rw [HS.out] at hz
          have hf := hz.cells
          simp only [BC, CC, Nat.zero_add, Nat.reduceAdd, and_true] at hf
          clear hz hF
          go_simp
          exact ⟨rfl, Ext.refl _⟩
        refine hK _ _ ?_
        clear hK K
        refine wpX_step (fun K hK => ?_)
        go_simp
        refine StepY.det (by rw [HSP.out]; rfl) ?_ ?_
        · intro wz hz hF
          clear hz hF
          go_simp
          go_at_call 12
          refine (fl_any _ _).mono ?_
          rintro e w5 ⟨rfl, rfl⟩
          exact ⟨_, rfl, rfl, Ext.refl _⟩
        refine hK _ _ ?_
        clear hK K
        refine wpX_step (fun K hK => ?_)
        go_simp
        refine StepY.det (by rw [HSP.out]; rfl) ?_ ?_
        · intro wz hz hF
          clear hz hF
          go_simp
          exact ⟨rfl, Ext.refl _⟩
        refine hK _ _ ?_
        clear hK K
        refine wpX_step (fun K hK => ?_)
        go_simp
        refine StepY.det (by rw [HSP.out]; rfl) ?_ ?_
        · intro wz hz hF
          rw [HS.out] at hz
          have hf := hz.cells
          simp only [BC, CC, Nat.zero_add, Nat.reduceAdd, and_true] at hf
          clear hz hF
          go_simp
          exact ⟨rfl, Ext.refl _⟩
        refine hK _ _ ?_
        clear hK K
        refine wpX_step (fun K hK => ?_)
        go_simp
        refine StepY.det (by rw [HSP.out]; rfl) ?_ ?_
        · intro wz hz hF
          clear hz hF
          go_simp
          go_at_call 12
          refine (fl_any _ _).mono ?_
          rintro e w5 ⟨rfl, rfl⟩
          exact ⟨_, rfl, rfl, Ext.refl _⟩
        refine hK _ _ ?_
        clear hK K
        refine wpX_step (fun K hK => ?_)
        go_simp
        refine StepY.any (by rw [HSP.out]; rfl) ?_ ?_
        · intro wz hz hF
          clear hF hz
          go_simp
          go_at_call 21
          refine (HA2.out _).mono ?_
          rintro e w2 ⟨r, rfl, hr, hc, hE1⟩
          exact ⟨_, rfl, ⟨r, rfl, hr, hc⟩, hE1⟩
        intro vHA2
        refine hK _ _ ?_
        clear hK K
        refine wpX_step (fun K hK => ?_)
        go_simp
        refine StepY.det (by rw [HSP.out]; rfl) ?_ ?_
        · intro wz hz hF
          obtain ⟨wa', ea, r, hv1, hr, hc⟩ := hF.any 16 (by kernel_rfl) (by rw [HSP.out]; rfl)
          clear hF
          simp only [asFun, List.nil_append, List.cons_append, List.getD_cons_succ, List.getD_cons_zero] at hv1
          subst hv1
          go_simp
          go_at_call 10
          refine (HL.out r _ hr).mono ?_
          rintro e w5 ⟨rfl, rfl⟩
          exact ⟨_, rfl, by rw [hc]; rfl, Ext.refl _⟩
        refine hK _ _ ?_
        clear hK K
        refine wpX_step (fun K hK => ?_)
        go_simp
        refine StepY.det (by rw [HSP.out]; rfl) ?_ ?_
        · intro wz hz hF
          clear hz hF
          go_simp
          exact ⟨rfl, Ext.refl _⟩
        refine hK _ _ ?_
        clear hK K
        refine wpX_step (fun K hK => ?_)
        go_simp
        refine StepY.det (by rw [HSP.out]; rfl) ?_ ?_
        · intro wz hz hF
          clear hz hF
          go_simp
          exact ⟨rfl, Ext.refl _⟩
        refine hK _ _ ?_
        clear hK K
        refine wpX_nil ?_
        intro w14 hz hF
        clear hF
        rw [HS.out] at hz
        have hE := hz.toExt
        clear hz
        go_wp2
        go_ret
        exact ⟨by first | rfl | simp, hE⟩
      · go_wp2_with (go_at_call 16; refine (HF2.out _).mono ?_; rintro e w' ⟨rfl, rfl⟩)
        go_round
        case rel => exact .inr (.inr (.inl ⟨rfl, H1.out, trivial⟩))
        case measure => simp [intOf]
    · have H1 := Lib.hid h1
      have H2 := Lib.hid h2
      clear h1 h2
      cases fz
      · go_wp2_with (go_at_call 16; refine (HF3.out _).mono ?_; rintro e w' ⟨rfl, rfl⟩)
        obtain ⟨S, hS⟩ : ∃ S : World → Prop, S = Own w [⟨g, 41, [.int .u64 (x : Int), .int .u64 (y : Int), .int .u64 (z : Int)]⟩] [] := ⟨_, rfl⟩
        have hSE : ∀ w w', S w → Ext w w' → S w' := fun w w' h1 h2 => by rw [hS] at h1 ⊢; exact h1.ext h2
        have hS1 : S w1.drew := by rw [hS]; exact hO.ext (Ext.refl w1).drew
        have HS := Lib.hid hS
        clear hS hO hf
        obtain ⟨sp, hsp⟩ : ∃ sp : Nat → Sp, sp = ofList [det (.bool true), det (.bool true), det (.pointer (some ⟨g, 0, none⟩)), det (.int .u64 (x : Int)), det (.float .f64 x), det (.pointer (some ⟨g, 1, none⟩)), det (.int .u64 (y : Int)), det (.float .f64 y),
          anyOf (fun v wz => ∃ r, v = .float .f64 r ∧ r < 18446744073709551616 ∧ cn r = V), det (.int .u64 (V : Int)), det (.pointer (some ⟨g, 1, none⟩)), det (.int .u64 (y : Int)), det (.float .f64 y), det (.pointer (some ⟨g, 0, none⟩)), det (.int .u64 (x : Int)), det (.float .f64 x),
          anyOf (fun v wz => ∃ r, v = .float .f64 r ∧ r < 18446744073709551616 ∧ cn r = V), det (.int .u64 (V : Int)), det (.bool true), det (.bool true)] := ⟨_, rfl⟩
        have HSP := Lib.hid hsp
        clear hsp
        refine wp_region_loose 20 S sp (by kernel_rfl) (by kernel_rfl) hS1 hSE ?_
        simp only [List.take_succ_cons, List.take_zero, List.drop_succ_cons, List.drop_zero]
        refine wpX_step (fun K hK => ?_)
        go_simp
        refine StepY.det (by rw [HSP.out]; rfl) ?_ ?_
        · intro wz hz hF
          clear hz hF
          go_simp
          go_at_call 20
          refine (HLV.out _).mono ?_
          rintro e w5 ⟨rfl, hE5⟩
          exact ⟨_, rfl, rfl, hE5⟩
        refine hK _ _ ?_
        clear hK K
        refine wpX_step (fun K hK => ?_)
        go_simp
        refine StepY.det (by rw [HSP.out]; rfl) ?_ ?_
        · intro wz hz hF
          clear hz hF
          go_simp
          exact ⟨rfl, Ext.refl _⟩
        refine hK _ _ ?_
        clear hK K
        refine wpX_step (fun K hK => ?_)
        go_simp
        refine StepY.det (by rw [HSP.out]; rfl) ?_ ?_
        · intro wz hz hF
          clear hz hF
          go_simp
          exact ⟨rfl, Ext.refl _⟩
        refine hK _ _ ?_
        clear hK K
        refine wpX_step (fun K hK => ?_)
        go_simp
        refine StepY.det (by rw [HSP.out]; rfl) ?_ ?_
        · intro wz hz hF
          rw [HS.out] at hz
          have hf := hz.cells
          simp only [BC, CC, Nat.zero_add, Nat.reduceAdd, and_true] at hf
          clear hz hF
          go_simp
          exact ⟨rfl, Ext.refl _⟩
        refine hK _ _ ?_
        clear hK K
        refine wpX_step (fun K hK => ?_)
        go_simp
        refine StepY.det (by rw [HSP.out]; rfl) ?_ ?_
        · intro wz hz hF
          clear hz hF
          go_simp
          go_at_call 12
          refine (fl_any _ _).mono ?_
          rintro e w5 ⟨rfl, rfl⟩
          exact ⟨_, rfl, rfl, Ext.refl _⟩
        refine hK _ _ ?_
        clear hK K
        refine wpX_step (fun K hK => ?_)
        go_simp
        refine StepY.det (by rw [HSP.out]; rfl) ?_ ?_
        · intro wz hz hF
          clear hz hF
          go_simp
          exact ⟨rfl, Ext.refl _⟩
        refine hK _ _ ?_
        clear hK K
        refine wpX_step (fun K hK => ?_)
        go_simp
        refine StepY.det (by rw [HSP.out]; rfl) ?_ ?_
        · intro wz hz hF
          rw [HS.out] at hz
          have hf := hz.cells
          simp only [BC, CC, Nat.zero_add, Nat.reduceAdd, and_true] at hf
          clear hz hF
          go_simp
          exact ⟨rfl, Ext.refl _⟩
        refine hK _ _ ?_
        clear hK K
        refine wpX_step (fun K hK => ?_)
        go_simp
        refine StepY.det (by rw [HSP.out]; rfl) ?_ ?_
        · intro wz hz hF
          clear hz hF
          go_simp
          go_at_call 12
          refine (fl_any _ _).mono ?_
          rintro e w5 ⟨rfl, rfl⟩
          exact ⟨_, rfl, rfl, Ext.refl _⟩
        refine hK _ _ ?_
        clear hK K
        refine wpX_step (fun K hK => ?_)
        go_simp
        refine StepY.any (by rw [HSP.out]; rfl) ?_ ?_
        · intro wz hz hF
          clear hF hz
          go_simp
          go_at_call 21
          refine (HA1.out _).mono ?_
          rintro e w2 ⟨r, rfl, hr, hc, hE1⟩
          exact ⟨_, rfl, ⟨r, rfl, hr, hc⟩, hE1⟩
        intro vHA1
        refine hK _ _ ?_
        clear hK K
        refine wpX_step (fun K hK => ?_)
        go_simp
        refine StepY.det (by rw [HSP.out]; rfl) ?_ ?_
        · intro wz hz hF
          obtain ⟨wa', ea, r, hv1, hr, hc⟩ := hF.any 8 (by kernel_rfl) (by rw [HSP.out]; rfl)
          clear hF
          simp only [asFun, List.nil_append, List.cons_append, List.getD_cons_succ, List.getD_cons_zero] at hv1
          subst hv1
          go_simp
          go_at_call 10
          refine (HL.out r _ hr).mono ?_
          rintro e w5 ⟨rfl, rfl⟩
          exact ⟨_, rfl, by rw [hc]; rfl, Ext.refl _⟩
        refine hK _ _ ?_
        clear hK K
        refine wpX_step (fun K hK => ?_)
        go_simp
        refine StepY.det (by rw [HSP.out]; rfl) ?_ ?_
        · intro wz hz hF
          clear hz hF
          go_simp
          exact ⟨rfl, Ext.refl _⟩
        refine hK _ _ ?_
        clear hK K
        refine wpX_step (fun K hK => ?_)
        go_simp
        refine StepY.det (by rw [HSP.out]; rfl) ?_ ?_
        · intro wz hz hF
          rw [HS.out] at hz
          have hf := hz.cells
          simp only [BC, CC, Nat.zero_add, Nat.reduceAdd, and_true] at hf
          clear hz hF
          go_simp
          exact ⟨rfl, Ext.refl _⟩
        refine hK _ _ ?_
        clear hK K
        refine wpX_step (fun K hK => ?_)
        go_simp
        refine StepY.det (by rw [HSP.out]; rfl) ?_ ?_
        · intro wz hz hF
          clear hz hF
          go_simp
          go_at_call 12
          refine (fl_any _ _).mono ?_
          rintro e w5 ⟨rfl, rfl⟩
          exact ⟨_, rfl, rfl, Ext.refl _⟩
        refine hK _ _ ?_
        clear hK K
        refine wpX_step (fun K hK => ?_)
        go_simp
        refine StepY.det (by rw [HSP.out]; rfl) ?_ ?_
        · intro wz hz hF
          clear hz hF
          go_simp
          exact ⟨rfl, Ext.refl _⟩
        refine hK _ _ ?_
        clear hK K
        refine wpX_step (fun K hK => ?_)
        go_simp
        refine StepY.det (by rw [HSP.out]; rfl) ?_ ?_
        · intro wz hz hF
          rw [HS.out] at hz
          have hf := hz.cells
          simp only [BC, CC, Nat.zero_add, Nat.reduceAdd, and_true] at hf
          clear hz hF
          go_simp
          exact ⟨rfl, Ext.refl _⟩
        refine hK _ _ ?_
        clear hK K
        refine wpX_step (fun K hK => ?_)
        go_simp
        refine StepY.det (by rw [HSP.out]; rfl) ?_ ?_
        · intro wz hz hF
          clear hz hF
          go_simp
          go_at_call 12
          refine (fl_any _ _).mono ?_
          rintro e w5 ⟨rfl, rfl⟩
          exact ⟨_, rfl, rfl, Ext.refl _⟩
        refine hK _ _ ?_
        clear hK K
        refine wpX_step (fun K hK => ?_)
        go_simp
        refine StepY.any (by rw [HSP.out]; rfl) ?_ ?_
        · intro wz hz hF
          clear hF hz
          go_simp
          go_at_call 21
          refine (HA2.out _).mono ?_
          rintro e w2 ⟨r, rfl, hr, hc, hE1⟩
          exact ⟨_, rfl, ⟨r, rfl, hr, hc⟩, hE1⟩
        intro vHA2
        refine hK _ _ ?_
        clear hK K
        refine wpX_step (fun K hK => ?_)
        go_simp
        refine StepY.det (by rw [HSP.out]; rfl) ?_ ?_
        · intro wz hz hF
          obtain ⟨wa', ea, r, hv1, hr, hc⟩ := hF.any 16 (by kernel_rfl) (by rw [HSP.out]; rfl)
          clear hF
          simp only [asFun, List.nil_append, List.cons_append, List.getD_cons_succ, List.getD_cons_zero] at hv1
          subst hv1
          go_simp
          go_at_call 10
          refine (HL.out r _ hr).mono ?_
          rintro e w5 ⟨rfl, rfl⟩
          exact ⟨_, rfl, by rw [hc]; rfl, Ext.refl _⟩
        refine hK _ _ ?_
        clear hK K
        refine wpX_step (fun K hK => ?_)
        go_simp
        refine StepY.det (by rw [HSP.out]; rfl) ?_ ?_
        · intro wz hz hF
          clear hz hF
          go_simp
          exact ⟨rfl, Ext.refl _⟩
        refine hK _ _ ?_
        clear hK K
        refine wpX_step (fun K hK => ?_)
        go_simp
        refine StepY.det (by rw [HSP.out]; rfl) ?_ ?_
        · intro wz hz hF
          clear hz hF
          go_simp
          exact ⟨rfl, Ext.refl _⟩
        refine hK _ _ ?_
        clear hK K
        refine wpX_nil ?_
        intro w14 hz hF
        clear hF
        rw [HS.out] at hz
        have hE := hz.toExt
        clear hz
        go_wp2
        go_ret
        exact ⟨by first | rfl | simp, hE⟩
      · go_wp2_with (go_at_call 16; refine (HF3.out _).mono ?_; rintro e w' ⟨rfl, rfl⟩)
        go_round
        case rel => exact .inr (.inr (.inr ⟨rfl, Lib.hid ⟨H1.out, H2.out, by trivial⟩⟩))
        case measure => simp [intOf]
    · go_wp2_with fail
      refine (HB1.out _).mono ?_
      rintro e w11 ⟨A1, l1, c1, B1, k1, d1, rfl, hW1, hW2, hE1⟩
      have hO := ((hO.ext hE1).add hW1).add hW2
      clear hW1 hW2 hE1
      clear hf
      have hf := hO.cells
      simp only [BC, CC, Nat.zero_add, Nat.reduceAdd, and_true] at hf
      go_wp2_with (first | ((with_reducible refine at_alloc ?_); refine own_alloc hO zero_rat rfl rfl ?_; clear hO; intro g1 w12 hO; clear hf; have hf := hO.cells; simp only [BC, CC, Nat.zero_add, Nat.reduceAdd, and_true] at hf) | ((with_reducible refine at_store (T := 35) ?_); refine own_store (T := 35) hO 0 rfl rfl rfl size_rat rfl rfl rfl ?_; clear hO; intro w13 hO; simp only [List.set_cons_zero, List.set_cons_succ, spl, List.take_succ_cons, List.take_zero, List.nil_append, List.cons_append, List.length_cons, List.length_nil, List.drop_succ_cons, List.drop_zero, List.drop_nil, Nat.reduceAdd, Nat.zero_add, List.append_nil] at hO; clear hf; have hf := hO.cells; simp only [BC, CC, Nat.zero_add, Nat.reduceAdd, and_true] at hf))
      refine (HB2.out _).mono ?_
      rintro e w21 ⟨A2, l2, c2, B2, k2, d2, rfl, hW1, hW2, hE1⟩
      have hO := ((hO.ext hE1).add hW1).add hW2
      clear hW1 hW2 hE1
      clear hf
      have hf := hO.cells
      simp only [BC, CC, Nat.zero_add, Nat.reduceAdd, and_true] at hf
      go_wp2_with (first | ((with_reducible refine at_alloc ?_); refine own_alloc hO zero_rat rfl rfl ?_; clear hO; intro g2 w22 hO; clear hf; have hf := hO.cells; simp only [BC, CC, Nat.zero_add, Nat.reduceAdd, and_true] at hf) | ((with_reducible refine at_store (T := 35) ?_); refine own_store (T := 35) hO 0 rfl rfl rfl size_rat rfl rfl rfl ?_; clear hO; intro w23 hO; simp only [List.set_cons_zero, List.set_cons_succ, spl, List.take_succ_cons, List.take_zero, List.nil_append, List.cons_append, List.length_cons, List.length_nil, List.drop_succ_cons, List.drop_zero, List.drop_nil, Nat.reduceAdd, Nat.zero_add, List.append_nil] at hO; clear hf; have hf := hO.cells; simp only [BC, CC, Nat.zero_add, Nat.reduceAdd, and_true] at hf))
      refine (HB3.out _).mono ?_
      rintro e w31 ⟨A3, l3, c3, B3, k3, d3, rfl, hW1, hW2, hE1⟩
      have hO := ((hO.ext hE1).add hW1).add hW2
      clear hW1 hW2 hE1
      clear hf
      have hf := hO.cells
      simp only [BC, CC, Nat.zero_add, Nat.reduceAdd, and_true] at hf
      go_wp2_with (first | ((with_reducible refine at_alloc ?_); refine own_alloc hO zero_rat rfl rfl ?_; clear hO; intro g3 w32 hO; clear hf; have hf := hO.cells; simp only [BC, CC, Nat.zero_add, Nat.reduceAdd, and_true] at hf) | ((with_reducible refine at_store (T := 35) ?_); refine own_store (T := 35) hO 0 rfl rfl rfl size_rat rfl rfl rfl ?_; clear hO; intro w33 hO; simp only [List.set_cons_zero, List.set_cons_succ, spl, List.take_succ_cons, List.take_zero, List.nil_append, List.cons_append, List.length_cons, List.length_nil, List.drop_succ_cons, List.drop_zero, List.drop_nil, Nat.reduceAdd, Nat.zero_add, List.append_nil] at hO; clear hf; have hf := hO.cells; simp only [BC, CC, Nat.zero_add, Nat.reduceAdd, and_true] at hf))
      obtain ⟨S, hS⟩ : ∃ S : World → Prop, S = Own w [⟨g3, 35, [.bool sz, .slice A3 l3 c3, .slice B3 k3 d3]⟩, ⟨g2, 35, [.bool sy, .slice A2 l2 c2, .slice B2 k2 d2]⟩, ⟨g1, 35, [.bool sx, .slice A1 l1 c1, .slice B1 k1 d1]⟩, ⟨g, 41, [.int .u64 (x : Int), .int .u64 (y : Int), .int .u64 (z : Int)]⟩] [⟨B3, k3, d3, nd (fbD z)⟩, ⟨A3, l3, c3, nd (fbN z)⟩, ⟨B2, k2, d2, nd (fbD y)⟩, ⟨A2, l2, c2, nd (fbN y)⟩, ⟨B1, k1, d1, nd (fbD x)⟩, ⟨A1, l1, c1, nd (fbN x)⟩] := ⟨_, rfl⟩
      have hSE : ∀ w w', S w → Ext w w' → S w' := fun w w' h1 h2 => by rw [hS] at h1 ⊢; exact h1.ext h2
      have HSE := Lib.hid hSE
      rw [← hS] at hO
      have HS := Lib.hid hS
      clear hS hSE hf
      go_loopw [7] (fun kv wr => ∃ k : Nat, kv = .int .i64 (k : Int) ∧ k ≤ 5 ∧ S wr) (fun kv _ => 5 - (intOf kv).toNat)
      case atStart => exact ⟨0, rfl, by omega, hO⟩
      case round =>
        obtain ⟨k, rfl, hk5, hSr⟩ := hrel
        clear hO
        by_cases hk : k < 5
        · have hO := hSr
          rw [HS.out] at hO
          have hf := hO.cells
          simp only [BC, CC, Nat.zero_add, Nat.reduceAdd, and_true] at hf
          by_cases hk3 : k = 3
          · subst hk3
            rcases HSV.out with ⟨h0, hs0⟩ | ⟨h0, hs0⟩
            · go_wp2_with fail
              refine (HSG.out _ _ _ _ _ _ _ ⟨hO.wd 3 rfl, hO.wd 2 rfl⟩).mono ?_
              rintro e w5 ⟨rfl, hE5⟩
              go_wp2
              go_roundw
              case rel => exact ⟨4, by go_num, by omega, HSE.out _ _ hSr hE5⟩
              case measure => simp [intOf]
            · obtain ⟨s, N, D, LO, HI, NE, hop⟩ := HOP.out HT.out.1 HT.out.2.1 HT.out.2.2 3 (by omega) (fun _ => h0)
              go_wp2_with fail
              refine (HSG.out _ _ _ _ _ _ _ ⟨hO.wd 3 rfl, hO.wd 2 rfl⟩).mono ?_
              rintro e w5 ⟨rfl, hE5⟩
              have hSr := HSE.out _ _ hSr hE5
              clear hO hf hE5
              go_wp2_with fail
              have hS1 := HSE.out _ _ hSr (Ext.refl _).drew
              clear hSr
              obtain ⟨sp, hsp⟩ : ∃ sp : Nat → Sp, sp = ofList [det (.int .i64 3), det (.pointer (some ⟨g, 0, none⟩)), det (.int .u64 (x : Int)), det (.float .f64 x), det (.pointer (some ⟨g, 1, none⟩)), det (.int .u64 (y : Int)), det (.float .f64 y), det (.pointer (some ⟨g, 2, none⟩)), det (.int .u64 (z : Int)), det (.float .f64 z), det (.int .u64 (LO : Int))] := ⟨_, rfl⟩
              have HSP := Lib.hid hsp
              clear hsp
              refine wp_region_loose 11 S sp (by kernel_rfl) (by kernel_rfl) hS1 HSE.out ?_
              simp only [List.take_succ_cons, List.take_zero, List.drop_succ_cons, List.drop_zero]
              iterate 11
                refine wpX_step (fun K hK => ?_)
                go_simp
                refine StepY.det (by rw [HSP.out]; rfl) ?_ ?_
                · intro wz hz hF
                  rw [HS.out] at hz
                  have hf := hz.cells
                  simp only [BC, CC, Nat.zero_add, Nat.reduceAdd, and_true] at hf
                  clear hz hF
                  go_simp
                  first
                  | exact ⟨rfl, Ext.refl _⟩
                  | (go_at_call 12
                     refine (fl_any _ _).mono ?_
                     rintro e w5 ⟨rfl, rfl⟩
                     exact ⟨_, rfl, rfl, Ext.refl _⟩)
                  | (go_at_call 23
                     refine (hop.lo.out _).mono ?_
                     rintro e w5 ⟨rfl, hE5⟩
                     exact ⟨_, rfl, rfl, hE5⟩)
                refine hK _ _ ?_
                clear hK K
              refine wpX_nil ?_
              intro wlo hSlo hF
              clear hF hS1 HSP
              go_wp2_with fail
              have hS1 := HSE.out _ _ hSlo (Ext.refl _).drew
              clear hSlo
              obtain ⟨sp, hsp⟩ : ∃ sp : Nat → Sp, sp = ofList [det (.int .i64 3), det (.pointer (some ⟨g, 0, none⟩)), det (.int .u64 (x : Int)), det (.float .f64 x), det (.pointer (some ⟨g, 1, none⟩)), det (.int .u64 (y : Int)), det (.float .f64 y), det (.pointer (some ⟨g, 2, none⟩)), det (.int .u64 (z : Int)), det (.float .f64 z), det (.int .u64 (HI : Int))] := ⟨_, rfl⟩
              have HSP := Lib.hid hsp
              clear hsp
              refine wp_region_loose 11 S sp (by kernel_rfl) (by kernel_rfl) hS1 HSE.out ?_
              simp only [List.take_succ_cons, List.take_zero, List.drop_succ_cons, List.drop_zero]
              iterate 11
                refine wpX_step (fun K hK => ?_)
                go_simp
                refine StepY.det (by rw [HSP.out]; rfl) ?_ ?_
                · intro wz hz hF
                  rw [HS.out] at hz
                  have hf := hz.cells
                  simp only [BC, CC, Nat.zero_add, Nat.reduceAdd, and_true] at hf
                  clear hz hF
                  go_simp
                  first
                  | exact ⟨rfl, Ext.refl _⟩
                  | (go_at_call 12
                     refine (fl_any _ _).mono ?_
                     rintro e w5 ⟨rfl, rfl⟩
                     exact ⟨_, rfl, rfl, Ext.refl _⟩)
                  | (go_at_call 23
                     refine (hop.hi.out _).mono ?_
                     rintro e w5 ⟨rfl, hE5⟩
                     exact ⟨_, rfl, rfl, hE5⟩)
                refine hK _ _ ?_
                clear hK K
              refine wpX_nil ?_
              intro whi hShi hF
              clear hF hS1 HSP
              go_wp2_with fail
              have hS1 := HSE.out _ _ hShi (Ext.refl _).drew
              clear hShi
              obtain ⟨sp, hsp⟩ : ∃ sp : Nat → Sp, sp = ofList [det (.int .i64 3), det (.pointer (some ⟨g, 0, none⟩)), det (.int .u64 (x : Int)), det (.float .f64 x), det (.pointer (some ⟨g, 1, none⟩)), det (.int .u64 (y : Int)), det (.float .f64 y), det (.pointer (some ⟨g, 2, none⟩)), det (.int .u64 (z : Int)), det (.float .f64 z), det (.int .u64 (NE : Int))] := ⟨_, rfl⟩
              have HSP := Lib.hid hsp
              clear hsp
              refine wp_region_loose 11 S sp (by kernel_rfl) (by kernel_rfl) hS1 HSE.out ?_
              simp only [List.take_succ_cons, List.take_zero, List.drop_succ_cons, List.drop_zero]
              iterate 11
                refine wpX_step (fun K hK => ?_)
                go_simp
                refine StepY.det (by rw [HSP.out]; rfl) ?_ ?_
                · intro wz hz hF
                  rw [HS.out] at hz
                  have hf := hz.cells
                  simp only [BC, CC, Nat.zero_add, Nat.reduceAdd, and_true] at hf
                  clear hz hF
                  go_simp
                  first
                  | exact ⟨rfl, Ext.refl _⟩
                  | (go_at_call 12
                     refine (fl_any _ _).mono ?_
                     rintro e w5 ⟨rfl, rfl⟩
                     exact ⟨_, rfl, rfl, Ext.refl _⟩)
                  | (go_at_call 23
                     refine (hop.ne.out _).mono ?_
                     rintro e w5 ⟨rfl, hE5⟩
                     exact ⟨_, rfl, rfl, hE5⟩)
                refine hK _ _ ?_
                clear hK K
              refine wpX_nil ?_
              intro wne hSne hF
              clear hF hS1 HSP
              have hO := HS.out ▸ hSne
              have hf := hO.cells
              simp only [BC, CC, Nat.zero_add, Nat.reduceAdd, and_true] at hf
              go_wp2_with fail
              refine (hop.ex.out _ _ _ _ _ _ _ _ _ _ _ _ _ _ _ _ _ _ _ ⟨hO.wd 5 rfl, hO.wd 4 rfl⟩ ⟨hO.wd 3 rfl, hO.wd 2 rfl⟩ ⟨hO.wd 1 rfl, hO.wd 0 rfl⟩).mono ?_
              rintro e w6 ⟨A4, l4, c4, B4, k4, d4, rfl, hW1, hW2, hE6⟩
              clear hO hf
              go_wp2_with fail
              refine (hop.ti.out _ _ _ _ _ _ _ ⟨hW1, hW2⟩).mono ?_
              rintro e w7 ⟨rfl, hE7⟩
              go_wp2
              go_roundw
              case rel => exact ⟨4, by go_num, by omega, HSE.out _ _ hSne (hE6.trans hE7)⟩
              case measure => simp [intOf]
          · have hq : ((k : Int) == 3) = false := by rw [beq_eq_false_iff_ne]; omega
            obtain ⟨s, N, D, LO, HI, NE, hop⟩ := HOP.out HT.out.1 HT.out.2.1 HT.out.2.2 k hk (fun h => absurd h hk3)
            clear hO hf
            go_wp2_with fail
            have hS1 := HSE.out _ _ hSr (Ext.refl _).drew
            clear hSr
            obtain ⟨sp, hsp⟩ : ∃ sp : Nat → Sp, sp = ofList [det (.int .i64 (k : Int)), det (.pointer (some ⟨g, 0, none⟩)), det (.int .u64 (x : Int)), det (.float .f64 x), det (.pointer (some ⟨g, 1, none⟩)), det (.int .u64 (y : Int)), det (.float .f64 y), det (.pointer (some ⟨g, 2, none⟩)), det (.int .u64 (z : Int)), det (.float .f64 z), det (.int .u64 (LO : Int))] := ⟨_, rfl⟩
            have HSP := Lib.hid hsp
            clear hsp
            refine wp_region_loose 11 S sp (by kernel_rfl) (by kernel_rfl) hS1 HSE.out ?_
            simp only [List.take_succ_cons, List.take_zero, List.drop_succ_cons, List.drop_zero]
            iterate 11
              refine wpX_step (fun K hK => ?_)
              go_simp
              refine StepY.det (by rw [HSP.out]; rfl) ?_ ?_
              · intro wz hz hF
                rw [HS.out] at hz
                have hf := hz.cells
                simp only [BC, CC, Nat.zero_add, Nat.reduceAdd, and_true] at hf
                clear hz hF
                go_simp
                first
                | exact ⟨rfl, Ext.refl _⟩
                | (go_at_call 12
                   refine (fl_any _ _).mono ?_
                   rintro e w5 ⟨rfl, rfl⟩
                   exact ⟨_, rfl, rfl, Ext.refl _⟩)
                | (go_at_call 23
                   refine (hop.lo.out _).mono ?_
                   rintro e w5 ⟨rfl, hE5⟩
                   exact ⟨_, rfl, rfl, hE5⟩)
              refine hK _ _ ?_
              clear hK K
            refine wpX_nil ?_
            intro wlo hSlo hF
            clear hF hS1 HSP
            go_wp2_with fail
            have hS1 := HSE.out _ _ hSlo (Ext.refl _).drew
            clear hSlo
            obtain ⟨sp, hsp⟩ : ∃ sp : Nat → Sp, sp = ofList [det (.int .i64 (k : Int)), det (.pointer (some ⟨g, 0, none⟩)), det (.int .u64 (x : Int)), det (.float .f64 x), det (.pointer (some ⟨g, 1, none⟩)), det (.int .u64 (y : Int)), det (.float .f64 y), det (.pointer (some ⟨g, 2, none⟩)), det (.int .u64 (z : Int)), det (.float .f64 z), det (.int .u64 (HI : Int))] := ⟨_, rfl⟩
            have HSP := Lib.hid hsp
            clear hsp
            refine wp_region_loose 11 S sp (by kernel_rfl) (by kernel_rfl) hS1 HSE.out ?_
            simp only [List.take_succ_cons, List.take_zero, List.drop_succ_cons, List.drop_zero]
            iterate 11
              refine wpX_step (fun K hK => ?_)
              go_simp
              refine StepY.det (by rw [HSP.out]; rfl) ?_ ?_
              · intro wz hz hF
                rw [HS.out] at hz
                have hf := hz.cells
                simp only [BC, CC, Nat.zero_add, Nat.reduceAdd, and_true] at hf
                clear hz hF
                go_simp
                first
                | exact ⟨rfl, Ext.refl _⟩
                | (go_at_call 12
                   refine (fl_any _ _).mono ?_
                   rintro e w5 ⟨rfl, rfl⟩
                   exact ⟨_, rfl, rfl, Ext.refl _⟩)
                | (go_at_call 23
                   refine (hop.hi.out _).mono ?_
                   rintro e w5 ⟨rfl, hE5⟩
                   exact ⟨_, rfl, rfl, hE5⟩)
              refine hK _ _ ?_
              clear hK K
            refine wpX_nil ?_
            intro whi hShi hF
            clear hF hS1 HSP
            go_wp2_with fail
            have hS1 := HSE.out _ _ hShi (Ext.refl _).drew
            clear hShi
            obtain ⟨sp, hsp⟩ : ∃ sp : Nat → Sp, sp = ofList [det (.int .i64 (k : Int)), det (.pointer (some ⟨g, 0, none⟩)), det (.int .u64 (x : Int)), det (.float .f64 x), det (.pointer (some ⟨g, 1, none⟩)), det (.int .u64 (y : Int)), det (.float .f64 y), det (.pointer (some ⟨g, 2, none⟩)), det (.int .u64 (z : Int)), det (.float .f64 z), det (.int .u64 (NE : Int))] := ⟨_, rfl⟩
            have HSP := Lib.hid hsp
            clear hsp
            refine wp_region_loose 11 S sp (by kernel_rfl) (by kernel_rfl) hS1 HSE.out ?_
            simp only [List.take_succ_cons, List.take_zero, List.drop_succ_cons, List.drop_zero]
            iterate 11
              refine wpX_step (fun K hK => ?_)
              go_simp
              refine StepY.det (by rw [HSP.out]; rfl) ?_ ?_
              · intro wz hz hF
                rw [HS.out] at hz
                have hf := hz.cells
                simp only [BC, CC, Nat.zero_add, Nat.reduceAdd, and_true] at hf
                clear hz hF
                go_simp
                first
                | exact ⟨rfl, Ext.refl _⟩
                | (go_at_call 12
                   refine (fl_any _ _).mono ?_
                   rintro e w5 ⟨rfl, rfl⟩
                   exact ⟨_, rfl, rfl, Ext.refl _⟩)
                | (go_at_call 23
                   refine (hop.ne.out _).mono ?_
                   rintro e w5 ⟨rfl, hE5⟩
                   exact ⟨_, rfl, rfl, hE5⟩)
              refine hK _ _ ?_
              clear hK K
            refine wpX_nil ?_
            intro wne hSne hF
            clear hF hS1 HSP
            have hO := HS.out ▸ hSne
            have hf := hO.cells
            simp only [BC, CC, Nat.zero_add, Nat.reduceAdd, and_true] at hf
            go_wp2_with fail
            refine (hop.ex.out _ _ _ _ _ _ _ _ _ _ _ _ _ _ _ _ _ _ _ ⟨hO.wd 5 rfl, hO.wd 4 rfl⟩ ⟨hO.wd 3 rfl, hO.wd 2 rfl⟩ ⟨hO.wd 1 rfl, hO.wd 0 rfl⟩).mono ?_
            rintro e w6 ⟨A4, l4, c4, B4, k4, d4, rfl, hW1, hW2, hE6⟩
            clear hO hf
            go_wp2_with fail
            refine (hop.ti.out _ _ _ _ _ _ _ ⟨hW1, hW2⟩).mono ?_
            rintro e w7 ⟨rfl, hE7⟩
            go_wp2
            go_roundw
            case rel => exact ⟨k + 1, by go_num, by omega, HSE.out _ _ hSne (hE6.trans hE7)⟩
            case measure => simp [intOf]; omega
        · have hke : k = 5 := by omega
          subst hke
          go_wp2_with fail
          refine (HLV.out _).mono ?_
          rintro e w2 ⟨rfl, hE2⟩
          have hE := (HS.out ▸ hSr).toExt
          go_wp2
          go_ret
          exact ⟨by first | rfl | simp, hE.trans hE2⟩
end Go.Proofs.Ytmcfflecaklpcaa
