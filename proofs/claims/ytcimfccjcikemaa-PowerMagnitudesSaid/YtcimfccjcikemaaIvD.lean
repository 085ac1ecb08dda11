/-
  The contracts of the program's intervals, fourth part: Valid. Conditions: those that each theorem names.
-/
import Derived.Test.YtcimfccjcikemaaIvC
import Derived.Test.YtcimfccjcikemaaRefL
import Derived.Test.YtcimfccjcikemaaSteady
import Derived.Deep.DeepCutAuto
namespace Go.Proofs.Ytcimfccjcikemaa
open Go.RowKit Nm Rn
set_option maxRecDepth 100000
set_option linter.unusedVariables false
set_option linter.unusedSimpArgs false

@[go_sem] theorem run_equalIn_float (P : Program) (w : World) (d : Nat) (t : TypeId) (k : FloatKind) (a b : Nat) (h : P.underlying t = some (.float k)) : (Op.equalIn (d + 1) t (.float k a) (.float k b)).run P w = .ok (k.format.order a b == some .eq) w := by
  simp [Op.equalIn, run_underlying h, Op.floatEq]
theorem eqF {a b c d : Nat} (ha : a < 18446744073709551616) (hb : b < 18446744073709551616) (hc : c < 18446744073709551616) (hd : d < 18446744073709551616) (w : World) : (binOp .eql 27 (.agg #[.float .f64 a, .float .f64 b]) (.agg #[.float .f64 c, .float .f64 d])).run Try.prog w = .ok (.bool (eqB a c && eqB b d)) w := by
  rw [← fo_eq ha hc, ← fo_eq hb hd]
  cases h1 : (FloatKind.f64.format.order a c == some .eq) <;> cases h2 : (FloatKind.f64.format.order b d == some .eq) <;> go_simp <;> simp [h1, h2]
theorem eqF' {a b c d : Nat} (ha : a < 18446744073709551616) (hb : b < 18446744073709551616) (hc : c < 18446744073709551616) (hd : d < 18446744073709551616) {E : Bool} (h : (eqB a c && eqB b d) = E) (w : World) : (binOp .eql 27 (.agg #[.float .f64 a, .float .f64 b]) (.agg #[.float .f64 c, .float .f64 d])).run Try.prog w = .ok (.bool E) w := by rw [eqF ha hb hc hd, h]

set_option maxHeartbeats 400000 in
theorem signbit_any (b : Nat) (w : World) (h : b < 18446744073709551616) :
    Calls Try.prog 89 #[.float .f64 b] w fun e w' => e = .returned (.bool (sg b)) ∧ w = w' := by
  have HF : Hid (decide (wrap64 (b : Int) < 0) = sg b) := Lib.hid (by unfold wrap64 sg; exact decide_eq_decide.2 (by omega))
  clear h
  go_enter Try.func89, Try.ntmps89
  go_wp2
  go_ret
  exact ⟨ret_bool HF.out, rfl⟩

set_option maxHeartbeats 400000 in
theorem minusZero_any (b : Nat) (w : World) (h : b < 18446744073709551616) :
    Calls Try.prog 56 #[.float .f64 b] w fun e w' => e = .returned (.bool (decide (b = 9223372036854775808))) ∧ w = w' := by
  have hq := fo_eq h (show 0 < 18446744073709551616 by omega)
  rw [eq0 h] at hq
  have hs := fun w => signbit_any b w h
  have hF : decide (b = 9223372036854775808) = (decide (b = 0 ∨ b = 9223372036854775808) && sg b) := by
    by_cases h0 : b = 0
    · subst h0; rfl
    · by_cases h1 : b = 9223372036854775808
      · subst h1; rfl
      · rw [decide_eq_false h1, decide_eq_false (by omega)]; rfl
  obtain ⟨z, hz⟩ : ∃ z, z = decide (b = 0 ∨ b = 9223372036854775808) := ⟨_, rfl⟩
  obtain ⟨r, hr⟩ : ∃ r, r = decide (b = 9223372036854775808) := ⟨_, rfl⟩
  obtain ⟨s, hs'⟩ : ∃ s, s = sg b := ⟨_, rfl⟩
  rw [← hz] at hq hF
  rw [← hr] at hF ⊢
  rw [← hs'] at hs hF
  have HF := Lib.hid hF
  have HS := Lib.hid hs
  clear hz hr hs' hF hs h
  cases z
  all_goals
    go_enter Try.func56, Try.ntmps56
    go_wp2_with (go_at_call 89; refine (HS.out _).mono ?_; rintro e w' ⟨rfl, rfl⟩)
    go_ret
    exact ⟨ret_bool (by rw [HF.out]; simp), rfl⟩

theorem vld_prog (lo hi : Nat) (hl : lo < 18446744073709551616) (hh : hi < 18446744073709551616) : vldB lo hi = ((eqB lo infR && eqB hi minf) || (sndB lo hi && !decide (lo = 9223372036854775808) && !decide (hi = 9223372036854775808))) := by
  unfold vldB
  have e1 : eqB lo infR = decide (lo = infR) := by
    unfold eqB
    rw [key_inf, nan_inf]
    cases hn : isNaN lo
    · simp only [Bool.not_false, Bool.true_and]; exact decide_eq_decide.2 (key_eq_inf hl hn)
    · have : lo ≠ infR := fun h => by subst h; rw [nan_inf] at hn; cases hn
      simp [this]
  have e2 : eqB hi minf = decide (hi = minf) := by
    unfold eqB
    rw [key_minf, nan_minf]
    cases hn : isNaN hi
    · simp only [Bool.not_false, Bool.true_and]; exact decide_eq_decide.2 (key_eq_minf hh hn)
    · have : hi ≠ minf := fun h => by subst h; rw [nan_minf] at hn; cases hn
      simp [this]
  rw [e1, e2]
  simp

set_option maxHeartbeats 2000000 in
theorem ivalid_any (lo hi : Nat) (w : World) (hl : lo < 18446744073709551616) (hh : hi < 18446744073709551616) :
    Calls Try.prog 18 #[.agg #[.float .f64 lo, .float .f64 hi]] w fun e w' => e = .returned (.bool (vldB lo hi)) ∧ Ext w w' := by
  have hs := fun w => isound_any lo hi w hl hh
  have hm1 := fun w => minusZero_any lo w hl
  have hm2 := fun w => minusZero_any hi w hh
  have hF := vld_prog lo hi hl hh
  obtain ⟨E, hE⟩ : ∃ E, E = (eqB lo infR && eqB hi minf) := ⟨_, rfl⟩
  have hq := eqF' hl hh infR_lt minf_lt hE.symm
  obtain ⟨V, hV⟩ : ∃ V, V = sndB lo hi := ⟨_, rfl⟩
  obtain ⟨c, hc⟩ : ∃ c, c = decide (lo = 9223372036854775808) := ⟨_, rfl⟩
  obtain ⟨d, hd⟩ : ∃ d, d = decide (hi = 9223372036854775808) := ⟨_, rfl⟩
  rw [← hE, ← hV, ← hc, ← hd] at hF
  rw [← hV] at hs
  rw [← hc] at hm1
  rw [← hd] at hm2
  obtain ⟨R, hR⟩ : ∃ R, R = vldB lo hi := ⟨_, rfl⟩
  rw [← hR] at hF ⊢
  have HF := Lib.hid hF
  have HS := Lib.hid hs
  have HM1 := Lib.hid hm1
  have HM2 := Lib.hid hm2
  clear hE hV hc hd hR hs hF hm1 hm2 hl hh
  obtain ⟨S, hS⟩ : ∃ S : World → Prop, S = fun wz => Blk wz w.heap.size 27 #[.float .f64 lo, .float .f64 hi] ∧ Ext w wz := ⟨_, rfl⟩
  have hS1 : S { w.alloc (.cells #[.float .f64 lo, .float .f64 hi] 27) with drawn := (w.alloc (.cells #[.float .f64 lo, .float .f64 hi] 27)).drawn + 1 } := by
    rw [hS]; exact ⟨Blk.new w _ _, ((Ext.refl w).alloc _).drew⟩
  have HSS := Lib.hid hS
  clear hS
  go_enter Try.func18, Try.ntmps18
  go_wp2_with fail
  refine wp_region_steady S (by kernel_rfl) (by kernel_rfl) hS1 ?_
  repeat (refine wpG_step (fun K hK => ?_)
          go_simp
          first
          | (refine hK _ ?_
             clear hK K)
          | (apply StepG.mk
             intro wz hz
             have hz' := hz
             rw [HSS.out] at hz'
             have g0 := hz'.1.cell 0
             have g1 := hz'.1.cell 1
             simp only [List.getElem?_toArray, List.getElem?_cons_zero, List.getElem?_cons_succ] at g0 g1
             first
             | (go_simp
                exact ⟨rfl, hz⟩)
             | (go_simp
                refine (iempty_any _).mono fun e w5 h5 => ⟨h5.1, ?_⟩
                rw [HSS.out]
                exact ⟨hz'.1.ext h5.2, hz'.2.trans h5.2⟩)
             refine hK _ ?_
             clear hK K))
  refine wpG_nil ?_
  intro w5 hw5
  rw [HSS.out] at hw5
  have g0 : w5.cell? ⟨w.heap.size, 0, none⟩ = some (.float .f64 lo) := hw5.1.cell 0
  have g1 : w5.cell? ⟨w.heap.size, 1, none⟩ = some (.float .f64 hi) := hw5.1.cell 1
  have HE5 := Lib.hid hw5.2
  clear hw5 hq hS1
  cases E
  · cases V <;> cases c <;> cases d
    all_goals
      go_wp2_with (first | (go_at_call 52; ((with_reducible refine (HS.out _).mono ?_); rintro e w' ⟨rfl, rfl⟩)) | (go_at_call 56; ((with_reducible refine (HM1.out _).mono ?_); rintro e w' ⟨rfl, rfl⟩)) | (go_at_call 56; ((with_reducible refine (HM2.out _).mono ?_); rintro e w' ⟨rfl, rfl⟩)))
      go_ret
      exact ⟨ret_bool (by rw [HF.out]; rfl), HE5.out⟩
  · go_wp2
    go_ret
    exact ⟨ret_bool (by rw [HF.out]; simp), HE5.out⟩
end Go.Proofs.Ytcimfccjcikemaa
