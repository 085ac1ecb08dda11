/-
  The law IvalSubtracts holds: for every two intervals of patterns Sub answers the least interval that holds all differences, bit for bit. No condition.
-/
import Derived.Test.YtllfcklgljdgeaaRows
import Derived.Test.YtllfcklgljdgeaaZ31
import Derived.ProofKit
import Derived.ChangeOld
import Derived.Below
import Derived.OpenShut
import Derived.Lib.SmallJoins
namespace Go.Proofs.Ytllfcklgljdgeaa.ivalSubtracts
open Go.ChangeShapes Go.WideShapes Go.ChangeAt Go.RowKit Go.Joins Go.Proofs.Ytllfcklgljdgeaa
set_option linter.unusedVariables false

theorem own : ownKnob Try.prog.godebug = none := by kernel_rfl
theorem cellsU : Try.prog.cellsOf 22 = 1 := by kernel_rfl
theorem cellsI : Try.prog.cellsOf 24 = 2 := by kernel_rfl

theorem walk (a b c d : Int) (wa : (Lit.int .u64 a).wf = true) (wb : (Lit.int .u64 b).wf = true) (wc : (Lit.int .u64 c).wf = true) (wd : (Lit.int .u64 d).wf = true) (w : World) :
    Calls Try.prog 5 #[.agg #[.int .u64 a, .int .u64 b], .agg #[.int .u64 c, .int .u64 d]] w fun e w' => e = .returned (.bool true) ∧ Below w.heap.size w w' := by
  have h1 := bounds_u64 wa
  have h2 := bounds_u64 wb
  have h3 := bounds_u64 wc
  have h4 := bounds_u64 wd
  obtain ⟨x1, rfl⟩ := Int.eq_ofNat_of_zero_le h1.1
  obtain ⟨x2, rfl⟩ := Int.eq_ofNat_of_zero_le h2.1
  obtain ⟨y1, rfl⟩ := Int.eq_ofNat_of_zero_le h3.1
  obtain ⟨y2, rfl⟩ := Int.eq_ofNat_of_zero_le h4.1
  exact (subs_walk x1 x2 y1 y2 w (by omega) (by omega) (by omega) (by omega)).mono fun e w' h => ⟨h.1, h.2⟩

set_option maxRecDepth 100000 in
theorem lifted (os : Os) (started : os.Started) (H : Type) (enc : TypeId × Value → H) :
    ReturnsInHanded {} Try.checked os 5 .any (Rows.ivalSubtractsSpec.pre6 enc Try.prog Try.f5 Rows.ivalSubtractsRow.domain false) (Rows.ivalSubtractsSpec.post enc Try.prog Try.f5 false true false false) := by
  refine returnsInHanded_of_change (C := Try.checked) own started (by kernel_rfl) Try.func5
    (ChangeSpec.witness6 (enc := enc) (C := Try.checked) false ⟨#[], #[.agg #[.int .u64 0, .int .u64 0], .agg #[.int .u64 0, .int .u64 0]], []⟩ 8 (by kernel_rfl) (by kernel_rfl) (by kernel_rfl) (by kernel_rfl)) ?_
  intro W base args ds gs before hval0 hW hcnd _
  have hval : ∀ (j : Nat) t v, Try.f5.params[j]? = some t → args[j]? = some v → Value.okWide Try.prog W .any base t v := hval0
  have hW' := hW
  obtain ⟨p, q, hA0, hV, rfl, hfz, hnd⟩ := hW
  have hA : DataW.TrodAll enc Try.prog W 0 (fun _ => true) true Try.f5.params.toList args.toList ds p := hA0
  rw [Try.params5] at hA hval
  obtain ⟨v0, v1, d0, d1, p0, p1, rfl, rfl, rfl, h0, h1⟩ := trodAll_two hA
  obtain ⟨rfl, rfl⟩ := trodVars_none hV
  obtain ⟨c0, c1, y0, y1, m, rfl, rfl, rfl, hy0, hy1⟩ := open_agg2 Try.underlying24 (by kernel_rfl) cellsI (hval 0 24 v0 rfl rfl) h0
  obtain ⟨a, e0, rfl, wa⟩ := DataW.trod_int Try.underlying22 hy0
  obtain ⟨b, e1, rfl, wb⟩ := DataW.trod_int Try.underlying22 hy1
  obtain ⟨c2, c3, y2, y3, m', rfl, rfl, rfl, hy2, hy3⟩ := open_agg2 Try.underlying24 (by kernel_rfl) cellsI (hval 1 24 v1 rfl rfl) h1
  obtain ⟨c, e2, rfl, wc⟩ := DataW.trod_int Try.underlying22 hy2
  obtain ⟨d, e3, rfl, wd⟩ := DataW.trod_int Try.underlying22 hy3
  simp at e0 e1 e2 e3
  subst e0 e1 e2 e3
  clear hA0 hval0
  simp only [List.append_nil] at hW'
  have structReads : ∀ (W' : World) (sp : Nat → Bool) (a b : Int) (wa : (Lit.int .u64 a).wf = true) (wb : (Lit.int .u64 b).wf = true), DataW.Trod enc Try.prog W' 0 sp true 24 (.agg #[.int .u64 a, .int .u64 b]) (.agg [.lit (.int .u64 a), .lit (.int .u64 b)]) [] := fun W' sp a b wa wb =>
    shut_agg2 (y0 := (.lit (.int .u64 a), [])) (y1 := (.lit (.int .u64 b), [])) Try.underlying24 (by kernel_rfl) cellsI ⟨1, by simp [DataW.trod, Try.underlying22, wa]⟩ ⟨1, by simp [DataW.trod, Try.underlying22, wb]⟩
  refine (walk a b c d wa wb wc wd W).mono fun e W' ⟨he, bel⟩ => ?_
  subst he
  exact ⟨_, rfl, _, _, _, [], _, [], hW', trodAll_mk1 (shut_bool Try.underlying4 _), trodAll_mk2 (structReads W' _ a b wa wb) (structReads W' _ c d wc wd), rfl, bel.frame _, fun h => by cases h⟩

theorem over : Rows.ivalSubtractsRow.holds Try.pinned (OpenSpec.ofChange Rows.ivalSubtractsSpec) :=
  OpenClaim.holds_of_wide 5 Try.f5 rfl rfl rfl rfl rfl rfl rfl ⟨rfl, rfl, rfl, rfl, rfl⟩ rfl rfl rfl rfl rfl (by kernel_rfl) Try.func5 (by kernel_rfl)
    (of_decide_eq_true (by kernel_rfl)) (by unfold Func.isWrapper; first | (rw [if_pos (by decide +kernel)]; kernel_rfl) | (rw [if_neg (by decide +kernel)]; exact ⟨rfl, rfl⟩))
    (fun os started H enc _ => lifted os started H enc)

/-- The statement. -/
theorem proved : Rows.IvalSubtractsSaid :=
  over
#print axioms proved
end Go.Proofs.Ytllfcklgljdgeaa.ivalSubtracts
