/-
  The law TotalTwos holds: of two numbers, of a product, of a product and a number the sums are round's Add, Mul, FMA. No condition.
-/
import Derived.Test.YtfbjeifhpmdjaaaRows
import Derived.Test.YtfbjeifhpmdjaaaZ33
import Derived.ProofKit
import Derived.ChangeOld
import Derived.Below
import Derived.OpenShut
import Derived.Lib.SmallJoins
namespace Go.Proofs.Ytfbjeifhpmdjaaa.totalTwos
open Go.ChangeShapes Go.WideShapes Go.ChangeAt Go.RowKit Go.Joins Go.Proofs.Ytfbjeifhpmdjaaa
set_option linter.unusedVariables false

theorem own : ownKnob Try.prog.godebug = none := by kernel_rfl
theorem cellsU : Try.prog.cellsOf 23 = 1 := by kernel_rfl

theorem cellsA : Try.prog.cellsOf 64 = 3 := by kernel_rfl
theorem walk (a b c d : Int) (wa : (Lit.int .i64 a).wf = true) (wb : (Lit.int .u64 b).wf = true) (wc : (Lit.int .u64 c).wf = true) (wd : (Lit.int .u64 d).wf = true) (w : World) :
    Calls Try.prog 8 #[.int .i64 a, .agg #[.int .u64 b, .int .u64 c, .int .u64 d]] w fun e w' => e = .returned (.bool true) ∧ Below w.heap.size w w' := by
  have h1 := bounds_u64 wb
  have h2 := bounds_u64 wc
  have h3 := bounds_u64 wd
  obtain ⟨x1, rfl⟩ := Int.eq_ofNat_of_zero_le h1.1
  obtain ⟨x2, rfl⟩ := Int.eq_ofNat_of_zero_le h2.1
  obtain ⟨x3, rfl⟩ := Int.eq_ofNat_of_zero_le h3.1
  exact (twos_w a x1 x2 x3 w (by omega) (by omega) (by omega)).mono fun e w' h => ⟨h.1, h.2⟩

set_option maxRecDepth 100000 in
theorem lifted (os : Os) (started : os.Started) (H : Type) (enc : TypeId × Value → H) :
    ReturnsInHanded {} Try.checked os 8 .any (Rows.totalTwosSpec.pre6 enc Try.prog Try.f8 Rows.totalTwosRow.domain false) (Rows.totalTwosSpec.post enc Try.prog Try.f8 false true false false) := by
  refine returnsInHanded_of_change (C := Try.checked) own started (by kernel_rfl) Try.func8
    (ChangeSpec.witness6 (enc := enc) (C := Try.checked) false ⟨#[], #[.int .i64 0, .agg #[.int .u64 0, .int .u64 0, .int .u64 0]], []⟩ 8 (by kernel_rfl) (by kernel_rfl) (by kernel_rfl) (by kernel_rfl)) ?_
  intro W base args ds gs before hval0 hW hcnd _
  have hval : ∀ (j : Nat) t v, Try.f8.params[j]? = some t → args[j]? = some v → Value.okWide Try.prog W .any base t v := hval0
  have hW' := hW
  obtain ⟨p, q, hA0, hV, rfl, hfz, hnd⟩ := hW
  have hA : DataW.TrodAll enc Try.prog W 0 (fun _ => true) true Try.f8.params.toList args.toList ds p := hA0
  rw [Try.params8] at hA hval
  obtain ⟨v0, v1, d0, d1, p0, p1, rfl, rfl, rfl, h0, h1⟩ := trodAll_two hA
  obtain ⟨rfl, rfl⟩ := trodVars_none hV
  obtain ⟨a, rfl, rfl, rfl, wa⟩ := open_int Try.underlying3 (hval 0 3 v0 rfl rfl) h0
  obtain ⟨b, c, d, rfl, rfl, rfl, wb, wc, wd⟩ := open_arr3 Try.underlying64 Try.underlying23 cellsU cellsA (hval 1 64 v1 rfl rfl) h1
  clear hA0 hval0
  simp only [List.append_nil] at hW'
  refine (walk a b c d wa wb wc wd W).mono fun e W' ⟨he, bel⟩ => ?_
  subst he
  exact ⟨_, rfl, _, _, _, [], _, [], hW', trodAll_mk1 (shut_bool Try.underlying4 _), trodAll_mk2 (shut_int Try.underlying3 wa) (shut_arr3 Try.underlying64 Try.underlying23 cellsU cellsA wb wc wd), rfl, bel.frame _, fun h => by cases h⟩

theorem over : Rows.totalTwosRow.holds Try.pinned (OpenSpec.ofChange Rows.totalTwosSpec) :=
  OpenClaim.holds_of_wide 8 Try.f8 rfl rfl rfl rfl rfl rfl rfl ⟨rfl, rfl, rfl, rfl, rfl⟩ rfl rfl rfl rfl rfl (by kernel_rfl) Try.func8 (by kernel_rfl)
    (of_decide_eq_true (by kernel_rfl)) (by unfold Func.isWrapper; first | (rw [if_pos (by decide +kernel)]; kernel_rfl) | (rw [if_neg (by decide +kernel)]; exact ⟨rfl, rfl⟩))
    (fun os started H enc _ => lifted os started H enc)

/-- The statement. -/
theorem proved : Rows.TotalTwosSaid :=
  over
#print axioms proved
end Go.Proofs.Ytfbjeifhpmdjaaa.totalTwos
