/-
  The law RoundTightRoots holds: for every pattern and whole number the powers of what Root answers lie about the number, as closely as they can. No condition.
-/
import Derived.Test.YtmcfflecaklpcaaRows
import Derived.Test.YtmcfflecaklpcaaZ38
import Derived.ProofKit
import Derived.ChangeOld
import Derived.Below
import Derived.OpenShut
import Derived.Lib.SmallJoins
namespace Go.Proofs.Ytmcfflecaklpcaa.roundTightRoots
open Go.ChangeShapes Go.WideShapes Go.ChangeAt Go.RowKit Go.Joins Go.Proofs.Ytmcfflecaklpcaa
set_option linter.unusedVariables false

theorem own : ownKnob Try.prog.godebug = none := by kernel_rfl
theorem cellsU : Try.prog.cellsOf 22 = 1 := by kernel_rfl

theorem walk (a b : Int) (wa : (Lit.int .u64 a).wf = true) (wb : (Lit.int .i64 b).wf = true) (w : World) :
    Calls Try.prog 5 #[.int .u64 a, .int .i64 b] w fun e w' => e = .returned (.bool true) ∧ Below w.heap.size w w' := by
  have h1 := bounds_u64 wa
  obtain ⟨x1, rfl⟩ := Int.eq_ofNat_of_zero_le h1.1
  exact (tightroots_walk x1 b w (by omega)).mono fun e w' h => ⟨h.1, h.2⟩

set_option maxRecDepth 100000 in
theorem lifted (os : Os) (started : os.Started) (H : Type) (enc : TypeId × Value → H) :
    ReturnsInHanded {} Try.checked os 5 .any (Rows.roundTightRootsSpec.pre6 enc Try.prog Try.f5 Rows.roundTightRootsRow.domain false) (Rows.roundTightRootsSpec.post enc Try.prog Try.f5 false true false false) := by
  refine returnsInHanded_of_change (C := Try.checked) own started (by kernel_rfl) Try.func5
    (ChangeSpec.witness6 (enc := enc) (C := Try.checked) false ⟨#[], #[.int .u64 0, .int .i64 0], []⟩ 8 (by kernel_rfl) (by kernel_rfl) (by kernel_rfl) (by kernel_rfl)) ?_
  intro W base args ds gs before hval0 hW hcnd _
  have hval : ∀ (j : Nat) t v, Try.f5.params[j]? = some t → args[j]? = some v → Value.okWide Try.prog W .any base t v := hval0
  have hW' := hW
  obtain ⟨p, q, hA0, hV, rfl, hfz, hnd⟩ := hW
  have hA : DataW.TrodAll enc Try.prog W 0 (fun _ => true) true Try.f5.params.toList args.toList ds p := hA0
  rw [Try.params5] at hA hval
  obtain ⟨v0, v1, d0, d1, p0, p1, rfl, rfl, rfl, h0, h1⟩ := trodAll_two hA
  obtain ⟨rfl, rfl⟩ := trodVars_none hV
  obtain ⟨a, rfl, rfl, rfl, wa⟩ := open_int Try.underlying22 (hval 0 22 v0 rfl rfl) h0
  obtain ⟨b, rfl, rfl, rfl, wb⟩ := open_int Try.underlying3 (hval 1 3 v1 rfl rfl) h1
  clear hA0 hval0
  simp only [List.append_nil] at hW'
  refine (walk a b wa wb W).mono fun e W' ⟨he, bel⟩ => ?_
  subst he
  exact ⟨_, rfl, _, _, _, [], _, [], hW', trodAll_mk1 (shut_bool Try.underlying4 _), trodAll_mk2 (shut_int Try.underlying22 wa) (shut_int Try.underlying3 wb), rfl, bel.frame _, fun h => by cases h⟩

theorem over : Rows.roundTightRootsRow.holds Try.pinned (OpenSpec.ofChange Rows.roundTightRootsSpec) :=
  OpenClaim.holds_of_wide 5 Try.f5 rfl rfl rfl rfl rfl rfl rfl ⟨rfl, rfl, rfl, rfl, rfl⟩ rfl rfl rfl rfl rfl (by kernel_rfl) Try.func5 (by kernel_rfl)
    (of_decide_eq_true (by kernel_rfl)) (by unfold Func.isWrapper; first | (rw [if_pos (by decide +kernel)]; kernel_rfl) | (rw [if_neg (by decide +kernel)]; exact ⟨rfl, rfl⟩))
    (fun os started H enc _ => lifted os started H enc)

/-- The statement. -/
theorem proved : Rows.RoundTightRootsSaid :=
  over
#print axioms proved
end Go.Proofs.Ytmcfflecaklpcaa.roundTightRoots
