/-
  The law TotalOrder holds: terms in two orders, and in three parts that are merged, are worth the same. No condition.
-/
import Derived.Test.YtfbjeifhpmdjaaaRows
import Derived.Test.YtfbjeifhpmdjaaaZ46
import Derived.ProofKit
import Derived.ChangeOld
import Derived.Below
import Derived.OpenShut
import Derived.Lib.SmallJoins
import Derived.Carry
namespace Go.Proofs.Ytfbjeifhpmdjaaa.totalOrder
open Go.ChangeShapes Go.WideShapes Go.ChangeAt Go.RowKit Go.Joins Go.Proofs.Ytfbjeifhpmdjaaa
set_option linter.unusedVariables false

theorem own : ownKnob Try.prog.godebug = none := by kernel_rfl
theorem cellsU : Try.prog.cellsOf 23 = 1 := by kernel_rfl

theorem cellsB : Try.prog.cellsOf 4 = 1 := by kernel_rfl
theorem cellsT : Try.prog.cellsOf 33 = 3 := by kernel_rfl
theorem laid : laidOutB Try.prog = true := by kernel_rfl
theorem walk (A : Option Addr) (n c : Nat) (ts : List (Nat × Nat × Bool)) (b : Int) (wb : (Lit.int .i64 b).wf = true) (w : World) (h : Trs w A n c ts) :
    Calls Try.prog 6 #[.slice A n c, .int .i64 b] w fun e w' => e = .returned (.bool true) ∧ Below w.heap.size w w' := by
  have h1 := bounds_i64 wb
  exact (order_w A n c ts b w h (by omega) (by omega)).mono fun e w' h => ⟨h.1, h.2⟩

set_option maxRecDepth 100000 in
theorem lifted (os : Os) (started : os.Started) (H : Type) (enc : TypeId × Value → H) :
    ReturnsInHanded {} Try.checked os 6 .any (Rows.totalOrderSpec.pre6 enc Try.prog Try.f6 Rows.totalOrderRow.domain false) (Rows.totalOrderSpec.post enc Try.prog Try.f6 false true false false) := by
  refine returnsInHanded_of_change (C := Try.checked) own started (by kernel_rfl) Try.func6
    (ChangeSpec.witness6 (enc := enc) (C := Try.checked) false ⟨#[], #[.slice none 0 0, .int .i64 0], []⟩ 8 (by kernel_rfl) (by kernel_rfl) (by kernel_rfl) (by kernel_rfl)) ?_
  intro W base args ds gs before hval0 hW hcnd _
  have hval : ∀ (j : Nat) t v, Try.f6.params[j]? = some t → args[j]? = some v → Value.okWide Try.prog W .any base t v := hval0
  have hW' := hW
  obtain ⟨p, q, hA0, hV, rfl, hfz, hnd⟩ := hW
  have hA : DataW.TrodAll enc Try.prog W 0 (fun _ => true) true Try.f6.params.toList args.toList ds p := hA0
  rw [Try.params6] at hA hval
  obtain ⟨v0, v1, d0, d1, p0, p1, rfl, rfl, rfl, h0, h1⟩ := trodAll_two hA
  obtain ⟨rfl, rfl⟩ := trodVars_none hV
  obtain ⟨A, n, c, ts, rfl, hT⟩ := open_terms Try.underlying22 Try.underlying33 Try.underlying23 Try.underlying23 Try.underlying4 rfl rfl rfl cellsT cellsU cellsU cellsB (hval 0 22 _ rfl rfl) h0
  obtain ⟨b, rfl, rfl, rfl, wb⟩ := open_int Try.underlying3 (hval 1 3 v1 rfl rfl) h1
  clear hA0 hval0
  simp only [List.append_nil] at hW'
  refine (walk A n c ts b wb W hT).mono fun e W' ⟨he, bel⟩ => ?_
  subst he
  exact ⟨_, rfl, _, _, _, [], _, [], hW', trodAll_mk1 (shut_bool Try.underlying4 _), trodAll_mk2 (Below.trod laid (by kernel_rfl) (of_decide_eq_true (by kernel_rfl)) h0 bel (fun x hx => hW'.lt x (by simp [hx]))) (shut_int Try.underlying3 wb), rfl, bel.frame _, fun h => by cases h⟩

theorem over : Rows.totalOrderRow.holds Try.pinned (OpenSpec.ofChange Rows.totalOrderSpec) :=
  OpenClaim.holds_of_wide 6 Try.f6 rfl rfl rfl rfl rfl rfl rfl ⟨rfl, rfl, rfl, rfl, rfl⟩ rfl rfl rfl rfl rfl (by kernel_rfl) Try.func6 (by kernel_rfl)
    (of_decide_eq_true (by kernel_rfl)) (by unfold Func.isWrapper; first | (rw [if_pos (by decide +kernel)]; kernel_rfl) | (rw [if_neg (by decide +kernel)]; exact ⟨rfl, rfl⟩))
    (fun os started H enc _ => lifted os started H enc)

/-- The statement. -/
theorem proved : Rows.TotalOrderSaid :=
  over
#print axioms proved
end Go.Proofs.Ytfbjeifhpmdjaaa.totalOrder
