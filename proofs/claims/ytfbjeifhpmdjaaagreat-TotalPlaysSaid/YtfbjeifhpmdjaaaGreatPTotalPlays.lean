/-
  The law TotalPlays holds: whatever the script of steps, four sums of the program beside one another answer what the document answers. No condition.
-/
import Derived.Test.YtfbjeifhpmdjaaaGreatRows
import Derived.Test.YtfbjeifhpmdjaaaGreatP40
import Derived.ProofKit
import Derived.ChangeOld
import Derived.Below
import Derived.OpenShut
import Derived.Lib.SmallJoins
import Derived.Carry
namespace Go.Proofs.YtfbjeifhpmdjaaaGreat.totalPlays
open Go.ChangeShapes Go.WideShapes Go.ChangeAt Go.RowKit Go.Joins Go.Proofs.YtfbjeifhpmdjaaaGreat
set_option linter.unusedVariables false

theorem own : ownKnob Tryz.prog.godebug = none := by kernel_rfl
theorem cellsU : Tryz.prog.cellsOf 24 = 1 := by kernel_rfl

theorem cellsI : Tryz.prog.cellsOf 3 = 1 := by kernel_rfl
theorem cellsT : Tryz.prog.cellsOf 51 = 7 := by kernel_rfl
theorem laid : laidOutB Tryz.prog = true := by kernel_rfl
theorem walk (A : Option Addr) (n c : Nat) (ts : List Stp) (w : World) (h : Sps w A n c ts) :
    Calls Tryz.prog 5 #[.slice A n c] w fun e w' => e = .returned (.bool true) ∧ Below w.heap.size w w' :=
  (plays_walk A n c ts w h).mono fun e w' h => ⟨h.1, h.2⟩

set_option maxRecDepth 100000 in
theorem lifted (os : Os) (started : os.Started) (H : Type) (enc : TypeId × Value → H) :
    ReturnsInHanded {} Tryz.checked os 5 .any (Rows.totalPlaysSpec.pre6 enc Tryz.prog Tryz.f5 Rows.totalPlaysRow.domain false) (Rows.totalPlaysSpec.post enc Tryz.prog Tryz.f5 false true false false) := by
  refine returnsInHanded_of_change (C := Tryz.checked) own started (by kernel_rfl) Tryz.func5
    (ChangeSpec.witness6 (enc := enc) (C := Tryz.checked) false ⟨#[], #[.slice none 0 0], []⟩ 8 (by kernel_rfl) (by kernel_rfl) (by kernel_rfl) (by kernel_rfl)) ?_
  intro W base args ds gs before hval0 hW hcnd _
  have hval : ∀ (j : Nat) t v, Tryz.f5.params[j]? = some t → args[j]? = some v → Value.okWide Tryz.prog W .any base t v := hval0
  have hW' := hW
  obtain ⟨p, q, hA0, hV, rfl, hfz, hnd⟩ := hW
  have hA : DataW.TrodAll enc Tryz.prog W 0 (fun _ => true) true Tryz.f5.params.toList args.toList ds p := hA0
  rw [Tryz.params5] at hA hval
  obtain ⟨v0, d0, rfl, rfl, h0⟩ := trodAll_one hA
  obtain ⟨rfl, rfl⟩ := trodVars_none hV
  obtain ⟨A, n, c, ts, rfl, hT⟩ := open_steps Tryz.underlying44 Tryz.underlying51 Tryz.underlying3 Tryz.underlying3 Tryz.underlying3 Tryz.underlying24 Tryz.underlying24 Tryz.underlying3 Tryz.underlying3 rfl rfl rfl rfl rfl rfl rfl cellsT cellsI cellsI cellsI cellsU cellsU cellsI cellsI (hval 0 44 _ rfl rfl) h0
  clear hA0 hval0
  simp only [List.append_nil] at hW'
  refine (walk A n c ts W hT).mono fun e W' ⟨he, bel⟩ => ?_
  subst he
  exact ⟨_, rfl, _, _, _, [], _, [], hW', trodAll_mk1 (shut_bool Tryz.underlying4 _), trodAll_mk1 (Below.trod laid (by kernel_rfl) (of_decide_eq_true (by kernel_rfl)) h0 bel (fun x hx => hW'.lt x (by simp [hx]))), rfl, bel.frame _, fun h => by cases h⟩

theorem over : Rows.totalPlaysRow.holds Tryz.pinned (OpenSpec.ofChange Rows.totalPlaysSpec) :=
  OpenClaim.holds_of_wide 5 Tryz.f5 rfl rfl rfl rfl rfl rfl rfl ⟨rfl, rfl, rfl, rfl, rfl⟩ rfl rfl rfl rfl rfl (by kernel_rfl) Tryz.func5 (by kernel_rfl)
    (of_decide_eq_true (by kernel_rfl)) (by unfold Func.isWrapper; first | (rw [if_pos (by decide +kernel)]; kernel_rfl) | (rw [if_neg (by decide +kernel)]; exact ⟨rfl, rfl⟩))
    (fun os started H enc _ => lifted os started H enc)

/-- The statement. -/
theorem proved : Rows.TotalPlaysSaid :=
  over
#print axioms proved
end Go.Proofs.YtfbjeifhpmdjaaaGreat.totalPlays
