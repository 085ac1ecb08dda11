/-
  The law TotalDots holds where what comes in is of bulk at most 1048576: every Of of the program answers the document's, asked again with another list written over the first one, and the list is left as it was. Condition: that bulk.
-/
import Derived.Test.YtfbjeifhpmdjaaaGreatRows
import Derived.Test.YtfbjeifhpmdjaaaGreatZ33
import Derived.ProofKit
import Derived.ChangeOld
import Derived.Below
import Derived.OpenShut
import Derived.JoinedCond
import Derived.Lib.SmallJoins
import Derived.Carry
namespace Go.Proofs.YtfbjeifhpmdjaaaGreat.totalDotsUpto
open Go.ChangeShapes Go.WideShapes Go.ChangeAt Go.RowKit Go.Joins Go.Deep Go.Proofs.YtfbjeifhpmdjaaaGreat
set_option linter.unusedVariables false

theorem own : ownKnob Tryz.prog.godebug = none := by kernel_rfl
theorem cellsU : Tryz.prog.cellsOf 24 = 1 := by kernel_rfl
theorem laid : laidOutB Tryz.prog = true := by kernel_rfl

theorem len_le {H : Type} (l : List (DataW H)) : l.length ≤ Rows.uptoBulkAll l := by
  induction l with
  | nil => simp [Rows.uptoBulkAll]
  | cons x r ih =>
    have : 1 ≤ Rows.uptoBulk x := by
      cases x with
      | lit l => cases l <;> simp [Rows.uptoBulk]
      | _ => simp [Rows.uptoBulk]
    simp only [Rows.uptoBulkAll, List.length_cons]
    omega
theorem short {H : Type} {y0 y1 y2 : DataW H} {n m : Nat} (hk : Rows.uptoSmall H [y0, y1, y2] = true) (h1 : (y1 = .nil ∧ n = 0) ∨ ∃ es rs, y1 = .slice es rs ∧ es.length = n) (h2 : (y2 = .nil ∧ m = 0) ∨ ∃ es rs, y2 = .slice es rs ∧ es.length = m) : n ≤ 1048576 ∧ m ≤ 1048576 := by
  have h : Rows.uptoBulkAll [y0, y1, y2] ≤ 1048576 := of_decide_eq_true hk
  simp only [Rows.uptoBulkAll] at h
  have one : ∀ {y : DataW H} {n : Nat}, ((y = .nil ∧ n = 0) ∨ ∃ es rs, y = .slice es rs ∧ es.length = n) → n ≤ Rows.uptoBulk y := by
    intro y n hy
    rcases hy with ⟨rfl, rfl⟩ | ⟨es, rs, rfl, rfl⟩
    · omega
    · have := len_le es
      simp only [Rows.uptoBulk]
      omega
  have a2 := one h1
  have a3 := one h2
  omega

set_option maxRecDepth 100000 in
theorem lifted (os : Os) (started : os.Started) (H : Type) (enc : TypeId × Value → H) (F : Stop.Interp) :
    ReturnsInHanded {} Tryz.checked os 3 .any ((Rows.OpenSpec.upto Rows.totalDotsSpec).pre6 enc Tryz.prog Tryz.f3 Rows.totalDotsUptoRow.domain false) (((Rows.OpenSpec.upto Rows.totalDotsSpec).at F).post enc Tryz.prog Tryz.f3 false true false false) := by
  refine returnsInHanded_of_cond (C := Tryz.checked) (s := Rows.OpenSpec.upto Rows.totalDotsSpec) (k := Rows.uptoSmall) rfl own started (by kernel_rfl) Tryz.func3
    (OpenSpec.witness (enc := enc) (C := Tryz.checked) (s := Rows.OpenSpec.upto Rows.totalDotsSpec) (k := Rows.uptoSmall) rfl false ⟨#[], #[.int .i64 0, .slice none 0 0, .slice none 0 0], []⟩ 8 (by kernel_rfl) (by kernel_rfl) (by kernel_rfl)
      (x := ([.lit (.int .i64 0), .nil, .nil], [], [])) (by kernel_rfl) rfl (by kernel_rfl)) ?_
  intro W base args ds gs before hval0 hW _ hk _
  have hval : ∀ (j : Nat) t v, Tryz.f3.params[j]? = some t → args[j]? = some v → Value.okWide Tryz.prog W .any base t v := hval0
  have hW' := hW
  obtain ⟨p, q, hA0, hV, rfl, hfz, hnd⟩ := hW
  have hA : DataW.TrodAll enc Tryz.prog W 0 (fun _ => true) true Tryz.f3.params.toList args.toList ds p := hA0
  rw [Tryz.params3] at hA hval
  obtain ⟨v0, v1, v2, d0, d1, d2, p0, p1, p2, rfl, rfl, rfl, h0, h1, h2⟩ := trodAll_three hA
  obtain ⟨rfl, rfl⟩ := trodVars_none hV
  obtain ⟨a, rfl, rfl, rfl, wa⟩ := open_int Tryz.underlying3 (hval 0 3 v0 rfl rfl) h0
  obtain ⟨A, n, c, xs, rfl, hX, hn⟩ := open_pats Tryz.underlying22 Tryz.underlying24 cellsU (hval 1 22 v1 rfl rfl) h1
  obtain ⟨B, m, k, ys, rfl, hY, hm⟩ := open_pats Tryz.underlying22 Tryz.underlying24 cellsU (hval 2 22 v2 rfl rfl) h2
  clear hA0 hval0
  simp only [List.append_nil] at hW' hk
  obtain ⟨sn, sm⟩ := short hk hn hm
  refine (dots_walk a A n c xs B m k ys W hX hY sn sm).mono fun e W' ⟨he, hb⟩ => ?_
  subst he
  have bel : Below W.heap.size W W' := hb
  exact ⟨_, rfl, _, _, _, [], _, [], hW', trodAll_mk1 (shut_bool Tryz.underlying4 _), trodAll_mk3 (shut_int Tryz.underlying3 wa) (Below.trod laid (by kernel_rfl) (of_decide_eq_true (by kernel_rfl)) h1 bel (fun x hx => hW'.lt x (by simp [hx]))) (Below.trod laid (by kernel_rfl) (of_decide_eq_true (by kernel_rfl)) h2 bel (fun x hx => hW'.lt x (by simp [hx]))), rfl, bel.frame _, fun h => by cases h⟩

/-- The statement. -/
theorem proved : Rows.TotalDotsUptoSaid :=
  OpenClaim.holds_of_cond 3 Tryz.f3 rfl rfl rfl rfl rfl rfl rfl ⟨rfl, rfl, rfl, rfl, rfl⟩ rfl rfl rfl rfl rfl (by kernel_rfl) Tryz.func3 (by kernel_rfl)
    (of_decide_eq_true (by kernel_rfl)) (by unfold Func.isWrapper; first | (rw [if_pos (by decide +kernel)]; kernel_rfl) | (rw [if_neg (by decide +kernel)]; exact ⟨rfl, rfl⟩))
    (fun os started H enc _ F => lifted os started H enc F)
#print axioms proved
end Go.Proofs.YtfbjeifhpmdjaaaGreat.totalDotsUpto
