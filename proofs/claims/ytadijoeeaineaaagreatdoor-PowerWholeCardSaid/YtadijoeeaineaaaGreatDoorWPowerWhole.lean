/-
  The law PowerWhole holds, and its card: the ends of the steps of every interval are whole or infinite, and Floor's lie where they must. No condition.
-/
import Derived.Test.YtadijoeeaineaaaGreatDoorRows
import Derived.Test.YtadijoeeaineaaaGreatDoorTie
import Derived.Test.YtadijoeeaineaaaGreatDoorCards
import Derived.Test.YtadijoeeaineaaaGreatDoorW38
import Derived.Test.YtadijoeeaineaaaGreatDoorW29
import Derived.ProofKit
import Derived.LaidMore
import Derived.ChangeOld
import Derived.Below
import Derived.OpenShut
import Derived.Carry
import Derived.Stop.Joined
import Derived.Lib.SmallJoins
import Derived.SevenTiedAt
namespace Go.Proofs.YtadijoeeaineaaaGreatDoor.powerWholeCard
open Go.ChangeShapes Go.WideShapes Go.ChangeAt Go.RowKit Go.Joins Go.Proofs.YtadijoeeaineaaaGreatDoor
set_option linter.unusedVariables false

theorem own : ownKnob Tryz.prog.godebug = none := by kernel_rfl

theorem cellsI : Tryz.prog.cellsOf 24 = 2 := by kernel_rfl
theorem walk (a0 a1 : Int) (wa0 : (Lit.int .u64 a0).wf = true) (wa1 : (Lit.int .u64 a1).wf = true) (w : World) (hT : Tab w) :
    Calls Tryz.prog 4 #[.agg #[.int .u64 a0, .int .u64 a1]] w fun e w' => e = .returned (.bool true) ∧ Below w.heap.size w w' := by
  have ha0 := bounds_u64 wa0
  have ha1 := bounds_u64 wa1
  obtain ⟨xa0, rfl⟩ := Int.eq_ofNat_of_zero_le ha0.1
  obtain ⟨xa1, rfl⟩ := Int.eq_ofNat_of_zero_le ha1.1
  exact (whole_walk xa0 xa1 w (by omega) (by omega) hT).mono fun e w' h => ⟨h.1, h.2⟩

set_option maxRecDepth 100000 in
theorem lifted (os : Os) (started : os.Started) (H : Type) (enc : TypeId × Value → H) :
    ReturnsInHanded {} Tryz.checked os 4 .any (fun w args => (Rows.powerWholeSpec.pre enc Tryz.prog Tryz.f4 [] false w args ∧ laidMetH Tryz.prog laidT w) ∧ sizedMet enc Tryz.prog Tryz.f4 (OpenSpec.ofChange Rows.powerWholeSpec) false w args)
      (Rows.powerWholeSpec.post enc Tryz.prog Tryz.f4 false true false false) := by
  refine returnsInHanded_of_change_and (C := Tryz.checked) (X := fun w _ => laidMetH Tryz.prog laidT w) (fun _ _ _ hh h => h.of_heap hh) own started (by kernel_rfl) Tryz.func4
    (ChangeSpec.witness_shaped (enc := enc) (C := Tryz.checked) (os := os) (X := fun w _ => laidMetH Tryz.prog laidT w) false (World.doorLaid Tryz.prog 400 os) #[.agg #[.int .u64 0, .int .u64 0]] 8 rfl (World.shaped_of_RefB (by kernel_rfl) (by kernel_rfl)) (by kernel_rfl) (by kernel_rfl) (by kernel_rfl) (door_met os _)) ?_
  intro W base args ds gs before hval0 hW _ _ hL _
  have hval : ∀ (j : Nat) t v, Tryz.f4.params[j]? = some t → args[j]? = some v → Value.okWide Tryz.prog W .any base t v := hval0
  have hW' := hW
  obtain ⟨p, q, hA0, hV, rfl, hfz, hnd⟩ := hW
  have hA : DataW.TrodAll enc Tryz.prog W 0 (fun _ => true) true Tryz.f4.params.toList args.toList ds p := hA0
  rw [Tryz.params4] at hA hval
  obtain ⟨v0, d0, rfl, rfl, h0⟩ := trodAll_one hA
  obtain ⟨rfl, rfl⟩ := trodVars_none hV
  obtain ⟨ca0, ca1, ya0, ya1, m0, rfl, rfl, rfl, hya0, hya1⟩ := open_agg2 Tryz.underlying24 (by kernel_rfl) cellsI (hval 0 24 v0 rfl rfl) h0
  obtain ⟨a0, ea0, rfl, wa0⟩ := DataW.trod_int Tryz.underlying22 hya0
  obtain ⟨a1, ea1, rfl, wa1⟩ := DataW.trod_int Tryz.underlying22 hya1
  simp at ea0 ea1
  subst ea0 ea1
  have hT := tab_of hL
  clear hA0 hval0
  simp only [List.append_nil] at hW'
  have structReads : ∀ (W' : World) (sp : Nat → Bool) (a b : Int) (wa : (Lit.int .u64 a).wf = true) (wb : (Lit.int .u64 b).wf = true), DataW.Trod enc Tryz.prog W' 0 sp true 24 (.agg #[.int .u64 a, .int .u64 b]) (.agg [.lit (.int .u64 a), .lit (.int .u64 b)]) [] := fun W' sp a b wa wb =>
    shut_agg2 (y0 := (.lit (.int .u64 a), [])) (y1 := (.lit (.int .u64 b), [])) Tryz.underlying24 (by kernel_rfl) cellsI ⟨1, by simp [DataW.trod, Tryz.underlying22, wa]⟩ ⟨1, by simp [DataW.trod, Tryz.underlying22, wb]⟩
  refine (walk a0 a1 wa0 wa1 W hT).mono fun e W' ⟨he, bel⟩ => ?_
  subst he
  exact ⟨_, rfl, _, _, _, [], _, [], hW', trodAll_mk1 (shut_bool Tryz.underlying4 _), trodAll_mk1 (structReads W' _ a0 a1 wa0 wa1), rfl, bel.frame _, fun h => by cases h⟩

theorem over : Rows.powerWholeRow.holds Tryz.pinned (OpenSpec.ofChange Rows.powerWholeSpec) :=
  OpenClaim.holds_of_wide 4 Tryz.f4 rfl rfl rfl rfl rfl rfl rfl ⟨rfl, rfl, rfl, rfl, rfl⟩ rfl rfl rfl rfl rfl (by kernel_rfl) Tryz.func4 (by kernel_rfl)
    (of_decide_eq_true (by kernel_rfl)) (by unfold Func.isWrapper; first | (rw [if_pos (by decide +kernel)]; kernel_rfl) | (rw [if_neg (by decide +kernel)]; exact ⟨rfl, rfl⟩))
    (fun os started H enc _ => lifted os started H enc)

/-- The statement: the tied card. -/
theorem proved : Rows.PowerWholeCardSaid :=
  Claim7.holds_tied_plain_at .later [] [.data] true _ false
    over (fun _ h => by cases h) (by kernel_rfl) (fun _ h => by cases h) powerWhole_row_tie rfl ⟨rfl, rfl⟩ (by kernel_rfl) rfl
    (fun f fn hf hfn => by
      obtain rfl : f = 4 := Option.some.inj ((show Tryz.prog.funcNamed "verge/vergelaw7.PowerWhole" = some 4 by kernel_rfl).symm.trans hf) |>.symm
      obtain rfl : fn = Tryz.f4 := (Option.some.inj (Tryz.func4.symm.trans hfn)).symm
      exact ⟨by kernel_rfl, fun j t ht => by
        rw [Tryz.params4] at ht
        have hm : t ∈ [24] := by simpa using Array.mem_of_getElem? ht
        have hall : ([24].all fun u => !Tryz.prog.wantsStandIn u) = true := by kernel_rfl
        exact (show Tryz.prog.wantsStandIn t = false by simpa using List.all_eq_true.1 hall t hm)⟩)
    (by kernel_rfl)
#print axioms proved
end Go.Proofs.YtadijoeeaineaaaGreatDoor.powerWholeCard
