/-
  The law PowerGrows holds, and its card: over an interval that lies in another one each call of chapter 7 answers one that lies in the other's. No condition.
-/
import Derived.Test.YtadijoeeaineaaaDoorRows
import Derived.Test.YtadijoeeaineaaaDoorTie
import Derived.Test.YtadijoeeaineaaaDoorCards
import Derived.Test.YtadijoeeaineaaaDoorG37
import Derived.Test.YtadijoeeaineaaaDoorG30
import Derived.ProofKit
import Derived.LaidMore
import Derived.ChangeOld
import Derived.Below
import Derived.OpenShut
import Derived.Carry
import Derived.Stop.Joined
import Derived.Lib.SmallJoins
import Derived.SevenTiedAt
namespace Go.Proofs.YtadijoeeaineaaaDoor.powerGrowsCard
open Go.ChangeShapes Go.WideShapes Go.ChangeAt Go.RowKit Go.Joins Go.Proofs.YtadijoeeaineaaaDoor
set_option linter.unusedVariables false

theorem own : ownKnob Tryd.prog.godebug = none := by kernel_rfl

theorem cellsI : Tryd.prog.cellsOf 53 = 2 := by kernel_rfl
theorem walk (a0 a1 a2 a3 a4 a5 a6 : Int) (wa0 : (Lit.int .u64 a0).wf = true) (wa1 : (Lit.int .u64 a1).wf = true) (wa2 : (Lit.int .u64 a2).wf = true) (wa3 : (Lit.int .u64 a3).wf = true) (wa4 : (Lit.int .u64 a4).wf = true) (wa5 : (Lit.int .u64 a5).wf = true) (wa6 : (Lit.int .i64 a6).wf = true) (w : World) (hT : Tab w) :
    Calls Tryd.prog 8 #[.agg #[.int .u64 a0, .int .u64 a1], .agg #[.int .u64 a2, .int .u64 a3], .agg #[.int .u64 a4, .int .u64 a5], .int .i64 a6] w fun e w' => e = .returned (.bool true) ∧ Below w.heap.size w w' := by
  have ha0 := bounds_u64 wa0
  have ha1 := bounds_u64 wa1
  have ha2 := bounds_u64 wa2
  have ha3 := bounds_u64 wa3
  have ha4 := bounds_u64 wa4
  have ha5 := bounds_u64 wa5
  have ha6 := bounds_i64 wa6
  obtain ⟨xa0, rfl⟩ := Int.eq_ofNat_of_zero_le ha0.1
  obtain ⟨xa1, rfl⟩ := Int.eq_ofNat_of_zero_le ha1.1
  obtain ⟨xa2, rfl⟩ := Int.eq_ofNat_of_zero_le ha2.1
  obtain ⟨xa3, rfl⟩ := Int.eq_ofNat_of_zero_le ha3.1
  obtain ⟨xa4, rfl⟩ := Int.eq_ofNat_of_zero_le ha4.1
  obtain ⟨xa5, rfl⟩ := Int.eq_ofNat_of_zero_le ha5.1
  exact (grows_walk xa0 xa1 xa2 xa3 xa4 xa5 a6 w (by omega) (by omega) (by omega) (by omega) (by omega) (by omega) hT).mono fun e w' h => ⟨h.1, h.2⟩

set_option maxRecDepth 100000 in
theorem lifted (os : Os) (started : os.Started) (H : Type) (enc : TypeId × Value → H) :
    ReturnsInHanded {} Tryd.checked os 8 .any (fun w args => (Rows.powerGrowsSpec.pre enc Tryd.prog Tryd.f8 [] false w args ∧ laidMetH Tryd.prog laidT w) ∧ sizedMet enc Tryd.prog Tryd.f8 (OpenSpec.ofChange Rows.powerGrowsSpec) false w args)
      (Rows.powerGrowsSpec.post enc Tryd.prog Tryd.f8 false true false false) := by
  refine returnsInHanded_of_change_and (C := Tryd.checked) (X := fun w _ => laidMetH Tryd.prog laidT w) (fun _ _ _ hh h => h.of_heap hh) own started (by kernel_rfl) Tryd.func8
    (ChangeSpec.witness_shaped (enc := enc) (C := Tryd.checked) (os := os) (X := fun w _ => laidMetH Tryd.prog laidT w) false (World.doorLaid Tryd.prog 400 os) #[.agg #[.int .u64 0, .int .u64 0], .agg #[.int .u64 0, .int .u64 0], .agg #[.int .u64 0, .int .u64 0], .int .i64 0] 8 rfl (World.shaped_of_RefB (by kernel_rfl) (by kernel_rfl)) (by kernel_rfl) (by kernel_rfl) (by kernel_rfl) (door_met os _)) ?_
  intro W base args ds gs before hval0 hW _ _ hL _
  have hval : ∀ (j : Nat) t v, Tryd.f8.params[j]? = some t → args[j]? = some v → Value.okWide Tryd.prog W .any base t v := hval0
  have hW' := hW
  obtain ⟨p, q, hA0, hV, rfl, hfz, hnd⟩ := hW
  have hA : DataW.TrodAll enc Tryd.prog W 0 (fun _ => true) true Tryd.f8.params.toList args.toList ds p := hA0
  rw [Tryd.params8] at hA hval
  obtain ⟨v0, v1, v2, v3, d0, d1, d2, d3, p0, p1, p2, p3, rfl, rfl, rfl, h0, h1, h2, h3⟩ := trodAll_four hA
  obtain ⟨rfl, rfl⟩ := trodVars_none hV
  obtain ⟨ca0, ca1, ya0, ya1, m0, rfl, rfl, rfl, hya0, hya1⟩ := open_agg2 Tryd.underlying53 (by kernel_rfl) cellsI (hval 0 53 v0 rfl rfl) h0
  obtain ⟨a0, ea0, rfl, wa0⟩ := DataW.trod_int Tryd.underlying22 hya0
  obtain ⟨a1, ea1, rfl, wa1⟩ := DataW.trod_int Tryd.underlying22 hya1
  obtain ⟨ca2, ca3, ya2, ya3, m1, rfl, rfl, rfl, hya2, hya3⟩ := open_agg2 Tryd.underlying53 (by kernel_rfl) cellsI (hval 1 53 v1 rfl rfl) h1
  obtain ⟨a2, ea2, rfl, wa2⟩ := DataW.trod_int Tryd.underlying22 hya2
  obtain ⟨a3, ea3, rfl, wa3⟩ := DataW.trod_int Tryd.underlying22 hya3
  obtain ⟨ca4, ca5, ya4, ya5, m2, rfl, rfl, rfl, hya4, hya5⟩ := open_agg2 Tryd.underlying53 (by kernel_rfl) cellsI (hval 2 53 v2 rfl rfl) h2
  obtain ⟨a4, ea4, rfl, wa4⟩ := DataW.trod_int Tryd.underlying22 hya4
  obtain ⟨a5, ea5, rfl, wa5⟩ := DataW.trod_int Tryd.underlying22 hya5
  obtain ⟨a6, rfl, rfl, rfl, wa6⟩ := open_int Tryd.underlying3 (hval 3 3 v3 rfl rfl) h3
  simp at ea0 ea1 ea2 ea3 ea4 ea5
  subst ea0 ea1 ea2 ea3 ea4 ea5
  have hT := tab_of hL
  clear hA0 hval0
  simp only [List.append_nil] at hW'
  have structReads : ∀ (W' : World) (sp : Nat → Bool) (a b : Int) (wa : (Lit.int .u64 a).wf = true) (wb : (Lit.int .u64 b).wf = true), DataW.Trod enc Tryd.prog W' 0 sp true 53 (.agg #[.int .u64 a, .int .u64 b]) (.agg [.lit (.int .u64 a), .lit (.int .u64 b)]) [] := fun W' sp a b wa wb =>
    shut_agg2 (y0 := (.lit (.int .u64 a), [])) (y1 := (.lit (.int .u64 b), [])) Tryd.underlying53 (by kernel_rfl) cellsI ⟨1, by simp [DataW.trod, Tryd.underlying22, wa]⟩ ⟨1, by simp [DataW.trod, Tryd.underlying22, wb]⟩
  refine (walk a0 a1 a2 a3 a4 a5 a6 wa0 wa1 wa2 wa3 wa4 wa5 wa6 W hT).mono fun e W' ⟨he, bel⟩ => ?_
  subst he
  exact ⟨_, rfl, _, _, _, [], _, [], hW', trodAll_mk1 (shut_bool Tryd.underlying4 _), trodAll_mk4 (structReads W' _ a0 a1 wa0 wa1) (structReads W' _ a2 a3 wa2 wa3) (structReads W' _ a4 a5 wa4 wa5) (shut_int Tryd.underlying3 wa6), rfl, bel.frame _, fun h => by cases h⟩

theorem over : Rows.powerGrowsRow.holds Tryd.pinned (OpenSpec.ofChange Rows.powerGrowsSpec) :=
  OpenClaim.holds_of_wide 8 Tryd.f8 rfl rfl rfl rfl rfl rfl rfl ⟨rfl, rfl, rfl, rfl, rfl⟩ rfl rfl rfl rfl rfl (by kernel_rfl) Tryd.func8 (by kernel_rfl)
    (of_decide_eq_true (by kernel_rfl)) (by unfold Func.isWrapper; first | (rw [if_pos (by decide +kernel)]; kernel_rfl) | (rw [if_neg (by decide +kernel)]; exact ⟨rfl, rfl⟩))
    (fun os started H enc _ => lifted os started H enc)

/-- The statement: the tied card. -/
theorem proved : Rows.PowerGrowsCardSaid :=
  Claim7.holds_tied_plain_at .later [] [.data] true _ false
    over (fun _ h => by cases h) (by kernel_rfl) (fun _ h => by cases h) powerGrows_row_tie rfl ⟨rfl, rfl⟩ (by kernel_rfl) rfl
    (fun f fn hf hfn => by
      obtain rfl : f = 8 := Option.some.inj ((show Tryd.prog.funcNamed "verge/vergelaw7.PowerGrows" = some 8 by kernel_rfl).symm.trans hf) |>.symm
      obtain rfl : fn = Tryd.f8 := (Option.some.inj (Tryd.func8.symm.trans hfn)).symm
      exact ⟨by kernel_rfl, fun j t ht => by
        rw [Tryd.params8] at ht
        have hm : t ∈ [53, 53, 53, 3] := by simpa using Array.mem_of_getElem? ht
        have hall : ([53, 53, 53, 3].all fun u => !Tryd.prog.wantsStandIn u) = true := by kernel_rfl
        exact (show Tryd.prog.wantsStandIn t = false by simpa using List.all_eq_true.1 hall t hm)⟩)
    (by kernel_rfl)
#print axioms proved
end Go.Proofs.YtadijoeeaineaaaDoor.powerGrowsCard
