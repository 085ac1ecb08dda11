/-
  The law RoundRoads holds, and its card: one thing by FMA and Add, Mul, Pow, Div, Root, Sqrt, Of, Ratio answers the same, at every direction, all patterns, every number. No condition.
-/
import Derived.Test.YtadijoeeaineaaaDoorRows
import Derived.Test.YtadijoeeaineaaaDoorTie
import Derived.Test.YtadijoeeaineaaaDoorCards
import Derived.Test.YtadijoeeaineaaaDoorZ41
import Derived.Test.YtadijoeeaineaaaDoorZ30
import Derived.Test.YtadijoeeaineaaaDoorZ42
import Derived.ProofKit
import Derived.LaidMore
import Derived.ChangeOld
import Derived.Below
import Derived.OpenShut
import Derived.Stop.Joined
import Derived.Lib.SmallJoins
import Derived.SevenTiedAt
namespace Go.Proofs.YtadijoeeaineaaaDoor.roundRoadsCard
open Go.ChangeShapes Go.WideShapes Go.ChangeAt Go.RowKit Go.Joins Go.Proofs.YtadijoeeaineaaaDoor
set_option linter.unusedVariables false

theorem own : ownKnob Tryd.prog.godebug = none := by kernel_rfl

theorem cellsU : Tryd.prog.cellsOf 22 = 1 := by kernel_rfl
theorem cellsA : Tryd.prog.cellsOf 29 = 2 := by kernel_rfl
theorem walk (a b c d : Int) (wa : (Lit.int .i64 a).wf = true) (wb : (Lit.int .u64 b).wf = true) (wc : (Lit.int .u64 c).wf = true) (wd : (Lit.int .i64 d).wf = true) (w : World) (hT : Tab w) :
    Calls Tryd.prog 4 #[.int .i64 a, .agg #[.int .u64 b, .int .u64 c], .int .i64 d] w fun e w' => e = .returned (.bool true) ∧ Below w.heap.size w w' := by
  have h1 := bounds_u64 wb
  have h2 := bounds_u64 wc
  have h3 := bounds_i64 wd
  obtain ⟨x1, rfl⟩ := Int.eq_ofNat_of_zero_le h1.1
  obtain ⟨x2, rfl⟩ := Int.eq_ofNat_of_zero_le h2.1
  exact (roads_walk a x1 x2 d w (by omega) (by omega) h3.1 h3.2 hT).mono fun e w' h => ⟨h.1, h.2⟩

set_option maxRecDepth 100000 in
theorem lifted (os : Os) (started : os.Started) (H : Type) (enc : TypeId × Value → H) :
    ReturnsInHanded {} Tryd.checked os 4 .any (fun w args => (Rows.roundRoadsSpec.pre enc Tryd.prog Tryd.f4 [] false w args ∧ laidMetH Tryd.prog laidT w) ∧ sizedMet enc Tryd.prog Tryd.f4 (OpenSpec.ofChange Rows.roundRoadsSpec) false w args)
      (Rows.roundRoadsSpec.post enc Tryd.prog Tryd.f4 false true false false) := by
  refine returnsInHanded_of_change_and (C := Tryd.checked) (X := fun w _ => laidMetH Tryd.prog laidT w) (fun _ _ _ hh h => h.of_heap hh) own started (by kernel_rfl) Tryd.func4
    (ChangeSpec.witness_shaped (enc := enc) (C := Tryd.checked) (os := os) (X := fun w _ => laidMetH Tryd.prog laidT w) false (World.doorLaid Tryd.prog 400 os) #[.int .i64 0, .agg #[.int .u64 0, .int .u64 0], .int .i64 0] 8 rfl (World.shaped_of_RefB (by kernel_rfl) (by kernel_rfl)) (by kernel_rfl) (by kernel_rfl) (by kernel_rfl) (door_met os _)) ?_
  intro W base args ds gs before hval0 hW _ _ hL _
  have hval : ∀ (j : Nat) t v, Tryd.f4.params[j]? = some t → args[j]? = some v → Value.okWide Tryd.prog W .any base t v := hval0
  have hW' := hW
  obtain ⟨p, q, hA0, hV, rfl, hfz, hnd⟩ := hW
  have hA : DataW.TrodAll enc Tryd.prog W 0 (fun _ => true) true Tryd.f4.params.toList args.toList ds p := hA0
  rw [Tryd.params4] at hA hval
  obtain ⟨v0, v1, v2, d0, d1, d2, p0, p1, p2, rfl, rfl, rfl, h0, h1, h2⟩ := trodAll_three hA
  obtain ⟨rfl, rfl⟩ := trodVars_none hV
  obtain ⟨a, rfl, rfl, rfl, wa⟩ := open_int Tryd.underlying3 (hval 0 3 v0 rfl rfl) h0
  obtain ⟨b, c, rfl, rfl, rfl, wb, wc⟩ := open_arr2 Tryd.underlying29 Tryd.underlying22 cellsU cellsA (hval 1 29 v1 rfl rfl) h1
  obtain ⟨d, rfl, rfl, rfl, wd⟩ := open_int Tryd.underlying3 (hval 2 3 v2 rfl rfl) h2
  have hT := tab_of hL
  clear hA0 hval0
  simp only [List.append_nil] at hW'
  refine (walk a b c d wa wb wc wd W hT).mono fun e W' ⟨he, bel⟩ => ?_
  subst he
  exact ⟨_, rfl, _, _, _, [], _, [], hW', trodAll_mk1 (shut_bool Tryd.underlying4 _), trodAll_mk3 (shut_int Tryd.underlying3 wa) (shut_arr2 Tryd.underlying29 Tryd.underlying22 cellsU cellsA wb wc) (shut_int Tryd.underlying3 wd), rfl, bel.frame _, fun h => by cases h⟩

theorem over : Rows.roundRoadsRow.holds Tryd.pinned (OpenSpec.ofChange Rows.roundRoadsSpec) :=
  OpenClaim.holds_of_wide 4 Tryd.f4 rfl rfl rfl rfl rfl rfl rfl ⟨rfl, rfl, rfl, rfl, rfl⟩ rfl rfl rfl rfl rfl (by kernel_rfl) Tryd.func4 (by kernel_rfl)
    (of_decide_eq_true (by kernel_rfl)) (by unfold Func.isWrapper; first | (rw [if_pos (by decide +kernel)]; kernel_rfl) | (rw [if_neg (by decide +kernel)]; exact ⟨rfl, rfl⟩))
    (fun os started H enc _ => lifted os started H enc)

/-- The statement: the tied card. -/
theorem proved : Rows.RoundRoadsCardSaid :=
  Claim7.holds_tied_plain_at .later [] [.data] true _ false
    over (fun _ h => by cases h) (by kernel_rfl) (fun _ h => by cases h) roundRoads_row_tie rfl ⟨rfl, rfl⟩ (by kernel_rfl) rfl
    (fun f fn hf hfn => by
      obtain rfl : f = 4 := Option.some.inj ((show Tryd.prog.funcNamed "verge/vergelaw3.RoundRoads" = some 4 by kernel_rfl).symm.trans hf) |>.symm
      obtain rfl : fn = Tryd.f4 := (Option.some.inj (Tryd.func4.symm.trans hfn)).symm
      exact ⟨by kernel_rfl, fun j t ht => by
        rw [Tryd.params4] at ht
        have hm : t ∈ [3, 29, 3] := by simpa using Array.mem_of_getElem? ht
        have hall : ([3, 29, 3].all fun u => !Tryd.prog.wantsStandIn u) = true := by kernel_rfl
        exact (show Tryd.prog.wantsStandIn t = false by simpa using List.all_eq_true.1 hall t hm)⟩)
    (by kernel_rfl)
#print axioms proved
end Go.Proofs.YtadijoeeaineaaaDoor.roundRoadsCard
