/-
 The law PowerHolds holds, and its card: what the operations make of numbers of two intervals, exactly, is an element of what chapter 7's calls answer. No condition.
-/
import Derived.Test.YtbcaggdgoidlaaaGreatDoorRows
import Derived.Test.YtbcaggdgoidlaaaGreatDoorTie
import Derived.Test.YtbcaggdgoidlaaaGreatDoorCards
import Derived.Test.YtbcaggdgoidlaaaGreatDoorH48
import Derived.Test.YtbcaggdgoidlaaaGreatDoorH39
import Derived.ProofKit
import Derived.LaidMore
import Derived.ChangeOld
import Derived.Below
import Derived.OpenShut
import Derived.Carry
import Derived.Stop.Joined
import Derived.Lib.SmallJoins
import Derived.SevenTiedAt
namespace Go.Proofs.YtbcaggdgoidlaaaGreatDoor.powerHoldsCard
open Go.ChangeShapes Go.WideShapes Go.ChangeAt Go.RowKit Go.Joins Go.Proofs.YtbcaggdgoidlaaaGreatDoor
set_option linter.unusedVariables false
section
variable {H : Type} {enc : TypeId × Value → H} {P : Program} {w : World} {base : Nat} {spare : Nat → Bool} {held : Bool}
theorem trodAll_five {t t' t'' t3 t4 : TypeId} {args : Array Value} {ds : List (DataW H)} {ps : List MemPlace} (h : DataW.TrodAll enc P w base spare held [t, t', t'', t3, t4] args.toList ds ps) :
   ∃ v v' v'' v3 v4 d d' d'' d3 d4 p p' p'' p3 p4, args = #[v, v', v'', v3, v4] ∧ ds = [d, d', d'', d3, d4] ∧ ps = p ++ p' ++ p'' ++ p3 ++ p4 ∧ DataW.Trod enc P w base spare held t v d p ∧ DataW.Trod enc P w base spare held t' v' d' p' ∧ DataW.Trod enc P w base spare held t'' v'' d'' p'' ∧ DataW.Trod enc P w base spare held t3 v3 d3 p3 ∧ DataW.Trod enc P w base spare held t4 v4 d4 p4 := by
 obtain ⟨v, vs, d, ds1, p, q, hargs, rfl, rfl, hd, r1⟩ := trodAll_cons h
 obtain ⟨v1, vs1, d1, ds2, p1, q1, rfl, rfl, rfl, hd1, r2⟩ := trodAll_cons r1
 obtain ⟨v2, vs2, d2, ds3, p2, q2, rfl, rfl, rfl, hd2, r3⟩ := trodAll_cons r2
 obtain ⟨v3, vs3, d3, ds4, p3, q3, rfl, rfl, rfl, hd3, r4⟩ := trodAll_cons r3
 obtain ⟨v4, vs4, d4, ds5, p4, q4, rfl, rfl, rfl, hd4, r5⟩ := trodAll_cons r4
 obtain ⟨rfl, rfl, rfl⟩ := trodAll_nil r5
 exact ⟨v, v1, v2, v3, v4, d, d1, d2, d3, d4, p, p1, p2, p3, p4, by cases args; simp_all, rfl, by simp, hd, hd1, hd2, hd3, hd4⟩
theorem trodAll_mk5 {t t' t'' t3 t4 : TypeId} {v v' v'' v3 v4 : Value} {d d' d'' d3 d4 : DataW H} {p p' p'' p3 p4 : List MemPlace} (h : DataW.Trod enc P w base spare held t v d p) (h' : DataW.Trod enc P w base spare held t' v' d' p')
   (h'' : DataW.Trod enc P w base spare held t'' v'' d'' p'') (h3 : DataW.Trod enc P w base spare held t3 v3 d3 p3) (h4 : DataW.Trod enc P w base spare held t4 v4 d4 p4) : DataW.TrodAll enc P w base spare held [t, t', t'', t3, t4] [v, v', v'', v3, v4] [d, d', d'', d3, d4] (p ++ (p' ++ (p'' ++ (p3 ++ p4)))) := ⟨p, _, h, trodAll_mk4 h' h'' h3 h4, rfl⟩
end
theorem own : ownKnob Tryz.prog.godebug = none := by kernel_rfl
theorem cellsI : Tryz.prog.cellsOf 24 = 2 := by kernel_rfl
theorem walk (a0 a1 a2 a3 a4 a5 a6 : Int) (wa0 : (Lit.int .u64 a0).wf = true) (wa1 : (Lit.int .u64 a1).wf = true) (wa2 : (Lit.int .u64 a2).wf = true) (wa3 : (Lit.int .u64 a3).wf = true) (wa4 : (Lit.int .u64 a4).wf = true) (wa5 : (Lit.int .u64 a5).wf = true) (wa6 : (Lit.int .i64 a6).wf = true) (w : World) (hT : Tab w) :
   Calls Tryz.prog 3 #[.agg #[.int .u64 a0, .int .u64 a1], .agg #[.int .u64 a2, .int .u64 a3], .int .u64 a4, .int .u64 a5, .int .i64 a6] w fun e w' => e = .returned (.bool true) ∧ Below w.heap.size w w' := by
 have ha0 := bounds_u64 wa0
 have ha1 := bounds_u64 wa1
 have ha2 := bounds_u64 wa2
 have ha3 := bounds_u64 wa3
 have ha4 := bounds_u64 wa4
 have ha5 := bounds_u64 wa5
 have ha6 := bounds_i64 wa6
 obtain ⟨xa0, rfl⟩ := Int.eq_ofNat_of_zero_le ha0.1
 obtain ⟨xa1, rfl⟩ := Int.eq_ofNat_of_zero_le ha1.1
 obtain ⟨xa2, rfl⟩ := Int.eq_ofNat_of_zero_le ha2.1
 obtain ⟨xa3, rfl⟩ := Int.eq_ofNat_of_zero_le ha3.1
 obtain ⟨xa4, rfl⟩ := Int.eq_ofNat_of_zero_le ha4.1
 obtain ⟨xa5, rfl⟩ := Int.eq_ofNat_of_zero_le ha5.1
 exact (pholds_walk xa0 xa1 xa2 xa3 xa4 xa5 a6 w (by omega) (by omega) (by omega) (by omega) (by omega) (by omega) hT).mono fun e w' h => ⟨h.1, h.2⟩
set_option maxRecDepth 100000 in
theorem lifted (os : Os) (started : os.Started) (H : Type) (enc : TypeId × Value → H) :
   ReturnsInHanded {} Tryz.checked os 3 .any (fun w args => (Rows.powerHoldsSpec.pre enc Tryz.prog Tryz.f3 [] false w args ∧ laidMetH Tryz.prog laidT w) ∧ sizedMet enc Tryz.prog Tryz.f3 (OpenSpec.ofChange Rows.powerHoldsSpec) false w args)
     (Rows.powerHoldsSpec.post enc Tryz.prog Tryz.f3 false true false false) := by
 refine returnsInHanded_of_change_and (C := Tryz.checked) (X := fun w _ => laidMetH Tryz.prog laidT w) (fun _ _ _ hh h => h.of_heap hh) own started (by kernel_rfl) Tryz.func3
   (ChangeSpec.witness_shaped (enc := enc) (C := Tryz.checked) (os := os) (X := fun w _ => laidMetH Tryz.prog laidT w) false (World.doorLaid Tryz.prog 400 os) #[.agg #[.int .u64 0, .int .u64 0], .agg #[.int .u64 0, .int .u64 0], .int .u64 0, .int .u64 0, .int .i64 0] 8 rfl (World.shaped_of_RefB (by kernel_rfl) (by kernel_rfl)) (by kernel_rfl) (by kernel_rfl) (by kernel_rfl) (door_met os _)) ?_
 intro W base args ds gs before hval0 hW _ _ hL _
 have hval : ∀ (j : Nat) t v, Tryz.f3.params[j]? = some t → args[j]? = some v → Value.okWide Tryz.prog W .any base t v := hval0
 have hW' := hW
 obtain ⟨p, q, hA0, hV, rfl, hfz, hnd⟩ := hW
 have hA : DataW.TrodAll enc Tryz.prog W 0 (fun _ => true) true Tryz.f3.params.toList args.toList ds p := hA0
 rw [Tryz.params3] at hA hval
 obtain ⟨v0, v1, v2, v3, v4, d0, d1, d2, d3, d4, p0, p1, p2, p3, p4, rfl, rfl, rfl, h0, h1, h2, h3, h4⟩ := trodAll_five hA
 obtain ⟨rfl, rfl⟩ := trodVars_none hV
 obtain ⟨ca0, ca1, ya0, ya1, m0, rfl, rfl, rfl, hya0, hya1⟩ := open_agg2 Tryz.underlying24 (by kernel_rfl) cellsI (hval 0 24 v0 rfl rfl) h0
 obtain ⟨a0, ea0, rfl, wa0⟩ := DataW.trod_int Tryz.underlying22 hya0
 obtain ⟨a1, ea1, rfl, wa1⟩ := DataW.trod_int Tryz.underlying22 hya1
 obtain ⟨ca2, ca3, ya2, ya3, m1, rfl, rfl, rfl, hya2, hya3⟩ := open_agg2 Tryz.underlying24 (by kernel_rfl) cellsI (hval 1 24 v1 rfl rfl) h1
 obtain ⟨a2, ea2, rfl, wa2⟩ := DataW.trod_int Tryz.underlying22 hya2
 obtain ⟨a3, ea3, rfl, wa3⟩ := DataW.trod_int Tryz.underlying22 hya3
 obtain ⟨a4, rfl, rfl, rfl, wa4⟩ := open_int Tryz.underlying22 (hval 2 22 v2 rfl rfl) h2
 obtain ⟨a5, rfl, rfl, rfl, wa5⟩ := open_int Tryz.underlying22 (hval 3 22 v3 rfl rfl) h3
 obtain ⟨a6, rfl, rfl, rfl, wa6⟩ := open_int Tryz.underlying3 (hval 4 3 v4 rfl rfl) h4
 simp at ea0 ea1 ea2 ea3
 subst ea0 ea1 ea2 ea3
 have hT := tab_of hL
 clear hA0 hval0
 simp only [List.append_nil] at hW'
 have structReads : ∀ (W' : World) (sp : Nat → Bool) (a b : Int) (wa : (Lit.int .u64 a).wf = true) (wb : (Lit.int .u64 b).wf = true), DataW.Trod enc Tryz.prog W' 0 sp true 24 (.agg #[.int .u64 a, .int .u64 b]) (.agg [.lit (.int .u64 a), .lit (.int .u64 b)]) [] := fun W' sp a b wa wb =>
   shut_agg2 (y0 := (.lit (.int .u64 a), [])) (y1 := (.lit (.int .u64 b), [])) Tryz.underlying24 (by kernel_rfl) cellsI ⟨1, by simp [DataW.trod, Tryz.underlying22, wa]⟩ ⟨1, by simp [DataW.trod, Tryz.underlying22, wb]⟩
 refine (walk a0 a1 a2 a3 a4 a5 a6 wa0 wa1 wa2 wa3 wa4 wa5 wa6 W hT).mono fun e W' ⟨he, bel⟩ => ?_
 subst he
 exact ⟨_, rfl, _, _, _, [], _, [], hW', trodAll_mk1 (shut_bool Tryz.underlying4 _), trodAll_mk5 (structReads W' _ a0 a1 wa0 wa1) (structReads W' _ a2 a3 wa2 wa3) (shut_int Tryz.underlying22 wa4) (shut_int Tryz.underlying22 wa5) (shut_int Tryz.underlying3 wa6), rfl, bel.frame _, fun h => by cases h⟩
theorem over : Rows.powerHoldsRow.holds Tryz.pinned (OpenSpec.ofChange Rows.powerHoldsSpec) :=
 OpenClaim.holds_of_wide 3 Tryz.f3 rfl rfl rfl rfl rfl rfl rfl ⟨rfl, rfl, rfl, rfl, rfl⟩ rfl rfl rfl rfl rfl (by kernel_rfl) Tryz.func3 (by kernel_rfl)
   (of_decide_eq_true (by kernel_rfl)) (by unfold Func.isWrapper; first | (rw [if_pos (by decide +kernel)]; kernel_rfl) | (rw [if_neg (by decide +kernel)]; exact ⟨rfl, rfl⟩))
   (fun os started H enc _ => lifted os started H enc)
theorem proved : Rows.PowerHoldsCardSaid :=
 Claim7.holds_tied_plain_at .later [] [.data] true _ false
   over (fun _ h => by cases h) (by kernel_rfl) (fun _ h => by cases h) powerHolds_row_tie rfl ⟨rfl, rfl⟩ (by kernel_rfl) rfl
   (fun f fn hf hfn => by
     obtain rfl : f = 3 := Option.some.inj ((show Tryz.prog.funcNamed "verge/vergelaw7.PowerHolds" = some 3 by kernel_rfl).symm.trans hf) |>.symm
     obtain rfl : fn = Tryz.f3 := (Option.some.inj (Tryz.func3.symm.trans hfn)).symm
     exact ⟨by kernel_rfl, fun j t ht => by
       rw [Tryz.params3] at ht
       have hm : t ∈ [24, 24, 22, 22, 3] := by simpa using Array.mem_of_getElem? ht
       have hall : ([24, 24, 22, 22, 3].all fun u => !Tryz.prog.wantsStandIn u) = true := by kernel_rfl
       exact (show Tryz.prog.wantsStandIn t = false by simpa using List.all_eq_true.1 hall t hm)⟩)
   (by kernel_rfl)
#print axioms proved
end Go.Proofs.YtbcaggdgoidlaaaGreatDoor.powerHoldsCard
