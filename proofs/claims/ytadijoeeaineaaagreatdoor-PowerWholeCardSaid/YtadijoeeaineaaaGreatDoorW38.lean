/-
  The walk through PowerWhole, the whole. Conditions: those that each theorem names.
-/
import Derived.Test.YtadijoeeaineaaaGreatDoorW37
import Derived.Test.YtadijoeeaineaaaGreatDoorW26
namespace Go.Proofs.YtadijoeeaineaaaGreatDoor
open Go.RowKit Nm Rn
set_option maxRecDepth 100000
set_option linter.unusedVariables false
set_option linter.unusedSimpArgs false

theorem wh_pi {k p q : Nat} (h : PnE p q) : piLo k p q = pl (stF k p) ∧ piHi k p q = pl (stF k q) := by
  have r1 := key_le h.na
  have r2 := key_le h.nb
  have i1 := key_eq_inf h.la h.na
  have i2 := key_eq_minf h.lb h.nb
  have ia := h.ia
  have ib := h.ib
  have hs0 : sndB p q = true := by
    unfold sndB leB ltB
    rw [h.na, h.nb, nan_inf, nan_minf, key_inf, key_minf]
    simp only [Bool.not_false, Bool.true_and, Bool.and_eq_true, decide_eq_true_eq]
    refine ⟨⟨h.ki, ?_⟩, ?_⟩ <;> omega
  have e1 : rdLo p q = p := by unfold rdLo; rw [hs0, if_pos rfl]; unfold pl; rw [if_neg h.ma]
  have e2 : rdHi p q = q := by unfold rdHi; rw [hs0, if_pos rfl]; unfold pl; rw [if_neg h.mb]
  have e3 : ¬ emp p q := fun he => by
    have := he.1
    rw [e1] at this
    exact ia this
  have hs := stF_snd k h.la h.lb h.na h.nb h.ia h.ib h.ki
  constructor
  · unfold piLo; rw [if_neg e3, e1, e2]; unfold rdLo; rw [hs, if_pos rfl]
  · unfold piHi; rw [if_neg e3, e1, e2]; unfold rdHi; rw [hs, if_pos rfl]
theorem eqEw {p q : Nat} : (((p : Int) == (infR : Int)) && ((q : Int) == (minf : Int))) = decide (p = infR ∧ q = minf) := by
  rw [Bool.eq_iff_iff, Bool.and_eq_true, beq_iff_eq, beq_iff_eq, decide_eq_true_iff]
  omega
theorem whole_walk (x1 x2 : Nat) (w : World) (hx1 : x1 < 18446744073709551616) (hx2 : x2 < 18446744073709551616) (hT : Tab w) :
    Calls Tryz.prog 4 #[.agg #[.int .u64 (x1 : Int), .int .u64 (x2 : Int)]] w fun e w' => e = .returned (.bool true) ∧ Ext w w' := by
  have HRD := Lib.hid (fun w => read6_any x1 x2 w hx1 hx2)
  have HEM := Lib.hid (fun w => empty6_any w)
  by_cases he : emp x1 x2
  · rw [he.1, he.2] at HRD
    have hpe : ∀ k, piLo k infR minf = infR ∧ piHi k infR minf = minf := fun k => ⟨if_pos (by decide), if_pos (by decide)⟩
    refine whole_e x1 x2 infR minf infR minf w hT HRD (Lib.hid fun w => in7_any infR minf w) HEM (eqI' (by rw [eqEw]; exact decide_eq_true ⟨rfl, rfl⟩)) (Lib.hid fun k hk => ⟨infR, minf, fun w => ?_, neqIw' (by rw [eqEw, decide_eq_true ⟨rfl, rfl⟩]; rfl)⟩)
    have := step_all k infR minf w hk infR_lt minf_lt
    rw [(hpe k).1, (hpe k).2] at this
    exact this
  · have hE := pnE_rd hx1 hx2 he
    have hne : ¬ (rdLo x1 x2 = infR ∧ rdHi x1 x2 = minf) := he
    generalize rdLo x1 x2 = p at *
    generalize rdHi x1 x2 = q at *
    refine whole_f x1 x2 p q infR minf w hT HRD (Lib.hid fun w => in7_any p q w) HEM (eqI' (by rw [eqEw]; exact decide_eq_false hne)) (Lib.hid fun k hk => ?_) (Lib.hid fun w => ?_)
    · refine ⟨_, _, fun w => step_all k p q w hk hE.la hE.lb, ?_, ?_⟩
      · rw [(wh_pi hE).1]; exact whE_of hE.la hE.na hE.ma
      · rw [(wh_pi hE).2]; exact whE_of hE.lb hE.nb hE.mb
    · have := int_any 1 w (by omega)
      rw [show fracN 1 1 0 = 1 by decide, show fracD 1 1 0 = 1 by decide] at this
      exact this
end Go.Proofs.YtadijoeeaineaaaGreatDoor
