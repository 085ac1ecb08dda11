/-
  The contract of the program's Abs against the document's. Conditions: those that each theorem names.
-/
import Derived.Test.YtadijoeeaineaaaDoorT33
import Derived.Test.YtadijoeeaineaaaDoorT06
import Derived.Test.YtadijoeeaineaaaDoorRows
import Derived.Test.YtadijoeeaineaaaDoorT21
import Derived.ProofKit
import Derived.LaidMore
import Derived.OpenShut
import Derived.Stop.Joined
namespace Go.Proofs.YtadijoeeaineaaaDoor
open Go.RowKit Nm Rn
set_option maxRecDepth 100000
set_option linter.unusedVariables false
set_option linter.unusedSimpArgs false

theorem plain_ne {x : Nat} (h : plN x = x) : x ≠ 9223372036854775808 := by
  intro e; subst e
  have : plN 9223372036854775808 = 0 := rfl
  omega
theorem pl_self {x : Nat} (h : x ≠ 9223372036854775808) : pl x = x := by unfold pl; rw [if_neg h]
theorem key_inj {x y : Nat} (hx : x < 18446744073709551616) (hy : y < 18446744073709551616) (px : x ≠ 9223372036854775808) (py : y ≠ 9223372036854775808) (h : key x = key y) : x = y := by
  revert h
  unfold key sg mg
  split <;> split <;> rename_i h1 h2 <;> simp only [decide_eq_true_eq] at h1 h2 <;> (intro h; omega)
theorem key_pos {x : Nat} (hx : x < 18446744073709551616) (h : 0 < key x) : mg x = x := by
  revert h; unfold key sg
  split <;> rename_i h1 <;> simp only [decide_eq_true_eq] at h1
  · intro h; omega
  · intro _; unfold mg; omega
theorem ng_mg {x : Nat} (hx : x < 18446744073709551616) (h : key x < 0) : ng x = mg x ∧ mg x ≠ 9223372036854775808 := by
  revert h; unfold key ng
  cases hs : sg x
  · intro h; rw [if_neg (by simp)] at h; omega
  · intro _
    have := of_decide_eq_true hs
    rw [if_pos rfl]; unfold mg; omega
theorem rd_rd {lo hi : Nat} (hl : lo < 18446744073709551616) (hh : hi < 18446744073709551616) (h : ¬ (rdLo lo hi = infR ∧ rdHi lo hi = minf)) :
    rdLo (rdLo lo hi) (rdHi lo hi) = rdLo lo hi ∧ rdHi (rdLo lo hi) (rdHi lo hi) = rdHi lo hi := by
  obtain ⟨g1, g2, g3, g4, g5, g6, g7, g8⟩ := rd_ends hl hh h
  have p1 := plain_ne (rdLo_pl lo hi)
  have p2 := plain_ne (rdHi_pl lo hi)
  generalize rdLo lo hi = p at *
  generalize rdHi lo hi = q at *
  have r1 := key_le g3
  have r2 := key_le g4
  have i1 := key_eq_inf g1 g3
  have i2 := key_eq_minf g2 g4
  have hs : sndB p q = true := by
    unfold sndB leB ltB
    rw [g3, g4, nan_inf, nan_minf, key_inf, key_minf]
    simp only [Bool.not_false, Bool.true_and, Bool.and_eq_true, decide_eq_true_eq]
    refine ⟨⟨g8, ?_⟩, ?_⟩ <;> omega
  unfold rdLo rdHi
  rw [hs, if_pos rfl, if_pos rfl, pl_self p1, pl_self p2]
  exact ⟨rfl, rfl⟩

set_option maxHeartbeats 2000000 in
theorem pabs_any (lo hi : Nat) (w : World) (hl : lo < 18446744073709551616) (hh : hi < 18446744073709551616) :
    Calls Tryd.prog 56 #[.agg #[.float .f64 lo, .float .f64 hi]] w (RetF (abLo lo hi) (abHi lo hi) w) := by
  have eLo : abLo lo hi = if rdLo lo hi = infR ∧ rdHi lo hi = minf then infR else pl (szLo (rdLo lo hi) (rdHi lo hi)) := rfl
  have eHi : abHi lo hi = if rdLo lo hi = infR ∧ rdHi lo hi = minf then minf else pl (szHi (rdLo lo hi) (rdHi lo hi)) := rfl
  have HR := Lib.hid (fun w => iread_any lo hi w hl hh)
  by_cases he : rdLo lo hi = infR ∧ rdHi lo hi = minf
  · rw [eLo, eHi, if_pos he, if_pos he]
    rw [he.1, he.2] at HR
    exact pabs_E lo hi infR minf w HR (eqF' infR_lt minf_lt infR_lt minf_lt rfl) true
  · rw [eLo, eHi, if_neg he, if_neg he]
    obtain ⟨g1, g2, g3, g4, g5, g6, g7, g8⟩ := rd_ends hl hh he
    have p1 := plain_ne (rdLo_pl lo hi)
    have p2 := plain_ne (rdHi_pl lo hi)
    have hrr := rd_rd hl hh he
    have hng : ngLo (rdLo lo hi) (rdHi lo hi) = pl (ng (rdHi lo hi)) ∧ ngHi (rdLo lo hi) (rdHi lo hi) = pl (ng (rdLo lo hi)) := by
      unfold ngLo ngHi
      rw [hrr.1, hrr.2, if_neg he, if_neg he]
      exact ⟨rfl, rfl⟩
    clear eLo eHi hrr g7
    generalize rdLo lo hi = p at *
    generalize rdHi lo hi = q at *
    have hq := eqF' (E := false) g1 g2 infR_lt minf_lt (by
      rw [eq_key g3 nan_inf, eq_key g4 nan_minf, key_inf, key_minf, Bool.and_eq_false_iff, decide_eq_false_iff_not, decide_eq_false_iff_not, key_eq_inf g1 g3]
      exact .inl g5)
    have z0 : (0 : Nat) < 18446744073709551616 := by omega
    have n0 : isNaN 0 = false := rfl
    have k0 : key 0 = 0 := rfl
    have hge := fo_ge g1 z0
    have hle := fo_le g2 z0
    rw [le_key n0 g3, k0] at hge
    rw [le_key g4 n0, k0] at hle
    have kp := @mx_key p
    have kq := @mx_key q
    have sHi : szHi p q = if key (mx q) < key (mx p) then mx p else mx q := rfl
    have sLo : szLo p q = if key p ≤ 0 ∧ 0 ≤ key q then 0 else if key (mx q) < key (mx p) then mx q else mx p := rfl
    by_cases c1 : 0 ≤ key p
    · rw [decide_eq_true c1] at hge
      have m1 : mx p = p := by unfold mx; rw [if_neg (by omega)]
      have m2 : mx q = q := by unfold mx; rw [if_neg (by omega)]
      rw [m1, m2] at sHi sLo
      have r1 : pl (szLo p q) = p := by
        rw [sLo, if_neg (c := key q < key p) (by omega)]
        split
        · rename_i g
          have : p = 0 := key_inj g1 z0 p1 (by omega) (by omega)
          rw [this]; rfl
        · exact pl_self p1
      have r2 : pl (szHi p q) = q := by rw [sHi, if_neg (by omega)]; exact pl_self p2
      rw [r1, r2]
      exact pabs_c lo hi p q w HR hq hge
    · rw [decide_eq_false c1] at hge
      have hn1 := ng_mg g1 (by omega)
      have m1 : mx p = ng p := by unfold mx; rw [if_pos (by omega), hn1.1]
      have kp' : key (ng p) = -key p := key_ng g1
      rw [m1] at sHi sLo
      by_cases c2 : key q ≤ 0
      · rw [decide_eq_true c2] at hle
        have hN := fun w => ineg_any p q w g1 g2
        rw [hng.1, hng.2] at hN
        have r12 : pl (szLo p q) = pl (ng q) ∧ pl (szHi p q) = pl (ng p) := by
          by_cases c3 : key q = 0
          · have e : q = 0 := key_inj g2 z0 p2 (by omega) (by omega)
            subst e
            have m2 : mx 0 = 0 := rfl
            rw [m2] at sHi sLo
            rw [sLo, sHi, if_pos ⟨by omega, by omega⟩, if_pos (by omega)]
            exact ⟨rfl, rfl⟩
          · have hn2 := ng_mg g2 (by omega)
            have m2 : mx q = ng q := by unfold mx; rw [if_pos (by omega), hn2.1]
            have kq' : key (ng q) = -key q := key_ng g2
            rw [m2] at sHi sLo
            rw [sLo, sHi, if_neg (fun h => by omega)]
            by_cases c4 : key (ng q) < key (ng p)
            · rw [if_pos c4, if_pos c4]; exact ⟨rfl, rfl⟩
            · have e : p = q := key_inj g1 g2 p1 p2 (by omega)
              rw [if_neg c4, if_neg c4, e]; exact ⟨rfl, rfl⟩
        rw [r12.1, r12.2]
        exact pabs_d lo hi p q w HR hq hge hle _ _ (Lib.hid hN)
      · rw [decide_eq_false c2] at hle
        have m2 : mx q = q := by unfold mx; rw [if_neg (by omega)]
        rw [m2] at sHi sLo
        have nn : isNaN (ng p) = false := by
          have h3 := g3
          unfold isNaN at h3 ⊢; rw [mg_ng g1]; exact h3
        have pn : ng p ≠ 9223372036854775808 := by rw [hn1.1]; exact hn1.2
        have r1 : pl (szLo p q) = 0 := by rw [sLo, if_pos ⟨by omega, by omega⟩]; rfl
        have r2 : pl (szHi p q) = if key (ng p) < key q then q else ng p := by
          rw [sHi]
          by_cases c4 : key q < key (ng p)
          · rw [if_pos c4, if_neg (by omega)]; exact pl_self pn
          · rw [if_neg c4]
            by_cases c5 : key (ng p) < key q
            · rw [if_pos c5]; exact pl_self p2
            · rw [if_neg c5, pl_self p2]
              exact key_inj g2 (ng_lt g1) p2 pn (by omega)
        rw [r1, r2]
        have hmx := fun ats ty w => max_run (ng_lt g1) g2 nn g4 (fun h => key_inj (ng_lt g1) g2 pn p2 h) Tryd.prog w ats ty
        have u1 : ∀ w, (Go.Op.unary .neg (.float .f64 p)).run Tryd.prog w = .ok (.float .f64 (ng p)) w := by
          intro w
          have : Go.Op.negFloat .f64 p = ng p := ng_xor g1
          rw [← this]; rfl
        exact pabs_m lo hi p q w HR hq hge hle _ _ u1 hmx
end Go.Proofs.YtadijoeeaineaaaDoor

/-
  The listed table, as the door lays it. Conditions: those that each theorem names.
-/
namespace Go.Proofs.YtadijoeeaineaaaDoor
open Go.ChangeShapes Go.WideShapes Go.ChangeAt Go.WideElems Go.RowKit
set_option linter.unusedVariables false

theorem gTab : Tryd.prog.globalNamed "math/bits.deBruijn32tab" = some 1 := by kernel_rfl
theorem tTab : (Tryd.prog.globals[1]?).map (·.type) = some 138 := by kernel_rfl
def laidT : List (String × DataW Unit) := [("math/bits.deBruijn32tab", Rows.laid_math_bits_deBruijn32tab)]
theorem door_met (os : Os) (args : Array Value) : laidMetH Tryd.prog laidT ((World.doorLaid Tryd.prog 400 os).forCall (fun _ _ => 0) ⟨#[], args, []⟩).memory :=
  laidMetH_of_parts3 (fuel := 8) (laidMet_of_run' 8 (by kernel_rfl) (by kernel_rfl)) (by kernel_rfl) (by kernel_rfl)
theorem lits_eq : (Rows.laid_math_bits_deBruijn32tab : DataW Unit) = .agg (Lib.deBruijn32tab.map fun n => .lit (.int .u8 ((n : Nat) : Int))) := by rfl
theorem tab_of {W : World} (h : laidMetH Tryd.prog laidT W) : Tab W := by
  rw [MakeChecks.laidMetH_plain _ _ _ (by kernel_rfl)] at h
  obtain ⟨ps, ⟨g0, t0, cs0, f0, p0, q0, hg0, ht0, hv0, hd0, _, _⟩, _, _⟩ := h
  obtain rfl := Option.some.inj (gTab.symm.trans hg0)
  obtain rfl := Option.some.inj (tTab.symm.trans ht0)
  obtain ⟨xs, m1, rfl, hx1, hlen, hn3, hel⟩ := DataW.trod_array Tryd.underlying138 hd0
  have c5 : Tryd.prog.cellsOf 5 = 1 := by kernel_rfl
  rw [lits_eq] at hx1
  simp only [Prod.mk.injEq, DataW.agg.injEq] at hx1
  intro j hj
  have hjx : j < xs.length := by omega
  have hj' := hel j hj
  rw [List.getElem?_eq_getElem hjx, c5, Nat.mul_one] at hj'
  obtain ⟨k, e1, e2, _⟩ := DataW.trod_int Tryd.underlying5 hj'
  have hm : (xs.map (·.1))[j]? = some (.lit (.int .u8 k)) := by
    rw [List.getElem?_map, List.getElem?_eq_getElem hjx, Option.map_some, e2]
  rw [← hx1.1, List.getElem?_map] at hm
  have hl : j < Lib.deBruijn32tab.length := hj
  rw [List.getElem?_eq_getElem hl, Option.map_some] at hm
  have hk : k = ((Lib.deBruijn32tab.getD j 0 : Nat) : Int) := by
    rw [List.getD_eq_getElem?_getD, List.getElem?_eq_getElem hl]
    simpa using hm.symm
  rw [World.var?_cell hg0 hv0 j]
  have h0 : ((cs0.toList.drop j).take 1)[0]? = some (.int .u8 k) := by rw [e1]; rfl
  rw [hk] at h0
  simpa using h0
end Go.Proofs.YtadijoeeaineaaaDoor
