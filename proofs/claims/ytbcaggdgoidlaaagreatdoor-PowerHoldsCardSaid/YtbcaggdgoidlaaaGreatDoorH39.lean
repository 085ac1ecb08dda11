/-
 The listed table, as the door lays it. Conditions: those that each theorem names.
-/
import Derived.Test.YtbcaggdgoidlaaaGreatDoorRows
import Derived.Test.YtbcaggdgoidlaaaGreatDoorH22
import Derived.ProofKit
import Derived.LaidMore
import Derived.OpenShut
import Derived.Stop.Joined
namespace Go.Proofs.YtbcaggdgoidlaaaGreatDoor
open Go.ChangeShapes Go.WideShapes Go.ChangeAt Go.WideElems Go.RowKit
set_option linter.unusedVariables false
theorem gTab : Tryz.prog.globalNamed "math/bits.deBruijn32tab" = some 1 := by kernel_rfl
theorem tTab : (Tryz.prog.globals[1]?).map (·.type) = some 107 := by kernel_rfl
def laidT : List (String × DataW Unit) := [("math/bits.deBruijn32tab", Rows.laid_math_bits_deBruijn32tab)]
theorem door_met (os : Os) (args : Array Value) : laidMetH Tryz.prog laidT ((World.doorLaid Tryz.prog 400 os).forCall (fun _ _ => 0) ⟨#[], args, []⟩).memory :=
 laidMetH_of_parts3 (fuel := 8) (laidMet_of_run' 8 (by kernel_rfl) (by kernel_rfl)) (by kernel_rfl) (by kernel_rfl)
theorem lits_eq : (Rows.laid_math_bits_deBruijn32tab : DataW Unit) = .agg (Lib.deBruijn32tab.map fun n => .lit (.int .u8 ((n : Nat) : Int))) := by rfl
theorem tab_of {W : World} (h : laidMetH Tryz.prog laidT W) : Tab W := by
 rw [MakeChecks.laidMetH_plain _ _ _ (by kernel_rfl)] at h
 obtain ⟨ps, ⟨g0, t0, cs0, f0, p0, q0, hg0, ht0, hv0, hd0, _, _⟩, _, _⟩ := h
 obtain rfl := Option.some.inj (gTab.symm.trans hg0)
 obtain rfl := Option.some.inj (tTab.symm.trans ht0)
 obtain ⟨xs, m1, rfl, hx1, hlen, hn3, hel⟩ := DataW.trod_array Tryz.underlying107 hd0
 have c5 : Tryz.prog.cellsOf 5 = 1 := by kernel_rfl
 rw [lits_eq] at hx1
 simp only [Prod.mk.injEq, DataW.agg.injEq] at hx1
 intro j hj
 have hjx : j < xs.length := by omega
 have hj' := hel j hj
 rw [List.getElem?_eq_getElem hjx, c5, Nat.mul_one] at hj'
 obtain ⟨k, e1, e2, _⟩ := DataW.trod_int Tryz.underlying5 hj'
 have hm : (xs.map (·.1))[j]? = some (.lit (.int .u8 k)) := by
   rw [List.getElem?_map, List.getElem?_eq_getElem hjx, Option.map_some, e2]
 rw [← hx1.1, List.getElem?_map] at hm
 have hl : j < Lib.deBruijn32tab.length := hj
 rw [List.getElem?_eq_getElem hl, Option.map_some] at hm
 have hk : k = ((Lib.deBruijn32tab.getD j 0 : Nat) : Int) := by
   rw [List.getD_eq_getElem?_getD, List.getElem?_eq_getElem hl]
   simpa using hm.symm
 rw [World.var?_cell hg0 hv0 j]
 have h0 : ((cs0.toList.drop j).take 1)[0]? = some (.int .u8 k) := by rw [e1]; rfl
 rw [hk] at h0
 simpa using h0
end Go.Proofs.YtbcaggdgoidlaaaGreatDoor
