/-
 Plain: finite patterns by the whole number that they stand for, in units of 2^-1074: what +, -, * give. Conditions: those that each theorem names.
-/
import Derived.Test.YtbcaggdgoidlaaaGreatDoorH04
import Derived.Test.YtbcaggdgoidlaaaGreatDoorH03
set_option linter.unusedVariables false
namespace Go.Proofs.YtbcaggdgoidlaaaGreatDoor.Rn
structure Fl (b : Nat) (S : Int) : Prop where
 lt : b < 18446744073709551616
 fin : mg b < infR
 val : sv b = S
theorem Fl.of {b : Nat} (h : b < 18446744073709551616) (hf : mg b < infR) : Fl b (sv b) := ⟨h, hf, rfl⟩
theorem sv_abs (b : Nat) : (sv b).natAbs = rv (mg b) := by unfold sv; split <;> omega
theorem Fl.abs {b : Nat} {S : Int} (h : Fl b S) : S.natAbs = rv (mg b) := by rw [← h.val, sv_abs]
theorem Fl.rp {b : Nat} {S : Int} (h : Fl b S) : RpZ S := by unfold RpZ; rw [h.abs]; exact ⟨_, rfl⟩
theorem Fl.nan {b : Nat} {S : Int} (h : Fl b S) : isNaN b = false := by unfold isNaN; exact decide_eq_false (by have := h.fin; omega)
theorem Fl.lt_iff {x y : Nat} {S T : Int} (h : Fl x S) (k : Fl y T) : key x < key y ↔ S < T := by rw [← h.val, ← k.val]; exact (rv_key x y).1.symm
theorem Fl.le_iff {x y : Nat} {S T : Int} (h : Fl x S) (k : Fl y T) : key x ≤ key y ↔ S ≤ T := by
 have := k.lt_iff h
 omega
theorem Fl.eq_iff {x y : Nat} {S T : Int} (h : Fl x S) (k : Fl y T) : key x = key y ↔ S = T := by rw [← h.val, ← k.val]; exact (rv_key x y).2.symm
theorem Fl.ltB {x y : Nat} {S T : Int} (h : Fl x S) (k : Fl y T) : ltB x y = decide (S < T) := by
 unfold Rn.ltB; rw [h.nan, k.nan]; simp only [Bool.not_false, Bool.true_and]; exact decide_eq_decide.2 (h.lt_iff k)
theorem Fl.leB {x y : Nat} {S T : Int} (h : Fl x S) (k : Fl y T) : leB x y = decide (S ≤ T) := by
 unfold Rn.leB; rw [h.nan, k.nan]; simp only [Bool.not_false, Bool.true_and]; exact decide_eq_decide.2 (h.le_iff k)
theorem Fl.eqB {x y : Nat} {S T : Int} (h : Fl x S) (k : Fl y T) : eqB x y = decide (S = T) := by
 unfold Rn.eqB; rw [h.nan, k.nan]; simp only [Bool.not_false, Bool.true_and]; exact decide_eq_decide.2 (h.eq_iff k)
theorem near_lt' (Z : Nat) : near Z < 9223372036854775808 := rr_lt 0 false Z
theorem sv_word {neg : Bool} {r : Nat} (hr : r < 9223372036854775808) : sv (Ieee.double.word neg r) = if neg then -(rv r : Int) else (rv r : Int) := by
 unfold sv
 rw [sg_word hr, mg_word hr]
theorem Fl.word {neg : Bool} {S : Int} (hn : S ≠ 0 → neg = decide (S < 0)) (hS : nr S.natAbs < infR) : Fl (Ieee.double.word neg (near (4 * S.natAbs))) (rn S) := by
 have e : near (4 * S.natAbs) = nr S.natAbs := by rw [near_nr]; exact Nat.min_eq_left (by omega)
 have h1 := near_lt' (4 * S.natAbs)
 refine ⟨word_lt h1, by rw [mg_word h1, e]; exact hS, ?_⟩
 rw [sv_word h1, e]
 unfold rn
 by_cases h0 : S = 0
 · subst h0
   have := nr_rv 0
   rw [rv_zero] at this
   rw [show (0 : Int).natAbs = 0 from rfl, this, rv_zero]
   cases neg <;> rfl
 · rw [hn h0]
   by_cases h : S < 0
   · rw [decide_eq_true h, if_pos rfl, if_pos h]
   · rw [decide_eq_false h, if_neg (by simp), if_neg h]
theorem Fl.sum {neg : Bool} {S : Int} (hS : nr S.natAbs < infR) : Fl (sumPat neg S) (rn S) := by
 unfold sumPat
 by_cases h0 : S = 0
 · subst h0
   rw [if_pos rfl]
   have := Fl.word (neg := neg) (S := 0) (fun h => absurd rfl h) hS
   have e : near (4 * (0 : Int).natAbs) = 0 := rr_zero 0 false
   rwa [e] at this
 · rw [if_neg h0]
   exact Fl.word (fun _ => rfl) hS
theorem Fl.add {x y : Nat} {S T : Int} (h : Fl x S) (k : Fl y T) (hS : nr (S + T).natAbs < infR) : ∃ r, Ieee.double.add x y = some r ∧ Fl r (rn (S + T)) := by
 refine ⟨_, add_fin h.lt k.lt h.fin k.fin, ?_⟩
 rw [h.val, k.val]
 exact Fl.sum hS
theorem Fl.neg {b : Nat} {S : Int} (h : Fl b S) : Fl (ng b) (-S) := ⟨ng_lt h.lt, by rw [mg_ng h.lt]; exact h.fin, by rw [sv_ng h.lt, h.val]⟩
theorem zq_mul_pow {q c : Nat} : zq (q * 2 ^ (c + 1)) (2 ^ c) = 4 * q := by
 rw [show 4 * q = 2 * (2 * q) by omega]
 refine (zq_eq (two_pow_pos c)).2 ?_
 rw [two_pow_s, Nat.mul_left_comm, Nat.mul_assoc]
theorem Fl.mul {x y : Nat} {S T q : Int} (h : Fl x S) (k : Fl y T) (hq : q * ((2 ^ 1074 : Nat) : Int) = S * T) (hS : nr q.natAbs < infR) : ∃ r, Ieee.double.mul x y = some r ∧ Fl r (rn q) := by
 obtain ⟨c, hc⟩ : ∃ c : Nat, c = 1073 := ⟨_, rfl⟩
 have hm := mul_fin h.lt k.lt h.fin k.fin
 rw [show (1074 : Nat) = c + 1 by omega] at hq
 rw [← hc] at hm
 have e : rv (mg x) * rv (mg y) = q.natAbs * 2 ^ (c + 1) := by
   rw [← h.abs, ← k.abs, ← Int.natAbs_mul, ← hq, Int.natAbs_mul, Int.natAbs_natCast]
 rw [e, zq_mul_pow] at hm
 refine ⟨_, hm, Fl.word (fun h0 => ?_) hS⟩
 have hp : (0 : Int) < ((2 ^ (c + 1) : Nat) : Int) := by have := two_pow_pos (c + 1); omega
 have hx : S = if sg x then -(rv (mg x) : Int) else (rv (mg x) : Int) := h.val.symm
 have hy : T = if sg y then -(rv (mg y) : Int) else (rv (mg y) : Int) := k.val.symm
 have h1 : S * T ≠ 0 := by rw [← hq]; exact Int.mul_ne_zero h0 (by omega)
 have h2 : rv (mg x) ≠ 0 := fun h3 => h1 (by rw [hx, h3]; cases sg x <;> simp)
 have h3 : rv (mg y) ≠ 0 := fun h3 => h1 (by rw [hy, h3]; cases sg y <;> simp)
 have h4 : (0 : Int) < (rv (mg x) : Int) * (rv (mg y) : Int) := Int.mul_pos (by omega) (by omega)
 have h5 : q < 0 ↔ S * T < 0 := by
   rw [← hq]
   constructor
   · intro h6; exact Int.mul_neg_of_neg_of_pos h6 hp
   · intro h6
     rcases Int.lt_or_le q 0 with h7 | h7
     · exact h7
     · have := Int.mul_nonneg h7 (show (0 : Int) ≤ ((2 ^ (c + 1) : Nat) : Int) by omega); omega
 rw [show decide (q < 0) = decide (S * T < 0) from decide_eq_decide.2 h5]
 rw [hx, hy]
 cases sg x <;> cases sg y <;> simp [Int.neg_mul, Int.mul_neg] <;> omega
end Go.Proofs.YtbcaggdgoidlaaaGreatDoor.Rn

namespace Go.Proofs.YtbcaggdgoidlaaaGreatDoor.Rn
def Ks : Nat := 2 ^ 174
def Kg : Nat := 2 ^ 1974
theorem Ks_def : Ks = 2 ^ 174 := by
 unfold Ks
 exact Eq.refl _
attribute [irreducible] Ks Kg
end Go.Proofs.YtbcaggdgoidlaaaGreatDoor.Rn

namespace Go.Proofs.YtbcaggdgoidlaaaGreatDoor.Rn
def Mid (S : Int) : Prop := Ks < S.natAbs ∧ S.natAbs < Kg
theorem Mid.ex {X : Int} (h : Mid X) : 4503599627370496 * 2 ^ Rn.ex X.natAbs ≤ X.natAbs := by
 refine ex_lo ?_
 have h1 : 9007199254740992 * 2 ^ 0 ≤ X.natAbs := by
   have h2 := h.1
   obtain ⟨c, hc⟩ : ∃ c : Nat, c = 120 := ⟨_, rfl⟩
   have e : (2 : Nat) ^ 174 = 2 ^ 54 * 2 ^ c := by rw [hc, ← pow_add_]
   rw [Ks_def, e] at h2
   have := two_pow_pos c
   have e1 : (2 : Nat) ^ 54 = 18014398509481984 := by decide
   rw [e1] at h2
   rw [Nat.pow_zero]
   omega
 have := ex_gt h1
 omega
end Go.Proofs.YtbcaggdgoidlaaaGreatDoor.Rn

namespace Go.Proofs.YtbcaggdgoidlaaaGreatDoor.Rn
end Go.Proofs.YtbcaggdgoidlaaaGreatDoor.Rn
