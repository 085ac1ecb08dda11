/-
 Plain: a number rounded down, up and to the nearest lies about the exact one as closely as it can. Conditions: those that each theorem names.
-/
import Derived.Test.YtbcaggdgoidlaaaGreatDoorH24
import Derived.Test.YtbcaggdgoidlaaaGreatDoorH25
import Derived.Test.YtbcaggdgoidlaaaGreatDoorH26
import Derived.Test.YtbcaggdgoidlaaaGreatDoorH20
set_option linter.unusedVariables false
set_option linter.unusedSimpArgs false
namespace Go.Proofs.YtbcaggdgoidlaaaGreatDoor.Rn
open Nm
theorem mag_cases (Z : Nat) :
   (∃ f, f < infR ∧ Z = 4 * rv f ∧ (∀ d neg, rr d neg Z = f)) ∨
   (∃ f n, f + 1 ≤ infR ∧ 4 * rv f < Z ∧ (f + 1 < infR → Z < 4 * rv (f + 1)) ∧ rr (-1) false Z = f ∧ rr 1 true Z = f ∧ rr 1 false Z = f + 1 ∧ rr (-1) true Z = f + 1 ∧ (∀ neg, rr 0 neg Z = n) ∧ (n = f ∨ n = f + 1) ∧
     (Z < 2 * (rv f + rv (f + 1)) → n = f) ∧ (2 * (rv f + rv (f + 1)) < Z → n = f + 1) ∧ (Z = 2 * (rv f + rv (f + 1)) → n % 2 = 0)) := by
 have hi := infR_val
 obtain ⟨w1, w2⟩ := rung_spec (Z / 4)
 obtain ⟨f, hf⟩ : ∃ f, f = rung (Z / 4) := ⟨_, rfl⟩
 have haw : ∀ d neg, away d neg Z = if Z = 4 * rv f then false else if d = 1 then !neg else if d = -1 then neg else decide (2 * (rv f + rv (f + 1)) < Z) || (decide (Z = 2 * (rv f + rv (f + 1))) && decide (f % 2 = 1)) := fun d neg => by unfold away; rw [← hf]
 have hrr : ∀ d neg, rr d neg Z = if (d = 1 ∧ neg = true) ∨ (d = -1 ∧ neg = false) then min f (infR - 1) else min (if away d neg Z then f + 1 else f) infR := fun d neg => by unfold rr; rw [← hf]
 rw [← hf] at w1 w2
 have hlt := rv_lt_succ f
 by_cases hex : Z = 4 * rv f
 · by_cases hfi : f < infR
   · refine .inl ⟨f, hfi, hex, fun d neg => ?_⟩
     rw [hrr, haw, if_pos hex]
     split
     · omega
     · simp; omega
   · right
     have hm : rv infR ≤ rv f := rv_le (by omega)
     have hm2 : rv (infR - 1) < rv infR := rv_lt (by omega)
     have hm3 : infR - 1 + 1 = infR := by omega
     refine ⟨infR - 1, infR, by omega, by omega, by omega, ?_, ?_, ?_, ?_, ?_, .inr hm3.symm, ?_, ?_, ?_⟩
     · rw [hrr, if_pos (.inr ⟨rfl, rfl⟩)]; omega
     · rw [hrr, if_pos (.inl ⟨rfl, rfl⟩)]; omega
     · rw [hrr, if_neg (by simp), haw, if_pos hex]; simp; omega
     · rw [hrr, if_neg (by simp), haw, if_pos hex]; simp; omega
     · intro neg; rw [hrr, if_neg (by simp), haw, if_pos hex]; simp; omega
     · rw [hm3]; omega
     · intro _; omega
     · rw [hm3]; omega
 · by_cases hfi : f < infR
   · right
     obtain ⟨n, hn⟩ : ∃ n, n = if (decide (2 * (rv f + rv (f + 1)) < Z) || (decide (Z = 2 * (rv f + rv (f + 1))) && decide (f % 2 = 1))) = true then f + 1 else f := ⟨_, rfl⟩
     have hnc : (2 * (rv f + rv (f + 1)) < Z ∧ n = f + 1) ∨ (Z < 2 * (rv f + rv (f + 1)) ∧ n = f) ∨ (Z = 2 * (rv f + rv (f + 1)) ∧ n = f + 1 ∧ f % 2 = 1) ∨ (Z = 2 * (rv f + rv (f + 1)) ∧ n = f ∧ f % 2 = 0) := by
       rcases Nat.lt_trichotomy (2 * (rv f + rv (f + 1))) Z with h | h | h
       · left; refine ⟨h, ?_⟩; rw [hn, decide_eq_true h, Bool.true_or, if_pos rfl]
       · by_cases hp : f % 2 = 1
         · right; right; left; refine ⟨h.symm, ?_, hp⟩; rw [hn, decide_eq_false (by omega), decide_eq_true h.symm, decide_eq_true hp]; rfl
         · right; right; right; refine ⟨h.symm, ?_, by omega⟩; rw [hn, decide_eq_false (by omega), decide_eq_true h.symm, decide_eq_false hp]; rfl
       · right; left; refine ⟨h, ?_⟩; rw [hn, decide_eq_false (by omega), decide_eq_false (show ¬ Z = _ by omega)]; rfl
     refine ⟨f, n, by omega, by omega, by omega, ?_, ?_, ?_, ?_, ?_, by omega, by omega, by omega, by omega⟩
     · rw [hrr, if_pos (.inr ⟨rfl, rfl⟩)]; omega
     · rw [hrr, if_pos (.inl ⟨rfl, rfl⟩)]; omega
     · rw [hrr, if_neg (by simp), haw, if_neg hex]; simp; omega
     · rw [hrr, if_neg (by simp), haw, if_neg hex]; simp; omega
     · intro neg
       rw [hrr, if_neg (by simp), haw, if_neg hex]
       simp only [show ¬((0 : Int) = 1) by omega, show ¬((0 : Int) = -1) by omega, if_false]
       rw [← hn]
       omega
   · right
     have hm : rv infR ≤ rv f := rv_le (by omega)
     have hm2 : rv (infR - 1) < rv infR := rv_lt (by omega)
     have hge : ∀ b : Bool, infR ≤ (if b = true then f + 1 else f) := fun b => by
       cases b
       · exact Nat.le_of_not_lt hfi
       · exact Nat.le_trans (Nat.le_of_not_lt hfi) (Nat.le_succ f)
     have hm3 : infR - 1 + 1 = infR := by omega
     refine ⟨infR - 1, infR, by omega, by omega, by omega, ?_, ?_, ?_, ?_, ?_, .inr hm3.symm, ?_, ?_, ?_⟩
     · rw [hrr, if_pos (.inr ⟨rfl, rfl⟩)]; omega
     · rw [hrr, if_pos (.inl ⟨rfl, rfl⟩)]; omega
     · rw [hrr, if_neg (by simp), hm3]; exact Nat.min_eq_right (hge _)
     · rw [hrr, if_neg (by simp), hm3]; exact Nat.min_eq_right (hge _)
     · intro neg; rw [hrr, if_neg (by simp)]; exact Nat.min_eq_right (hge _)
     · rw [hm3]; omega
     · intro _; omega
     · rw [hm3]; omega
def stepP (b : Nat) : Nat := if b = 9223372036854775809 ∨ b = 9223372036854775808 then 0 else if 9223372036854775808 < b then b - 1 else b + 1
def endV (b : Nat) : Int := if sg b then -(rv (mg b) : Int) else (rv (mg b) : Int)
structure Tg (T D : Int) (LO HI NE : Nat) : Prop where
 l1 : LO < 18446744073709551616
 h1 : HI < 18446744073709551616
 n1 : NE < 18446744073709551616
 l2 : mg LO ≤ infR
 h2 : mg HI ≤ infR
 l3 : LO ≠ infR
 h3 : HI ≠ minf
 l4 : LO ≠ 9223372036854775808
 h4 : HI ≠ 9223372036854775808
 or_ : (LO = HI ∧ NE = LO ∧ mg LO < infR ∧ endV LO * D = T) ∨
   (LO ≠ HI ∧ stepP LO = HI ∧ (NE = LO ∨ NE = HI) ∧ (mg LO < infR → endV LO * D < T) ∧ (mg HI < infR → T < endV HI * D) ∧
     (2 * T < (endV LO + endV HI) * D → NE = LO) ∧ ((endV LO + endV HI) * D < 2 * T → NE = HI) ∧ (2 * T = (endV LO + endV HI) * D → NE % 2 = 0))
set_option maxHeartbeats 2000000 in
theorem tg_of {s : Bool} {N D : Nat} (hD : 0 < D) (hs : N = 0 → s = false) :
   Tg (sn s N * (K74 : Int)) (D : Int) (rnd (-1) s (zr N D)) (rnd 1 s (zr N D)) (rnd 0 s (zr N D)) := by
 have hi := infR_val
 have hmi := minf_val
 obtain ⟨Z, hZ⟩ : ∃ Z, Z = zr N D := ⟨_, rfl⟩
 have zle : ∀ T, 2 * T ≤ Z ↔ T * D ≤ 2 * (N * K74) := fun T => by rw [hZ, zr_eq, zq_le hD, K75_74]; rw [show N * (2 * K74) = 2 * (N * K74) from Nat.mul_left_comm _ _ _]
 have zgt : ∀ T, 2 * T < Z ↔ T * D < 2 * (N * K74) := fun T => by rw [hZ, zr_eq, zq_gt hD, K75_74]; rw [show N * (2 * K74) = 2 * (N * K74) from Nat.mul_left_comm _ _ _]
 rw [← hZ]
 have hZ0 : s = true → Z ≠ 0 := fun h e => by
   have hN : N ≠ 0 := fun e2 => by rw [hs e2] at h; cases h
   have := (zgt 0).2 (by have := Nat.mul_pos (show 0 < N by omega) K74_pos; omega)
   omega
 obtain ⟨P, hP⟩ : ∃ P, P = N * K74 := ⟨_, rfl⟩
 have hT : sn s N * (K74 : Int) = if s then -(P : Int) else (P : Int) := by
   rw [sn_mul, ← hP]; rfl
 rw [hT]
 rw [← hP] at zle zgt
 have mgp : ∀ r, r ≤ infR → mg r = r := fun r h => by unfold mg; omega
 have sgp : ∀ r, r ≤ infR → sg r = false := fun r h => by unfold sg; exact decide_eq_false (by omega)
 have mgn : ∀ r, r ≤ infR → mg (9223372036854775808 + r) = r := fun r h => by unfold mg; omega
 have sgn : ∀ r, r ≤ infR → sg (9223372036854775808 + r) = true := fun r h => by unfold sg; exact decide_eq_true (by omega)
 have evp : ∀ r, r ≤ infR → endV r = (rv r : Int) := fun r h => by unfold endV; rw [sgp r h, mgp r h, if_neg (by simp)]
 have evn : ∀ r, r ≤ infR → endV (9223372036854775808 + r) = -(rv r : Int) := fun r h => by unfold endV; rw [sgn r h, mgn r h, if_pos rfl]
 have pp : ∀ r, pat false r = r := fun r => by unfold pat; split; omega; rfl
 have pn : ∀ r, r ≠ 0 → pat true r = 9223372036854775808 + r := fun r h => by unfold pat; rw [if_neg h, if_pos rfl]
 have p0 : pat true 0 = 0 := rfl
 have cast : ∀ a b : Nat, ((a : Int) * (D : Int) < 2 * (b : Int) ↔ a * D < 2 * b) := fun a b => by
   have : ((a * D : Nat) : Int) = (a : Int) * D := Int.natCast_mul a D
   omega
 rcases mag_cases Z with ⟨f, hf, hex, hrr⟩ | ⟨f, n, hf, z1, z2, r1, r2, r3, r4, r5, hn, n1, n2, n3⟩
 · have hPD : rv f * D = P := by
     have a1 := (zle (2 * rv f)).1 (by omega)
     have a2 : ¬ 2 * rv f * D < 2 * P := fun h => by have := (zgt (2 * rv f)).2 h; omega
     rw [Nat.mul_assoc] at a1 a2
     omega
   have hPDi : (rv f : Int) * (D : Int) = (P : Int) := by rw [← hPD]; exact (Int.natCast_mul _ _).symm
   unfold rnd
   rw [hrr, hrr, hrr]
   cases s
   · rw [pp, if_neg (by simp)]
     refine ⟨by omega, by omega, by omega, by rw [mgp f (by omega)]; omega, by rw [mgp f (by omega)]; omega, by omega, by omega, by omega, by omega, .inl ⟨rfl, rfl, by rw [mgp f (by omega)]; exact hf, ?_⟩⟩
     rw [evp f (by omega)]; exact hPDi
   · have hf0 : f ≠ 0 := fun e => by rw [e, rv_zero] at hex; exact hZ0 rfl hex
     rw [pn f hf0, if_pos rfl]
     refine ⟨by omega, by omega, by omega, by rw [mgn f (by omega)]; omega, by rw [mgn f (by omega)]; omega, by omega, by omega, by omega, by omega, .inl ⟨rfl, rfl, by rw [mgn f (by omega)]; exact hf, ?_⟩⟩
     rw [evn f (by omega), Int.neg_mul, hPDi]
 · have a1 : rv f * D < P := by
     have := (zgt (2 * rv f)).1 (by omega)
     rw [Nat.mul_assoc] at this
     omega
   have a2 : f + 1 < infR → P < rv (f + 1) * D := fun h => by
     have h1 : ¬ 2 * rv (f + 1) * D ≤ 2 * P := fun h2 => by
       have := (zle (2 * rv (f + 1))).2 h2
       have := z2 h
       omega
     rw [Nat.mul_assoc] at h1
     omega
   have a1i : (rv f : Int) * (D : Int) < (P : Int) := by rw [← Int.natCast_mul]; omega
   have a2i : f + 1 < infR → (P : Int) < (rv (f + 1) : Int) * (D : Int) := fun h => by have := a2 h; rw [← Int.natCast_mul]; omega
   obtain ⟨M, hM⟩ : ∃ M, M = rv f + rv (f + 1) := ⟨_, rfl⟩
   rw [← hM] at n1 n2 n3
   have hMi : (rv f : Int) + (rv (f + 1) : Int) = (M : Int) := by rw [hM]; push_cast; rfl
   have m1 : 2 * (P : Int) < (M : Int) * D → n = f := fun h => by
     rw [← Int.natCast_mul] at h
     refine n1 ?_
     rcases Nat.lt_or_ge Z (2 * M) with h2 | h2
     · exact h2
     · have := (zle M).1 h2; omega
   have m2 : (M : Int) * D < 2 * (P : Int) → n = f + 1 := fun h => by
     rw [← Int.natCast_mul] at h
     exact n2 ((zgt M).2 (by omega))
   have m3 : 2 * (P : Int) = (M : Int) * D → n % 2 = 0 := fun h => by
     rw [← Int.natCast_mul] at h
     refine n3 ?_
     have := (zle M).2 (by omega)
     have h2 : ¬ 2 * M < Z := fun h3 => by have := (zgt M).1 h3; omega
     omega
   unfold rnd
   cases s
   · rw [r1, r3, r5, pp, pp, pp, if_neg (by simp)]
     refine ⟨by omega, by omega, by omega, by rw [mgp f (by omega)]; omega, by rw [mgp (f + 1) hf]; omega, by omega, by omega, by omega, by omega, .inr ⟨by omega, ?_, hn, ?_, ?_, ?_, ?_, ?_⟩⟩
     · unfold stepP; rw [if_neg (by omega), if_neg (by omega)]
     · intro _; rw [evp f (by omega)]; exact a1i
     · rw [mgp (f + 1) hf, evp (f + 1) hf]; exact a2i
     · rw [evp f (by omega), evp (f + 1) hf, hMi]; exact m1
     · rw [evp f (by omega), evp (f + 1) hf, hMi]; exact m2
     · rw [evp f (by omega), evp (f + 1) hf, hMi]; exact m3
   · rw [r4, r2, r5, pn (f + 1) (by omega), if_pos rfl]
     have hMn : -(rv (f + 1) : Int) + -(rv f : Int) = -(M : Int) := by omega
     have b1 : -(P : Int) < -(rv f : Int) * D := by rw [Int.neg_mul]; omega
     have b2 : f + 1 < infR → -(rv (f + 1) : Int) * D < -(P : Int) := fun h => by have := a2i h; rw [Int.neg_mul]; omega
     have c1 : 2 * -(P : Int) < -(M : Int) * D → n = f + 1 := fun h => m2 (by rw [Int.neg_mul] at h; omega)
     have c2 : -(M : Int) * D < 2 * -(P : Int) → n = f := fun h => m1 (by rw [Int.neg_mul] at h; omega)
     have c3 : 2 * -(P : Int) = -(M : Int) * D → n % 2 = 0 := fun h => m3 (by rw [Int.neg_mul] at h; omega)
     by_cases hf0 : f = 0
     · subst hf0
       rw [p0]
       have hnn : n = 0 ∨ n = 1 := by omega
       have en : pat true n = if n = 0 then 0 else 9223372036854775809 := by
         rcases hnn with h | h
         · rw [h]; rfl
         · rw [h]; rfl
       have e0 : endV 0 = -(rv 0 : Int) := by rw [rv_zero]; decide
       rw [en]
       refine ⟨by omega, by omega, by split <;> omega, by rw [mgn (0 + 1) hf]; omega, by decide, by omega, by omega, by omega, by omega, .inr ⟨by omega, ?_, ?_, ?_, ?_, ?_, ?_, ?_⟩⟩
       · unfold stepP; rw [if_pos (.inl rfl)]
       · rcases hnn with h | h
         · right; rw [if_pos h]
         · left; rw [if_neg (by omega)]
       · rw [mgn (0 + 1) hf, evn (0 + 1) hf]; exact b2
       · intro _; rw [e0]; exact b1
       · rw [evn (0 + 1) hf, e0, hMn]; intro h; rw [c1 h]; rfl
       · rw [evn (0 + 1) hf, e0, hMn]; intro h; rw [c2 h]; rfl
       · rw [evn (0 + 1) hf, e0, hMn]; intro h
         have := c3 h
         rw [if_pos (by omega)]
     · rw [pn f hf0, pn n (by omega)]
       refine ⟨by omega, by omega, by omega, by rw [mgn (f + 1) hf]; omega, by rw [mgn f (by omega)]; omega, by omega, by omega, by omega, by omega, .inr ⟨by omega, ?_, by omega, ?_, ?_, ?_, ?_, ?_⟩⟩
       · unfold stepP; rw [if_neg (by omega), if_pos (by omega)]; omega
       · rw [mgn (f + 1) hf, evn (f + 1) hf]; exact b2
       · intro _; rw [evn f (by omega)]; exact b1
       · rw [evn (f + 1) hf, evn f (by omega), hMn]; intro h; rw [c1 h]
       · rw [evn (f + 1) hf, evn f (by omega), hMn]; intro h; rw [c2 h]
       · rw [evn (f + 1) hf, evn f (by omega), hMn]; intro h
         have := c3 h
         omega
end Go.Proofs.YtbcaggdgoidlaaaGreatDoor.Rn

namespace Go.Proofs.YtbcaggdgoidlaaaGreatDoor.Rn
open Nm
end Go.Proofs.YtbcaggdgoidlaaaGreatDoor.Rn

namespace Go.Proofs.YtbcaggdgoidlaaaGreatDoor.Rn
open Nm
def sbS (n m : Bool) (N D N' D' : Nat) : Bool := aNeg n (!m && decide (N' ≠ 0)) (N * D') (N' * D) && decide (aMag n (!m && decide (N' ≠ 0)) (N * D') (N' * D) ≠ 0)
def sbN (n m : Bool) (N D N' D' : Nat) : Nat := fracN (aMag n (!m && decide (N' ≠ 0)) (N * D') (N' * D)) (D * D') 0
def sbD (n m : Bool) (N D N' D' : Nat) : Nat := fracD (aMag n (!m && decide (N' ≠ 0)) (N * D') (N' * D)) (D * D') 0
theorem sn_turn (m : Bool) (N : Nat) : sn (!m && decide (N ≠ 0)) N = -sn m N := by
 unfold sn
 by_cases h : N = 0
 · subst h; cases m <;> simp
 · rw [decide_eq_true h, Bool.and_true]; cases m <;> simp
theorem sub_val (n m : Bool) {N D N' D' : Nat} (hD : 0 < D) (hD' : 0 < D') : 0 < sbD n m N D N' D' ∧ sn (sbS n m N D N' D') (sbN n m N D N' D') * ((D : Int) * (D' : Int)) = (sn n N * (D' : Int) - sn m N' * (D : Int)) * (sbD n m N D N' D' : Int) := by
 have hp : 0 < D * D' := Nat.mul_pos hD hD'
 refine ⟨fracD_pos _ (by omega), ?_⟩
 unfold sbS sbN sbD
 have hs := sn_sum n (!m && decide (N' ≠ 0)) (N * D') (N' * D)
 obtain ⟨X, hX⟩ : ∃ X, X = aMag n (!m && decide (N' ≠ 0)) (N * D') (N' * D) := ⟨_, rfl⟩
 obtain ⟨z, hz⟩ : ∃ z, z = aNeg n (!m && decide (N' ≠ 0)) (N * D') (N' * D) := ⟨_, rfl⟩
 rw [← hX, ← hz] at hs ⊢
 have h1 := sn_frac (neg := z) (n := X) (d := D * D') (e := 0) (p := 0) (q := 0) rfl
 rw [hs, ← sn_mul, ← sn_mul, sn_turn] at h1
 have e1 : ((D * D' * 2 ^ 0 : Nat) : Int) = (D : Int) * (D' : Int) := by simp
 have e2 : ((2 ^ 0 * fracD X (D * D') 0 : Nat) : Int) = (fracD X (D * D') 0 : Int) := by simp
 rw [e1, e2, Int.neg_mul] at h1
 rw [h1, Int.sub_eq_add_neg]
theorem fracN_le_z (n d : Nat) : fracN n d 0 ≤ n := by
 unfold fracN
 split
 · omega
 · have h1 : ((0 : Int) + tz n - tz d).toNat ≤ tz n := by omega
   have h2 := Nat.pow_le_pow_right (n := 2) (by omega) h1
   have h3 := Nat.mul_le_mul_left (n / 2 ^ tz n) h2
   rwa [tz_div] at h3
theorem fracD_le_z {n d : Nat} (hd : d ≠ 0) : fracD n d 0 ≤ d := by
 unfold fracD
 split
 · omega
 · have h1 : (-((0 : Int) + tz n - tz d)).toNat ≤ tz d := by omega
   have h2 := Nat.pow_le_pow_right (n := 2) (by omega) h1
   have h3 := Nat.mul_le_mul_left (d / 2 ^ tz d) h2
   rwa [tz_div] at h3
theorem sb_nw {n m : Bool} {N D N' D' b : Nat} (hD : 0 < D) (hD' : 0 < D') (h1 : nw N ≤ b) (h2 : nw D ≤ b) (h3 : nw N' ≤ b) (h4 : nw D' ≤ b) : nw (sbN n m N D N' D') ≤ 2 * b + 1 ∧ nw (sbD n m N D N' D') ≤ 2 * b := by
 have nm2 : ∀ a c : Nat, nw (a * c) ≤ nw a + nw c := fun a c => by
   refine (nw_le_iff _ _).2 ?_
   rw [Nat.pow_add]
   exact Nat.mul_lt_mul'' (lt_pow_nw a) (lt_pow_nw c)
 have hp : 0 < D * D' := Nat.mul_pos hD hD'
 have a1 := nm2 N D'
 have a2 := nm2 N' D
 have a3 := nm2 D D'
 constructor
 · unfold sbN
   refine Nat.le_trans (nw_mono (fracN_le_z _ _)) ?_
   have hm : aMag n (!m && decide (N' ≠ 0)) (N * D') (N' * D) ≤ N * D' + N' * D := by unfold aMag; split; omega; split <;> omega
   refine Nat.le_trans (nw_mono hm) ?_
   refine (nw_le_iff _ _).2 ?_
   have b1 := lt_pow_nw (N * D')
   have b2 := lt_pow_nw (N' * D)
   have c1 : 4294967296 ^ nw (N * D') ≤ 4294967296 ^ (2 * b) := Nat.pow_le_pow_right (by omega) (by omega)
   have c2 : 4294967296 ^ nw (N' * D) ≤ 4294967296 ^ (2 * b) := Nat.pow_le_pow_right (by omega) (by omega)
   rw [Nat.pow_succ]
   omega
 · unfold sbD
   exact Nat.le_trans (nw_mono (fracD_le_z (show D * D' ≠ 0 by omega))) (by omega)
end Go.Proofs.YtbcaggdgoidlaaaGreatDoor.Rn

namespace Go.Proofs.YtbcaggdgoidlaaaGreatDoor.Rn
open Nm
def Ev (s : Bool) (N D : Nat) (a : Int) : Prop := 0 < D ∧ sn s N * (K74 : Int) = a * (D : Int)
theorem K74_posi : (0 : Int) < (K74 : Int) := by have := K74_pos; omega
theorem ev_bits (b : Nat) : Ev (sg b && decide (mg b ≠ 0)) (fbN b) (fbD b) (endV b) := ⟨fbD_pos b, fb_sv b⟩
theorem rc_end {l : Bool} {lN lD : Nat} {a : Int} (h : Ev l lN lD a) (s : Bool) {N D : Nat} (hD : 0 < D) :
   rc l lN lD s N D = cmpI (a * (D : Int)) (sn s N * (K74 : Int)) ∧ rc s N D l lN lD = cmpI (sn s N * (K74 : Int)) (a * (D : Int)) := by
 obtain ⟨h0, h1⟩ := h
 have hl : (0 : Int) < (lD : Int) := by omega
 have e1 : sn l lN * (D : Int) * (K74 : Int) = a * (D : Int) * (lD : Int) := by
   rw [Int.mul_right_comm, h1, Int.mul_right_comm]
 have e2 : sn s N * (lD : Int) * (K74 : Int) = sn s N * (K74 : Int) * (lD : Int) := Int.mul_right_comm _ _ _
 unfold rc
 constructor
 · rw [← cmpI_mul K74_posi, e1, e2, cmpI_mul hl]
 · rw [← cmpI_mul K74_posi, e1, e2, cmpI_mul hl]
end Go.Proofs.YtbcaggdgoidlaaaGreatDoor.Rn
