/-
 Plain: the nearest number of 53 bits to a whole number. Conditions: those that each theorem names.
-/
import Derived.Test.YtbcaggdgoidlaaaGreatDoorH03
set_option linter.unusedVariables false
namespace Go.Proofs.YtbcaggdgoidlaaaGreatDoor.Rn
def nr (Q : Nat) : Nat := if away 0 false (4 * Q) then rung Q + 1 else rung Q
theorem near_nr (Q : Nat) : near (4 * Q) = min (nr Q) infR := by
 unfold near rr nr
 rw [show 4 * Q / 4 = Q by omega, if_neg (by omega)]
def ex (Q : Nat) : Nat := rung Q / 4503599627370496 - 1
theorem rv_dvd (k : Nat) : ∃ s, rv k = s * 2 ^ (k / 4503599627370496 - 1) ∧ rv (k + 1) = (s + 1) * 2 ^ (k / 4503599627370496 - 1) ∧ s < 9007199254740992 ∧ (k / 4503599627370496 - 1 ≠ 0 → 4503599627370496 ≤ s) := by
 obtain ⟨u, s, h1, h2, h3⟩ := form k
 have e : k / 4503599627370496 - 1 = u := by
   by_cases h0 : u = 0
   · subst h0; omega
   · have := h3 h0; omega
 rw [e, h1]
 refine ⟨s, rv_form u s (by omega) h3, ?_, h2, h3⟩
 rw [rv_succ, rv_form u s (by omega) h3, ulp_form u s h2 h3, Nat.add_mul, Nat.one_mul]
theorem ex_spec (Q : Nat) : ∃ s, rv (rung Q) = s * 2 ^ ex Q ∧ rv (rung Q + 1) = (s + 1) * 2 ^ ex Q ∧ s < 9007199254740992 ∧ (ex Q ≠ 0 → 4503599627370496 ≤ s) := rv_dvd (rung Q)
theorem ex_hi (Q : Nat) : Q < 9007199254740992 * 2 ^ ex Q := by
 obtain ⟨s, h1, h2, h3, h4⟩ := ex_spec Q
 have h5 := (rung_spec Q).2
 rw [h2] at h5
 exact Nat.lt_of_lt_of_le h5 (Nat.mul_le_mul_right _ (by omega))
theorem ex_lo {Q : Nat} (h : ex Q ≠ 0) : 4503599627370496 * 2 ^ ex Q ≤ Q := by
 obtain ⟨s, h1, h2, h3, h4⟩ := ex_spec Q
 have h5 := (rung_spec Q).1
 rw [h1] at h5
 exact Nat.le_trans (Nat.mul_le_mul_right _ (h4 h)) h5
theorem ex_mono {P Q : Nat} (h : P ≤ Q) : ex P ≤ ex Q := by
 have := rung_mono h
 unfold ex
 omega
theorem pow_mono {a b : Nat} (h : a ≤ b) : 2 ^ a ≤ 2 ^ b := Nat.pow_le_pow_right (by omega) h
theorem ex_gt {Q u : Nat} (h : 9007199254740992 * 2 ^ u ≤ Q) : u < ex Q := by
 rcases Nat.lt_or_ge u (ex Q) with h1 | h1
 · exact h1
 · exfalso
   have h2 := ex_hi Q
   have h3 := pow_mono h1
   have := Nat.mul_le_mul_left 9007199254740992 h3
   omega
def Rp (Q : Nat) : Prop := ∃ k, rv k = Q
theorem Rp.zero : Rp 0 := ⟨0, rv_zero⟩
theorem Rp.mk {m : Nat} (u : Nat) (hm : m ≤ 9007199254740992) : Rp (m * 2 ^ u) := by
 induction u generalizing m with
 | zero => exact ⟨m, by rw [rv_small hm, Nat.pow_zero, Nat.mul_one]⟩
 | succ u ih =>
   by_cases h : m < 4503599627370496
   · have := ih (m := 2 * m) (by omega)
     rwa [Nat.mul_comm 2 m, Nat.mul_assoc, ← two_pow_s] at this
   · exact ⟨_, rv_form (u + 1) m hm (fun _ => by omega)⟩
theorem Rp.rung {Q : Nat} (h : Rp Q) : rv (rung Q) = Q := by
 obtain ⟨k, rfl⟩ := h
 rw [rung_rv]
theorem Rp.dvd {Q : Nat} (h : Rp Q) : 2 ^ ex Q ∣ Q := by
 obtain ⟨s, h1, -⟩ := ex_spec Q
 rw [h.rung] at h1
 exact ⟨s, by rw [Nat.mul_comm]; exact h1⟩
theorem pow_dvd {a b : Nat} (h : a ≤ b) : 2 ^ a ∣ 2 ^ b := Nat.pow_dvd_pow 2 h
theorem Rp.dvd_of {P Q : Nat} (hQ : Rp Q) (h : P ≤ Q) : 2 ^ ex P ∣ Q := Nat.dvd_trans (pow_dvd (ex_mono h)) hQ.dvd
theorem Rp.of_dvd {Q u : Nat} (h : 2 ^ u ∣ Q) (hq : Q ≤ 9007199254740992 * 2 ^ u) : Rp Q := by
 obtain ⟨m, rfl⟩ := h
 rw [Nat.mul_comm]
 refine Rp.mk u ?_
 rw [Nat.mul_comm] at hq
 exact Nat.le_of_mul_le_mul_right hq (two_pow_pos u)
theorem nr_cases (Q : Nat) : (nr Q = rung Q ∧ 2 * Q ≤ rv (rung Q) + rv (rung Q + 1)) ∨ (nr Q = rung Q + 1 ∧ rv (rung Q) + rv (rung Q + 1) ≤ 2 * Q) := by
 unfold nr away
 have h := rung_spec Q
 rw [show 4 * Q / 4 = Q by omega]
 by_cases h1 : 4 * Q = 4 * rv (rung Q)
 · rw [if_pos h1]
   exact .inl ⟨rfl, by omega⟩
 · rw [if_neg h1, if_neg (show ¬ (0 : Int) = 1 by omega), if_neg (show ¬ (0 : Int) = -1 by omega)]
   by_cases h2 : 2 * (rv (rung Q) + rv (rung Q + 1)) < 4 * Q
   · rw [decide_eq_true h2]
     exact .inr ⟨rfl, by omega⟩
   · rw [decide_eq_false h2]
     by_cases h3 : 4 * Q = 2 * (rv (rung Q) + rv (rung Q + 1))
     · rw [decide_eq_true h3]
       by_cases h4 : rung Q % 2 = 1
       · rw [decide_eq_true h4]; exact .inr ⟨rfl, by omega⟩
       · rw [decide_eq_false h4]; exact .inl ⟨rfl, by omega⟩
     · rw [decide_eq_false h3]
       exact .inl ⟨rfl, by omega⟩
theorem nr_rv (k : Nat) : nr (rv k) = k := by
 unfold nr away
 rw [show 4 * rv k / 4 = rv k by omega, rung_rv, if_pos rfl]
 rfl
def rn (S : Int) : Int := if S < 0 then -(rv (nr S.natAbs) : Int) else (rv (nr S.natAbs) : Int)
def RpZ (S : Int) : Prop := Rp S.natAbs
theorem RpZ.neg {S : Int} (h : RpZ S) : RpZ (-S) := by unfold RpZ; rw [Int.natAbs_neg]; exact h
theorem RpZ.zero : RpZ 0 := Rp.zero
theorem rn_zero : rn 0 = 0 := by
 have h := nr_rv 0
 rw [rv_zero] at h
 unfold rn
 simp [h, rv_zero]
theorem rn_neg (S : Int) : rn (-S) = -rn S := by
 rcases Int.lt_trichotomy S 0 with h | h | h
 · unfold rn; rw [if_neg (by omega), if_pos h, Int.natAbs_neg]; omega
 · subst h; rw [Int.neg_zero, rn_zero]; rfl
 · unfold rn; rw [if_pos (by omega), if_neg (by omega), Int.natAbs_neg]
theorem rn_nat (Q : Nat) : rn (Q : Int) = (rv (nr Q) : Int) := by
 unfold rn; rw [if_neg (by omega), Int.natAbs_natCast]
theorem rn_abs (S : Int) : (rn S).natAbs = rv (nr S.natAbs) := by
 unfold rn; split <;> omega
theorem by_sign {C : Int → Prop} (h1 : ∀ Q : Nat, C Q) (h2 : ∀ S, C S → C (-S)) (S : Int) : C S := by
 obtain ⟨n, rfl | rfl⟩ := Int.eq_nat_or_neg S
 · exact h1 n
 · exact h2 _ (h1 n)
theorem rn_of {S : Int} (h : RpZ S) : rn S = S := by
 revert h
 refine by_sign (C := fun S => RpZ S → rn S = S) (fun Q h => ?_) (fun S ih h => ?_) S
 · obtain ⟨k, hk⟩ := h
   rw [Int.natAbs_natCast] at hk
   rw [rn_nat, ← hk, nr_rv]
 · rw [rn_neg, ih (by have := h.neg; rwa [Int.neg_neg] at this)]
theorem rn_dvd_ex (Q : Nat) : 2 ^ ex Q ∣ rv (nr Q) := by
 obtain ⟨s, h1, h2, -⟩ := ex_spec Q
 rcases nr_cases Q with ⟨h3, -⟩ | ⟨h3, -⟩
 · rw [h3, h1]; exact Nat.dvd_mul_left _ _
 · rw [h3, h2]; exact Nat.dvd_mul_left _ _
theorem nr_dvd {Q u : Nat} (h : 2 ^ u ∣ Q) : 2 ^ u ∣ rv (nr Q) := by
 by_cases h1 : Q < 9007199254740992 * 2 ^ u
 · obtain ⟨k, hk⟩ := Rp.of_dvd h (by omega)
   rw [← hk, nr_rv, hk]; exact h
 · have h2 := ex_gt (Q := Q) (u := u) (by omega)
   exact Nat.dvd_trans (pow_dvd (by omega)) (rn_dvd_ex Q)
def Dv (u : Nat) (S : Int) : Prop := 2 ^ u ∣ S.natAbs
theorem Dv.iff {u : Nat} {S : Int} : Dv u S ↔ ((2 ^ u : Nat) : Int) ∣ S := Int.ofNat_dvd_left.symm
theorem Dv.neg {u : Nat} {S : Int} (h : Dv u S) : Dv u (-S) := by unfold Dv; rw [Int.natAbs_neg]; exact h
theorem Dv.add {u : Nat} {S T : Int} (h : Dv u S) (k : Dv u T) : Dv u (S + T) := Dv.iff.2 (Int.dvd_add (Dv.iff.1 h) (Dv.iff.1 k))
theorem Dv.mono {u v : Nat} {S : Int} (h : Dv v S) (k : u ≤ v) : Dv u S := Nat.dvd_trans (pow_dvd k) h
theorem Dv.rn {u : Nat} {S : Int} (h : Dv u S) : Dv u (rn S) := by unfold Dv; rw [rn_abs]; exact nr_dvd h
theorem Dv.rp {u : Nat} {S : Int} (h : Dv u S) (hq : S.natAbs ≤ 9007199254740992 * 2 ^ u) : RpZ S := Rp.of_dvd h hq
theorem RpZ.dv {S : Int} (h : RpZ S) {P : Nat} (hP : P ≤ S.natAbs) : Dv (ex P) S := Rp.dvd_of h hP
theorem Dv.le {u : Nat} {S : Int} (h : Dv u S) {M : Nat} (hM : S.natAbs < (M + 1) * 2 ^ u) : S.natAbs ≤ M * 2 ^ u := by
 obtain ⟨m, hm⟩ := h
 rw [hm] at hM ⊢
 rw [Nat.mul_comm] at hM ⊢
 have := Nat.lt_of_mul_lt_mul_right hM
 exact Nat.mul_le_mul_right _ (by omega)
end Go.Proofs.YtbcaggdgoidlaaaGreatDoor.Rn

namespace Go.Proofs.YtbcaggdgoidlaaaGreatDoor.Rn
def kp (k : Int) : Nat := pat (decide (k < 0)) k.natAbs
end Go.Proofs.YtbcaggdgoidlaaaGreatDoor.Rn

namespace Go.Proofs.YtbcaggdgoidlaaaGreatDoor.Rn
theorem pow_add_ (a b : Nat) : 2 ^ (a + b) = 2 ^ a * 2 ^ b := Nat.pow_add 2 a b
theorem Dv.mk (u : Nat) (k : Int) : Dv u (k * ((2 ^ u : Nat) : Int)) := Dv.iff.2 (Int.dvd_mul_left _ _)
theorem Dv.get {u : Nat} {S : Int} (h : Dv u S) : ∃ k : Int, S = k * ((2 ^ u : Nat) : Int) := by
 obtain ⟨k, hk⟩ := Dv.iff.1 h
 exact ⟨k, by rw [hk, Int.mul_comm]⟩
structure Halves (u : Nat) (x h l : Int) : Prop where
 sum : h + l = x
 dvh : Dv (27 + u) h
 dvl : Dv u l
 lel : l.natAbs ≤ 67108864 * 2 ^ u
 leh : h.natAbs ≤ 9007199254740992 * 2 ^ u
theorem Dv.mul {u v : Nat} {S T : Int} (h : Dv u S) (k : Dv v T) : Dv (u + v) (S * T) := by
 unfold Dv at *
 rw [Int.natAbs_mul, pow_add_]
 exact Nat.mul_dvd_mul h k
end Go.Proofs.YtbcaggdgoidlaaaGreatDoor.Rn
