/-
 Plain: the quick road of a quotient answers the number rounded in the direction. Conditions: those that each theorem names.
-/
import Derived.Test.YtbcaggdgoidlaaaGreatDoorH24
import Derived.Test.YtbcaggdgoidlaaaGreatDoorH17
set_option linter.unusedVariables false
namespace Go.Proofs.YtbcaggdgoidlaaaGreatDoor.Rn
end Go.Proofs.YtbcaggdgoidlaaaGreatDoor.Rn

set_option linter.unusedSimpArgs false
namespace Go.Proofs.YtbcaggdgoidlaaaGreatDoor.Rn
open Nm
end Go.Proofs.YtbcaggdgoidlaaaGreatDoor.Rn

namespace Go.Proofs.YtbcaggdgoidlaaaGreatDoor.Rn
open Nm
def RootAt (N D n : Nat) (k : Int) (r : Nat) (o : Bool) : Prop :=
 ∃ A B : Nat, (A : Int) - B = n * k ∧ r ^ n * (D * 2 ^ B) ≤ N * 2 ^ A ∧ N * 2 ^ A < (r + 1) ^ n * (D * 2 ^ B) ∧ o = decide (r ^ n * (D * 2 ^ B) ≠ N * 2 ^ A)
theorem RootAt.any {N D n : Nat} {k : Int} {r : Nat} {o : Bool} (h : RootAt N D n k r o) {A B : Nat} (hAB : (A : Int) - B = n * k) :
   r ^ n * (D * 2 ^ B) ≤ N * 2 ^ A ∧ N * 2 ^ A < (r + 1) ^ n * (D * 2 ^ B) ∧ o = decide (r ^ n * (D * 2 ^ B) ≠ N * 2 ^ A) := by
 obtain ⟨A', B', hAB', h1, h2, h3⟩ := h
 have hc : A + B' = A' + B := by omega
 have e1 : ∀ R : Nat, R * (D * 2 ^ B) * 2 ^ B' = R * (D * 2 ^ B') * 2 ^ B := fun R => by simp only [Nat.mul_assoc, Nat.mul_comm, Nat.mul_left_comm]
 have e2 : N * 2 ^ A * 2 ^ B' = N * 2 ^ A' * 2 ^ B := by rw [Nat.mul_assoc, Nat.mul_assoc, ← Nat.pow_add, ← Nat.pow_add, hc]
 have hB := two_pow_pos B
 have hB' := two_pow_pos B'
 refine ⟨?_, ?_, ?_⟩
 · refine Nat.le_of_mul_le_mul_right (c := 2 ^ B') ?_ hB'
   rw [e1, e2]
   exact Nat.mul_le_mul_right _ h1
 · refine Nat.lt_of_mul_lt_mul_right (a := 2 ^ B') ?_
   rw [e1, e2]
   exact Nat.mul_lt_mul_of_pos_right h2 hB
 · rw [h3]
   refine decide_eq_decide.2 (not_congr ?_)
   constructor
   · intro h
     refine Nat.eq_of_mul_eq_mul_right hB' ?_
     rw [e1, e2, h]
   · intro h
     refine Nat.eq_of_mul_eq_mul_right hB ?_
     rw [← e1, ← e2, h]
theorem RootAt.congr {N D N' D' n : Nat} {k : Int} {r : Nat} {o : Bool} (hD : 0 < D) (hD' : 0 < D') (he : N * D' = N' * D) (h : RootAt N D n k r o) : RootAt N' D' n k r o := by
 obtain ⟨A, B, hAB, h1, h2, h3⟩ := h
 have e1 : ∀ R : Nat, R * (D * 2 ^ B) * D' = R * (D' * 2 ^ B) * D := fun R => by simp only [Nat.mul_assoc, Nat.mul_comm, Nat.mul_left_comm]
 have e2 : N * 2 ^ A * D' = N' * 2 ^ A * D := by rw [Nat.mul_right_comm, he, Nat.mul_right_comm]
 refine ⟨A, B, hAB, ?_, ?_, ?_⟩
 · refine Nat.le_of_mul_le_mul_right (c := D) ?_ hD
   rw [← e1, ← e2]
   exact Nat.mul_le_mul_right _ h1
 · refine Nat.lt_of_mul_lt_mul_right (a := D) ?_
   rw [← e1, ← e2]
   exact Nat.mul_lt_mul_of_pos_right h2 hD'
 · rw [h3]
   refine decide_eq_decide.2 (not_congr ?_)
   constructor
   · intro h
     refine Nat.eq_of_mul_eq_mul_right hD ?_
     rw [← e1, ← e2, h]
   · intro h
     refine Nat.eq_of_mul_eq_mul_right hD' ?_
     rw [e1, e2, h]
theorem pow_lt_pow_ {a b n : Nat} (hn : n ≠ 0) (h : a < b) : a ^ n < b ^ n := Nat.pow_lt_pow_left h hn
theorem pow_le_pow_ {a b : Nat} (n : Nat) (h : a ≤ b) : a ^ n ≤ b ^ n := Nat.pow_le_pow_left h n
theorem RootAt.less {N D n : Nat} {k : Int} {r1 r2 j : Nat} {o1 o2 : Bool} (hn : n ≠ 0) (hD : 0 < D) (h1 : RootAt N D n k r1 o1) (h2 : RootAt N D n (k + j) r2 o2) : r1 = r2 / 2 ^ j ∧ o1 = decide ((2 * r2 + o2.toNat) % 2 ^ (j + 1) ≠ 0) := by
 obtain ⟨A, B, hAB, a1, a2, a3⟩ := h1
 have hAB2 : ((A + n * j : Nat) : Int) - B = n * (k + j) := by rw [Int.mul_add]; push_cast; omega
 obtain ⟨b1, b2, b3⟩ := h2.any hAB2
 have hj := two_pow_pos j
 have hpn : 2 ^ (n * j) = (2 ^ j) ^ n := by rw [Nat.mul_comm, Nat.pow_mul]
 obtain ⟨E, hE⟩ : ∃ E, E = D * 2 ^ B := ⟨_, rfl⟩
 have hE0 : 0 < E := by rw [hE]; exact Nat.mul_pos hD (two_pow_pos B)
 obtain ⟨W, hW⟩ : ∃ W, W = N * 2 ^ A := ⟨_, rfl⟩
 obtain ⟨J, hJ⟩ : ∃ J, J = 2 ^ j := ⟨_, rfl⟩
 have hW2 : N * 2 ^ (A + n * j) = W * J ^ n := by rw [Nat.pow_add, ← Nat.mul_assoc, hW, hpn, hJ]
 rw [hW2, ← hE] at b1 b2 b3
 rw [← hE, ← hW] at a1 a2 a3
 rw [← hJ] at hj ⊢
 have hJn : 0 < J ^ n := Nat.pow_pos hj
 have c1 : r1 * J ≤ r2 := by
   rcases Nat.lt_or_ge r2 (r1 * J) with h | h
   · exfalso
     have := pow_le_pow_ n (show r2 + 1 ≤ r1 * J from h)
     rw [Nat.mul_pow] at this
     have h2 : (r2 + 1) ^ n * E ≤ r1 ^ n * J ^ n * E := Nat.mul_le_mul_right _ this
     have h3 : r1 ^ n * J ^ n * E = r1 ^ n * E * J ^ n := Nat.mul_right_comm _ _ _
     have h4 : r1 ^ n * E * J ^ n ≤ W * J ^ n := Nat.mul_le_mul_right _ a1
     omega
   · exact h
 have c2 : r2 < (r1 + 1) * J := by
   rcases Nat.lt_or_ge r2 ((r1 + 1) * J) with h | h
   · exact h
   · exfalso
     have := pow_le_pow_ n h
     rw [Nat.mul_pow] at this
     have h2 : (r1 + 1) ^ n * J ^ n * E ≤ r2 ^ n * E := Nat.mul_le_mul_right _ this
     have h3 : (r1 + 1) ^ n * J ^ n * E = (r1 + 1) ^ n * E * J ^ n := Nat.mul_right_comm _ _ _
     have h4 : W * J ^ n < (r1 + 1) ^ n * E * J ^ n := Nat.mul_lt_mul_of_pos_right a2 hJn
     omega
 have hdiv : r1 = r2 / J := by
   refine (Nat.div_eq_of_lt_le ?_ ?_).symm
   · exact c1
   · exact c2
 refine ⟨hdiv, ?_⟩
 rw [a3]
 refine decide_eq_decide.2 (not_congr ?_)
 rw [Nat.pow_succ, ← hJ]
 have hdm := Nat.div_add_mod r2 J
 rw [← hdiv] at hdm
 have hmod : (2 * r2 + o2.toNat) % (J * 2) = 2 * (r2 % J) + o2.toNat := by
   have ho : o2.toNat ≤ 1 := by cases o2 <;> simp
   have hlt := Nat.mod_lt r2 hj
   have : 2 * r2 + o2.toNat = (2 * (r2 % J) + o2.toNat) + r1 * (J * 2) := by
     have h5 : r1 * (J * 2) = 2 * (J * r1) := by simp only [Nat.mul_assoc, Nat.mul_comm, Nat.mul_left_comm]
     omega
   rw [this, Nat.add_mul_mod_self_right, Nat.mod_eq_of_lt (by omega)]
 rw [hmod]
 constructor
 · intro h
   have e : r1 ^ n * J ^ n * E = W * J ^ n := by rw [Nat.mul_right_comm, h]
   have hr2 : r2 = r1 * J := by
     rcases Nat.lt_or_ge (r1 * J) r2 with h6 | h6
     · exfalso
       have := pow_lt_pow_ hn h6
       rw [Nat.mul_pow] at this
       have h7 : r1 ^ n * J ^ n * E < r2 ^ n * E := Nat.mul_lt_mul_of_pos_right this hE0
       omega
     · omega
   have h0 : r2 % J = 0 := by rw [hr2, Nat.mul_mod_left]
   rw [h0, b3]
   have : ¬ (r2 ^ n * E ≠ W * J ^ n) := by rw [hr2, Nat.mul_pow, e]; simp
   rw [decide_eq_false this]; rfl
 · intro h
   have h0 : r2 % J = 0 := by omega
   have ho : o2 = false := by cases ho2 : o2 with | false => rfl | true => rw [ho2] at h; simp at h
   have hr2 : r2 = r1 * J := by rw [Nat.mul_comm]; omega
   rw [ho] at b3
   have b4 : r2 ^ n * E = W * J ^ n := by
     have := of_decide_eq_false b3.symm
     omega
   refine Nat.eq_of_mul_eq_mul_right hJn ?_
   rw [← b4, hr2, Nat.mul_pow, Nat.mul_right_comm]
theorem RootAt.rnd_less {N D n : Nat} {k : Int} {r1 r2 j : Nat} {o1 o2 : Bool} (hn : n ≠ 0) (hD : 0 < D) (h1 : RootAt N D n k r1 o1) (h2 : RootAt N D n (k + j) r2 o2) (hb : o1 = true → 55 ≤ bl r1) (d : Int) (neg : Bool) :
   rnd d neg (zd (2 * r1 + o1.toNat) (-k - 1)) = rnd d neg (zd (2 * r2 + o2.toNat) (-(k + j) - 1)) := by
 obtain ⟨e1, e2⟩ := h1.less hn hD h2
 obtain ⟨P, hP⟩ : ∃ P : Nat, P = (-k + 1075).toNat := ⟨_, rfl⟩
 obtain ⟨Q, hQ⟩ : ∃ Q : Nat, Q = (-(-k + 1075)).toNat := ⟨_, rfl⟩
 have hPQ : (P : Int) - Q = -k + 1075 := by omega
 have hz : zd (2 * r2 + o2.toNat) (-(k + j) - 1) = zq ((2 * r2 + o2.toNat) * 2 ^ P) (2 ^ (j + 1) * 2 ^ Q) := by
   rw [zd_of (A := P) (B := j + 1 + Q) (by omega), Nat.pow_add]
 rw [hz]
 refine rnd_quo (X := 2 * r2 + o2.toNat) (Y := 2 ^ (j + 1)) (A := P) (B := Q) (two_pow_pos _) (Nat.mul_pos (two_pow_pos _) (two_pow_pos _)) ?_ e2 hb hPQ ?_ d neg
 · rw [e1, Nat.pow_succ, Nat.mul_comm (2 ^ j) 2, ← Nat.div_div_eq_div_mul]
   have ho : o2.toNat ≤ 1 := by cases o2 <;> simp
   rw [show (2 * r2 + o2.toNat) / 2 = r2 by omega]
 · rfl
theorem RootAt.alike {N D n : Nat} {k1 k2 : Int} {r1 r2 : Nat} {o1 o2 : Bool} (hn : n ≠ 0) (hD : 0 < D) (h1 : RootAt N D n k1 r1 o1) (h2 : RootAt N D n k2 r2 o2) (hb1 : o1 = true → 55 ≤ bl r1) (hb2 : o2 = true → 55 ≤ bl r2) (d : Int) (neg : Bool) :
   rnd d neg (zd (2 * r1 + o1.toNat) (-k1 - 1)) = rnd d neg (zd (2 * r2 + o2.toNat) (-k2 - 1)) := by
 rcases Int.le_total k1 k2 with h | h
 · obtain ⟨j, hj⟩ : ∃ j : Nat, k2 = k1 + j := ⟨(k2 - k1).toNat, by omega⟩
   subst hj
   exact h1.rnd_less hn hD h2 hb1 d neg
 · obtain ⟨j, hj⟩ : ∃ j : Nat, k1 = k2 + j := ⟨(k1 - k2).toNat, by omega⟩
   subst hj
   exact (h2.rnd_less hn hD h1 hb2 d neg).symm
noncomputable def rootV (d : Int) (neg : Bool) (N D n : Nat) : Nat :=
 open Classical in
 if h : ∃ V, ∃ k r o, RootAt N D n k r o ∧ (o = true → 55 ≤ bl r) ∧ V = rnd d neg (zd (2 * r + o.toNat) (-k - 1)) then Classical.choose h else 0
theorem RootAt.val {N D n : Nat} {k : Int} {r : Nat} {o : Bool} (h : RootAt N D n k r o) (hn : n ≠ 0) (hD : 0 < D) (hb : o = true → 55 ≤ bl r) (d : Int) (neg : Bool) : rnd d neg (zd (2 * r + o.toNat) (-k - 1)) = rootV d neg N D n := by
 have hex : ∃ V, ∃ k r o, RootAt N D n k r o ∧ (o = true → 55 ≤ bl r) ∧ V = rnd d neg (zd (2 * r + o.toNat) (-k - 1)) := ⟨_, k, r, o, h, hb, rfl⟩
 unfold rootV
 rw [dif_pos hex]
 obtain ⟨k', r', o', h', hb', he⟩ := Classical.choose_spec hex
 rw [he]
 exact h.alike hn hD h' hb hb' d neg
end Go.Proofs.YtbcaggdgoidlaaaGreatDoor.Rn

namespace Go.Proofs.YtbcaggdgoidlaaaGreatDoor.Rn
open Nm
structure KS (f : Int) (n : Nat) (q0 k1 q1 k2 q2 m1 m2 : Int) : Prop where
 e0 : (f + n * 60).tdiv n = q0
 p1 : n * k1 = m1
 e1 : (f + m1).tdiv n = q1
 p2 : n * k2 = m2
 e2 : (f + m2).tdiv n = q2
 c1 : (61 < q0 ∧ k1 = 60 - (q0 - 60)) ∨ (¬ 61 < q0 ∧ k1 = 60)
 n1 : ¬ 61 < q1
 c2 : (q1 < 59 ∧ k2 = k1 + (60 - q1)) ∨ (¬ q1 < 59 ∧ k2 = k1)
 n2 : ¬ q2 < 59
 lo : 59 * (n : Int) ≤ f + m2
 hi : f + m2 < 62 * (n : Int)
 b0 : -70000 ≤ q0 ∧ q0 ≤ 70000
 b1 : -70000 ≤ q1 ∧ q1 ≤ 70000
 b2 : -70000 ≤ q2 ∧ q2 ≤ 70000
 d1 : -140000 ≤ k1 ∧ k1 ≤ 140000
 d2 : -300000 ≤ k2 ∧ k2 ≤ 300000
 r1 : -70000 ≤ m1 ∧ m1 ≤ 70000
 r2 : -70000 ≤ m2 ∧ m2 ≤ 70000
structure RtRel (n big j r : Nat) : Prop where
 low : r % 2 ^ j = 0
 lt : r + 2 ^ j ≤ 9223372036854775808
 le : r ^ n ≤ big
 gt : big < (r + 2 ^ j) ^ n
theorem RtRel.start {n big : Nat} (hn : n ≠ 0) (h : big < (2 ^ 63) ^ n) : RtRel n big 63 0 := ⟨Nat.zero_mod _, by omega, by rw [Nat.zero_pow (by omega)]; omega, by rw [Nat.zero_add]; exact h⟩
theorem RtRel.far {n big i r : Nat} (hn : n ≠ 0) (h : bl big ≤ n * i) : big < (r + 2 ^ i) ^ n := by
 have h1 := lt_pow_bl big
 have h2 : 2 ^ bl big ≤ 2 ^ (n * i) := Nat.pow_le_pow_right (by omega) h
 have h3 : 2 ^ (n * i) = (2 ^ i) ^ n := by rw [Nat.mul_comm, Nat.pow_mul]
 have h4 : (2 ^ i) ^ n ≤ (r + 2 ^ i) ^ n := Nat.pow_le_pow_left (by omega) n
 omega
theorem RtRel.done {n big r : Nat} (h : RtRel n big 0 r) : r ^ n ≤ big ∧ big < (r + 1) ^ n := ⟨h.le, by have := h.gt; rwa [Nat.pow_zero] at this⟩
theorem RtRel.or_ {n big i r : Nat} (h : RtRel n big (i + 1) r) : r ||| 2 ^ i = r + 2 ^ i ∧ r + 2 ^ i < 9223372036854775808 := by
 have hl := h.lt
 have hp := two_pow_pos i
 rw [Nat.pow_succ] at hl
 refine ⟨?_, by omega⟩
 have hd := Nat.div_add_mod r (2 ^ (i + 1))
 rw [h.low, Nat.add_zero] at hd
 have := Nat.two_pow_add_eq_or_of_lt (i := i + 1) (b := 2 ^ i) (Nat.pow_lt_pow_right (by omega) (by omega)) (r / 2 ^ (i + 1))
 rw [hd] at this
 exact this.symm
end Go.Proofs.YtbcaggdgoidlaaaGreatDoor.Rn
