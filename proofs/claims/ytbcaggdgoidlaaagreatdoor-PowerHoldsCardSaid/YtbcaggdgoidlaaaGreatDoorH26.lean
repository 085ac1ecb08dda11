/-
 Plain: Newton's steps towards the n-th root of a natural, from above. Conditions: those that each theorem names.
-/
import Derived.Test.YtbcaggdgoidlaaaGreatDoorH25
set_option linter.unusedVariables false
set_option linter.unusedSimpArgs false
namespace Go.Proofs.YtbcaggdgoidlaaaGreatDoor.Rn
open Nm
theorem swap_le (x z X Z : Nat) (h : (x ≤ z ∧ X ≤ Z) ∨ (z ≤ x ∧ Z ≤ X)) : x * Z + z * X ≤ z * Z + x * X := by
 rcases h with ⟨h1, h2⟩ | ⟨h1, h2⟩
 · obtain ⟨a, rfl⟩ : ∃ a, z = x + a := ⟨z - x, by omega⟩
   obtain ⟨b, rfl⟩ : ∃ b, Z = X + b := ⟨Z - X, by omega⟩
   simp only [Nat.mul_add, Nat.add_mul]
   omega
 · obtain ⟨a, rfl⟩ : ∃ a, x = z + a := ⟨x - z, by omega⟩
   obtain ⟨b, rfl⟩ : ∃ b, X = Z + b := ⟨X - Z, by omega⟩
   simp only [Nat.mul_add, Nat.add_mul]
   omega
theorem means (x z : Nat) : ∀ n : Nat, (n + 1) * (z * x ^ n) ≤ z ^ (n + 1) + n * x ^ (n + 1)
 | 0 => by simp
 | n + 1 => by
   have ih := means x z n
   have h1 : x * ((n + 1) * (z * x ^ n)) ≤ x * (z ^ (n + 1) + n * x ^ (n + 1)) := Nat.mul_le_mul_left x ih
   have e1 : x * ((n + 1) * (z * x ^ n)) = (n + 1) * (z * x ^ (n + 1)) := by
     rw [Nat.pow_succ]; simp only [Nat.mul_assoc, Nat.mul_comm, Nat.mul_left_comm]
   have e2 : x * (z ^ (n + 1) + n * x ^ (n + 1)) = x * z ^ (n + 1) + n * x ^ (n + 1 + 1) := by
     rw [Nat.mul_add, Nat.pow_succ x (n + 1)]; congr 1; simp only [Nat.mul_assoc, Nat.mul_comm, Nat.mul_left_comm]
   have e3 : (n + 1 + 1) * (z * x ^ (n + 1)) = (n + 1) * (z * x ^ (n + 1)) + z * x ^ (n + 1) := by rw [Nat.add_mul (n + 1) 1, Nat.one_mul]
   have e4 : (n + 1) * x ^ (n + 1 + 1) = n * x ^ (n + 1 + 1) + x * x ^ (n + 1) := by rw [Nat.add_mul, Nat.one_mul, Nat.pow_succ' (n := n + 1)]
   have h2 := swap_le x z (x ^ (n + 1)) (z ^ (n + 1)) (by
     rcases Nat.le_total x z with h | h
     · exact .inl ⟨h, Nat.pow_le_pow_left h _⟩
     · exact .inr ⟨h, Nat.pow_le_pow_left h _⟩)
   rw [e3, e4, Nat.pow_succ' (n := n + 1) (m := z)] 
   rw [e1, e2] at h1
   omega
structure WhRel (V n X x : Nat) : Prop where
 top : ∀ z, z ^ n ≤ V → z ≤ x
 x1 : 1 ≤ x
 xX : x ≤ X
def newt (V n x : Nat) : Nat := (x * (n - 1) + V / x ^ (n - 1)) / n
theorem newt_top {V n x z : Nat} (hn : 1 ≤ n) (hx : 1 ≤ x) (hz : z ^ n ≤ V) : z ≤ newt V n x := by
 obtain ⟨m, rfl⟩ : ∃ m, n = m + 1 := ⟨n - 1, by omega⟩
 unfold newt
 rw [Nat.add_sub_cancel, Nat.le_div_iff_mul_le (by omega)]
 have hP : 0 < x ^ m := Nat.pow_pos (by omega)
 have hm := means x z m
 rcases Nat.lt_or_ge (x * m) (z * (m + 1)) with h | h
 · obtain ⟨d, hd⟩ : ∃ d, z * (m + 1) = x * m + d := ⟨z * (m + 1) - x * m, by omega⟩
   have e1 : (m + 1) * (z * x ^ m) = x * m * x ^ m + d * x ^ m := by
     rw [← Nat.mul_assoc, Nat.mul_comm (m + 1) z, hd, Nat.add_mul]
   have e2 : m * x ^ (m + 1) = x * m * x ^ m := by rw [Nat.pow_succ']; simp only [Nat.mul_assoc, Nat.mul_comm, Nat.mul_left_comm]
   rw [e1, e2] at hm
   have h3 : d * x ^ m ≤ V := by omega
   have h4 : d ≤ V / x ^ m := (Nat.le_div_iff_mul_le hP).2 h3
   omega
 · exact Nat.le_trans h (Nat.le_add_right _ _)
theorem WhRel.next {V n X x : Nat} (h : WhRel V n X x) (hn : 1 ≤ n) (hV : 1 ≤ V) (hlt : newt V n x < x) : WhRel V n X (newt V n x) :=
 ⟨fun z hz => newt_top hn h.x1 hz, newt_top hn h.x1 (by rw [Nat.one_pow]; exact hV), by have := h.xX; omega⟩
theorem WhRel.done {V n X x : Nat} (h : WhRel V n X x) (hn : 1 ≤ n) (hle : x ≤ newt V n x) : x ^ n ≤ V ∧ V < (x + 1) ^ n := by
 refine ⟨?_, ?_⟩
 · obtain ⟨m, rfl⟩ : ∃ m, n = m + 1 := ⟨n - 1, by omega⟩
   unfold newt at hle
   rw [Nat.add_sub_cancel, Nat.le_div_iff_mul_le (by omega)] at hle
   have hP : 0 < x ^ m := Nat.pow_pos (by have := h.x1; omega)
   have h1 : x ≤ V / x ^ m := by rw [Nat.mul_add, Nat.mul_one] at hle; omega
   rw [Nat.le_div_iff_mul_le hP] at h1
   rw [Nat.pow_succ']
   exact h1
 · rcases Nat.lt_or_ge V ((x + 1) ^ n) with h1 | h1
   · exact h1
   · have := h.top _ h1
     omega
theorem WhRel.of {V n x : Nat} (hn : n ≠ 0) (hV : 1 ≤ V) (h : V < (x + 1) ^ n) : WhRel V n x x := by
 have ht : ∀ z, z ^ n ≤ V → z ≤ x := fun z hz => by
   rcases Nat.lt_or_ge x z with h1 | h1
   · have := Nat.pow_le_pow_left (show x + 1 ≤ z by omega) n
     omega
   · exact h1
 exact ⟨ht, ht 1 (by rw [Nat.one_pow]; exact hV), Nat.le_refl _⟩
end Go.Proofs.YtbcaggdgoidlaaaGreatDoor.Rn

namespace Go.Proofs.YtbcaggdgoidlaaaGreatDoor.Rn
open Nm
end Go.Proofs.YtbcaggdgoidlaaaGreatDoor.Rn

namespace Go.Proofs.YtbcaggdgoidlaaaGreatDoor.Rn
open Nm
end Go.Proofs.YtbcaggdgoidlaaaGreatDoor.Rn

namespace Go.Proofs.YtbcaggdgoidlaaaGreatDoor.Rn
open Nm
end Go.Proofs.YtbcaggdgoidlaaaGreatDoor.Rn
