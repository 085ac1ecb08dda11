/-
  Plain: what the program's steps of an interval answer is the document's. Conditions: those that each theorem names.
-/
import Derived.Test.YtadijoeeaineaaaDoorP30
import Derived.Test.YtadijoeeaineaaaDoorP22
set_option linter.unusedVariables false
set_option linter.unusedSimpArgs false
set_option maxRecDepth 100000
namespace Go.Proofs.YtadijoeeaineaaaDoor
open Nm Rn

/-- What a step makes of a pattern. -/
noncomputable def stF (k x : Nat) : Nat := if k = 0 then sgP x else stP k x
noncomputable def piLo (k x1 x2 : Nat) : Nat := if emp x1 x2 then infR else rdLo (stF k (rdLo x1 x2)) (stF k (rdHi x1 x2))
noncomputable def piHi (k x1 x2 : Nat) : Nat := if emp x1 x2 then minf else rdHi (stF k (rdLo x1 x2)) (stF k (rdHi x1 x2))

theorem stQ_mono (k : Nat) (s : Bool) {T T' K : Nat} (hK : 0 < K) (h : T ≤ T') : stQ k s T K ≤ stQ k s T' K := by
  have hq := Nat.div_le_div_right (c := K) h
  have h1 := Nat.div_add_mod T K
  have h2 := Nat.div_add_mod T' K
  rcases Nat.lt_or_eq_of_le hq with g | g
  · have a := Bool.toNat_le (stMo k s T K)
    unfold stQ
    omega
  · unfold stQ
    rw [g] at h1 ⊢
    have hr : T % K ≤ T' % K := by omega
    have : (stMo k s T K).toNat ≤ (stMo k s T' K).toNat := by
      have himp : stMo k s T K = true → stMo k s T' K = true := by
        unfold stMo
        rw [g]
        split
        · cases s
          · simp
          · simp; omega
        · split
          · cases s
            · simp; omega
            · simp
          · split
            · simp
            · simp only [Bool.or_eq_true, Bool.and_eq_true, decide_eq_true_eq]
              intro hh
              rcases hh with hh | ⟨hh, hh2⟩
              · left; omega
              · rcases Nat.lt_or_eq_of_le hr with c | c
                · left; omega
                · right; exact ⟨by omega, hh2⟩
      cases hc : stMo k s T K
      · simp
      · rw [himp hc]; exact Nat.le_refl _
    omega
theorem stR_mono (k : Nat) (s : Bool) {f g : Nat} (h : f ≤ g) : stR k s f ≤ stR k s g := by
  unfold stR
  exact rung_mono (Nat.mul_le_mul_right _ (stQ_mono k s K74_pos (rv_le h)))

/-- The magnitude that is answered. -/
noncomputable def stM' (k : Nat) (s : Bool) (m : Nat) : Nat := if m < infR then stR k s m else m
theorem stM_mono (k : Nat) (s : Bool) {f g : Nat} (hg : g ≤ infR) (h : f ≤ g) : stM' k s f ≤ stM' k s g := by
  unfold stM'
  split
  · rename_i h1
    split
    · exact stR_mono k s h
    · have := (stR_spec h1 k s).1
      omega
  · rename_i h1
    rw [if_neg (by omega)]
    exact h
theorem stM_lt (k : Nat) (s : Bool) {f : Nat} (h : f < infR) : stM' k s f < infR := by
  unfold stM'
  rw [if_pos h]
  exact (stR_spec h k s).1
theorem stP_word {k x : Nat} (hx : x < 18446744073709551616) (hn : isNaN x = false) : stP k x = Ieee.double.word (sg x) (stM' k (sg x) (mg x)) ∧ stM' k (sg x) (mg x) ≤ infR := by
  unfold isNaN at hn
  have hn' := of_decide_eq_false hn
  unfold stP stM'
  by_cases h : mg x < infR
  · rw [if_pos h, if_pos h]
    exact ⟨rfl, Nat.le_of_lt (stR_spec h k (sg x)).1⟩
  · rw [if_neg h, if_neg h]
    refine ⟨?_, by omega⟩
    rw [word_eq]
    exact split_pat hx
theorem key_word {s : Bool} {r : Nat} (hr : r ≤ infR) : key (Ieee.double.word s r) = (if s then -(r : Int) else (r : Int)) ∧ isNaN (Ieee.double.word s r) = false ∧ Ieee.double.word s r < 18446744073709551616 := by
  have hi := infR_val
  have h1 : r < 9223372036854775808 := by omega
  refine ⟨?_, ?_, word_lt h1⟩
  · unfold key
    rw [sg_word h1, mg_word h1]
  · unfold isNaN
    rw [mg_word h1]
    exact decide_eq_false (by omega)
theorem pl_word {s : Bool} {r : Nat} (hr : r ≤ infR) : pl (Ieee.double.word s r) = pat s r := by
  have hi := infR_val
  cases s
  · show (if r = 9223372036854775808 then 0 else r) = (if r = 0 then 0 else r)
    rw [if_neg (by omega)]
    split <;> omega
  · show (if 9223372036854775808 + r = 9223372036854775808 then 0 else 9223372036854775808 + r) = (if r = 0 then 0 else 9223372036854775808 + r)
    by_cases h0 : r = 0
    · rw [if_pos h0, if_pos (by omega)]
    · rw [if_neg h0, if_neg (by omega)]
theorem one_rv : rv 4607182418800017408 = 1 * K74 := by
  obtain ⟨c, hc, hK⟩ : ∃ c : Nat, c = 1074 ∧ K74 = 2 ^ c := ⟨1074, rfl, K74_def⟩
  rw [show (4607182418800017408 : Nat) = (c - 52) * 4503599627370496 + 4503599627370496 by omega, rv_form (c - 52) 4503599627370496 (by omega) (fun _ => Nat.le_refl _), hK, show (4503599627370496 : Nat) = 2 ^ 52 by decide, ← Nat.pow_add, Nat.one_mul]
  congr 1
  omega
theorem rnd_one (d : Int) (s : Bool) : rnd d s (zr 1 1) = pat s 4607182418800017408 := by
  unfold rnd
  rw [zr_whole, ← one_rv, rr_exact (by decide)]
theorem key_sg {x : Nat} : (key x < 0 ↔ sg x = true ∧ mg x ≠ 0) ∧ (0 < key x ↔ sg x = false ∧ mg x ≠ 0) := by
  unfold key
  cases sg x
  · simp; omega
  · simp; omega
theorem sgP_pl {x : Nat} : sgP x = (if mg x = 0 then 0 else pat (sg x) 4607182418800017408) := by
  obtain ⟨k1, k2⟩ := key_sg (x := x)
  unfold sgP
  by_cases h0 : mg x = 0
  · rw [if_neg (fun h => (k1.1 h).2 h0), if_neg (fun h => (k2.1 h).2 h0), if_pos h0]
  · rw [if_neg h0]
    cases hs : sg x
    · rw [if_neg (fun h => by have := (k1.1 h).1; rw [hs] at this; cases this), if_pos (k2.2 ⟨hs, h0⟩)]
      rfl
    · rw [if_pos (k1.2 ⟨hs, h0⟩)]
      rfl
theorem key_one (s : Bool) : key (pat s 4607182418800017408) = (if s then -4607182418800017408 else 4607182418800017408) ∧ isNaN (pat s 4607182418800017408) = false ∧ pat s 4607182418800017408 < 18446744073709551616 ∧ pl (pat s 4607182418800017408) = pat s 4607182418800017408 := by
  cases s <;> decide

/-- A step's answer as a key, and what it is as an end. -/
theorem stF_facts (k : Nat) {x : Nat} (hx : x < 18446744073709551616) (hn : isNaN x = false) :
    stF k x < 18446744073709551616 ∧ isNaN (stF k x) = false ∧
      key (stF k x) = (if k = 0 then (if mg x = 0 then 0 else if sg x then -4607182418800017408 else 4607182418800017408) else if sg x then -(stM' k (sg x) (mg x) : Int) else (stM' k (sg x) (mg x) : Int)) ∧
      pl (stF k x) = (if k = 0 then (if mg x = 0 then 0 else pat (sg x) 4607182418800017408) else pat (sg x) (stM' k (sg x) (mg x))) := by
  unfold stF
  by_cases hk : k = 0
  · rw [if_pos hk, if_pos hk, if_pos hk, sgP_pl]
    obtain ⟨a1, a2, a3, a4⟩ := key_one (sg x)
    by_cases h0 : mg x = 0
    · rw [if_pos h0, if_pos h0]; decide
    · rw [if_neg h0, if_neg h0]; exact ⟨a3, a2, a1, a4⟩
  · rw [if_neg hk, if_neg hk, if_neg hk]
    obtain ⟨e, hle⟩ := stP_word (k := k) hx hn
    rw [e]
    obtain ⟨a1, a2, a3⟩ := key_word (s := sg x) hle
    exact ⟨a3, a2, a1, pl_word hle⟩
theorem stF_mono (k : Nat) {x y : Nat} (hx : x < 18446744073709551616) (hy : y < 18446744073709551616) (nx : isNaN x = false) (ny : isNaN y = false) (h : key x ≤ key y) : key (stF k x) ≤ key (stF k y) := by
  rw [(stF_facts k hx nx).2.2.1, (stF_facts k hy ny).2.2.1]
  have mx : mg x ≤ infR := by unfold isNaN at nx; have := of_decide_eq_false nx; omega
  have my : mg y ≤ infR := by unfold isNaN at ny; have := of_decide_eq_false ny; omega
  unfold key at h
  by_cases hk : k = 0
  · rw [if_pos hk, if_pos hk]
    cases hs : sg x <;> cases ht : sg y <;> rw [hs, ht] at h <;> simp only [Bool.false_eq_true, if_false, if_true] at h ⊢ <;> repeat' split
    all_goals omega
  · rw [if_neg hk, if_neg hk]
    cases hs : sg x <;> cases ht : sg y <;> rw [hs, ht] at h <;> simp only [Bool.false_eq_true, if_false, if_true] at h ⊢
    · have := stM_mono k false my (show mg x ≤ mg y by omega)
      omega
    · have e1 : mg x = 0 := by omega
      have e2 : mg y = 0 := by omega
      have z : ∀ s, stM' k s 0 = 0 := fun s => by
        unfold stM'
        rw [if_pos (by decide)]
        unfold stR
        rw [rv_zero]
        have hq : stQ k s 0 K74 = 0 := by
          have hK := K74_pos
          unfold stQ stMo
          rw [Nat.zero_div, Nat.zero_mod]
          have c1 : decide (K74 < 2 * 0) = false := decide_eq_false (by omega)
          have c2 : decide (2 * 0 = K74) = false := decide_eq_false (by omega)
          rw [c1, c2]
          simp
        rw [hq, Nat.zero_mul]
        exact rung_zero
      rw [e1, e2, z, z]
      simp
    · omega
    · have := stM_mono k true mx (show mg y ≤ mg x by omega)
      omega

theorem rdLo_nz (x1 x2 : Nat) : rdLo x1 x2 ≠ 9223372036854775808 ∧ rdHi x1 x2 ≠ 9223372036854775808 := by
  have h1 := infR_val
  have h2 := minf_val
  have hp : ∀ b, pl b ≠ 9223372036854775808 := fun b => by unfold pl; split <;> omega
  unfold rdLo rdHi
  constructor
  · split
    · exact hp _
    · omega
  · split
    · exact hp _
    · omega
end Go.Proofs.YtadijoeeaineaaaDoor
