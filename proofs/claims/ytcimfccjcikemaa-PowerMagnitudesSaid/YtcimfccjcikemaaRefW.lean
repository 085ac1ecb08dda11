/-
  Plain: the bounds of patterns: how they stand to each other, signs, magnitudes, the least interval between two. Conditions: those that each theorem names.
-/
import Derived.Test.YtcimfccjcikemaaRefT
import Derived.Test.YtcimfccjcikemaaRefV
namespace Go.Proofs.Ytcimfccjcikemaa
open Go.RowKit Nm Rn
set_option linter.unusedVariables false
set_option linter.unusedSimpArgs false

theorem key_fin {x : Nat} (h : mg x < infR) : -9218868437227405312 < key x ∧ key x < 9218868437227405312 := by
  have e := infR_val
  unfold key
  split <;> omega
theorem bnd_cases {x : Nat} (hx : x < 18446744073709551616) (hn : isNaN x = false) :
    (x = infR ∧ bI x = 1 ∧ key x = 9218868437227405312) ∨ (x = minf ∧ bI x = -1 ∧ key x = -9218868437227405312) ∨
    (bI x = 0 ∧ bNeg x = (sg x && decide (mg x ≠ 0)) ∧ bN x = fbN x ∧ bD x = fbD x ∧ -9218868437227405312 < key x ∧ key x < 9218868437227405312 ∧ mg x < infR ∧ x ≠ infR ∧ x ≠ minf) := by
  by_cases h1 : x = infR
  · subst h1; left; exact ⟨rfl, by unfold bI; rw [if_pos rfl], key_inf⟩
  · by_cases h2 : x = minf
    · subst h2; right; left; exact ⟨rfl, by unfold bI; rw [if_neg h1, if_pos rfl], key_minf⟩
    · right; right
      have hf := mg_fin hx hn h1 h2
      have hk := key_fin hf
      exact ⟨by unfold bI; rw [if_neg h1, if_neg h2], by unfold bNeg; rw [if_neg h1, if_neg h2], by unfold bN; rw [if_neg h1, if_neg h2], by unfold bD; rw [if_neg h1, if_neg h2], hk.1, hk.2, hf, h1, h2⟩

theorem eC_bits {x y : Nat} (hx : x < 18446744073709551616) (hy : y < 18446744073709551616) (nx : isNaN x = false) (ny : isNaN y = false) :
    eC (bI x) (bNeg x) (bN x) (bD x) (bI y) (bNeg y) (bN y) (bD y) = cmpI (key x) (key y) := by
  have hc := rc_bits x y
  unfold eC
  rcases bnd_cases hx nx with h | h | h <;> rcases bnd_cases hy ny with g | g | g
  case inr.inr.inr.inr =>
    rw [h.1, g.1, if_neg (by omega), if_neg (by omega), if_pos rfl, h.2.1, h.2.2.1, h.2.2.2.1, g.2.1, g.2.2.1, g.2.2.2.1, hc]
  all_goals
    unfold cmpI
    repeat' split
    all_goals omega

theorem eS_bits {x : Nat} (hx : x < 18446744073709551616) (nx : isNaN x = false) : eS (bI x) (bNeg x) (bN x) = cmpI (key x) 0 := by
  unfold eS
  rcases bnd_cases hx nx with h | h | h
  · rw [h.2.1, h.2.2]; rfl
  · rw [h.2.1, h.2.2]; rfl
  · rw [h.1, if_pos rfl, h.2.1, h.2.2.1]
    unfold sgnZ
    by_cases h0 : mg x = 0
    · rw [if_pos ((fbN_zero x).2 h0)]
      have : key x = 0 := by unfold key; rw [h0]; split <;> rfl
      rw [this]; rfl
    · rw [if_neg (fun e => h0 ((fbN_zero x).1 e)), decide_eq_true h0, Bool.and_true]
      cases hs : sg x
      · have hk : key x = (mg x : Int) := by unfold key; rw [hs]; rfl
        rw [hk]; unfold cmpI
        show (1 : Int) = _
        rw [if_neg (by omega), if_pos (by omega)]
      · have hk : key x = -(mg x : Int) := by unfold key; rw [hs]; rfl
        rw [hk]; unfold cmpI
        show (-1 : Int) = _
        rw [if_pos (by omega)]

/-- A pattern's magnitude. -/
def mx (x : Nat) : Nat := if key x < 0 then mg x else x
theorem mx_neg {x : Nat} (hx : x < 18446744073709551616) (nx : isNaN x = false) (hk : key x < 0) :
    bI (mg x) = -(bI x) ∧ bNeg (mg x) = (!bNeg x && decide (bN x ≠ 0)) ∧ bN (mg x) = bN x ∧ bD (mg x) = bD x := by
  have i1 := infR_val
  have i2 := minf_val
  rcases bnd_cases hx nx with h | h | h
  · exfalso; omega
  · have e : mg x = infR := by rw [h.1]; rfl
    rw [e, h.1]
    have n1 : minf ≠ infR := by omega
    refine ⟨?_, ?_, ?_, ?_⟩
    · unfold bI; rw [if_pos rfl, if_neg n1, if_pos rfl]; rfl
    · have : bN minf = 0 := by unfold bN; rw [if_neg n1, if_pos rfl]; exact fracN_zero 1 0
      rw [this]
      unfold bNeg; rw [if_pos rfl, if_neg n1, if_pos rfl]; rfl
    · unfold bN; rw [if_pos rfl, if_neg n1, if_pos rfl]
    · unfold bD; rw [if_pos rfl, if_neg n1, if_pos rfl]
  · obtain ⟨h1, h2, h3, h4, _, _, hf, _, _⟩ := h
    have hm : mg x < 9223372036854775808 := by unfold mg; omega
    have hs : sg x = true := by
      revert hk; unfold key; cases sg x
      · intro hk; rw [if_neg (by simp)] at hk; omega
      · intro _; rfl
    have h0 : mg x ≠ 0 := by
      intro h0; revert hk; unfold key; rw [h0]; split <;> omega
    have e2 : mg (mg x) = mg x := by unfold mg; omega
    have e3 : sg (mg x) = false := decide_eq_false (by omega)
    have eN : fbN (mg x) = fbN x ∧ fbD (mg x) = fbD x := by
      have e1 : mg x % 4503599627370496 = x % 4503599627370496 := by unfold mg; omega
      have e2 : mg x / 4503599627370496 % 2048 = x / 4503599627370496 % 2048 := by unfold mg; omega
      unfold fbN fbD fbSig fbExp
      rw [e1, e2]
      exact ⟨rfl, rfl⟩
    have n1 : mg x ≠ infR := by omega
    have n2 : mg x ≠ minf := by omega
    rw [h1, h2, h3, h4]
    refine ⟨?_, ?_, ?_, ?_⟩
    · unfold bI; rw [if_neg n1, if_neg n2]; rfl
    · unfold bNeg; rw [if_neg n1, if_neg n2, e3, hs, decide_eq_true h0]; rfl
    · unfold bN; rw [if_neg n1, if_neg n2]; exact eN.1
    · unfold bD; rw [if_neg n1, if_neg n2]; exact eN.2

theorem mx_lt {x : Nat} (hx : x < 18446744073709551616) : mx x < 18446744073709551616 := by unfold mx mg; split <;> omega
theorem mx_nan {x : Nat} (hx : isNaN x = false) : isNaN (mx x) = false := by
  unfold mx; split
  · have : mg (mg x) = mg x := by unfold mg; omega
    unfold isNaN at hx ⊢; rw [this]; exact hx
  · exact hx
theorem mx_key {x : Nat} : key (mx x) = if key x < 0 then -key x else key x := by
  unfold mx
  split
  · rename_i h
    have hm : mg x < 9223372036854775808 := by unfold mg; omega
    have e2 : mg (mg x) = mg x := by unfold mg; omega
    have e3 : sg (mg x) = false := decide_eq_false (by omega)
    unfold key at h ⊢
    rw [e2, e3]
    revert h
    cases sg x
    · intro h; rw [if_neg (by simp)] at h; omega
    · intro _; simp
  · rfl

theorem b_zero : bI 0 = 0 ∧ bNeg 0 = false ∧ bN 0 = fracN 0 1 0 ∧ bD 0 = fracD 0 1 0 := ⟨rfl, rfl, rfl, rfl⟩

/-- The least interval between the bounds of two patterns. -/
theorem ls_lo {x : Nat} (hx : x < 18446744073709551616) (nx : isNaN x = false) (h : x ≠ infR) : lsLo (bI x) (bNeg x) (bN x) (bD x) = pl x := by
  unfold lsLo
  rcases bnd_cases hx nx with g | g | g
  · exact absurd g.1 h
  · rw [g.2.1, if_neg (by omega), g.1]; rfl
  · rw [g.1, if_pos rfl, g.2.1, g.2.2.1, g.2.2.2.1]; exact rnd_bits (-1) hx g.2.2.2.2.2.2.1
theorem ls_hi {x : Nat} (hx : x < 18446744073709551616) (nx : isNaN x = false) (h : x ≠ minf) : lsHi (bI x) (bNeg x) (bN x) (bD x) = pl x := by
  unfold lsHi
  rcases bnd_cases hx nx with g | g | g
  · rw [g.2.1, if_neg (by omega), g.1]; rfl
  · exact absurd g.1 h
  · rw [g.1, if_pos rfl, g.2.1, g.2.2.1, g.2.2.2.1]; exact rnd_bits 1 hx g.2.2.2.2.2.2.1
end Go.Proofs.Ytcimfccjcikemaa
