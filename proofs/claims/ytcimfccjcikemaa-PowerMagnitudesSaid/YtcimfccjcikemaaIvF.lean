/-
  The contracts of the program's intervals, sixth part: the greater and the lesser of two floats; equality with the empty interval. Conditions: those that each theorem names.
-/
import Derived.Test.YtcimfccjcikemaaIvE
import Derived.Test.YtcimfccjcikemaaIvD
namespace Go.Proofs.Ytcimfccjcikemaa
open Go.RowKit Nm Rn
set_option maxRecDepth 100000
set_option linter.unusedVariables false
set_option linter.unusedSimpArgs false

theorem lt_key {x y : Nat} (nx : isNaN x = false) (ny : isNaN y = false) : ltB x y = decide (key x < key y) := by unfold ltB; rw [nx, ny]; rfl
theorem eq_key {x y : Nat} (nx : isNaN x = false) (ny : isNaN y = false) : eqB x y = decide (key x = key y) := by unfold eqB; rw [nx, ny]; rfl
theorem le_key {x y : Nat} (nx : isNaN x = false) (ny : isNaN y = false) : leB x y = decide (key x ≤ key y) := by unfold leB; rw [nx, ny]; rfl

theorem max_run {x y : Nat} (hx : x < 18446744073709551616) (hy : y < 18446744073709551616) (nx : isNaN x = false) (ny : isNaN y = false) (h : key x = key y → x = y) (P : Program) (w : World) (ats : Array TypeId) (ty : TypeId) :
    (Builtin.max_ ats ty #[.float .f64 x, .float .f64 y]).run P w = .ok (.float .f64 (if key x < key y then y else x)) w := by
  have h1 := fo_lt hx hy
  have h2 := fo_eq hx hy
  have h3 := fo_gt hx hy
  rw [lt_key nx ny] at h1
  rw [eq_key nx ny] at h2
  rw [lt_key ny nx] at h3
  have hm : (Builtin.max2 (.float .f64 x) (.float .f64 y)).run P w = .ok (.float .f64 (if key x < key y then y else x)) w := by
    rcases Int.lt_trichotomy (key x) (key y) with g | g | g
    · rw [decide_eq_true g] at h1
      rw [if_pos g]
      have e := eq_of_beq h1
      simp only [Builtin.max2, Builtin.min2, e]; rfl
    · rw [decide_eq_true g] at h2
      have e := eq_of_beq h2
      have := h g
      subst this
      rw [if_neg (by omega)]
      simp only [Builtin.max2, Builtin.min2, e, ite_self]; rfl
    · rw [decide_eq_true g] at h3
      rw [if_neg (by omega)]
      have e := eq_of_beq h3
      simp only [Builtin.max2, Builtin.min2, e]; rfl
  unfold Builtin.max_
  simp only [List.foldlM]
  simpa using hm
theorem min_run {x y : Nat} (hx : x < 18446744073709551616) (hy : y < 18446744073709551616) (nx : isNaN x = false) (ny : isNaN y = false) (h : key x = key y → x = y) (P : Program) (w : World) (ats : Array TypeId) (ty : TypeId) :
    (Builtin.min_ ats ty #[.float .f64 x, .float .f64 y]).run P w = .ok (.float .f64 (if key y < key x then y else x)) w := by
  have h1 := fo_lt hx hy
  have h2 := fo_eq hx hy
  have h3 := fo_gt hx hy
  rw [lt_key nx ny] at h1
  rw [eq_key nx ny] at h2
  rw [lt_key ny nx] at h3
  have hm : (Builtin.min2 (.float .f64 x) (.float .f64 y)).run P w = .ok (.float .f64 (if key y < key x then y else x)) w := by
    rcases Int.lt_trichotomy (key x) (key y) with g | g | g
    · rw [decide_eq_true g] at h1
      rw [if_neg (by omega)]
      have e := eq_of_beq h1
      simp only [Builtin.max2, Builtin.min2, e]; rfl
    · rw [decide_eq_true g] at h2
      have e := eq_of_beq h2
      have := h g
      subst this
      rw [if_neg (by omega)]
      simp only [Builtin.max2, Builtin.min2, e, ite_self]; rfl
    · rw [decide_eq_true g] at h3
      rw [if_pos g]
      have e := eq_of_beq h3
      simp only [Builtin.max2, Builtin.min2, e]; rfl
  unfold Builtin.min_
  simp only [List.foldlM]
  simpa using hm
end Go.Proofs.Ytcimfccjcikemaa
