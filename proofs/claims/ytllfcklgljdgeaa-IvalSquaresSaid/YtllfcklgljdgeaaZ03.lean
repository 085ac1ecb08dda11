/-
  Patterns of binary64 as signed numbers, and what the model's sum, product and order make of them.
  Plain arithmetic over the model's own words for floats: no program is in sight. Conditions: none but those that each theorem names.
-/
import Derived.Test.YtllfcklgljdgeaaZ02
import Derived.Laws.Externs
import Derived.Laws.DeepNot64
import Derived.StillTailTactics
import Derived.Deep.QuietTactic
import Derived.BigQuiet
set_option linter.unusedVariables false
set_option linter.unusedSimpArgs false
namespace Go.Proofs.Ytllfcklgljdgeaa.Rn

/-- The sign's bit. -/
def sg (b : Nat) : Bool := decide (9223372036854775808 ≤ b)
/-- The rung: the pattern without its sign. -/
def mg (b : Nat) : Nat := b % 9223372036854775808
/-- The number, in units of 2^-1074. -/
def sv (b : Nat) : Int := if sg b then -(rv (mg b) : Int) else (rv (mg b) : Int)
/-- Patterns in their order. -/
def key (b : Nat) : Int := if sg b then -(mg b : Int) else (mg b : Int)
def isNaN (b : Nat) : Bool := decide (infR < mg b)
def isInf (b : Nat) : Bool := decide (mg b = infR)
def isFin (b : Nat) : Bool := decide (mg b < infR)

theorem infR_val : infR = 9218868437227405312 := rfl

theorem mg_lt (b : Nat) : mg b < 9223372036854775808 := Nat.mod_lt _ (by omega)

theorem split_pat {b : Nat} (hb : b < 18446744073709551616) : b = if sg b then 9223372036854775808 + mg b else mg b := by
  unfold sg mg
  split <;> rename_i h <;> simp at h <;> omega

theorem word_eq (neg : Bool) (r : Nat) : Ieee.double.word neg r = if neg then 9223372036854775808 + r else r := rfl

theorem sg_word {neg : Bool} {r : Nat} (hr : r < 9223372036854775808) : sg (Ieee.double.word neg r) = neg := by
  rw [word_eq]; unfold sg
  cases neg <;> simp <;> omega

theorem mg_word {neg : Bool} {r : Nat} (hr : r < 9223372036854775808) : mg (Ieee.double.word neg r) = r := by
  rw [word_eq]; unfold mg
  cases neg <;> simp <;> omega

theorem word_lt {neg : Bool} {r : Nat} (hr : r < 9223372036854775808) : Ieee.double.word neg r < 18446744073709551616 := by
  rw [word_eq]
  cases neg <;> simp <;> omega

theorem rr_le (d : Int) (neg : Bool) (Z : Nat) : rr d neg Z ≤ infR := by
  unfold rr infR
  split <;> omega

theorem rr_lt (d : Int) (neg : Bool) (Z : Nat) : rr d neg Z < 9223372036854775808 := by
  have := rr_le d neg Z
  unfold infR at this
  omega

theorem rr_near (neg neg' : Bool) (Z : Nat) : rr 0 neg Z = rr 0 neg' Z := by
  simp [rr, away]

/-- The rung nearest to the number that Z tells of. -/
def near (Z : Nat) : Nat := rr 0 false Z
theorem near_eq (neg : Bool) (Z : Nat) : rr 0 neg Z = near Z := rr_near _ _ _

theorem sg_bit {b : Nat} (hb : b < 18446744073709551616) : (b / Ieee.double.signWeight % 2 == 1) = sg b := by
  have e : Ieee.double.signWeight = 9223372036854775808 := rfl
  rw [e, Bool.eq_iff_iff]
  unfold sg
  simp
  omega

theorem read_fin {b : Nat} (hb : b < 18446744073709551616) (h : mg b < infR) :
    ∃ m e, Ieee.double.read b = .number (sg b) m e ∧ -1074 ≤ e ∧ m * 2 ^ (e + 1074).toNat = rv (mg b) := by
  have e : Ieee.double.signWeight = 9223372036854775808 := rfl
  have e1 : Ieee.double.binade = 4503599627370496 := rfl
  have e2 : Ieee.double.infRung = 9218868437227405312 := rfl
  have e3 : Ieee.double.leastPlace = -1074 := rfl
  unfold Ieee.Format.read
  simp only [sg_bit hb]
  rw [e, e1, e2, e3]
  have hm : b % 9223372036854775808 = mg b := rfl
  rw [hm]
  unfold infR at h
  generalize mg b = r at *
  by_cases h1 : r < 4503599627370496
  · rw [if_pos h1]
    exact ⟨r, -1074, rfl, by omega, by simp [rv, h1]⟩
  · rw [if_neg h1, if_pos h]
    refine ⟨_, _, rfl, by omega, ?_⟩
    unfold rv
    rw [if_neg h1]
    congr 2
    omega

theorem read_inf {b : Nat} (hb : b < 18446744073709551616) (h : mg b = infR) : Ieee.double.read b = .infinity (sg b) := by
  have e : Ieee.double.signWeight = 9223372036854775808 := rfl
  have e1 : Ieee.double.binade = 4503599627370496 := rfl
  have e2 : Ieee.double.infRung = 9218868437227405312 := rfl
  unfold Ieee.Format.read
  simp only [sg_bit hb]
  rw [e, e1, e2]
  have hm : b % 9223372036854775808 = mg b := rfl
  rw [hm, h]
  rfl

theorem read_nan {b : Nat} (hb : b < 18446744073709551616) (h : infR < mg b) : Ieee.double.read b = .nan (sg b) (mg b - infR) := by
  have e : Ieee.double.signWeight = 9223372036854775808 := rfl
  have e1 : Ieee.double.binade = 4503599627370496 := rfl
  have e2 : Ieee.double.infRung = 9218868437227405312 := rfl
  unfold Ieee.Format.read
  simp only [sg_bit hb]
  rw [e, e1, e2]
  have hm : b % 9223372036854775808 = mg b := rfl
  rw [hm]
  unfold infR at *
  rw [if_neg (by omega), if_neg (by omega), if_neg (by omega)]

theorem signed_mul (neg : Bool) (m up c : Nat) : Ieee.signed neg m up * (2 ^ c : Nat) = if neg then -((m * 2 ^ (up + c) : Nat) : Int) else ((m * 2 ^ (up + c) : Nat) : Int) := by
  unfold Ieee.signed
  rw [Nat.shiftLeft_eq, Nat.pow_add, ← Nat.mul_assoc]
  cases neg
  · simp
  · simp only [if_true, Int.neg_mul, Int.natCast_mul]

/-- The number of a datum, in units of 2^-1074, out of its parts over any base. -/
theorem signed_units {b m : Nat} {e base : Int} (he : -1074 ≤ base) (hbe : base ≤ e) (hv : m * 2 ^ (e + 1074).toNat = rv (mg b)) :
    Ieee.signed (sg b) m (e - base).toNat * (2 ^ (base + 1074).toNat : Nat) = sv b := by
  rw [signed_mul, show (e - base).toNat + (base + 1074).toNat = (e + 1074).toNat by omega, hv]
  rfl

/-- What a finite sum is written as. -/
def sumPat (neg : Bool) (S : Int) : Nat := if S = 0 then Ieee.double.word neg 0 else Ieee.double.word (decide (S < 0)) (near (4 * S.natAbs))

theorem add_fin {x y : Nat} (hx : x < 18446744073709551616) (hy : y < 18446744073709551616) (fx : mg x < infR) (fy : mg y < infR) :
    Ieee.double.add x y = some (sumPat (sg x && sg y) (sv x + sv y)) := by
  obtain ⟨m, i, e1, hi, v1⟩ := read_fin hx fx
  obtain ⟨n, j, e2, hj, v2⟩ := read_fin hy fy
  unfold Ieee.Format.add
  rw [e1, e2]
  simp only [Ieee.Datum.sum, Option.map_some]
  congr 1
  have s1 := signed_units (b := x) (m := m) (e := i) (base := min i j) (by omega) (by omega) v1
  have s2 := signed_units (b := y) (m := n) (e := j) (base := min i j) (by omega) (by omega) v2
  generalize hT : Ieee.signed (sg x) m (i - min i j).toNat + Ieee.signed (sg y) n (j - min i j).toNat = T
  have hS : T * (2 ^ (min i j + 1074).toNat : Nat) = sv x + sv y := by
    rw [← hT, Int.add_mul, s1, s2]
  have hp : 0 < 2 ^ (min i j + 1074).toNat := two_pow_pos _
  generalize hP : 2 ^ (min i j + 1074).toNat = p at *
  have hz : T = 0 ↔ sv x + sv y = 0 := by
    rw [← hS]
    constructor
    · intro h; rw [h, Int.zero_mul]
    · intro h
      rcases Int.mul_eq_zero.1 h with h | h
      · exact h
      · omega
  have hneg : T < 0 ↔ sv x + sv y < 0 := by
    rw [← hS]
    constructor
    · intro h
      exact Int.mul_neg_of_neg_of_pos h (by omega)
    · intro h
      rcases Int.lt_or_le T 0 with h' | h'
      · exact h'
      · have := Int.mul_nonneg h' (show (0 : Int) ≤ (p : Int) by omega)
        omega
  unfold sumPat Ieee.Format.write
  simp only
  rw [nearest_eq, near_eq]
  have hza : zd T.natAbs (min i j) = 4 * (sv x + sv y).natAbs := by
    rw [zd_units (S := (sv x + sv y).natAbs) (by omega)]
    rw [← hS, Int.natAbs_mul, Int.natAbs_natCast, hP]
  rw [hza]
  by_cases h0 : sv x + sv y = 0
  · rw [if_pos (hz.2 h0), if_pos h0, h0]
    rfl
  · rw [if_neg (fun h => h0 (hz.1 h)), if_neg h0]
    congr 1
    exact decide_eq_decide.2 hneg

/-- What a finite product is written as: P in units of 2^-2148. -/
theorem mul_fin {x y : Nat} (hx : x < 18446744073709551616) (hy : y < 18446744073709551616) (fx : mg x < infR) (fy : mg y < infR) :
    Ieee.double.mul x y = some (Ieee.double.word (sg x ^^ sg y) (near (zq (rv (mg x) * rv (mg y)) (2 ^ 1073)))) := by
  obtain ⟨m, i, e1, hi, v1⟩ := read_fin hx fx
  obtain ⟨n, j, e2, hj, v2⟩ := read_fin hy fy
  unfold Ieee.Format.mul
  rw [e1, e2]
  simp only [Ieee.Datum.product, Option.map_some]
  congr 1
  unfold Ieee.Format.write
  simp only
  rw [nearest_eq, near_eq]
  congr 2
  rw [zd_of (A := (i + 1074).toNat + (j + 1074).toNat) (B := 1073) (by omega), Nat.pow_add, ← v1, ← v2]
  congr 1
  rw [Nat.mul_mul_mul_comm]

theorem rv_key (b : Nat) : ∀ c, (sv b < sv c ↔ key b < key c) ∧ (sv b = sv c ↔ key b = key c) := by
  intro c
  unfold sv key
  have h1 := rv_lt_iff (a := mg b) (b := mg c)
  have h2 := rv_lt_iff (a := mg c) (b := mg b)
  have h3 : rv (mg b) = 0 ↔ mg b = 0 := rv_eq_zero
  have h4 : rv (mg c) = 0 ↔ mg c = 0 := rv_eq_zero
  have h5 : rv (mg b) = rv (mg c) ↔ mg b = mg c := ⟨rv_inj, fun h => by rw [h]⟩
  split <;> split <;> constructor <;> omega

theorem compare_int (a b : Int) : compare a b = if a < b then .lt else if a = b then .eq else .gt := rfl

/-- The model's order of patterns. -/
def ord (x y : Nat) : Option Ordering := if infR < mg x ∨ infR < mg y then none else some (if key x < key y then .lt else if key x = key y then .eq else .gt)

theorem compare_pos {a b : Int} {p : Nat} (hp : 0 < p) : compare a b = compare (a * (p : Int)) (b * (p : Int)) := by
  rw [compare_int, compare_int]
  have h1 : a * (p : Int) < b * (p : Int) ↔ a < b := Int.mul_lt_mul_right (by omega)
  have h2 : a * (p : Int) = b * (p : Int) ↔ a = b := Int.mul_eq_mul_right_iff (by omega)
  simp only [h1, h2]

theorem order_eq {x y : Nat} (hx : x < 18446744073709551616) (hy : y < 18446744073709551616) : Ieee.double.order x y = ord x y := by
  unfold Ieee.Format.order ord
  rcases Nat.lt_trichotomy (mg x) infR with fx | fx | fx
  · obtain ⟨m, i, e1, hi, v1⟩ := read_fin hx fx
    rcases Nat.lt_trichotomy (mg y) infR with fy | fy | fy
    · obtain ⟨n, j, e2, hj, v2⟩ := read_fin hy fy
      rw [e1, e2, if_neg (by omega)]
      simp only [Ieee.Datum.order]
      have s1 := signed_units (b := x) (m := m) (e := i) (base := min i j) (by omega) (by omega) v1
      have s2 := signed_units (b := y) (m := n) (e := j) (base := min i j) (by omega) (by omega) v2
      rw [compare_pos (two_pow_pos (min i j + 1074).toNat), s1, s2, compare_int]
      obtain ⟨k1, k2⟩ := rv_key x y
      simp only [k1, k2]
    · rw [e1, read_inf hy fy, if_neg (by omega)]
      simp only [Ieee.Datum.order]
      congr 1
      unfold key
      rw [fy]
      cases sg x <;> cases sg y <;> simp <;> (try split) <;> (try split) <;> (first | rfl | omega)
    · rw [e1, read_nan hy fy, if_pos (Or.inr fy)]
      rfl
  · rcases Nat.lt_trichotomy (mg y) infR with fy | fy | fy
    · obtain ⟨n, j, e2, hj, v2⟩ := read_fin hy fy
      rw [read_inf hx fx, e2, if_neg (by omega)]
      simp only [Ieee.Datum.order]
      congr 1
      unfold key
      rw [fx]
      cases sg x <;> cases sg y <;> simp <;> (try split) <;> (try split) <;> (first | rfl | omega)
    · rw [read_inf hx fx, read_inf hy fy, if_neg (by omega)]
      simp only [Ieee.Datum.order]
      unfold key
      rw [fx, fy]
      cases sg x <;> cases sg y <;> rfl
    · rw [read_inf hx fx, read_nan hy fy, if_pos (Or.inr fy)]
      rfl
  · rw [read_nan hx fx, if_pos (Or.inl fx)]
    rfl

end Go.Proofs.Ytllfcklgljdgeaa.Rn

/-
  Plain: patterns of binary64 in their order; the ends of intervals. Conditions: those that each theorem names.
-/
set_option linter.unusedVariables false

namespace Go.Proofs.Ytllfcklgljdgeaa.Rn

def minf : Nat := 18442240474082181120
theorem minf_val : minf = 18442240474082181120 := rfl

def ltB (x y : Nat) : Bool := !isNaN x && !isNaN y && decide (key x < key y)
def eqB (x y : Nat) : Bool := !isNaN x && !isNaN y && decide (key x = key y)
def leB (x y : Nat) : Bool := !isNaN x && !isNaN y && decide (key x ≤ key y)

theorem order_lt {x y : Nat} (hx : x < 18446744073709551616) (hy : y < 18446744073709551616) : (Ieee.double.order x y == some .lt) = ltB x y := by
  rw [order_eq hx hy]
  unfold ord ltB isNaN
  by_cases h1 : infR < mg x
  · simp [h1]
  · by_cases h2 : infR < mg y
    · simp [h2]
    · rw [if_neg (by omega)]
      by_cases h3 : key x < key y
      · simp [h1, h2, h3]
      · by_cases h4 : key x = key y
        · simp [h1, h2, h4]
        · simp [h1, h2, h3, h4]
theorem order_eqv {x y : Nat} (hx : x < 18446744073709551616) (hy : y < 18446744073709551616) : (Ieee.double.order x y == some .eq) = eqB x y := by
  rw [order_eq hx hy]
  unfold ord eqB isNaN
  by_cases h1 : infR < mg x
  · simp [h1]
  · by_cases h2 : infR < mg y
    · simp [h2]
    · rw [if_neg (by omega)]
      by_cases h3 : key x < key y
      · have h4 : ¬ key x = key y := by omega
        simp [h1, h2, h3, h4]
      · by_cases h4 : key x = key y
        · simp [h1, h2, h4]
        · simp [h1, h2, h3, h4]
theorem order_gt {x y : Nat} (hx : x < 18446744073709551616) (hy : y < 18446744073709551616) : (Ieee.double.order x y == some .gt) = ltB y x := by
  rw [order_eq hx hy]
  unfold ord ltB isNaN
  by_cases h1 : infR < mg x
  · simp [h1]
  · by_cases h2 : infR < mg y
    · simp [h2]
    · rw [if_neg (by omega)]
      by_cases h3 : key x < key y
      · have h4 : ¬ key y < key x := by omega
        simp [h1, h2, h3, h4]
      · by_cases h4 : key x = key y
        · simp [h1, h2, h4]
        · have h5 : key y < key x := by omega
          simp [h1, h2, h3, h4, h5]
theorem order_le {x y : Nat} (hx : x < 18446744073709551616) (hy : y < 18446744073709551616) : (Ieee.double.order x y == some .lt || Ieee.double.order x y == some .eq) = leB x y := by
  rw [order_lt hx hy, order_eqv hx hy]
  unfold ltB eqB leB
  cases isNaN x <;> cases isNaN y <;> simp
  by_cases h : key x ≤ key y
  · rcases Int.lt_or_eq_of_le h with h1 | h1
    · simp [h1]; omega
    · simp [h1]
  · have h1 : ¬ key x < key y := by omega
    have h2 : ¬ key x = key y := by omega
    simp [h, h1, h2]
theorem order_ge {x y : Nat} (hx : x < 18446744073709551616) (hy : y < 18446744073709551616) : (Ieee.double.order x y == some .gt || Ieee.double.order x y == some .eq) = leB y x := by
  rw [order_gt hx hy, order_eqv hx hy]
  unfold ltB eqB leB
  cases isNaN x <;> cases isNaN y <;> simp
  by_cases h : key y ≤ key x
  · rcases Int.lt_or_eq_of_le h with h1 | h1
    · simp [h1]; omega
    · simp [h1]
  · have h1 : ¬ key y < key x := by omega
    have h2 : ¬ key x = key y := by omega
    simp [h, h1, h2]

/-- -0 as 0; what is no number stays. -/
def pl (b : Nat) : Nat := if b = 9223372036854775808 then 0 else b
/-- -0 as 0; what is no number as the one. -/
def plN (b : Nat) : Nat := if b = 9223372036854775808 then 0 else if isNaN b then 9221120237041090561 else b
theorem pl_lt {b : Nat} (h : b < 18446744073709551616) : pl b < 18446744073709551616 := by unfold pl; split <;> omega
theorem plN_lt {b : Nat} (h : b < 18446744073709551616) : plN b < 18446744073709551616 := by unfold plN; split <;> first | omega | (split <;> omega)
theorem plN_of {b : Nat} (h : isNaN b = false) : plN b = pl b := by unfold plN pl; rw [h]; simp
theorem eq0 {b : Nat} (h : b < 18446744073709551616) : eqB b 0 = decide (b = 0 ∨ b = 9223372036854775808) := by
  have h1 : key 0 = 0 := rfl
  have h2 : isNaN 0 = false := rfl
  unfold eqB
  rw [h1, h2]
  unfold isNaN key sg mg
  rw [infR_val]
  by_cases h3 : b = 0 ∨ b = 9223372036854775808
  · rw [decide_eq_true h3]
    rcases h3 with rfl | rfl <;> rfl
  · rw [decide_eq_false h3]
    by_cases h4 : 9223372036854775808 ≤ b
    · simp [h4]; omega
    · simp [h4]; omega

/-- The document's key. -/
def rkey (b : Nat) : Nat := if 9223372036854775808 ≤ plN b then 18446744073709551615 - plN b else plN b + 9223372036854775808
theorem rkey_key {b : Nat} (h : b < 18446744073709551616) (hn : isNaN b = false) : (rkey b : Int) = 9223372036854775808 + key b - (if key b < 0 then 1 else 0) := by
  unfold rkey
  rw [plN_of hn]
  unfold pl key sg mg
  by_cases h1 : b = 9223372036854775808
  · subst h1; rfl
  · rw [if_neg h1]
    by_cases h2 : 9223372036854775808 ≤ b
    · rw [if_pos h2]; simp [h2]; split <;> omega
    · rw [if_neg h2]; simp [h2]; split <;> omega
def aboveB (x y : Nat) : Bool := !isNaN x && !isNaN y && decide (rkey y < rkey x)
theorem above_lt {x y : Nat} (hx : x < 18446744073709551616) (hy : y < 18446744073709551616) : aboveB x y = ltB y x := by
  unfold aboveB ltB
  cases h1 : isNaN x
  · cases h2 : isNaN y
    · have e1 := rkey_key hx h1
      have e2 := rkey_key hy h2
      simp only [Bool.not_false, Bool.and_true, Bool.true_and]
      refine decide_eq_decide.2 ?_
      split at e1 <;> split at e2 <;> omega
    · simp
  · simp
/-- Two ends make an interval that is not empty: the program's test. -/
def sndB (lo hi : Nat) : Bool := leB lo hi && ltB lo infR && ltB minf hi
/-- .. the document's. -/
def sndR (lo hi : Nat) : Bool := !(isNaN lo || isNaN hi || aboveB lo hi) && (decide (lo ≠ infR) && decide (hi ≠ minf))
theorem key_inf : key infR = 9218868437227405312 := rfl
theorem key_minf : key minf = -9218868437227405312 := rfl
theorem nan_inf : isNaN infR = false := rfl
theorem nan_minf : isNaN minf = false := rfl
theorem key_le {b : Nat} (hn : isNaN b = false) : key b ≤ 9218868437227405312 ∧ -9218868437227405312 ≤ key b := by
  unfold isNaN at hn
  have := of_decide_eq_false hn
  rw [infR_val] at this
  unfold key
  split <;> omega
theorem key_eq_inf {b : Nat} (h : b < 18446744073709551616) (hn : isNaN b = false) : key b = 9218868437227405312 ↔ b = infR := by
  rw [infR_val]
  unfold key sg mg
  by_cases h2 : 9223372036854775808 ≤ b
  · simp [h2]; omega
  · simp [h2]; omega
theorem key_eq_minf {b : Nat} (h : b < 18446744073709551616) (hn : isNaN b = false) : key b = -9218868437227405312 ↔ b = minf := by
  rw [minf_val]
  unfold key sg mg
  by_cases h2 : 9223372036854775808 ≤ b
  · simp [h2]; omega
  · simp [h2]; omega
theorem snd_eq {lo hi : Nat} (hl : lo < 18446744073709551616) (hh : hi < 18446744073709551616) : sndB lo hi = sndR lo hi := by
  unfold sndB sndR
  rw [above_lt hl hh]
  unfold leB ltB
  rw [key_inf, key_minf, nan_inf, nan_minf]
  cases h1 : isNaN lo
  · cases h2 : isNaN hi
    · have a1 := key_le h1
      have a2 := key_le h2
      have e1 := key_eq_inf hl h1
      have e2 := key_eq_minf hh h2
      rw [Bool.eq_iff_iff]
      simp
      omega
    · simp
  · simp
/-- How two ends are read. -/
def rdLo (lo hi : Nat) : Nat := if sndB lo hi then pl lo else infR
def rdHi (lo hi : Nat) : Nat := if sndB lo hi then pl hi else minf
theorem snd_nan {lo hi : Nat} (h : sndB lo hi = true) : isNaN lo = false ∧ isNaN hi = false := by
  unfold sndB leB at h
  revert h
  cases isNaN lo <;> cases isNaN hi <;> simp
end Go.Proofs.Ytllfcklgljdgeaa.Rn

/-
  What the library's functions without a body answer. Conditions: those that each theorem names.
-/
namespace Go.Proofs.Ytllfcklgljdgeaa
open Go.RowKit Nm Rn
set_option maxRecDepth 100000
set_option linter.unusedVariables false
set_option linter.unusedSimpArgs false

@[go_sem] theorem run_store_float (P : Program) (w : World) (a : Addr) (m : Mode) (k : FloatKind) (b : Nat) : (store a (.float k b) m).run P w = stored P w a (.float k b) m := run_store P w a _ m rfl

theorem callF64b (args : Array Value) (w : World) : (callFunc 14 args).run Try.prog w = ((Extern.MathFloatBits.float64bits args).run Try.prog w).andThen fun v w' => .ok (.value v) w' :=
  run_callFunc_extern Try.func14 (by kernel_rfl) (by kernel_rfl) (by kernel_rfl) (by kernel_rfl) args w
@[go_sem] theorem callF64b' (b : Nat) (w : World) : (callFunc 14 #[.float .f64 b]).run Try.prog w = .ok (.value (.int .u64 (b : Int))) w := by
  rw [callF64b]; rfl
theorem callF64f (args : Array Value) (w : World) : (callFunc 20 args).run Try.prog w = ((Extern.MathFloatBits.float64frombits args).run Try.prog w).andThen fun v w' => .ok (.value v) w' :=
  run_callFunc_extern Try.func20 (by kernel_rfl) (by kernel_rfl) (by kernel_rfl) (by kernel_rfl) args w
@[go_sem] theorem callF64f' (n : Int) (w : World) : (callFunc 20 #[.int .u64 n]).run Try.prog w = .ok (.value (.float .f64 n.toNat)) w := by
  rw [callF64f]; rfl

/-- The sign's place. -/
theorem andNot_top (b : Nat) (h : b < 18446744073709551616) : bits .andNot .u64 (b : Int) 9223372036854775808 = (mg b : Int) := by
  have e : (9223372036854775808 : Int) = ((9223372036854775808 : Nat) : Int) := rfl
  rw [e, u64_andNot_nat _ _ h (by omega)]
  congr 1
  have e2 : (18446744073709551615 - 9223372036854775808 : Nat) = 2 ^ 63 - 1 := by decide
  rw [e2, Nat.and_two_pow_sub_one_eq_mod]
  rfl

set_option maxHeartbeats 400000 in
theorem isnan_any (b : Nat) (w : World) (h : b < 18446744073709551616) :
    Calls Try.prog 101 #[.int .u64 (b : Int)] w fun e w' => e = .returned (.bool (isNaN b)) ∧ w = w' := by
  have g := andNot_top b h
  have HF : Hid (decide ((9218868437227405312 : Int) < (mg b : Int)) = isNaN b) := Lib.hid (by unfold isNaN; rw [infR_val]; exact decide_eq_decide.2 (by omega))
  clear h
  go_enter Try.func101, Try.ntmps101
  go_wp2
  go_ret
  exact ⟨ret_bool HF.out, rfl⟩
set_option maxHeartbeats 400000 in
theorem plain3_any (b : Nat) (w : World) (h : b < 18446744073709551616) :
    Calls Try.prog 68 #[.int .u64 (b : Int)] w fun e w' => e = .returned (.int .u64 (plN b : Nat)) ∧ w = w' := by
  have hn := isnan_any b w h
  by_cases h0 : b = 9223372036854775808
  · have HF : Hid ((0 : Int) = (plN b : Nat)) := Lib.hid (by unfold plN; rw [if_pos h0]; rfl)
    clear hn h
    have h1 : ((b : Int) == 9223372036854775808) = true := by rw [beq_iff_eq]; omega
    clear h0
    go_enter Try.func68, Try.ntmps68
    go_wp2
    go_ret
    exact ⟨ret_int HF.out, rfl⟩
  · have h1 : ((b : Int) == 9223372036854775808) = false := by rw [beq_eq_false_iff_ne]; omega
    cases h2 : isNaN b
    · have HF : Hid ((b : Int) = (plN b : Nat)) := Lib.hid (by unfold plN; rw [if_neg h0, h2, if_neg (by simp)])
      rw [h2] at hn
      have HN := Lib.hid hn
      clear hn h h0 h2
      go_enter Try.func68, Try.ntmps68
      go_wp2_with fail
      refine HN.out.mono ?_
      rintro e w1 ⟨rfl, rfl⟩
      go_wp2
      go_ret
      exact ⟨ret_int HF.out, rfl⟩
    · have HF : Hid ((9221120237041090561 : Int) = (plN b : Nat)) := Lib.hid (by unfold plN; rw [if_neg h0, h2, if_pos rfl]; rfl)
      rw [h2] at hn
      have HN := Lib.hid hn
      clear hn h h0 h2
      go_enter Try.func68, Try.ntmps68
      go_wp2_with fail
      refine HN.out.mono ?_
      rintro e w1 ⟨rfl, rfl⟩
      go_wp2
      go_ret
      exact ⟨ret_int HF.out, rfl⟩
end Go.Proofs.Ytllfcklgljdgeaa

/-
  Words for memory: a block known whole, without integers in it; a list of words beside it. Conditions: none but those that each theorem names.
-/
namespace Go.Proofs.Ytllfcklgljdgeaa
open Go.RowKit Nm
set_option linter.unusedVariables false
set_option linter.unusedSimpArgs false

/-- Block g is just the cells cs of element type t, none frozen. -/
def Blk (w : World) (g : Nat) (t : TypeId) (cs : Array Value) : Prop := w.heap[g]? = some (.cells cs t (0, 0))
/-- No cell is an integer. -/
def NoInt (cs : Array Value) : Prop := ∀ (i : Nat) (k : IntKind) (x : Int), cs[i]? ≠ some (Value.int k x)

section
variable {w w' : World} {g : Nat} {t : TypeId} {cs : Array Value}
theorem Blk.lt (h : Blk w g t cs) : g < w.heap.size := by
  rcases Nat.lt_or_ge g w.heap.size with hlt | hge
  · exact hlt
  · unfold Blk at h; rw [Array.getElem?_eq_none hge] at h; cases h
theorem Blk.cell (h : Blk w g t cs) (i : Nat) : w.cell? ⟨g, i, none⟩ = cs[i]? := cell_of_row w g i cs t (0, 0) h
theorem Blk.frozen (h : Blk w g t cs) (i : Nat) : w.frozen? ⟨g, i, none⟩ = false := by
  unfold Blk at h
  simp [World.frozen?, h]
theorem Blk.new (w : World) (t : TypeId) (cs : Array Value) : Blk (w.alloc (.cells cs t)) w.heap.size t cs := heap_alloc_new w _
theorem Blk.ext (h : Blk w g t cs) (hb : Ext w w') : Blk w' g t cs := (Below.block hb g h.lt).trans h
theorem Blk.set_ (h : Blk w g t cs) (i : Nat) (u : Value) : Blk (w.setCell ⟨g, i, none⟩ u) g t (cs.setIfInBounds i u) := by
  unfold Blk at h ⊢
  simp [World.setCell, Array.getElem?_modify, h]
theorem Blk.far (h : Blk w g t cs) {p : Addr} (hp : g ≠ p.block) (u : Value) : Blk (w.setCell p u) g t cs := (Below.heap_setCell w p u g hp).trans h
theorem NoInt.set {cs : Array Value} (h : NoInt cs) (i : Nat) {u : Value} (hu : ∀ (k : IntKind) (x : Int), u ≠ Value.int k x) : NoInt (cs.setIfInBounds i u) := by
  intro j k x hj
  rw [Array.getElem?_setIfInBounds] at hj
  split at hj
  · split at hj
    · injection hj with hj; exact hu k x hj
    · cases hj
  · exact h j k x hj
/-- A store into a block without integers leaves every list of words as it was. -/
theorem Wds.set_box {A : Option Addr} {n c : Nat} {xs : List Nat} (h : Wds w A n c xs) (hb : Blk w g t cs) (hcs : NoInt cs) (i : Nat) (u : Value) : Wds (w.setCell ⟨g, i, none⟩ u) A n c xs := by
  refine ⟨h.1, h.2.1, h.2.2.1, h.2.2.2.1, fun hn => ?_⟩
  obtain ⟨ad, e, hlt, hc⟩ := h.2.2.2.2 hn
  have hne : ad.block ≠ g := by
    intro hg
    have hx1 : 0 < xs.length := by have := h.1; omega
    have h1 := hc 0 _ (List.getElem?_eq_getElem hx1)
    have h2 : w.heap[(ad.add 0).block]? = some (.cells cs t (0, 0)) := by rw [block_of_add, hg]; exact hb
    unfold World.cell? at h1
    rw [h2] at h1
    simp only at h1
    split at h1
    · cases h1
    · exact hcs _ _ _ h1
  refine ⟨ad, e, by simpa [World.setCell] using hlt, fun k x hk => ?_⟩
  rw [← hc k x hk]
  exact World.cell?_of_block (Below.heap_setCell w ⟨g, i, none⟩ u _ (by rw [block_of_add]; exact hne))
theorem Wds.set_box3 {A : Option Addr} {n c : Nat} {xs : List Nat} (h : Wds w A n c xs) (hb : Blk w g t cs) (hcs : NoInt cs) {u0 u1 u2 : Value} (h0 : ∀ (k : IntKind) (x : Int), u0 ≠ Value.int k x) (h1 : ∀ (k : IntKind) (x : Int), u1 ≠ Value.int k x) :
    Wds (((w.setCell ⟨g, 0, none⟩ u0).setCell ⟨g, 1, none⟩ u1).setCell ⟨g, 2, none⟩ u2) A n c xs :=
  ((h.set_box hb hcs 0 u0).set_box (hb.set_ 0 u0) (hcs.set 0 h0) 1 u1).set_box ((hb.set_ 0 u0).set_ 1 u1) ((hcs.set 0 h0).set 1 h1) 2 u2
theorem Ext.set3 {w0 : World} (h : Ext w0 w) (hg : w0.heap.size ≤ g) (u0 u1 u2 : Value) : Ext w0 (((w.setCell ⟨g, 0, none⟩ u0).setCell ⟨g, 1, none⟩ u1).setCell ⟨g, 2, none⟩ u2) :=
  ((h.setCell hg u0).setCell hg u1).setCell hg u2
end
theorem noInt3 (b : Bool) (A : Option Addr) (n c : Nat) (B : Option Addr) (m d : Nat) : NoInt #[.bool b, .slice A n c, .slice B m d] := by
  intro i k x h
  match i, h with
  | 0, h => simp at h
  | 1, h => simp at h
  | 2, h => simp at h
  | i + 3, h => simp at h

end Go.Proofs.Ytllfcklgljdgeaa

/-
  The contracts of the document's own intervals, first part: how patterns stand to each other, how two ends are read. Conditions: those that each theorem names.
-/
namespace Go.Proofs.Ytllfcklgljdgeaa
open Go.RowKit Nm Rn
set_option maxRecDepth 100000
set_option linter.unusedVariables false
set_option linter.unusedSimpArgs false

theorem or_top6 (p : Nat) (h : p < 9223372036854775808) : bits .or .u64 (p : Int) 9223372036854775808 = ((p + 9223372036854775808 : Nat) : Int) := by
  have e : (9223372036854775808 : Int) = ((9223372036854775808 : Nat) : Int) := rfl
  rw [e, u64_or_nat _ _ (by omega) (by omega)]
  congr 1
  rw [Nat.or_comm, nat_join 63 _ _ (by omega) (by omega), Nat.add_comm]

theorem xor_ones (p : Nat) (h : p < 18446744073709551616) : 18446744073709551615 ^^^ p = 18446744073709551615 - p := by
  have h1 : BitVec.allOnes 64 ^^^ BitVec.ofNat 64 p = ~~~(BitVec.ofNat 64 p) := BitVec.allOnes_xor
  have h2 := congrArg BitVec.toNat h1
  rw [BitVec.toNat_xor, BitVec.toNat_not, BitVec.toNat_allOnes, BitVec.toNat_ofNat, Nat.mod_eq_of_lt (show p < 2 ^ 64 by omega)] at h2
  exact h2
theorem not_u64 (p : Nat) (h : p < 18446744073709551616) : bits .xor .u64 IntKind.u64.max (p : Int) = ((18446744073709551615 - p : Nat) : Int) := by
  have e : IntKind.u64.max = ((18446744073709551615 : Nat) : Int) := rfl
  rw [e, u64_xor_nat _ _ (by omega) h, xor_ones p h]

set_option maxHeartbeats 400000 in
theorem key6_any (b : Nat) (w : World) (h : b < 18446744073709551616) :
    Calls Try.prog 118 #[.int .u64 (b : Int)] w fun e w' => e = .returned (.int .u64 (rkey b : Nat)) ∧ w = w' := by
  have hp := plain3_any b w h
  have hpl := plN_lt h
  obtain ⟨p, hpe⟩ : ∃ p, p = plN b := ⟨_, rfl⟩
  rw [← hpe] at hp hpl
  have HP := Lib.hid hp
  clear hp
  by_cases h0 : 9223372036854775808 ≤ p
  · have HF : Hid (((18446744073709551615 - p : Nat) : Int) = (rkey b : Nat)) := Lib.hid (by unfold rkey; rw [← hpe, if_pos h0])
    have h1 : decide ((9223372036854775808 : Int) ≤ (p : Int)) = true := decide_eq_true (by omega)
    have h2 := not_u64 p hpl
    have HPL := Lib.hid hpl
    clear hpe h h0 hpl
    go_enter Try.func118, Try.ntmps118
    go_wp2_with fail
    refine HP.out.mono ?_
    rintro e w1 ⟨rfl, rfl⟩
    go_wp2
    go_ret
    exact ⟨ret_int HF.out, rfl⟩
  · have HF : Hid ((p : Int) + 9223372036854775808 = (rkey b : Nat)) := Lib.hid (by unfold rkey; rw [← hpe, if_neg h0]; omega)
    have h1 : decide ((9223372036854775808 : Int) ≤ (p : Int)) = false := decide_eq_false (by omega)
    have h2 := or_top6 p (by omega)
    clear hpe h h0
    go_enter Try.func118, Try.ntmps118
    go_wp2_with fail
    refine HP.out.mono ?_
    rintro e w1 ⟨rfl, rfl⟩
    go_wp2
    go_ret
    exact ⟨ret_int HF.out, rfl⟩

set_option maxHeartbeats 400000 in
theorem above6_any (x y : Nat) (w : World) (hx : x < 18446744073709551616) (hy : y < 18446744073709551616) :
    Calls Try.prog 102 #[.int .u64 (x : Int), .int .u64 (y : Int)] w fun e w' => e = .returned (.bool (ltB y x)) ∧ w = w' := by
  have hnx := isnan_any x w hx
  have hny := isnan_any y w hy
  have hkx := key6_any x w hx
  have hky := key6_any y w hy
  have hF := (above_lt hx hy).symm
  unfold aboveB at hF
  obtain ⟨K, hK⟩ : ∃ K, K = rkey x := ⟨_, rfl⟩
  obtain ⟨L, hL⟩ : ∃ L, L = rkey y := ⟨_, rfl⟩
  rw [← hK] at hkx hF
  rw [← hL] at hky hF
  have HKX := Lib.hid hkx
  have HKY := Lib.hid hky
  cases h1 : isNaN x <;> cases h2 : isNaN y
  all_goals
    rw [h1] at hnx hF
    rw [h2] at hny hF
    have HF := Lib.hid hF
    have HNX := Lib.hid hnx
    have HNY := Lib.hid hny
    clear hnx hny hkx hky hF hK hL h1 h2 hx hy
    go_enter Try.func102, Try.ntmps102
    go_wp2_with (first | (go_at_call 101; ((with_reducible refine HNX.out.mono ?_); rintro e w' ⟨rfl, rfl⟩)) | (go_at_call 101; ((with_reducible refine HNY.out.mono ?_); rintro e w' ⟨rfl, rfl⟩)) | (go_at_call 118; ((with_reducible refine HKX.out.mono ?_); rintro e w' ⟨rfl, rfl⟩)) | (go_at_call 118; ((with_reducible refine HKY.out.mono ?_); rintro e w' ⟨rfl, rfl⟩)))
    go_ret
    first
    | exact ⟨ret_bool (by rw [HF.out]; simp), rfl⟩
    | exact ⟨ret_bool (by rw [HF.out, Bool.not_false, Bool.true_and, Bool.true_and]; exact decide_eq_decide.2 (by omega)), rfl⟩

set_option maxHeartbeats 400000 in
theorem sound6_any (lo hi : Nat) (w : World) (hl : lo < 18446744073709551616) (hh : hi < 18446744073709551616) :
    Calls Try.prog 67 #[.agg #[.int .u64 (lo : Int), .int .u64 (hi : Int)]] w fun e w' => e = .returned (.bool (sndB lo hi)) ∧ Ext w w' := by
  have hnx := fun w => isnan_any lo w hl
  have hny := fun w => isnan_any hi w hh
  have hab := fun w => above6_any lo hi w hl hh
  have hF := snd_eq hl hh
  unfold sndR at hF
  rw [above_lt hl hh] at hF
  have HI := Lib.hid (show ((lo : Int) != 9218868437227405312) = decide (lo ≠ infR) by rw [infR_val, Bool.eq_iff_iff, bne_iff_ne, decide_eq_true_iff]; omega)
  have HM := Lib.hid (show ((hi : Int) != 18442240474082181120) = decide (hi ≠ minf) by rw [minf_val, Bool.eq_iff_iff, bne_iff_ne, decide_eq_true_iff]; omega)
  obtain ⟨a, ha⟩ : ∃ a, a = decide (lo ≠ infR) := ⟨_, rfl⟩
  obtain ⟨b, hb⟩ : ∃ b, b = decide (hi ≠ minf) := ⟨_, rfl⟩
  rw [← ha] at hF HI
  rw [← hb] at hF HM
  have hI := HI.out
  have hM := HM.out
  have HAB := Lib.hid hab
  clear ha hb HI HM hab
  cases h1 : isNaN lo <;> cases h2 : isNaN hi <;> cases h3 : ltB hi lo <;> cases a <;> cases b
  all_goals
    rw [h1, h2, h3] at hF
    have HF := Lib.hid hF
    have HAB2 := Lib.hid (fun w => h3 ▸ HAB.out w)
    have HNX := Lib.hid (fun w => h1 ▸ hnx w)
    have HNY := Lib.hid (fun w => h2 ▸ hny w)
    clear hnx hny hF h1 h2 h3 hl hh HAB
    go_enter Try.func67, Try.ntmps67
    go_wp2_with (first | (go_at_call 101; ((with_reducible refine (HNX.out _).mono ?_); rintro e w' ⟨rfl, rfl⟩)) | (go_at_call 101; ((with_reducible refine (HNY.out _).mono ?_); rintro e w' ⟨rfl, rfl⟩)) | (go_at_call 102; ((with_reducible refine (HAB2.out _).mono ?_); rintro e w' ⟨rfl, rfl⟩)))
    go_ret
    exact ⟨ret_bool (by rw [HF.out]; rfl), (Ext.refl w).alloc _⟩

/-- A result of two patterns. -/
def RetI (lo hi : Nat) (w : World) (e : Ending) (w' : World) : Prop := e = .returned (.agg #[.int .u64 (lo : Int), .int .u64 (hi : Int)]) ∧ Ext w w'

set_option maxHeartbeats 400000 in
theorem empty6_any (w : World) : Calls Try.prog 39 #[] w (RetI infR minf w) := by
  go_enter Try.func39, Try.ntmps39
  go_wp2
  exact bodyPost_ret (v := .agg #[.int .u64 9218868437227405312, .int .u64 18442240474082181120]) (by simp [results, Try.results39, go_sem]) rfl ⟨rfl, (Ext.refl w).alloc _⟩
set_option maxHeartbeats 400000 in
theorem entire6_any (w : World) : Calls Try.prog 40 #[] w (RetI minf infR w) := by
  go_enter Try.func40, Try.ntmps40
  go_wp2
  exact bodyPost_ret (v := .agg #[.int .u64 18442240474082181120, .int .u64 9218868437227405312]) (by simp [results, Try.results40, go_sem]) rfl ⟨rfl, (Ext.refl w).alloc _⟩

theorem Blk.new2 (w : World) (o : Obj) (t : TypeId) (cs : Array Value) : Blk ((w.alloc o).alloc (.cells cs t)) (w.heap.size + 1) t cs := by
  have := Blk.new (w.alloc o) t cs
  rwa [show (w.alloc o).heap.size = w.heap.size + 1 by simp] at this
theorem plain_rd {lo hi : Nat} (h : sndB lo hi = true) : plN lo = rdLo lo hi ∧ plN hi = rdHi lo hi := by
  obtain ⟨h1, h2⟩ := snd_nan h
  unfold rdLo rdHi
  rw [if_pos h, if_pos h]
  exact ⟨plN_of h1, plN_of h2⟩
theorem empty_rd {lo hi : Nat} (h : sndB lo hi = false) : infR = rdLo lo hi ∧ minf = rdHi lo hi := by
  unfold rdLo rdHi
  rw [if_neg (by simp [h]), if_neg (by simp [h])]
  exact ⟨rfl, rfl⟩

set_option maxHeartbeats 1000000 in
theorem read6_any (lo hi : Nat) (w : World) (hl : lo < 18446744073709551616) (hh : hi < 18446744073709551616) :
    Calls Try.prog 47 #[.agg #[.int .u64 (lo : Int), .int .u64 (hi : Int)]] w (RetI (rdLo lo hi) (rdHi lo hi) w) := by
  have hs := fun w => sound6_any lo hi w hl hh
  have hp1 := fun w => plain3_any lo w hl
  have hp2 := fun w => plain3_any hi w hh
  cases hb : sndB lo hi
  · rw [hb] at hs
    obtain ⟨e1, e2⟩ := empty_rd hb
    rw [← e1, ← e2]
    have HS := Lib.hid hs
    clear hs hp1 hp2 hb e1 e2 hl hh
    go_enter Try.func47, Try.ntmps47
    go_wp2_with fail
    refine (HS.out _).mono ?_
    rintro e w1 ⟨rfl, hE1⟩
    go_wp2_with fail
    refine (empty6_any _).mono ?_
    rintro e w2 ⟨rfl, hE2⟩
    have hE := hE1.trans hE2
    have hblk := (Blk.new2 w (.cells #[.int .u64 (lo : Int), .int .u64 (hi : Int)] 24) 24 #[.int .u64 0, .int .u64 0]).ext hE
    have hEw : Ext w w2 := (((Ext.refl w).alloc _).alloc _).trans hE
    obtain ⟨G, hG⟩ : ∃ G, G = w.heap.size + 1 := ⟨_, rfl⟩
    rw [← hG] at hblk
    rw [← hG]
    have hGw : w.heap.size ≤ G := by omega
    have hGl := hblk.lt
    have q0 : w2.cell? ⟨G, 0, none⟩ = some (.int .u64 0) := hblk.cell 0
    have q1 : w2.cell? ⟨G, 1, none⟩ = some (.int .u64 0) := hblk.cell 1
    have f0 := hblk.frozen 0
    have f1 := hblk.frozen 1
    clear hG hE hE1 hE2
    go_wp2
    exact bodyPost_ret (v := .agg #[.int .u64 (infR : Int), .int .u64 (minf : Int)]) (by simp [results, Try.results47, go_sem, hGl, q0, q1]) rfl ⟨rfl, (hEw.setCell hGw _).setCell hGw _⟩
  · rw [hb] at hs
    obtain ⟨e1, e2⟩ := plain_rd hb
    rw [e1] at hp1
    rw [e2] at hp2
    obtain ⟨a, ha⟩ : ∃ a, a = rdLo lo hi := ⟨_, rfl⟩
    obtain ⟨b, hb'⟩ : ∃ b, b = rdHi lo hi := ⟨_, rfl⟩
    rw [← ha] at hp1 ⊢
    rw [← hb'] at hp2 ⊢
    have HS := Lib.hid hs
    have HP1 := Lib.hid hp1
    have HP2 := Lib.hid hp2
    clear hs hp1 hp2 hb e1 e2 hl hh ha hb'
    go_enter Try.func47, Try.ntmps47
    go_wp2_with fail
    refine (HS.out _).mono ?_
    rintro e w1 ⟨rfl, hE1⟩
    have hblk := (Blk.new2 w (.cells #[.int .u64 (lo : Int), .int .u64 (hi : Int)] 24) 24 #[.int .u64 0, .int .u64 0]).ext hE1
    have hbox := ((Blk.new w 24 #[.int .u64 (lo : Int), .int .u64 (hi : Int)]).ext ((Ext.refl _).alloc (.cells #[.int .u64 0, .int .u64 0] 24))).ext hE1
    have hEw : Ext w w1 := (((Ext.refl w).alloc _).alloc _).trans hE1
    have b0 : w1.cell? ⟨w.heap.size, 0, none⟩ = some (.int .u64 (lo : Int)) := hbox.cell 0
    have b1 : w1.cell? ⟨w.heap.size, 1, none⟩ = some (.int .u64 (hi : Int)) := hbox.cell 1
    obtain ⟨G, hG⟩ : ∃ G, G = w.heap.size + 1 := ⟨_, rfl⟩
    rw [← hG] at hblk
    rw [← hG]
    have hGw : w.heap.size ≤ G := by omega
    have hGl := hblk.lt
    have q0 : w1.cell? ⟨G, 0, none⟩ = some (.int .u64 0) := hblk.cell 0
    have q1 : w1.cell? ⟨G, 1, none⟩ = some (.int .u64 0) := hblk.cell 1
    have f0 := hblk.frozen 0
    have f1 := hblk.frozen 1
    clear hG hE1
    go_wp2_with fail
    refine wp_region_still_tail 7 (by kernel_rfl) (by kernel_rfl) ?_
    simp only [List.take_succ_cons, List.take_zero, List.drop_succ_cons, List.drop_zero]
    still_step
    still_step
    still_call ((HP1.out _).mono fun _ _ h => ⟨h.1, h.2.symm⟩)
    still_step
    still_step
    still_call ((HP2.out _).mono fun _ _ h => ⟨h.1, h.2.symm⟩)
    still_step
    refine wpStill_nil ?_
    change wpList _ _ _ _ _ w1.drew
    go_wp2
    exact bodyPost_ret (v := .agg #[.int .u64 (a : Int), .int .u64 (b : Int)]) (by simp [results, Try.results47, go_sem, hGl, q0, q1]) rfl ⟨rfl, (hEw.drew.setCell hGw _).setCell hGw _⟩
end Go.Proofs.Ytllfcklgljdgeaa
