/-
  Patterns of binary64 as signed numbers, and what the model's sum, product and order make of them.
  Plain arithmetic over the model's own words for floats: no program is in sight. Conditions: none but those that each theorem names.
-/
import Derived.Test.YtadijoeeaineaaaDoorP02
import Derived.Laws.Externs
import Derived.Laws.DeepNot64
set_option linter.unusedVariables false
set_option linter.unusedSimpArgs false
namespace Go.Proofs.YtadijoeeaineaaaDoor.Rn

/-- The sign's bit. -/
def sg (b : Nat) : Bool := decide (9223372036854775808 ≤ b)
/-- The rung: the pattern without its sign. -/
def mg (b : Nat) : Nat := b % 9223372036854775808
/-- The number, in units of 2^-1074. -/
def sv (b : Nat) : Int := if sg b then -(rv (mg b) : Int) else (rv (mg b) : Int)
/-- Patterns in their order. -/
def key (b : Nat) : Int := if sg b then -(mg b : Int) else (mg b : Int)
def isNaN (b : Nat) : Bool := decide (infR < mg b)
def isInf (b : Nat) : Bool := decide (mg b = infR)
def isFin (b : Nat) : Bool := decide (mg b < infR)

theorem infR_val : infR = 9218868437227405312 := rfl

theorem mg_lt (b : Nat) : mg b < 9223372036854775808 := Nat.mod_lt _ (by omega)

theorem split_pat {b : Nat} (hb : b < 18446744073709551616) : b = if sg b then 9223372036854775808 + mg b else mg b := by
  unfold sg mg
  split <;> rename_i h <;> simp at h <;> omega

theorem word_eq (neg : Bool) (r : Nat) : Ieee.double.word neg r = if neg then 9223372036854775808 + r else r := rfl

theorem sg_word {neg : Bool} {r : Nat} (hr : r < 9223372036854775808) : sg (Ieee.double.word neg r) = neg := by
  rw [word_eq]; unfold sg
  cases neg <;> simp <;> omega

theorem mg_word {neg : Bool} {r : Nat} (hr : r < 9223372036854775808) : mg (Ieee.double.word neg r) = r := by
  rw [word_eq]; unfold mg
  cases neg <;> simp <;> omega

theorem word_lt {neg : Bool} {r : Nat} (hr : r < 9223372036854775808) : Ieee.double.word neg r < 18446744073709551616 := by
  rw [word_eq]
  cases neg <;> simp <;> omega

theorem rr_le (d : Int) (neg : Bool) (Z : Nat) : rr d neg Z ≤ infR := by
  unfold rr infR
  split <;> omega

theorem rr_lt (d : Int) (neg : Bool) (Z : Nat) : rr d neg Z < 9223372036854775808 := by
  have := rr_le d neg Z
  unfold infR at this
  omega

theorem rr_near (neg neg' : Bool) (Z : Nat) : rr 0 neg Z = rr 0 neg' Z := by
  simp [rr, away]

/-- The rung nearest to the number that Z tells of. -/
def near (Z : Nat) : Nat := rr 0 false Z
theorem near_eq (neg : Bool) (Z : Nat) : rr 0 neg Z = near Z := rr_near _ _ _

theorem sg_bit {b : Nat} (hb : b < 18446744073709551616) : (b / Ieee.double.signWeight % 2 == 1) = sg b := by
  have e : Ieee.double.signWeight = 9223372036854775808 := rfl
  rw [e, Bool.eq_iff_iff]
  unfold sg
  simp
  omega

theorem read_fin {b : Nat} (hb : b < 18446744073709551616) (h : mg b < infR) :
    ∃ m e, Ieee.double.read b = .number (sg b) m e ∧ -1074 ≤ e ∧ m * 2 ^ (e + 1074).toNat = rv (mg b) := by
  have e : Ieee.double.signWeight = 9223372036854775808 := rfl
  have e1 : Ieee.double.binade = 4503599627370496 := rfl
  have e2 : Ieee.double.infRung = 9218868437227405312 := rfl
  have e3 : Ieee.double.leastPlace = -1074 := rfl
  unfold Ieee.Format.read
  simp only [sg_bit hb]
  rw [e, e1, e2, e3]
  have hm : b % 9223372036854775808 = mg b := rfl
  rw [hm]
  unfold infR at h
  generalize mg b = r at *
  by_cases h1 : r < 4503599627370496
  · rw [if_pos h1]
    exact ⟨r, -1074, rfl, by omega, by simp [rv, h1]⟩
  · rw [if_neg h1, if_pos h]
    refine ⟨_, _, rfl, by omega, ?_⟩
    unfold rv
    rw [if_neg h1]
    congr 2
    omega

theorem read_inf {b : Nat} (hb : b < 18446744073709551616) (h : mg b = infR) : Ieee.double.read b = .infinity (sg b) := by
  have e : Ieee.double.signWeight = 9223372036854775808 := rfl
  have e1 : Ieee.double.binade = 4503599627370496 := rfl
  have e2 : Ieee.double.infRung = 9218868437227405312 := rfl
  unfold Ieee.Format.read
  simp only [sg_bit hb]
  rw [e, e1, e2]
  have hm : b % 9223372036854775808 = mg b := rfl
  rw [hm, h]
  rfl

theorem read_nan {b : Nat} (hb : b < 18446744073709551616) (h : infR < mg b) : Ieee.double.read b = .nan (sg b) (mg b - infR) := by
  have e : Ieee.double.signWeight = 9223372036854775808 := rfl
  have e1 : Ieee.double.binade = 4503599627370496 := rfl
  have e2 : Ieee.double.infRung = 9218868437227405312 := rfl
  unfold Ieee.Format.read
  simp only [sg_bit hb]
  rw [e, e1, e2]
  have hm : b % 9223372036854775808 = mg b := rfl
  rw [hm]
  unfold infR at *
  rw [if_neg (by omega), if_neg (by omega), if_neg (by omega)]

theorem signed_mul (neg : Bool) (m up c : Nat) : Ieee.signed neg m up * (2 ^ c : Nat) = if neg then -((m * 2 ^ (up + c) : Nat) : Int) else ((m * 2 ^ (up + c) : Nat) : Int) := by
  unfold Ieee.signed
  rw [Nat.shiftLeft_eq, Nat.pow_add, ← Nat.mul_assoc]
  cases neg
  · simp
  · simp only [if_true, Int.neg_mul, Int.natCast_mul]

/-- The number of a datum, in units of 2^-1074, out of its parts over any base. -/
theorem signed_units {b m : Nat} {e base : Int} (he : -1074 ≤ base) (hbe : base ≤ e) (hv : m * 2 ^ (e + 1074).toNat = rv (mg b)) :
    Ieee.signed (sg b) m (e - base).toNat * (2 ^ (base + 1074).toNat : Nat) = sv b := by
  rw [signed_mul, show (e - base).toNat + (base + 1074).toNat = (e + 1074).toNat by omega, hv]
  rfl

/-- What a finite sum is written as. -/
def sumPat (neg : Bool) (S : Int) : Nat := if S = 0 then Ieee.double.word neg 0 else Ieee.double.word (decide (S < 0)) (near (4 * S.natAbs))

theorem add_fin {x y : Nat} (hx : x < 18446744073709551616) (hy : y < 18446744073709551616) (fx : mg x < infR) (fy : mg y < infR) :
    Ieee.double.add x y = some (sumPat (sg x && sg y) (sv x + sv y)) := by
  obtain ⟨m, i, e1, hi, v1⟩ := read_fin hx fx
  obtain ⟨n, j, e2, hj, v2⟩ := read_fin hy fy
  unfold Ieee.Format.add
  rw [e1, e2]
  simp only [Ieee.Datum.sum, Option.map_some]
  congr 1
  have s1 := signed_units (b := x) (m := m) (e := i) (base := min i j) (by omega) (by omega) v1
  have s2 := signed_units (b := y) (m := n) (e := j) (base := min i j) (by omega) (by omega) v2
  generalize hT : Ieee.signed (sg x) m (i - min i j).toNat + Ieee.signed (sg y) n (j - min i j).toNat = T
  have hS : T * (2 ^ (min i j + 1074).toNat : Nat) = sv x + sv y := by
    rw [← hT, Int.add_mul, s1, s2]
  have hp : 0 < 2 ^ (min i j + 1074).toNat := two_pow_pos _
  generalize hP : 2 ^ (min i j + 1074).toNat = p at *
  have hz : T = 0 ↔ sv x + sv y = 0 := by
    rw [← hS]
    constructor
    · intro h; rw [h, Int.zero_mul]
    · intro h
      rcases Int.mul_eq_zero.1 h with h | h
      · exact h
      · omega
  have hneg : T < 0 ↔ sv x + sv y < 0 := by
    rw [← hS]
    constructor
    · intro h
      exact Int.mul_neg_of_neg_of_pos h (by omega)
    · intro h
      rcases Int.lt_or_le T 0 with h' | h'
      · exact h'
      · have := Int.mul_nonneg h' (show (0 : Int) ≤ (p : Int) by omega)
        omega
  unfold sumPat Ieee.Format.write
  simp only
  rw [nearest_eq, near_eq]
  have hza : zd T.natAbs (min i j) = 4 * (sv x + sv y).natAbs := by
    rw [zd_units (S := (sv x + sv y).natAbs) (by omega)]
    rw [← hS, Int.natAbs_mul, Int.natAbs_natCast, hP]
  rw [hza]
  by_cases h0 : sv x + sv y = 0
  · rw [if_pos (hz.2 h0), if_pos h0, h0]
    rfl
  · rw [if_neg (fun h => h0 (hz.1 h)), if_neg h0]
    congr 1
    exact decide_eq_decide.2 hneg

/-- What a finite product is written as: P in units of 2^-2148. -/
theorem mul_fin {x y : Nat} (hx : x < 18446744073709551616) (hy : y < 18446744073709551616) (fx : mg x < infR) (fy : mg y < infR) :
    Ieee.double.mul x y = some (Ieee.double.word (sg x ^^ sg y) (near (zq (rv (mg x) * rv (mg y)) (2 ^ 1073)))) := by
  obtain ⟨m, i, e1, hi, v1⟩ := read_fin hx fx
  obtain ⟨n, j, e2, hj, v2⟩ := read_fin hy fy
  unfold Ieee.Format.mul
  rw [e1, e2]
  simp only [Ieee.Datum.product, Option.map_some]
  congr 1
  unfold Ieee.Format.write
  simp only
  rw [nearest_eq, near_eq]
  congr 2
  rw [zd_of (A := (i + 1074).toNat + (j + 1074).toNat) (B := 1073) (by omega), Nat.pow_add, ← v1, ← v2]
  congr 1
  rw [Nat.mul_mul_mul_comm]

theorem rv_key (b : Nat) : ∀ c, (sv b < sv c ↔ key b < key c) ∧ (sv b = sv c ↔ key b = key c) := by
  intro c
  unfold sv key
  have h1 := rv_lt_iff (a := mg b) (b := mg c)
  have h2 := rv_lt_iff (a := mg c) (b := mg b)
  have h3 : rv (mg b) = 0 ↔ mg b = 0 := rv_eq_zero
  have h4 : rv (mg c) = 0 ↔ mg c = 0 := rv_eq_zero
  have h5 : rv (mg b) = rv (mg c) ↔ mg b = mg c := ⟨rv_inj, fun h => by rw [h]⟩
  split <;> split <;> constructor <;> omega

theorem compare_int (a b : Int) : compare a b = if a < b then .lt else if a = b then .eq else .gt := rfl

/-- The model's order of patterns. -/
def ord (x y : Nat) : Option Ordering := if infR < mg x ∨ infR < mg y then none else some (if key x < key y then .lt else if key x = key y then .eq else .gt)

theorem compare_pos {a b : Int} {p : Nat} (hp : 0 < p) : compare a b = compare (a * (p : Int)) (b * (p : Int)) := by
  rw [compare_int, compare_int]
  have h1 : a * (p : Int) < b * (p : Int) ↔ a < b := Int.mul_lt_mul_right (by omega)
  have h2 : a * (p : Int) = b * (p : Int) ↔ a = b := Int.mul_eq_mul_right_iff (by omega)
  simp only [h1, h2]

theorem order_eq {x y : Nat} (hx : x < 18446744073709551616) (hy : y < 18446744073709551616) : Ieee.double.order x y = ord x y := by
  unfold Ieee.Format.order ord
  rcases Nat.lt_trichotomy (mg x) infR with fx | fx | fx
  · obtain ⟨m, i, e1, hi, v1⟩ := read_fin hx fx
    rcases Nat.lt_trichotomy (mg y) infR with fy | fy | fy
    · obtain ⟨n, j, e2, hj, v2⟩ := read_fin hy fy
      rw [e1, e2, if_neg (by omega)]
      simp only [Ieee.Datum.order]
      have s1 := signed_units (b := x) (m := m) (e := i) (base := min i j) (by omega) (by omega) v1
      have s2 := signed_units (b := y) (m := n) (e := j) (base := min i j) (by omega) (by omega) v2
      rw [compare_pos (two_pow_pos (min i j + 1074).toNat), s1, s2, compare_int]
      obtain ⟨k1, k2⟩ := rv_key x y
      simp only [k1, k2]
    · rw [e1, read_inf hy fy, if_neg (by omega)]
      simp only [Ieee.Datum.order]
      congr 1
      unfold key
      rw [fy]
      cases sg x <;> cases sg y <;> simp <;> (try split) <;> (try split) <;> (first | rfl | omega)
    · rw [e1, read_nan hy fy, if_pos (Or.inr fy)]
      rfl
  · rcases Nat.lt_trichotomy (mg y) infR with fy | fy | fy
    · obtain ⟨n, j, e2, hj, v2⟩ := read_fin hy fy
      rw [read_inf hx fx, e2, if_neg (by omega)]
      simp only [Ieee.Datum.order]
      congr 1
      unfold key
      rw [fx]
      cases sg x <;> cases sg y <;> simp <;> (try split) <;> (try split) <;> (first | rfl | omega)
    · rw [read_inf hx fx, read_inf hy fy, if_neg (by omega)]
      simp only [Ieee.Datum.order]
      unfold key
      rw [fx, fy]
      cases sg x <;> cases sg y <;> rfl
    · rw [read_inf hx fx, read_nan hy fy, if_pos (Or.inr fy)]
      rfl
  · rw [read_nan hx fx, if_pos (Or.inl fx)]
    rfl

end Go.Proofs.YtadijoeeaineaaaDoor.Rn

/-
  Plain: patterns of binary64 in their order; the ends of intervals. Conditions: those that each theorem names.
-/
set_option linter.unusedVariables false

namespace Go.Proofs.YtadijoeeaineaaaDoor.Rn

def minf : Nat := 18442240474082181120
theorem minf_val : minf = 18442240474082181120 := rfl

def ltB (x y : Nat) : Bool := !isNaN x && !isNaN y && decide (key x < key y)
def eqB (x y : Nat) : Bool := !isNaN x && !isNaN y && decide (key x = key y)
def leB (x y : Nat) : Bool := !isNaN x && !isNaN y && decide (key x ≤ key y)

theorem order_lt {x y : Nat} (hx : x < 18446744073709551616) (hy : y < 18446744073709551616) : (Ieee.double.order x y == some .lt) = ltB x y := by
  rw [order_eq hx hy]
  unfold ord ltB isNaN
  by_cases h1 : infR < mg x
  · simp [h1]
  · by_cases h2 : infR < mg y
    · simp [h2]
    · rw [if_neg (by omega)]
      by_cases h3 : key x < key y
      · simp [h1, h2, h3]
      · by_cases h4 : key x = key y
        · simp [h1, h2, h4]
        · simp [h1, h2, h3, h4]
theorem order_eqv {x y : Nat} (hx : x < 18446744073709551616) (hy : y < 18446744073709551616) : (Ieee.double.order x y == some .eq) = eqB x y := by
  rw [order_eq hx hy]
  unfold ord eqB isNaN
  by_cases h1 : infR < mg x
  · simp [h1]
  · by_cases h2 : infR < mg y
    · simp [h2]
    · rw [if_neg (by omega)]
      by_cases h3 : key x < key y
      · have h4 : ¬ key x = key y := by omega
        simp [h1, h2, h3, h4]
      · by_cases h4 : key x = key y
        · simp [h1, h2, h4]
        · simp [h1, h2, h3, h4]
theorem order_gt {x y : Nat} (hx : x < 18446744073709551616) (hy : y < 18446744073709551616) : (Ieee.double.order x y == some .gt) = ltB y x := by
  rw [order_eq hx hy]
  unfold ord ltB isNaN
  by_cases h1 : infR < mg x
  · simp [h1]
  · by_cases h2 : infR < mg y
    · simp [h2]
    · rw [if_neg (by omega)]
      by_cases h3 : key x < key y
      · have h4 : ¬ key y < key x := by omega
        simp [h1, h2, h3, h4]
      · by_cases h4 : key x = key y
        · simp [h1, h2, h4]
        · have h5 : key y < key x := by omega
          simp [h1, h2, h3, h4, h5]
theorem order_le {x y : Nat} (hx : x < 18446744073709551616) (hy : y < 18446744073709551616) : (Ieee.double.order x y == some .lt || Ieee.double.order x y == some .eq) = leB x y := by
  rw [order_lt hx hy, order_eqv hx hy]
  unfold ltB eqB leB
  cases isNaN x <;> cases isNaN y <;> simp
  by_cases h : key x ≤ key y
  · rcases Int.lt_or_eq_of_le h with h1 | h1
    · simp [h1]; omega
    · simp [h1]
  · have h1 : ¬ key x < key y := by omega
    have h2 : ¬ key x = key y := by omega
    simp [h, h1, h2]
theorem order_ge {x y : Nat} (hx : x < 18446744073709551616) (hy : y < 18446744073709551616) : (Ieee.double.order x y == some .gt || Ieee.double.order x y == some .eq) = leB y x := by
  rw [order_gt hx hy, order_eqv hx hy]
  unfold ltB eqB leB
  cases isNaN x <;> cases isNaN y <;> simp
  by_cases h : key y ≤ key x
  · rcases Int.lt_or_eq_of_le h with h1 | h1
    · simp [h1]; omega
    · simp [h1]
  · have h1 : ¬ key y < key x := by omega
    have h2 : ¬ key x = key y := by omega
    simp [h, h1, h2]

/-- -0 as 0; what is no number stays. -/
def pl (b : Nat) : Nat := if b = 9223372036854775808 then 0 else b
/-- -0 as 0; what is no number as the one. -/
def plN (b : Nat) : Nat := if b = 9223372036854775808 then 0 else if isNaN b then 9221120237041090561 else b
theorem pl_lt {b : Nat} (h : b < 18446744073709551616) : pl b < 18446744073709551616 := by unfold pl; split <;> omega
theorem plN_lt {b : Nat} (h : b < 18446744073709551616) : plN b < 18446744073709551616 := by unfold plN; split <;> first | omega | (split <;> omega)
theorem plN_of {b : Nat} (h : isNaN b = false) : plN b = pl b := by unfold plN pl; rw [h]; simp
theorem eq0 {b : Nat} (h : b < 18446744073709551616) : eqB b 0 = decide (b = 0 ∨ b = 9223372036854775808) := by
  have h1 : key 0 = 0 := rfl
  have h2 : isNaN 0 = false := rfl
  unfold eqB
  rw [h1, h2]
  unfold isNaN key sg mg
  rw [infR_val]
  by_cases h3 : b = 0 ∨ b = 9223372036854775808
  · rw [decide_eq_true h3]
    rcases h3 with rfl | rfl <;> rfl
  · rw [decide_eq_false h3]
    by_cases h4 : 9223372036854775808 ≤ b
    · simp [h4]; omega
    · simp [h4]; omega

/-- The document's key. -/
def rkey (b : Nat) : Nat := if 9223372036854775808 ≤ plN b then 18446744073709551615 - plN b else plN b + 9223372036854775808
theorem rkey_key {b : Nat} (h : b < 18446744073709551616) (hn : isNaN b = false) : (rkey b : Int) = 9223372036854775808 + key b - (if key b < 0 then 1 else 0) := by
  unfold rkey
  rw [plN_of hn]
  unfold pl key sg mg
  by_cases h1 : b = 9223372036854775808
  · subst h1; rfl
  · rw [if_neg h1]
    by_cases h2 : 9223372036854775808 ≤ b
    · rw [if_pos h2]; simp [h2]; split <;> omega
    · rw [if_neg h2]; simp [h2]; split <;> omega
def aboveB (x y : Nat) : Bool := !isNaN x && !isNaN y && decide (rkey y < rkey x)
theorem above_lt {x y : Nat} (hx : x < 18446744073709551616) (hy : y < 18446744073709551616) : aboveB x y = ltB y x := by
  unfold aboveB ltB
  cases h1 : isNaN x
  · cases h2 : isNaN y
    · have e1 := rkey_key hx h1
      have e2 := rkey_key hy h2
      simp only [Bool.not_false, Bool.and_true, Bool.true_and]
      refine decide_eq_decide.2 ?_
      split at e1 <;> split at e2 <;> omega
    · simp
  · simp
/-- Two ends make an interval that is not empty: the program's test. -/
def sndB (lo hi : Nat) : Bool := leB lo hi && ltB lo infR && ltB minf hi
/-- .. the document's. -/
def sndR (lo hi : Nat) : Bool := !(isNaN lo || isNaN hi || aboveB lo hi) && (decide (lo ≠ infR) && decide (hi ≠ minf))
theorem key_inf : key infR = 9218868437227405312 := rfl
theorem key_minf : key minf = -9218868437227405312 := rfl
theorem nan_inf : isNaN infR = false := rfl
theorem nan_minf : isNaN minf = false := rfl
theorem key_le {b : Nat} (hn : isNaN b = false) : key b ≤ 9218868437227405312 ∧ -9218868437227405312 ≤ key b := by
  unfold isNaN at hn
  have := of_decide_eq_false hn
  rw [infR_val] at this
  unfold key
  split <;> omega
theorem key_eq_inf {b : Nat} (h : b < 18446744073709551616) (hn : isNaN b = false) : key b = 9218868437227405312 ↔ b = infR := by
  rw [infR_val]
  unfold key sg mg
  by_cases h2 : 9223372036854775808 ≤ b
  · simp [h2]; omega
  · simp [h2]; omega
theorem key_eq_minf {b : Nat} (h : b < 18446744073709551616) (hn : isNaN b = false) : key b = -9218868437227405312 ↔ b = minf := by
  rw [minf_val]
  unfold key sg mg
  by_cases h2 : 9223372036854775808 ≤ b
  · simp [h2]; omega
  · simp [h2]; omega
theorem snd_eq {lo hi : Nat} (hl : lo < 18446744073709551616) (hh : hi < 18446744073709551616) : sndB lo hi = sndR lo hi := by
  unfold sndB sndR
  rw [above_lt hl hh]
  unfold leB ltB
  rw [key_inf, key_minf, nan_inf, nan_minf]
  cases h1 : isNaN lo
  · cases h2 : isNaN hi
    · have a1 := key_le h1
      have a2 := key_le h2
      have e1 := key_eq_inf hl h1
      have e2 := key_eq_minf hh h2
      rw [Bool.eq_iff_iff]
      simp
      omega
    · simp
  · simp
/-- How two ends are read. -/
def rdLo (lo hi : Nat) : Nat := if sndB lo hi then pl lo else infR
def rdHi (lo hi : Nat) : Nat := if sndB lo hi then pl hi else minf
theorem snd_nan {lo hi : Nat} (h : sndB lo hi = true) : isNaN lo = false ∧ isNaN hi = false := by
  unfold sndB leB at h
  revert h
  cases isNaN lo <;> cases isNaN hi <;> simp
end Go.Proofs.YtadijoeeaineaaaDoor.Rn

/-
  What the library's functions without a body answer. Conditions: those that each theorem names.
-/
namespace Go.Proofs.YtadijoeeaineaaaDoor
open Go.RowKit Nm Rn
set_option maxRecDepth 100000
set_option linter.unusedVariables false
set_option linter.unusedSimpArgs false

@[go_sem] theorem run_store_float (P : Program) (w : World) (a : Addr) (m : Mode) (k : FloatKind) (b : Nat) : (store a (.float k b) m).run P w = stored P w a (.float k b) m := run_store P w a _ m rfl

theorem callF64b (args : Array Value) (w : World) : (callFunc 59 args).run Tryd.prog w = ((Extern.MathFloatBits.float64bits args).run Tryd.prog w).andThen fun v w' => .ok (.value v) w' :=
  run_callFunc_extern Tryd.func59 (by kernel_rfl) (by kernel_rfl) (by kernel_rfl) (by kernel_rfl) args w
@[go_sem] theorem callF64b' (b : Nat) (w : World) : (callFunc 59 #[.float .f64 b]).run Tryd.prog w = .ok (.value (.int .u64 (b : Int))) w := by
  rw [callF64b]; rfl
theorem callF64f (args : Array Value) (w : World) : (callFunc 65 args).run Tryd.prog w = ((Extern.MathFloatBits.float64frombits args).run Tryd.prog w).andThen fun v w' => .ok (.value v) w' :=
  run_callFunc_extern Tryd.func65 (by kernel_rfl) (by kernel_rfl) (by kernel_rfl) (by kernel_rfl) args w
@[go_sem] theorem callF64f' (n : Int) (w : World) : (callFunc 65 #[.int .u64 n]).run Tryd.prog w = .ok (.value (.float .f64 n.toNat)) w := by
  rw [callF64f]; rfl

/-- The sign's place. -/
theorem andNot_top (b : Nat) (h : b < 18446744073709551616) : bits .andNot .u64 (b : Int) 9223372036854775808 = (mg b : Int) := by
  have e : (9223372036854775808 : Int) = ((9223372036854775808 : Nat) : Int) := rfl
  rw [e, u64_andNot_nat _ _ h (by omega)]
  congr 1
  have e2 : (18446744073709551615 - 9223372036854775808 : Nat) = 2 ^ 63 - 1 := by decide
  rw [e2, Nat.and_two_pow_sub_one_eq_mod]
  rfl

set_option maxHeartbeats 400000 in
theorem isnan_any (b : Nat) (w : World) (h : b < 18446744073709551616) :
    Calls Tryd.prog 66 #[.int .u64 (b : Int)] w fun e w' => e = .returned (.bool (isNaN b)) ∧ w = w' := by
  have g := andNot_top b h
  have HF : Hid (decide ((9218868437227405312 : Int) < (mg b : Int)) = isNaN b) := Lib.hid (by unfold isNaN; rw [infR_val]; exact decide_eq_decide.2 (by omega))
  clear h
  go_enter Tryd.func66, Tryd.ntmps66
  go_wp2
  go_ret
  exact ⟨ret_bool HF.out, rfl⟩
set_option maxHeartbeats 400000 in
theorem isinf3_any (b : Nat) (w : World) (h : b < 18446744073709551616) :
    Calls Tryd.prog 67 #[.int .u64 (b : Int)] w fun e w' => e = .returned (.bool (isInf b)) ∧ w = w' := by
  have g := andNot_top b h
  have HF : Hid (((mg b : Int) == 9218868437227405312) = isInf b) := Lib.hid (by unfold isInf; rw [infR_val, Bool.eq_iff_iff, beq_iff_eq, decide_eq_true_iff]; omega)
  clear h
  go_enter Tryd.func67, Tryd.ntmps67
  go_wp2
  go_ret
  exact ⟨ret_bool HF.out, rfl⟩
set_option maxHeartbeats 400000 in
theorem neg3_any (b : Nat) (w : World) :
    Calls Tryd.prog 69 #[.int .u64 (b : Int)] w fun e w' => e = .returned (.bool (decide (9223372036854775808 < b))) ∧ w = w' := by
  have HF : Hid (decide ((9223372036854775808 : Int) < (b : Int)) = decide (9223372036854775808 < b)) := Lib.hid (decide_eq_decide.2 (by omega))
  go_enter Tryd.func69, Tryd.ntmps69
  go_wp2
  go_ret
  exact ⟨ret_bool HF.out, rfl⟩
set_option maxHeartbeats 400000 in
theorem plain3_any (b : Nat) (w : World) (h : b < 18446744073709551616) :
    Calls Tryd.prog 19 #[.int .u64 (b : Int)] w fun e w' => e = .returned (.int .u64 (plN b : Nat)) ∧ w = w' := by
  have hn := isnan_any b w h
  by_cases h0 : b = 9223372036854775808
  · have HF : Hid ((0 : Int) = (plN b : Nat)) := Lib.hid (by unfold plN; rw [if_pos h0]; rfl)
    clear hn h
    have h1 : ((b : Int) == 9223372036854775808) = true := by rw [beq_iff_eq]; omega
    clear h0
    go_enter Tryd.func19, Tryd.ntmps19
    go_wp2
    go_ret
    exact ⟨ret_int HF.out, rfl⟩
  · have h1 : ((b : Int) == 9223372036854775808) = false := by rw [beq_eq_false_iff_ne]; omega
    cases h2 : isNaN b
    · have HF : Hid ((b : Int) = (plN b : Nat)) := Lib.hid (by unfold plN; rw [if_neg h0, h2, if_neg (by simp)])
      rw [h2] at hn
      have HN := Lib.hid hn
      clear hn h h0 h2
      go_enter Tryd.func19, Tryd.ntmps19
      go_wp2_with fail
      refine HN.out.mono ?_
      rintro e w1 ⟨rfl, rfl⟩
      go_wp2
      go_ret
      exact ⟨ret_int HF.out, rfl⟩
    · have HF : Hid ((9221120237041090561 : Int) = (plN b : Nat)) := Lib.hid (by unfold plN; rw [if_neg h0, h2, if_pos rfl]; rfl)
      rw [h2] at hn
      have HN := Lib.hid hn
      clear hn h h0 h2
      go_enter Tryd.func19, Tryd.ntmps19
      go_wp2_with fail
      refine HN.out.mono ?_
      rintro e w1 ⟨rfl, rfl⟩
      go_wp2
      go_ret
      exact ⟨ret_int HF.out, rfl⟩
end Go.Proofs.YtadijoeeaineaaaDoor

/-
  The contracts of the reference's naturals, first part: words, Long. Conditions: those that each theorem names.
-/
namespace Go.Proofs.YtadijoeeaineaaaDoor
open Go.RowKit Nm
set_option maxRecDepth 100000
set_option linter.unusedVariables false
set_option linter.unusedSimpArgs false

set_option maxHeartbeats 400000 in
theorem words_any (A : Option Addr) (n c : Nat) (xs : List Nat) (w : World) (h : Wds w A n c xs) (hn : n ≤ 35184372088832) :
    Calls Tryd.prog 90 #[.slice A n c] w fun e w' => e = .returned (.int .i64 (nw (nv xs) : Int)) ∧ w = w' := by
  have hlen := h.len
  go_enter Tryd.func90, Tryd.ntmps90
  go_wp2
  go_loop [3] (fun i => ∃ k : Nat, k ≤ n ∧ i = .int .i64 k ∧ ∀ j, (hj : j < xs.length) → k ≤ j → xs[j] = 0) (fun i => (intOf i).toNat)
  case atStart => exact ⟨n, Nat.le_refl _, rfl, fun j hj hk => by omega⟩
  case round =>
    obtain ⟨k, hk, rfl, hz⟩ := hrel
    have HZ := Lib.hid hz
    clear hz
    by_cases h0 : k = 0
    · subst h0
      go_wp2
      go_ret
      exact ⟨ret_int (by rw [(take_trim h.ws (Nat.zero_le _) HZ.out (fun k hk e => by omega)).2.1]; rfl), rfl⟩
    · obtain ⟨ad, hx, rfl, hb, hc⟩ := h.at_ (k := k - 1) (by omega)
      by_cases hx0 : xs[k - 1] = 0
      · go_wp2
        go_round
        case rel => exact ⟨k - 1, by omega, by go_num, fun j hj hkj => by
          by_cases e : j = k - 1
          · subst e; exact hx0
          · exact HZ.out j hj (by omega)⟩
        case measure => simp [intOf]; omega
      · go_wp2
        go_ret
        exact ⟨ret_int (by rw [(take_trim h.ws (by omega) HZ.out (fun j hj e => by
          have e : j = k - 1 := by omega
          subst e; exact hx0)).2.1]), rfl⟩

theorem info_u32 : (Tryd.prog.info? 48).map (fun i => (i.zero, i.size, i.bytes)) = some (some (.int .u32 0), 1, 4) := by kernel_rfl

/-- Block g is just the words L, none of them frozen. -/
def Row (w : World) (g : Nat) (L : List Nat) : Prop := w.heap[g]? = some (.cells (u32s L).toArray 48 (0, 0))

section
variable {w w' : World} {g : Nat} {L : List Nat}
theorem Row.lt (h : Row w g L) : g < w.heap.size := by
  rcases Nat.lt_or_ge g w.heap.size with hlt | hge
  · exact hlt
  · unfold Row at h; rw [Array.getElem?_eq_none hge] at h; cases h
theorem Row.cell (h : Row w g L) {i : Nat} (hi : i < L.length) : w.cell? ⟨g, i, none⟩ = some (.int .u32 (L[i] : Int)) := by
  unfold Row at h
  simp [World.cell?, h, u32s, hi]
theorem Row.frozen (h : Row w g L) (i : Nat) : w.frozen? ⟨g, i, none⟩ = false := by
  unfold Row at h
  simp [World.frozen?, h]
theorem Row.set_ (h : Row w g L) (i : Nat) (x : Nat) : Row (w.setCell ⟨g, i, none⟩ (.int .u32 (x : Int))) g (L.set i x) := by
  unfold Row at h ⊢
  simp [World.setCell, Array.getElem?_modify, h, u32s, List.map_set]
theorem Row.new (w : World) (L : List Nat) : Row (w.alloc (.cells (u32s L).toArray 48)) w.heap.size L := heap_alloc_new w _
theorem Row.drew (h : Row w g L) : Row w.drew g L := h
theorem Row.drewN (h : Row w g L) (n : Nat) : Row (w.drewN n) g L := h
theorem Row.ext (h : Row w g L) (hb : Ext w w') : Row w' g L := (Below.block hb g h.lt).trans h
theorem Row.alloc (h : Row w g L) (o : Obj) : Row (w.alloc o) g L := h.ext ((Ext.refl w).alloc o)
theorem Row.far (h : Row w g L) {p : Addr} (hp : g ≠ p.block) (u : Value) : Row (w.setCell p u) g L := (Below.heap_setCell w p u g hp).trans h
theorem Row.wds (h : Row w g L) (hL : Ws L) {n c : Nat} (hn : L.length = n) (hc : n ≤ c) (hm : c ≤ maxLen) : Wds w (some ⟨g, 0, none⟩) n c L :=
  ⟨hn, hc, hm, hL, fun _ => ⟨_, rfl, h.lt, fun k x hk => by
    have hk' : k < L.length := (List.getElem?_eq_some_iff.1 hk).1
    have := h.cell hk'
    rw [List.getElem?_eq_getElem hk'] at hk
    injection hk with hk
    rw [← hk, ← this]
    unfold Addr.add
    split
    · subst_vars; rfl
    · simp⟩⟩
theorem Row.own (h : Row w g L) {base n : Nat} (hb : base ≤ g) (hn : L.length = n) (hm : n ≤ maxLen) : w.ownsRow base 48 1 (.slice (some ⟨g, 0, none⟩) n n) n (u32s L) :=
  ⟨by rw [u32s_length]; omega, .inr ⟨g, n, _, rfl, hb, h, Nat.le_refl _, hm, by simp [u32s_length, hn], by simp [List.take_of_length_le, u32s_length, hn]⟩⟩
end

theorem cells_replicate (n : Nat) : madeCells (Value.int .u32 0).cells (n * 1) = (u32s (List.replicate n 0)).toArray := by
  apply Array.ext
  · simp [size_madeCells, u32s]
  · intro i h1 h2
    simp [madeCells, u32s, Value.cells, Nat.mod_one]

/-- make([]uint32, n). -/
theorem run_make32 (n : Nat) (hn : n ≤ 70368744177664) (w : World) :
    (Instr.makeSlice 36 (.int .i64 (n : Int)) (.int .i64 (n : Int))).run Tryd.prog w = .ok (.slice (some ⟨w.heap.size, 0, none⟩) n n) (w.alloc (.cells (u32s (List.replicate n 0)).toArray 48)) := by
  obtain ⟨i0, hi0, hz0, hz1, hz2⟩ := info_parts info_u32
  have hr := run_make (P := Tryd.prog) w 36 48 i0 (.int .u32 0) Tryd.underlying36 hi0 hz0 .i64 .i64 n n (by omega) (by omega) (by rw [hz2]; omega) (by omega)
  simp only [Int.toNat_natCast] at hr
  rw [hr, hz1, cells_replicate]

/-- One word more, onto a row of the call's own. -/
theorem wp_app32 {ops : Array Oper} {rest : List Oper} {o : Oper} {a : Act} {Q : Exit → Act → World → Prop} (hgd : o.guard = none) (s x : Operand)
    (ho : o.op = .call { callee := .builtin .append, args := #[s, x], argTypes := #[36, 36] })
    {w0 wr : World} {v : Value} {j : Nat} {acc : List Nat} (lo : Nat) {xv : Int} (hs : a.eval s = v) (hown : wr.ownsRow w0.heap.size 48 1 v j (u32s acc)) (hb : Ext w0 wr)
    (hx : a.eval x = .slice (some ⟨wr.heap.size, 0, none⟩) 1 1) (hxv : xv = (lo : Int)) (hj : j ≤ 35184372088000)
    (h : ∀ v' w1, w1.ownsRow w0.heap.size 48 1 v' (j + 1) (u32s (acc ++ [lo])) → Ext w0 w1 → wpList Tryd.prog ops Q rest (a.put o.dst v') w1) :
    wpList Tryd.prog ops Q (o :: rest) a (wr.alloc (.cells #[.int .u32 xv] 48)) := by
  obtain ⟨i0, hi0, hz0, hz1, hz2⟩ := info_parts info_u32
  subst hxv
  refine wpList_append_own _ hgd s x _ ho w0.heap.size 48 i0 (.int .u32 0) 1 4 Tryd.underlying36 hi0 hz0 hz1 hz2 rfl (by decide) _ _ _ hs (hown.alloc _) ⟨wr.heap.size, 0, none⟩ 1 1 [.int .u32 (lo : Int)] hx rfl (cell_one_new _ _ _) (by simp [Value.oneCell']) (by simp only [maxLen]; omega) (by omega) (by have := hb.size; simp; omega) ?_
  intro v' w1 hown' hgrow _
  rw [u32s_snoc] at hown'
  exact h v' w1 hown' ((hb.alloc _).grown hgrow fun q hq => (hown.lt q hq).1)

set_option maxHeartbeats 400000 in
theorem norm_any (A : Option Addr) (n c : Nat) (xs : List Nat) (w : World) (h : Wds w A n c xs) (hn : n ≤ 35184372088000) :
    Calls Tryd.prog 94 #[.slice A n c] w (RetW (nv xs) w) := by
  have hlen := h.len
  obtain ⟨i0, hi0, hz0, hz1, hz2⟩ := info_parts info_u32
  go_enter Tryd.func94, Tryd.ntmps94
  go_wp2
  go_loop [3] (fun i => ∃ k : Nat, k ≤ n ∧ i = .int .i64 k ∧ ∀ j, (hj : j < xs.length) → k ≤ j → xs[j] = 0) (fun i => (intOf i).toNat)
  case atStart => exact ⟨n, Nat.le_refl _, rfl, fun j hj hk => by omega⟩
  case round =>
    obtain ⟨k, hk, rfl, hz⟩ := hrel
    have HZ := Lib.hid hz
    clear hz
    by_cases hx0 : k ≠ 0 ∧ ∃ hx : k - 1 < xs.length, xs[k - 1] = 0
    · obtain ⟨h0, hx, hx0⟩ := hx0
      obtain ⟨ad, hx, rfl, hb, hc⟩ := h.at_ (k := k - 1) (by omega)
      go_wp2
      go_round
      case rel => exact ⟨k - 1, by omega, by go_num, fun j hj hkj => by
        by_cases e : j = k - 1
        · subst e; exact hx0
        · exact HZ.out j hj (by omega)⟩
      case measure => simp [intOf]; omega
    · have hT := take_trim h.ws (n := k) (by omega) HZ.out (fun j hj e => by
        intro hj0
        refine hx0 ⟨by omega, by omega, ?_⟩
        have e : k - 1 = j := by omega
        subst e; exact hj0)
      have HT := Lib.hid hT.1
      clear hT
      have hgo : k ≤ 0 ∨ ∃ ad, ∃ hx : k - 1 < xs.length, 0 < k ∧ A = some ad ∧ xs[k - 1] ≠ 0 ∧ w.cell? (ad.add (k - 1)) = some (.int .u32 (xs[k - 1] : Int)) := by
        by_cases h0 : k = 0
        · exact Or.inl (by omega)
        · obtain ⟨ad, hx, rfl, hb, hc⟩ := h.at_ (k := k - 1) (by omega)
          exact Or.inr ⟨ad, hx, by omega, rfl, fun e => hx0 ⟨h0, hx, e⟩, hc⟩
      clear hx0
      rcases hgo with hk0 | ⟨ad0, hx, hk0, rfl, hx0, hc⟩
      all_goals
        go_wp2
        go_loopw [4, 5] (fun v i wr => ∃ j : Nat, j ≤ k ∧ i = .int .i64 j ∧ wr.ownsRow w.heap.size 48 1 v j (u32s (xs.take j)) ∧ Ext w wr) (fun _ i _ => k - (intOf i).toNat)
        case atStart => exact ⟨0, Nat.zero_le _, rfl, World.ownsRow_nil _ _ _ _, Ext.refl _⟩
        case round =>
          obtain ⟨j, hj, rfl, hown, hb⟩ := hrel
          by_cases hlt : j < k
          · first
            | (exfalso; omega)
            | (obtain ⟨ad, hxj, hA, hbj, hcj⟩ := (h.ext hb).at_ (k := j) (by omega)
               have hrow : u32s (xs.take j) ++ [.int .u32 (xs[j] : Int)] = u32s (xs.take (j + 1)) := by
                 rw [u32s_snoc, List.take_succ_eq_append_getElem hxj]
               have HR := Lib.hid hrow
               clear hrow
               first | subst hA | (injection hA with hA; subst hA)
               go_wp2_with (at_builtin; refine wpList_append_own _ rfl (.tmp 25) (.tmp 30) _ rfl w.heap.size 48 i0 (.int .u32 0) 1 4 Tryd.underlying36 hi0 hz0 hz1 hz2 rfl (by decide) _ _ _ rfl (hown.alloc _) ⟨wr.heap.size, 0, none⟩ 1 1 [.int .u32 (xs[j] : Int)] rfl rfl (cell_one_new _ _ _) (by simp [Value.oneCell']) (by simp only [maxLen]; omega) (by omega) (by have := hb.size; simp; omega) ?_; intro v' w1 hown' hgrow _)
               go_roundw
               case rel => exact ⟨j + 1, by omega, by go_num, by rw [← HR.out]; exact hown', (hb.alloc _).grown hgrow fun q hq => (hown.lt q hq).1⟩
               case measure => simp [intOf]; omega)
          · have e : j = k := by omega
            subst e
            obtain ⟨A', c', rfl, hW⟩ := Wds.of_own hown (h.ws.take j)
            go_wp2
            go_ret
            exact ⟨A', j, c', rfl, by rw [HT.out]; exact hW, hb⟩
end Go.Proofs.YtadijoeeaineaaaDoor
