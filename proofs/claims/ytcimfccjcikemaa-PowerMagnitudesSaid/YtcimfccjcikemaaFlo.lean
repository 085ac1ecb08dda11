/-
  Patterns of binary64 as signed numbers, and what the model's sum, product and order make of them.
  Plain arithmetic over the model's own words for floats: no program is in sight. Conditions: none but those that each theorem names.
-/
import Derived.Test.YtcimfccjcikemaaIee
set_option linter.unusedVariables false
set_option linter.unusedSimpArgs false
namespace Go.Proofs.Ytcimfccjcikemaa.Rn

/-- The sign's bit. -/
def sg (b : Nat) : Bool := decide (9223372036854775808 ≤ b)
/-- The rung: the pattern without its sign. -/
def mg (b : Nat) : Nat := b % 9223372036854775808
/-- The number, in units of 2^-1074. -/
def sv (b : Nat) : Int := if sg b then -(rv (mg b) : Int) else (rv (mg b) : Int)
/-- Patterns in their order. -/
def key (b : Nat) : Int := if sg b then -(mg b : Int) else (mg b : Int)
def isNaN (b : Nat) : Bool := decide (infR < mg b)
def isInf (b : Nat) : Bool := decide (mg b = infR)
def isFin (b : Nat) : Bool := decide (mg b < infR)

theorem infR_val : infR = 9218868437227405312 := rfl

theorem mg_lt (b : Nat) : mg b < 9223372036854775808 := Nat.mod_lt _ (by omega)

theorem split_pat {b : Nat} (hb : b < 18446744073709551616) : b = if sg b then 9223372036854775808 + mg b else mg b := by
  unfold sg mg
  split <;> rename_i h <;> simp at h <;> omega

theorem word_eq (neg : Bool) (r : Nat) : Ieee.double.word neg r = if neg then 9223372036854775808 + r else r := rfl

theorem sg_word {neg : Bool} {r : Nat} (hr : r < 9223372036854775808) : sg (Ieee.double.word neg r) = neg := by
  rw [word_eq]; unfold sg
  cases neg <;> simp <;> omega

theorem mg_word {neg : Bool} {r : Nat} (hr : r < 9223372036854775808) : mg (Ieee.double.word neg r) = r := by
  rw [word_eq]; unfold mg
  cases neg <;> simp <;> omega

theorem word_lt {neg : Bool} {r : Nat} (hr : r < 9223372036854775808) : Ieee.double.word neg r < 18446744073709551616 := by
  rw [word_eq]
  cases neg <;> simp <;> omega

theorem rr_le (d : Int) (neg : Bool) (Z : Nat) : rr d neg Z ≤ infR := by
  unfold rr infR
  split <;> omega

theorem rr_lt (d : Int) (neg : Bool) (Z : Nat) : rr d neg Z < 9223372036854775808 := by
  have := rr_le d neg Z
  unfold infR at this
  omega

theorem rr_near (neg neg' : Bool) (Z : Nat) : rr 0 neg Z = rr 0 neg' Z := by
  simp [rr, away]

/-- The rung nearest to the number that Z tells of. -/
def near (Z : Nat) : Nat := rr 0 false Z
theorem near_eq (neg : Bool) (Z : Nat) : rr 0 neg Z = near Z := rr_near _ _ _

theorem sg_bit {b : Nat} (hb : b < 18446744073709551616) : (b / Ieee.double.signWeight % 2 == 1) = sg b := by
  have e : Ieee.double.signWeight = 9223372036854775808 := rfl
  rw [e, Bool.eq_iff_iff]
  unfold sg
  simp
  omega

theorem read_fin {b : Nat} (hb : b < 18446744073709551616) (h : mg b < infR) :
    ∃ m e, Ieee.double.read b = .number (sg b) m e ∧ -1074 ≤ e ∧ m * 2 ^ (e + 1074).toNat = rv (mg b) := by
  have e : Ieee.double.signWeight = 9223372036854775808 := rfl
  have e1 : Ieee.double.binade = 4503599627370496 := rfl
  have e2 : Ieee.double.infRung = 9218868437227405312 := rfl
  have e3 : Ieee.double.leastPlace = -1074 := rfl
  unfold Ieee.Format.read
  simp only [sg_bit hb]
  rw [e, e1, e2, e3]
  have hm : b % 9223372036854775808 = mg b := rfl
  rw [hm]
  unfold infR at h
  generalize mg b = r at *
  by_cases h1 : r < 4503599627370496
  · rw [if_pos h1]
    exact ⟨r, -1074, rfl, by omega, by simp [rv, h1]⟩
  · rw [if_neg h1, if_pos h]
    refine ⟨_, _, rfl, by omega, ?_⟩
    unfold rv
    rw [if_neg h1]
    congr 2
    omega

theorem read_inf {b : Nat} (hb : b < 18446744073709551616) (h : mg b = infR) : Ieee.double.read b = .infinity (sg b) := by
  have e : Ieee.double.signWeight = 9223372036854775808 := rfl
  have e1 : Ieee.double.binade = 4503599627370496 := rfl
  have e2 : Ieee.double.infRung = 9218868437227405312 := rfl
  unfold Ieee.Format.read
  simp only [sg_bit hb]
  rw [e, e1, e2]
  have hm : b % 9223372036854775808 = mg b := rfl
  rw [hm, h]
  rfl

theorem read_nan {b : Nat} (hb : b < 18446744073709551616) (h : infR < mg b) : Ieee.double.read b = .nan (sg b) (mg b - infR) := by
  have e : Ieee.double.signWeight = 9223372036854775808 := rfl
  have e1 : Ieee.double.binade = 4503599627370496 := rfl
  have e2 : Ieee.double.infRung = 9218868437227405312 := rfl
  unfold Ieee.Format.read
  simp only [sg_bit hb]
  rw [e, e1, e2]
  have hm : b % 9223372036854775808 = mg b := rfl
  rw [hm]
  unfold infR at *
  rw [if_neg (by omega), if_neg (by omega), if_neg (by omega)]

theorem signed_mul (neg : Bool) (m up c : Nat) : Ieee.signed neg m up * (2 ^ c : Nat) = if neg then -((m * 2 ^ (up + c) : Nat) : Int) else ((m * 2 ^ (up + c) : Nat) : Int) := by
  unfold Ieee.signed
  rw [Nat.shiftLeft_eq, Nat.pow_add, ← Nat.mul_assoc]
  cases neg
  · simp
  · simp only [if_true, Int.neg_mul, Int.natCast_mul]

/-- The number of a datum, in units of 2^-1074, out of its parts over any base. -/
theorem signed_units {b m : Nat} {e base : Int} (he : -1074 ≤ base) (hbe : base ≤ e) (hv : m * 2 ^ (e + 1074).toNat = rv (mg b)) :
    Ieee.signed (sg b) m (e - base).toNat * (2 ^ (base + 1074).toNat : Nat) = sv b := by
  rw [signed_mul, show (e - base).toNat + (base + 1074).toNat = (e + 1074).toNat by omega, hv]
  rfl

/-- What a finite sum is written as. -/
def sumPat (neg : Bool) (S : Int) : Nat := if S = 0 then Ieee.double.word neg 0 else Ieee.double.word (decide (S < 0)) (near (4 * S.natAbs))

theorem add_fin {x y : Nat} (hx : x < 18446744073709551616) (hy : y < 18446744073709551616) (fx : mg x < infR) (fy : mg y < infR) :
    Ieee.double.add x y = some (sumPat (sg x && sg y) (sv x + sv y)) := by
  obtain ⟨m, i, e1, hi, v1⟩ := read_fin hx fx
  obtain ⟨n, j, e2, hj, v2⟩ := read_fin hy fy
  unfold Ieee.Format.add
  rw [e1, e2]
  simp only [Ieee.Datum.sum, Option.map_some]
  congr 1
  have s1 := signed_units (b := x) (m := m) (e := i) (base := min i j) (by omega) (by omega) v1
  have s2 := signed_units (b := y) (m := n) (e := j) (base := min i j) (by omega) (by omega) v2
  generalize hT : Ieee.signed (sg x) m (i - min i j).toNat + Ieee.signed (sg y) n (j - min i j).toNat = T
  have hS : T * (2 ^ (min i j + 1074).toNat : Nat) = sv x + sv y := by
    rw [← hT, Int.add_mul, s1, s2]
  have hp : 0 < 2 ^ (min i j + 1074).toNat := two_pow_pos _
  generalize hP : 2 ^ (min i j + 1074).toNat = p at *
  have hz : T = 0 ↔ sv x + sv y = 0 := by
    rw [← hS]
    constructor
    · intro h; rw [h, Int.zero_mul]
    · intro h
      rcases Int.mul_eq_zero.1 h with h | h
      · exact h
      · omega
  have hneg : T < 0 ↔ sv x + sv y < 0 := by
    rw [← hS]
    constructor
    · intro h
      exact Int.mul_neg_of_neg_of_pos h (by omega)
    · intro h
      rcases Int.lt_or_le T 0 with h' | h'
      · exact h'
      · have := Int.mul_nonneg h' (show (0 : Int) ≤ (p : Int) by omega)
        omega
  unfold sumPat Ieee.Format.write
  simp only
  rw [nearest_eq, near_eq]
  have hza : zd T.natAbs (min i j) = 4 * (sv x + sv y).natAbs := by
    rw [zd_units (S := (sv x + sv y).natAbs) (by omega)]
    rw [← hS, Int.natAbs_mul, Int.natAbs_natCast, hP]
  rw [hza]
  by_cases h0 : sv x + sv y = 0
  · rw [if_pos (hz.2 h0), if_pos h0, h0]
    rfl
  · rw [if_neg (fun h => h0 (hz.1 h)), if_neg h0]
    congr 1
    exact decide_eq_decide.2 hneg

/-- What a finite product is written as: P in units of 2^-2148. -/
theorem mul_fin {x y : Nat} (hx : x < 18446744073709551616) (hy : y < 18446744073709551616) (fx : mg x < infR) (fy : mg y < infR) :
    Ieee.double.mul x y = some (Ieee.double.word (sg x ^^ sg y) (near (zq (rv (mg x) * rv (mg y)) (2 ^ 1073)))) := by
  obtain ⟨m, i, e1, hi, v1⟩ := read_fin hx fx
  obtain ⟨n, j, e2, hj, v2⟩ := read_fin hy fy
  unfold Ieee.Format.mul
  rw [e1, e2]
  simp only [Ieee.Datum.product, Option.map_some]
  congr 1
  unfold Ieee.Format.write
  simp only
  rw [nearest_eq, near_eq]
  congr 2
  rw [zd_of (A := (i + 1074).toNat + (j + 1074).toNat) (B := 1073) (by omega), Nat.pow_add, ← v1, ← v2]
  congr 1
  rw [Nat.mul_mul_mul_comm]

theorem rv_key (b : Nat) : ∀ c, (sv b < sv c ↔ key b < key c) ∧ (sv b = sv c ↔ key b = key c) := by
  intro c
  unfold sv key
  have h1 := rv_lt_iff (a := mg b) (b := mg c)
  have h2 := rv_lt_iff (a := mg c) (b := mg b)
  have h3 : rv (mg b) = 0 ↔ mg b = 0 := rv_eq_zero
  have h4 : rv (mg c) = 0 ↔ mg c = 0 := rv_eq_zero
  have h5 : rv (mg b) = rv (mg c) ↔ mg b = mg c := ⟨rv_inj, fun h => by rw [h]⟩
  split <;> split <;> constructor <;> omega

theorem compare_int (a b : Int) : compare a b = if a < b then .lt else if a = b then .eq else .gt := rfl

/-- The model's order of patterns. -/
def ord (x y : Nat) : Option Ordering := if infR < mg x ∨ infR < mg y then none else some (if key x < key y then .lt else if key x = key y then .eq else .gt)

theorem compare_pos {a b : Int} {p : Nat} (hp : 0 < p) : compare a b = compare (a * (p : Int)) (b * (p : Int)) := by
  rw [compare_int, compare_int]
  have h1 : a * (p : Int) < b * (p : Int) ↔ a < b := Int.mul_lt_mul_right (by omega)
  have h2 : a * (p : Int) = b * (p : Int) ↔ a = b := Int.mul_eq_mul_right_iff (by omega)
  simp only [h1, h2]

theorem order_eq {x y : Nat} (hx : x < 18446744073709551616) (hy : y < 18446744073709551616) : Ieee.double.order x y = ord x y := by
  unfold Ieee.Format.order ord
  rcases Nat.lt_trichotomy (mg x) infR with fx | fx | fx
  · obtain ⟨m, i, e1, hi, v1⟩ := read_fin hx fx
    rcases Nat.lt_trichotomy (mg y) infR with fy | fy | fy
    · obtain ⟨n, j, e2, hj, v2⟩ := read_fin hy fy
      rw [e1, e2, if_neg (by omega)]
      simp only [Ieee.Datum.order]
      have s1 := signed_units (b := x) (m := m) (e := i) (base := min i j) (by omega) (by omega) v1
      have s2 := signed_units (b := y) (m := n) (e := j) (base := min i j) (by omega) (by omega) v2
      rw [compare_pos (two_pow_pos (min i j + 1074).toNat), s1, s2, compare_int]
      obtain ⟨k1, k2⟩ := rv_key x y
      simp only [k1, k2]
    · rw [e1, read_inf hy fy, if_neg (by omega)]
      simp only [Ieee.Datum.order]
      congr 1
      unfold key
      rw [fy]
      cases sg x <;> cases sg y <;> simp <;> (try split) <;> (try split) <;> (first | rfl | omega)
    · rw [e1, read_nan hy fy, if_pos (Or.inr fy)]
      rfl
  · rcases Nat.lt_trichotomy (mg y) infR with fy | fy | fy
    · obtain ⟨n, j, e2, hj, v2⟩ := read_fin hy fy
      rw [read_inf hx fx, e2, if_neg (by omega)]
      simp only [Ieee.Datum.order]
      congr 1
      unfold key
      rw [fx]
      cases sg x <;> cases sg y <;> simp <;> (try split) <;> (try split) <;> (first | rfl | omega)
    · rw [read_inf hx fx, read_inf hy fy, if_neg (by omega)]
      simp only [Ieee.Datum.order]
      unfold key
      rw [fx, fy]
      cases sg x <;> cases sg y <;> rfl
    · rw [read_inf hx fx, read_nan hy fy, if_pos (Or.inr fy)]
      rfl
  · rw [read_nan hx fx, if_pos (Or.inl fx)]
    rfl

end Go.Proofs.Ytcimfccjcikemaa.Rn
