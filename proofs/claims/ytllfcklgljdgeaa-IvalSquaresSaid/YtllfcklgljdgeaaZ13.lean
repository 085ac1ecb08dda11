/-
  Plain: a natural times a power of 2, and a little more, cut to 55 bits and rounded out of the last two. Conditions: those that each theorem names.
-/
import Derived.Test.YtllfcklgljdgeaaZ04
import Derived.Test.YtllfcklgljdgeaaZ11
import Derived.Test.YtllfcklgljdgeaaZ12
import Derived.Test.YtllfcklgljdgeaaZ09
import Derived.Deep.DeepCutAuto
import Derived.Deep.CutBlock
set_option linter.unusedVariables false
set_option linter.unusedSimpArgs false
namespace Go.Proofs.Ytllfcklgljdgeaa.Rn
open Go.Proofs.Ytllfcklgljdgeaa.Nm

/-- The step away from 0, out of the last two bits. -/
def upO (d : Int) (neg : Bool) (s r : Nat) : Bool := if r = 0 then false else if d = 1 then !neg else if d = -1 then neg else (decide (r = 3) || (decide (r = 2) && decide (s % 2 = 1)))

/-- W, its last bit set where something was cut off. -/
def stick (W : Nat) (f : Bool) : Nat := if f && W % 2 == 0 then W + 1 else W
theorem stick_div (W : Nat) (f : Bool) : stick W f / 4 = W / 4 := by
  unfold stick
  split
  · rename_i h
    simp at h
    omega
  · rfl
theorem stick_mod (W : Nat) (f : Bool) : stick W f % 4 = if f then (if W % 4 < 2 then 1 else 3) else W % 4 := by
  unfold stick
  cases f
  · simp
  · simp only [Bool.true_and, if_true]
    by_cases h : W % 2 = 0
    · rw [if_pos (by simpa using h)]; split <;> omega
    · rw [if_neg (by simpa using h)]; split <;> omega
theorem or_one (W : Nat) : W ||| 1 = stick W true := by
  unfold stick
  by_cases h : W % 2 = 0
  · rw [if_pos (by simpa using h)]
    have := Nat.two_pow_add_eq_or_of_lt (i := 1) (b := 1) (by omega) (W / 2)
    have e : 2 ^ 1 * (W / 2) = W := by omega
    rw [e] at this
    exact this.symm
  · rw [if_neg (by simpa using h)]
    have := Nat.two_pow_add_eq_or_of_lt (i := 1) (b := 1) (by omega) (W / 2)
    have e : 2 ^ 1 * (W / 2) + 1 = W := by omega
    rw [e] at this
    rw [this, Nat.or_assoc, Nat.or_self]

theorem rr_parts {mag a b G W t u : Nat} {place L : Int} (hu0 : (u : Int) = L + 1074) (hab : (a : Int) - b = place - L) (hG : 2 ^ b = 4 * G) (hx : mag * 2 ^ a = W * G + t) (ht : t < G)
    (hs : W / 4 < 9007199254740992) (hu : u ≠ 0 → 4503599627370496 ≤ W / 4) (huu : u ≤ 2045) (d : Int) (neg : Bool) {v : Nat} (hv : v = stick W (decide (t ≠ 0))) :
    rnd d neg (zd mag place) = pat neg (u * 4503599627370496 + (v / 4 + (upO d neg (v / 4) (v % 4)).toNat)) := by
  have hd : v / 4 = W / 4 := by rw [hv, stick_div]
  have hm : v % 4 = if t ≠ 0 then (if W % 4 < 2 then 1 else 3) else W % 4 := by rw [hv, stick_mod]; simp only [decide_eq_true_eq]
  obtain ⟨s, hse⟩ : ∃ s, s = W / 4 := ⟨_, rfl⟩
  obtain ⟨r, hre⟩ : ∃ r, r = W % 4 := ⟨_, rfl⟩
  rw [← hse] at hs hu hd
  rw [← hre] at hm
  have hr4 : r < 4 := by omega
  have hW : W * G = s * (4 * G) + r * G := by
    have : W = s * 4 + r := by omega
    rw [this, Nat.add_mul, Nat.mul_assoc]
  rw [hW, Nat.add_assoc] at hx
  rw [hd]
  have e0 : r * G + t < 4 * G := by
    have : r * G ≤ 3 * G := Nat.mul_le_mul_right _ (by omega)
    omega
  have hup : upO d neg s (v % 4) = if mag * 2 ^ a = s * 2 ^ b then false else if d = 1 then !neg else if d = -1 then neg else
      decide ((2 * s + 1) * 2 ^ b < 2 * (mag * 2 ^ a)) || (decide (2 * (mag * 2 ^ a) = (2 * s + 1) * 2 ^ b) && decide (s % 2 = 1)) := by
    rw [hG, hx]
    unfold upO
    have c1 : v % 4 = 0 ↔ s * (4 * G) + (r * G + t) = s * (4 * G) := by
      rw [hm]
      constructor
      · intro h
        by_cases h0 : t ≠ 0
        · rw [if_pos h0] at h; split at h <;> omega
        · rw [if_neg h0] at h
          have : t = 0 := Decidable.not_not.1 h0
          rw [this, h]; simp
      · intro h
        have h1 : r * G + t = 0 := by omega
        have h2 : t = 0 := by omega
        have h3 : r * G = 0 := by omega
        rw [if_neg (by omega)]
        rcases Nat.mul_eq_zero.1 h3 with h4 | h4
        · exact h4
        · omega
    have e1 : (2 * s + 1) * (4 * G) = 2 * (s * (4 * G)) + 4 * G := by rw [Nat.add_mul, Nat.mul_assoc]; omega
    have e2 : 2 * (s * (4 * G) + (r * G + t)) = 2 * (s * (4 * G)) + 2 * (r * G + t) := by omega
    have hrG : r = 0 ∧ r * G = 0 ∨ r = 1 ∧ r * G = G ∨ r = 2 ∧ r * G = 2 * G ∨ r = 3 ∧ r * G = 3 * G := by
      have : r = 0 ∨ r = 1 ∨ r = 2 ∨ r = 3 := by omega
      rcases this with h | h | h | h <;> subst h <;> simp
    have c3 : v % 4 = 3 ↔ (2 * s + 1) * (4 * G) < 2 * (s * (4 * G) + (r * G + t)) := by
      rw [hm, e1, e2]
      rcases hrG with ⟨h1, h2⟩ | ⟨h1, h2⟩ | ⟨h1, h2⟩ | ⟨h1, h2⟩ <;> rw [h2, h1] <;> by_cases h0 : t = 0 <;> simp [h0] <;> omega
    have c2 : v % 4 = 2 ↔ 2 * (s * (4 * G) + (r * G + t)) = (2 * s + 1) * (4 * G) := by
      rw [hm, e1, e2]
      rcases hrG with ⟨h1, h2⟩ | ⟨h1, h2⟩ | ⟨h1, h2⟩ | ⟨h1, h2⟩ <;> rw [h2, h1] <;> by_cases h0 : t = 0 <;> simp [h0] <;> omega
    simp only [c1, c2, c3]
  have hlo : s * 2 ^ b ≤ mag * 2 ^ a := by rw [hG, hx]; omega
  have hhi : mag * 2 ^ a < (s + 1) * 2 ^ b := by rw [hG, hx, Nat.add_mul]; omega
  have hf := rr_form hu0 hab hs hu hlo hhi d neg _ hup
  unfold rnd
  rw [hf]
  have hb1 : (upO d neg s (v % 4)).toNat ≤ 1 := by cases upO d neg s (v % 4) <;> simp
  split
  · rename_i htw
    have : upO d neg s (v % 4) = false := by
      unfold upO
      rcases htw with ⟨h1, h2⟩ | ⟨h1, h2⟩
      · rw [h1, h2]; split <;> simp
      · rw [h1, h2]; split <;> simp
    rw [this, rr_min' huu hs]; rfl
  · rw [rr_min hb1 huu hs]

/-- Z of mag times 2^place, as a ratio's. -/
theorem zd_zr (mag : Nat) (place : Int) : zd mag place = zr (mag * 2 ^ place.toNat) (2 ^ (-place).toNat) := by
  rw [zr_eq, K75_pow]
  obtain ⟨c, hc⟩ : ∃ c, c = 1075 := ⟨_, rfl⟩
  rw [← hc, zd_of (A := place.toNat + c) (B := (-place).toNat) (by omega), Nat.mul_assoc, ← Nat.pow_add]

/-- Something too great. -/
theorem rnd_big {V m : Nat} {exp : Int} (hV : V ≠ 0) (h : 1023 < (bl V : Int) - 1 + exp) (d : Int) (neg : Bool) : rnd d neg (zd (2 * V + m) (exp - 1)) = pat neg (if twB d neg then infR - 1 else infR) := by
  unfold rnd twB
  rw [zd_zr, rr_over (two_pow_pos _) ?_]
  · simp
  · have h1 := pow_le_of_bl hV
    have hb := bl_pos hV
    have h2 : 2 ^ (bl V) ≤ 2 * V + m := by
      have : 2 ^ (bl V) = 2 * 2 ^ (bl V - 1) := by rw [← Nat.pow_succ']; congr 1; omega
      omega
    obtain ⟨c, hc⟩ : ∃ c, c = 1024 := ⟨_, rfl⟩
    have hK : K1024 = 2 ^ c := by rw [hc]; exact K1024_def
    rw [hK, ← Nat.pow_add]
    refine Nat.le_trans ?_ (Nat.mul_le_mul_right _ h2)
    rw [← Nat.pow_add]
    exact Nat.pow_le_pow_right (by omega) (by omega)

/-- The word that is cut out, and what stands beside it. -/
def ofW (V : Nat) (cut : Int) : Nat := if 0 < cut then V / 2 ^ cut.toNat else V * 2 ^ (-cut).toNat
def ofF (V : Nat) (cut : Int) (more : Bool) : Bool := (decide (0 < cut) && decide (V % 2 ^ cut.toNat ≠ 0)) || more
def ofE (V : Nat) (exp : Int) : Int := max ((bl V : Int) - 53 + exp) (-1074)

theorem ofW_lt {V : Nat} {exp cut : Int} (hV : V ≠ 0) (hc : cut = ofE V exp - 2 - exp) : ofW V cut < 36028797018963968 ∧ (ofE V exp ≠ -1074 → 18014398509481984 ≤ ofW V cut) ∧ (cut ≤ 0 → bl V + (-cut).toNat ≤ 55) := by
  have h1 := pow_le_of_bl hV
  have h2 := lt_pow_bl V
  have hb := bl_pos hV
  unfold ofE at hc ⊢
  unfold ofW
  have e55 : (36028797018963968 : Nat) = 2 ^ 55 := rfl
  have e54 : (18014398509481984 : Nat) = 2 ^ 54 := rfl
  by_cases hcut : 0 < cut
  · rw [if_pos hcut]
    obtain ⟨c, hcc⟩ : ∃ c : Nat, cut = c := ⟨cut.toNat, by omega⟩
    rw [hcc, Int.toNat_natCast]
    refine ⟨?_, fun hne => ?_, fun h => by omega⟩
    · rw [Nat.div_lt_iff_lt_mul (two_pow_pos c), e55, ← Nat.pow_add]
      exact Nat.lt_of_lt_of_le h2 (Nat.pow_le_pow_right (by omega) (by omega))
    · rw [Nat.le_div_iff_mul_le (two_pow_pos c), e54, ← Nat.pow_add]
      exact Nat.le_trans (Nat.pow_le_pow_right (by omega) (by omega)) h1
  · rw [if_neg hcut]
    obtain ⟨c, hcc⟩ : ∃ c : Nat, -cut = c := ⟨(-cut).toNat, by omega⟩
    rw [hcc, Int.toNat_natCast]
    refine ⟨?_, fun hne => ?_, fun h => by omega⟩
    · have : V * 2 ^ c < 2 ^ bl V * 2 ^ c := Nat.mul_lt_mul_of_pos_right h2 (two_pow_pos c)
      rw [← Nat.pow_add] at this
      rw [e55]
      exact Nat.lt_of_lt_of_le this (Nat.pow_le_pow_right (by omega) (by omega))
    · have : 2 ^ (bl V - 1) * 2 ^ c ≤ V * 2 ^ c := Nat.mul_le_mul_right _ h1
      rw [← Nat.pow_add] at this
      rw [e54]
      exact Nat.le_trans (Nat.pow_le_pow_right (by omega) (by omega)) this

/-- What 'of' works out. -/
theorem rnd_ofW {V : Nat} {exp cut : Int} {more : Bool} (hV : V ≠ 0) (hm : more = true → 55 ≤ bl V) (hc : cut = ofE V exp - 2 - exp) (hf : (bl V : Int) - 1 + exp ≤ 1023) (d : Int) (neg : Bool) {v u : Nat} (hv : v = stick (ofW V cut) (ofF V cut more)) (hu : (u : Int) = ofE V exp + 1074) :
    rnd d neg (zd (2 * V + more.toNat) (exp - 1)) = pat neg (u * 4503599627370496 + (v / 4 + (upO d neg (v / 4) (v % 4)).toNat)) ∧ u ≤ 2045 ∧ v / 4 + (upO d neg (v / 4) (v % 4)).toNat ≤ 9007199254740992 ∧ (u ≠ 0 → 4503599627370496 ≤ v / 4 + (upO d neg (v / 4) (v % 4)).toNat) := by
  obtain ⟨w1, w2, w3⟩ := ofW_lt hV hc
  have hu45 : u ≤ 2045 := by unfold ofE at hu; omega
  have hb1 : ∀ s r, (upO d neg s r).toNat ≤ 1 := fun s r => by cases upO d neg s r <;> simp
  have hsd : v / 4 = ofW V cut / 4 := by rw [hv, stick_div]
  have hu2 : u ≠ 0 → 4503599627370496 ≤ ofW V cut / 4 := fun h => by have := w2 (by omega); omega
  refine ⟨?_, hu45, by have := hb1 (v / 4) (v % 4); omega, fun h => by have := hu2 h; omega⟩
  by_cases hcut : 0 < cut
  · obtain ⟨c, hcc⟩ : ∃ c : Nat, cut = c := ⟨cut.toNat, by omega⟩
    have hWe : ofW V cut = V / 2 ^ c := by unfold ofW; rw [if_pos hcut, hcc, Int.toNat_natCast]
    have hFe : ofF V cut more = decide (2 * (V % 2 ^ c) + more.toNat ≠ 0) := by
      unfold ofF
      rw [decide_eq_true hcut, Bool.true_and, hcc, Int.toNat_natCast]
      cases more
      · simp only [Bool.or_false, Bool.toNat_false, Nat.add_zero]
        exact decide_eq_decide.2 (by omega)
      · rw [Bool.or_true]; symm; exact decide_eq_true (by simp)
    have hlt := Nat.mod_lt V (two_pow_pos c)
    have hdm := Nat.div_add_mod V (2 ^ c)
    have hm1 : more.toNat ≤ 1 := by cases more <;> simp
    refine rr_parts (a := 0) (b := c + 3) (G := 2 * 2 ^ c) (W := ofW V cut) (t := 2 * (V % 2 ^ c) + more.toNat) (L := ofE V exp) hu (by omega) ?_ ?_ (by omega) (by omega) hu2 hu45 d neg (by rw [hv, hFe])
    · rw [Nat.pow_add, show (2 ^ 3 : Nat) = 8 from rfl]; omega
    · rw [hWe, Nat.pow_zero, Nat.mul_one]
      have e1 : V / 2 ^ c * (2 * 2 ^ c) = 2 * (2 ^ c * (V / 2 ^ c)) := by
        simp only [Nat.mul_assoc, Nat.mul_comm, Nat.mul_left_comm]
      rw [e1]
      omega
  · obtain ⟨c, hcc⟩ : ∃ c : Nat, -cut = c := ⟨(-cut).toNat, by omega⟩
    have hWe : ofW V cut = V * 2 ^ c := by unfold ofW; rw [if_neg hcut, hcc, Int.toNat_natCast]
    have hFe : ofF V cut more = decide (more.toNat ≠ 0) := by
      unfold ofF
      rw [decide_eq_false hcut, Bool.false_and, Bool.false_or]
      cases more <;> rfl
    refine rr_parts (a := c) (b := 3) (G := 2) (W := ofW V cut) (t := more.toNat) (L := ofE V exp) hu (by omega) (by omega) ?_ (by cases more <;> simp) (by omega) hu2 hu45 d neg (by rw [hv, hFe])
    rw [hWe, Nat.add_mul]
    have e2 : more.toNat * 2 ^ c = more.toNat := by
      cases hmo : more
      · simp
      · have h55 := hm hmo
        have := w3 (by omega)
        have hc0 : c = 0 := by omega
        rw [hc0]; simp
    rw [e2, Nat.mul_assoc, Nat.mul_comm 2]
end Go.Proofs.Ytllfcklgljdgeaa.Rn

/-
  The contracts of the program's rounding: beyond, of. Conditions: those that each theorem names.
-/
namespace Go.Proofs.Ytllfcklgljdgeaa
open Go.RowKit Nm Rn
set_option maxRecDepth 100000
set_option linter.unusedVariables false
set_option linter.unusedSimpArgs false

/-- The sign turned, in the walk's own form. -/
theorem run_ng {x : Nat} (h : x < 18446744073709551616) (w : World) : (Go.Op.unary .neg (.float .f64 x)).run Try.prog w = .ok (.float .f64 (ng x)) w := by
  have : Go.Op.negFloat .f64 x = ng x := ng_xor h
  rw [← this]; rfl
theorem pat_ng {r : Nat} (h : r < 9223372036854775808) (h0 : r ≠ 0) : ng r = pat true r := by
  unfold ng pat sg
  rw [decide_eq_false (by omega), if_neg h0]
  simp; omega
theorem pat_plus (r : Nat) : pat false r = r := by unfold pat; split <;> simp_all

set_option maxHeartbeats 1000000 in
theorem beyond_any (d : Int) (neg : Bool) (w : World) :
    Calls Try.prog 84 #[.int .i64 d, .bool neg] w fun e w' => e = .returned (.float .f64 (pat neg (if twB d neg then infR - 1 else infR))) ∧ w = w' := by
  have hn1 := fun w => run_ng (x := 9218868437227405311) (by omega) w
  have hn2 := fun w => run_ng (x := infR) infR_lt w
  rw [pat_ng (r := 9218868437227405311) (by omega) (by omega)] at hn1
  rw [pat_ng (r := infR) (by rw [infR_val]; omega) (by rw [infR_val]; omega)] at hn2
  have HI := Lib.hid (fun w => inf_p w)
  have key : ∃ t, t = twB d neg ∧ ((d == 1) = true ∧ (d == -1) = false ∧ t = neg ∨ (d == 1) = false ∧ (d == -1) = true ∧ t = !neg ∨ (d == 1) = false ∧ (d == -1) = false ∧ t = false) := by
    refine ⟨_, rfl, ?_⟩
    unfold twB
    by_cases h1 : d = 1
    · subst h1; left; cases neg <;> simp
    · by_cases h2 : d = -1
      · subst h2; right; left; cases neg <;> simp
      · right; right; simp [h1, h2]
  obtain ⟨t, ht, hk⟩ := key
  rw [← ht]
  clear ht
  have hF : ∀ b, (if b = true then infR - 1 else infR) = if b = true then 9218868437227405311 else infR := by intro b; rw [infR_val]
  rw [hF]
  clear hF
  cases neg
  all_goals
    rcases hk with ⟨h1, h2, rfl⟩ | ⟨h1, h2, rfl⟩ | ⟨h1, h2, rfl⟩
    all_goals
      go_enter Try.func84, Try.ntmps84
      go_wp2_with (go_at_call 49; refine (HI.out _).mono ?_; rintro e w' ⟨rfl, rfl⟩)
      go_ret
      exact ⟨by first | rfl | (simp only [pat_plus]; rfl), rfl⟩

theorem and3 (v : Nat) (h : v < 18446744073709551616) : bits .and .u64 (v : Int) 3 = ((v % 4 : Nat) : Int) := by
  rw [show (3 : Int) = ((3 : Nat) : Int) from rfl, u64_and_nat _ _ h (by omega)]
  congr 1
  exact Nat.and_two_pow_sub_one_eq_mod v 2
theorem and1 (v : Nat) (h : v < 18446744073709551616) : bits .and .u64 (v : Int) 1 = ((v % 2 : Nat) : Int) := by
  rw [show (1 : Int) = ((1 : Nat) : Int) from rfl, u64_and_nat _ _ h (by omega)]
  congr 1
  exact Nat.and_two_pow_sub_one_eq_mod v 1
theorem or1 (v : Nat) (h : v < 18446744073709551615) : bits .or .u64 (v : Int) 1 = ((stick v true : Nat) : Int) := by
  rw [show (1 : Int) = ((1 : Nat) : Int) from rfl, u64_or_nat _ _ (by omega) (by omega), or_one]
theorem stick_lt (W : Nat) (f : Bool) : stick W f ≤ W + 1 := by unfold stick; split <;> omega

set_option maxHeartbeats 4000000 in
theorem of_any (d : Int) (neg : Bool) (A : Option Addr) (n c : Nat) (xs : List Nat) (exp : Int) (more : Bool) (w : World) (h : Wds w A n c xs) (hn : n ≤ 1099511627776) (hnl : nw (nv xs) ≤ 16384)
    (he1 : -4398046511104 ≤ exp) (he2 : exp ≤ 4398046511104) (hm : more = true → 55 ≤ bl (nv xs)) :
    Calls Try.prog 61 #[.int .i64 d, .bool neg, .slice A n c, .int .i64 exp, .bool more] w fun e w' => e = .returned (.float .f64 (rnd d neg (zd (2 * nv xs + more.toNat) (exp - 1)))) ∧ Ext w w' := by
  have hLen := nlen_any A n c xs w h (by omega)
  have hBl := bl_le_nw (nv xs)
  obtain ⟨V, hV⟩ : ∃ V, V = nv xs := ⟨_, rfl⟩
  obtain ⟨B, hB⟩ : ∃ B, B = bl V := ⟨_, rfl⟩
  rw [← hV] at hLen hBl hm hnl ⊢
  rw [← hB] at hLen hBl hm
  have HL := Lib.hid hLen
  have HB := Lib.hid hB
  have HV := Lib.hid hV
  clear hLen hB hV
  by_cases hV0 : V = 0
  · have hB0 : B = 0 := by rw [HB.out, hV0]; rfl
    have hmf : more = false := by cases more; rfl; have := hm rfl; omega
    have HF : Hid (0 = rnd d neg (zd (2 * V + more.toNat) (exp - 1))) := Lib.hid (by rw [hV0, hmf]; show 0 = rnd d neg (zd 0 _); rw [zd_zero, rnd_zero])
    have hB1 : ((B : Int) == 0) = true := by rw [hB0]; rfl
    clear hmf hB0 hV0 hm
    go_enter Try.func61, Try.ntmps61
    go_wp2_with (go_at_call 79; refine HL.out.mono ?_; rintro e w' ⟨rfl, rfl⟩)
    go_ret
    exact ⟨ret_float HF.out, Ext.refl w⟩
  · have hBp : 1 ≤ B := by have := bl_pos hV0; have := HB.out; omega
    have hB1 : ((B : Int) == 0) = false := by rw [beq_eq_false_iff_ne]; omega
    by_cases hbig : 1023 < (B : Int) - 1 + exp
    · have HF : Hid (pat neg (if twB d neg then infR - 1 else infR) = rnd d neg (zd (2 * V + more.toNat) (exp - 1))) := Lib.hid (by rw [rnd_big hV0 (by rw [← HB.out]; exact hbig)])
      have HY := Lib.hid (fun w => beyond_any d neg w)
      generalize pat neg (if twB d neg then infR - 1 else infR) = R at *
      clear hV0 hm
      go_enter Try.func61, Try.ntmps61
      go_wp2_with (first | (go_at_call 79; refine HL.out.mono ?_; rintro e w' ⟨rfl, rfl⟩) | (go_at_call 84; refine (HY.out _).mono ?_; rintro e w' ⟨rfl, rfl⟩))
      go_ret
      exact ⟨ret_float HF.out, Ext.refl w⟩
    · obtain ⟨E, hE⟩ : ∃ E, E = ofE V exp := ⟨_, rfl⟩
      have hEd : E = max ((B : Int) - 53 + exp) (-1074) := by rw [hE, HB.out]; rfl
      have hE1 : -1074 ≤ E := by omega
      have hE2 : E ≤ 971 := by omega
      obtain ⟨C, hC⟩ : ∃ C, C = E - 2 - exp := ⟨_, rfl⟩
      have hC1 : C ≤ 4398046513000 := by omega
      have hC2 : -4398046513000 ≤ C := by omega
      have hCE : C = ofE V exp - 2 - exp := by rw [← hE]; exact hC
      obtain ⟨u, hu⟩ : ∃ u : Nat, (u : Int) = E + 1074 := ⟨(E + 1074).toNat, by omega⟩
      obtain ⟨W, hW⟩ : ∃ W, W = ofW V C := ⟨_, rfl⟩
      obtain ⟨F, hF⟩ : ∃ F, F = ofF V C more := ⟨_, rfl⟩
      obtain ⟨v, hv⟩ : ∃ v, v = stick W F := ⟨_, rfl⟩
      have hwl := ofW_lt hV0 hCE
      rw [← hW] at hwl
      have hvl : v ≤ W + 1 := by rw [hv]; exact stick_lt W F
      have hmain := rnd_ofW (more := more) hV0 (by rw [← HB.out]; exact hm) hCE (by rw [← HB.out]; omega) d neg (v := v) (u := u) (by rw [hv, hW, hF]) (by rw [← hE]; exact hu)
      obtain ⟨s, hs⟩ : ∃ s, s = v / 4 := ⟨_, rfl⟩
      obtain ⟨r, hr⟩ : ∃ r, r = v % 4 := ⟨_, rfl⟩
      rw [← hs, ← hr] at hmain
      obtain ⟨up, hup⟩ : ∃ up, up = upO d neg s r := ⟨_, rfl⟩
      rw [← hup] at hmain
      obtain ⟨S, hS⟩ : ∃ S, S = s + up.toNat := ⟨_, rfl⟩
      rw [← hS] at hmain
      obtain ⟨m1, m2, m3, m4⟩ := hmain
      rw [m1]
      have hW55 : W < 36028797018963968 := hwl.1
      have HSH := Lib.hid hwl.2.2
      have hr4 : r < 4 := by omega
      have hsl : s ≤ 9007199254740992 := by omega
      have HED := Lib.hid hEd
      have HM4 := Lib.hid m4
      have HU := Lib.hid hu
      have HWV := Lib.hid hW
      have HFV := Lib.hid hF
      have HSV := Lib.hid hv
      have HRV := Lib.hid hr
      have HSS := Lib.hid hs
      have HUP := Lib.hid hup
      have HST := Lib.hid hS
      have HCC := Lib.hid hC
      have hv64 : v ≤ 36028797018963968 := by omega
      have hbig' : ((B : Int) - 1 + exp) ≤ 1023 := by omega
      clear hwl m1 m4 hE hEd hCE hu hW hF hv hr hs hup hS hbig hm hC
      go_enter Try.func61, Try.ntmps61
      go_upto_region 6 with (go_at_call 79; refine HL.out.mono ?_; rintro e w' ⟨rfl, rfl⟩)
      go_cut [12] (fun a wx => a = .int .i64 E ∧ w = wx)
      case first =>
        as_aux_lemma =>
          have hEv := HED.out
          rcases Int.lt_or_le ((B : Int) - 53 + exp) (-1074) with hlo | hhi
          · have HF : Hid (-1074 = E) := Lib.hid (by omega)
            clear hEv hE1 hE2
            go_wp2
            go_meet
            exact ⟨by rw [HF.out], rfl⟩
          · have HF : Hid ((B : Int) - 53 + exp = E) := Lib.hid (by omega)
            clear hEv hE1 hE2
            go_wp2
            go_meet
            exact ⟨by rw [HF.out], rfl⟩
      case rest =>
        obtain ⟨rfl, rfl⟩ := hcut
        have hC' : E - 2 - exp = C := HCC.out.symm
        obtain ⟨LO, hLO⟩ : ∃ LO, LO = (decide (0 < C) && decide (V % 2 ^ C.toNat ≠ 0)) := ⟨_, rfl⟩
        have HLO := Lib.hid hLO
        have HV0 := Lib.hid hV0
        clear hLO hV0
        go_upto_if 44 with fail
        go_cut [14, 15] (fun a b wx => ∃ A2 n2 c2, a = .slice A2 n2 c2 ∧ b = .bool LO ∧ Wds wx A2 n2 c2 (nd W) ∧ Ext w wx)
        case first =>
          as_aux_lemma =>
            rcases Int.lt_or_le 0 C with hpos | hneg
            · obtain ⟨k, rfl⟩ : ∃ k : Nat, C = k := ⟨C.toNat, by omega⟩
              have hsh := nshr_any A n c xs k w h (by omega) (by omega) (by rw [← HV.out]; exact hnl)
              have e1 : Hid (nv xs / 2 ^ k = W) := Lib.hid (by rw [← HV.out, HWV.out]; unfold ofW; rw [if_pos hpos, Int.toNat_natCast])
              have e2 : lostB (nv xs) k = LO := by
                rw [HLO.out, ← HV.out, decide_eq_true hpos, Bool.true_and, Int.toNat_natCast]; rfl
              rw [e1.out, e2] at hsh
              have HSR := Lib.hid hsh
              clear hsh e2
              go_wp2_with (go_at_call 85; refine HSR.out.mono ?_; rintro e w' ⟨A2, n2, c2, rfl, hR, hEx⟩)
              go_meet
              exact ⟨A2, n2, c2, rfl, rfl, hR, hEx⟩
            · obtain ⟨k, hk⟩ : ∃ k : Nat, -C = k := ⟨(-C).toNat, by omega⟩
              have hk2 : IntKind.i64.wrap (-C) = (k : Int) := by rw [IntWalk.i64_in _ (by omega)]; exact hk
              have h55 := HSH.out hneg
              rw [hk, Int.toNat_natCast, ← HB.out] at h55
              have hsh := nshl_any A n c xs k w h (by omega) (by rw [← HV.out]; exact HV0.out) (by rw [← HV.out, ← HB.out]; omega)
              have e1 : Hid (nv xs * 2 ^ k = W) := Lib.hid (by rw [← HV.out, HWV.out]; unfold ofW; rw [if_neg (by omega), hk, Int.toNat_natCast])
              have e2 : Hid (LO = false) := Lib.hid (by rw [HLO.out, decide_eq_false (by omega), Bool.false_and])
              rw [e1.out] at hsh
              have HSL := Lib.hid hsh
              clear hsh h55 hk
              go_wp2_with (go_at_call 70; refine HSL.out.mono ?_; rintro e w' ⟨A2, n2, c2, rfl, hR, hEx⟩)
              go_meet
              exact ⟨A2, n2, c2, rfl, by rw [e2.out], hR, hEx⟩
        case rest =>
          obtain ⟨A2, n2, c2, rfl, rfl, hW2, hEx⟩ := hcut
          have hn2 : n2 ≤ 2 := by
            have h1 := hW2.len
            rw [nd_length] at h1
            have h2 : nw W ≤ 2 := (nw_le_iff W 2).2 (by omega)
            omega
          have hwd := nword_any A2 n2 c2 _ wc hW2 (by omega) (by rw [nv_nd]; exact (nw_le_iff W 2).2 (by omega))
          rw [nv_nd] at hwd
          have HWD := Lib.hid hwd
          have HEX := Lib.hid hEx
          clear hwd hEx hC'
          go_wp2_with fail
          refine HWD.out.mono ?_
          rintro e w3 ⟨rfl, q, rfl⟩
          have HE3 : Hid (Ext w (wc.drewN q)) := Lib.hid (HEX.out.drewN q)
          clear HEX
          have hFL : F = (LO || more) := by rw [HFV.out, HLO.out]; rfl
          have HFL := Lib.hid hFL
          clear hFL
          go_upto_region 13 with fail
          go_cut [67] (fun a wx => a = .bool F ∧ wc.drewN q = wx)
          case first =>
            as_aux_lemma =>
              cases LO <;> cases more
              all_goals
                go_wp2
                go_meet
                exact ⟨by rw [HFL.out]; rfl, rfl⟩
          case rest =>
            obtain ⟨rfl, rfl⟩ := hcut
            go_upto_if 67 with fail
            go_cut [16] (fun a wx => a = .int .u64 (v : Int) ∧ wc.drewN q = wx)
            case first =>
              as_aux_lemma =>
                have hsv := HSV.out
                cases F
                · have HF : Hid (W = v) := Lib.hid (by rw [hsv]; rfl)
                  clear hsv
                  go_wp2
                  go_meet
                  exact ⟨by rw [HF.out], rfl⟩
                · have hor := or1 W (by omega)
                  have HF : Hid (stick W true = v) := Lib.hid (by rw [hsv])
                  clear hsv
                  go_wp2
                  go_meet
                  exact ⟨by rw [← HF.out], rfl⟩
            case rest =>
              obtain ⟨rfl, rfl⟩ := hcut
              have hs4 : (v : Int) / 4 = (s : Int) := by have := HSS.out; omega
              have hr3 := and3 v (by omega)
              rw [← HRV.out] at hr3
              go_upto_block 0 with fail
              go_cut [18] (fun a wx => a = .int .u64 (S : Int) ∧ wc.drewN q = wx)
              case first =>
                as_aux_lemma =>
                  clear hs4 hr3
                  by_cases hd1 : d = 1
                  · subst hd1
                    by_cases hr0 : r = 0
                    · have HF : Hid (S = s) := Lib.hid (by rw [HST.out, HUP.out]; unfold upO; rw [if_pos hr0]; rfl)
                      subst hr0
                      go_wp2
                      go_meet
                      exact ⟨val_int (by have := HF.out; omega), rfl⟩
                    · have hr1 : (0 : Int) < (r : Int) := by omega
                      have hr2 : 0 < r := by omega
                      have HF : Hid (S = s + (!neg).toNat) := Lib.hid (by rw [HST.out, HUP.out]; unfold upO; rw [if_neg hr0, if_pos rfl])
                      clear hr0
                      cases neg
                      all_goals
                        go_wp2
                        go_meet
                        exact ⟨val_int (by have h9 := HF.out; simp at h9; omega), rfl⟩
                  · by_cases hd2 : d = -1
                    · subst hd2
                      by_cases hr0 : r = 0
                      · have HF : Hid (S = s) := Lib.hid (by rw [HST.out, HUP.out]; unfold upO; rw [if_pos hr0]; rfl)
                        subst hr0
                        go_wp2
                        go_meet
                        exact ⟨val_int (by have := HF.out; omega), rfl⟩
                      · have hr1 : (0 : Int) < (r : Int) := by omega
                        have hr2 : 0 < r := by omega
                        have HF : Hid (S = s + neg.toNat) := Lib.hid (by rw [HST.out, HUP.out]; unfold upO; rw [if_neg hr0, if_neg (by omega), if_pos rfl])
                        clear hr0
                        cases neg
                        all_goals
                          go_wp2
                          go_meet
                          exact ⟨val_int (by have h9 := HF.out; simp at h9; omega), rfl⟩
                    · have e1 : (d == 1) = false := by rw [beq_eq_false_iff_ne]; exact hd1
                      have e2 : (d == -1) = false := by rw [beq_eq_false_iff_ne]; exact hd2
                      have HF : Hid (S = s + (if r = 0 then false else (decide (r = 3) || (decide (r = 2) && decide (s % 2 = 1)))).toNat) := Lib.hid (by rw [HST.out, HUP.out]; unfold upO; rw [if_neg hd1, if_neg hd2])
                      have ha := and1 s (by omega)
                      have hcases : r = 0 ∨ r = 1 ∨ r = 2 ∨ r = 3 := by omega
                      have hpar : s % 2 = 0 ∨ s % 2 = 1 := by omega
                      clear hd1 hd2
                      rcases hcases with rfl | rfl | rfl | rfl
                      · go_wp2
                        go_meet
                        exact ⟨val_int (by have h9 := HF.out; simp at h9; omega), rfl⟩
                      · go_wp2
                        go_meet
                        exact ⟨val_int (by have h9 := HF.out; simp at h9; omega), rfl⟩
                      · rcases hpar with hp | hp
                        · have HF2 : Hid (S = s) := Lib.hid (by have h9 := HF.out; simp [hp] at h9; omega)
                          rw [hp] at ha
                          clear hp
                          go_wp2
                          go_meet
                          exact ⟨val_int (by have h9 := HF2.out; omega), rfl⟩
                        · have HF2 : Hid (S = s + 1) := Lib.hid (by have h9 := HF.out; simp [hp] at h9; omega)
                          rw [hp] at ha
                          clear hp
                          go_wp2
                          go_meet
                          exact ⟨val_int (by have h9 := HF2.out; omega), rfl⟩
                      · go_wp2
                        go_meet
                        exact ⟨val_int (by have h9 := HF.out; simp at h9; omega), rfl⟩
              case rest =>
                obtain ⟨rfl, rfl⟩ := hcut
                have hld := fun w => mldexp_any S u E w (by have := HU.out; omega) m2 m3 HM4.out
                obtain ⟨P, hP⟩ : ∃ P, P = FloatKind.f64.nearest (S : Int) := ⟨_, rfl⟩
                have hP' : floatOfInt .f64 (S : Int) = P := hP.symm
                obtain ⟨R, hR⟩ : ∃ R, R = u * 4503599627370496 + S := ⟨_, rfl⟩
                rw [← hP, ← hR] at hld
                have HRD := Lib.hid hR
                have hRl : R < 9223372036854775808 := by omega
                have HLD := Lib.hid hld
                have hq := fo_ne (x := R) (y := 0) (by omega) (by omega)
                rw [eq0 (by omega)] at hq
                have hu1 := fun w => run_ng (x := R) (by omega) w
                clear hP hld hR hs4 hr3
                cases neg
                · have HF : Hid (R = pat false R) := Lib.hid (pat_plus R).symm
                  clear hq hu1
                  go_wp2_with (go_at_call 87; refine (HLD.out _).mono ?_; rintro e w' ⟨rfl, rfl⟩)
                  go_ret
                  exact ⟨ret_float (by rw [← HRD.out]; exact HF.out), HE3.out⟩
                · by_cases hR0 : R = 0
                  · rw [decide_eq_true (.inl hR0), Bool.not_true] at hq
                    have HF : Hid (R = pat true R) := Lib.hid (by rw [hR0]; rfl)
                    clear hR0 hu1
                    go_wp2_with (go_at_call 87; refine (HLD.out _).mono ?_; rintro e w' ⟨rfl, rfl⟩)
                    go_ret
                    exact ⟨ret_float (by rw [← HRD.out]; exact HF.out), HE3.out⟩
                  · rw [decide_eq_false (by omega), Bool.not_false] at hq
                    have HF : Hid (ng R = pat true R) := Lib.hid (pat_ng hRl hR0)
                    clear hR0
                    go_wp2_with (go_at_call 87; refine (HLD.out _).mono ?_; rintro e w' ⟨rfl, rfl⟩)
                    go_ret
                    exact ⟨ret_float (by rw [← HRD.out]; exact HF.out), HE3.out⟩
end Go.Proofs.Ytllfcklgljdgeaa
