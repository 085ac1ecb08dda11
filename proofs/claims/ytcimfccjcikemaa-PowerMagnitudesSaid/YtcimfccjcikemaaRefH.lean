/-
  The contracts of the reference's rounding, first part: the pattern of a significand and an exponent; infinities; the greatest number. Conditions: those that each theorem names.
-/
import Derived.Test.YtcimfccjcikemaaRat
import Derived.Test.YtcimfccjcikemaaMem
namespace Go.Proofs.Ytcimfccjcikemaa
open Go.RowKit Nm Rn
set_option maxRecDepth 100000
set_option linter.unusedVariables false
set_option linter.unusedSimpArgs false

theorem pat_pos {neg : Bool} {r : Nat} (h : r ≠ 0) : pat neg r = if neg then 9223372036854775808 + r else r := by simp [pat, h]
theorem and_one (n : Nat) (h : n < 18446744073709551616) : bits .and .u64 (n : Int) 1 = ((n % 2 : Nat) : Int) := by
  rw [show (1 : Int) = ((1 : Nat) : Int) from rfl, u64_and_nat _ _ h (by omega), nat_mask1]
theorem or_top (n : Nat) (h : n < 9223372036854775808) : bits .or .u64 (n : Int) 9223372036854775808 = ((9223372036854775808 + n : Nat) : Int) := by
  rw [show (9223372036854775808 : Int) = ((9223372036854775808 : Nat) : Int) from rfl, u64_or_nat _ _ (by omega) (by omega), Nat.or_comm, nat_join 63 _ _ (by omega) (by omega)]

set_option maxHeartbeats 1000000 in
theorem made_any (neg : Bool) (sig : Nat) (ex : Int) (w : World) (hs : sig ≤ 9007199254740992) (h1 : -1074 ≤ ex) (h2 : ex ≤ 971) :
    Calls Try.prog 164 #[.bool neg, .int .u64 (sig : Int), .int .i64 ex] w fun e w' => e = .returned (.int .u64 (pat neg (rung (sig * 2 ^ (ex + 1074).toNat)) : Nat)) ∧ w = w' := by
  by_cases h0 : sig = 0
  · have HF : Hid ((0 : Int) = (pat neg (rung (sig * 2 ^ (ex + 1074).toNat)) : Nat)) := Lib.hid (by rw [h0, Nat.zero_mul, rung_zero]; rfl)
    have hz : sig ≤ 0 := by omega
    clear h0
    go_enter Try.func164, Try.ntmps164
    go_wp2
    go_ret
    exact ⟨ret_int HF.out, rfl⟩
  · have hs1 : 0 < sig := by omega
    obtain ⟨V, hV⟩ : ∃ V, V = sig * 2 ^ (ex + 1074).toNat := ⟨_, rfl⟩
    rw [← hV]
    have HV := Lib.hid hV
    clear hV h0
    go_enter Try.func164, Try.ntmps164
    go_wp2
    go_loop [1, 2] (fun sv ev => ∃ (s : Nat) (e : Int), sv = .int .u64 (s : Int) ∧ ev = .int .i64 e ∧ 0 < s ∧ s ≤ 9007199254740992 ∧ -1074 ≤ e ∧ e ≤ 972 ∧ (s = 9007199254740992 → e ≤ 971) ∧ Hid (s * 2 ^ (e + 1074).toNat = V)) (fun sv _ => (intOf sv).toNat)
    case atStart => exact ⟨sig, ex, rfl, rfl, hs1, hs, h1, by omega, fun _ => h2, Lib.hid HV.out.symm⟩
    case round =>
      obtain ⟨s, e, rfl, rfl, hsp, hsb, he1, he2, he3, hval⟩ := hrel
      by_cases hbig : s = 9007199254740992
      · have hbl : 9007199254740992 ≤ s := by omega
        have he4 := he3 hbig
        have hv2 : Hid (4503599627370496 * 2 ^ (e + 1 + 1074).toNat = V) := Lib.hid (by
          rw [← hval.out, hbig, show (e + 1 + 1074).toNat = (e + 1074).toNat + 1 by omega, mul_pow_succ]; omega)
        have HSB := Lib.hid (show s = 9007199254740992 by omega)
        have hd : decide ((9007199254740992 : Int) ≤ (s : Int)) = true := decide_eq_true (by omega)
        have hs64 : (s : Int) < 18446744073709551616 := by omega
        clear hbig he3 hsb hbl
        go_wp2
        go_round
        case rel => exact ⟨4503599627370496, e + 1, val_int (by have := HSB.out; omega), rfl, by omega, by omega, by omega, by omega, fun h => by omega, hv2⟩
        case measure => simp [intOf]; omega
      · have hsl : s < 9007199254740992 := by omega
        have hd : decide ((9007199254740992 : Int) ≤ (s : Int)) = false := decide_eq_false (by omega)
        have HSL := Lib.hid hsl
        have hodd : ∃ p : Nat, bits .and .u64 (s : Int) 1 = (p : Int) ∧ (p ≤ 0 ∨ 1 ≤ p) := ⟨s % 2, and_one s (by omega), by omega⟩
        obtain ⟨p, hp, hp2⟩ := hodd
        clear he3 hbig hsb hsl
        rcases hp2 with hp2 | hp2
        all_goals
          go_wp2
          clear hp
          go_loop [1, 2] (fun sv ev => ∃ (s : Nat) (e : Int), sv = .int .u64 (s : Int) ∧ ev = .int .i64 e ∧ 0 < s ∧ s < 9007199254740992 ∧ -1074 ≤ e ∧ e ≤ 972 ∧ Hid (s * 2 ^ (e + 1074).toNat = V)) (fun _ ev => (intOf ev + 1074).toNat)
          case atStart => exact ⟨s, e, rfl, rfl, hsp, HSL.out, he1, he2, hval⟩
          case round =>
            clear hval
            obtain ⟨t, f, rfl, rfl, htp, htl, hf1, hf2, hval⟩ := hrel
            have HTL := Lib.hid htl
            clear htl
            by_cases hlow : t < 4503599627370496
            · have hd2 : decide ((t : Int) < 4503599627370496) = true := decide_eq_true (by omega)
              have hd3 : decide ((4503599627370496 : Int) ≤ (t : Int)) = false := decide_eq_false (by omega)
              have HLW := Lib.hid hlow
              have ht63 : IntKind.u64.wrap ((t : Int) * 2) = (t : Int) * 2 := by rw [IntKind.wrap_u64]; omega
              clear hlow
              by_cases hfe : -1074 < f
              · have hv2 : Hid (t * 2 * 2 ^ (f - 1 + 1074).toNat = V) := Lib.hid (by
                  rw [← hval.out, show (f + 1074).toNat = (f - 1 + 1074).toNat + 1 by omega, mul_pow_succ, Nat.mul_comm t 2, Nat.mul_assoc])
                go_wp2
                go_round
                case rel => exact ⟨t * 2, f - 1, val_int (by omega), rfl, by omega, by have := HLW.out; omega, by omega, by omega, hv2⟩
                case measure => simp [intOf]; omega
              · have hV : Hid (rung V = t) := Lib.hid (by
                  have e0 : (f + 1074).toNat = 0 := by omega
                  rw [← hval.out, e0, Nat.pow_zero, Nat.mul_one]
                  have := rung_form (Q := t) (u := 0) (s := t) HTL.out (fun h => absurd rfl h) (by simp) (by simp)
                  simpa using this)
                obtain ⟨T, hT⟩ : ∃ T, T = 9223372036854775808 + t := ⟨_, rfl⟩
                have ho := or_top t (by have := HTL.out; omega)
                rw [← hT] at ho
                have HT := Lib.hid hT
                have hd4 : decide (-1074 < f) = false := decide_eq_false hfe
                have hf0 : f ≤ -1074 := by omega
                clear hT ht63 hfe
                cases neg
                all_goals
                  go_wp2
                  go_ret
                  exact ⟨ret_int (by rw [hV.out, pat_pos (by omega)]; first | rfl | (rw [HT.out]; rfl)), rfl⟩
            · have hd2 : decide ((t : Int) < 4503599627370496) = false := decide_eq_false (by omega)
              have hd3 : decide ((4503599627370496 : Int) ≤ (t : Int)) = true := decide_eq_true (by omega)
              have hV : Hid (rung V = (f + 1074).toNat * 4503599627370496 + t) := Lib.hid (by
                rw [← hval.out]
                exact rung_form HTL.out (fun _ => by omega) (Nat.le_refl _) (Nat.mul_lt_mul_of_pos_right (by omega) (Nat.pow_pos (by omega))))
              obtain ⟨u, hu⟩ : ∃ u : Nat, f + 1075 = (u : Int) := ⟨(f + 1075).toNat, by omega⟩
              have hu1 : 1 ≤ u := by omega
              have hu2 : u ≤ 2047 := by omega
              have hfu : Hid ((f + 1074).toNat = u - 1) := Lib.hid (by omega)
              obtain ⟨X, hX⟩ : ∃ X : Nat, X = t - 4503599627370496 + u * 4503599627370496 := ⟨_, rfl⟩
              have eX : IntKind.u64.wrap (IntKind.u64.wrap ((t : Int) - 4503599627370496) + (u : Int) * 4503599627370496) = (X : Int) := by
                have := HTL.out
                rw [IntKind.wrap_u64, IntKind.wrap_u64]; omega
              have hXb : X < 9223372036854775808 := by have := HTL.out; omega
              have ht0 : (0 : Int) ≤ (t : Int) - 4503599627370496 := by omega
              have HX : Hid ((f + 1074).toNat * 4503599627370496 + t = X) := Lib.hid (by rw [hfu.out, hX]; omega)
              have hXp : Hid (X ≠ 0) := Lib.hid (by omega)
              have ho := or_top X hXb
              obtain ⟨T, hT⟩ : ∃ T, T = 9223372036854775808 + X := ⟨_, rfl⟩
              rw [← hT] at ho
              have HT := Lib.hid hT
              clear hX hlow hXb hT ht0
              cases neg
              all_goals
                go_wp2
                go_ret
                exact ⟨ret_int (by rw [hV.out, HX.out, pat_pos hXp.out]; first | rfl | (rw [HT.out]; rfl)), rfl⟩
end Go.Proofs.Ytcimfccjcikemaa
