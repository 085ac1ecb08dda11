/-
  The contracts of the reference's rounding, first part: the pattern of a significand and an exponent; infinities; the greatest number. Conditions: those that each theorem names.
-/
import Derived.Test.YtfbjeifhpmdjaaaGreatP03
import Derived.Test.YtfbjeifhpmdjaaaGreatP07
import Derived.Test.YtfbjeifhpmdjaaaGreatP10
import Derived.Deep.DeepCutAuto
namespace Go.Proofs.YtfbjeifhpmdjaaaGreat
open Go.RowKit Nm Rn
set_option maxRecDepth 100000
set_option linter.unusedVariables false
set_option linter.unusedSimpArgs false

theorem pat_pos {neg : Bool} {r : Nat} (h : r ≠ 0) : pat neg r = if neg then 9223372036854775808 + r else r := by simp [pat, h]
theorem and_one (n : Nat) (h : n < 18446744073709551616) : bits .and .u64 (n : Int) 1 = ((n % 2 : Nat) : Int) := by
  rw [show (1 : Int) = ((1 : Nat) : Int) from rfl, u64_and_nat _ _ h (by omega), nat_mask1]
theorem or_top (n : Nat) (h : n < 9223372036854775808) : bits .or .u64 (n : Int) 9223372036854775808 = ((9223372036854775808 + n : Nat) : Int) := by
  rw [show (9223372036854775808 : Int) = ((9223372036854775808 : Nat) : Int) from rfl, u64_or_nat _ _ (by omega) (by omega), Nat.or_comm, nat_join 63 _ _ (by omega) (by omega)]

set_option maxHeartbeats 1000000 in
theorem made_any (neg : Bool) (sig : Nat) (ex : Int) (w : World) (hs : sig ≤ 9007199254740992) (h1 : -1074 ≤ ex) (h2 : ex ≤ 971) :
    Calls Tryz.prog 110 #[.bool neg, .int .u64 (sig : Int), .int .i64 ex] w fun e w' => e = .returned (.int .u64 (pat neg (rung (sig * 2 ^ (ex + 1074).toNat)) : Nat)) ∧ w = w' := by
  by_cases h0 : sig = 0
  · have HF : Hid ((0 : Int) = (pat neg (rung (sig * 2 ^ (ex + 1074).toNat)) : Nat)) := Lib.hid (by rw [h0, Nat.zero_mul, rung_zero]; rfl)
    have hz : sig ≤ 0 := by omega
    clear h0
    go_enter Tryz.func110, Tryz.ntmps110
    go_wp2
    go_ret
    exact ⟨ret_int HF.out, rfl⟩
  · have hs1 : 0 < sig := by omega
    obtain ⟨V, hV⟩ : ∃ V, V = sig * 2 ^ (ex + 1074).toNat := ⟨_, rfl⟩
    rw [← hV]
    have HV := Lib.hid hV
    clear hV h0
    go_enter Tryz.func110, Tryz.ntmps110
    go_wp2
    go_loop [1, 2] (fun sv ev => ∃ (s : Nat) (e : Int), sv = .int .u64 (s : Int) ∧ ev = .int .i64 e ∧ 0 < s ∧ s ≤ 9007199254740992 ∧ -1074 ≤ e ∧ e ≤ 972 ∧ (s = 9007199254740992 → e ≤ 971) ∧ Hid (s * 2 ^ (e + 1074).toNat = V)) (fun sv _ => (intOf sv).toNat)
    case atStart => exact ⟨sig, ex, rfl, rfl, hs1, hs, h1, by omega, fun _ => h2, Lib.hid HV.out.symm⟩
    case round =>
      obtain ⟨s, e, rfl, rfl, hsp, hsb, he1, he2, he3, hval⟩ := hrel
      by_cases hbig : s = 9007199254740992
      · have hbl : 9007199254740992 ≤ s := by omega
        have he4 := he3 hbig
        have hv2 : Hid (4503599627370496 * 2 ^ (e + 1 + 1074).toNat = V) := Lib.hid (by
          rw [← hval.out, hbig, show (e + 1 + 1074).toNat = (e + 1074).toNat + 1 by omega, mul_pow_succ]; omega)
        have HSB := Lib.hid (show s = 9007199254740992 by omega)
        have hd : decide ((9007199254740992 : Int) ≤ (s : Int)) = true := decide_eq_true (by omega)
        have hs64 : (s : Int) < 18446744073709551616 := by omega
        clear hbig he3 hsb hbl
        go_wp2
        go_round
        case rel => exact ⟨4503599627370496, e + 1, val_int (by have := HSB.out; omega), rfl, by omega, by omega, by omega, by omega, fun h => by omega, hv2⟩
        case measure => simp [intOf]; omega
      · have hsl : s < 9007199254740992 := by omega
        have hd : decide ((9007199254740992 : Int) ≤ (s : Int)) = false := decide_eq_false (by omega)
        have HSL := Lib.hid hsl
        have hodd : ∃ p : Nat, bits .and .u64 (s : Int) 1 = (p : Int) ∧ (p ≤ 0 ∨ 1 ≤ p) := ⟨s % 2, and_one s (by omega), by omega⟩
        obtain ⟨p, hp, hp2⟩ := hodd
        clear he3 hbig hsb hsl
        rcases hp2 with hp2 | hp2
        all_goals
          go_wp2
          clear hp
          go_loop [1, 2] (fun sv ev => ∃ (s : Nat) (e : Int), sv = .int .u64 (s : Int) ∧ ev = .int .i64 e ∧ 0 < s ∧ s < 9007199254740992 ∧ -1074 ≤ e ∧ e ≤ 972 ∧ Hid (s * 2 ^ (e + 1074).toNat = V)) (fun _ ev => (intOf ev + 1074).toNat)
          case atStart => exact ⟨s, e, rfl, rfl, hsp, HSL.out, he1, he2, hval⟩
          case round =>
            clear hval
            obtain ⟨t, f, rfl, rfl, htp, htl, hf1, hf2, hval⟩ := hrel
            have HTL := Lib.hid htl
            clear htl
            by_cases hlow : t < 4503599627370496
            · have hd2 : decide ((t : Int) < 4503599627370496) = true := decide_eq_true (by omega)
              have hd3 : decide ((4503599627370496 : Int) ≤ (t : Int)) = false := decide_eq_false (by omega)
              have HLW := Lib.hid hlow
              have ht63 : IntKind.u64.wrap ((t : Int) * 2) = (t : Int) * 2 := by rw [IntKind.wrap_u64]; omega
              clear hlow
              by_cases hfe : -1074 < f
              · have hv2 : Hid (t * 2 * 2 ^ (f - 1 + 1074).toNat = V) := Lib.hid (by
                  rw [← hval.out, show (f + 1074).toNat = (f - 1 + 1074).toNat + 1 by omega, mul_pow_succ, Nat.mul_comm t 2, Nat.mul_assoc])
                go_wp2
                go_round
                case rel => exact ⟨t * 2, f - 1, val_int (by omega), rfl, by omega, by have := HLW.out; omega, by omega, by omega, hv2⟩
                case measure => simp [intOf]; omega
              · have hV : Hid (rung V = t) := Lib.hid (by
                  have e0 : (f + 1074).toNat = 0 := by omega
                  rw [← hval.out, e0, Nat.pow_zero, Nat.mul_one]
                  have := rung_form (Q := t) (u := 0) (s := t) HTL.out (fun h => absurd rfl h) (by simp) (by simp)
                  simpa using this)
                obtain ⟨T, hT⟩ : ∃ T, T = 9223372036854775808 + t := ⟨_, rfl⟩
                have ho := or_top t (by have := HTL.out; omega)
                rw [← hT] at ho
                have HT := Lib.hid hT
                have hd4 : decide (-1074 < f) = false := decide_eq_false hfe
                have hf0 : f ≤ -1074 := by omega
                clear hT ht63 hfe
                cases neg
                all_goals
                  go_wp2
                  go_ret
                  exact ⟨ret_int (by rw [hV.out, pat_pos (by omega)]; first | rfl | (rw [HT.out]; rfl)), rfl⟩
            · have hd2 : decide ((t : Int) < 4503599627370496) = false := decide_eq_false (by omega)
              have hd3 : decide ((4503599627370496 : Int) ≤ (t : Int)) = true := decide_eq_true (by omega)
              have hV : Hid (rung V = (f + 1074).toNat * 4503599627370496 + t) := Lib.hid (by
                rw [← hval.out]
                exact rung_form HTL.out (fun _ => by omega) (Nat.le_refl _) (Nat.mul_lt_mul_of_pos_right (by omega) (Nat.pow_pos (by omega))))
              obtain ⟨u, hu⟩ : ∃ u : Nat, f + 1075 = (u : Int) := ⟨(f + 1075).toNat, by omega⟩
              have hu1 : 1 ≤ u := by omega
              have hu2 : u ≤ 2047 := by omega
              have hfu : Hid ((f + 1074).toNat = u - 1) := Lib.hid (by omega)
              obtain ⟨X, hX⟩ : ∃ X : Nat, X = t - 4503599627370496 + u * 4503599627370496 := ⟨_, rfl⟩
              have eX : IntKind.u64.wrap (IntKind.u64.wrap ((t : Int) - 4503599627370496) + (u : Int) * 4503599627370496) = (X : Int) := by
                have := HTL.out
                rw [IntKind.wrap_u64, IntKind.wrap_u64]; omega
              have hXb : X < 9223372036854775808 := by have := HTL.out; omega
              have ht0 : (0 : Int) ≤ (t : Int) - 4503599627370496 := by omega
              have HX : Hid ((f + 1074).toNat * 4503599627370496 + t = X) := Lib.hid (by rw [hfu.out, hX]; omega)
              have hXp : Hid (X ≠ 0) := Lib.hid (by omega)
              have ho := or_top X hXb
              obtain ⟨T, hT⟩ : ∃ T, T = 9223372036854775808 + X := ⟨_, rfl⟩
              rw [← hT] at ho
              have HT := Lib.hid hT
              clear hX hlow hXb hT ht0
              cases neg
              all_goals
                go_wp2
                go_ret
                exact ⟨ret_int (by rw [hV.out, HX.out, pat_pos hXp.out]; first | rfl | (rw [HT.out]; rfl)), rfl⟩
end Go.Proofs.YtfbjeifhpmdjaaaGreat

/-
  The contracts of the reference's ratios, second part: signs; numbers of patterns. Conditions: those that each theorem names.
-/
namespace Go.Proofs.YtfbjeifhpmdjaaaGreat
open Go.RowKit Nm Rn
set_option maxRecDepth 100000
set_option linter.unusedVariables false
set_option linter.unusedSimpArgs false

/-- A ratio's sign. -/
def sgnZ (neg : Bool) (n : Nat) : Int := if n = 0 then 0 else if neg then -1 else 1
set_option maxHeartbeats 1000000 in
theorem rsign_any (neg : Bool) (A : Option Addr) (l c : Nat) (xs : List Nat) (B : Option Addr) (k d : Nat) (w : World) (h : Wds w A l c xs) (hl : l ≤ 17592186044416) :
    Calls Tryz.prog 75 #[.agg #[.bool neg, .slice A l c, .slice B k d]] w fun e w' => e = .returned (.int .i64 (sgnZ neg (nv xs))) ∧ Ext w w' := by
  by_cases h0 : nv xs = 0
  · have hz : nw (nv xs) ≤ 0 := by rw [h0, nw_zero]; omega
    have HF : Hid ((0 : Int) = sgnZ neg (nv xs)) := Lib.hid (by rw [h0]; rfl)
    clear h0
    go_enter Tryz.func75, Tryz.ntmps75
    go_wp2_with fail
    refine (norm_any _ _ _ _ _ (h.alloc _) (by omega)).mono ?_
    rintro e w1 ⟨A1, n1, c1, rfl, hN, hE1⟩
    have hn1 : n1 ≤ 0 := by have := hN.len; rw [nd_length] at this; omega
    go_wp2
    go_ret
    exact ⟨ret_int HF.out, ((Ext.refl w).alloc _).trans hE1⟩
  · have hnx1 : 0 < nw (nv xs) := by
      rcases Nat.eq_zero_or_pos (nw (nv xs)) with e | e
      · exact absurd (nw_eq_zero.1 e) h0
      · exact e
    have HF : Hid ((if neg then (-1 : Int) else 1) = sgnZ neg (nv xs)) := Lib.hid (by unfold sgnZ; rw [if_neg h0])
    clear h0
    go_enter Tryz.func75, Tryz.ntmps75
    go_wp2_with fail
    refine (norm_any _ _ _ _ _ (h.alloc _) (by omega)).mono ?_
    rintro e w1 ⟨A1, n1, c1, rfl, hN, hE1⟩
    have hn1 : 0 < n1 := by have := hN.len; rw [nd_length] at this; omega
    have q0 : w1.cell? ⟨w.heap.size, 0, none⟩ = some (.bool neg) := ((Blk.new w 38 #[.bool neg, .slice A l c, .slice B k d]).ext hE1).cell 0
    cases neg
    all_goals
      go_wp2
      go_ret
      exact ⟨ret_int HF.out, ((Ext.refl w).alloc _).trans hE1⟩

set_option maxHeartbeats 1000000 in
theorem frombits_any (b : Nat) (w : World) (hb : b < 18446744073709551616) :
    Calls Tryz.prog 57 #[.int .u64 (b : Int)] w (RetR (sg b && decide (mg b ≠ 0)) (fbN b) (fbD b) w) := by
  obtain ⟨E, hE⟩ : ∃ E, E = b / 4503599627370496 % 2048 := ⟨_, rfl⟩
  obtain ⟨F, hF⟩ : ∃ F, F = b % 4503599627370496 := ⟨_, rfl⟩
  have g1 : bits .and .u64 ((b : Int) / 4503599627370496) 2047 = (E : Int) := by
    rw [show (b : Int) / 4503599627370496 = ((b / 4503599627370496 : Nat) : Int) by omega, show (2047 : Int) = ((2047 : Nat) : Int) from rfl, u64_and_nat _ _ (by omega) (by omega), nat_mask11, hE]
  have g2 : bits .and .u64 (b : Int) 4503599627370495 = (F : Int) := by
    rw [show (4503599627370495 : Int) = ((4503599627370495 : Nat) : Int) from rfl, u64_and_nat _ _ (by omega) (by omega), hF]
    congr 1
    exact Nat.and_two_pow_sub_one_eq_mod b 52
  have hEb : E < 2048 := by omega
  have hFb : F < 4503599627370496 := by omega
  obtain ⟨T, hT⟩ : ∃ T, T = b / 9223372036854775808 := ⟨_, rfl⟩
  have g3 : (b : Int) / 9223372036854775808 = (T : Int) := by omega
  have hS : Hid (sg b = decide (T = 1)) := Lib.hid (by unfold sg; rw [hT]; exact decide_eq_decide.2 (by omega))
  have hTb : T ≤ 1 := by omega
  have hsig : Hid (fbSig b = if E = 0 then F else F + 4503599627370496) := Lib.hid (by unfold fbSig; rw [hE, hF])
  have hexp : Hid (fbExp b = (if E = 0 then 0 else (E : Int) - 1) - 1074) := Lib.hid (by unfold fbExp; rw [hE])
  have hzero := Lib.hid (fbSig_zero b)
  have hNe : Hid (fbN b = fracN (fbSig b) 1 (fbExp b)) := Lib.hid rfl
  have hDe : Hid (fbD b = fracD (fbSig b) 1 (fbExp b)) := Lib.hid rfl
  have hSZ := Lib.hid (show (sg b && decide (mg b ≠ 0)) = (decide (T = 1) && decide (fbSig b ≠ 0)) by
    rw [hS.out]; simp only [ne_eq, hzero.out])
  have HB := Lib.hid hb
  have hbsz := fbSig_lt b
  have hbe1 := fbExp_lo b
  have hbe2 := fbExp_hi b
  obtain ⟨G, hG⟩ : ∃ G, G = fbSig b := ⟨_, rfl⟩
  obtain ⟨X, hX⟩ : ∃ X, X = fbExp b := ⟨_, rfl⟩
  rw [← hG] at hsig hNe hDe hSZ hbsz
  rw [← hX] at hexp hNe hDe hbe1 hbe2
  have hs1 : Hid (E = 0 → F = G ∧ X = -1074) := Lib.hid (fun h => by rw [hsig.out, hexp.out, if_pos h, if_pos h]; exact ⟨rfl, rfl⟩)
  have hs2 : Hid (E ≠ 0 → F + 4503599627370496 = G ∧ X = (E : Int) - 1 - 1074) := Lib.hid (fun h => by rw [hsig.out, hexp.out, if_neg h, if_neg h]; exact ⟨rfl, rfl⟩)
  have HGb := Lib.hid hbsz
  clear hb hE hF hT hG hX hbsz
  have hsm : ∀ w, Calls Tryz.prog 80 #[.int .u64 (G : Int)] w (RetW G w) := fun w => by
    have := small_any (G : Int) w (by omega) (by have := HGb.out; omega)
    rwa [Int.toNat_natCast] at this
  have HSM := Lib.hid hsm
  clear hsm
  have hd1 : T = 0 ∨ T = 1 := by omega
  clear hTb
  by_cases hE0 : E = 0
  · obtain ⟨e1, e2⟩ := hs1.out hE0
    have hE1 : E ≤ 0 := by omega
    have g4 : (F : Int) = (G : Int) := by omega
    have HX : Hid ((E : Int) - 1074 = X) := Lib.hid (by rw [e2]; omega)
    rw [g4] at g2
    clear hE0 e1 e2 hFb g4
    rcases hd1 with hd1 | hd1
    all_goals
      rw [hd1] at g3
      have HT := Lib.hid hd1
      clear hd1
      obtain ⟨sB, hsB⟩ : ∃ sB, sB = (decide (T = 1)) := ⟨_, rfl⟩
      obtain ⟨nb, hnb⟩ : ∃ nb, nb = (sg b && decide (mg b ≠ 0)) := ⟨_, rfl⟩
      obtain ⟨N, hN⟩ : ∃ N, N = fbN b := ⟨_, rfl⟩
      obtain ⟨D, hD⟩ : ∃ D, D = fbD b := ⟨_, rfl⟩
      rw [← hnb, ← hN, ← hD]
      have HNB : Hid (nb = (sB && decide (G ≠ 0))) := Lib.hid (by rw [hnb, hSZ.out, hsB])
      have HN : Hid (N = fracN G 1 X) := Lib.hid (by rw [hN, hNe.out])
      have HD : Hid (D = fracD G 1 X) := Lib.hid (by rw [hD, hDe.out])
      have HSB : Hid (sB = decide (T = 1)) := Lib.hid hsB
      clear hnb hN hD hsB
      go_enter Tryz.func57, Tryz.ntmps57
      go_wp2_with fail
      refine (HSM.out _).mono ?_
      rintro e w1 ⟨A1, n1, c1, rfl, h1, hEx1⟩
      have h2 := h1.alloc (.cells #[.int .u32 1] 104)
      have h3 := one_wds w1 rfl
      have hn1 : n1 ≤ 2 := by
        have := h1.len
        rw [nd_length] at this
        have := nw_of_bits (x := G) (k := 53) (m := 2) HGb.out (by omega)
        omega
      have hblk := ((Blk.new w 38 #[.bool false, .slice none 0 0, .slice none 0 0]).ext hEx1).ext ((Ext.refl w1).alloc (.cells #[.int .u32 1] 104))
      have hEx : Ext w (w1.alloc (.cells #[.int .u32 1] 104)) := (((Ext.refl w).alloc _).trans hEx1).alloc _
      have hfr := frac_any sB A1 n1 c1 (nd G) (some ⟨w1.heap.size, 0, none⟩) 1 1 [1] X (w1.alloc (.cells #[.int .u32 1] 104)) h2 (by omega) h3 (by omega) (by omega) (by omega) (by simp [nv])
      rw [nv_nd, show nv [1] = 1 from rfl, ← HNB.out, ← HN.out, ← HD.out, ← HX.out, HSB.out, HT.out] at hfr
      have HFR := Lib.hid hfr
      clear hfr h3
      go_wp2_with fail
      refine HFR.out.mono ?_
      rintro e w2 ⟨A2, n2, c2, A3, n3, c3, rfl, hr1, hr2, hEx2⟩
      have hblk2 := hblk.ext hEx2
      have hExw := hEx.trans hEx2
      obtain ⟨G0, hG0⟩ : ∃ G0, G0 = w.heap.size := ⟨_, rfl⟩
      rw [← hG0] at hblk2
      rw [← hG0]
      have hGw : w.heap.size ≤ G0 := by omega
      have hGl := hblk2.lt
      have q0 : w2.cell? ⟨G0, 0, none⟩ = some (.bool false) := hblk2.cell 0
      have q1 : w2.cell? ⟨G0, 1, none⟩ = some (.slice none 0 0) := hblk2.cell 1
      have q2 : w2.cell? ⟨G0, 2, none⟩ = some (.slice none 0 0) := hblk2.cell 2
      have f0 := hblk2.frozen 0
      have f1 := hblk2.frozen 1
      have f2 := hblk2.frozen 2
      clear hG0
      go_wp2
      refine bodyPost_ret (v := .agg #[.bool nb, .slice A2 n2 c2, .slice A3 n3 c3]) (by simp [results, Tryz.results57, go_sem, hGl, q0, q1, q2]) rfl ?_
      exact ⟨_, _, _, _, _, _, rfl, hr1.set_box3 hblk2 (noInt3 _ _ _ _ _ _ _) (by simp) (by simp), hr2.set_box3 hblk2 (noInt3 _ _ _ _ _ _ _) (by simp) (by simp), hExw.set3 hGw _ _ _⟩
  · obtain ⟨e1, e2⟩ := hs2.out hE0
    have hE1 : 0 < E := by omega
    have g4 : (F : Int) + 4503599627370496 = (G : Int) := by omega
    have HX : Hid ((E : Int) - 1 - 1074 = X) := Lib.hid e2.symm
    clear hE0 e1 e2
    rcases hd1 with hd1 | hd1
    all_goals
      rw [hd1] at g3
      have HT := Lib.hid hd1
      clear hd1
      obtain ⟨sB, hsB⟩ : ∃ sB, sB = (decide (T = 1)) := ⟨_, rfl⟩
      obtain ⟨nb, hnb⟩ : ∃ nb, nb = (sg b && decide (mg b ≠ 0)) := ⟨_, rfl⟩
      obtain ⟨N, hN⟩ : ∃ N, N = fbN b := ⟨_, rfl⟩
      obtain ⟨D, hD⟩ : ∃ D, D = fbD b := ⟨_, rfl⟩
      rw [← hnb, ← hN, ← hD]
      have HNB : Hid (nb = (sB && decide (G ≠ 0))) := Lib.hid (by rw [hnb, hSZ.out, hsB])
      have HN : Hid (N = fracN G 1 X) := Lib.hid (by rw [hN, hNe.out])
      have HD : Hid (D = fracD G 1 X) := Lib.hid (by rw [hD, hDe.out])
      have HSB : Hid (sB = decide (T = 1)) := Lib.hid hsB
      clear hnb hN hD hsB
      go_enter Tryz.func57, Tryz.ntmps57
      go_wp2_with fail
      refine (HSM.out _).mono ?_
      rintro e w1 ⟨A1, n1, c1, rfl, h1, hEx1⟩
      have h2 := h1.alloc (.cells #[.int .u32 1] 104)
      have h3 := one_wds w1 rfl
      have hn1 : n1 ≤ 2 := by
        have := h1.len
        rw [nd_length] at this
        have := nw_of_bits (x := G) (k := 53) (m := 2) HGb.out (by omega)
        omega
      have hblk := ((Blk.new w 38 #[.bool false, .slice none 0 0, .slice none 0 0]).ext hEx1).ext ((Ext.refl w1).alloc (.cells #[.int .u32 1] 104))
      have hEx : Ext w (w1.alloc (.cells #[.int .u32 1] 104)) := (((Ext.refl w).alloc _).trans hEx1).alloc _
      have hfr := frac_any sB A1 n1 c1 (nd G) (some ⟨w1.heap.size, 0, none⟩) 1 1 [1] X (w1.alloc (.cells #[.int .u32 1] 104)) h2 (by omega) h3 (by omega) (by omega) (by omega) (by simp [nv])
      rw [nv_nd, show nv [1] = 1 from rfl, ← HNB.out, ← HN.out, ← HD.out, ← HX.out, HSB.out, HT.out] at hfr
      have HFR := Lib.hid hfr
      clear hfr h3
      go_wp2_with fail
      refine HFR.out.mono ?_
      rintro e w2 ⟨A2, n2, c2, A3, n3, c3, rfl, hr1, hr2, hEx2⟩
      have hblk2 := hblk.ext hEx2
      have hExw := hEx.trans hEx2
      obtain ⟨G0, hG0⟩ : ∃ G0, G0 = w.heap.size := ⟨_, rfl⟩
      rw [← hG0] at hblk2
      rw [← hG0]
      have hGw : w.heap.size ≤ G0 := by omega
      have hGl := hblk2.lt
      have q0 : w2.cell? ⟨G0, 0, none⟩ = some (.bool false) := hblk2.cell 0
      have q1 : w2.cell? ⟨G0, 1, none⟩ = some (.slice none 0 0) := hblk2.cell 1
      have q2 : w2.cell? ⟨G0, 2, none⟩ = some (.slice none 0 0) := hblk2.cell 2
      have f0 := hblk2.frozen 0
      have f1 := hblk2.frozen 1
      have f2 := hblk2.frozen 2
      clear hG0
      go_wp2
      refine bodyPost_ret (v := .agg #[.bool nb, .slice A2 n2 c2, .slice A3 n3 c3]) (by simp [results, Tryz.results57, go_sem, hGl, q0, q1, q2]) rfl ?_
      exact ⟨_, _, _, _, _, _, rfl, hr1.set_box3 hblk2 (noInt3 _ _ _ _ _ _ _) (by simp) (by simp), hr2.set_box3 hblk2 (noInt3 _ _ _ _ _ _ _) (by simp) (by simp), hExw.set3 hGw _ _ _⟩
end Go.Proofs.YtfbjeifhpmdjaaaGreat
