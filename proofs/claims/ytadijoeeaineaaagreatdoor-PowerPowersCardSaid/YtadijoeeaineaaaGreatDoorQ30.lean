/-
  Plain: powers of numbers, as the program and as a ratio tells them. Conditions: those that each theorem names.
-/
import Derived.Test.YtadijoeeaineaaaGreatDoorQ29
import Derived.Test.YtadijoeeaineaaaGreatDoorQ24
import Derived.Test.YtadijoeeaineaaaGreatDoorQ20
set_option linter.unusedVariables false
set_option linter.unusedSimpArgs false
namespace Go.Proofs.YtadijoeeaineaaaGreatDoor
open Nm Rn

/-- Of, where nothing is held. -/
theorem ofR_zd (d : Int) (neg : Bool) {V : Nat} {e : Int} (hb : bl V ≤ 524288) (h1 : -1099511627776 ≤ e) (h2 : e ≤ 1099511627776) : ofR d neg V e = rnd d neg (zd V e) := by
  have hh : holdZ e = e := by unfold holdZ; omega
  by_cases h0 : V = 0
  · have := ofR_hold (d := d) (neg := neg) (V := V) (e := e) hb (.inl h0)
    rw [this, hh, zd_two]
  · by_cases ht : (bl V : Int) + e < -1076
    · rw [ofR_tiny h0 hb ht, ← zd_two, zd_tiny h0 ht]
    · have := ofR_hold (d := d) (neg := neg) (V := V) (e := e) hb (.inr (by rw [hh]; omega))
      rw [this, hh, zd_two]
theorem zd_zr {V N D : Nat} {e : Int} {P Q : Nat} (hD : 0 < D) (hPQ : (P : Int) - Q = e) (h : V * 2 ^ P * D = N * 2 ^ Q) : zd V e = zr N D := by
  obtain ⟨c, hc⟩ : ∃ c : Nat, c = 1075 := ⟨_, rfl⟩
  rw [zd_of (A := P + c) (B := Q) (by omega), zr_eq]
  refine zq_congr (two_pow_pos _) hD ?_
  rw [show K75 = 2 ^ c by rw [hc]; exact K75_def, Nat.pow_add]
  have a1 : V * (2 ^ P * 2 ^ c) * D = V * 2 ^ P * D * 2 ^ c := by ac_rfl
  rw [a1, h]
  ac_rfl

/-- Ratio, where nothing is held. -/
theorem ratR_same (d : Int) (neg : Bool) {N M N' M' : Nat} {e : Int} (hN : N ≠ 0) (hM : M ≠ 0) (hn : bl N ≤ 524288) (hm : bl M ≤ 524288) (h1 : -1099511627776 ≤ e) (h2 : e ≤ 1099511627776) (h : Same75 N M e N' M') : ratR d neg N M e = rnd d neg (zq N' M') := by
  have hh : holdZ e = e := by unfold holdZ; omega
  by_cases ht : -1100 ≤ (bl N : Int) - bl M + holdZ e
  · obtain ⟨k, hk⟩ : ∃ k, k = bl M + 60 := ⟨_, rfl⟩
    have hb : decide (N * 2 ^ k % M ≠ 0) = true → 55 ≤ bl (N * 2 ^ k / M) := fun _ => by
      have h3 : 2 ^ 55 ≤ N * 2 ^ k / M := by
        refine (Nat.le_div_iff_mul_le (show 0 < M by omega)).2 ?_
        have h4 := lt_pow_bl M
        have h5 : 2 ^ 55 * M ≤ 2 ^ 55 * 2 ^ bl M := Nat.mul_le_mul_left _ (Nat.le_of_lt h4)
        rw [← Nat.pow_add] at h5
        have h6 : 2 ^ (55 + bl M) ≤ 2 ^ k := Nat.pow_le_pow_right (by omega) (by omega)
        have h7 : 2 ^ k ≤ N * 2 ^ k := Nat.le_mul_of_pos_left _ (by omega)
        omega
      rcases Nat.lt_or_ge (bl (N * 2 ^ k / M)) 55 with g | g
      · have := lt_pow_bl (N * 2 ^ k / M)
        have h8 : 2 ^ bl (N * 2 ^ k / M) ≤ 2 ^ 55 := Nat.pow_le_pow_right (by omega) (by omega)
        omega
      · exact g
    rw [← rat_fin d neg hN hM hn hm ht hb, hh]
    exact h.gen hb d neg
  · have htt : (bl N : Int) - bl M + holdZ e < -1100 := by omega
    rw [← rat_tiny d neg hN hM hn hm htt]
    have e1 : zd (2 * 1) (-1200 - 1) = 1 := zd_tiny (V := 1) (e := -1200) (by omega) (by decide)
    rw [e1]
    obtain ⟨A, B, hAB, hM', hD, hv⟩ := h
    have e2 : zq N' M' = 1 := by
      have hlt : N' < M' := by
        have b1 := lt_pow_bl N
        have b2 : 2 ^ (bl M - 1) ≤ M := by
          rcases Nat.lt_or_ge M (2 ^ (bl M - 1)) with g | g
          · have := (bl_le_iff M (bl M - 1)).2 g
            have := bl_pos hM
            omega
          · exact g
        have hpos := bl_pos hM
        -- N 2^A < 2^(bl N + A) ≤ 2^(bl M - 1 + B) ≤ M 2^B
        have c1 : N * 2 ^ A < 2 ^ bl N * 2 ^ A := Nat.mul_lt_mul_of_pos_right b1 (two_pow_pos A)
        have c2 : 2 ^ (bl M - 1) * 2 ^ B ≤ M * 2 ^ B := Nat.mul_le_mul_right _ b2
        rw [← Nat.pow_add] at c1 c2
        have c3 : 2 ^ (bl N + A) ≤ 2 ^ (bl M - 1 + B) := Nat.pow_le_pow_right (by omega) (by omega)
        have c4 : N * 2 ^ A < M * 2 ^ B := by omega
        have c5 : N * 2 ^ A * M' < M * 2 ^ B * M' := Nat.mul_lt_mul_of_pos_right c4 hM'
        rw [hv, Nat.mul_comm (M * 2 ^ B)] at c5
        exact Nat.lt_of_mul_lt_mul_right c5
      unfold zq
      have hN' : N' ≠ 0 := fun e0 => by
        rw [e0, Nat.zero_mul] at hv
        have := Nat.mul_pos (Nat.mul_pos (show 0 < N by omega) (two_pow_pos A)) hM'
        omega
      rw [Nat.div_eq_of_lt hlt, Nat.mod_eq_of_lt hlt, if_neg hN']
    rw [e2]

/-- The odd part of a number's significand, and the exponent that goes with it. -/
def odS (x : Nat) : Nat := fbSig x / 2 ^ tz (fbSig x)
def odE (x : Nat) : Int := fbExp x + tz (fbSig x)
theorem odS_mul (x : Nat) : odS x * 2 ^ tz (fbSig x) = fbSig x := tz_div
theorem odS_pos {x : Nat} (h : mg x ≠ 0) : 0 < odS x := tz_div_pos fun e => h ((fbSig_zero x).1 e)
theorem odS_bl (x : Nat) : odS x < 2 ^ 53 := by
  have h1 := fbSig_lt x
  have h2 : odS x ≤ fbSig x := Nat.div_le_self _ _
  have e : (2 : Nat) ^ 53 = 9007199254740992 := by decide
  omega
/-- A power, as a ratio and as an odd number times a power of 2. -/
theorem pow_val (x m : Nat) : ∃ p q : Nat, (p : Int) - q = odE x * m ∧ odS x ^ m * 2 ^ p * fracD (fbN x ^ m) (fbD x ^ m) 0 = fracN (fbN x ^ m) (fbD x ^ m) 0 * 2 ^ q := by
  obtain ⟨z, hz⟩ : ∃ z, z = tz (fbSig x) := ⟨_, rfl⟩
  obtain ⟨p0, q0, hpq⟩ : ∃ p q : Nat, (p : Int) - q = fbExp x := ⟨(fbExp x).toNat, (-fbExp x).toNat, by omega⟩
  have h1 : fbN x * 2 ^ q0 = fbSig x * 2 ^ p0 * fbD x := fb_gen (fbSig x) (fbExp x) p0 q0 hpq
  have hs := odS_mul x
  rw [← hz] at hs
  have hDp : 0 < fbD x ^ m := Nat.pow_pos (fbD_pos x)
  have h2 := frac_val (n := fbN x ^ m) (d := fbD x ^ m) (e := 0) (p := 0) (q := 0) rfl
  rw [Nat.pow_zero, Nat.mul_one, Nat.mul_one] at h2
  refine ⟨(z + p0) * m, q0 * m, ?_, ?_⟩
  · unfold odE
    rw [← hz, ← hpq]
    push_cast
    rw [← Int.sub_mul]
    congr 1
    omega
  · obtain ⟨P, hP⟩ : ∃ P, P = fracN (fbN x ^ m) (fbD x ^ m) 0 := ⟨_, rfl⟩
    obtain ⟨Q, hQ⟩ : ∃ Q, Q = fracD (fbN x ^ m) (fbD x ^ m) 0 := ⟨_, rfl⟩
    rw [← hP, ← hQ] at h2 ⊢
    refine Nat.eq_of_mul_eq_mul_right hDp ?_
    have h3 : fbN x ^ m * 2 ^ (q0 * m) = odS x ^ m * 2 ^ ((z + p0) * m) * fbD x ^ m := by
      rw [Nat.pow_mul, Nat.pow_mul, ← Nat.mul_pow, ← Nat.mul_pow, ← Nat.mul_pow, h1, ← hs, Nat.pow_add]
      congr 1
      ac_rfl
    calc odS x ^ m * 2 ^ ((z + p0) * m) * Q * fbD x ^ m = odS x ^ m * 2 ^ ((z + p0) * m) * fbD x ^ m * Q := Nat.mul_right_comm _ _ _
      _ = fbN x ^ m * 2 ^ (q0 * m) * Q := by rw [h3]
      _ = fbN x ^ m * Q * 2 ^ (q0 * m) := Nat.mul_right_comm _ _ _
      _ = P * fbD x ^ m * 2 ^ (q0 * m) := by rw [h2]
      _ = P * 2 ^ (q0 * m) * fbD x ^ m := Nat.mul_right_comm _ _ _
theorem pow_bl (x m : Nat) (hm : m ≤ 1024) : bl (odS x ^ m) ≤ 54272 := by
  obtain ⟨T, hT⟩ : ∃ T : Nat, T = 54272 := ⟨_, rfl⟩
  rw [← hT, bl_le_iff]
  have h1 := odS_bl x
  by_cases h0 : m = 0
  · rw [h0, Nat.pow_zero]
    exact Nat.one_lt_two_pow (show T ≠ 0 by omega)
  · have h2 : odS x ^ m < (2 ^ 53) ^ m := Nat.pow_lt_pow_left h1 h0
    rw [← Nat.pow_mul] at h2
    have h3 : 2 ^ (53 * m) ≤ 2 ^ T := Nat.pow_le_pow_right (by omega) (by omega)
    omega
theorem odE_rng (x : Nat) : -1074 ≤ odE x ∧ odE x ≤ 1100 := by
  have h1 := fbExp_lo x
  have h2 := fbExp_hi x
  have h3 : tz (fbSig x) ≤ 53 := by
    by_cases h0 : fbSig x = 0
    · rw [h0]; decide
    · have h4 := tz_div (n := fbSig x)
      have h5 := tz_div_pos h0
      have h6 := fbSig_lt x
      rcases Nat.lt_or_ge 53 (tz (fbSig x)) with g | g
      · have h7 : 2 ^ 54 ≤ 2 ^ tz (fbSig x) := Nat.pow_le_pow_right (by omega) g
        have h8 : 2 ^ tz (fbSig x) ≤ fbSig x / 2 ^ tz (fbSig x) * 2 ^ tz (fbSig x) := Nat.le_mul_of_pos_left _ h5
        have e : (2 : Nat) ^ 54 = 18014398509481984 := by decide
        omega
      · exact g
  unfold odE
  omega
theorem odE_m (x m : Nat) (hm : m ≤ 1024) : -1099776 ≤ odE x * m ∧ odE x * m ≤ 1126400 := by
  obtain ⟨h1, h2⟩ := odE_rng x
  have a1 := Int.mul_le_mul_of_nonneg_right h2 (show (0 : Int) ≤ (m : Int) by omega)
  have a2 := Int.mul_le_mul_of_nonneg_right h1 (show (0 : Int) ≤ (m : Int) by omega)
  omega
theorem pow_pos_eq (d : Int) (neg : Bool) (x : Nat) {m : Nat} (hm : m ≤ 1024) : ofR d neg (odS x ^ m) (odE x * m) = rnd d neg (zr (fracN (fbN x ^ m) (fbD x ^ m) 0) (fracD (fbN x ^ m) (fbD x ^ m) 0)) := by
  obtain ⟨p, q, hpq, hv⟩ := pow_val x m
  obtain ⟨e1, e2⟩ := odE_m x m hm
  have hb := pow_bl x m hm
  rw [ofR_zd d neg (by omega) (by omega) (by omega)]
  rw [zd_zr (fracD_pos (n := fbN x ^ m) 0 (Nat.ne_of_gt (Nat.pow_pos (fbD_pos x)))) hpq hv]
theorem pow_neg_eq (d : Int) (neg : Bool) {x : Nat} (hx : mg x ≠ 0) {m : Nat} (hm : m ≤ 1024) (P Q : Nat) (hP : P = fracN (fbN x ^ m) (fbD x ^ m) 0) (hQ : Q = fracD (fbN x ^ m) (fbD x ^ m) 0) :
    0 < P ∧ 0 < Q ∧ ratR d neg 1 (odS x ^ m) (-(odE x * m)) = rnd d neg (zr (fracN (1 * Q) (1 * P) 0) (fracD (1 * Q) (1 * P) 0)) := by
  obtain ⟨p, q, hpq, hv⟩ := pow_val x m
  obtain ⟨e1, e2⟩ := odE_m x m hm
  have hb := pow_bl x m hm
  have hS := odS_pos hx
  have hV : 0 < odS x ^ m := Nat.pow_pos hS
  have hQp : 0 < Q := by rw [hQ]; exact fracD_pos 0 (Nat.ne_of_gt (Nat.pow_pos (fbD_pos x)))
  rw [← hP, ← hQ] at hv
  have hPp : 0 < P := by
    rcases Nat.eq_zero_or_pos P with h | h
    · rw [h, Nat.zero_mul] at hv
      have := Nat.mul_pos (Nat.mul_pos hV (two_pow_pos p)) hQp
      omega
    · exact h
  refine ⟨hPp, hQp, ?_⟩
  rw [Nat.one_mul, Nat.one_mul]
  have h2 := frac_val (n := Q) (d := P) (e := 0) (p := 0) (q := 0) rfl
  rw [Nat.pow_zero, Nat.mul_one, Nat.mul_one] at h2
  have hq' : 0 < fracD Q P 0 := fracD_pos 0 (Nat.ne_of_gt hPp)
  obtain ⟨P', hP'⟩ : ∃ z, z = fracN Q P 0 := ⟨_, rfl⟩
  obtain ⟨Q', hQ'⟩ : ∃ z, z = fracD Q P 0 := ⟨_, rfl⟩
  rw [← hP', ← hQ'] at h2 ⊢
  rw [← hQ'] at hq'
  rw [zr_eq]
  refine ratR_same d neg (by omega) (Nat.ne_of_gt hV) (by decide) (by omega) (by omega) (by omega) ?_
  obtain ⟨c, hc⟩ : ∃ c : Nat, c = 1075 := ⟨_, rfl⟩
  refine ⟨q + c, p, by omega, hq', hV, ?_⟩
  rw [show K75 = 2 ^ c by rw [hc]; exact K75_def, Nat.one_mul, Nat.pow_add]
  refine Nat.eq_of_mul_eq_mul_right hPp ?_
  calc 2 ^ q * 2 ^ c * Q' * P = P * 2 ^ q * (Q' * 2 ^ c) := by ac_rfl
    _ = odS x ^ m * 2 ^ p * Q * (Q' * 2 ^ c) := by rw [← hv]
    _ = Q * Q' * (2 ^ c * (odS x ^ m * 2 ^ p)) := by ac_rfl
    _ = P' * P * (2 ^ c * (odS x ^ m * 2 ^ p)) := by rw [h2]
    _ = P' * 2 ^ c * (odS x ^ m * 2 ^ p) * P := by ac_rfl
end Go.Proofs.YtadijoeeaineaaaGreatDoor

/-
  The contract of the program's Ratio, of all naturals. Conditions: those that the theorem names.
-/
namespace Go.Proofs.YtadijoeeaineaaaGreatDoor
open Go.RowKit Nm Rn
set_option maxRecDepth 100000
set_option linter.unusedVariables false
set_option linter.unusedSimpArgs false

theorem nw_of_big {V : Nat} (h : 524288 < bl V) : 16384 < nw V := by
  have := bl_le_nw V
  omega
theorem cn_inf (s : Bool) : cn (infP s) = infP s := cn_num (by cases s <;> decide)

set_option maxHeartbeats 8000000 in
theorem pratio_any (d : Int) (neg : Bool) (A : Option Addr) (n c : Nat) (xs : List Nat) (B : Option Addr) (m dd : Nat) (ys : List Nat) (exp : Int) (w : World) (h : Wds w A n c xs) (hn : n ≤ 8796093022208) (k : Wds w B m dd ys) (hm : m ≤ 8796093022208) :
    Calls Tryz.prog 86 #[.int .i64 d, .bool neg, .slice A n c, .slice B m dd, .int .i64 exp] w (RetFl (ratR d neg (nv xs) (nv ys) exp) w) := by
  have HL1 := Lib.hid (fun w h => nlen_any A n c xs w h (by omega))
  have HL2 := Lib.hid (fun w h => nlen_any B m dd ys w h (by omega))
  have HH := Lib.hid (fun w => hold_any exp w)
  have hSH := fun s w h h0 hs => nshl_any A n c xs s w h (by omega) h0 hs
  have hSL := fun s w h h0 h1 hsb hs => nshl_long A n c xs s w h (by omega) h0 h1 hsb hs
  have hQ := fun (A1 : Option Addr) (n1 c1 : Nat) (s : Nat) (w : World) (h : Wds w A1 n1 c1 (nd s)) (k : Wds w B m dd ys) (hs : nw s ≤ 16384) (hd : nw (nv ys) ≤ 16384) (h0 : nv ys ≠ 0) => nquo_any A1 n1 c1 (nd s) B m dd ys w h (by have := h.len; rw [nd_length] at this; omega) k hm (by rw [nv_nd]; exact hs) hd h0
  have hLG := fun e w h k h1 h2 h3 h4 e1 e2 => rlong_any d neg A n c xs B m dd ys e w h hn k hm h1 h2 h3 h4 e1 e2
  simp only [nv_nd] at hQ
  obtain ⟨V, hV⟩ : ∃ V, V = nv xs := ⟨_, rfl⟩
  obtain ⟨D, hD⟩ : ∃ D, D = nv ys := ⟨_, rfl⟩
  rw [← hV] at HL1 hSH hSL hLG ⊢
  rw [← hD] at HL2 hQ hLG ⊢
  clear hV hD
  obtain ⟨bV, hbV⟩ : ∃ b, b = bl V := ⟨_, rfl⟩
  obtain ⟨bD, hbD⟩ : ∃ b, b = bl D := ⟨_, rfl⟩
  rw [← hbV] at HL1
  rw [← hbD] at HL2
  by_cases cV : 524288 < bV
  · have HF : Hid (ratR d neg V D exp = NaNc) := Lib.hid (by unfold ratR; rw [if_pos (.inl (nw_of_big (by omega)))])
    have hca : decide ((524288 : Int) < (bV : Int)) = true := decide_eq_true (by omega)
    clear hSH hSL hQ hLG hbV hbD cV
    go_enter Tryz.func86, Tryz.ntmps86
    go_wp2_with (first | (go_at_call 110; (first | (with_reducible refine (HL1.out _ h).mono ?_) | (with_reducible refine (HL2.out _ k).mono ?_)); rintro e w' ⟨rfl, rfl⟩) | (go_at_call 55; refine (mnanc_any _).mono ?_; rintro e w' ⟨rfl, rfl⟩))
    go_ret
    exact ⟨_, rfl, by rw [NaNc_val]; omega, by rw [HF.out]; rfl, Ext.refl _⟩
  have hca : decide ((524288 : Int) < (bV : Int)) = false := decide_eq_false (by omega)
  by_cases cD : 524288 < bD
  · have HF : Hid (ratR d neg V D exp = NaNc) := Lib.hid (by unfold ratR; rw [if_pos (.inr (nw_of_big (by omega)))])
    have hcb : decide ((524288 : Int) < (bD : Int)) = true := decide_eq_true (by omega)
    clear hSH hSL hQ hLG hbV hbD cD cV
    go_enter Tryz.func86, Tryz.ntmps86
    go_wp2_with (first | (go_at_call 110; (first | (with_reducible refine (HL1.out _ h).mono ?_) | (with_reducible refine (HL2.out _ k).mono ?_)); rintro e w' ⟨rfl, rfl⟩) | (go_at_call 55; refine (mnanc_any _).mono ?_; rintro e w' ⟨rfl, rfl⟩))
    go_ret
    exact ⟨_, rfl, by rw [NaNc_val]; omega, by rw [HF.out]; rfl, Ext.refl _⟩
  have hcb : decide ((524288 : Int) < (bD : Int)) = false := decide_eq_false (by omega)
  have hVn : nw V ≤ 16384 := nw_of_bl (by omega)
  have hDn : nw D ≤ 16384 := nw_of_bl (by omega)
  by_cases hD0 : D = 0
  · have hbz : bD = 0 := by rw [hbD, hD0]; rfl
    subst hbz
    by_cases hV0 : V = 0
    · have HF : Hid (ratR d neg V D exp = NaNc) := Lib.hid (by unfold ratR; rw [if_neg (by omega), if_pos hD0, if_pos hV0])
      have hbz : bV = 0 := by rw [hbV, hV0]; rfl
      subst hbz
      clear hSH hSL hQ hLG hbV hbD cD cV hca hcb hV0 hD0
      go_enter Tryz.func86, Tryz.ntmps86
      go_wp2_with (first | (go_at_call 110; (first | (with_reducible refine (HL1.out _ h).mono ?_) | (with_reducible refine (HL2.out _ k).mono ?_)); rintro e w' ⟨rfl, rfl⟩) | (go_at_call 55; refine (mnanc_any _).mono ?_; rintro e w' ⟨rfl, rfl⟩))
      go_ret
      exact ⟨_, rfl, by rw [NaNc_val]; omega, by rw [HF.out]; rfl, Ext.refl _⟩
    · have HF : Hid (ratR d neg V D exp = infP neg) := Lib.hid (by unfold ratR; rw [if_neg (by omega), if_pos hD0, if_neg hV0])
      have hbp : 1 ≤ bV := by rw [hbV]; exact bl_pos hV0
      have hcz : ((bV : Int) == 0) = false := by rw [beq_eq_false_iff_ne]; omega
      clear hSH hSL hQ hLG hbV hbD cD cV hcb hV0 hD0
      cases neg
      · go_enter Tryz.func86, Tryz.ntmps86
        go_wp2_with (first | (go_at_call 110; (first | (with_reducible refine (HL1.out _ h).mono ?_) | (with_reducible refine (HL2.out _ k).mono ?_)); rintro e w' ⟨rfl, rfl⟩) | (go_at_call 27; refine (inf_p _).mono ?_; rintro e w' ⟨rfl, rfl⟩))
        go_ret
        exact ⟨_, rfl, infR_lt, by rw [HF.out]; exact cn_inf false, Ext.refl _⟩
      · go_enter Tryz.func86, Tryz.ntmps86
        go_wp2_with (first | (go_at_call 110; (first | (with_reducible refine (HL1.out _ h).mono ?_) | (with_reducible refine (HL2.out _ k).mono ?_)); rintro e w' ⟨rfl, rfl⟩) | (go_at_call 27; refine (inf_m _).mono ?_; rintro e w' ⟨rfl, rfl⟩))
        go_ret
        exact ⟨_, rfl, minf_lt, by rw [HF.out]; exact cn_inf true, Ext.refl _⟩
  have hbDp : 1 ≤ bD := by rw [hbD]; exact bl_pos hD0
  have hcz : ((bD : Int) == 0) = false := by rw [beq_eq_false_iff_ne]; omega
  by_cases hV0 : V = 0
  · have hbz : bV = 0 := by rw [hbV, hV0]; rfl
    have HF : Hid (ratR d neg V D exp = 0) := Lib.hid (by rw [hV0]; exact rat_zero d neg hD0 (by omega))
    subst hbz
    clear hSH hSL hQ hLG hbV hbD cD cV hca hV0 hD0
    go_enter Tryz.func86, Tryz.ntmps86
    go_wp2_with (first | (go_at_call 110; (first | (with_reducible refine (HL1.out _ h).mono ?_) | (with_reducible refine (HL2.out _ k).mono ?_)); rintro e w' ⟨rfl, rfl⟩))
    go_ret
    exact ⟨_, rfl, by omega, by rw [HF.out]; rfl, Ext.refl _⟩
  have hbVp : 1 ≤ bV := by rw [hbV]; exact bl_pos hV0
  have hcy : ((bV : Int) == 0) = false := by rw [beq_eq_false_iff_ne]; omega
  obtain ⟨H, hH⟩ : ∃ H, H = holdZ exp := ⟨_, rfl⟩
  have hH1 : -1099511627776 ≤ H ∧ H ≤ 1099511627776 := by rw [hH]; unfold holdZ; omega
  rw [← hH] at HH
  by_cases ht : (bV : Int) - bD + H < -1100
  · have hRT := rat_tiny d neg (e := exp) hV0 hD0 (by omega) (by omega) (by rw [← hbV, ← hbD, ← hH]; exact ht)
    have HNUM := Lib.hid (rat_num d neg hRT)
    have hOF := fun w => of_any d neg (some ⟨w.heap.size, 0, none⟩) 1 1 [1] (-1200) false (w.alloc (.cells #[.int .u32 1] 65)) (one_list w 0) (by omega) (by rw [show nv [1] = 1 from rfl, show nw 1 = 1 from rfl]; omega) (by omega) (by omega) (by intro h; cases h)
    simp only [Bool.toNat_false, Nat.add_zero, show nv [1] = 1 from rfl] at hOF
    rw [hRT] at hOF
    have HOF := Lib.hid hOF
    have HE0 : Hid (Ext w (w.alloc (.cells #[.int .u32 1] 65))) := Lib.hid ((Ext.refl w).alloc _)
    generalize ratR d neg V D exp = R at HOF HNUM ⊢
    clear hSH hSL hQ hLG hbV hbD hV0 hD0 hRT hOF hH
    go_enter Tryz.func86, Tryz.ntmps86
    go_wp2_with (first | (go_at_call 110; (first | (with_reducible refine (HL1.out _ h).mono ?_) | (with_reducible refine (HL2.out _ k).mono ?_)); rintro e w' ⟨rfl, rfl⟩) | (go_at_call 113; refine (HH.out _).mono ?_; rintro e w' ⟨rfl, rfl⟩))
    refine (HOF.out _).mono ?_
    rintro e w1 ⟨rfl, hE⟩
    go_wp2
    go_ret
    exact ⟨_, rfl, HNUM.out.1, HNUM.out.2, HE0.out.trans hE⟩
  have hFIN := fun (kk : Nat) hb => rat_fin d neg (k := kk) (e := exp) hV0 hD0 (by omega) (by omega) (by rw [← hbV, ← hbD, ← hH]; omega) hb
  rw [← hH] at hFIN
  have hLG1 := fun w h k => hLG H w h k hV0 hD0 (by omega) (by omega) hH1.1 hH1.2
  clear hLG
  have HLG : Hid (∀ w, Wds w A n c xs → Wds w B m dd ys → Calls Tryz.prog 117 #[.int .i64 d, .bool neg, .slice A n c, .slice B m dd, .int .i64 H] w (RetFl (ratR d neg V D exp) w)) := Lib.hid fun w h k => (hLG1 w h k).mono (by
    rintro e w' ⟨kk, rfl, hb, hE⟩
    have hf := hFIN kk hb
    have hnum := rat_num d neg hf
    exact ⟨_, rfl, by rw [hf]; exact hnum.1, by rw [hf]; exact hnum.2, hE⟩)
  clear hLG1
  by_cases c57 : 57 + (bD : Int) - (bV : Int) ≤ 0
  · generalize ratR d neg V D exp = R at HLG ⊢
    clear hSH hSL hQ hbV hbD hV0 hD0 hFIN hH
    go_enter Tryz.func86, Tryz.ntmps86
    go_wp2_with (first | (go_at_call 110; (first | (with_reducible refine (HL1.out _ h).mono ?_) | (with_reducible refine (HL2.out _ k).mono ?_)); rintro e w' ⟨rfl, rfl⟩) | (go_at_call 113; refine (HH.out _).mono ?_; rintro e w' ⟨rfl, rfl⟩))
    refine (HLG.out _ h k).mono ?_
    rintro e w1 ⟨r, rfl, hr, hc, hE⟩
    go_wp2
    go_ret
    exact ⟨_, rfl, hr, hc, hE⟩
  obtain ⟨kk, hkk⟩ : ∃ kk, kk = 57 + bD - bV := ⟨_, rfl⟩
  have hke : 57 + (bD : Int) - (bV : Int) = (kk : Int) := by omega
  have hkp : 1 ≤ kk := by omega
  by_cases cS : bV + kk ≤ 524288
  · have hmain := ((same_frac (N := V) H hD0).main (k := kk) (by rw [← hbV, ← hbD]; omega) hV0 d neg).2
    have hfin := hFIN kk (fun _ => hmain)
    have HNUM := Lib.hid (rat_num d neg hfin)
    have HSH := Lib.hid (fun w h => hSH kk w h hV0 (by rw [← hbV]; omega))
    obtain ⟨s, hs⟩ : ∃ s, s = V * 2 ^ kk := ⟨_, rfl⟩
    rw [← hs] at hmain HSH hfin
    have hsb : bl s = bV + kk := by rw [hs, bl_mul_pow kk hV0, ← hbV]
    have hnws : nw s ≤ 16384 := nw_of_bl (by rw [hsb]; omega)
    have HQ := Lib.hid (fun A1 n1 c1 w h k => hQ A1 n1 c1 s w h k hnws hDn hD0)
    obtain ⟨Q, hQe⟩ : ∃ Q, Q = s / D := ⟨_, rfl⟩
    obtain ⟨R, hR⟩ : ∃ R, R = s % D := ⟨_, rfl⟩
    rw [← hQe, ← hR] at HQ hfin
    rw [← hQe] at hmain
    have hnwQ : nw Q ≤ 16384 := Nat.le_trans (nw_mono (by rw [hQe]; exact Nat.div_le_self _ _)) hnws
    have HOF := Lib.hid (fun (A1 : Option Addr) (n1 c1 : Nat) (w : World) (h : Wds w A1 n1 c1 (nd Q)) => of_any d neg A1 n1 c1 (nd Q) (H - kk) (decide (R ≠ 0)) w h (by have := h.len; rw [nd_length] at this; omega) (by rw [nv_nd]; exact hnwQ) (by omega) (by omega) (fun _ => by rw [nv_nd]; exact hmain))
    simp only [nv_nd] at HOF
    rw [hfin] at HOF
    generalize ratR d neg V D exp = Z at HOF HNUM ⊢
    clear hSH hSL hQ hFIN HLG hbV hbD hmain hs hsb hnws hQe hR hnwQ hV0 hD0 hkk cS hfin hH
    by_cases hR0 : R = 0
    · subst hR0
      go_enter Tryz.func86, Tryz.ntmps86
      go_wp2_with (first | (go_at_call 110; (first | (with_reducible refine (HL1.out _ h).mono ?_) | (with_reducible refine (HL2.out _ k).mono ?_)); rintro e w' ⟨rfl, rfl⟩) | (go_at_call 113; refine (HH.out _).mono ?_; rintro e w' ⟨rfl, rfl⟩))
      refine (HSH.out _ h).mono ?_
      rintro e w1 ⟨A1, n1, c1, rfl, hW1, hE1⟩
      go_wp2_with fail
      refine (HQ.out _ _ _ _ hW1 (k.ext hE1)).mono ?_
      rintro e w2 ⟨A2, n2, c2, A3, n3, c3, rfl, hW2, hW3, hE2⟩
      have hn3 : n3 = 0 := by have := hW3.len; rw [nd_length, nw_zero] at this; omega
      subst hn3
      go_wp2_with fail
      refine (HOF.out _ _ _ _ hW2).mono ?_
      rintro e w3 ⟨rfl, hE3⟩
      go_wp2
      go_ret
      exact ⟨_, rfl, HNUM.out.1, HNUM.out.2, hE1.trans (hE2.trans hE3)⟩
    · have hdR : decide (R ≠ 0) = true := decide_eq_true hR0
      rw [hdR] at HOF
      have HR0 := Lib.hid hR0
      clear hR0 hdR
      go_enter Tryz.func86, Tryz.ntmps86
      go_wp2_with (first | (go_at_call 110; (first | (with_reducible refine (HL1.out _ h).mono ?_) | (with_reducible refine (HL2.out _ k).mono ?_)); rintro e w' ⟨rfl, rfl⟩) | (go_at_call 113; refine (HH.out _).mono ?_; rintro e w' ⟨rfl, rfl⟩))
      refine (HSH.out _ h).mono ?_
      rintro e w1 ⟨A1, n1, c1, rfl, hW1, hE1⟩
      go_wp2_with fail
      refine (HQ.out _ _ _ _ hW1 (k.ext hE1)).mono ?_
      rintro e w2 ⟨A2, n2, c2, A3, n3, c3, rfl, hW2, hW3, hE2⟩
      have hn3 : 0 < n3 := by
        have := hW3.len
        rw [nd_length] at this
        rcases Nat.eq_zero_or_pos n3 with e | e
        · exact absurd (nw_eq_zero.1 (by omega)) HR0.out
        · exact e
      go_wp2_with fail
      refine (HOF.out _ _ _ _ hW2).mono ?_
      rintro e w3 ⟨rfl, hE3⟩
      go_wp2
      go_ret
      exact ⟨_, rfl, HNUM.out.1, HNUM.out.2, hE1.trans (hE2.trans hE3)⟩
  · have HSL := Lib.hid (fun w h => hSL kk w h hV0 hVn (by omega) (by rw [← hbV]; omega))
    generalize ratR d neg V D exp = R at HLG ⊢
    clear hSH hSL hQ hbV hbD hV0 hD0 hFIN hH cS hkk
    go_enter Tryz.func86, Tryz.ntmps86
    go_wp2_with (first | (go_at_call 110; (first | (with_reducible refine (HL1.out _ h).mono ?_) | (with_reducible refine (HL2.out _ k).mono ?_)); rintro e w' ⟨rfl, rfl⟩) | (go_at_call 113; refine (HH.out _).mono ?_; rintro e w' ⟨rfl, rfl⟩))
    refine (HSL.out _ h).mono ?_
    rintro e w1 ⟨A1, n1, c1, rfl, hW1, hE1⟩
    go_wp2_with fail
    refine (HLG.out _ (h.ext hE1) (k.ext hE1)).mono ?_
    rintro e w1 ⟨r, rfl, hr, hc, hE⟩
    go_wp2
    go_ret
    exact ⟨_, rfl, hr, hc, hE1.trans hE⟩
end Go.Proofs.YtadijoeeaineaaaGreatDoor

/-
  The contracts of the program's own naturals: powers. Conditions: those that each theorem names.
-/
namespace Go.Proofs.YtadijoeeaineaaaGreatDoor
open Go.RowKit Nm
set_option maxRecDepth 100000
set_option linter.unusedVariables false
set_option linter.unusedSimpArgs false

theorem i64_and1 (k : Nat) (h : k < 2147483648) : bits .and .i64 (k : Int) 1 = ((k % 2 : Nat) : Int) := by
  show IntKind.i64.wrap ((BitVec.ofInt 64 (k : Int) &&& BitVec.ofInt 64 ((1 : Nat) : Int)).toNat : Nat) = _
  rw [BitVec.toNat_and, BitVec.ofInt_natCast, BitVec.ofInt_natCast, BitVec.toNat_ofNat, BitVec.toNat_ofNat, Nat.mod_eq_of_lt (by omega), Nat.mod_eq_of_lt (by omega), show (1 : Nat) = 2 ^ 1 - 1 from rfl, Nat.and_two_pow_sub_one_eq_mod, IntKind.wrap_i64]
  omega

/-- How far it is: p x^n is the power; x is not below 2. -/
structure PwRel (V N p x n : Nat) : Prop where
  val : p * x ^ n = V ^ N
  p1 : 1 ≤ p
  x2 : 2 ≤ x
theorem PwRel.start {V : Nat} (N : Nat) (h : 2 ≤ V) : PwRel V N 1 V N := ⟨by rw [Nat.one_mul], Nat.le_refl _, h⟩
theorem PwRel.even {V N p x m : Nat} (h : PwRel V N p x (2 * m)) : PwRel V N p (x * x) m := by
  have e : (x * x) ^ m = x ^ (2 * m) := by rw [Nat.pow_mul, Nat.pow_succ, Nat.pow_one]
  exact ⟨by rw [e]; exact h.val, h.p1, Nat.le_trans (show 2 ≤ 2 * 2 by omega) (Nat.mul_le_mul h.x2 h.x2)⟩
theorem PwRel.odd0 {V N p x m : Nat} (h : PwRel V N p x (2 * m + 1)) : PwRel V N (p * x) x (2 * m) :=
  ⟨by rw [Nat.mul_assoc, ← Nat.pow_succ']; exact h.val, Nat.le_trans (show 1 ≤ 1 * 1 by omega) (Nat.mul_le_mul h.p1 (by have := h.x2; omega)), h.x2⟩
theorem PwRel.odd {V N p x m : Nat} (h : PwRel V N p x (2 * m + 1)) : PwRel V N (p * x) (x * x) m := h.odd0.even
theorem PwRel.p_le {V N p x n : Nat} (h : PwRel V N p x n) : p ≤ V ^ N := by
  rw [← h.val]
  exact Nat.le_mul_of_pos_right p (Nat.pow_pos (by have := h.x2; omega))
theorem PwRel.x_le {V N p x n : Nat} (h : PwRel V N p x n) (hn : 0 < n) : x ≤ V ^ N := by
  rw [← h.val]
  have h1 := Nat.pow_le_pow_right (show 0 < x by have := h.x2; omega) (show 1 ≤ n from hn)
  rw [Nat.pow_one] at h1
  exact Nat.le_trans h1 (Nat.le_mul_of_pos_left _ h.p1)
theorem PwRel.done {V N p x : Nat} (h : PwRel V N p x 0) : p = V ^ N := by have := h.val; rwa [Nat.pow_zero, Nat.mul_one] at this

theorem bl_pow_le {V N : Nat} (h : N ≠ 0) : bl (V ^ N) ≤ bl V * N := by
  rw [bl_le_iff, Nat.pow_mul]
  exact Nat.pow_lt_pow_left (lt_pow_bl V) h

theorem Wds.nwe {w : World} {A : Option Addr} {n c X : Nat} (h : Wds w A n c (nd X)) : n = nw X := by have := h.len; rw [nd_length] at this; omega
/-- The inner product, cut. -/
theorem ncut_mul {w : World} {g n : Nat} {L : List Nat} {V : Nat} (hr : Row w g L) (hL : Ws L) (hl : L.length = n) (hv : nv L = V) (hn : n ≤ 8796093022208) :
    Calls Tryz.prog 111 #[.slice (some ⟨g, 0, none⟩) n n] w (RetW V w) := by
  rw [← hv]
  exact ncut_any _ _ _ _ _ (hr.wds hL hl (Nat.le_refl _) (by unfold maxLen; omega)) (by omega)

set_option maxHeartbeats 4000000 in
theorem npow_any (A : Option Addr) (n c : Nat) (xs : List Nat) (N : Nat) (w : World) (h : Wds w A n c xs) (hn : n ≤ 8796093022208) (hN : N ≤ 1000000) (hM : bl (nv xs) * N ≤ 524288) (hs : bl (nv xs) ≤ 524288) :
    Calls Tryz.prog 85 #[.slice A n c, .int .i64 (N : Int)] w (RetWE (nv xs ^ N) 0 w) := by
  have HN1 : Hid (∀ w, Wds w A n c xs → Calls Tryz.prog 109 #[.slice A n c] w (RetW (nv xs) w)) := Lib.hid (fun w h => by
    refine (nnorm_any A n c xs w h (by omega)).mono ?_
    rintro e w' ⟨g, m, rfl, hr, -, hm, hE⟩
    have hle : nw (nv xs) ≤ n := by have := nw_nv_le h.ws; have := h.len; omega
    exact ⟨_, _, _, rfl, hr.wds (Ws.nd _) (by rw [nd_length, hm]) (Nat.le_refl _) (by unfold maxLen; omega), hE⟩)
  have HL1 := Lib.hid (fun w h => nlen_any A n c xs w h (by omega))
  have h1 := nw_of_bl hs
  have HLG : Hid (∀ g w, w.cell? ⟨g, 0, none⟩ = some (.slice A n c) → Wds w A n c xs → Calls Tryz.prog 107 #[.slice (some ⟨g, 0, none⟩) 1 1] w fun e w' => e = .returned (.bool false) ∧ w = w') :=
    Lib.hid (fun g w a b => nlong_raw g 1 A n c xs w a b (by omega) h1)
  obtain ⟨V, hV⟩ : ∃ V, V = nv xs := ⟨_, rfl⟩
  rw [← hV] at HN1 HL1 hM hs ⊢
  have HW0 : Hid (N = 0 → V ^ N = 1) := Lib.hid (fun e => by rw [e, Nat.pow_zero])
  have HW1 : Hid (N ≠ 0 → bl V < 2 → V ^ N = V) := Lib.hid (fun e hb => by
    have : V < 2 ^ 1 := by have := lt_pow_bl V; exact Nat.lt_of_lt_of_le this (Nat.pow_le_pow_right (by omega) (by omega))
    rcases (show V = 0 ∨ V = 1 by omega) with e1 | e1
    · rw [e1, Nat.zero_pow (by omega)]
    · rw [e1, Nat.one_pow])
  have HV2 : Hid (2 ≤ bl V → 2 ≤ V) := Lib.hid (fun hb => by
    rcases Nat.lt_or_ge V 2 with h2 | h2
    · have : bl V ≤ 1 := by rw [bl_le_iff]; omega
      omega
    · exact h2)
  have HMW : Hid (N ≠ 0 → nw (V ^ N) ≤ 16384) := Lib.hid (fun e => nw_of_bl (Nat.le_trans (bl_pow_le e) hM))
  obtain ⟨bV, hbV⟩ : ∃ b, b = bl V := ⟨_, rfl⟩
  rw [← hbV] at HL1 hM HW1 HV2 hs
  obtain ⟨M, hMe⟩ : ∃ M, M = V ^ N := ⟨_, rfl⟩
  have HS : Hid (2 ≤ V → PwRel V N 1 V N) := Lib.hid (fun h => PwRel.start N h)
  have HPL : Hid (∀ p x n, PwRel V N p x n → p ≤ M) := Lib.hid (fun p x n h => by rw [hMe]; exact h.p_le)
  have HXL : Hid (∀ p x n, 0 < n → PwRel V N p x n → x ≤ M) := Lib.hid (fun p x n hn h => by rw [hMe]; exact h.x_le hn)
  have HDN : Hid (∀ p x, PwRel V N p x 0 → p = M) := Lib.hid (fun p x h => by rw [hMe]; exact h.done)
  rw [← hMe] at HW0 HW1 HMW ⊢
  have HML : Hid (∀ (A1 : Option Addr) (n1 c1 : Nat) (p : Nat) (A2 : Option Addr) (n2 c2 : Nat) (x : Nat) (w : World), nw M ≤ 16384 → Wds w A1 n1 c1 (nd p) → Wds w A2 n2 c2 (nd x) → p ≤ M → x ≤ M → Calls Tryz.prog 112 #[.slice A1 n1 c1, .slice A2 n2 c2] w fun e w' => ∃ g n L, e = .returned (.slice (some ⟨g, 0, none⟩) n n) ∧ n ≤ 100000 ∧ Row w' g L ∧ Ws L ∧ L.length = n ∧ nv L = p * x ∧ Ext w w') :=
    Lib.hid (fun A1 n1 c1 p A2 n2 c2 x w hM a b hp hx => by
      have hn1 := a.nwe
      have hn2 := b.nwe
      have hp' := nw_mono hp
      have hx' := nw_mono hx
      refine (nmul_raw A1 n1 c1 (nd p) A2 n2 c2 (nd x) w a (by omega) b (by omega)).mono ?_
      rintro e w' ⟨g, L, rfl, h1, h2, h3, h4, -, h5⟩
      rw [nv_nd, nv_nd] at h4
      exact ⟨g, _, L, rfl, by omega, h1, h2, h3, h4, h5⟩)
  have hn1 := h.alloc (.cells #[.slice A n c] 38)
  have hE0 : Ext w (w.alloc (.cells #[.slice A n c] 38)) := (Ext.refl w).alloc _
  have hcell0 : (w.alloc (.cells #[.slice A n c] 38)).cell? ⟨w.heap.size, 0, none⟩ = some (.slice A n c) := by simp
  clear hV hMe h hbV h1
  go_enter Tryz.func85, Tryz.ntmps85
  go_wp2_with fail
  generalize w.heap.size = g0 at hcell0 ⊢
  generalize w.alloc _ = w0 at hn1 hE0 hcell0 ⊢
  refine (HLG.out _ _ hcell0 hn1).mono ?_
  rintro e w' ⟨rfl, rfl⟩
  go_wp2_with fail
  refine (HN1.out _ hn1).mono ?_
  rintro e w1 ⟨A1, n1, c1, rfl, hW1, hE1⟩
  have hn2 := hn1.ext hE1
  have hE := hE0.trans hE1
  clear HN1 HLG hcell0 hE0 hE1 hn1
  go_wp2_with fail
  refine (HL1.out _ hn2).mono ?_
  rintro e w' ⟨rfl, rfl⟩
  clear HL1 hn2
  by_cases hN0 : N = 0
  · have hM1 := HW0.out hN0
    subst hN0
    subst hM1
    have hU := unit_list w1
    have hE2 := hE.alloc (.cells #[.int .u32 1] 65)
    go_wp2
    go_ret2
    exact ⟨_, _, _, rfl, hU, hE2⟩
  · by_cases hb2 : bV < 2
    · have hM1 := HW1.out hN0 hb2
      have hW1' : Wds w1 A1 n1 c1 (nd M) := by rw [hM1]; exact hW1
      clear hM1 hW1
      go_wp2
      go_ret2
      exact ⟨_, _, _, rfl, hW1', hE⟩
    · obtain ⟨b, hb⟩ : ∃ b, bV = b + 1 := ⟨bV - 1, by omega⟩
      subst hb
      have hV2 := HV2.out (by omega)
      have HR := Lib.hid (HS.out hV2)
      have HMW := Lib.hid (HMW.out hN0)
      obtain ⟨Q, hQ⟩ : ∃ Q, Q = 524288 / b := ⟨_, rfl⟩
      have hNQ : N ≤ Q := by
        rw [hQ, Nat.le_div_iff_mul_le (by omega), Nat.mul_comm]
        rw [Nat.add_mul] at hM
        omega
      have hQl : Q ≤ 524288 := by rw [hQ]; exact Nat.div_le_self _ _
      have hbe : ((b + 1 : Nat) : Int) - 1 = (b : Int) := by omega
      have hQe : (524288 : Int).tdiv (b : Int) = (Q : Int) := by rw [hQ]; rfl
      have hbp : (b : Int) ≠ 0 := by omega
      have hbp' : b ≠ 0 := by omega
      have hbl : b ≤ 524288 := by omega
      clear hQ HV2 HS HW0 HW1 hM hV2
      have hU := unit_list w1
      have hE2 := hE.alloc (.cells #[.int .u32 1] 65)
      have hW2 := hW1.alloc (.cells #[.int .u32 1] 65)
      clear hE hW1
      go_wp2
      generalize w1.heap.size = g1 at hU ⊢
      generalize w1.alloc _ = w2 at hU hE2 hW2 ⊢
      generalize ((N : Int) == 0) = z1
      generalize Value.bool (decide (Q < N)) = z2
      generalize Value.bool (decide ((b : Int) + 1 < 2)) = z3
      generalize Value.bool (decide ((N : Int) < 0)) = z4
      go_loopw [1, 6, 8] (fun nv' xv pv wr => ∃ (k p x : Nat) (A1 : Option Addr) (n1 c1 : Nat) (A2 : Option Addr) (n2 c2 : Nat), 0 < k ∧ k ≤ 1000000 ∧ nv' = .int .i64 (k : Int) ∧ pv = .slice A1 n1 c1 ∧ xv = .slice A2 n2 c2 ∧ Wds wr A1 n1 c1 (nd p) ∧ Wds wr A2 n2 c2 (nd x) ∧ Hid (PwRel V N p x k) ∧ Ext w wr) (fun nv' _ _ _ => (intOf nv').toNat)
      case atStart => exact ⟨N, 1, V, _, _, _, _, _, _, by omega, hN, rfl, rfl, rfl, hU, hW2, HR, hE2⟩
      case round =>
        obtain ⟨k, p, x, A3, n3, c3, A4, n4, c4, hk0, hk, rfl, rfl, rfl, hWp, hWx, hrel, hEr⟩ := hrel
        clear hU hW2 HR hE2 hNQ hQe hbp hbp' hbl hbe
        have hp := HPL.out _ _ _ hrel.out
        have hx := HXL.out _ _ _ hk0 hrel.out
        rcases Nat.mod_two_eq_zero_or_one k with hpar | hpar
        · obtain ⟨m, hm⟩ : ∃ m, k = 2 * m := ⟨k / 2, by omega⟩
          have g1 : bits .and .i64 (k : Int) 1 = 0 := by rw [i64_and1 k (by omega), hpar]; rfl
          have g2 : (k : Int) / 2 = (m : Int) := by omega
          have hmp : 0 < m := by omega
          have hmk : m < k := by omega
          rw [hm] at hrel
          have HR := Lib.hid hrel.out.even
          clear hrel hpar hm
          go_wp2_with fail
          refine (HML.out _ _ _ _ _ _ _ _ _ HMW.out hWx hWx hx hx).mono ?_
          rintro e w3 ⟨g5, n5, L5, rfl, hn5, hr5, hL5, hl5, hv5, hE5⟩
          go_wp2_with fail
          refine (ncut_mul hr5 hL5 hl5 hv5 (by omega)).mono ?_
          rintro e w4 ⟨A6, n6, c6, rfl, hW6, hE6⟩
          have hWp6 := (hWp.ext hE5).ext hE6
          have hEr6 := hEr.trans (hE5.trans hE6)
          clear hr5 hL5 hl5 hv5 hE5 hE6 hWp hWx hEr
          go_wp2
          go_roundw
          case rel => exact ⟨m, p, x * x, _, _, _, _, _, _, hmp, by omega, rfl, rfl, rfl, hWp6, hW6, HR, hEr6⟩
          case measure => simp only [intOf]; omega
        · obtain ⟨m, hm⟩ : ∃ m, k = 2 * m + 1 := ⟨k / 2, by omega⟩
          have g1 : bits .and .i64 (k : Int) 1 = 1 := by rw [i64_and1 k (by omega), hpar]; rfl
          have g2 : (k : Int) / 2 = (m : Int) := by omega
          have hmk : m < k := by omega
          rw [hm] at hrel
          have HR0 := Lib.hid hrel.out.odd0
          have HR := Lib.hid hrel.out.odd
          have hp2 := HPL.out _ _ _ HR0.out
          clear hrel hpar hm
          have hMl := HMW.out
          go_wp2_with fail
          refine (HML.out _ _ _ _ _ _ _ _ _ HMW.out hWp hWx hp hx).mono ?_
          rintro e w3 ⟨g5, n5, L5, rfl, hn5, hr5, hL5, hl5, hv5, hE5⟩
          go_wp2_with fail
          refine (ncut_mul hr5 hL5 hl5 hv5 (by omega)).mono ?_
          rintro e w4 ⟨A6, n6, c6, rfl, hW6, hE6⟩
          have hWx6 := (hWx.ext hE5).ext hE6
          have hEr6 := hEr.trans (hE5.trans hE6)
          have hn6 : n6 ≤ 16384 := by
            have h1 := hW6.nwe
            have h2 := nw_mono hp2
            omega
          clear hr5 hL5 hl5 hv5 hE5 hE6 hWp hWx hEr hMl
          by_cases hm0 : m = 0
          · subst hm0
            have hD := HDN.out _ _ HR0.out
            have hW6' : Wds w4 A6 n6 c6 (nd M) := by rw [← hD]; exact hW6
            clear hD hW6 HR HR0 hp hx hp2
            go_wp2
            go_ret2
            exact ⟨_, _, _, rfl, hW6', hEr6⟩
          · have hmp : 0 < m := by omega
            clear hm0
            go_wp2_with fail
            refine (HML.out _ _ _ _ _ _ _ _ _ HMW.out hWx6 hWx6 hx hx).mono ?_
            rintro e w5 ⟨g7, n7, L7, rfl, hn7, hr7, hL7, hl7, hv7, hE7⟩
            go_wp2_with fail
            refine (ncut_mul hr7 hL7 hl7 hv7 (by omega)).mono ?_
            rintro e w6 ⟨A8, n8, c8, rfl, hW8, hE8⟩
            have hW6' := (hW6.ext hE7).ext hE8
            have hEr8 := hEr6.trans (hE7.trans hE8)
            clear hr7 hL7 hl7 hv7 hE7 hE8 hW6 hWx6 hEr6
            go_wp2
            go_roundw
            case rel => exact ⟨m, p * x, x * x, _, _, _, _, _, _, hmp, by omega, rfl, rfl, rfl, hW6', hW8, HR, hEr8⟩
            case measure => simp only [intOf]; omega
end Go.Proofs.YtadijoeeaineaaaGreatDoor
