/-
  The walk through RoundTightRoots. Conditions: those that each theorem names.
-/
import Derived.Test.YtmcfflecaklpcaaZ07
import Derived.Test.YtmcfflecaklpcaaZ36
import Derived.Test.YtmcfflecaklpcaaZ35
import Derived.Test.YtmcfflecaklpcaaZ26
import Derived.Test.YtmcfflecaklpcaaZ37
import Derived.Test.YtmcfflecaklpcaaZ22
namespace Go.Proofs.Ytmcfflecaklpcaa
open Go.RowKit Nm Rn
set_option maxRecDepth 100000
set_option linter.unusedVariables false
set_option linter.unusedSimpArgs false

theorem cmpN_mul {a b p : Nat} (hp : 0 < p) : cmpN (a * p) (b * p) = cmpN a b := by
  unfold cmpN
  have h1 : a * p < b * p ↔ a < b := ⟨fun h => Nat.lt_of_mul_lt_mul_right h, fun h => Nat.mul_lt_mul_of_pos_right h hp⟩
  have h2 : b * p < a * p ↔ b < a := ⟨fun h => Nat.lt_of_mul_lt_mul_right h, fun h => Nat.mul_lt_mul_of_pos_right h hp⟩
  simp only [h1, h2]
theorem rc_pos (n m n' m' : Nat) : rc false n m false n' m' = cmpN (n * m') (n' * m) := by
  unfold rc sn
  rw [cmpN_int]
  push_cast
  rfl
/-- How a power of a number stands to a number. -/
theorem rc_pow {a y k : Nat} (hk : 1 ≤ k) : rc false (fracN (fbN a ^ k) (fbD a ^ k) 0) (fracD (fbN a ^ k) (fbD a ^ k) 0) false (fbN y) (fbD y) = cmpN (rv (mg a) ^ k) (rv (mg y) * K74 ^ (k - 1)) := by
  rw [rc_pos]
  have hDa := fbD_pos a
  have hDy := fbD_pos y
  have hQ : 0 < fbD a ^ k := Nat.pow_pos hDa
  have v1 := frac_val (n := fbN a ^ k) (d := fbD a ^ k) (e := 0) (p := 0) (q := 0) (by omega)
  have v2 := fb_val a
  have v3 := fb_val y
  have hF : 0 < fracD (fbN a ^ k) (fbD a ^ k) 0 := fracD_pos _ (by omega)
  rw [Nat.pow_zero, Nat.mul_one, Nat.mul_one] at v1
  have v4 : fbN a ^ k * K74 ^ k = rv (mg a) ^ k * fbD a ^ k := by rw [← Nat.mul_pow, v2, Nat.mul_pow]
  obtain ⟨j, hj⟩ : ∃ j, k = j + 1 := ⟨k - 1, by omega⟩
  have hKk : K74 ^ k = K74 * K74 ^ (k - 1) := by rw [hj, Nat.add_sub_cancel, Nat.pow_succ']
  obtain ⟨P, hP⟩ : ∃ P, P = fbN a ^ k := ⟨_, rfl⟩
  obtain ⟨Q, hQe⟩ : ∃ Q, Q = fbD a ^ k := ⟨_, rfl⟩
  rw [← hP, ← hQe] at v1 v4 hF ⊢
  rw [← hQe] at hQ
  obtain ⟨FN, hFN⟩ : ∃ FN, FN = fracN P Q 0 := ⟨_, rfl⟩
  obtain ⟨FD, hFD⟩ : ∃ FD, FD = fracD P Q 0 := ⟨_, rfl⟩
  rw [← hFN, ← hFD] at v1 ⊢
  rw [← hFD] at hF
  obtain ⟨E, hE⟩ : ∃ E, E = K74 ^ (k - 1) := ⟨_, rfl⟩
  have hKp : 0 < K74 ^ k := Nat.pow_pos K74_pos
  rw [← hE] at hKk ⊢
  obtain ⟨V, hV⟩ : ∃ V, V = rv (mg a) ^ k := ⟨_, rfl⟩
  rw [← hV] at v4 ⊢
  have l1 : FN * fbD y * (Q * K74 ^ k) = V * (Q * FD * fbD y) := by
    calc FN * fbD y * (Q * K74 ^ k) = FN * Q * (fbD y * K74 ^ k) := by ac_rfl
      _ = P * FD * (fbD y * K74 ^ k) := by rw [v1]
      _ = P * K74 ^ k * (FD * fbD y) := by ac_rfl
      _ = V * Q * (FD * fbD y) := by rw [v4]
      _ = V * (Q * FD * fbD y) := by ac_rfl
  have l2 : fbN y * FD * (Q * K74 ^ k) = rv (mg y) * E * (Q * FD * fbD y) := by
    calc fbN y * FD * (Q * K74 ^ k) = fbN y * FD * (Q * (K74 * E)) := by rw [hKk]
      _ = fbN y * K74 * (E * FD * Q) := by ac_rfl
      _ = rv (mg y) * fbD y * (E * FD * Q) := by rw [v3]
      _ = rv (mg y) * E * (Q * FD * fbD y) := by ac_rfl
  rw [← cmpN_mul (p := Q * K74 ^ k) (Nat.mul_pos hQ hKp), l1, l2, cmpN_mul (Nat.mul_pos (Nat.mul_pos hQ hF) hDy)]

/-- What the law asks of a root, in one: the answers, and how their powers stand to the number. -/
structure TR (y k LO HI : Nat) (c1 c2 : Int) : Prop where
  lo : rootR (-1) y (k : Int) = LO
  hi : rootR 1 y (k : Int) = HI
  l1 : LO < infR
  h1 : HI < infR
  s1 : k = 2 → sqrtR (-1) y = LO
  s2 : k = 2 → sqrtR 1 y = HI
  low : rc false (fracN (fbN LO ^ k) (fbD LO ^ k) 0) (fracD (fbN LO ^ k) (fbD LO ^ k) 0) false (fbN y) (fbD y) = c1
  high : rc false (fracN (fbN HI ^ k) (fbD HI ^ k) 0) (fracD (fbN HI ^ k) (fbD HI ^ k) 0) false (fbN y) (fbD y) = c2
  or_ : (LO = HI ∧ c1 = 0 ∧ c2 = 0) ∨ (LO + 1 = HI ∧ c1 = -1 ∧ c2 = 1)
theorem tr_of {y k : Nat} (hy : y < infR) (k1 : 1 ≤ k) (k2 : k ≤ 40) : ∃ LO HI c1 c2, TR y k LO HI c1 c2 := by
  have hi := infR_val
  have hmg : ∀ z : Nat, z < infR → mg z = z := fun z hz => by unfold mg; omega
  have hmy := hmg y hy
  have hsg : sg y = false := by unfold sg; exact decide_eq_false (by omega)
  have hnan : isNaN y = false := by unfold isNaN; exact decide_eq_false (by omega)
  have hinf : isInf y = false := by unfold isInf; exact decide_eq_false (by omega)
  have hR : ∀ d : Int, rootR d y (k : Int) = if y = 0 then 0 else rootV d false (rv y) K74 k := fun d => by
    unfold rootR
    rw [hnan, hinf, hsg, hmy, decide_eq_false (show ¬ (k : Int) < 1 by omega), decide_eq_false (show ¬ (1024 : Int) < (k : Int) by omega), Int.toNat_natCast]
    simp
  have hS : ∀ d : Int, sqrtR d y = if y = 0 then 0 else rootV d false (rv y) K74 2 := fun d => by
    unfold sqrtR ngP
    rw [hnan, hinf, hsg, hmy]
    simp
  by_cases h0 : y = 0
  · have hp : rv (mg 0) ^ k = 0 := by rw [show mg 0 = 0 from rfl, rv_zero, Nat.zero_pow (by omega)]
    have hc : rc false (fracN (fbN 0 ^ k) (fbD 0 ^ k) 0) (fracD (fbN 0 ^ k) (fbD 0 ^ k) 0) false (fbN y) (fbD y) = 0 := by
      rw [rc_pow k1, hp, h0, show mg 0 = 0 from rfl, rv_zero, Nat.zero_mul]
      rfl
    refine ⟨0, 0, 0, 0, ⟨by rw [hR, if_pos h0], by rw [hR, if_pos h0], by omega, by omega, fun _ => by rw [hS, if_pos h0], fun _ => by rw [hS, if_pos h0], hc, hc, .inl ⟨rfl, rfl, rfl⟩⟩⟩
  · have hX : 0 < rv y := Nat.pos_of_ne_zero fun e => h0 (rv_eq_zero.1 e)
    obtain ⟨a1, a2, a3⟩ := root_tight hX k1 (rv_le (show y ≤ infR - 1 by omega))
    obtain ⟨LO, hLO⟩ : ∃ LO, LO = rootV (-1) false (rv y) K74 k := ⟨_, rfl⟩
    obtain ⟨HI, hHI⟩ : ∃ HI, HI = rootV 1 false (rv y) K74 k := ⟨_, rfl⟩
    rw [← hLO] at a1 a3
    rw [← hHI] at a2 a3
    have r1 : rootR (-1) y (k : Int) = LO := by rw [hR, if_neg h0, hLO]
    have r2 : rootR 1 y (k : Int) = HI := by rw [hR, if_neg h0, hHI]
    have s1 : k = 2 → sqrtR (-1) y = LO := fun e => by rw [hS, if_neg h0, hLO, e]
    have s2 : k = 2 → sqrtR 1 y = HI := fun e => by rw [hS, if_neg h0, hHI, e]
    rcases a3 with ⟨e, e2⟩ | ⟨e, e2, e3⟩
    · refine ⟨LO, HI, 0, 0, ⟨r1, r2, by omega, by omega, s1, s2, ?_, ?_, .inl ⟨e, rfl, rfl⟩⟩⟩
      · rw [rc_pow k1, hmg LO (by omega), hmy, e2]; unfold cmpN; simp
      · rw [rc_pow k1, hmg HI (by omega), hmy, ← e, e2]; unfold cmpN; simp
    · refine ⟨LO, HI, -1, 1, ⟨r1, r2, by omega, by omega, s1, s2, ?_, ?_, .inr ⟨e, rfl, rfl⟩⟩⟩
      · rw [rc_pow k1, hmg LO (by omega), hmy, cmpN_lt e2]
      · rw [rc_pow k1, hmg HI (by omega), hmy, cmpN_gt e3]

set_option maxHeartbeats 8000000 in
theorem tightroots_tail (x : Nat) (n : Int) (y k : Nat) (w : World) (hx : x < 18446744073709551616) (hy : y < infR) (k1 : 1 ≤ k) (k2 : k ≤ 40)
    (hn : ((n < 1 ∨ 40 < n) ∧ k = 2) ∨ (¬ n < 1 ∧ ¬ 40 < n ∧ n = (k : Int))) (hxy : (mg x < infR ∧ y = mg x) ∨ (¬ mg x < infR ∧ y = 4607182418800017408)) :
    Calls Try.prog 5 #[.int .u64 (x : Int), .int .i64 n] w fun e w' => e = .returned (.bool true) ∧ Ext w w' := by
  obtain ⟨LO, HI, c1, c2, tr⟩ := tr_of hy k1 k2
  have hi := infR_val
  have hmg : ∀ z : Nat, z < infR → mg z = z := fun z hz => by unfold mg; omega
  have htop := andNot_top x hx
  have hyl : y < 18446744073709551616 := by omega
  have HRL := Lib.hid (fun w => rroot_any (-1) y (k : Int) w hyl)
  have HRH := Lib.hid (fun w => rroot_any 1 y (k : Int) w hyl)
  rw [tr.lo] at HRL
  rw [tr.hi] at HRH
  have HSL : Hid (k = 2 → ∀ w, Calls Try.prog 14 #[.int .i64 (-1), .float .f64 y] w (RetFl LO w)) := Lib.hid (fun e w => by have := rsqrt_any (-1) y w hyl; rwa [tr.s1 e] at this)
  have HSH : Hid (k = 2 → ∀ w, Calls Try.prog 14 #[.int .i64 1, .float .f64 y] w (RetFl HI w)) := Lib.hid (fun e w => by have := rsqrt_any 1 y w hyl; rwa [tr.s2 e] at this)
  have hLl : LO < 9223372036854775808 := by have := tr.l1; omega
  have hHl : HI < 9223372036854775808 := by have := tr.h1; omega
  have hFy : ∀ z : Nat, z < 9223372036854775808 → ∀ w, Calls Try.prog 17 #[.int .u64 (z : Int)] w (RetR false (fbN z) (fbD z) w) := fun z hz w => by
    have := frombits_any z w (by omega)
    rwa [show sg z = false from decide_eq_false (by omega), Bool.false_and] at this
  have HFY := Lib.hid (fun w => hFy y (by omega) w)
  have HF1 := Lib.hid (fun w => hFy LO hLl w)
  have HF2 := Lib.hid (fun w => hFy HI hHl w)
  have HFI := Lib.hid (fun w => finite2_any (mg x) w (mg_lt64 x))
  rw [mg_mg] at HFI
  have HFL := Lib.hid (fun w => finite2_any LO w (by omega))
  have HFH := Lib.hid (fun w => finite2_any HI w (by omega))
  rw [hmg LO tr.l1, decide_eq_true tr.l1] at HFL
  rw [hmg HI tr.h1, decide_eq_true tr.h1] at HFH
  have hbN : ∀ z, bl (fbN z) ≤ 3000 := fun z => by have := fbN_bits z; have := nw_bl (fbN z); omega
  have hbD : ∀ z, bl (fbD z) ≤ 3000 := fun z => by have := fbD_bits z; have := nw_bl (fbD z); omega
  have hcs : ∀ z, nw (fracN (fbN z ^ k) (fbD z ^ k) 0) ≤ 1073741824 ∧ nw (fracD (fbN z ^ k) (fbD z ^ k) 0) ≤ 1073741824 := fun z => by
    have h1 : nw (fbN z ^ k) ≤ 16384 := by
      have h3 := bl_pow_le (V := fbN z) (N := k) (by omega)
      have h4 := Nat.mul_le_mul (hbN z) k2
      have h5 := nw_bl (fbN z ^ k)
      omega
    have h2 : nw (fbD z ^ k) ≤ 16384 := by
      have h3 := bl_pow_le (V := fbD z) (N := k) (by omega)
      have h4 := Nat.mul_le_mul (hbD z) k2
      have h5 := nw_bl (fbD z ^ k)
      omega
    exact frac_nw h1 h2 (Nat.ne_of_gt (Nat.pow_pos (fbD_pos z))) (by omega) (by omega)
  have hyN : nw (fbN y) ≤ 1073741824 := by have := fbN_bits y; omega
  have hyD : nw (fbD y) ≤ 1073741824 := by have := fbD_bits y; omega
  have hPW := fun z A l c B k' d w h => rpow_any A l c B k' d (fbN z) (fbD z) k w h (by omega) (hbN z) (hbD z) (fbD_pos z)
  have HP1 := Lib.hid (hPW LO)
  have HP2 := Lib.hid (hPW HI)
  have hRC := fun z A l c B k' d A2 l2 c2 B2 k2' d2 w h1 h2 => rcmp_any false A l c B k' d _ _ false A2 l2 c2 B2 k2' d2 (fbN y) (fbD y) w h1 h2 (hcs z).1 (hcs z).2 hyN hyD (Nat.ne_of_gt (fracD_pos _ (Nat.ne_of_gt (Nat.pow_pos (fbD_pos z))))) (Nat.ne_of_gt (fbD_pos y))
  have HC1 : Hid (∀ (A : Option Addr) (l c : Nat) (B : Option Addr) (k' d : Nat) (w : World), RatAt w A l c B k' d (fracN (fbN LO ^ k) (fbD LO ^ k) 0) (fracD (fbN LO ^ k) (fbD LO ^ k) 0) → ∀ {A2 : Option Addr} {l2 c2' : Nat} {B2 : Option Addr} {k2' d2 : Nat}, RatAt w A2 l2 c2' B2 k2' d2 (fbN y) (fbD y) → Calls Try.prog 18 #[.agg #[.bool false, .slice A l c, .slice B k' d], .agg #[.bool false, .slice A2 l2 c2', .slice B2 k2' d2]] w fun e w' => e = .returned (.int .i64 c1) ∧ Ext w w') := Lib.hid (fun A l c B k' d w h1 A2 l2 c2' B2 k2' d2 h2 => by
    have := hRC LO A l c B k' d A2 l2 c2' B2 k2' d2 w h1 h2
    rwa [tr.low] at this)
  have HC2 : Hid (∀ (A : Option Addr) (l c : Nat) (B : Option Addr) (k' d : Nat) (w : World), RatAt w A l c B k' d (fracN (fbN HI ^ k) (fbD HI ^ k) 0) (fracD (fbN HI ^ k) (fbD HI ^ k) 0) → ∀ {A2 : Option Addr} {l2 c2' : Nat} {B2 : Option Addr} {k2' d2 : Nat}, RatAt w A2 l2 c2' B2 k2' d2 (fbN y) (fbD y) → Calls Try.prog 18 #[.agg #[.bool false, .slice A l c, .slice B k' d], .agg #[.bool false, .slice A2 l2 c2', .slice B2 k2' d2]] w fun e w' => e = .returned (.int .i64 c2) ∧ Ext w w') := Lib.hid (fun A l c B k' d w h1 A2 l2 c2' B2 k2' d2 h2 => by
    have := hRC HI A l c B k' d A2 l2 c2' B2 k2' d2 w h1 h2
    rwa [tr.high] at this)
  obtain ⟨or_⟩ : Nonempty (Hid ((LO = HI ∧ c1 = 0 ∧ c2 = 0) ∨ (LO + 1 = HI ∧ c1 = -1 ∧ c2 = 1))) := ⟨Lib.hid tr.or_⟩
  have HLB := Lib.hid (fun r w h => lbits_any r w h)
  have HLV := Lib.hid (fun w => lives_any w)
  have HNN := Lib.hid hn
  obtain ⟨fx, hfx⟩ : ∃ b, b = decide (mg x < infR) := ⟨_, rfl⟩
  have hxy' : (fx = true ∧ y = mg x) ∨ (fx = false ∧ y = 4607182418800017408) := by
    rcases hxy with ⟨a, b⟩ | ⟨a, b⟩
    · exact .inl ⟨by rw [hfx, decide_eq_true a], b⟩
    · exact .inr ⟨by rw [hfx, decide_eq_false a], b⟩
  rw [← hfx] at HFI
  have hLl64 : ¬ (9223372036854775808 < LO) := by omega
  have hHl64 : ¬ (9223372036854775808 < HI) := by omega
  clear hFy hbN hbD hcs hyN hyD hPW hRC hfx hxy hn hmg hi tr hy
  rcases hxy' with ⟨rfl, hye⟩ | ⟨rfl, hye⟩
  · rw [← hye] at htop HFI
    clear hye
    rcases HNN.out with ⟨hn1 | hn1, rfl⟩ | ⟨hn1, hn2, rfl⟩
    · have HSL2 := Lib.hid (HSL.out rfl)
      have HSH2 := Lib.hid (HSH.out rfl)
      rw [show ((2 : Nat) : Int) = 2 from rfl] at HRL HRH HP1 HP2
      go_enter Try.func5, Try.ntmps5
      go_wp2_with (first | (go_at_call 16; ((with_reducible refine (HFI.out _).mono ?_); rintro e w' ⟨rfl, rfl⟩)) | (go_at_call 16; ((with_reducible refine (HFL.out _).mono ?_); rintro e w' ⟨rfl, rfl⟩)) | (go_at_call 16; ((with_reducible refine (HFH.out _).mono ?_); rintro e w' ⟨rfl, rfl⟩)))
      refine (HFY.out _).mono ?_
      rintro e w1 ⟨A1, n1', c1', A2, n2', c2', rfl, hW1, hW2, hE1⟩
      have hO := (((Own.start w).ext hE1).add hW1).add hW2
      clear hW1 hW2 hE1
      go_wp2_with (first | (refine own_alloc hO zero_rat rfl rfl ?_; clear hO; intro g wa hO) | (refine own_store hO 0 rfl rfl rfl size_rat rfl rfl rfl ?_; clear hO; intro wb hO) | (go_at_call 12; refine (fl_any _ _).mono ?_; rintro e w' ⟨rfl, rfl⟩))
      refine (HRL.out _).mono ?_
      rintro e w2 ⟨r, rfl, hr, hc, hE⟩
      have hO' := hO.ext hE
      clear hO hE
      go_wp2_with fail
      refine (HLB.out r _ hr).mono ?_
      rintro e w' ⟨rfl, rfl⟩
      rw [hc]
      clear hc hr
      have hO := hO'
      clear hO'
      go_wp2_with (go_at_call 12; refine (fl_any _ _).mono ?_; rintro e w' ⟨rfl, rfl⟩)
      refine (HRH.out _).mono ?_
      rintro e w3 ⟨r, rfl, hr, hc, hE⟩
      have hO' := hO.ext hE
      clear hO hE
      go_wp2_with fail
      refine (HLB.out r _ hr).mono ?_
      rintro e w' ⟨rfl, rfl⟩
      rw [hc]
      clear hc hr
      have hO := hO'
      clear hO'
      go_wp2_with (go_at_call 12; refine (fl_any _ _).mono ?_; rintro e w' ⟨rfl, rfl⟩)
      refine (HSL2.out _).mono ?_
      rintro e w4 ⟨r, rfl, hr, hc, hE⟩
      have hO' := hO.ext hE
      clear hO hE
      go_wp2_with fail
      refine (HLB.out r _ hr).mono ?_
      rintro e w' ⟨rfl, rfl⟩
      rw [hc]
      clear hc hr
      have hO := hO'
      clear hO'
      go_wp2_with (go_at_call 12; refine (fl_any _ _).mono ?_; rintro e w' ⟨rfl, rfl⟩)
      refine (HSH2.out _).mono ?_
      rintro e w5 ⟨r, rfl, hr, hc, hE⟩
      have hO' := hO.ext hE
      clear hO hE
      go_wp2_with fail
      refine (HLB.out r _ hr).mono ?_
      rintro e w' ⟨rfl, rfl⟩
      rw [hc]
      clear hc hr
      have hO := hO'
      clear hO'
      go_wp2_with (first | (go_at_call 16; ((with_reducible refine (HFI.out _).mono ?_); rintro e w' ⟨rfl, rfl⟩)) | (go_at_call 16; ((with_reducible refine (HFL.out _).mono ?_); rintro e w' ⟨rfl, rfl⟩)) | (go_at_call 16; ((with_reducible refine (HFH.out _).mono ?_); rintro e w' ⟨rfl, rfl⟩)))
      obtain ⟨SS, hSS⟩ : ∃ SS : World → Prop, SS = Own w [⟨g, 35, [.bool false, .slice A1 n1' c1', .slice A2 n2' c2']⟩] [⟨A2, n2', c2', nd (fbD y)⟩, ⟨A1, n1', c1', nd (fbN y)⟩] := ⟨_, rfl⟩
      have HSE : Hid (∀ w w', SS w → Ext w w' → SS w') := Lib.hid (fun w w' h1 h2 => by rw [hSS] at h1 ⊢; exact h1.ext h2)
      have hS1 : SS _ := (by rw [hSS]; exact hO.ext (Ext.refl _).drew)
      have HSS := Lib.hid hSS
      clear hSS hO
      obtain ⟨sp1, hsp⟩ : ∃ sp : Nat → Sp, sp = ofList [det (.int .u64 (LO : Int)), anyOf (fun v wz => ∃ A1 n1 c1 A2 n2 c2, v = .agg #[.bool false, .slice A1 n1 c1, .slice A2 n2 c2] ∧ RatAt wz A1 n1 c1 A2 n2 c2 (fbN LO) (fbD LO)), det (.int .i64 2),
        anyOf (fun v wz => ∃ A1 n1 c1 A2 n2 c2, v = .agg #[.bool false, .slice A1 n1 c1, .slice A2 n2 c2] ∧ RatAt wz A1 n1 c1 A2 n2 c2 (fracN (fbN LO ^ 2) (fbD LO ^ 2) 0) (fracD (fbN LO ^ 2) (fbD LO ^ 2) 0)), det (.agg #[.bool false, .slice A1 n1' c1', .slice A2 n2' c2']), det (.int .i64 c1)] := ⟨_, rfl⟩
      have HSP1 := Lib.hid hsp
      clear hsp
      refine wp_region_loose 6 SS sp1 (by kernel_rfl) (by kernel_rfl) hS1 HSE.out ?_
      simp only [List.take_succ_cons, List.take_zero, List.drop_succ_cons, List.drop_zero]
      refine wpX_step (fun K hK => ?_)
      go_simp
      refine StepY.det (by rw [HSP1.out]; rfl) ?_ ?_
      · intro wz hz hF
        clear hF
        go_simp
        exact ⟨rfl, Ext.refl _⟩
      refine hK _ _ ?_
      clear hK K
      refine wpX_step (fun K hK => ?_)
      go_simp
      refine StepY.any (by rw [HSP1.out]; rfl) ?_ ?_
      · intro wz hz hF
        clear hF
        go_simp
        refine (HF1.out _).mono ?_
        rintro e w2 ⟨A3, n3, c3, A4, n4, c4, rfl, hW1, hW2, hE1⟩
        exact ⟨_, rfl, ⟨A3, n3, c3, A4, n4, c4, rfl, hW1, hW2⟩, hE1⟩
      intro v1
      refine hK _ _ ?_
      clear hK K
      refine wpX_step (fun K hK => ?_)
      go_simp
      refine StepY.det (by rw [HSP1.out]; rfl) ?_ ?_
      · intro wz hz hF
        clear hF
        go_simp
        exact ⟨rfl, Ext.refl _⟩
      refine hK _ _ ?_
      clear hK K
      refine wpX_step (fun K hK => ?_)
      go_simp
      refine StepY.any (by rw [HSP1.out]; rfl) ?_ ?_
      · intro wz hz hF
        obtain ⟨wa, ea, A1, n1, c1', B1, k1', d1, hv1, hw1⟩ := hF.any 1 (by kernel_rfl) (by rw [HSP1.out]; rfl)
        clear hF
        simp only [asFun, List.nil_append, List.cons_append, List.getD_cons_succ, List.getD_cons_zero] at hv1
        subst hv1
        go_simp
        refine (HP1.out _ _ _ _ _ _ _ (hw1.ext ea)).mono ?_
        rintro e w2 ⟨A3, n3, c3, A4, n4, c4, rfl, hW1, hW2, hE1⟩
        exact ⟨_, rfl, ⟨A3, n3, c3, A4, n4, c4, rfl, hW1, hW2⟩, hE1⟩
      intro v2
      refine hK _ _ ?_
      clear hK K
      refine wpX_step (fun K hK => ?_)
      go_simp
      refine StepY.det (by rw [HSP1.out]; rfl) ?_ ?_
      · intro wz hz hF
        clear hF
        rw [HSS.out] at hz
        have hf := hz.cells
        simp only [BC, CC, Nat.zero_add, Nat.reduceAdd, and_true] at hf
        go_simp
        exact ⟨rfl, Ext.refl _⟩
      refine hK _ _ ?_
      clear hK K
      refine wpX_step (fun K hK => ?_)
      go_simp
      refine StepY.det (by rw [HSP1.out]; rfl) ?_ ?_
      · intro wz hz hF
        obtain ⟨wa, ea, A1, n1, c1', B1, k1', d1, hv1, hw1⟩ := hF.any 3 (by kernel_rfl) (by rw [HSP1.out]; rfl)
        clear hF
        simp only [asFun, List.nil_append, List.cons_append, List.getD_cons_succ, List.getD_cons_zero] at hv1
        subst hv1
        rw [HSS.out] at hz
        go_simp
        refine (HC1.out _ _ _ _ _ _ _ (hw1.ext ea) ⟨hz.wd 1 rfl, hz.wd 0 rfl⟩).mono ?_
        rintro e w2 ⟨rfl, hE1⟩
        exact ⟨_, rfl, rfl, hE1⟩
      refine hK _ _ ?_
      clear hK K
      refine wpX_nil ?_
      intro w13 hz1 hF
      clear hF
      go_wp2_with fail
      have hS2 := HSE.out _ _ hz1 (Ext.refl _).drew
      clear hz1
      obtain ⟨sp2, hsp⟩ : ∃ sp : Nat → Sp, sp = ofList [det (.int .u64 (HI : Int)), anyOf (fun v wz => ∃ A1 n1 c1 A2 n2 c2, v = .agg #[.bool false, .slice A1 n1 c1, .slice A2 n2 c2] ∧ RatAt wz A1 n1 c1 A2 n2 c2 (fbN HI) (fbD HI)), det (.int .i64 2),
        anyOf (fun v wz => ∃ A1 n1 c1 A2 n2 c2, v = .agg #[.bool false, .slice A1 n1 c1, .slice A2 n2 c2] ∧ RatAt wz A1 n1 c1 A2 n2 c2 (fracN (fbN HI ^ 2) (fbD HI ^ 2) 0) (fracD (fbN HI ^ 2) (fbD HI ^ 2) 0)), det (.agg #[.bool false, .slice A1 n1' c1', .slice A2 n2' c2']), det (.int .i64 c2)] := ⟨_, rfl⟩
      have HSP2 := Lib.hid hsp
      clear hsp
      refine wp_region_loose 6 SS sp2 (by kernel_rfl) (by kernel_rfl) hS2 HSE.out ?_
      simp only [List.take_succ_cons, List.take_zero, List.drop_succ_cons, List.drop_zero]
      refine wpX_step (fun K hK => ?_)
      go_simp
      refine StepY.det (by rw [HSP2.out]; rfl) ?_ ?_
      · intro wz hz hF
        clear hF
        go_simp
        exact ⟨rfl, Ext.refl _⟩
      refine hK _ _ ?_
      clear hK K
      refine wpX_step (fun K hK => ?_)
      go_simp
      refine StepY.any (by rw [HSP2.out]; rfl) ?_ ?_
      · intro wz hz hF
        clear hF
        go_simp
        refine (HF2.out _).mono ?_
        rintro e w2 ⟨A3, n3, c3, A4, n4, c4, rfl, hW1, hW2, hE1⟩
        exact ⟨_, rfl, ⟨A3, n3, c3, A4, n4, c4, rfl, hW1, hW2⟩, hE1⟩
      intro v1
      refine hK _ _ ?_
      clear hK K
      refine wpX_step (fun K hK => ?_)
      go_simp
      refine StepY.det (by rw [HSP2.out]; rfl) ?_ ?_
      · intro wz hz hF
        clear hF
        go_simp
        exact ⟨rfl, Ext.refl _⟩
      refine hK _ _ ?_
      clear hK K
      refine wpX_step (fun K hK => ?_)
      go_simp
      refine StepY.any (by rw [HSP2.out]; rfl) ?_ ?_
      · intro wz hz hF
        obtain ⟨wa, ea, A1, n1, c1', B1, k1', d1, hv1, hw1⟩ := hF.any 1 (by kernel_rfl) (by rw [HSP2.out]; rfl)
        clear hF
        simp only [asFun, List.nil_append, List.cons_append, List.getD_cons_succ, List.getD_cons_zero] at hv1
        subst hv1
        go_simp
        refine (HP2.out _ _ _ _ _ _ _ (hw1.ext ea)).mono ?_
        rintro e w2 ⟨A3, n3, c3, A4, n4, c4, rfl, hW1, hW2, hE1⟩
        exact ⟨_, rfl, ⟨A3, n3, c3, A4, n4, c4, rfl, hW1, hW2⟩, hE1⟩
      intro v2
      refine hK _ _ ?_
      clear hK K
      refine wpX_step (fun K hK => ?_)
      go_simp
      refine StepY.det (by rw [HSP2.out]; rfl) ?_ ?_
      · intro wz hz hF
        clear hF
        rw [HSS.out] at hz
        have hf := hz.cells
        simp only [BC, CC, Nat.zero_add, Nat.reduceAdd, and_true] at hf
        go_simp
        exact ⟨rfl, Ext.refl _⟩
      refine hK _ _ ?_
      clear hK K
      refine wpX_step (fun K hK => ?_)
      go_simp
      refine StepY.det (by rw [HSP2.out]; rfl) ?_ ?_
      · intro wz hz hF
        obtain ⟨wa, ea, A1, n1, c1', B1, k1', d1, hv1, hw1⟩ := hF.any 3 (by kernel_rfl) (by rw [HSP2.out]; rfl)
        clear hF
        simp only [asFun, List.nil_append, List.cons_append, List.getD_cons_succ, List.getD_cons_zero] at hv1
        subst hv1
        rw [HSS.out] at hz
        go_simp
        refine (HC2.out _ _ _ _ _ _ _ (hw1.ext ea) ⟨hz.wd 1 rfl, hz.wd 0 rfl⟩).mono ?_
        rintro e w2 ⟨rfl, hE1⟩
        exact ⟨_, rfl, rfl, hE1⟩
      refine hK _ _ ?_
      clear hK K
      refine wpX_nil ?_
      intro w23 hz2 hF
      clear hF
      rw [HSS.out] at hz2
      have hE := hz2.toExt
      clear hz2
      rcases or_.out with ⟨rfl, rfl, rfl⟩ | ⟨rfl, rfl, rfl⟩
      · go_wp2_with fail
        refine (HLV.out _).mono ?_
        rintro e w9 ⟨rfl, hE9⟩
        go_wp2
        go_ret
        exact ⟨by simp, hE.trans hE9⟩
      · have q1 : ((LO : Int) == (LO : Int) + 1) = false := by rw [beq_eq_false_iff_ne]; omega
        go_wp2_with fail
        refine (HLV.out _).mono ?_
        rintro e w9 ⟨rfl, hE9⟩
        go_wp2
        go_ret
        exact ⟨by simp, hE.trans hE9⟩
    · have hn0 : ¬ n < 1 := by omega
      have HSL2 := Lib.hid (HSL.out rfl)
      have HSH2 := Lib.hid (HSH.out rfl)
      rw [show ((2 : Nat) : Int) = 2 from rfl] at HRL HRH HP1 HP2
      go_enter Try.func5, Try.ntmps5
      go_wp2_with (first | (go_at_call 16; ((with_reducible refine (HFI.out _).mono ?_); rintro e w' ⟨rfl, rfl⟩)) | (go_at_call 16; ((with_reducible refine (HFL.out _).mono ?_); rintro e w' ⟨rfl, rfl⟩)) | (go_at_call 16; ((with_reducible refine (HFH.out _).mono ?_); rintro e w' ⟨rfl, rfl⟩)))
      refine (HFY.out _).mono ?_
      rintro e w1 ⟨A1, n1', c1', A2, n2', c2', rfl, hW1, hW2, hE1⟩
      have hO := (((Own.start w).ext hE1).add hW1).add hW2
      clear hW1 hW2 hE1
      go_wp2_with (first | (refine own_alloc hO zero_rat rfl rfl ?_; clear hO; intro g wa hO) | (refine own_store hO 0 rfl rfl rfl size_rat rfl rfl rfl ?_; clear hO; intro wb hO) | (go_at_call 12; refine (fl_any _ _).mono ?_; rintro e w' ⟨rfl, rfl⟩))
      refine (HRL.out _).mono ?_
      rintro e w2 ⟨r, rfl, hr, hc, hE⟩
      have hO' := hO.ext hE
      clear hO hE
      go_wp2_with fail
      refine (HLB.out r _ hr).mono ?_
      rintro e w' ⟨rfl, rfl⟩
      rw [hc]
      clear hc hr
      have hO := hO'
      clear hO'
      go_wp2_with (go_at_call 12; refine (fl_any _ _).mono ?_; rintro e w' ⟨rfl, rfl⟩)
      refine (HRH.out _).mono ?_
      rintro e w3 ⟨r, rfl, hr, hc, hE⟩
      have hO' := hO.ext hE
      clear hO hE
      go_wp2_with fail
      refine (HLB.out r _ hr).mono ?_
      rintro e w' ⟨rfl, rfl⟩
      rw [hc]
      clear hc hr
      have hO := hO'
      clear hO'
      go_wp2_with (go_at_call 12; refine (fl_any _ _).mono ?_; rintro e w' ⟨rfl, rfl⟩)
      refine (HSL2.out _).mono ?_
      rintro e w4 ⟨r, rfl, hr, hc, hE⟩
      have hO' := hO.ext hE
      clear hO hE
      go_wp2_with fail
      refine (HLB.out r _ hr).mono ?_
      rintro e w' ⟨rfl, rfl⟩
      rw [hc]
      clear hc hr
      have hO := hO'
      clear hO'
      go_wp2_with (go_at_call 12; refine (fl_any _ _).mono ?_; rintro e w' ⟨rfl, rfl⟩)
      refine (HSH2.out _).mono ?_
      rintro e w5 ⟨r, rfl, hr, hc, hE⟩
      have hO' := hO.ext hE
      clear hO hE
      go_wp2_with fail
      refine (HLB.out r _ hr).mono ?_
      rintro e w' ⟨rfl, rfl⟩
      rw [hc]
      clear hc hr
      have hO := hO'
      clear hO'
      go_wp2_with (first | (go_at_call 16; ((with_reducible refine (HFI.out _).mono ?_); rintro e w' ⟨rfl, rfl⟩)) | (go_at_call 16; ((with_reducible refine (HFL.out _).mono ?_); rintro e w' ⟨rfl, rfl⟩)) | (go_at_call 16; ((with_reducible refine (HFH.out _).mono ?_); rintro e w' ⟨rfl, rfl⟩)))
      obtain ⟨SS, hSS⟩ : ∃ SS : World → Prop, SS = Own w [⟨g, 35, [.bool false, .slice A1 n1' c1', .slice A2 n2' c2']⟩] [⟨A2, n2', c2', nd (fbD y)⟩, ⟨A1, n1', c1', nd (fbN y)⟩] := ⟨_, rfl⟩
      have HSE : Hid (∀ w w', SS w → Ext w w' → SS w') := Lib.hid (fun w w' h1 h2 => by rw [hSS] at h1 ⊢; exact h1.ext h2)
      have hS1 : SS _ := (by rw [hSS]; exact hO.ext (Ext.refl _).drew)
      have HSS := Lib.hid hSS
      clear hSS hO
      obtain ⟨sp1, hsp⟩ : ∃ sp : Nat → Sp, sp = ofList [det (.int .u64 (LO : Int)), anyOf (fun v wz => ∃ A1 n1 c1 A2 n2 c2, v = .agg #[.bool false, .slice A1 n1 c1, .slice A2 n2 c2] ∧ RatAt wz A1 n1 c1 A2 n2 c2 (fbN LO) (fbD LO)), det (.int .i64 2),
        anyOf (fun v wz => ∃ A1 n1 c1 A2 n2 c2, v = .agg #[.bool false, .slice A1 n1 c1, .slice A2 n2 c2] ∧ RatAt wz A1 n1 c1 A2 n2 c2 (fracN (fbN LO ^ 2) (fbD LO ^ 2) 0) (fracD (fbN LO ^ 2) (fbD LO ^ 2) 0)), det (.agg #[.bool false, .slice A1 n1' c1', .slice A2 n2' c2']), det (.int .i64 c1)] := ⟨_, rfl⟩
      have HSP1 := Lib.hid hsp
      clear hsp
      refine wp_region_loose 6 SS sp1 (by kernel_rfl) (by kernel_rfl) hS1 HSE.out ?_
      simp only [List.take_succ_cons, List.take_zero, List.drop_succ_cons, List.drop_zero]
      refine wpX_step (fun K hK => ?_)
      go_simp
      refine StepY.det (by rw [HSP1.out]; rfl) ?_ ?_
      · intro wz hz hF
        clear hF
        go_simp
        exact ⟨rfl, Ext.refl _⟩
      refine hK _ _ ?_
      clear hK K
      refine wpX_step (fun K hK => ?_)
      go_simp
      refine StepY.any (by rw [HSP1.out]; rfl) ?_ ?_
      · intro wz hz hF
        clear hF
        go_simp
        refine (HF1.out _).mono ?_
        rintro e w2 ⟨A3, n3, c3, A4, n4, c4, rfl, hW1, hW2, hE1⟩
        exact ⟨_, rfl, ⟨A3, n3, c3, A4, n4, c4, rfl, hW1, hW2⟩, hE1⟩
      intro v1
      refine hK _ _ ?_
      clear hK K
      refine wpX_step (fun K hK => ?_)
      go_simp
      refine StepY.det (by rw [HSP1.out]; rfl) ?_ ?_
      · intro wz hz hF
        clear hF
        go_simp
        exact ⟨rfl, Ext.refl _⟩
      refine hK _ _ ?_
      clear hK K
      refine wpX_step (fun K hK => ?_)
      go_simp
      refine StepY.any (by rw [HSP1.out]; rfl) ?_ ?_
      · intro wz hz hF
        obtain ⟨wa, ea, A1, n1, c1', B1, k1', d1, hv1, hw1⟩ := hF.any 1 (by kernel_rfl) (by rw [HSP1.out]; rfl)
        clear hF
        simp only [asFun, List.nil_append, List.cons_append, List.getD_cons_succ, List.getD_cons_zero] at hv1
        subst hv1
        go_simp
        refine (HP1.out _ _ _ _ _ _ _ (hw1.ext ea)).mono ?_
        rintro e w2 ⟨A3, n3, c3, A4, n4, c4, rfl, hW1, hW2, hE1⟩
        exact ⟨_, rfl, ⟨A3, n3, c3, A4, n4, c4, rfl, hW1, hW2⟩, hE1⟩
      intro v2
      refine hK _ _ ?_
      clear hK K
      refine wpX_step (fun K hK => ?_)
      go_simp
      refine StepY.det (by rw [HSP1.out]; rfl) ?_ ?_
      · intro wz hz hF
        clear hF
        rw [HSS.out] at hz
        have hf := hz.cells
        simp only [BC, CC, Nat.zero_add, Nat.reduceAdd, and_true] at hf
        go_simp
        exact ⟨rfl, Ext.refl _⟩
      refine hK _ _ ?_
      clear hK K
      refine wpX_step (fun K hK => ?_)
      go_simp
      refine StepY.det (by rw [HSP1.out]; rfl) ?_ ?_
      · intro wz hz hF
        obtain ⟨wa, ea, A1, n1, c1', B1, k1', d1, hv1, hw1⟩ := hF.any 3 (by kernel_rfl) (by rw [HSP1.out]; rfl)
        clear hF
        simp only [asFun, List.nil_append, List.cons_append, List.getD_cons_succ, List.getD_cons_zero] at hv1
        subst hv1
        rw [HSS.out] at hz
        go_simp
        refine (HC1.out _ _ _ _ _ _ _ (hw1.ext ea) ⟨hz.wd 1 rfl, hz.wd 0 rfl⟩).mono ?_
        rintro e w2 ⟨rfl, hE1⟩
        exact ⟨_, rfl, rfl, hE1⟩
      refine hK _ _ ?_
      clear hK K
      refine wpX_nil ?_
      intro w13 hz1 hF
      clear hF
      go_wp2_with fail
      have hS2 := HSE.out _ _ hz1 (Ext.refl _).drew
      clear hz1
      obtain ⟨sp2, hsp⟩ : ∃ sp : Nat → Sp, sp = ofList [det (.int .u64 (HI : Int)), anyOf (fun v wz => ∃ A1 n1 c1 A2 n2 c2, v = .agg #[.bool false, .slice A1 n1 c1, .slice A2 n2 c2] ∧ RatAt wz A1 n1 c1 A2 n2 c2 (fbN HI) (fbD HI)), det (.int .i64 2),
        anyOf (fun v wz => ∃ A1 n1 c1 A2 n2 c2, v = .agg #[.bool false, .slice A1 n1 c1, .slice A2 n2 c2] ∧ RatAt wz A1 n1 c1 A2 n2 c2 (fracN (fbN HI ^ 2) (fbD HI ^ 2) 0) (fracD (fbN HI ^ 2) (fbD HI ^ 2) 0)), det (.agg #[.bool false, .slice A1 n1' c1', .slice A2 n2' c2']), det (.int .i64 c2)] := ⟨_, rfl⟩
      have HSP2 := Lib.hid hsp
      clear hsp
      refine wp_region_loose 6 SS sp2 (by kernel_rfl) (by kernel_rfl) hS2 HSE.out ?_
      simp only [List.take_succ_cons, List.take_zero, List.drop_succ_cons, List.drop_zero]
      refine wpX_step (fun K hK => ?_)
      go_simp
      refine StepY.det (by rw [HSP2.out]; rfl) ?_ ?_
      · intro wz hz hF
        clear hF
        go_simp
        exact ⟨rfl, Ext.refl _⟩
      refine hK _ _ ?_
      clear hK K
      refine wpX_step (fun K hK => ?_)
      go_simp
      refine StepY.any (by rw [HSP2.out]; rfl) ?_ ?_
      · intro wz hz hF
        clear hF
        go_simp
        refine (HF2.out _).mono ?_
        rintro e w2 ⟨A3, n3, c3, A4, n4, c4, rfl, hW1, hW2, hE1⟩
        exact ⟨_, rfl, ⟨A3, n3, c3, A4, n4, c4, rfl, hW1, hW2⟩, hE1⟩
      intro v1
      refine hK _ _ ?_
      clear hK K
      refine wpX_step (fun K hK => ?_)
      go_simp
      refine StepY.det (by rw [HSP2.out]; rfl) ?_ ?_
      · intro wz hz hF
        clear hF
        go_simp
        exact ⟨rfl, Ext.refl _⟩
      refine hK _ _ ?_
      clear hK K
      refine wpX_step (fun K hK => ?_)
      go_simp
      refine StepY.any (by rw [HSP2.out]; rfl) ?_ ?_
      · intro wz hz hF
        obtain ⟨wa, ea, A1, n1, c1', B1, k1', d1, hv1, hw1⟩ := hF.any 1 (by kernel_rfl) (by rw [HSP2.out]; rfl)
        clear hF
        simp only [asFun, List.nil_append, List.cons_append, List.getD_cons_succ, List.getD_cons_zero] at hv1
        subst hv1
        go_simp
        refine (HP2.out _ _ _ _ _ _ _ (hw1.ext ea)).mono ?_
        rintro e w2 ⟨A3, n3, c3, A4, n4, c4, rfl, hW1, hW2, hE1⟩
        exact ⟨_, rfl, ⟨A3, n3, c3, A4, n4, c4, rfl, hW1, hW2⟩, hE1⟩
      intro v2
      refine hK _ _ ?_
      clear hK K
      refine wpX_step (fun K hK => ?_)
      go_simp
      refine StepY.det (by rw [HSP2.out]; rfl) ?_ ?_
      · intro wz hz hF
        clear hF
        rw [HSS.out] at hz
        have hf := hz.cells
        simp only [BC, CC, Nat.zero_add, Nat.reduceAdd, and_true] at hf
        go_simp
        exact ⟨rfl, Ext.refl _⟩
      refine hK _ _ ?_
      clear hK K
      refine wpX_step (fun K hK => ?_)
      go_simp
      refine StepY.det (by rw [HSP2.out]; rfl) ?_ ?_
      · intro wz hz hF
        obtain ⟨wa, ea, A1, n1, c1', B1, k1', d1, hv1, hw1⟩ := hF.any 3 (by kernel_rfl) (by rw [HSP2.out]; rfl)
        clear hF
        simp only [asFun, List.nil_append, List.cons_append, List.getD_cons_succ, List.getD_cons_zero] at hv1
        subst hv1
        rw [HSS.out] at hz
        go_simp
        refine (HC2.out _ _ _ _ _ _ _ (hw1.ext ea) ⟨hz.wd 1 rfl, hz.wd 0 rfl⟩).mono ?_
        rintro e w2 ⟨rfl, hE1⟩
        exact ⟨_, rfl, rfl, hE1⟩
      refine hK _ _ ?_
      clear hK K
      refine wpX_nil ?_
      intro w23 hz2 hF
      clear hF
      rw [HSS.out] at hz2
      have hE := hz2.toExt
      clear hz2
      rcases or_.out with ⟨rfl, rfl, rfl⟩ | ⟨rfl, rfl, rfl⟩
      · go_wp2_with fail
        refine (HLV.out _).mono ?_
        rintro e w9 ⟨rfl, hE9⟩
        go_wp2
        go_ret
        exact ⟨by simp, hE.trans hE9⟩
      · have q1 : ((LO : Int) == (LO : Int) + 1) = false := by rw [beq_eq_false_iff_ne]; omega
        go_wp2_with fail
        refine (HLV.out _).mono ?_
        rintro e w9 ⟨rfl, hE9⟩
        go_wp2
        go_ret
        exact ⟨by simp, hE.trans hE9⟩
    · by_cases hk2 : k = 2
      · subst hk2
        have HSL2 := Lib.hid (HSL.out rfl)
        have HSH2 := Lib.hid (HSH.out rfl)
        rw [show ((2 : Nat) : Int) = 2 from rfl] at hn1 hn2 HRL HRH HP1 HP2 ⊢
        go_enter Try.func5, Try.ntmps5
        go_wp2_with (first | (go_at_call 16; ((with_reducible refine (HFI.out _).mono ?_); rintro e w' ⟨rfl, rfl⟩)) | (go_at_call 16; ((with_reducible refine (HFL.out _).mono ?_); rintro e w' ⟨rfl, rfl⟩)) | (go_at_call 16; ((with_reducible refine (HFH.out _).mono ?_); rintro e w' ⟨rfl, rfl⟩)))
        refine (HFY.out _).mono ?_
        rintro e w1 ⟨A1, n1', c1', A2, n2', c2', rfl, hW1, hW2, hE1⟩
        have hO := (((Own.start w).ext hE1).add hW1).add hW2
        clear hW1 hW2 hE1
        go_wp2_with (first | (refine own_alloc hO zero_rat rfl rfl ?_; clear hO; intro g wa hO) | (refine own_store hO 0 rfl rfl rfl size_rat rfl rfl rfl ?_; clear hO; intro wb hO) | (go_at_call 12; refine (fl_any _ _).mono ?_; rintro e w' ⟨rfl, rfl⟩))
        refine (HRL.out _).mono ?_
        rintro e w2 ⟨r, rfl, hr, hc, hE⟩
        have hO' := hO.ext hE
        clear hO hE
        go_wp2_with fail
        refine (HLB.out r _ hr).mono ?_
        rintro e w' ⟨rfl, rfl⟩
        rw [hc]
        clear hc hr
        have hO := hO'
        clear hO'
        go_wp2_with (go_at_call 12; refine (fl_any _ _).mono ?_; rintro e w' ⟨rfl, rfl⟩)
        refine (HRH.out _).mono ?_
        rintro e w3 ⟨r, rfl, hr, hc, hE⟩
        have hO' := hO.ext hE
        clear hO hE
        go_wp2_with fail
        refine (HLB.out r _ hr).mono ?_
        rintro e w' ⟨rfl, rfl⟩
        rw [hc]
        clear hc hr
        have hO := hO'
        clear hO'
        go_wp2_with (go_at_call 12; refine (fl_any _ _).mono ?_; rintro e w' ⟨rfl, rfl⟩)
        refine (HSL2.out _).mono ?_
        rintro e w4 ⟨r, rfl, hr, hc, hE⟩
        have hO' := hO.ext hE
        clear hO hE
        go_wp2_with fail
        refine (HLB.out r _ hr).mono ?_
        rintro e w' ⟨rfl, rfl⟩
        rw [hc]
        clear hc hr
        have hO := hO'
        clear hO'
        go_wp2_with (go_at_call 12; refine (fl_any _ _).mono ?_; rintro e w' ⟨rfl, rfl⟩)
        refine (HSH2.out _).mono ?_
        rintro e w5 ⟨r, rfl, hr, hc, hE⟩
        have hO' := hO.ext hE
        clear hO hE
        go_wp2_with fail
        refine (HLB.out r _ hr).mono ?_
        rintro e w' ⟨rfl, rfl⟩
        rw [hc]
        clear hc hr
        have hO := hO'
        clear hO'
        go_wp2_with (first | (go_at_call 16; ((with_reducible refine (HFI.out _).mono ?_); rintro e w' ⟨rfl, rfl⟩)) | (go_at_call 16; ((with_reducible refine (HFL.out _).mono ?_); rintro e w' ⟨rfl, rfl⟩)) | (go_at_call 16; ((with_reducible refine (HFH.out _).mono ?_); rintro e w' ⟨rfl, rfl⟩)))
        obtain ⟨SS, hSS⟩ : ∃ SS : World → Prop, SS = Own w [⟨g, 35, [.bool false, .slice A1 n1' c1', .slice A2 n2' c2']⟩] [⟨A2, n2', c2', nd (fbD y)⟩, ⟨A1, n1', c1', nd (fbN y)⟩] := ⟨_, rfl⟩
        have HSE : Hid (∀ w w', SS w → Ext w w' → SS w') := Lib.hid (fun w w' h1 h2 => by rw [hSS] at h1 ⊢; exact h1.ext h2)
        have hS1 : SS _ := (by rw [hSS]; exact hO.ext (Ext.refl _).drew)
        have HSS := Lib.hid hSS
        clear hSS hO
        obtain ⟨sp1, hsp⟩ : ∃ sp : Nat → Sp, sp = ofList [det (.int .u64 (LO : Int)), anyOf (fun v wz => ∃ A1 n1 c1 A2 n2 c2, v = .agg #[.bool false, .slice A1 n1 c1, .slice A2 n2 c2] ∧ RatAt wz A1 n1 c1 A2 n2 c2 (fbN LO) (fbD LO)), det (.int .i64 2),
          anyOf (fun v wz => ∃ A1 n1 c1 A2 n2 c2, v = .agg #[.bool false, .slice A1 n1 c1, .slice A2 n2 c2] ∧ RatAt wz A1 n1 c1 A2 n2 c2 (fracN (fbN LO ^ 2) (fbD LO ^ 2) 0) (fracD (fbN LO ^ 2) (fbD LO ^ 2) 0)), det (.agg #[.bool false, .slice A1 n1' c1', .slice A2 n2' c2']), det (.int .i64 c1)] := ⟨_, rfl⟩
        have HSP1 := Lib.hid hsp
        clear hsp
        refine wp_region_loose 6 SS sp1 (by kernel_rfl) (by kernel_rfl) hS1 HSE.out ?_
        simp only [List.take_succ_cons, List.take_zero, List.drop_succ_cons, List.drop_zero]
        refine wpX_step (fun K hK => ?_)
        go_simp
        refine StepY.det (by rw [HSP1.out]; rfl) ?_ ?_
        · intro wz hz hF
          clear hF
          go_simp
          exact ⟨rfl, Ext.refl _⟩
        refine hK _ _ ?_
        clear hK K
        refine wpX_step (fun K hK => ?_)
        go_simp
        refine StepY.any (by rw [HSP1.out]; rfl) ?_ ?_
        · intro wz hz hF
          clear hF
          go_simp
          refine (HF1.out _).mono ?_
          rintro e w2 ⟨A3, n3, c3, A4, n4, c4, rfl, hW1, hW2, hE1⟩
          exact ⟨_, rfl, ⟨A3, n3, c3, A4, n4, c4, rfl, hW1, hW2⟩, hE1⟩
        intro v1
        refine hK _ _ ?_
        clear hK K
        refine wpX_step (fun K hK => ?_)
        go_simp
        refine StepY.det (by rw [HSP1.out]; rfl) ?_ ?_
        · intro wz hz hF
          clear hF
          go_simp
          exact ⟨rfl, Ext.refl _⟩
        refine hK _ _ ?_
        clear hK K
        refine wpX_step (fun K hK => ?_)
        go_simp
        refine StepY.any (by rw [HSP1.out]; rfl) ?_ ?_
        · intro wz hz hF
          obtain ⟨wa, ea, A1, n1, c1', B1, k1', d1, hv1, hw1⟩ := hF.any 1 (by kernel_rfl) (by rw [HSP1.out]; rfl)
          clear hF
          simp only [asFun, List.nil_append, List.cons_append, List.getD_cons_succ, List.getD_cons_zero] at hv1
          subst hv1
          go_simp
          refine (HP1.out _ _ _ _ _ _ _ (hw1.ext ea)).mono ?_
          rintro e w2 ⟨A3, n3, c3, A4, n4, c4, rfl, hW1, hW2, hE1⟩
          exact ⟨_, rfl, ⟨A3, n3, c3, A4, n4, c4, rfl, hW1, hW2⟩, hE1⟩
        intro v2
        refine hK _ _ ?_
        clear hK K
        refine wpX_step (fun K hK => ?_)
        go_simp
        refine StepY.det (by rw [HSP1.out]; rfl) ?_ ?_
        · intro wz hz hF
          clear hF
          rw [HSS.out] at hz
          have hf := hz.cells
          simp only [BC, CC, Nat.zero_add, Nat.reduceAdd, and_true] at hf
          go_simp
          exact ⟨rfl, Ext.refl _⟩
        refine hK _ _ ?_
        clear hK K
        refine wpX_step (fun K hK => ?_)
        go_simp
        refine StepY.det (by rw [HSP1.out]; rfl) ?_ ?_
        · intro wz hz hF
          obtain ⟨wa, ea, A1, n1, c1', B1, k1', d1, hv1, hw1⟩ := hF.any 3 (by kernel_rfl) (by rw [HSP1.out]; rfl)
          clear hF
          simp only [asFun, List.nil_append, List.cons_append, List.getD_cons_succ, List.getD_cons_zero] at hv1
          subst hv1
          rw [HSS.out] at hz
          go_simp
          refine (HC1.out _ _ _ _ _ _ _ (hw1.ext ea) ⟨hz.wd 1 rfl, hz.wd 0 rfl⟩).mono ?_
          rintro e w2 ⟨rfl, hE1⟩
          exact ⟨_, rfl, rfl, hE1⟩
        refine hK _ _ ?_
        clear hK K
        refine wpX_nil ?_
        intro w13 hz1 hF
        clear hF
        go_wp2_with fail
        have hS2 := HSE.out _ _ hz1 (Ext.refl _).drew
        clear hz1
        obtain ⟨sp2, hsp⟩ : ∃ sp : Nat → Sp, sp = ofList [det (.int .u64 (HI : Int)), anyOf (fun v wz => ∃ A1 n1 c1 A2 n2 c2, v = .agg #[.bool false, .slice A1 n1 c1, .slice A2 n2 c2] ∧ RatAt wz A1 n1 c1 A2 n2 c2 (fbN HI) (fbD HI)), det (.int .i64 2),
          anyOf (fun v wz => ∃ A1 n1 c1 A2 n2 c2, v = .agg #[.bool false, .slice A1 n1 c1, .slice A2 n2 c2] ∧ RatAt wz A1 n1 c1 A2 n2 c2 (fracN (fbN HI ^ 2) (fbD HI ^ 2) 0) (fracD (fbN HI ^ 2) (fbD HI ^ 2) 0)), det (.agg #[.bool false, .slice A1 n1' c1', .slice A2 n2' c2']), det (.int .i64 c2)] := ⟨_, rfl⟩
        have HSP2 := Lib.hid hsp
        clear hsp
        refine wp_region_loose 6 SS sp2 (by kernel_rfl) (by kernel_rfl) hS2 HSE.out ?_
        simp only [List.take_succ_cons, List.take_zero, List.drop_succ_cons, List.drop_zero]
        refine wpX_step (fun K hK => ?_)
        go_simp
        refine StepY.det (by rw [HSP2.out]; rfl) ?_ ?_
        · intro wz hz hF
          clear hF
          go_simp
          exact ⟨rfl, Ext.refl _⟩
        refine hK _ _ ?_
        clear hK K
        refine wpX_step (fun K hK => ?_)
        go_simp
        refine StepY.any (by rw [HSP2.out]; rfl) ?_ ?_
        · intro wz hz hF
          clear hF
          go_simp
          refine (HF2.out _).mono ?_
          rintro e w2 ⟨A3, n3, c3, A4, n4, c4, rfl, hW1, hW2, hE1⟩
          exact ⟨_, rfl, ⟨A3, n3, c3, A4, n4, c4, rfl, hW1, hW2⟩, hE1⟩
        intro v1
        refine hK _ _ ?_
        clear hK K
        refine wpX_step (fun K hK => ?_)
        go_simp
        refine StepY.det (by rw [HSP2.out]; rfl) ?_ ?_
        · intro wz hz hF
          clear hF
          go_simp
          exact ⟨rfl, Ext.refl _⟩
        refine hK _ _ ?_
        clear hK K
        refine wpX_step (fun K hK => ?_)
        go_simp
        refine StepY.any (by rw [HSP2.out]; rfl) ?_ ?_
        · intro wz hz hF
          obtain ⟨wa, ea, A1, n1, c1', B1, k1', d1, hv1, hw1⟩ := hF.any 1 (by kernel_rfl) (by rw [HSP2.out]; rfl)
          clear hF
          simp only [asFun, List.nil_append, List.cons_append, List.getD_cons_succ, List.getD_cons_zero] at hv1
          subst hv1
          go_simp
          refine (HP2.out _ _ _ _ _ _ _ (hw1.ext ea)).mono ?_
          rintro e w2 ⟨A3, n3, c3, A4, n4, c4, rfl, hW1, hW2, hE1⟩
          exact ⟨_, rfl, ⟨A3, n3, c3, A4, n4, c4, rfl, hW1, hW2⟩, hE1⟩
        intro v2
        refine hK _ _ ?_
        clear hK K
        refine wpX_step (fun K hK => ?_)
        go_simp
        refine StepY.det (by rw [HSP2.out]; rfl) ?_ ?_
        · intro wz hz hF
          clear hF
          rw [HSS.out] at hz
          have hf := hz.cells
          simp only [BC, CC, Nat.zero_add, Nat.reduceAdd, and_true] at hf
          go_simp
          exact ⟨rfl, Ext.refl _⟩
        refine hK _ _ ?_
        clear hK K
        refine wpX_step (fun K hK => ?_)
        go_simp
        refine StepY.det (by rw [HSP2.out]; rfl) ?_ ?_
        · intro wz hz hF
          obtain ⟨wa, ea, A1, n1, c1', B1, k1', d1, hv1, hw1⟩ := hF.any 3 (by kernel_rfl) (by rw [HSP2.out]; rfl)
          clear hF
          simp only [asFun, List.nil_append, List.cons_append, List.getD_cons_succ, List.getD_cons_zero] at hv1
          subst hv1
          rw [HSS.out] at hz
          go_simp
          refine (HC2.out _ _ _ _ _ _ _ (hw1.ext ea) ⟨hz.wd 1 rfl, hz.wd 0 rfl⟩).mono ?_
          rintro e w2 ⟨rfl, hE1⟩
          exact ⟨_, rfl, rfl, hE1⟩
        refine hK _ _ ?_
        clear hK K
        refine wpX_nil ?_
        intro w23 hz2 hF
        clear hF
        rw [HSS.out] at hz2
        have hE := hz2.toExt
        clear hz2
        rcases or_.out with ⟨rfl, rfl, rfl⟩ | ⟨rfl, rfl, rfl⟩
        · go_wp2_with fail
          refine (HLV.out _).mono ?_
          rintro e w9 ⟨rfl, hE9⟩
          go_wp2
          go_ret
          exact ⟨by simp, hE.trans hE9⟩
        · have q1 : ((LO : Int) == (LO : Int) + 1) = false := by rw [beq_eq_false_iff_ne]; omega
          go_wp2_with fail
          refine (HLV.out _).mono ?_
          rintro e w9 ⟨rfl, hE9⟩
          go_wp2
          go_ret
          exact ⟨by simp, hE.trans hE9⟩
      · have hk2' : ((k : Int) == 2) = false := by rw [beq_eq_false_iff_ne]; omega
        clear hk2
        go_enter Try.func5, Try.ntmps5
        go_wp2_with (first | (go_at_call 16; ((with_reducible refine (HFI.out _).mono ?_); rintro e w' ⟨rfl, rfl⟩)) | (go_at_call 16; ((with_reducible refine (HFL.out _).mono ?_); rintro e w' ⟨rfl, rfl⟩)) | (go_at_call 16; ((with_reducible refine (HFH.out _).mono ?_); rintro e w' ⟨rfl, rfl⟩)))
        refine (HFY.out _).mono ?_
        rintro e w1 ⟨A1, n1', c1', A2, n2', c2', rfl, hW1, hW2, hE1⟩
        have hO := (((Own.start w).ext hE1).add hW1).add hW2
        clear hW1 hW2 hE1
        go_wp2_with (first | (refine own_alloc hO zero_rat rfl rfl ?_; clear hO; intro g wa hO) | (refine own_store hO 0 rfl rfl rfl size_rat rfl rfl rfl ?_; clear hO; intro wb hO) | (go_at_call 12; refine (fl_any _ _).mono ?_; rintro e w' ⟨rfl, rfl⟩))
        refine (HRL.out _).mono ?_
        rintro e w2 ⟨r, rfl, hr, hc, hE⟩
        have hO' := hO.ext hE
        clear hO hE
        go_wp2_with fail
        refine (HLB.out r _ hr).mono ?_
        rintro e w' ⟨rfl, rfl⟩
        rw [hc]
        clear hc hr
        have hO := hO'
        clear hO'
        go_wp2_with (go_at_call 12; refine (fl_any _ _).mono ?_; rintro e w' ⟨rfl, rfl⟩)
        refine (HRH.out _).mono ?_
        rintro e w3 ⟨r, rfl, hr, hc, hE⟩
        have hO' := hO.ext hE
        clear hO hE
        go_wp2_with fail
        refine (HLB.out r _ hr).mono ?_
        rintro e w' ⟨rfl, rfl⟩
        rw [hc]
        clear hc hr
        have hO := hO'
        clear hO'
        go_wp2_with (first | (go_at_call 16; ((with_reducible refine (HFI.out _).mono ?_); rintro e w' ⟨rfl, rfl⟩)) | (go_at_call 16; ((with_reducible refine (HFL.out _).mono ?_); rintro e w' ⟨rfl, rfl⟩)) | (go_at_call 16; ((with_reducible refine (HFH.out _).mono ?_); rintro e w' ⟨rfl, rfl⟩)))
        obtain ⟨SS, hSS⟩ : ∃ SS : World → Prop, SS = Own w [⟨g, 35, [.bool false, .slice A1 n1' c1', .slice A2 n2' c2']⟩] [⟨A2, n2', c2', nd (fbD y)⟩, ⟨A1, n1', c1', nd (fbN y)⟩] := ⟨_, rfl⟩
        have HSE : Hid (∀ w w', SS w → Ext w w' → SS w') := Lib.hid (fun w w' h1 h2 => by rw [hSS] at h1 ⊢; exact h1.ext h2)
        have hS1 : SS _ := (by rw [hSS]; exact hO.ext (Ext.refl _).drew)
        have HSS := Lib.hid hSS
        clear hSS hO
        obtain ⟨sp1, hsp⟩ : ∃ sp : Nat → Sp, sp = ofList [det (.int .u64 (LO : Int)), anyOf (fun v wz => ∃ A1 n1 c1 A2 n2 c2, v = .agg #[.bool false, .slice A1 n1 c1, .slice A2 n2 c2] ∧ RatAt wz A1 n1 c1 A2 n2 c2 (fbN LO) (fbD LO)), det (.int .i64 (k : Int)),
          anyOf (fun v wz => ∃ A1 n1 c1 A2 n2 c2, v = .agg #[.bool false, .slice A1 n1 c1, .slice A2 n2 c2] ∧ RatAt wz A1 n1 c1 A2 n2 c2 (fracN (fbN LO ^ k) (fbD LO ^ k) 0) (fracD (fbN LO ^ k) (fbD LO ^ k) 0)), det (.agg #[.bool false, .slice A1 n1' c1', .slice A2 n2' c2']), det (.int .i64 c1)] := ⟨_, rfl⟩
        have HSP1 := Lib.hid hsp
        clear hsp
        refine wp_region_loose 6 SS sp1 (by kernel_rfl) (by kernel_rfl) hS1 HSE.out ?_
        simp only [List.take_succ_cons, List.take_zero, List.drop_succ_cons, List.drop_zero]
        refine wpX_step (fun K hK => ?_)
        go_simp
        refine StepY.det (by rw [HSP1.out]; rfl) ?_ ?_
        · intro wz hz hF
          clear hF
          go_simp
          exact ⟨rfl, Ext.refl _⟩
        refine hK _ _ ?_
        clear hK K
        refine wpX_step (fun K hK => ?_)
        go_simp
        refine StepY.any (by rw [HSP1.out]; rfl) ?_ ?_
        · intro wz hz hF
          clear hF
          go_simp
          refine (HF1.out _).mono ?_
          rintro e w2 ⟨A3, n3, c3, A4, n4, c4, rfl, hW1, hW2, hE1⟩
          exact ⟨_, rfl, ⟨A3, n3, c3, A4, n4, c4, rfl, hW1, hW2⟩, hE1⟩
        intro v1
        refine hK _ _ ?_
        clear hK K
        refine wpX_step (fun K hK => ?_)
        go_simp
        refine StepY.det (by rw [HSP1.out]; rfl) ?_ ?_
        · intro wz hz hF
          clear hF
          go_simp
          exact ⟨rfl, Ext.refl _⟩
        refine hK _ _ ?_
        clear hK K
        refine wpX_step (fun K hK => ?_)
        go_simp
        refine StepY.any (by rw [HSP1.out]; rfl) ?_ ?_
        · intro wz hz hF
          obtain ⟨wa, ea, A1, n1, c1', B1, k1', d1, hv1, hw1⟩ := hF.any 1 (by kernel_rfl) (by rw [HSP1.out]; rfl)
          clear hF
          simp only [asFun, List.nil_append, List.cons_append, List.getD_cons_succ, List.getD_cons_zero] at hv1
          subst hv1
          go_simp
          refine (HP1.out _ _ _ _ _ _ _ (hw1.ext ea)).mono ?_
          rintro e w2 ⟨A3, n3, c3, A4, n4, c4, rfl, hW1, hW2, hE1⟩
          exact ⟨_, rfl, ⟨A3, n3, c3, A4, n4, c4, rfl, hW1, hW2⟩, hE1⟩
        intro v2
        refine hK _ _ ?_
        clear hK K
        refine wpX_step (fun K hK => ?_)
        go_simp
        refine StepY.det (by rw [HSP1.out]; rfl) ?_ ?_
        · intro wz hz hF
          clear hF
          rw [HSS.out] at hz
          have hf := hz.cells
          simp only [BC, CC, Nat.zero_add, Nat.reduceAdd, and_true] at hf
          go_simp
          exact ⟨rfl, Ext.refl _⟩
        refine hK _ _ ?_
        clear hK K
        refine wpX_step (fun K hK => ?_)
        go_simp
        refine StepY.det (by rw [HSP1.out]; rfl) ?_ ?_
        · intro wz hz hF
          obtain ⟨wa, ea, A1, n1, c1', B1, k1', d1, hv1, hw1⟩ := hF.any 3 (by kernel_rfl) (by rw [HSP1.out]; rfl)
          clear hF
          simp only [asFun, List.nil_append, List.cons_append, List.getD_cons_succ, List.getD_cons_zero] at hv1
          subst hv1
          rw [HSS.out] at hz
          go_simp
          refine (HC1.out _ _ _ _ _ _ _ (hw1.ext ea) ⟨hz.wd 1 rfl, hz.wd 0 rfl⟩).mono ?_
          rintro e w2 ⟨rfl, hE1⟩
          exact ⟨_, rfl, rfl, hE1⟩
        refine hK _ _ ?_
        clear hK K
        refine wpX_nil ?_
        intro w13 hz1 hF
        clear hF
        go_wp2_with fail
        have hS2 := HSE.out _ _ hz1 (Ext.refl _).drew
        clear hz1
        obtain ⟨sp2, hsp⟩ : ∃ sp : Nat → Sp, sp = ofList [det (.int .u64 (HI : Int)), anyOf (fun v wz => ∃ A1 n1 c1 A2 n2 c2, v = .agg #[.bool false, .slice A1 n1 c1, .slice A2 n2 c2] ∧ RatAt wz A1 n1 c1 A2 n2 c2 (fbN HI) (fbD HI)), det (.int .i64 (k : Int)),
          anyOf (fun v wz => ∃ A1 n1 c1 A2 n2 c2, v = .agg #[.bool false, .slice A1 n1 c1, .slice A2 n2 c2] ∧ RatAt wz A1 n1 c1 A2 n2 c2 (fracN (fbN HI ^ k) (fbD HI ^ k) 0) (fracD (fbN HI ^ k) (fbD HI ^ k) 0)), det (.agg #[.bool false, .slice A1 n1' c1', .slice A2 n2' c2']), det (.int .i64 c2)] := ⟨_, rfl⟩
        have HSP2 := Lib.hid hsp
        clear hsp
        refine wp_region_loose 6 SS sp2 (by kernel_rfl) (by kernel_rfl) hS2 HSE.out ?_
        simp only [List.take_succ_cons, List.take_zero, List.drop_succ_cons, List.drop_zero]
        refine wpX_step (fun K hK => ?_)
        go_simp
        refine StepY.det (by rw [HSP2.out]; rfl) ?_ ?_
        · intro wz hz hF
          clear hF
          go_simp
          exact ⟨rfl, Ext.refl _⟩
        refine hK _ _ ?_
        clear hK K
        refine wpX_step (fun K hK => ?_)
        go_simp
        refine StepY.any (by rw [HSP2.out]; rfl) ?_ ?_
        · intro wz hz hF
          clear hF
          go_simp
          refine (HF2.out _).mono ?_
          rintro e w2 ⟨A3, n3, c3, A4, n4, c4, rfl, hW1, hW2, hE1⟩
          exact ⟨_, rfl, ⟨A3, n3, c3, A4, n4, c4, rfl, hW1, hW2⟩, hE1⟩
        intro v1
        refine hK _ _ ?_
        clear hK K
        refine wpX_step (fun K hK => ?_)
        go_simp
        refine StepY.det (by rw [HSP2.out]; rfl) ?_ ?_
        · intro wz hz hF
          clear hF
          go_simp
          exact ⟨rfl, Ext.refl _⟩
        refine hK _ _ ?_
        clear hK K
        refine wpX_step (fun K hK => ?_)
        go_simp
        refine StepY.any (by rw [HSP2.out]; rfl) ?_ ?_
        · intro wz hz hF
          obtain ⟨wa, ea, A1, n1, c1', B1, k1', d1, hv1, hw1⟩ := hF.any 1 (by kernel_rfl) (by rw [HSP2.out]; rfl)
          clear hF
          simp only [asFun, List.nil_append, List.cons_append, List.getD_cons_succ, List.getD_cons_zero] at hv1
          subst hv1
          go_simp
          refine (HP2.out _ _ _ _ _ _ _ (hw1.ext ea)).mono ?_
          rintro e w2 ⟨A3, n3, c3, A4, n4, c4, rfl, hW1, hW2, hE1⟩
          exact ⟨_, rfl, ⟨A3, n3, c3, A4, n4, c4, rfl, hW1, hW2⟩, hE1⟩
        intro v2
        refine hK _ _ ?_
        clear hK K
        refine wpX_step (fun K hK => ?_)
        go_simp
        refine StepY.det (by rw [HSP2.out]; rfl) ?_ ?_
        · intro wz hz hF
          clear hF
          rw [HSS.out] at hz
          have hf := hz.cells
          simp only [BC, CC, Nat.zero_add, Nat.reduceAdd, and_true] at hf
          go_simp
          exact ⟨rfl, Ext.refl _⟩
        refine hK _ _ ?_
        clear hK K
        refine wpX_step (fun K hK => ?_)
        go_simp
        refine StepY.det (by rw [HSP2.out]; rfl) ?_ ?_
        · intro wz hz hF
          obtain ⟨wa, ea, A1, n1, c1', B1, k1', d1, hv1, hw1⟩ := hF.any 3 (by kernel_rfl) (by rw [HSP2.out]; rfl)
          clear hF
          simp only [asFun, List.nil_append, List.cons_append, List.getD_cons_succ, List.getD_cons_zero] at hv1
          subst hv1
          rw [HSS.out] at hz
          go_simp
          refine (HC2.out _ _ _ _ _ _ _ (hw1.ext ea) ⟨hz.wd 1 rfl, hz.wd 0 rfl⟩).mono ?_
          rintro e w2 ⟨rfl, hE1⟩
          exact ⟨_, rfl, rfl, hE1⟩
        refine hK _ _ ?_
        clear hK K
        refine wpX_nil ?_
        intro w23 hz2 hF
        clear hF
        rw [HSS.out] at hz2
        have hE := hz2.toExt
        clear hz2
        rcases or_.out with ⟨rfl, rfl, rfl⟩ | ⟨rfl, rfl, rfl⟩
        · go_wp2_with fail
          refine (HLV.out _).mono ?_
          rintro e w9 ⟨rfl, hE9⟩
          go_wp2
          go_ret
          exact ⟨by simp, hE.trans hE9⟩
        · have q1 : ((LO : Int) == (LO : Int) + 1) = false := by rw [beq_eq_false_iff_ne]; omega
          go_wp2_with fail
          refine (HLV.out _).mono ?_
          rintro e w9 ⟨rfl, hE9⟩
          go_wp2
          go_ret
          exact ⟨by simp, hE.trans hE9⟩
  · have hyc : (4607182418800017408 : Int) = (y : Int) := by omega
    clear hye
    rcases HNN.out with ⟨hn1 | hn1, rfl⟩ | ⟨hn1, hn2, rfl⟩
    · have HSL2 := Lib.hid (HSL.out rfl)
      have HSH2 := Lib.hid (HSH.out rfl)
      rw [show ((2 : Nat) : Int) = 2 from rfl] at HRL HRH HP1 HP2
      go_enter Try.func5, Try.ntmps5
      go_wp2_with (first | (go_at_call 16; ((with_reducible refine (HFI.out _).mono ?_); rintro e w' ⟨rfl, rfl⟩)) | (go_at_call 16; ((with_reducible refine (HFL.out _).mono ?_); rintro e w' ⟨rfl, rfl⟩)) | (go_at_call 16; ((with_reducible refine (HFH.out _).mono ?_); rintro e w' ⟨rfl, rfl⟩)))
      rw [hyc]
      refine (HFY.out _).mono ?_
      rintro e w1 ⟨A1, n1', c1', A2, n2', c2', rfl, hW1, hW2, hE1⟩
      have hO := (((Own.start w).ext hE1).add hW1).add hW2
      clear hW1 hW2 hE1
      go_wp2_with (first | (refine own_alloc hO zero_rat rfl rfl ?_; clear hO; intro g wa hO) | (refine own_store hO 0 rfl rfl rfl size_rat rfl rfl rfl ?_; clear hO; intro wb hO) | (go_at_call 12; refine (fl_any _ _).mono ?_; rintro e w' ⟨rfl, rfl⟩))
      refine (HRL.out _).mono ?_
      rintro e w2 ⟨r, rfl, hr, hc, hE⟩
      have hO' := hO.ext hE
      clear hO hE
      go_wp2_with fail
      refine (HLB.out r _ hr).mono ?_
      rintro e w' ⟨rfl, rfl⟩
      rw [hc]
      clear hc hr
      have hO := hO'
      clear hO'
      go_wp2_with (go_at_call 12; refine (fl_any _ _).mono ?_; rintro e w' ⟨rfl, rfl⟩)
      refine (HRH.out _).mono ?_
      rintro e w3 ⟨r, rfl, hr, hc, hE⟩
      have hO' := hO.ext hE
      clear hO hE
      go_wp2_with fail
      refine (HLB.out r _ hr).mono ?_
      rintro e w' ⟨rfl, rfl⟩
      rw [hc]
      clear hc hr
      have hO := hO'
      clear hO'
      go_wp2_with (go_at_call 12; refine (fl_any _ _).mono ?_; rintro e w' ⟨rfl, rfl⟩)
      refine (HSL2.out _).mono ?_
      rintro e w4 ⟨r, rfl, hr, hc, hE⟩
      have hO' := hO.ext hE
      clear hO hE
      go_wp2_with fail
      refine (HLB.out r _ hr).mono ?_
      rintro e w' ⟨rfl, rfl⟩
      rw [hc]
      clear hc hr
      have hO := hO'
      clear hO'
      go_wp2_with (go_at_call 12; refine (fl_any _ _).mono ?_; rintro e w' ⟨rfl, rfl⟩)
      refine (HSH2.out _).mono ?_
      rintro e w5 ⟨r, rfl, hr, hc, hE⟩
      have hO' := hO.ext hE
      clear hO hE
      go_wp2_with fail
      refine (HLB.out r _ hr).mono ?_
      rintro e w' ⟨rfl, rfl⟩
      rw [hc]
      clear hc hr
      have hO := hO'
      clear hO'
      go_wp2_with (first | (go_at_call 16; ((with_reducible refine (HFI.out _).mono ?_); rintro e w' ⟨rfl, rfl⟩)) | (go_at_call 16; ((with_reducible refine (HFL.out _).mono ?_); rintro e w' ⟨rfl, rfl⟩)) | (go_at_call 16; ((with_reducible refine (HFH.out _).mono ?_); rintro e w' ⟨rfl, rfl⟩)))
      obtain ⟨SS, hSS⟩ : ∃ SS : World → Prop, SS = Own w [⟨g, 35, [.bool false, .slice A1 n1' c1', .slice A2 n2' c2']⟩] [⟨A2, n2', c2', nd (fbD y)⟩, ⟨A1, n1', c1', nd (fbN y)⟩] := ⟨_, rfl⟩
      have HSE : Hid (∀ w w', SS w → Ext w w' → SS w') := Lib.hid (fun w w' h1 h2 => by rw [hSS] at h1 ⊢; exact h1.ext h2)
      have hS1 : SS _ := (by rw [hSS]; exact hO.ext (Ext.refl _).drew)
      have HSS := Lib.hid hSS
      clear hSS hO
      obtain ⟨sp1, hsp⟩ : ∃ sp : Nat → Sp, sp = ofList [det (.int .u64 (LO : Int)), anyOf (fun v wz => ∃ A1 n1 c1 A2 n2 c2, v = .agg #[.bool false, .slice A1 n1 c1, .slice A2 n2 c2] ∧ RatAt wz A1 n1 c1 A2 n2 c2 (fbN LO) (fbD LO)), det (.int .i64 2),
        anyOf (fun v wz => ∃ A1 n1 c1 A2 n2 c2, v = .agg #[.bool false, .slice A1 n1 c1, .slice A2 n2 c2] ∧ RatAt wz A1 n1 c1 A2 n2 c2 (fracN (fbN LO ^ 2) (fbD LO ^ 2) 0) (fracD (fbN LO ^ 2) (fbD LO ^ 2) 0)), det (.agg #[.bool false, .slice A1 n1' c1', .slice A2 n2' c2']), det (.int .i64 c1)] := ⟨_, rfl⟩
      have HSP1 := Lib.hid hsp
      clear hsp
      refine wp_region_loose 6 SS sp1 (by kernel_rfl) (by kernel_rfl) hS1 HSE.out ?_
      simp only [List.take_succ_cons, List.take_zero, List.drop_succ_cons, List.drop_zero]
      refine wpX_step (fun K hK => ?_)
      go_simp
      refine StepY.det (by rw [HSP1.out]; rfl) ?_ ?_
      · intro wz hz hF
        clear hF
        go_simp
        exact ⟨rfl, Ext.refl _⟩
      refine hK _ _ ?_
      clear hK K
      refine wpX_step (fun K hK => ?_)
      go_simp
      refine StepY.any (by rw [HSP1.out]; rfl) ?_ ?_
      · intro wz hz hF
        clear hF
        go_simp
        refine (HF1.out _).mono ?_
        rintro e w2 ⟨A3, n3, c3, A4, n4, c4, rfl, hW1, hW2, hE1⟩
        exact ⟨_, rfl, ⟨A3, n3, c3, A4, n4, c4, rfl, hW1, hW2⟩, hE1⟩
      intro v1
      refine hK _ _ ?_
      clear hK K
      refine wpX_step (fun K hK => ?_)
      go_simp
      refine StepY.det (by rw [HSP1.out]; rfl) ?_ ?_
      · intro wz hz hF
        clear hF
        go_simp
        exact ⟨rfl, Ext.refl _⟩
      refine hK _ _ ?_
      clear hK K
      refine wpX_step (fun K hK => ?_)
      go_simp
      refine StepY.any (by rw [HSP1.out]; rfl) ?_ ?_
      · intro wz hz hF
        obtain ⟨wa, ea, A1, n1, c1', B1, k1', d1, hv1, hw1⟩ := hF.any 1 (by kernel_rfl) (by rw [HSP1.out]; rfl)
        clear hF
        simp only [asFun, List.nil_append, List.cons_append, List.getD_cons_succ, List.getD_cons_zero] at hv1
        subst hv1
        go_simp
        refine (HP1.out _ _ _ _ _ _ _ (hw1.ext ea)).mono ?_
        rintro e w2 ⟨A3, n3, c3, A4, n4, c4, rfl, hW1, hW2, hE1⟩
        exact ⟨_, rfl, ⟨A3, n3, c3, A4, n4, c4, rfl, hW1, hW2⟩, hE1⟩
      intro v2
      refine hK _ _ ?_
      clear hK K
      refine wpX_step (fun K hK => ?_)
      go_simp
      refine StepY.det (by rw [HSP1.out]; rfl) ?_ ?_
      · intro wz hz hF
        clear hF
        rw [HSS.out] at hz
        have hf := hz.cells
        simp only [BC, CC, Nat.zero_add, Nat.reduceAdd, and_true] at hf
        go_simp
        exact ⟨rfl, Ext.refl _⟩
      refine hK _ _ ?_
      clear hK K
      refine wpX_step (fun K hK => ?_)
      go_simp
      refine StepY.det (by rw [HSP1.out]; rfl) ?_ ?_
      · intro wz hz hF
        obtain ⟨wa, ea, A1, n1, c1', B1, k1', d1, hv1, hw1⟩ := hF.any 3 (by kernel_rfl) (by rw [HSP1.out]; rfl)
        clear hF
        simp only [asFun, List.nil_append, List.cons_append, List.getD_cons_succ, List.getD_cons_zero] at hv1
        subst hv1
        rw [HSS.out] at hz
        go_simp
        refine (HC1.out _ _ _ _ _ _ _ (hw1.ext ea) ⟨hz.wd 1 rfl, hz.wd 0 rfl⟩).mono ?_
        rintro e w2 ⟨rfl, hE1⟩
        exact ⟨_, rfl, rfl, hE1⟩
      refine hK _ _ ?_
      clear hK K
      refine wpX_nil ?_
      intro w13 hz1 hF
      clear hF
      go_wp2_with fail
      have hS2 := HSE.out _ _ hz1 (Ext.refl _).drew
      clear hz1
      obtain ⟨sp2, hsp⟩ : ∃ sp : Nat → Sp, sp = ofList [det (.int .u64 (HI : Int)), anyOf (fun v wz => ∃ A1 n1 c1 A2 n2 c2, v = .agg #[.bool false, .slice A1 n1 c1, .slice A2 n2 c2] ∧ RatAt wz A1 n1 c1 A2 n2 c2 (fbN HI) (fbD HI)), det (.int .i64 2),
        anyOf (fun v wz => ∃ A1 n1 c1 A2 n2 c2, v = .agg #[.bool false, .slice A1 n1 c1, .slice A2 n2 c2] ∧ RatAt wz A1 n1 c1 A2 n2 c2 (fracN (fbN HI ^ 2) (fbD HI ^ 2) 0) (fracD (fbN HI ^ 2) (fbD HI ^ 2) 0)), det (.agg #[.bool false, .slice A1 n1' c1', .slice A2 n2' c2']), det (.int .i64 c2)] := ⟨_, rfl⟩
      have HSP2 := Lib.hid hsp
      clear hsp
      refine wp_region_loose 6 SS sp2 (by kernel_rfl) (by kernel_rfl) hS2 HSE.out ?_
      simp only [List.take_succ_cons, List.take_zero, List.drop_succ_cons, List.drop_zero]
      refine wpX_step (fun K hK => ?_)
      go_simp
      refine StepY.det (by rw [HSP2.out]; rfl) ?_ ?_
      · intro wz hz hF
        clear hF
        go_simp
        exact ⟨rfl, Ext.refl _⟩
      refine hK _ _ ?_
      clear hK K
      refine wpX_step (fun K hK => ?_)
      go_simp
      refine StepY.any (by rw [HSP2.out]; rfl) ?_ ?_
      · intro wz hz hF
        clear hF
        go_simp
        refine (HF2.out _).mono ?_
        rintro e w2 ⟨A3, n3, c3, A4, n4, c4, rfl, hW1, hW2, hE1⟩
        exact ⟨_, rfl, ⟨A3, n3, c3, A4, n4, c4, rfl, hW1, hW2⟩, hE1⟩
      intro v1
      refine hK _ _ ?_
      clear hK K
      refine wpX_step (fun K hK => ?_)
      go_simp
      refine StepY.det (by rw [HSP2.out]; rfl) ?_ ?_
      · intro wz hz hF
        clear hF
        go_simp
        exact ⟨rfl, Ext.refl _⟩
      refine hK _ _ ?_
      clear hK K
      refine wpX_step (fun K hK => ?_)
      go_simp
      refine StepY.any (by rw [HSP2.out]; rfl) ?_ ?_
      · intro wz hz hF
        obtain ⟨wa, ea, A1, n1, c1', B1, k1', d1, hv1, hw1⟩ := hF.any 1 (by kernel_rfl) (by rw [HSP2.out]; rfl)
        clear hF
        simp only [asFun, List.nil_append, List.cons_append, List.getD_cons_succ, List.getD_cons_zero] at hv1
        subst hv1
        go_simp
        refine (HP2.out _ _ _ _ _ _ _ (hw1.ext ea)).mono ?_
        rintro e w2 ⟨A3, n3, c3, A4, n4, c4, rfl, hW1, hW2, hE1⟩
        exact ⟨_, rfl, ⟨A3, n3, c3, A4, n4, c4, rfl, hW1, hW2⟩, hE1⟩
      intro v2
      refine hK _ _ ?_
      clear hK K
      refine wpX_step (fun K hK => ?_)
      go_simp
      refine StepY.det (by rw [HSP2.out]; rfl) ?_ ?_
      · intro wz hz hF
        clear hF
        rw [HSS.out] at hz
        have hf := hz.cells
        simp only [BC, CC, Nat.zero_add, Nat.reduceAdd, and_true] at hf
        go_simp
        exact ⟨rfl, Ext.refl _⟩
      refine hK _ _ ?_
      clear hK K
      refine wpX_step (fun K hK => ?_)
      go_simp
      refine StepY.det (by rw [HSP2.out]; rfl) ?_ ?_
      · intro wz hz hF
        obtain ⟨wa, ea, A1, n1, c1', B1, k1', d1, hv1, hw1⟩ := hF.any 3 (by kernel_rfl) (by rw [HSP2.out]; rfl)
        clear hF
        simp only [asFun, List.nil_append, List.cons_append, List.getD_cons_succ, List.getD_cons_zero] at hv1
        subst hv1
        rw [HSS.out] at hz
        go_simp
        refine (HC2.out _ _ _ _ _ _ _ (hw1.ext ea) ⟨hz.wd 1 rfl, hz.wd 0 rfl⟩).mono ?_
        rintro e w2 ⟨rfl, hE1⟩
        exact ⟨_, rfl, rfl, hE1⟩
      refine hK _ _ ?_
      clear hK K
      refine wpX_nil ?_
      intro w23 hz2 hF
      clear hF
      rw [HSS.out] at hz2
      have hE := hz2.toExt
      clear hz2
      rcases or_.out with ⟨rfl, rfl, rfl⟩ | ⟨rfl, rfl, rfl⟩
      · go_wp2_with fail
        refine (HLV.out _).mono ?_
        rintro e w9 ⟨rfl, hE9⟩
        go_wp2
        go_ret
        exact ⟨by simp, hE.trans hE9⟩
      · have q1 : ((LO : Int) == (LO : Int) + 1) = false := by rw [beq_eq_false_iff_ne]; omega
        go_wp2_with fail
        refine (HLV.out _).mono ?_
        rintro e w9 ⟨rfl, hE9⟩
        go_wp2
        go_ret
        exact ⟨by simp, hE.trans hE9⟩
    · have hn0 : ¬ n < 1 := by omega
      have HSL2 := Lib.hid (HSL.out rfl)
      have HSH2 := Lib.hid (HSH.out rfl)
      rw [show ((2 : Nat) : Int) = 2 from rfl] at HRL HRH HP1 HP2
      go_enter Try.func5, Try.ntmps5
      go_wp2_with (first | (go_at_call 16; ((with_reducible refine (HFI.out _).mono ?_); rintro e w' ⟨rfl, rfl⟩)) | (go_at_call 16; ((with_reducible refine (HFL.out _).mono ?_); rintro e w' ⟨rfl, rfl⟩)) | (go_at_call 16; ((with_reducible refine (HFH.out _).mono ?_); rintro e w' ⟨rfl, rfl⟩)))
      rw [hyc]
      refine (HFY.out _).mono ?_
      rintro e w1 ⟨A1, n1', c1', A2, n2', c2', rfl, hW1, hW2, hE1⟩
      have hO := (((Own.start w).ext hE1).add hW1).add hW2
      clear hW1 hW2 hE1
      go_wp2_with (first | (refine own_alloc hO zero_rat rfl rfl ?_; clear hO; intro g wa hO) | (refine own_store hO 0 rfl rfl rfl size_rat rfl rfl rfl ?_; clear hO; intro wb hO) | (go_at_call 12; refine (fl_any _ _).mono ?_; rintro e w' ⟨rfl, rfl⟩))
      refine (HRL.out _).mono ?_
      rintro e w2 ⟨r, rfl, hr, hc, hE⟩
      have hO' := hO.ext hE
      clear hO hE
      go_wp2_with fail
      refine (HLB.out r _ hr).mono ?_
      rintro e w' ⟨rfl, rfl⟩
      rw [hc]
      clear hc hr
      have hO := hO'
      clear hO'
      go_wp2_with (go_at_call 12; refine (fl_any _ _).mono ?_; rintro e w' ⟨rfl, rfl⟩)
      refine (HRH.out _).mono ?_
      rintro e w3 ⟨r, rfl, hr, hc, hE⟩
      have hO' := hO.ext hE
      clear hO hE
      go_wp2_with fail
      refine (HLB.out r _ hr).mono ?_
      rintro e w' ⟨rfl, rfl⟩
      rw [hc]
      clear hc hr
      have hO := hO'
      clear hO'
      go_wp2_with (go_at_call 12; refine (fl_any _ _).mono ?_; rintro e w' ⟨rfl, rfl⟩)
      refine (HSL2.out _).mono ?_
      rintro e w4 ⟨r, rfl, hr, hc, hE⟩
      have hO' := hO.ext hE
      clear hO hE
      go_wp2_with fail
      refine (HLB.out r _ hr).mono ?_
      rintro e w' ⟨rfl, rfl⟩
      rw [hc]
      clear hc hr
      have hO := hO'
      clear hO'
      go_wp2_with (go_at_call 12; refine (fl_any _ _).mono ?_; rintro e w' ⟨rfl, rfl⟩)
      refine (HSH2.out _).mono ?_
      rintro e w5 ⟨r, rfl, hr, hc, hE⟩
      have hO' := hO.ext hE
      clear hO hE
      go_wp2_with fail
      refine (HLB.out r _ hr).mono ?_
      rintro e w' ⟨rfl, rfl⟩
      rw [hc]
      clear hc hr
      have hO := hO'
      clear hO'
      go_wp2_with (first | (go_at_call 16; ((with_reducible refine (HFI.out _).mono ?_); rintro e w' ⟨rfl, rfl⟩)) | (go_at_call 16; ((with_reducible refine (HFL.out _).mono ?_); rintro e w' ⟨rfl, rfl⟩)) | (go_at_call 16; ((with_reducible refine (HFH.out _).mono ?_); rintro e w' ⟨rfl, rfl⟩)))
      obtain ⟨SS, hSS⟩ : ∃ SS : World → Prop, SS = Own w [⟨g, 35, [.bool false, .slice A1 n1' c1', .slice A2 n2' c2']⟩] [⟨A2, n2', c2', nd (fbD y)⟩, ⟨A1, n1', c1', nd (fbN y)⟩] := ⟨_, rfl⟩
      have HSE : Hid (∀ w w', SS w → Ext w w' → SS w') := Lib.hid (fun w w' h1 h2 => by rw [hSS] at h1 ⊢; exact h1.ext h2)
      have hS1 : SS _ := (by rw [hSS]; exact hO.ext (Ext.refl _).drew)
      have HSS := Lib.hid hSS
      clear hSS hO
      obtain ⟨sp1, hsp⟩ : ∃ sp : Nat → Sp, sp = ofList [det (.int .u64 (LO : Int)), anyOf (fun v wz => ∃ A1 n1 c1 A2 n2 c2, v = .agg #[.bool false, .slice A1 n1 c1, .slice A2 n2 c2] ∧ RatAt wz A1 n1 c1 A2 n2 c2 (fbN LO) (fbD LO)), det (.int .i64 2),
        anyOf (fun v wz => ∃ A1 n1 c1 A2 n2 c2, v = .agg #[.bool false, .slice A1 n1 c1, .slice A2 n2 c2] ∧ RatAt wz A1 n1 c1 A2 n2 c2 (fracN (fbN LO ^ 2) (fbD LO ^ 2) 0) (fracD (fbN LO ^ 2) (fbD LO ^ 2) 0)), det (.agg #[.bool false, .slice A1 n1' c1', .slice A2 n2' c2']), det (.int .i64 c1)] := ⟨_, rfl⟩
      have HSP1 := Lib.hid hsp
      clear hsp
      refine wp_region_loose 6 SS sp1 (by kernel_rfl) (by kernel_rfl) hS1 HSE.out ?_
      simp only [List.take_succ_cons, List.take_zero, List.drop_succ_cons, List.drop_zero]
      refine wpX_step (fun K hK => ?_)
      go_simp
      refine StepY.det (by rw [HSP1.out]; rfl) ?_ ?_
      · intro wz hz hF
        clear hF
        go_simp
        exact ⟨rfl, Ext.refl _⟩
      refine hK _ _ ?_
      clear hK K
      refine wpX_step (fun K hK => ?_)
      go_simp
      refine StepY.any (by rw [HSP1.out]; rfl) ?_ ?_
      · intro wz hz hF
        clear hF
        go_simp
        refine (HF1.out _).mono ?_
        rintro e w2 ⟨A3, n3, c3, A4, n4, c4, rfl, hW1, hW2, hE1⟩
        exact ⟨_, rfl, ⟨A3, n3, c3, A4, n4, c4, rfl, hW1, hW2⟩, hE1⟩
      intro v1
      refine hK _ _ ?_
      clear hK K
      refine wpX_step (fun K hK => ?_)
      go_simp
      refine StepY.det (by rw [HSP1.out]; rfl) ?_ ?_
      · intro wz hz hF
        clear hF
        go_simp
        exact ⟨rfl, Ext.refl _⟩
      refine hK _ _ ?_
      clear hK K
      refine wpX_step (fun K hK => ?_)
      go_simp
      refine StepY.any (by rw [HSP1.out]; rfl) ?_ ?_
      · intro wz hz hF
        obtain ⟨wa, ea, A1, n1, c1', B1, k1', d1, hv1, hw1⟩ := hF.any 1 (by kernel_rfl) (by rw [HSP1.out]; rfl)
        clear hF
        simp only [asFun, List.nil_append, List.cons_append, List.getD_cons_succ, List.getD_cons_zero] at hv1
        subst hv1
        go_simp
        refine (HP1.out _ _ _ _ _ _ _ (hw1.ext ea)).mono ?_
        rintro e w2 ⟨A3, n3, c3, A4, n4, c4, rfl, hW1, hW2, hE1⟩
        exact ⟨_, rfl, ⟨A3, n3, c3, A4, n4, c4, rfl, hW1, hW2⟩, hE1⟩
      intro v2
      refine hK _ _ ?_
      clear hK K
      refine wpX_step (fun K hK => ?_)
      go_simp
      refine StepY.det (by rw [HSP1.out]; rfl) ?_ ?_
      · intro wz hz hF
        clear hF
        rw [HSS.out] at hz
        have hf := hz.cells
        simp only [BC, CC, Nat.zero_add, Nat.reduceAdd, and_true] at hf
        go_simp
        exact ⟨rfl, Ext.refl _⟩
      refine hK _ _ ?_
      clear hK K
      refine wpX_step (fun K hK => ?_)
      go_simp
      refine StepY.det (by rw [HSP1.out]; rfl) ?_ ?_
      · intro wz hz hF
        obtain ⟨wa, ea, A1, n1, c1', B1, k1', d1, hv1, hw1⟩ := hF.any 3 (by kernel_rfl) (by rw [HSP1.out]; rfl)
        clear hF
        simp only [asFun, List.nil_append, List.cons_append, List.getD_cons_succ, List.getD_cons_zero] at hv1
        subst hv1
        rw [HSS.out] at hz
        go_simp
        refine (HC1.out _ _ _ _ _ _ _ (hw1.ext ea) ⟨hz.wd 1 rfl, hz.wd 0 rfl⟩).mono ?_
        rintro e w2 ⟨rfl, hE1⟩
        exact ⟨_, rfl, rfl, hE1⟩
      refine hK _ _ ?_
      clear hK K
      refine wpX_nil ?_
      intro w13 hz1 hF
      clear hF
      go_wp2_with fail
      have hS2 := HSE.out _ _ hz1 (Ext.refl _).drew
      clear hz1
      obtain ⟨sp2, hsp⟩ : ∃ sp : Nat → Sp, sp = ofList [det (.int .u64 (HI : Int)), anyOf (fun v wz => ∃ A1 n1 c1 A2 n2 c2, v = .agg #[.bool false, .slice A1 n1 c1, .slice A2 n2 c2] ∧ RatAt wz A1 n1 c1 A2 n2 c2 (fbN HI) (fbD HI)), det (.int .i64 2),
        anyOf (fun v wz => ∃ A1 n1 c1 A2 n2 c2, v = .agg #[.bool false, .slice A1 n1 c1, .slice A2 n2 c2] ∧ RatAt wz A1 n1 c1 A2 n2 c2 (fracN (fbN HI ^ 2) (fbD HI ^ 2) 0) (fracD (fbN HI ^ 2) (fbD HI ^ 2) 0)), det (.agg #[.bool false, .slice A1 n1' c1', .slice A2 n2' c2']), det (.int .i64 c2)] := ⟨_, rfl⟩
      have HSP2 := Lib.hid hsp
      clear hsp
      refine wp_region_loose 6 SS sp2 (by kernel_rfl) (by kernel_rfl) hS2 HSE.out ?_
      simp only [List.take_succ_cons, List.take_zero, List.drop_succ_cons, List.drop_zero]
      refine wpX_step (fun K hK => ?_)
      go_simp
      refine StepY.det (by rw [HSP2.out]; rfl) ?_ ?_
      · intro wz hz hF
        clear hF
        go_simp
        exact ⟨rfl, Ext.refl _⟩
      refine hK _ _ ?_
      clear hK K
      refine wpX_step (fun K hK => ?_)
      go_simp
      refine StepY.any (by rw [HSP2.out]; rfl) ?_ ?_
      · intro wz hz hF
        clear hF
        go_simp
        refine (HF2.out _).mono ?_
        rintro e w2 ⟨A3, n3, c3, A4, n4, c4, rfl, hW1, hW2, hE1⟩
        exact ⟨_, rfl, ⟨A3, n3, c3, A4, n4, c4, rfl, hW1, hW2⟩, hE1⟩
      intro v1
      refine hK _ _ ?_
      clear hK K
      refine wpX_step (fun K hK => ?_)
      go_simp
      refine StepY.det (by rw [HSP2.out]; rfl) ?_ ?_
      · intro wz hz hF
        clear hF
        go_simp
        exact ⟨rfl, Ext.refl _⟩
      refine hK _ _ ?_
      clear hK K
      refine wpX_step (fun K hK => ?_)
      go_simp
      refine StepY.any (by rw [HSP2.out]; rfl) ?_ ?_
      · intro wz hz hF
        obtain ⟨wa, ea, A1, n1, c1', B1, k1', d1, hv1, hw1⟩ := hF.any 1 (by kernel_rfl) (by rw [HSP2.out]; rfl)
        clear hF
        simp only [asFun, List.nil_append, List.cons_append, List.getD_cons_succ, List.getD_cons_zero] at hv1
        subst hv1
        go_simp
        refine (HP2.out _ _ _ _ _ _ _ (hw1.ext ea)).mono ?_
        rintro e w2 ⟨A3, n3, c3, A4, n4, c4, rfl, hW1, hW2, hE1⟩
        exact ⟨_, rfl, ⟨A3, n3, c3, A4, n4, c4, rfl, hW1, hW2⟩, hE1⟩
      intro v2
      refine hK _ _ ?_
      clear hK K
      refine wpX_step (fun K hK => ?_)
      go_simp
      refine StepY.det (by rw [HSP2.out]; rfl) ?_ ?_
      · intro wz hz hF
        clear hF
        rw [HSS.out] at hz
        have hf := hz.cells
        simp only [BC, CC, Nat.zero_add, Nat.reduceAdd, and_true] at hf
        go_simp
        exact ⟨rfl, Ext.refl _⟩
      refine hK _ _ ?_
      clear hK K
      refine wpX_step (fun K hK => ?_)
      go_simp
      refine StepY.det (by rw [HSP2.out]; rfl) ?_ ?_
      · intro wz hz hF
        obtain ⟨wa, ea, A1, n1, c1', B1, k1', d1, hv1, hw1⟩ := hF.any 3 (by kernel_rfl) (by rw [HSP2.out]; rfl)
        clear hF
        simp only [asFun, List.nil_append, List.cons_append, List.getD_cons_succ, List.getD_cons_zero] at hv1
        subst hv1
        rw [HSS.out] at hz
        go_simp
        refine (HC2.out _ _ _ _ _ _ _ (hw1.ext ea) ⟨hz.wd 1 rfl, hz.wd 0 rfl⟩).mono ?_
        rintro e w2 ⟨rfl, hE1⟩
        exact ⟨_, rfl, rfl, hE1⟩
      refine hK _ _ ?_
      clear hK K
      refine wpX_nil ?_
      intro w23 hz2 hF
      clear hF
      rw [HSS.out] at hz2
      have hE := hz2.toExt
      clear hz2
      rcases or_.out with ⟨rfl, rfl, rfl⟩ | ⟨rfl, rfl, rfl⟩
      · go_wp2_with fail
        refine (HLV.out _).mono ?_
        rintro e w9 ⟨rfl, hE9⟩
        go_wp2
        go_ret
        exact ⟨by simp, hE.trans hE9⟩
      · have q1 : ((LO : Int) == (LO : Int) + 1) = false := by rw [beq_eq_false_iff_ne]; omega
        go_wp2_with fail
        refine (HLV.out _).mono ?_
        rintro e w9 ⟨rfl, hE9⟩
        go_wp2
        go_ret
        exact ⟨by simp, hE.trans hE9⟩
    · by_cases hk2 : k = 2
      · subst hk2
        have HSL2 := Lib.hid (HSL.out rfl)
        have HSH2 := Lib.hid (HSH.out rfl)
        rw [show ((2 : Nat) : Int) = 2 from rfl] at hn1 hn2 HRL HRH HP1 HP2 ⊢
        go_enter Try.func5, Try.ntmps5
        go_wp2_with (first | (go_at_call 16; ((with_reducible refine (HFI.out _).mono ?_); rintro e w' ⟨rfl, rfl⟩)) | (go_at_call 16; ((with_reducible refine (HFL.out _).mono ?_); rintro e w' ⟨rfl, rfl⟩)) | (go_at_call 16; ((with_reducible refine (HFH.out _).mono ?_); rintro e w' ⟨rfl, rfl⟩)))
        rw [hyc]
        refine (HFY.out _).mono ?_
        rintro e w1 ⟨A1, n1', c1', A2, n2', c2', rfl, hW1, hW2, hE1⟩
        have hO := (((Own.start w).ext hE1).add hW1).add hW2
        clear hW1 hW2 hE1
        go_wp2_with (first | (refine own_alloc hO zero_rat rfl rfl ?_; clear hO; intro g wa hO) | (refine own_store hO 0 rfl rfl rfl size_rat rfl rfl rfl ?_; clear hO; intro wb hO) | (go_at_call 12; refine (fl_any _ _).mono ?_; rintro e w' ⟨rfl, rfl⟩))
        refine (HRL.out _).mono ?_
        rintro e w2 ⟨r, rfl, hr, hc, hE⟩
        have hO' := hO.ext hE
        clear hO hE
        go_wp2_with fail
        refine (HLB.out r _ hr).mono ?_
        rintro e w' ⟨rfl, rfl⟩
        rw [hc]
        clear hc hr
        have hO := hO'
        clear hO'
        go_wp2_with (go_at_call 12; refine (fl_any _ _).mono ?_; rintro e w' ⟨rfl, rfl⟩)
        refine (HRH.out _).mono ?_
        rintro e w3 ⟨r, rfl, hr, hc, hE⟩
        have hO' := hO.ext hE
        clear hO hE
        go_wp2_with fail
        refine (HLB.out r _ hr).mono ?_
        rintro e w' ⟨rfl, rfl⟩
        rw [hc]
        clear hc hr
        have hO := hO'
        clear hO'
        go_wp2_with (go_at_call 12; refine (fl_any _ _).mono ?_; rintro e w' ⟨rfl, rfl⟩)
        refine (HSL2.out _).mono ?_
        rintro e w4 ⟨r, rfl, hr, hc, hE⟩
        have hO' := hO.ext hE
        clear hO hE
        go_wp2_with fail
        refine (HLB.out r _ hr).mono ?_
        rintro e w' ⟨rfl, rfl⟩
        rw [hc]
        clear hc hr
        have hO := hO'
        clear hO'
        go_wp2_with (go_at_call 12; refine (fl_any _ _).mono ?_; rintro e w' ⟨rfl, rfl⟩)
        refine (HSH2.out _).mono ?_
        rintro e w5 ⟨r, rfl, hr, hc, hE⟩
        have hO' := hO.ext hE
        clear hO hE
        go_wp2_with fail
        refine (HLB.out r _ hr).mono ?_
        rintro e w' ⟨rfl, rfl⟩
        rw [hc]
        clear hc hr
        have hO := hO'
        clear hO'
        go_wp2_with (first | (go_at_call 16; ((with_reducible refine (HFI.out _).mono ?_); rintro e w' ⟨rfl, rfl⟩)) | (go_at_call 16; ((with_reducible refine (HFL.out _).mono ?_); rintro e w' ⟨rfl, rfl⟩)) | (go_at_call 16; ((with_reducible refine (HFH.out _).mono ?_); rintro e w' ⟨rfl, rfl⟩)))
        obtain ⟨SS, hSS⟩ : ∃ SS : World → Prop, SS = Own w [⟨g, 35, [.bool false, .slice A1 n1' c1', .slice A2 n2' c2']⟩] [⟨A2, n2', c2', nd (fbD y)⟩, ⟨A1, n1', c1', nd (fbN y)⟩] := ⟨_, rfl⟩
        have HSE : Hid (∀ w w', SS w → Ext w w' → SS w') := Lib.hid (fun w w' h1 h2 => by rw [hSS] at h1 ⊢; exact h1.ext h2)
        have hS1 : SS _ := (by rw [hSS]; exact hO.ext (Ext.refl _).drew)
        have HSS := Lib.hid hSS
        clear hSS hO
        obtain ⟨sp1, hsp⟩ : ∃ sp : Nat → Sp, sp = ofList [det (.int .u64 (LO : Int)), anyOf (fun v wz => ∃ A1 n1 c1 A2 n2 c2, v = .agg #[.bool false, .slice A1 n1 c1, .slice A2 n2 c2] ∧ RatAt wz A1 n1 c1 A2 n2 c2 (fbN LO) (fbD LO)), det (.int .i64 2),
          anyOf (fun v wz => ∃ A1 n1 c1 A2 n2 c2, v = .agg #[.bool false, .slice A1 n1 c1, .slice A2 n2 c2] ∧ RatAt wz A1 n1 c1 A2 n2 c2 (fracN (fbN LO ^ 2) (fbD LO ^ 2) 0) (fracD (fbN LO ^ 2) (fbD LO ^ 2) 0)), det (.agg #[.bool false, .slice A1 n1' c1', .slice A2 n2' c2']), det (.int .i64 c1)] := ⟨_, rfl⟩
        have HSP1 := Lib.hid hsp
        clear hsp
        refine wp_region_loose 6 SS sp1 (by kernel_rfl) (by kernel_rfl) hS1 HSE.out ?_
        simp only [List.take_succ_cons, List.take_zero, List.drop_succ_cons, List.drop_zero]
        refine wpX_step (fun K hK => ?_)
        go_simp
        refine StepY.det (by rw [HSP1.out]; rfl) ?_ ?_
        · intro wz hz hF
          clear hF
          go_simp
          exact ⟨rfl, Ext.refl _⟩
        refine hK _ _ ?_
        clear hK K
        refine wpX_step (fun K hK => ?_)
        go_simp
        refine StepY.any (by rw [HSP1.out]; rfl) ?_ ?_
        · intro wz hz hF
          clear hF
          go_simp
          refine (HF1.out _).mono ?_
          rintro e w2 ⟨A3, n3, c3, A4, n4, c4, rfl, hW1, hW2, hE1⟩
          exact ⟨_, rfl, ⟨A3, n3, c3, A4, n4, c4, rfl, hW1, hW2⟩, hE1⟩
        intro v1
        refine hK _ _ ?_
        clear hK K
        refine wpX_step (fun K hK => ?_)
        go_simp
        refine StepY.det (by rw [HSP1.out]; rfl) ?_ ?_
        · intro wz hz hF
          clear hF
          go_simp
          exact ⟨rfl, Ext.refl _⟩
        refine hK _ _ ?_
        clear hK K
        refine wpX_step (fun K hK => ?_)
        go_simp
        refine StepY.any (by rw [HSP1.out]; rfl) ?_ ?_
        · intro wz hz hF
          obtain ⟨wa, ea, A1, n1, c1', B1, k1', d1, hv1, hw1⟩ := hF.any 1 (by kernel_rfl) (by rw [HSP1.out]; rfl)
          clear hF
          simp only [asFun, List.nil_append, List.cons_append, List.getD_cons_succ, List.getD_cons_zero] at hv1
          subst hv1
          go_simp
          refine (HP1.out _ _ _ _ _ _ _ (hw1.ext ea)).mono ?_
          rintro e w2 ⟨A3, n3, c3, A4, n4, c4, rfl, hW1, hW2, hE1⟩
          exact ⟨_, rfl, ⟨A3, n3, c3, A4, n4, c4, rfl, hW1, hW2⟩, hE1⟩
        intro v2
        refine hK _ _ ?_
        clear hK K
        refine wpX_step (fun K hK => ?_)
        go_simp
        refine StepY.det (by rw [HSP1.out]; rfl) ?_ ?_
        · intro wz hz hF
          clear hF
          rw [HSS.out] at hz
          have hf := hz.cells
          simp only [BC, CC, Nat.zero_add, Nat.reduceAdd, and_true] at hf
          go_simp
          exact ⟨rfl, Ext.refl _⟩
        refine hK _ _ ?_
        clear hK K
        refine wpX_step (fun K hK => ?_)
        go_simp
        refine StepY.det (by rw [HSP1.out]; rfl) ?_ ?_
        · intro wz hz hF
          obtain ⟨wa, ea, A1, n1, c1', B1, k1', d1, hv1, hw1⟩ := hF.any 3 (by kernel_rfl) (by rw [HSP1.out]; rfl)
          clear hF
          simp only [asFun, List.nil_append, List.cons_append, List.getD_cons_succ, List.getD_cons_zero] at hv1
          subst hv1
          rw [HSS.out] at hz
          go_simp
          refine (HC1.out _ _ _ _ _ _ _ (hw1.ext ea) ⟨hz.wd 1 rfl, hz.wd 0 rfl⟩).mono ?_
          rintro e w2 ⟨rfl, hE1⟩
          exact ⟨_, rfl, rfl, hE1⟩
        refine hK _ _ ?_
        clear hK K
        refine wpX_nil ?_
        intro w13 hz1 hF
        clear hF
        go_wp2_with fail
        have hS2 := HSE.out _ _ hz1 (Ext.refl _).drew
        clear hz1
        obtain ⟨sp2, hsp⟩ : ∃ sp : Nat → Sp, sp = ofList [det (.int .u64 (HI : Int)), anyOf (fun v wz => ∃ A1 n1 c1 A2 n2 c2, v = .agg #[.bool false, .slice A1 n1 c1, .slice A2 n2 c2] ∧ RatAt wz A1 n1 c1 A2 n2 c2 (fbN HI) (fbD HI)), det (.int .i64 2),
          anyOf (fun v wz => ∃ A1 n1 c1 A2 n2 c2, v = .agg #[.bool false, .slice A1 n1 c1, .slice A2 n2 c2] ∧ RatAt wz A1 n1 c1 A2 n2 c2 (fracN (fbN HI ^ 2) (fbD HI ^ 2) 0) (fracD (fbN HI ^ 2) (fbD HI ^ 2) 0)), det (.agg #[.bool false, .slice A1 n1' c1', .slice A2 n2' c2']), det (.int .i64 c2)] := ⟨_, rfl⟩
        have HSP2 := Lib.hid hsp
        clear hsp
        refine wp_region_loose 6 SS sp2 (by kernel_rfl) (by kernel_rfl) hS2 HSE.out ?_
        simp only [List.take_succ_cons, List.take_zero, List.drop_succ_cons, List.drop_zero]
        refine wpX_step (fun K hK => ?_)
        go_simp
        refine StepY.det (by rw [HSP2.out]; rfl) ?_ ?_
        · intro wz hz hF
          clear hF
          go_simp
          exact ⟨rfl, Ext.refl _⟩
        refine hK _ _ ?_
        clear hK K
        refine wpX_step (fun K hK => ?_)
        go_simp
        refine StepY.any (by rw [HSP2.out]; rfl) ?_ ?_
        · intro wz hz hF
          clear hF
          go_simp
          refine (HF2.out _).mono ?_
          rintro e w2 ⟨A3, n3, c3, A4, n4, c4, rfl, hW1, hW2, hE1⟩
          exact ⟨_, rfl, ⟨A3, n3, c3, A4, n4, c4, rfl, hW1, hW2⟩, hE1⟩
        intro v1
        refine hK _ _ ?_
        clear hK K
        refine wpX_step (fun K hK => ?_)
        go_simp
        refine StepY.det (by rw [HSP2.out]; rfl) ?_ ?_
        · intro wz hz hF
          clear hF
          go_simp
          exact ⟨rfl, Ext.refl _⟩
        refine hK _ _ ?_
        clear hK K
        refine wpX_step (fun K hK => ?_)
        go_simp
        refine StepY.any (by rw [HSP2.out]; rfl) ?_ ?_
        · intro wz hz hF
          obtain ⟨wa, ea, A1, n1, c1', B1, k1', d1, hv1, hw1⟩ := hF.any 1 (by kernel_rfl) (by rw [HSP2.out]; rfl)
          clear hF
          simp only [asFun, List.nil_append, List.cons_append, List.getD_cons_succ, List.getD_cons_zero] at hv1
          subst hv1
          go_simp
          refine (HP2.out _ _ _ _ _ _ _ (hw1.ext ea)).mono ?_
          rintro e w2 ⟨A3, n3, c3, A4, n4, c4, rfl, hW1, hW2, hE1⟩
          exact ⟨_, rfl, ⟨A3, n3, c3, A4, n4, c4, rfl, hW1, hW2⟩, hE1⟩
        intro v2
        refine hK _ _ ?_
        clear hK K
        refine wpX_step (fun K hK => ?_)
        go_simp
        refine StepY.det (by rw [HSP2.out]; rfl) ?_ ?_
        · intro wz hz hF
          clear hF
          rw [HSS.out] at hz
          have hf := hz.cells
          simp only [BC, CC, Nat.zero_add, Nat.reduceAdd, and_true] at hf
          go_simp
          exact ⟨rfl, Ext.refl _⟩
        refine hK _ _ ?_
        clear hK K
        refine wpX_step (fun K hK => ?_)
        go_simp
        refine StepY.det (by rw [HSP2.out]; rfl) ?_ ?_
        · intro wz hz hF
          obtain ⟨wa, ea, A1, n1, c1', B1, k1', d1, hv1, hw1⟩ := hF.any 3 (by kernel_rfl) (by rw [HSP2.out]; rfl)
          clear hF
          simp only [asFun, List.nil_append, List.cons_append, List.getD_cons_succ, List.getD_cons_zero] at hv1
          subst hv1
          rw [HSS.out] at hz
          go_simp
          refine (HC2.out _ _ _ _ _ _ _ (hw1.ext ea) ⟨hz.wd 1 rfl, hz.wd 0 rfl⟩).mono ?_
          rintro e w2 ⟨rfl, hE1⟩
          exact ⟨_, rfl, rfl, hE1⟩
        refine hK _ _ ?_
        clear hK K
        refine wpX_nil ?_
        intro w23 hz2 hF
        clear hF
        rw [HSS.out] at hz2
        have hE := hz2.toExt
        clear hz2
        rcases or_.out with ⟨rfl, rfl, rfl⟩ | ⟨rfl, rfl, rfl⟩
        · go_wp2_with fail
          refine (HLV.out _).mono ?_
          rintro e w9 ⟨rfl, hE9⟩
          go_wp2
          go_ret
          exact ⟨by simp, hE.trans hE9⟩
        · have q1 : ((LO : Int) == (LO : Int) + 1) = false := by rw [beq_eq_false_iff_ne]; omega
          go_wp2_with fail
          refine (HLV.out _).mono ?_
          rintro e w9 ⟨rfl, hE9⟩
          go_wp2
          go_ret
          exact ⟨by simp, hE.trans hE9⟩
      · have hk2' : ((k : Int) == 2) = false := by rw [beq_eq_false_iff_ne]; omega
        clear hk2
        go_enter Try.func5, Try.ntmps5
        go_wp2_with (first | (go_at_call 16; ((with_reducible refine (HFI.out _).mono ?_); rintro e w' ⟨rfl, rfl⟩)) | (go_at_call 16; ((with_reducible refine (HFL.out _).mono ?_); rintro e w' ⟨rfl, rfl⟩)) | (go_at_call 16; ((with_reducible refine (HFH.out _).mono ?_); rintro e w' ⟨rfl, rfl⟩)))
        rw [hyc]
        refine (HFY.out _).mono ?_
        rintro e w1 ⟨A1, n1', c1', A2, n2', c2', rfl, hW1, hW2, hE1⟩
        have hO := (((Own.start w).ext hE1).add hW1).add hW2
        clear hW1 hW2 hE1
        go_wp2_with (first | (refine own_alloc hO zero_rat rfl rfl ?_; clear hO; intro g wa hO) | (refine own_store hO 0 rfl rfl rfl size_rat rfl rfl rfl ?_; clear hO; intro wb hO) | (go_at_call 12; refine (fl_any _ _).mono ?_; rintro e w' ⟨rfl, rfl⟩))
        refine (HRL.out _).mono ?_
        rintro e w2 ⟨r, rfl, hr, hc, hE⟩
        have hO' := hO.ext hE
        clear hO hE
        go_wp2_with fail
        refine (HLB.out r _ hr).mono ?_
        rintro e w' ⟨rfl, rfl⟩
        rw [hc]
        clear hc hr
        have hO := hO'
        clear hO'
        go_wp2_with (go_at_call 12; refine (fl_any _ _).mono ?_; rintro e w' ⟨rfl, rfl⟩)
        refine (HRH.out _).mono ?_
        rintro e w3 ⟨r, rfl, hr, hc, hE⟩
        have hO' := hO.ext hE
        clear hO hE
        go_wp2_with fail
        refine (HLB.out r _ hr).mono ?_
        rintro e w' ⟨rfl, rfl⟩
        rw [hc]
        clear hc hr
        have hO := hO'
        clear hO'
        go_wp2_with (first | (go_at_call 16; ((with_reducible refine (HFI.out _).mono ?_); rintro e w' ⟨rfl, rfl⟩)) | (go_at_call 16; ((with_reducible refine (HFL.out _).mono ?_); rintro e w' ⟨rfl, rfl⟩)) | (go_at_call 16; ((with_reducible refine (HFH.out _).mono ?_); rintro e w' ⟨rfl, rfl⟩)))
        obtain ⟨SS, hSS⟩ : ∃ SS : World → Prop, SS = Own w [⟨g, 35, [.bool false, .slice A1 n1' c1', .slice A2 n2' c2']⟩] [⟨A2, n2', c2', nd (fbD y)⟩, ⟨A1, n1', c1', nd (fbN y)⟩] := ⟨_, rfl⟩
        have HSE : Hid (∀ w w', SS w → Ext w w' → SS w') := Lib.hid (fun w w' h1 h2 => by rw [hSS] at h1 ⊢; exact h1.ext h2)
        have hS1 : SS _ := (by rw [hSS]; exact hO.ext (Ext.refl _).drew)
        have HSS := Lib.hid hSS
        clear hSS hO
        obtain ⟨sp1, hsp⟩ : ∃ sp : Nat → Sp, sp = ofList [det (.int .u64 (LO : Int)), anyOf (fun v wz => ∃ A1 n1 c1 A2 n2 c2, v = .agg #[.bool false, .slice A1 n1 c1, .slice A2 n2 c2] ∧ RatAt wz A1 n1 c1 A2 n2 c2 (fbN LO) (fbD LO)), det (.int .i64 (k : Int)),
          anyOf (fun v wz => ∃ A1 n1 c1 A2 n2 c2, v = .agg #[.bool false, .slice A1 n1 c1, .slice A2 n2 c2] ∧ RatAt wz A1 n1 c1 A2 n2 c2 (fracN (fbN LO ^ k) (fbD LO ^ k) 0) (fracD (fbN LO ^ k) (fbD LO ^ k) 0)), det (.agg #[.bool false, .slice A1 n1' c1', .slice A2 n2' c2']), det (.int .i64 c1)] := ⟨_, rfl⟩
        have HSP1 := Lib.hid hsp
        clear hsp
        refine wp_region_loose 6 SS sp1 (by kernel_rfl) (by kernel_rfl) hS1 HSE.out ?_
        simp only [List.take_succ_cons, List.take_zero, List.drop_succ_cons, List.drop_zero]
        refine wpX_step (fun K hK => ?_)
        go_simp
        refine StepY.det (by rw [HSP1.out]; rfl) ?_ ?_
        · intro wz hz hF
          clear hF
          go_simp
          exact ⟨rfl, Ext.refl _⟩
        refine hK _ _ ?_
        clear hK K
        refine wpX_step (fun K hK => ?_)
        go_simp
        refine StepY.any (by rw [HSP1.out]; rfl) ?_ ?_
        · intro wz hz hF
          clear hF
          go_simp
          refine (HF1.out _).mono ?_
          rintro e w2 ⟨A3, n3, c3, A4, n4, c4, rfl, hW1, hW2, hE1⟩
          exact ⟨_, rfl, ⟨A3, n3, c3, A4, n4, c4, rfl, hW1, hW2⟩, hE1⟩
        intro v1
        refine hK _ _ ?_
        clear hK K
        refine wpX_step (fun K hK => ?_)
        go_simp
        refine StepY.det (by rw [HSP1.out]; rfl) ?_ ?_
        · intro wz hz hF
          clear hF
          go_simp
          exact ⟨rfl, Ext.refl _⟩
        refine hK _ _ ?_
        clear hK K
        refine wpX_step (fun K hK => ?_)
        go_simp
        refine StepY.any (by rw [HSP1.out]; rfl) ?_ ?_
        · intro wz hz hF
          obtain ⟨wa, ea, A1, n1, c1', B1, k1', d1, hv1, hw1⟩ := hF.any 1 (by kernel_rfl) (by rw [HSP1.out]; rfl)
          clear hF
          simp only [asFun, List.nil_append, List.cons_append, List.getD_cons_succ, List.getD_cons_zero] at hv1
          subst hv1
          go_simp
          refine (HP1.out _ _ _ _ _ _ _ (hw1.ext ea)).mono ?_
          rintro e w2 ⟨A3, n3, c3, A4, n4, c4, rfl, hW1, hW2, hE1⟩
          exact ⟨_, rfl, ⟨A3, n3, c3, A4, n4, c4, rfl, hW1, hW2⟩, hE1⟩
        intro v2
        refine hK _ _ ?_
        clear hK K
        refine wpX_step (fun K hK => ?_)
        go_simp
        refine StepY.det (by rw [HSP1.out]; rfl) ?_ ?_
        · intro wz hz hF
          clear hF
          rw [HSS.out] at hz
          have hf := hz.cells
          simp only [BC, CC, Nat.zero_add, Nat.reduceAdd, and_true] at hf
          go_simp
          exact ⟨rfl, Ext.refl _⟩
        refine hK _ _ ?_
        clear hK K
        refine wpX_step (fun K hK => ?_)
        go_simp
        refine StepY.det (by rw [HSP1.out]; rfl) ?_ ?_
        · intro wz hz hF
          obtain ⟨wa, ea, A1, n1, c1', B1, k1', d1, hv1, hw1⟩ := hF.any 3 (by kernel_rfl) (by rw [HSP1.out]; rfl)
          clear hF
          simp only [asFun, List.nil_append, List.cons_append, List.getD_cons_succ, List.getD_cons_zero] at hv1
          subst hv1
          rw [HSS.out] at hz
          go_simp
          refine (HC1.out _ _ _ _ _ _ _ (hw1.ext ea) ⟨hz.wd 1 rfl, hz.wd 0 rfl⟩).mono ?_
          rintro e w2 ⟨rfl, hE1⟩
          exact ⟨_, rfl, rfl, hE1⟩
        refine hK _ _ ?_
        clear hK K
        refine wpX_nil ?_
        intro w13 hz1 hF
        clear hF
        go_wp2_with fail
        have hS2 := HSE.out _ _ hz1 (Ext.refl _).drew
        clear hz1
        obtain ⟨sp2, hsp⟩ : ∃ sp : Nat → Sp, sp = ofList [det (.int .u64 (HI : Int)), anyOf (fun v wz => ∃ A1 n1 c1 A2 n2 c2, v = .agg #[.bool false, .slice A1 n1 c1, .slice A2 n2 c2] ∧ RatAt wz A1 n1 c1 A2 n2 c2 (fbN HI) (fbD HI)), det (.int .i64 (k : Int)),
          anyOf (fun v wz => ∃ A1 n1 c1 A2 n2 c2, v = .agg #[.bool false, .slice A1 n1 c1, .slice A2 n2 c2] ∧ RatAt wz A1 n1 c1 A2 n2 c2 (fracN (fbN HI ^ k) (fbD HI ^ k) 0) (fracD (fbN HI ^ k) (fbD HI ^ k) 0)), det (.agg #[.bool false, .slice A1 n1' c1', .slice A2 n2' c2']), det (.int .i64 c2)] := ⟨_, rfl⟩
        have HSP2 := Lib.hid hsp
        clear hsp
        refine wp_region_loose 6 SS sp2 (by kernel_rfl) (by kernel_rfl) hS2 HSE.out ?_
        simp only [List.take_succ_cons, List.take_zero, List.drop_succ_cons, List.drop_zero]
        refine wpX_step (fun K hK => ?_)
        go_simp
        refine StepY.det (by rw [HSP2.out]; rfl) ?_ ?_
        · intro wz hz hF
          clear hF
          go_simp
          exact ⟨rfl, Ext.refl _⟩
        refine hK _ _ ?_
        clear hK K
        refine wpX_step (fun K hK => ?_)
        go_simp
        refine StepY.any (by rw [HSP2.out]; rfl) ?_ ?_
        · intro wz hz hF
          clear hF
          go_simp
          refine (HF2.out _).mono ?_
          rintro e w2 ⟨A3, n3, c3, A4, n4, c4, rfl, hW1, hW2, hE1⟩
          exact ⟨_, rfl, ⟨A3, n3, c3, A4, n4, c4, rfl, hW1, hW2⟩, hE1⟩
        intro v1
        refine hK _ _ ?_
        clear hK K
        refine wpX_step (fun K hK => ?_)
        go_simp
        refine StepY.det (by rw [HSP2.out]; rfl) ?_ ?_
        · intro wz hz hF
          clear hF
          go_simp
          exact ⟨rfl, Ext.refl _⟩
        refine hK _ _ ?_
        clear hK K
        refine wpX_step (fun K hK => ?_)
        go_simp
        refine StepY.any (by rw [HSP2.out]; rfl) ?_ ?_
        · intro wz hz hF
          obtain ⟨wa, ea, A1, n1, c1', B1, k1', d1, hv1, hw1⟩ := hF.any 1 (by kernel_rfl) (by rw [HSP2.out]; rfl)
          clear hF
          simp only [asFun, List.nil_append, List.cons_append, List.getD_cons_succ, List.getD_cons_zero] at hv1
          subst hv1
          go_simp
          refine (HP2.out _ _ _ _ _ _ _ (hw1.ext ea)).mono ?_
          rintro e w2 ⟨A3, n3, c3, A4, n4, c4, rfl, hW1, hW2, hE1⟩
          exact ⟨_, rfl, ⟨A3, n3, c3, A4, n4, c4, rfl, hW1, hW2⟩, hE1⟩
        intro v2
        refine hK _ _ ?_
        clear hK K
        refine wpX_step (fun K hK => ?_)
        go_simp
        refine StepY.det (by rw [HSP2.out]; rfl) ?_ ?_
        · intro wz hz hF
          clear hF
          rw [HSS.out] at hz
          have hf := hz.cells
          simp only [BC, CC, Nat.zero_add, Nat.reduceAdd, and_true] at hf
          go_simp
          exact ⟨rfl, Ext.refl _⟩
        refine hK _ _ ?_
        clear hK K
        refine wpX_step (fun K hK => ?_)
        go_simp
        refine StepY.det (by rw [HSP2.out]; rfl) ?_ ?_
        · intro wz hz hF
          obtain ⟨wa, ea, A1, n1, c1', B1, k1', d1, hv1, hw1⟩ := hF.any 3 (by kernel_rfl) (by rw [HSP2.out]; rfl)
          clear hF
          simp only [asFun, List.nil_append, List.cons_append, List.getD_cons_succ, List.getD_cons_zero] at hv1
          subst hv1
          rw [HSS.out] at hz
          go_simp
          refine (HC2.out _ _ _ _ _ _ _ (hw1.ext ea) ⟨hz.wd 1 rfl, hz.wd 0 rfl⟩).mono ?_
          rintro e w2 ⟨rfl, hE1⟩
          exact ⟨_, rfl, rfl, hE1⟩
        refine hK _ _ ?_
        clear hK K
        refine wpX_nil ?_
        intro w23 hz2 hF
        clear hF
        rw [HSS.out] at hz2
        have hE := hz2.toExt
        clear hz2
        rcases or_.out with ⟨rfl, rfl, rfl⟩ | ⟨rfl, rfl, rfl⟩
        · go_wp2_with fail
          refine (HLV.out _).mono ?_
          rintro e w9 ⟨rfl, hE9⟩
          go_wp2
          go_ret
          exact ⟨by simp, hE.trans hE9⟩
        · have q1 : ((LO : Int) == (LO : Int) + 1) = false := by rw [beq_eq_false_iff_ne]; omega
          go_wp2_with fail
          refine (HLV.out _).mono ?_
          rintro e w9 ⟨rfl, hE9⟩
          go_wp2
          go_ret
          exact ⟨by simp, hE.trans hE9⟩
theorem tightroots_walk (x : Nat) (n : Int) (w : World) (hx : x < 18446744073709551616) :
    Calls Try.prog 5 #[.int .u64 (x : Int), .int .i64 n] w fun e w' => e = .returned (.bool true) ∧ Ext w w' := by
  have hi := infR_val
  have hn : ∃ k : Nat, 1 ≤ k ∧ k ≤ 40 ∧ (((n < 1 ∨ 40 < n) ∧ k = 2) ∨ (¬ n < 1 ∧ ¬ 40 < n ∧ n = (k : Int))) := by
    by_cases h : n < 1 ∨ 40 < n
    · exact ⟨2, by omega, by omega, .inl ⟨h, rfl⟩⟩
    · exact ⟨n.toNat, by omega, by omega, .inr ⟨by omega, by omega, by omega⟩⟩
  obtain ⟨k, k1, k2, hn⟩ := hn
  by_cases h : mg x < infR
  · exact tightroots_tail x n (mg x) k w hx h k1 k2 hn (.inl ⟨h, rfl⟩)
  · exact tightroots_tail x n 4607182418800017408 k w hx (by omega) k1 k2 hn (.inr ⟨h, rfl⟩)
end Go.Proofs.Ytmcfflecaklpcaa
