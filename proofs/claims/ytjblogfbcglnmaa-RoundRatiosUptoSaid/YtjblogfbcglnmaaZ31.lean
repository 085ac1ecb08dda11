/-
  The contracts of the program's Ratio, of small numbers, and of quotient. Conditions: those that each theorem names.
-/
import Derived.Test.YtjblogfbcglnmaaZ28
import Derived.Test.YtjblogfbcglnmaaZ23
import Derived.Test.YtjblogfbcglnmaaZ30
import Derived.Test.YtjblogfbcglnmaaZ24
import Derived.Test.YtjblogfbcglnmaaZ16
import Derived.Test.YtjblogfbcglnmaaZ26
namespace Go.Proofs.Ytjblogfbcglnmaa
open Go.RowKit Nm Rn
set_option maxRecDepth 100000
set_option linter.unusedVariables false
set_option linter.unusedSimpArgs false

/-- N 2^e / D is N' / M, in units of 2^-1075. -/
def Same75 (N D : Nat) (e : Int) (N' M : Nat) : Prop := ∃ A B : Nat, (A : Int) - B = e + 1075 ∧ 0 < M ∧ 0 < D ∧ N * 2 ^ A * M = N' * (D * 2 ^ B)
theorem Same75.zero {D : Nat} {e : Int} {N' M : Nat} (h : Same75 0 D e N' M) (d : Int) (neg : Bool) : rnd d neg (zq N' M) = 0 := by
  obtain ⟨A, B, _, hM, hD, h⟩ := h
  rw [Nat.zero_mul, Nat.zero_mul] at h
  have h0 : N' = 0 := by
    rcases Nat.eq_zero_or_pos N' with e | e
    · exact e
    · have := Nat.mul_pos e (Nat.mul_pos hD (two_pow_pos B)); omega
  rw [h0, show zq 0 M = 0 by simp [zq], rnd_zero]
theorem Same75.tiny {N D : Nat} {e : Int} {N' M : Nat} (h : Same75 N D e N' M) (hN : N ≠ 0) (ht : (bl N : Int) - bl D + e < -1100) (d : Int) (neg : Bool) : rnd d neg (zd (2 * 1) (-1200 - 1)) = rnd d neg (zq N' M) := by
  obtain ⟨A, B, hAB, hM, hD, h⟩ := h
  rw [zd_tiny (by omega) (by rw [show bl 1 = 1 from rfl]; omega)]
  congr 1
  have h1 := lt_pow_bl N
  have h2 := pow_le_of_bl (n := D) (by omega)
  have h3 : N * 2 ^ A < D * 2 ^ B := by
    have a1 : N * 2 ^ A < 2 ^ bl N * 2 ^ A := (Nat.mul_lt_mul_right (two_pow_pos A)).2 h1
    have a2 : 2 ^ (bl D - 1) * 2 ^ B ≤ D * 2 ^ B := Nat.mul_le_mul_right _ h2
    rw [← Nat.pow_add] at a1 a2
    have a3 : 2 ^ (bl N + A) ≤ 2 ^ (bl D - 1 + B) := Nat.pow_le_pow_right (by omega) (by have := bl_pos (n := D) (by omega); omega)
    omega
  have hN' : N' ≠ 0 := by
    intro h0
    rw [h0, Nat.zero_mul] at h
    have := Nat.mul_pos (Nat.mul_pos (show 0 < N by omega) (two_pow_pos A)) hM
    omega
  have hlt : N' < M := by
    rcases Nat.lt_or_ge N' M with c | c
    · exact c
    · have b1 := Nat.mul_le_mul_right (D * 2 ^ B) c
      have b2 : N * 2 ^ A * M < D * 2 ^ B * M := (Nat.mul_lt_mul_right hM).2 h3
      rw [Nat.mul_comm M] at b1
      omega
  unfold zq
  rw [Nat.div_eq_of_lt hlt, Nat.mod_eq_of_lt hlt, if_neg hN']
theorem Same75.main {N D : Nat} {e : Int} {N' M k : Nat} (h : Same75 N D e N' M) (hk : 57 + bl D = k + bl N) (hN : N ≠ 0) (d : Int) (neg : Bool) :
    rnd d neg (zd (2 * (N * 2 ^ k / D) + (decide (N * 2 ^ k % D ≠ 0)).toNat) (e - k - 1)) = rnd d neg (zq N' M) ∧ 55 ≤ bl (N * 2 ^ k / D) := by
  obtain ⟨A, B, hAB, hM, hD, h⟩ := h
  have hb : 55 ≤ bl (N * 2 ^ k / D) := by
    have h1 : bl (N * 2 ^ k) = 57 + bl D := by rw [bl_mul_pow k hN]; omega
    have h2 := pow_le_of_bl (n := N * 2 ^ k) (by have := Nat.mul_pos (show 0 < N by omega) (two_pow_pos k); omega)
    rw [h1] at h2
    have h3 := lt_pow_bl D
    have h4 : 2 ^ 56 ≤ N * 2 ^ k / D := by
      rw [Nat.le_div_iff_mul_le hD]
      have : 2 ^ 56 * D ≤ 2 ^ 56 * 2 ^ bl D := Nat.mul_le_mul_left _ (Nat.le_of_lt h3)
      rw [← Nat.pow_add] at this
      rw [show 57 + bl D - 1 = 56 + bl D by omega] at h2
      omega
    have : ¬ bl (N * 2 ^ k / D) ≤ 54 := by
      rw [bl_le_iff]
      have : 2 ^ 54 ≤ 2 ^ 56 := Nat.pow_le_pow_right (by omega) (by omega)
      omega
    omega
  refine ⟨rnd_quo (X := N * 2 ^ k) (Y := D) (A := A) (B := B + k) hD hM rfl rfl (fun _ => hb) (by omega) ?_ d neg, hb⟩
  rw [Nat.pow_add]
  have a1 : N * 2 ^ k * 2 ^ A * M = N * 2 ^ A * M * 2 ^ k := by simp only [Nat.mul_assoc, Nat.mul_comm, Nat.mul_left_comm]
  have a2 : N' * (D * (2 ^ B * 2 ^ k)) = N' * (D * 2 ^ B) * 2 ^ k := by simp only [Nat.mul_assoc, Nat.mul_comm, Nat.mul_left_comm]
  rw [a1, a2, h]

set_option maxHeartbeats 4000000 in
theorem ratio_small (d : Int) (neg : Bool) (A : Option Addr) (n c : Nat) (xs : List Nat) (B : Option Addr) (m dd : Nat) (ys : List Nat) (exp : Int) (N' M : Nat) (w : World) (h : Wds w A n c xs) (hn : n ≤ 8796093022208) (k : Wds w B m dd ys) (hm : m ≤ 8796093022208)
    (hS : Same75 (nv xs) (nv ys) exp N' M) (hb1 : bl (nv xs) < 57 + bl (nv ys)) (hb2 : bl (nv ys) ≤ 1000) (e1 : -100000 ≤ exp) (e2 : exp ≤ 100000) :
    Calls Try.prog 35 #[.int .i64 d, .bool neg, .slice A n c, .slice B m dd, .int .i64 exp] w fun e w' => e = .returned (.float .f64 (rnd d neg (zq N' M))) ∧ Ext w w' := by
  have HL1 := Lib.hid (fun w h => nlen_any A n c xs w h (by omega))
  have HL2 := Lib.hid (fun w h => nlen_any B m dd ys w h (by omega))
  have HH := Lib.hid (fun w => hold_any exp w)
  rw [show holdZ exp = exp by unfold holdZ; omega] at HH
  have hSH := fun s w h h0 hs => nshl_any A n c xs s w h (by omega) h0 hs
  obtain ⟨V, hV⟩ : ∃ V, V = nv xs := ⟨_, rfl⟩
  obtain ⟨D, hD⟩ : ∃ D, D = nv ys := ⟨_, rfl⟩
  rw [← hV] at HL1 hS hb1 hSH
  rw [← hD] at HL2 hS hb1 hb2
  have hD0 : D ≠ 0 := by obtain ⟨_, _, _, _, h, _⟩ := hS; omega
  obtain ⟨bV, hbV⟩ : ∃ b, b = bl V := ⟨_, rfl⟩
  obtain ⟨bD, hbD⟩ : ∃ b, b = bl D := ⟨_, rfl⟩
  have hbDp : 1 ≤ bD := by rw [hbD]; exact bl_pos hD0
  rw [← hbV] at HL1 hb1
  rw [← hbD] at HL2 hb1 hb2
  have hcb : decide ((524288 : Int) < (bD : Int)) = false := decide_eq_false (by omega)
  have hcz : ((bD : Int) == 0) = false := by rw [beq_eq_false_iff_ne]; omega
  by_cases h0 : V = 0
  · subst h0
    have HR := Lib.hid (hS.zero d neg)
    have hbz : bV = 0 := by rw [hbV]; rfl
    subst hbz
    rw [HR.out]
    clear hS hSH hV hD hbV hbD hD0
    go_enter Try.func35, Try.ntmps35
    go_wp2_with (first | (go_at_call 63; (first | (with_reducible refine (HL1.out _ h).mono ?_) | (with_reducible refine (HL2.out _ k).mono ?_)); rintro e w' ⟨rfl, rfl⟩))
    go_ret
    exact ⟨rfl, Ext.refl _⟩
  · have hbVp : 1 ≤ bV := by rw [hbV]; exact bl_pos h0
    by_cases ht : (bV : Int) - bD + exp < -1100
    · have hOF := fun w => of_any d neg (some ⟨w.heap.size, 0, none⟩) 1 1 [1] (-1200) false (w.alloc (.cells #[.int .u32 1] 28)) (one_list w 0) (by omega) (by rw [show nv [1] = 1 from rfl, show nw 1 = 1 from rfl]; omega) (by omega) (by omega) (by intro h; cases h)
      simp only [Bool.toNat_false, Nat.add_zero, show nv [1] = 1 from rfl] at hOF
      rw [hS.tiny h0 (by rw [← hbV, ← hbD]; exact ht) d neg] at hOF
      have HOF := Lib.hid hOF
      have HE0 : Hid (Ext w (w.alloc (.cells #[.int .u32 1] 28))) := Lib.hid ((Ext.refl w).alloc _)
      generalize rnd d neg (zq N' M) = R at HOF ⊢
      clear hS hSH hV hD hbV hbD hD0 hOF h0
      go_enter Try.func35, Try.ntmps35
      go_wp2_with (first | (go_at_call 63; (first | (with_reducible refine (HL1.out _ h).mono ?_) | (with_reducible refine (HL2.out _ k).mono ?_)); rintro e w' ⟨rfl, rfl⟩) | (go_at_call 65; refine (HH.out _).mono ?_; rintro e w' ⟨rfl, rfl⟩))
      refine (HOF.out _).mono ?_
      rintro e w1 ⟨rfl, hE⟩
      go_wp2
      go_ret
      exact ⟨rfl, HE0.out.trans hE⟩
    · obtain ⟨kk, hkk⟩ : ∃ kk, kk = 57 + bD - bV := ⟨_, rfl⟩
      have hke : 57 + (bD : Int) - (bV : Int) = (kk : Int) := by omega
      have hkp : 1 ≤ kk := by omega
      have hmain := hS.main (k := kk) (by rw [← hbV, ← hbD]; omega) h0 d neg
      have HSH := Lib.hid (fun w h => hSH kk w h h0 (by rw [← hbV]; omega))
      obtain ⟨s, hs⟩ : ∃ s, s = V * 2 ^ kk := ⟨_, rfl⟩
      rw [← hs] at hmain HSH
      have hnwD : nw D ≤ 16384 := nw_of_bl (by rw [← hbD]; omega)
      have hsb : bl s = bV + kk := by rw [hs, bl_mul_pow kk h0, ← hbV]
      have hnws : nw s ≤ 16384 := nw_of_bl (by rw [hsb]; omega)
      have HQ := Lib.hid (fun (A1 : Option Addr) (n1 c1 : Nat) (w : World) (h : Wds w A1 n1 c1 (nd s)) (k : Wds w B m dd ys) => nquo_any A1 n1 c1 (nd s) B m dd ys w h (by have := h.len; rw [nd_length] at this; omega) k hm (by rw [nv_nd]; exact hnws) (by rw [← hD]; exact hnwD) (by rw [← hD]; exact hD0))
      simp only [nv_nd, ← hD] at HQ
      obtain ⟨Q, hQ⟩ : ∃ Q, Q = s / D := ⟨_, rfl⟩
      obtain ⟨R, hR⟩ : ∃ R, R = s % D := ⟨_, rfl⟩
      rw [← hQ, ← hR] at hmain HQ
      have hnwQ : nw Q ≤ 16384 := Nat.le_trans (nw_mono (by rw [hQ]; exact Nat.div_le_self _ _)) hnws
      have HOF := Lib.hid (fun (A1 : Option Addr) (n1 c1 : Nat) (w : World) (h : Wds w A1 n1 c1 (nd Q)) => of_any d neg A1 n1 c1 (nd Q) (exp - kk) (decide (R ≠ 0)) w h (by have := h.len; rw [nd_length] at this; omega) (by rw [nv_nd]; exact hnwQ) (by omega) (by omega) (fun _ => by rw [nv_nd]; exact hmain.2))
      simp only [nv_nd] at HOF
      rw [hmain.1] at HOF
      have h58 : 57 + bD - bV = kk := hkk.symm
      generalize rnd d neg (zq N' M) = Z at HOF ⊢
      clear hS hSH hV hbV hbD hmain hs hnwD hsb hnws hQ hR hnwQ h0 hkk h58
      by_cases hR0 : R = 0
      · subst hR0
        go_enter Try.func35, Try.ntmps35
        go_wp2_with (first | (go_at_call 63; (first | (with_reducible refine (HL1.out _ h).mono ?_) | (with_reducible refine (HL2.out _ k).mono ?_)); rintro e w' ⟨rfl, rfl⟩) | (go_at_call 65; refine (HH.out _).mono ?_; rintro e w' ⟨rfl, rfl⟩))
        refine (HSH.out _ h).mono ?_
        rintro e w1 ⟨A1, n1, c1, rfl, hW1, hE1⟩
        go_wp2_with fail
        refine (HQ.out _ _ _ _ hW1 (k.ext hE1)).mono ?_
        rintro e w2 ⟨A2, n2, c2, A3, n3, c3, rfl, hW2, hW3, hE2⟩
        have hn3 : n3 = 0 := by have := hW3.len; rw [nd_length, nw_zero] at this; omega
        subst hn3
        go_wp2_with fail
        refine (HOF.out _ _ _ _ hW2).mono ?_
        rintro e w3 ⟨rfl, hE3⟩
        go_wp2
        go_ret
        exact ⟨rfl, hE1.trans (hE2.trans hE3)⟩
      · have hdR : decide (R ≠ 0) = true := decide_eq_true hR0
        rw [hdR] at HOF
        have HR0 := Lib.hid hR0
        clear hR0 hdR
        go_enter Try.func35, Try.ntmps35
        go_wp2_with (first | (go_at_call 63; (first | (with_reducible refine (HL1.out _ h).mono ?_) | (with_reducible refine (HL2.out _ k).mono ?_)); rintro e w' ⟨rfl, rfl⟩) | (go_at_call 65; refine (HH.out _).mono ?_; rintro e w' ⟨rfl, rfl⟩))
        refine (HSH.out _ h).mono ?_
        rintro e w1 ⟨A1, n1, c1, rfl, hW1, hE1⟩
        go_wp2_with fail
        refine (HQ.out _ _ _ _ hW1 (k.ext hE1)).mono ?_
        rintro e w2 ⟨A2, n2, c2, A3, n3, c3, rfl, hW2, hW3, hE2⟩
        have hn3 : 0 < n3 := by
          have := hW3.len
          rw [nd_length] at this
          rcases Nat.eq_zero_or_pos n3 with e | e
          · exact absurd (nw_eq_zero.1 (by omega)) HR0.out
          · exact e
        go_wp2_with fail
        refine (HOF.out _ _ _ _ hW2).mono ?_
        rintro e w3 ⟨rfl, hE3⟩
        go_wp2
        go_ret
        exact ⟨rfl, hE1.trans (hE2.trans hE3)⟩

end Go.Proofs.Ytjblogfbcglnmaa

/-
  The contract of the program's quotient. Conditions: those that each theorem names.
-/
namespace Go.Proofs.Ytjblogfbcglnmaa
open Go.RowKit Nm Rn
set_option maxRecDepth 100000
set_option linter.unusedVariables false
set_option linter.unusedSimpArgs false

set_option maxHeartbeats 1000000 in
theorem quotient_any (d : Int) (s1 s2 : Bool) (A : Option Addr) (n c : Nat) (xs : List Nat) (x1 : Int) (B : Option Addr) (m dd : Nat) (ys : List Nat) (x2 : Int) (N' M : Nat) (w : World) (h : Wds w A n c xs) (hn : n ≤ 8796093022208) (k : Wds w B m dd ys) (hm : m ≤ 8796093022208)
    (hS : Same75 (nv xs) (nv ys) (x1 - x2) N' M) (hb1 : bl (nv xs) < 57 + bl (nv ys)) (hb2 : bl (nv ys) ≤ 1000) (b1 : -10000 ≤ x1) (b2 : x1 ≤ 10000) (b3 : -10000 ≤ x2) (b4 : x2 ≤ 10000) :
    Calls Try.prog 96 #[.agg #[.bool s1, .slice A n c, .int .i64 x1], .agg #[.bool s2, .slice B m dd, .int .i64 x2], .int .i64 d] w fun e w' => e = .returned (.float .f64 (rnd d (s1 != s2) (zq N' M))) ∧ Ext w w' := by
  have hO := ((Own.start w).add h).add k
  have HM := Lib.hid (fun (w : World) (h : Wds w A n c xs) (k : Wds w B m dd ys) => ratio_small d (s1 != s2) A n c xs B m dd ys (x1 - x2) N' M w h hn k hm hS hb1 hb2 (by omega) (by omega))
  obtain ⟨r, hr⟩ : ∃ r, r = (s1 != s2) := ⟨_, rfl⟩
  rw [← hr] at HM ⊢
  have HR2 : Hid ((!(s1 == s2)) = r) := Lib.hid (by rw [hr]; rfl)
  clear h k hS hr
  go_enter Try.func96, Try.ntmps96
  go_upto_region 1 with (refine own_box hO rfl rfl ?_; clear hO; intro g w1 hO)
  have hF := hO.facts
  simp only [BF, CF, Nat.zero_add, Nat.reduceAdd, and_true] at hF
  go_wp2_with fail
  rw [HR2.out]
  refine (HM.out _ (hO.wd 1 rfl) (hO.wd 0 rfl)).mono ?_
  rintro e w' ⟨rfl, hEx⟩
  go_wp2
  go_ret
  exact ⟨rfl, hO.toExt.trans hEx⟩
end Go.Proofs.Ytjblogfbcglnmaa

/-
  Plain: what Div answers; / where an operand is no number or nought. Conditions: those that each theorem names.
-/
set_option linter.unusedVariables false
set_option linter.unusedSimpArgs false
namespace Go.Proofs.Ytjblogfbcglnmaa.Rn
open Nm

/-- What Div answers. -/
def divR (d : Int) (x y : Nat) : Nat :=
  if isNaN x || isNaN y || (isInf x && isInf y) || (decide (mg x = 0) && decide (mg y = 0)) then NaNc
  else if mg y = 0 then infP (sg x && decide (mg x ≠ 0))
  else if isInf x then infP (sg x != sg y)
  else if isInf y then 0
  else rnd d (sg x != sg y) (zq (rv (mg x) * K75) (rv (mg y)))

/-- The document's quotient. -/
theorem quo_ref (d : Int) (x y : Nat) (hy : mg y ≠ 0) {n m : Bool} (hn : n = (sg x && decide (mg x ≠ 0))) (hm : m = (sg y && decide (mg y ≠ 0))) :
    rnd d ((n != m) && decide (fbN x * fbD y ≠ 0)) (zr (fracN (fbN x * fbD y) (fbD x * fbN y) 0) (fracD (fbN x * fbD y) (fbD x * fbN y) 0)) = rnd d (sg x != sg y) (zq (rv (mg x) * K75) (rv (mg y))) := by
  have hNy : fbN y ≠ 0 := fun h => hy ((fbN_zero y).1 h)
  have hp : fbD x * fbN y ≠ 0 := by
    have := Nat.mul_pos (fbD_pos x) (show 0 < fbN y by omega)
    omega
  have hry : 0 < rv (mg y) := by
    rcases Nat.eq_zero_or_pos (rv (mg y)) with h | h
    · exact absurd (rv_eq_zero.1 h) hy
    · exact h
  have h1 := frac_val (n := fbN x * fbD y) (d := fbD x * fbN y) (e := 0) (p := 0) (q := 0) rfl
  rw [Nat.pow_zero, Nat.mul_one, Nat.mul_one] at h1
  have h2 := fb_val x
  have h3 := fb_val y
  have hz : zr (fracN (fbN x * fbD y) (fbD x * fbN y) 0) (fracD (fbN x * fbD y) (fbD x * fbN y) 0) = zq (rv (mg x) * K75) (rv (mg y)) := by
    have e1 : zq (rv (mg x) * K75) (rv (mg y)) = zr (rv (mg x)) (rv (mg y)) := rfl
    rw [e1]
    have e2 : zr (fracN (fbN x * fbD y) (fbD x * fbN y) 0) (fracD (fbN x * fbD y) (fbD x * fbN y) 0) = zr (fbN x * fbD y) (fbD x * fbN y) := zr_congr (fracD_pos _ hp) (by omega) h1
    rw [e2]
    refine zr_congr (by omega) hry ?_
    have hK := K74_pos
    have hD := fbD_pos y
    refine Nat.eq_of_mul_eq_mul_right (Nat.mul_pos hK hD) ?_
    have a1 : fbN x * fbD y * rv (mg y) * (K74 * fbD y) = (fbN x * K74) * (rv (mg y) * fbD y) * fbD y := by
      simp only [Nat.mul_assoc, Nat.mul_comm, Nat.mul_left_comm]
    have a2 : rv (mg x) * (fbD x * fbN y) * (K74 * fbD y) = (rv (mg x) * fbD x) * (fbN y * K74) * fbD y := by
      simp only [Nat.mul_assoc, Nat.mul_comm, Nat.mul_left_comm]
    rw [a1, a2, h2, h3]
  rw [hz]
  by_cases hx : mg x = 0
  · rw [hx, rv_zero, Nat.zero_mul]
    have : zq 0 (rv (mg y)) = 0 := by simp [zq]
    rw [this, rnd_zero, rnd_zero]
  · have hNx : fbN x ≠ 0 := fun h => hx ((fbN_zero x).1 h)
    have hpos := Nat.mul_pos (show 0 < fbN x by omega) (fbD_pos y)
    rw [hn, hm, decide_eq_true hx, decide_eq_true hy, decide_eq_true (show fbN x * fbD y ≠ 0 by omega), Bool.and_true, Bool.and_true, Bool.and_true]
end Go.Proofs.Ytjblogfbcglnmaa.Rn

/-
  Plain: / where an operand is no number, or the second one nought. Conditions: those that each theorem names.
-/
set_option linter.unusedVariables false
set_option linter.unusedSimpArgs false
namespace Go.Proofs.Ytjblogfbcglnmaa.Rn
open Nm

theorem pl_zero {y : Nat} (h : mg y = 0) (hy : y < 18446744073709551616) : pl y = 0 := by
  unfold pl
  unfold mg at h
  by_cases h0 : y = 9223372036854775808
  · rw [if_pos h0]
  · rw [if_neg h0]; omega
theorem pl_same {y : Nat} (h : mg y ≠ 0) : pl y = y := by
  unfold pl
  by_cases h0 : y = 9223372036854775808
  · exact absurd (by rw [h0]; rfl) h
  · rw [if_neg h0]
theorem mg_pl (y : Nat) (hy : y < 18446744073709551616) : mg (pl y) = mg y := by
  by_cases h : mg y = 0
  · rw [pl_zero h hy, h]; rfl
  · rw [pl_same h]
theorem write_zero (s : Bool) : Ieee.double.write (.number s 0 0) = if s then 9223372036854775808 else 0 := by cases s <;> rfl

/-- A quotient with an operand that is no number, or by nought. -/
theorem div_odd {x y : Nat} (hx : x < 18446744073709551616) (hy : y < 18446744073709551616) (h : (isNaN x || isInf x || (isNaN y || isInf y) || decide (mg y = 0)) = true) :
    (Ieee.double.div x (pl y) = none ∧ ∀ d, divR d x y = NaNc) ∨ ∃ s, Ieee.double.div x (pl y) = some s ∧ s < 18446744073709551616 ∧ isNaN s = false ∧ ∀ d, divR d x y = pl s := by
  have hinf : ∀ s, infP s < 18446744073709551616 ∧ isNaN (infP s) = false ∧ pl (infP s) = infP s := by intro s; cases s <;> exact ⟨by decide, rfl, rfl⟩
  have z : ∀ {b m : Nat} {e : Int}, m * 2 ^ (e + 1074).toNat = rv (mg b) → (m = 0 ↔ mg b = 0) := by
    intro b m e h
    constructor
    · intro hm; rw [hm, Nat.zero_mul] at h; exact rv_eq_zero.1 h.symm
    · intro hm; rw [hm, rv_zero] at h; rcases Nat.mul_eq_zero.1 h with h2 | h2; exact h2; have := two_pow_pos (e + 1074).toNat; omega
  have hIz : ¬ infR = 0 := by rw [infR_val]; omega
  unfold divR Ieee.Format.div
  rcases kind x with ⟨n1, i1, k1⟩ | ⟨n1, i1, k1⟩ | ⟨n1, i1, k1⟩
  · left
    rw [read_nan hx k1, n1]
    exact ⟨rfl, fun d => rfl⟩
  · have hx0 : mg x ≠ 0 := by rw [k1]; exact hIz
    rcases kind y with ⟨n2, i2, k2⟩ | ⟨n2, i2, k2⟩ | ⟨n2, i2, k2⟩
    · left
      have hy0 : mg y ≠ 0 := by omega
      rw [pl_same hy0, read_nan hy k2, read_inf hx k1, n2, n1]
      exact ⟨rfl, fun d => rfl⟩
    · left
      have hy0 : mg y ≠ 0 := by rw [k2]; exact hIz
      rw [pl_same hy0, read_inf hy k2, read_inf hx k1, n1, n2, i1, i2]
      exact ⟨rfl, fun d => rfl⟩
    · right
      rw [n1, n2, i1, i2, decide_eq_false hx0]
      simp only [Bool.false_or, Bool.and_false, Bool.false_and, Bool.or_false, Bool.false_eq_true, if_false, if_true]
      by_cases h0 : mg y = 0
      · rw [pl_zero h0 hy, read_inf hx k1]
        obtain ⟨m, e, hr, -, hv⟩ := read_fin (b := 0) (by omega) (by rw [show mg 0 = 0 from rfl, infR_val]; omega)
        rw [hr]
        refine ⟨infP (sg x), ?_, (hinf _).1, (hinf _).2.1, fun d => ?_⟩
        · show some (Ieee.double.write (.infinity (sg x ^^ sg 0))) = _
          rw [show sg 0 = false from rfl, Bool.xor_false, write_inf]
        · rw [if_pos h0, decide_eq_true hx0, Bool.and_true, (hinf _).2.2]
      · rw [pl_same h0, read_inf hx k1]
        obtain ⟨m, e, hr, -, hv⟩ := read_fin hy k2
        rw [hr]
        refine ⟨infP (sg x ^^ sg y), ?_, (hinf _).1, (hinf _).2.1, fun d => ?_⟩
        · show some (Ieee.double.write (.infinity (sg x ^^ sg y))) = _
          rw [write_inf]
        · rw [if_neg h0, (hinf _).2.2]
  · rcases kind y with ⟨n2, i2, k2⟩ | ⟨n2, i2, k2⟩ | ⟨n2, i2, k2⟩
    · left
      have hy0 : mg y ≠ 0 := by omega
      obtain ⟨m, e, hr, -, hv⟩ := read_fin hx k1
      rw [pl_same hy0, read_nan hy k2, hr, n2, n1]
      exact ⟨rfl, fun d => rfl⟩
    · right
      have hy0 : mg y ≠ 0 := by rw [k2]; exact hIz
      obtain ⟨m, e, hr, -, hv⟩ := read_fin hx k1
      rw [pl_same hy0, read_inf hy k2, hr, n2, n1, i1, i2, decide_eq_false hy0]
      simp only [Bool.false_or, Bool.and_false, Bool.false_and, Bool.or_false, Bool.false_eq_true, if_false, if_true]
      refine ⟨if (sg x ^^ sg y) then 9223372036854775808 else 0, ?_, ?_, ?_, fun d => ?_⟩
      · show some (Ieee.double.write (.number (sg x ^^ sg y) 0 0)) = _
        rw [write_zero]
      · cases (sg x ^^ sg y) <;> decide
      · cases (sg x ^^ sg y) <;> rfl
      · rw [if_neg hy0]
        cases (sg x ^^ sg y) <;> rfl
    · rw [n1, n2, i1, i2] at h
      have h0 : mg y = 0 := by simpa using h
      obtain ⟨m, e, hr, -, hv⟩ := read_fin hx k1
      rw [pl_zero h0 hy, hr, n1, n2, i1, i2, h0]
      have hz : Ieee.double.read 0 = .number false 0 (-1074) := by
        obtain ⟨m', e', hr', he', hv'⟩ := read_fin (b := 0) (by omega) (by rw [show mg 0 = 0 from rfl, infR_val]; omega)
        rfl
      rw [hz]
      simp only [Bool.false_or, Bool.and_false, Bool.false_and, Bool.or_false, Bool.false_eq_true, if_false, if_true, decide_true, Bool.and_true]
      by_cases hx0 : mg x = 0
      · left
        have hm := (z hv).2 hx0
        subst hm
        refine ⟨rfl, fun d => ?_⟩
        rw [if_pos (by simpa using hx0)]
      · right
        have hm : m ≠ 0 := fun h => hx0 ((z hv).1 h)
        refine ⟨infP (sg x), ?_, (hinf _).1, (hinf _).2.1, fun d => ?_⟩
        · show Option.map _ (if m = 0 then none else some (Ieee.Datum.infinity (sg x ^^ false))) = _
          rw [if_neg hm, Bool.xor_false]
          show some (Ieee.double.write _) = _
          rw [write_inf]
        · rw [if_neg (by simpa using hx0), decide_eq_true hx0, Bool.and_true, (hinf _).2.2]
end Go.Proofs.Ytjblogfbcglnmaa.Rn

/-
  The contract of the program's Div. Conditions: those that each theorem names.
-/
namespace Go.Proofs.Ytjblogfbcglnmaa
open Go.RowKit Nm Rn
set_option maxRecDepth 100000
set_option linter.unusedVariables false
set_option linter.unusedSimpArgs false

theorem odd_pl {y : Nat} (hy : y < 18446744073709551616) : oddF (pl y) = oddF y := by
  unfold oddF isNaN isInf
  rw [mg_pl y hy]
theorem pl_lt_ {y : Nat} (hy : y < 18446744073709551616) : pl y < 18446744073709551616 := pl_lt hy
theorem all_four {b1 b2 b3 b4 : Bool} (h : ¬ (b1 = true ∧ b2 = true ∧ b3 = true ∧ b4 = true)) : b1 = false ∨ (b1 = true ∧ b2 = false) ∨ (b1 = true ∧ b2 = true ∧ b3 = false) ∨ (b1 = true ∧ b2 = true ∧ b3 = true ∧ b4 = false) := by
  cases b1 <;> cases b2 <;> cases b3 <;> cases b4 <;> simp_all
theorem same_parts {x y : Nat} (hy : mg y ≠ 0) : Same75 (fbSig x) (fbSig y) (fbExp x - fbExp y) (rv (mg x) * K75) (rv (mg y)) := by
  have hDy : 0 < fbSig y := by
    rcases Nat.eq_zero_or_pos (fbSig y) with h | h
    · exact absurd ((fbSig_zero y).1 h) hy
    · exact h
  have hry : 0 < rv (mg y) := by
    rcases Nat.eq_zero_or_pos (rv (mg y)) with h | h
    · exact absurd (rv_eq_zero.1 h) hy
    · exact h
  have hx1 := fbExp_lo x
  have hy1 := fbExp_lo y
  obtain ⟨c, hc⟩ : ∃ c, c = 1075 := ⟨_, rfl⟩
  obtain ⟨a, ha⟩ : ∃ a, a = (fbExp x + 1074).toNat := ⟨_, rfl⟩
  obtain ⟨b, hb⟩ : ∃ b, b = (fbExp y + 1074).toNat := ⟨_, rfl⟩
  have hK : K75 = 2 ^ c := by rw [hc]; exact K75_def
  refine ⟨a + c, b, by omega, hry, hDy, ?_⟩
  rw [fb_rv x, fb_rv y, ← ha, ← hb, hK, Nat.pow_add]
  simp only [Nat.mul_assoc, Nat.mul_comm, Nat.mul_left_comm]
/-- A product with a quotient is some number, or an infinity. -/
theorem back_mul {s y : Nat} (hs : s < 18446744073709551616) (hsi : mg s ≤ infR) (hy : y < 18446744073709551616) (fy : mg y < infR) (hy0 : mg y ≠ 0) : ∃ p, Ieee.double.mul s y = some p ∧ p < 18446744073709551616 ∧ mg p ≤ infR := by
  by_cases hf : mg s < infR
  · refine ⟨_, mul_fin hs hy hf fy, word_lt (near_lt' _), ?_⟩
    rw [mg_word (near_lt' _)]
    exact near_le _
  · have hse : mg s = infR := by omega
    have hn1 : isNaN s = false := by unfold isNaN; exact decide_eq_false (by omega)
    have hi1 : isInf s = true := by unfold isInf; exact decide_eq_true hse
    have hn2 : isNaN y = false := by unfold isNaN; exact decide_eq_false (by omega)
    have hi2 : isInf y = false := by unfold isInf; exact decide_eq_false (by omega)
    rcases mul_odd hs hy (by rw [hn1, hi1]; rfl) with ⟨_, h2⟩ | ⟨t, h1, _⟩
    · exfalso
      have := h2 0
      unfold mulR at this
      rw [hn1, hn2, hi1, hi2, if_neg (by simp), if_pos (by simp), if_neg (by rw [hse, infR_val]; omega)] at this
      revert this
      cases (sg s != sg y) <;> decide
    · refine ⟨_, h1, infP_lt t, ?_⟩
      cases t
      · show mg infR ≤ infR; rw [infR_val]; decide
      · show mg minf ≤ infR; rw [infR_val, minf_val]; decide

set_option maxHeartbeats 4000000 in
theorem rdiv_odd (d : Int) (x y : Nat) (w : World) (hx : x < 18446744073709551616) (hy : y < 18446744073709551616) (ho : (oddF x || oddF y || decide (mg y = 0)) = true) :
    Calls Try.prog 40 #[.int .i64 d, .float .f64 x, .float .f64 y] w (RetFl (divR d x y) w) := by
  have hm := div_odd hx hy ho
  have hyl := pl_lt hy
  have HPY := Lib.hid (fun w => rplain_any y w hy)
  have hop := odd_pl hy
  have hoz : (oddF x || oddF (pl y)) = true ∨ ((oddF x || oddF (pl y)) = false ∧ pl y = 0) := by
    rw [hop]
    cases h1 : (oddF x || oddF y)
    · rw [h1, Bool.false_or] at ho
      exact .inr ⟨rfl, pl_zero (of_decide_eq_true ho) hy⟩
    · exact .inl rfl
  obtain ⟨y', hy'⟩ : ∃ y', y' = pl y := ⟨_, rfl⟩
  rw [← hy'] at hm hyl HPY hoz
  have hE0 : Ext w (w.alloc (.cells #[.float .f64 x, .float .f64 y'] 26)) := (Ext.refl w).alloc _
  have hc0 : (w.alloc (.cells #[.float .f64 x, .float .f64 y'] 26)).cell? ⟨w.heap.size, 0, none⟩ = some (.float .f64 x) := by simp
  have hc1 : (w.alloc (.cells #[.float .f64 x, .float .f64 y'] 26)).cell? ⟨w.heap.size, 1, none⟩ = some (.float .f64 y') := by simp
  have HO := Lib.hid (fun g w c0 c1 => odd_two g x y' w c0 c1 hx hyl)
  have q0 := fo_eq hyl (show 0 < 18446744073709551616 by omega)
  obtain ⟨oo, hoo⟩ : ∃ oo, oo = (oddF x || oddF y') := ⟨_, rfl⟩
  rw [← hoo] at HO hoz
  have hzz : oo = true ∨ (oo = false ∧ (FloatKind.f64.format.order y' 0 == some .eq) = true) := by
    rcases hoz with h | ⟨h, h2⟩
    · exact .inl h
    · refine .inr ⟨h, ?_⟩
      rw [h2]; rfl
  obtain ⟨V, hV⟩ : ∃ V, V = divR d x y := ⟨_, rfl⟩
  rw [← hV]
  rcases hm with ⟨hm, hr⟩ | ⟨s, hm, hs, hsn, hr⟩
  · rw [hr] at hV
    have HV := Lib.hid hV
    have hrun := fun w => run_nan (op := .quo) (x := x) (y := y') hm (by simp) w
    have HP := Lib.hid (fun v w => rplain_any (nanOf v x y') w (nanOf_lt v x y'))
    clear ho hm hr hV hx hy hy' hoo hoz hyl hop q0
    rcases hzz with rfl | ⟨rfl, hq⟩
    all_goals
      go_enter Try.func40, Try.ntmps40
      go_wp2
      go_step3
      go_wp2_with (go_at_call 68; refine (HPY.out _).mono ?_; rintro e w' ⟨rfl, rfl⟩)
      generalize w.heap.size = g0 at hc0 hc1 ⊢
      generalize w.alloc _ = w1 at hE0 hc0 hc1 ⊢
      go_wp2_with (first | (go_at_call 67; refine (HO.out _ _ hc0 hc1).mono ?_; rintro e w' ⟨rfl, rfl⟩) | (go_at_call 68; refine (HP.out _ _).mono ?_; rintro e w' ⟨rfl, rfl⟩))
      rw [Exit.noGoto_ret]
      go_ret
      exact ⟨_, rfl, by rw [pl_nan (nanOf_nan _ x y')]; exact nanOf_lt _ x y', by rw [pl_nan (nanOf_nan _ x y'), cn_nan (nanOf_nan _ x y')]; exact HV.out.symm, hE0.drew⟩
  · rw [hr] at hV
    have HV := Lib.hid hV
    have hrun := fun w => fquo hm w
    have HP := Lib.hid (fun w => rplain_any s w hs)
    have hpn : isNaN (pl s) = false := by unfold isNaN; rw [mg_pl s hs]; exact hsn
    have HS := Lib.hid (And.intro (pl_lt hs) (cn_num hpn))
    clear ho hm hr hV hx hy hy' hoo hoz hyl hop q0 hs hsn hpn
    rcases hzz with rfl | ⟨rfl, hq⟩
    all_goals
      go_enter Try.func40, Try.ntmps40
      go_wp2
      go_step3
      go_wp2_with (go_at_call 68; refine (HPY.out _).mono ?_; rintro e w' ⟨rfl, rfl⟩)
      generalize w.heap.size = g0 at hc0 hc1 ⊢
      generalize w.alloc _ = w1 at hE0 hc0 hc1 ⊢
      go_wp2_with (first | (go_at_call 67; refine (HO.out _ _ hc0 hc1).mono ?_; rintro e w' ⟨rfl, rfl⟩) | (go_at_call 68; refine (HP.out _).mono ?_; rintro e w' ⟨rfl, rfl⟩))
      rw [Exit.noGoto_ret]
      go_ret
      exact ⟨_, rfl, HS.out.1, by rw [HS.out.2]; exact HV.out.symm, hE0⟩
set_option maxHeartbeats 8000000 in
theorem rdiv_fin (d : Int) (x y : Nat) (w : World) (hx : x < 18446744073709551616) (hy : y < 18446744073709551616) (ho : (oddF x || oddF y) = false) (hy0 : mg y ≠ 0) :
    Calls Try.prog 40 #[.int .i64 d, .float .f64 x, .float .f64 y] w fun e w' => e = .returned (.float .f64 (rnd d (sg x != sg y) (zq (rv (mg x) * K75) (rv (mg y))))) ∧ Ext w w' := by
  have HPL := Lib.hid (fun w => rplain_any y w hy)
  rw [pl_same hy0] at HPL
  have hE0 : Ext w (w.alloc (.cells #[.float .f64 x, .float .f64 y] 26)) := (Ext.refl w).alloc _
  have hc0 : (w.alloc (.cells #[.float .f64 x, .float .f64 y] 26)).cell? ⟨w.heap.size, 0, none⟩ = some (.float .f64 x) := by simp
  have hc1 : (w.alloc (.cells #[.float .f64 x, .float .f64 y] 26)).cell? ⟨w.heap.size, 1, none⟩ = some (.float .f64 y) := by simp
  have HO := Lib.hid (fun g w c0 c1 => odd_two g x y w c0 c1 hx hy)
  rw [ho] at HO
  rw [Bool.or_eq_false_iff] at ho
  have fx := oddF_fin ho.1
  have fy := oddF_fin ho.2
  have hm := div_fin hx hy fx fy hy0
  have hnl := near_lt' (zq (rv (mg x) * K75) (rv (mg y)))
  obtain ⟨s, hs⟩ : ∃ s, s = Ieee.double.word (sg x ^^ sg y) (near (zq (rv (mg x) * K75) (rv (mg y)))) := ⟨_, rfl⟩
  rw [← hs] at hm
  have hsl : s < 18446744073709551616 := by rw [hs]; exact word_lt hnl
  have hsi : mg s ≤ infR := by rw [hs, mg_word hnl]; exact near_le _
  obtain ⟨p, hp, hpl, hpi⟩ := back_mul hsl hsi hy fy hy0
  have hrun := fun w => fquo hm w
  have hrun2 := fun w => fmul hp w
  have q1 := fo_lt hy (show 0 < 18446744073709551616 by omega)
  have q0 := fo_eq hy (show 0 < 18446744073709551616 by omega)
  have hFy := Fl.of hy fy
  rw [hFy.ltB Fl.zero] at q1
  have hsv0 : sv y ≠ 0 := fun h => hy0 (rv_eq_zero.1 (by have := sv_abs y; rw [h] at this; simpa using this.symm))
  rw [hFy.eqB Fl.zero, decide_eq_false hsv0] at q0
  have HMX := Lib.hid (fun w => middle_any x w hx (by omega))
  have HMY := Lib.hid (fun w => middle_any y w hy (by omega))
  have HMS := Lib.hid (fun w => middle_any s w hsl hsi)
  have HMP := Lib.hid (fun w => middle_any p w hpl hpi)
  obtain ⟨Z, hZ⟩ : ∃ Z, Z = zq (rv (mg x) * K75) (rv (mg y)) := ⟨_, rfl⟩
  obtain ⟨V, hV⟩ : ∃ V, V = rnd d (sg x != sg y) Z := ⟨_, rfl⟩
  rw [← hZ, ← hV]
  obtain ⟨b1, hb1⟩ : ∃ b, b = midB x := ⟨_, rfl⟩
  obtain ⟨b2, hb2⟩ : ∃ b, b = midB y := ⟨_, rfl⟩
  obtain ⟨b3, hb3⟩ : ∃ b, b = midB s := ⟨_, rfl⟩
  obtain ⟨b4, hb4⟩ : ∃ b, b = midB p := ⟨_, rfl⟩
  rw [← hb1] at HMX
  rw [← hb2] at HMY
  rw [← hb3] at HMS
  rw [← hb4] at HMP
  by_cases hb : b1 = true ∧ b2 = true ∧ b3 = true ∧ b4 = true
  · obtain ⟨rfl, rfl, rfl, rfl⟩ := hb
    obtain ⟨mx, -⟩ := mid_of hb1.symm
    obtain ⟨my, -⟩ := mid_of hb2.symm
    obtain ⟨ms, fs⟩ := mid_of hb3.symm
    obtain ⟨mp, fp⟩ := mid_of hb4.symm
    obtain ⟨m, a, b, M, E, om, ha, hb, fM, fE, hres⟩ := div_quick (Fl.of hx fx) hFy mx my hm fs ms hp fp mp
    have hrun3 := fun w => fsub ha w
    have hrun4 := fun w => fsub hb w
    have HMI := Lib.hid (fun w => missed_any s y p m w om)
    have hk := hres d
    rw [← hZ, show (sg x ^^ sg y) = (sg x != sg y) by cases sg x <;> cases sg y <;> rfl, ← hV] at hk
    by_cases hneg : sv y < 0
    · rw [if_pos hneg] at hk
      rw [decide_eq_true hneg] at q1
      have fN := fE.neg
      have hng := fun w => run_ng fE.lt w
      have HNU := Lib.hid (fun w => nudge_any d s (ng b) (-E) w hsl fs fN.lt (by rw [fN.ltB Fl.zero]) (by rw [Fl.zero.ltB fN]))
      rw [← hk] at HNU
      clear hk hres fN fE fM om ha hb mx my ms fs mp fp hb1 hb2 hb3 hb4 hV hZ hsv0 hFy hpi hpl hp hsi hsl hs hnl hm fx fy ho hx hy hy0 hneg
      go_enter Try.func40, Try.ntmps40
      go_wp2
      go_step3
      go_wp2_with (go_at_call 68; refine (HPL.out _).mono ?_; rintro e w' ⟨rfl, rfl⟩)
      generalize w.heap.size = g0 at hc0 hc1 ⊢
      generalize w.alloc _ = w1 at hE0 hc0 hc1 ⊢
      go_wp2_with (first | (go_at_call 67; refine (HO.out _ _ hc0 hc1).mono ?_; rintro e w' ⟨rfl, rfl⟩) | (go_at_call 69; ((with_reducible refine (HMX.out _).mono ?_); rintro e w' ⟨rfl, rfl⟩)) | (go_at_call 69; ((with_reducible refine (HMY.out _).mono ?_); rintro e w' ⟨rfl, rfl⟩)) | (go_at_call 69; ((with_reducible refine (HMS.out _).mono ?_); rintro e w' ⟨rfl, rfl⟩)) | (go_at_call 69; ((with_reducible refine (HMP.out _).mono ?_); rintro e w' ⟨rfl, rfl⟩)) | (go_at_call 71; refine (HMI.out _).mono ?_; rintro e w' ⟨rfl, rfl⟩) | (go_at_call 70; refine (HNU.out _).mono ?_; rintro e w' ⟨rfl, rfl⟩))
      rw [Exit.noGoto_ret]
      go_ret
      exact ⟨rfl, hE0⟩
    · rw [if_neg hneg] at hk
      rw [decide_eq_false hneg] at q1
      have HNU := Lib.hid (fun w => nudge_any d s b E w hsl fs fE.lt (by rw [fE.ltB Fl.zero]) (by rw [Fl.zero.ltB fE]))
      rw [← hk] at HNU
      clear hk hres fE fM om ha hb mx my ms fs mp fp hb1 hb2 hb3 hb4 hV hZ hsv0 hFy hpi hpl hp hsi hsl hs hnl hm fx fy ho hx hy hy0 hneg
      go_enter Try.func40, Try.ntmps40
      go_wp2
      go_step3
      go_wp2_with (go_at_call 68; refine (HPL.out _).mono ?_; rintro e w' ⟨rfl, rfl⟩)
      generalize w.heap.size = g0 at hc0 hc1 ⊢
      generalize w.alloc _ = w1 at hE0 hc0 hc1 ⊢
      go_wp2_with (first | (go_at_call 67; refine (HO.out _ _ hc0 hc1).mono ?_; rintro e w' ⟨rfl, rfl⟩) | (go_at_call 69; ((with_reducible refine (HMX.out _).mono ?_); rintro e w' ⟨rfl, rfl⟩)) | (go_at_call 69; ((with_reducible refine (HMY.out _).mono ?_); rintro e w' ⟨rfl, rfl⟩)) | (go_at_call 69; ((with_reducible refine (HMS.out _).mono ?_); rintro e w' ⟨rfl, rfl⟩)) | (go_at_call 69; ((with_reducible refine (HMP.out _).mono ?_); rintro e w' ⟨rfl, rfl⟩)) | (go_at_call 71; refine (HMI.out _).mono ?_; rintro e w' ⟨rfl, rfl⟩) | (go_at_call 70; refine (HNU.out _).mono ?_; rintro e w' ⟨rfl, rfl⟩))
      rw [Exit.noGoto_ret]
      go_ret
      exact ⟨rfl, hE0⟩
  · have hcase := all_four hb
    have HPX := Lib.hid (fun w => part_any x w hx)
    have HPY := Lib.hid (fun w => part_any y w hy)
    have hbx : bl (fbSig x) ≤ 53 := by rw [bl_le_iff]; exact fbSig_lt x
    have hby : bl (fbSig y) ≤ 53 := by rw [bl_le_iff]; exact fbSig_lt y
    have HQ := Lib.hid (fun (A : Option Addr) (n c : Nat) (B : Option Addr) (m e : Nat) (w : World) (h : Wds w A n c (nd (fbSig x))) (k : Wds w B m e (nd (fbSig y))) => quotient_any d (sg x) (sg y) A n c (nd (fbSig x)) (fbExp x) B m e (nd (fbSig y)) (fbExp y) (rv (mg x) * K75) (rv (mg y)) w h (by have := h.len; rw [nd_length] at this; have := fbSig_nw x; omega) k (by have := k.len; rw [nd_length] at this; have := fbSig_nw y; omega) (by rw [nv_nd, nv_nd]; exact same_parts hy0) (by rw [nv_nd, nv_nd]; omega) (by rw [nv_nd]; omega) (by have := fbExp_lo x; omega) (by have := fbExp_hi x; omega) (by have := fbExp_lo y; omega) (by have := fbExp_hi y; omega))
    rw [← hZ, ← hV] at HQ
    clear hb hb1 hb2 hb3 hb4 hV hZ hsv0 hFy hpi hpl hp hsi hsl hs hnl hm fx fy ho hx hy hy0 hbx hby
    rcases hcase with rfl | ⟨rfl, rfl⟩ | ⟨rfl, rfl, rfl⟩ | ⟨rfl, rfl, rfl, rfl⟩
    all_goals
      go_enter Try.func40, Try.ntmps40
      go_wp2
      apply wp_scope_to (l := 0) (hf := by rfl)
      · go_wp2_with (first | (go_at_call 68; refine (HPL.out _).mono ?_; rintro e w' ⟨rfl, rfl⟩) | (go_at_call 67; refine (HO.out _ _ hc0 hc1).mono ?_; rintro e w' ⟨rfl, rfl⟩) | (go_at_call 69; ((with_reducible refine (HMX.out _).mono ?_); rintro e w' ⟨rfl, rfl⟩)) | (go_at_call 69; ((with_reducible refine (HMY.out _).mono ?_); rintro e w' ⟨rfl, rfl⟩)) | (go_at_call 69; ((with_reducible refine (HMS.out _).mono ?_); rintro e w' ⟨rfl, rfl⟩)) | (go_at_call 69; ((with_reducible refine (HMP.out _).mono ?_); rintro e w' ⟨rfl, rfl⟩)))
        go_step3
        exact ⟨rfl, rfl, rfl⟩
      · go_wp2_with fail
        refine (HPX.out _).mono ?_
        rintro e w2 ⟨A1, n1, c1, rfl, hR1, hE1⟩
        go_wp2_with fail
        refine (HPY.out _).mono ?_
        rintro e w3 ⟨A2, n2, c2, rfl, hR2, hE2⟩
        go_wp2_with fail
        refine (HQ.out _ _ _ _ _ _ _ (hR1.ext hE2) hR2).mono ?_
        rintro e w4 ⟨rfl, hE3⟩
        go_wp2
        rw [jump_ret]
        go_ret
        exact ⟨rfl, ((hE0.trans hE1).trans hE2).trans hE3⟩

theorem rdiv_any (d : Int) (x y : Nat) (w : World) (hx : x < 18446744073709551616) (hy : y < 18446744073709551616) :
    Calls Try.prog 40 #[.int .i64 d, .float .f64 x, .float .f64 y] w (RetFl (divR d x y) w) := by
  cases ho : (oddF x || oddF y || decide (mg y = 0))
  · rw [Bool.or_eq_false_iff] at ho
    have hy0 : mg y ≠ 0 := of_decide_eq_false ho.2
    refine (rdiv_fin d x y w hx hy ho.1 hy0).mono ?_
    rintro e w' ⟨rfl, hE⟩
    have e1 : divR d x y = rnd d (sg x != sg y) (zq (rv (mg x) * K75) (rv (mg y))) := by
      have ho := ho.1
      unfold oddF at ho
      rw [Bool.or_eq_false_iff, Bool.or_eq_false_iff, Bool.or_eq_false_iff] at ho
      unfold divR
      rw [ho.1.1, ho.1.2, ho.2.1, ho.2.2, decide_eq_false hy0, if_neg hy0]
      simp only [Bool.or_false, Bool.and_false, Bool.false_or, Bool.false_eq_true, if_false]
    rw [e1]
    exact ⟨_, rfl, (rnd_ok _ _ _).1, cn_num (rnd_ok _ _ _).2, hE⟩
  · exact rdiv_odd d x y w hx hy ho
end Go.Proofs.Ytjblogfbcglnmaa
