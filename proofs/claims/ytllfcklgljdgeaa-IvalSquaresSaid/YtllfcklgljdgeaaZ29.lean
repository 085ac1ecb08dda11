/-
  The contract of the document's Neg. Conditions: those that each theorem names.
-/
import Derived.Test.YtllfcklgljdgeaaZ28
import Derived.Test.YtllfcklgljdgeaaZ06
import Derived.Test.YtllfcklgljdgeaaZ21
import Derived.Test.YtllfcklgljdgeaaZ04
import Derived.Test.YtllfcklgljdgeaaZ20
import Derived.Test.YtllfcklgljdgeaaZ27
namespace Go.Proofs.Ytllfcklgljdgeaa
open Go.RowKit Nm Rn
set_option maxRecDepth 100000
set_option linter.unusedVariables false
set_option linter.unusedSimpArgs false

theorem bI_rng (x : Nat) : -1 ≤ bI x ∧ bI x ≤ 1 := by unfold bI; split <;> (try split) <;> omega
theorem bN_sz (x : Nat) : nw (bN x) ≤ 1073741824 := by
  have h0 : nw (fracN 0 1 0) ≤ 1073741824 := by
    have : fracN 0 1 0 = 0 := fracN_zero 1 0
    rw [this]
    exact Nat.le_trans ((nw_le_iff 0 0).2 (by omega)) (by omega)
  unfold bN
  split
  · exact h0
  · split
    · exact h0
    · exact Nat.le_trans (fbN_bits x) (by omega)
theorem bD_sz (x : Nat) : nw (bD x) ≤ 1073741824 := by
  have h0 : nw (fracD 0 1 0) ≤ 1073741824 := by
    have : fracD 0 1 0 = 1 := rfl
    rw [this]
    exact Nat.le_trans ((nw_le_iff 1 1).2 (by omega)) (by omega)
  unfold bD
  split
  · exact h0
  · split
    · exact h0
    · exact Nat.le_trans (fbD_bits x) (by omega)
theorem bD_ne (x : Nat) : bD x ≠ 0 := by
  have h0 : fracD 0 1 0 ≠ 0 := by have := fracD_pos (n := 0) (d := 1) 0 (by omega); omega
  unfold bD
  split
  · exact h0
  · split
    · exact h0
    · have := fbD_pos x; omega

theorem ls_ng {x : Nat} (h : x < 18446744073709551616) (hn : isNaN x = false) :
    (x ≠ minf → lsLo (-(bI x)) (!bNeg x && decide (bN x ≠ 0)) (bN x) (bD x) = pl (ng x)) ∧ (x ≠ infR → lsHi (-(bI x)) (!bNeg x && decide (bN x ≠ 0)) (bN x) (bD x) = pl (ng x)) := by
  by_cases h1 : x = infR
  · subst h1
    refine ⟨fun _ => ?_, fun h => absurd rfl h⟩
    unfold lsLo bI
    rw [if_pos rfl, if_neg (by omega)]
    rfl
  · by_cases h2 : x = minf
    · subst h2
      refine ⟨fun h => absurd rfl h, fun _ => ?_⟩
      unfold lsHi bI
      rw [if_neg h1, if_pos rfl, if_neg (by omega)]
      rfl
    · have e1 : bI x = 0 := by unfold bI; rw [if_neg h1, if_neg h2]
      have e2 : bNeg x = (sg x && decide (mg x ≠ 0)) := by unfold bNeg; rw [if_neg h1, if_neg h2]
      have e3 : bN x = fbN x := by unfold bN; rw [if_neg h1, if_neg h2]
      have e4 : bD x = fbD x := by unfold bD; rw [if_neg h1, if_neg h2]
      rw [e1, e2, e3, e4]
      unfold lsLo lsHi
      rw [if_pos (by omega), if_pos (by omega)]
      have hf := mg_fin h hn h1 h2
      exact ⟨fun _ => rnd_ng (-1) h hf, fun _ => rnd_ng 1 h hf⟩

end Go.Proofs.Ytllfcklgljdgeaa

/-
  Plain: how many words a ratio's parts have at most. Conditions: those that each theorem names.
-/
namespace Go.Proofs.Ytllfcklgljdgeaa
open Go.RowKit Nm Rn
set_option linter.unusedVariables false
set_option linter.unusedSimpArgs false

theorem le_nw_of {a b k : Nat} (h : a ≤ b) (hb : nw b ≤ k) : nw a ≤ k := (nw_le_iff _ _).2 (Nat.lt_of_le_of_lt h ((nw_le_iff _ _).1 hb))
theorem tz_bl (n : Nat) : tz n ≤ bl n := by
  by_cases h : n = 0
  · subst h; exact Nat.le_refl _
  · have h1 := tz_div (n := n)
    have h2 : 2 ^ tz n ≤ n := by
      have : 1 ≤ n / 2 ^ tz n := by
        rcases Nat.eq_zero_or_pos (n / 2 ^ tz n) with h3 | h3
        · rw [h3, Nat.zero_mul] at h1; omega
        · exact h3
      calc 2 ^ tz n = 1 * 2 ^ tz n := by omega
        _ ≤ n / 2 ^ tz n * 2 ^ tz n := Nat.mul_le_mul_right _ this
        _ = n := h1
    rcases Nat.lt_or_ge (bl n) (tz n) with h3 | h3
    · have h4 := lt_pow_bl n
      have h5 := Nat.pow_le_pow_right (n := 2) (by omega) (Nat.le_of_lt h3)
      omega
    · exact h3
theorem fracD_le_ {n d : Nat} {e : Int} (hd : d ≠ 0) : fracD n d e ≤ d * 2 ^ ((-e).toNat + tz d) := by
  unfold fracD
  split
  · exact Nat.mul_pos (by omega) (Nat.two_pow_pos _)
  · have h1 : (-(e + tz n - tz d)).toNat ≤ (-e).toNat + tz d := by omega
    have h2 := Nat.pow_le_pow_right (n := 2) (by omega) h1
    exact Nat.mul_le_mul (Nat.div_le_self _ _) h2
theorem frac_nw {n d : Nat} {e : Int} (hn : nw n ≤ 16384) (hdn : nw d ≤ 16384) (hd : d ≠ 0) (e1 : -1100000 ≤ e) (e2 : e ≤ 1100000) : nw (fracN n d e) ≤ 1073741824 ∧ nw (fracD n d e) ≤ 1073741824 := by
  have a1 := nw_bl n
  have a2 := nw_bl d
  have t1 := tz_bl n
  have t2 := tz_bl d
  have h1 := le_nw_of (fracN_le n d e) (Nat.le_trans (nw_shift _ (Nat.le_refl _)) (show nw n + ((e.toNat + tz n) / 32 + 1) ≤ 1073741824 by omega))
  have h2 := le_nw_of (fracD_le_ (n := n) (e := e) hd) (Nat.le_trans (nw_shift _ (Nat.le_refl _)) (show nw d + (((-e).toNat + tz d) / 32 + 1) ≤ 1073741824 by omega))
  exact ⟨h1, h2⟩
end Go.Proofs.Ytllfcklgljdgeaa

/-
  Plain: sums of bounds of patterns, rounded outward: what Add answers. Conditions: those that each theorem names.
-/
namespace Go.Proofs.Ytllfcklgljdgeaa
open Go.RowKit Nm Rn
set_option linter.unusedVariables false
set_option linter.unusedSimpArgs false

theorem bnd3 {x : Nat} (hx : x < 18446744073709551616) (hn : isNaN x = false) :
    (x = infR ∧ bI x = 1) ∨ (x = minf ∧ bI x = -1) ∨
    (bI x = 0 ∧ bNeg x = (sg x && decide (mg x ≠ 0)) ∧ bN x = fbN x ∧ bD x = fbD x ∧ mg x < infR ∧ isInf x = false) := by
  by_cases h1 : x = infR
  · subst h1; left; exact ⟨rfl, by unfold bI; rw [if_pos rfl]⟩
  · by_cases h2 : x = minf
    · subst h2; right; left; exact ⟨rfl, by unfold bI; rw [if_neg h1, if_pos rfl]⟩
    · right; right
      have hf := mg_fin hx hn h1 h2
      exact ⟨by unfold bI; rw [if_neg h1, if_neg h2], by unfold bNeg; rw [if_neg h1, if_neg h2], by unfold bN; rw [if_neg h1, if_neg h2], by unfold bD; rw [if_neg h1, if_neg h2], hf, by unfold isInf; exact decide_eq_false (by omega)⟩
/-- The sum of two bounds. -/
def sI (p q : Nat) : Int := if bI p ≠ 0 then bI p else bI q
def sS (p q : Nat) : Bool := if bI p ≠ 0 then bNeg p else if bI q ≠ 0 then bNeg q else aNeg (bNeg p) (bNeg q) (bN p * bD q) (bN q * bD p) && decide (aMag (bNeg p) (bNeg q) (bN p * bD q) (bN q * bD p) ≠ 0)
def sN (p q : Nat) : Nat := if bI p ≠ 0 then bN p else if bI q ≠ 0 then bN q else fracN (aMag (bNeg p) (bNeg q) (bN p * bD q) (bN q * bD p)) (bD p * bD q) 0
def sD (p q : Nat) : Nat := if bI p ≠ 0 then bD p else if bI q ≠ 0 then bD q else fracD (aMag (bNeg p) (bNeg q) (bN p * bD q) (bN q * bD p)) (bD p * bD q) 0
theorem sum_fin (d : Int) {p q : Nat} (hp : p < 18446744073709551616) (hq : q < 18446744073709551616) (np : isNaN p = false) (nq : isNaN q = false) (h1 : bI p = 0) (h2 : bI q = 0) : rnd d (sS p q) (zr (sN p q) (sD p q)) = addR d p q := by
  unfold sS sN sD
  simp only [h1, h2, ne_eq, not_true_eq_false, if_false]
  rcases bnd3 hp np with h | h | ⟨-, a2, a3, a4, a5, a6⟩
  · rw [h.2] at h1; cases h1
  · rw [h.2] at h1; cases h1
  · rcases bnd3 hq nq with h | h | ⟨-, b2, b3, b4, b5, b6⟩
    · rw [h.2] at h2; cases h2
    · rw [h.2] at h2; cases h2
    · rw [a3, a4, b3, b4, add_ref d p q a2 b2]
      unfold addR
      rw [np, nq, a6, b6]
      rfl
theorem sum_lo {p q : Nat} (hp : p < 18446744073709551616) (hq : q < 18446744073709551616) (np : isNaN p = false) (nq : isNaN q = false) (ip : p ≠ infR) (iq : q ≠ infR) : lsLo (sI p q) (sS p q) (sN p q) (sD p q) = addR (-1) p q := by
  unfold lsLo
  have hm1 : isNaN minf = false := rfl
  have hm2 : isInf minf = true := rfl
  by_cases h0 : sI p q = 0
  · rw [if_pos h0]
    unfold sI at h0
    by_cases h1 : bI p = 0
    · rw [if_neg (by simpa using h1)] at h0
      exact sum_fin _ hp hq np nq h1 h0
    · rw [if_pos h1] at h0; exact absurd h0 h1
  · rw [if_neg h0]
    unfold sI at h0
    rcases bnd3 hp np with h | h | ⟨a1, a2, a3, a4, a5, a6⟩
    · exact absurd h.1 ip
    · rw [h.1] at np ⊢
      unfold addR
      rw [np, nq, hm2]
      rcases bnd3 hq nq with g | g | ⟨b1, b2, b3, b4, b5, b6⟩
      · exact absurd g.1 iq
      · rw [g.1]; simp
      · rw [b6]; simp
    · rcases bnd3 hq nq with g | g | ⟨b1, b2, b3, b4, b5, b6⟩
      · exact absurd g.1 iq
      · rw [g.1] at nq ⊢
        unfold addR
        rw [np, nq, hm2, a6]; simp
      · rw [a1, b1] at h0; simp at h0
theorem sum_hi {p q : Nat} (hp : p < 18446744073709551616) (hq : q < 18446744073709551616) (np : isNaN p = false) (nq : isNaN q = false) (ip : p ≠ minf) (iq : q ≠ minf) : lsHi (sI p q) (sS p q) (sN p q) (sD p q) = addR 1 p q := by
  unfold lsHi
  have hm2 : isInf infR = true := rfl
  by_cases h0 : sI p q = 0
  · rw [if_pos h0]
    unfold sI at h0
    by_cases h1 : bI p = 0
    · rw [if_neg (by simpa using h1)] at h0
      exact sum_fin _ hp hq np nq h1 h0
    · rw [if_pos h1] at h0; exact absurd h0 h1
  · rw [if_neg h0]
    unfold sI at h0
    rcases bnd3 hp np with h | h | ⟨a1, a2, a3, a4, a5, a6⟩
    · rw [h.1] at np ⊢
      unfold addR
      rw [np, nq, hm2]
      rcases bnd3 hq nq with g | g | ⟨b1, b2, b3, b4, b5, b6⟩
      · rw [g.1]; simp
      · exact absurd g.1 iq
      · rw [b6]; simp
    · exact absurd h.1 ip
    · rcases bnd3 hq nq with g | g | ⟨b1, b2, b3, b4, b5, b6⟩
      · rw [g.1] at nq ⊢
        unfold addR
        rw [np, nq, hm2, a6]; simp
      · exact absurd g.1 iq
      · rw [a1, b1] at h0; simp at h0
theorem addR_num {d : Int} {p q : Nat} (np : isNaN p = false) (nq : isNaN q = false) (h : isInf p = true → isInf q = true → p = q) : isNaN (addR d p q) = false := by
  unfold addR
  rw [np, nq]
  cases h1 : isInf p <;> cases h2 : isInf q
  · simp only [Bool.or_false, Bool.false_and, Bool.false_eq_true, if_false, Bool.and_false]
    exact (rnd_ok _ _ _).2
  · simp only [Bool.or_false, Bool.false_and, Bool.false_eq_true, if_false, if_true, Bool.and_false]; exact nq
  · simp only [Bool.or_false, Bool.false_and, Bool.false_eq_true, if_false, if_true, Bool.and_false]; exact np
  · have := h h1 h2
    subst this
    simp only [Bool.or_false, Bool.true_and, ne_eq, not_true_eq_false, decide_false, Bool.false_eq_true, if_false, if_true]; exact np
theorem sum_sz (p q : Nat) : nw (sN p q) ≤ 1073741824 ∧ nw (sD p q) ≤ 1073741824 ∧ sD p q ≠ 0 := by
  have hb : ∀ x, nw (bN x) ≤ 40 ∧ nw (bD x) ≤ 40 := fun x => by
    have e0 : fracN 0 1 0 = 0 := by decide
    have e1 : fracD 0 1 0 = 1 := by decide
    unfold bN bD
    split
    · rw [e0, e1]; decide
    · split
      · rw [e0, e1]; decide
      · exact ⟨fbN_bits x, fbD_bits x⟩
  have hp := hb p
  have hq := hb q
  have hD : bD p * bD q ≠ 0 := by
    have := Nat.mul_pos (show 0 < bD p by have := bD_ne p; omega) (show 0 < bD q by have := bD_ne q; omega)
    omega
  have hlt : ∀ {a b : Nat}, nw a ≤ 40 → nw b ≤ 40 → a * b < 4294967296 ^ 80 := fun {a b} h1 h2 => by
    have h3 := (nw_le_iff a 40).1 h1
    have h4 := (nw_le_iff b 40).1 h2
    rw [show 80 = 40 + 40 from rfl, Nat.pow_add]
    exact Nat.mul_lt_mul'' h3 h4
  have hM : nw (aMag (bNeg p) (bNeg q) (bN p * bD q) (bN q * bD p)) ≤ 16384 := by
    have h1 := hlt hp.1 hq.2
    have h2 := hlt hq.1 hp.2
    have : nw (aMag (bNeg p) (bNeg q) (bN p * bD q) (bN q * bD p)) ≤ 81 := by
      rw [nw_le_iff]
      have h3 : 4294967296 ^ 81 = 4294967296 ^ 80 * 4294967296 := Nat.pow_succ ..
      rw [h3]
      generalize 4294967296 ^ 80 = C at *
      unfold aMag
      split
      · omega
      · split <;> omega
    omega
  have hDn : nw (bD p * bD q) ≤ 16384 := by
    have := (nw_le_iff _ 80).2 (hlt hp.2 hq.2)
    omega
  have hf := frac_nw (e := 0) hM hDn hD (by omega) (by omega)
  have hfp := fracD_pos (n := aMag (bNeg p) (bNeg q) (bN p * bD q) (bN q * bD p)) 0 hD
  unfold sN sD
  by_cases h1 : bI p ≠ 0
  · rw [if_pos h1, if_pos h1]
    exact ⟨by omega, by omega, bD_ne p⟩
  · rw [if_neg h1, if_neg h1]
    by_cases h2 : bI q ≠ 0
    · rw [if_pos h2, if_pos h2]
      exact ⟨by omega, by omega, bD_ne q⟩
    · rw [if_neg h2, if_neg h2]
      exact ⟨hf.1, hf.2, by omega⟩
end Go.Proofs.Ytllfcklgljdgeaa

/-
  The contract of the document's Add of intervals. Conditions: those that each theorem names.
-/
namespace Go.Proofs.Ytllfcklgljdgeaa
open Go.RowKit Nm Rn
set_option maxRecDepth 100000
set_option linter.unusedVariables false
set_option linter.unusedSimpArgs false

theorem zero_I (w : World) : (zeroValue 24).run Try.prog w = .ok (.agg #[.int .u64 0, .int .u64 0]) w := by kernel_rfl
theorem agg_I (w : World) : (isAgg 24).run Try.prog w = .ok true w := by kernel_rfl
theorem size_I (w : World) : (sizeOf 24).run Try.prog w = .ok 2 w := by kernel_rfl

/-- The sum of the bounds of two patterns. -/
theorem sum6_b (p q : Nat) (A : Option Addr) (l c : Nat) (B : Option Addr) (k d : Nat) (A2 : Option Addr) (l2 c2 : Nat) (B2 : Option Addr) (k2 d2 : Nat) (w : World) (h1 : RatAt w A l c B k d (bN p) (bD p)) (h2 : RatAt w A2 l2 c2 B2 k2 d2 (bN q) (bD q)) :
    Calls Try.prog 52 #[.agg #[.int .i64 (bI p), .bool (bNeg p), .slice A l c, .slice B k d], .agg #[.int .i64 (bI q), .bool (bNeg q), .slice A2 l2 c2, .slice B2 k2 d2]] w (RetEnd (sI p q) (sS p q) (sN p q) (sD p q) w) := by
  have hbi : ∀ x, bI x = 0 ∨ (bI x = 1 ∨ bI x = -1) := fun x => by have := bI_rng x; omega
  unfold sI sS sN sD
  rcases hbi p with hp | hp
  · rcases hbi q with hq | hq
    · simp only [hp, hq, ne_eq, not_true_eq_false, if_false]
      exact sum6_f (bNeg p) A l c B k d (bN p) (bD p) (bNeg q) A2 l2 c2 B2 k2 d2 (bN q) (bD q) w h1 h2 (bN_sz p) (bD_sz p) (bN_sz q) (bD_sz q) (Nat.mul_pos (by have := bD_ne p; omega) (by have := bD_ne q; omega))
    · have hq0 : bI q ≠ 0 := by omega
      rw [hp]
      simp only [ne_eq, not_true_eq_false, if_false]
      rw [if_pos hq0, if_pos hq0, if_pos hq0]
      exact sum6_r (bNeg p) A l c B k d (bN p) (bD p) (bI q) (bNeg q) A2 l2 c2 B2 k2 d2 (bN q) (bD q) w h1 h2 hq
  · have hp0 : bI p ≠ 0 := by omega
    rw [if_pos hp0, if_pos hp0, if_pos hp0, if_pos hp0]
    exact sum6_l (bI p) (bNeg p) A l c B k d (bN p) (bD p) (bI q) (bNeg q) A2 l2 c2 B2 k2 d2 (bN q) (bD q) w h1 h2 hp

set_option maxHeartbeats 4000000 in
theorem add6_gen (x1 x2 y1 y2 : Nat) (xaf : Bool) (xai : Int) (xas : Bool) (xaN xaD : Nat) (xaj : Int) (xar : Bool) (xaM xaE : Nat) (xbf : Bool) (xbi : Int) (xbs : Bool) (xbN xbD : Nat) (xbj : Int) (xbr : Bool) (xbM xbE : Nat) (xuf : Bool) (xui : Int) (xus : Bool) (xuN xuD : Nat) (xuj : Int) (xur : Bool) (xuM xuE : Nat) (r1 r2 : Nat) (w : World)
    (HA : Hid (∀ w, Calls Try.prog 23 #[.agg #[.int .u64 (x1 : Int), .int .u64 (x2 : Int)]] w (RetSet xaf xai xas xaN xaD xaj xar xaM xaE w)))
    (HB : Hid (∀ w, Calls Try.prog 23 #[.agg #[.int .u64 (y1 : Int), .int .u64 (y2 : Int)]] w (RetSet xbf xbi xbs xbN xbD xbj xbr xbM xbE w)))
    (HP : Hid (∀ A l c B k d A2 l2 c2 B2 k2 d2 Ax lx cx Bx kx dx A2x l2x c2x B2x k2x d2x w, RatAt w A l c B k d xaN xaD → RatAt w A2 l2 c2 B2 k2 d2 xaM xaE → RatAt w Ax lx cx Bx kx dx xbN xbD → RatAt w A2x l2x c2x B2x k2x d2x xbM xbE → Calls Try.prog 26 #[.agg #[.bool xaf, .int .i64 xai, .bool xas, .slice A l c, .slice B k d, .int .i64 xaj, .bool xar, .slice A2 l2 c2, .slice B2 k2 d2], .agg #[.bool xbf, .int .i64 xbi, .bool xbs, .slice Ax lx cx, .slice Bx kx dx, .int .i64 xbj, .bool xbr, .slice A2x l2x c2x, .slice B2x k2x d2x]] w (RetSet xuf xui xus xuN xuD xuj xur xuM xuE w)))
    (HL : Hid (∀ A l c B k d A2 l2 c2 B2 k2 d2 w, RatAt w A l c B k d xuN xuD → RatAt w A2 l2 c2 B2 k2 d2 xuM xuE → Calls Try.prog 21 #[.agg #[.bool xuf, .int .i64 xui, .bool xus, .slice A l c, .slice B k d, .int .i64 xuj, .bool xur, .slice A2 l2 c2, .slice B2 k2 d2]] w (RetI r1 r2 w))) :
    Calls Try.prog 11 #[.agg #[.int .u64 (x1 : Int), .int .u64 (x2 : Int)], .agg #[.int .u64 (y1 : Int), .int .u64 (y2 : Int)]] w (RetI r1 r2 w) := by
  have hO := Own.start w
  have hf : True := trivial
  go_enter Try.func11, Try.ntmps11
  go_wp2_with (first | ((with_reducible refine at_box ?_); refine own_box (cs := [.int .u64 (x1 : Int), .int .u64 (x2 : Int)]) hO rfl rfl ?_; clear hO; intro ga wa hO; clear hf; have hf := hO.cells; simp only [BC, CC, Nat.zero_add, Nat.reduceAdd, and_true] at hf) | ((with_reducible refine at_box ?_); refine own_box (cs := [.int .u64 (y1 : Int), .int .u64 (y2 : Int)]) hO rfl rfl ?_; clear hO; intro gb wa hO; clear hf; have hf := hO.cells; simp only [BC, CC, Nat.zero_add, Nat.reduceAdd, and_true] at hf) | ((with_reducible refine at_alloc ?_); refine own_alloc hO zero_I rfl rfl ?_; clear hO; intro g w1 hO; clear hf; have hf := hO.cells; simp only [BC, CC, Nat.zero_add, Nat.reduceAdd, and_true] at hf))
  obtain ⟨S, hS⟩ : ∃ S : World → Prop, S = Own w [⟨g, 24, [.int .u64 0, .int .u64 0]⟩, ⟨gb, 24, [.int .u64 (y1 : Int), .int .u64 (y2 : Int)]⟩, ⟨ga, 24, [.int .u64 (x1 : Int), .int .u64 (x2 : Int)]⟩] [] := ⟨_, rfl⟩
  have hSE : ∀ w w', S w → Ext w w' → S w' := fun w w' h1 h2 => by rw [hS] at h1 ⊢; exact h1.ext h2
  have hS1 : S w1.drew := by rw [hS]; exact hO.ext (Ext.refl w1).drew
  have HS := Lib.hid hS
  clear hS hO hf
  obtain ⟨sp, hsp⟩ : ∃ sp : Nat → Sp, sp = ofList [det (.agg #[.int .u64 (x1 : Int), .int .u64 (x2 : Int)]), anyOf (fun v wz => ∃ A1 n1 c1 B1 m1 d1 A2 n2 c2 B2 m2 d2, v = .agg #[.bool xaf, .int .i64 xai, .bool xas, .slice A1 n1 c1, .slice B1 m1 d1, .int .i64 xaj, .bool xar, .slice A2 n2 c2, .slice B2 m2 d2] ∧ RatAt wz A1 n1 c1 B1 m1 d1 xaN xaD ∧ RatAt wz A2 n2 c2 B2 m2 d2 xaM xaE), det (.agg #[.int .u64 (y1 : Int), .int .u64 (y2 : Int)]), anyOf (fun v wz => ∃ A1 n1 c1 B1 m1 d1 A2 n2 c2 B2 m2 d2, v = .agg #[.bool xbf, .int .i64 xbi, .bool xbs, .slice A1 n1 c1, .slice B1 m1 d1, .int .i64 xbj, .bool xbr, .slice A2 n2 c2, .slice B2 m2 d2] ∧ RatAt wz A1 n1 c1 B1 m1 d1 xbN xbD ∧ RatAt wz A2 n2 c2 B2 m2 d2 xbM xbE), anyOf (fun v wz => ∃ A1 n1 c1 B1 m1 d1 A2 n2 c2 B2 m2 d2, v = .agg #[.bool xuf, .int .i64 xui, .bool xus, .slice A1 n1 c1, .slice B1 m1 d1, .int .i64 xuj, .bool xur, .slice A2 n2 c2, .slice B2 m2 d2] ∧ RatAt wz A1 n1 c1 B1 m1 d1 xuN xuD ∧ RatAt wz A2 n2 c2 B2 m2 d2 xuM xuE), det (.agg #[.int .u64 (r1 : Int), .int .u64 (r2 : Int)])] := ⟨_, rfl⟩
  have HSP := Lib.hid hsp
  clear hsp
  refine wp_region_loose 6 S sp (by kernel_rfl) (by kernel_rfl) hS1 hSE ?_
  simp only [List.take_succ_cons, List.take_zero, List.drop_succ_cons, List.drop_zero]
  refine wpX_step (fun K hK => ?_)
  go_simp
  refine StepY.det (by rw [HSP.out]; rfl) ?_ ?_
  · intro wz hz hF
    rw [HS.out] at hz
    have hf := hz.facts
    simp only [BF, CF, Nat.zero_add, Nat.reduceAdd, and_true] at hf
    clear hz hF
    go_simp
    exact ⟨rfl, Ext.refl _⟩
  refine hK _ _ ?_
  clear hK K
  refine wpX_step (fun K hK => ?_)
  go_simp
  refine StepY.any (by rw [HSP.out]; rfl) ?_ ?_
  · intro wz hz hF
    clear hz hF
    go_simp
    go_at_call 23
    refine (HA.out _).mono ?_
    rintro e w2 ⟨A1, n1, c1, B1, m1, d1, A2, n2, c2, B2, m2, d2, rfl, hq, hr, hE1⟩
    exact ⟨_, rfl, ⟨A1, n1, c1, B1, m1, d1, A2, n2, c2, B2, m2, d2, rfl, hq, hr⟩, hE1⟩
  intro v
  refine hK _ _ ?_
  clear hK K
  refine wpX_step (fun K hK => ?_)
  go_simp
  refine StepY.det (by rw [HSP.out]; rfl) ?_ ?_
  · intro wz hz hF
    rw [HS.out] at hz
    have hf := hz.facts
    simp only [BF, CF, Nat.zero_add, Nat.reduceAdd, and_true] at hf
    clear hz hF
    go_simp
    exact ⟨rfl, Ext.refl _⟩
  refine hK _ _ ?_
  clear hK K
  refine wpX_step (fun K hK => ?_)
  go_simp
  refine StepY.any (by rw [HSP.out]; rfl) ?_ ?_
  · intro wz hz hF
    clear hz hF
    go_simp
    go_at_call 23
    refine (HB.out _).mono ?_
    rintro e w2 ⟨A1, n1, c1, B1, m1, d1, A2, n2, c2, B2, m2, d2, rfl, hq, hr, hE1⟩
    exact ⟨_, rfl, ⟨A1, n1, c1, B1, m1, d1, A2, n2, c2, B2, m2, d2, rfl, hq, hr⟩, hE1⟩
  intro v
  refine hK _ _ ?_
  clear hK K
  refine wpX_step (fun K hK => ?_)
  go_simp
  refine StepY.any (by rw [HSP.out]; rfl) ?_ ?_
  · intro wz hz hF
    obtain ⟨wp, ep, A1p, n1p, c1p, B1p, m1p, d1p, A2p, n2p, c2p, B2p, m2p, d2p, hvp, hqp, hrp⟩ := hF.any 1 (by kernel_rfl) (by rw [HSP.out]; rfl)
    obtain ⟨wq, eq, A1q, n1q, c1q, B1q, m1q, d1q, A2q, n2q, c2q, B2q, m2q, d2q, hvq, hqq, hrq⟩ := hF.any 3 (by kernel_rfl) (by rw [HSP.out]; rfl)
    clear hz hF
    simp only [asFun, List.nil_append, List.cons_append, List.getD_cons_succ, List.getD_cons_zero] at hvp hvq
    subst hvp hvq
    go_simp
    go_at_call 26
    refine (HP.out _ _ _ _ _ _ _ _ _ _ _ _ _ _ _ _ _ _ _ _ _ _ _ _ _ (hqp.ext ep) (hrp.ext ep) (hqq.ext eq) (hrq.ext eq)).mono ?_
    rintro e w2 ⟨A1, n1, c1, B1, m1, d1, A2, n2, c2, B2, m2, d2, rfl, hq, hr, hE1⟩
    exact ⟨_, rfl, ⟨A1, n1, c1, B1, m1, d1, A2, n2, c2, B2, m2, d2, rfl, hq, hr⟩, hE1⟩
  intro v
  refine hK _ _ ?_
  clear hK K
  refine wpX_step (fun K hK => ?_)
  go_simp
  refine StepY.det (by rw [HSP.out]; rfl) ?_ ?_
  · intro wz hz hF
    obtain ⟨wp, ep, A1p, n1p, c1p, B1p, m1p, d1p, A2p, n2p, c2p, B2p, m2p, d2p, hvp, hqp, hrp⟩ := hF.any 4 (by kernel_rfl) (by rw [HSP.out]; rfl)
    clear hz hF
    simp only [asFun, List.nil_append, List.cons_append, List.getD_cons_succ, List.getD_cons_zero] at hvp
    subst hvp
    go_simp
    go_at_call 21
    refine (HL.out _ _ _ _ _ _ _ _ _ _ _ _ _ (hqp.ext ep) (hrp.ext ep)).mono ?_
    rintro e w2 ⟨rfl, hE1⟩
    exact ⟨_, rfl, rfl, hE1⟩
  refine hK _ _ ?_
  clear hK K
  refine wpX_nil ?_
  intro w3 hz hF
  clear hF
  rw [HS.out] at hz
  have hO := hz
  have hf : True := trivial
  clear hz
  go_wp2_with (first | ((with_reducible refine at_store (T := 24) ?_); refine own_store (T := 24) hO 0 rfl rfl rfl size_I rfl rfl rfl ?_; clear hO; intro w1 hO; simp only [List.set_cons_zero, List.set_cons_succ, spl, List.take_succ_cons, List.take_zero, List.nil_append, List.cons_append, List.length_cons, List.length_nil, List.drop_succ_cons, List.drop_zero, List.drop_nil, Nat.reduceAdd, Nat.zero_add, List.append_nil] at hO; clear hf; have hf := hO.cells; simp only [BC, CC, Nat.zero_add, Nat.reduceAdd, and_true] at hf))
  exact own_ret hO 0 rfl rfl rfl agg_I size_I rfl ⟨rfl, hO.toExt⟩
end Go.Proofs.Ytllfcklgljdgeaa

/-
  What the document's Add of intervals answers. Conditions: those that each theorem names.
-/
namespace Go.Proofs.Ytllfcklgljdgeaa
open Go.RowKit Nm Rn
set_option maxRecDepth 100000
set_option linter.unusedVariables false
set_option linter.unusedSimpArgs false

def emp (lo hi : Nat) : Prop := rdLo lo hi = infR ∧ rdHi lo hi = minf
instance (lo hi : Nat) : Decidable (emp lo hi) := by unfold emp; exact inferInstance
/-- What Add answers. -/
def iaLo (x1 x2 y1 y2 : Nat) : Nat := if emp x1 x2 ∨ emp y1 y2 then infR else addR (-1) (rdLo x1 x2) (rdLo y1 y2)
def iaHi (x1 x2 y1 y2 : Nat) : Nat := if emp x1 x2 ∨ emp y1 y2 then minf else addR 1 (rdHi x1 x2) (rdHi y1 y2)

theorem add6_any (x1 x2 y1 y2 : Nat) (w : World) (hx1 : x1 < 18446744073709551616) (hx2 : x2 < 18446744073709551616) (hy1 : y1 < 18446744073709551616) (hy2 : y2 < 18446744073709551616) :
    Calls Try.prog 11 #[.agg #[.int .u64 (x1 : Int), .int .u64 (x2 : Int)], .agg #[.int .u64 (y1 : Int), .int .u64 (y2 : Int)]] w (RetI (iaLo x1 x2 y1 y2) (iaHi x1 x2 y1 y2) w) := by
  by_cases ex : emp x1 x2
  · have e1 : iaLo x1 x2 y1 y2 = infR := if_pos (.inl ex)
    have e2 : iaHi x1 x2 y1 y2 = minf := if_pos (.inl ex)
    rw [e1, e2]
    by_cases ey : emp y1 y2
    · exact add6_gen x1 x2 y1 y2 _ _ _ _ _ _ _ _ _ _ _ _ _ _ _ _ _ _ _ _ _ _ _ _ _ _ _ infR minf w (Lib.hid fun w => of6_none x1 x2 w hx1 hx2 ex) (Lib.hid fun w => of6_none y1 y2 w hy1 hy2 ey)
        (Lib.hid fun A l c B k d A2 l2 c2 B2 k2 d2 A3 l3 c3 B3 k3 d3 A4 l4 c4 B4 k4 d4 w h1 h2 h3 h4 => plus6_none1 0 false A l c B k d 0 0 0 false A2 l2 c2 B2 k2 d2 0 0 true 0 false A3 l3 c3 B3 k3 d3 0 0 0 false A4 l4 c4 B4 k4 d4 0 0 w)
        (Lib.hid fun A l c B k d A2 l2 c2 B2 k2 d2 w h1 h2 => least6_none 0 false A l c B k d _ _ 0 false A2 l2 c2 B2 k2 d2 _ _ w h1 h2)
    · exact add6_gen x1 x2 y1 y2 _ _ _ _ _ _ _ _ _ _ _ _ _ _ _ _ _ _ _ _ _ _ _ _ _ _ _ infR minf w (Lib.hid fun w => of6_none x1 x2 w hx1 hx2 ex) (Lib.hid fun w => of6_full y1 y2 w hy1 hy2 ey)
        (Lib.hid fun A l c B k d A2 l2 c2 B2 k2 d2 A3 l3 c3 B3 k3 d3 A4 l4 c4 B4 k4 d4 w h1 h2 h3 h4 => plus6_none1 0 false A l c B k d 0 0 0 false A2 l2 c2 B2 k2 d2 0 0 false (bI (rdLo y1 y2)) (bNeg (rdLo y1 y2)) A3 l3 c3 B3 k3 d3 0 0 (bI (rdHi y1 y2)) (bNeg (rdHi y1 y2)) A4 l4 c4 B4 k4 d4 0 0 w)
        (Lib.hid fun A l c B k d A2 l2 c2 B2 k2 d2 w h1 h2 => least6_none 0 false A l c B k d _ _ 0 false A2 l2 c2 B2 k2 d2 _ _ w h1 h2)
  · by_cases ey : emp y1 y2
    · have e1 : iaLo x1 x2 y1 y2 = infR := if_pos (.inr ey)
      have e2 : iaHi x1 x2 y1 y2 = minf := if_pos (.inr ey)
      rw [e1, e2]
      exact add6_gen x1 x2 y1 y2 _ _ _ _ _ _ _ _ _ _ _ _ _ _ _ _ _ _ _ _ _ _ _ _ _ _ _ infR minf w (Lib.hid fun w => of6_full x1 x2 w hx1 hx2 ex) (Lib.hid fun w => of6_none y1 y2 w hy1 hy2 ey)
        (Lib.hid fun A l c B k d A2 l2 c2 B2 k2 d2 A3 l3 c3 B3 k3 d3 A4 l4 c4 B4 k4 d4 w h1 h2 h3 h4 => plus6_none2 (bI (rdLo x1 x2)) (bNeg (rdLo x1 x2)) A l c B k d 0 0 (bI (rdHi x1 x2)) (bNeg (rdHi x1 x2)) A2 l2 c2 B2 k2 d2 0 0 true 0 false A3 l3 c3 B3 k3 d3 0 0 0 false A4 l4 c4 B4 k4 d4 0 0 w)
        (Lib.hid fun A l c B k d A2 l2 c2 B2 k2 d2 w h1 h2 => least6_none 0 false A l c B k d _ _ 0 false A2 l2 c2 B2 k2 d2 _ _ w h1 h2)
    · have e1 : iaLo x1 x2 y1 y2 = addR (-1) (rdLo x1 x2) (rdLo y1 y2) := if_neg (by intro h; rcases h with h | h; exact ex h; exact ey h)
      have e2 : iaHi x1 x2 y1 y2 = addR 1 (rdHi x1 x2) (rdHi y1 y2) := if_neg (by intro h; rcases h with h | h; exact ex h; exact ey h)
      obtain ⟨g1, g2, g3, g4, g5, g6, _, _⟩ := rd_ends hx1 hx2 ex
      obtain ⟨k1, k2, k3, k4, k5, k6, _, _⟩ := rd_ends hy1 hy2 ey
      rw [e1, e2, ← sum_lo g1 k1 g3 k3 g5 k5, ← sum_hi g2 k2 g4 k4 g6 k6]
      obtain ⟨s1, s2, s3⟩ := sum_sz (rdLo x1 x2) (rdLo y1 y2)
      obtain ⟨t1, t2, t3⟩ := sum_sz (rdHi x1 x2) (rdHi y1 y2)
      exact add6_gen x1 x2 y1 y2 _ _ _ _ _ _ _ _ _ _ _ _ _ _ _ _ _ _ _ _ _ _ _ _ _ _ _ _ _ w (Lib.hid fun w => of6_full x1 x2 w hx1 hx2 ex) (Lib.hid fun w => of6_full y1 y2 w hy1 hy2 ey)
        (Lib.hid fun A l c B k d A2 l2 c2 B2 k2 d2 A3 l3 c3 B3 k3 d3 A4 l4 c4 B4 k4 d4 w h1 h2 h3 h4 => plus6_full (bI (rdLo x1 x2)) (bNeg (rdLo x1 x2)) A l c B k d (bN (rdLo x1 x2)) (bD (rdLo x1 x2)) (bI (rdHi x1 x2)) (bNeg (rdHi x1 x2)) A2 l2 c2 B2 k2 d2 (bN (rdHi x1 x2)) (bD (rdHi x1 x2)) (bI (rdLo y1 y2)) (bNeg (rdLo y1 y2)) A3 l3 c3 B3 k3 d3 (bN (rdLo y1 y2)) (bD (rdLo y1 y2)) (bI (rdHi y1 y2)) (bNeg (rdHi y1 y2)) A4 l4 c4 B4 k4 d4 (bN (rdHi y1 y2)) (bD (rdHi y1 y2)) w h1 h2 h3 h4
          (sI (rdLo x1 x2) (rdLo y1 y2)) (sS (rdLo x1 x2) (rdLo y1 y2)) (sN (rdLo x1 x2) (rdLo y1 y2)) (sD (rdLo x1 x2) (rdLo y1 y2)) (sI (rdHi x1 x2) (rdHi y1 y2)) (sS (rdHi x1 x2) (rdHi y1 y2)) (sN (rdHi x1 x2) (rdHi y1 y2)) (sD (rdHi x1 x2) (rdHi y1 y2))
          (Lib.hid fun w a b => sum6_b (rdLo x1 x2) (rdLo y1 y2) A l c B k d A3 l3 c3 B3 k3 d3 w a b) (Lib.hid fun w a b => sum6_b (rdHi x1 x2) (rdHi y1 y2) A2 l2 c2 B2 k2 d2 A4 l4 c4 B4 k4 d4 w a b))
        (Lib.hid fun A l c B k d A2 l2 c2 B2 k2 d2 w h1 h2 => least6_full (sI (rdLo x1 x2) (rdLo y1 y2)) (sS (rdLo x1 x2) (rdLo y1 y2)) A l c B k d (sN (rdLo x1 x2) (rdLo y1 y2)) (sD (rdLo x1 x2) (rdLo y1 y2)) (sI (rdHi x1 x2) (rdHi y1 y2)) (sS (rdHi x1 x2) (rdHi y1 y2)) A2 l2 c2 B2 k2 d2 (sN (rdHi x1 x2) (rdHi y1 y2)) (sD (rdHi x1 x2) (rdHi y1 y2)) w h1 h2 s1 s2 t1 t2 s3 t3)
end Go.Proofs.Ytllfcklgljdgeaa
