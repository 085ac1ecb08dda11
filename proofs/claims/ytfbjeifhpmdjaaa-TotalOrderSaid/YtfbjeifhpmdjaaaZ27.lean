/-
  Plain: how great a sum is; patterns of numbers; a number that is doubled. Conditions: those that each theorem names.
-/
import Derived.Test.YtfbjeifhpmdjaaaZ26
import Derived.Test.YtfbjeifhpmdjaaaZ02
import Derived.Test.YtfbjeifhpmdjaaaZ01
import Derived.Test.YtfbjeifhpmdjaaaZ24
import Derived.Test.YtfbjeifhpmdjaaaZ04
import Derived.Deep.DeepCutAuto
namespace Go.Proofs.Ytfbjeifhpmdjaaa
open Nm Rn
set_option linter.unusedVariables false
set_option linter.unusedSimpArgs false

def B99 : Nat := 2 ^ 2099
theorem B99_def : B99 = 2 ^ 2099 := by unfold B99; rfl
theorem B99_pos : 0 < B99 := by
  obtain ⟨c, hc⟩ : ∃ c, c = 2099 := ⟨_, rfl⟩
  rw [B99_def, ← hc]
  exact two_pow_pos c
theorem K74_le : K74 ≤ B99 := by
  have : ∀ a b : Nat, a ≤ b → 2 ^ a ≤ 2 ^ b := fun a b h => Nat.pow_le_pow_right (by omega) h
  rw [K74_def, B99_def]
  exact this 1074 2099 (by omega)
theorem sv_le (b : Nat) (hf : mg b < infR) : (sv b).natAbs ≤ B99 := by
  have h1 := fb_rv b
  have h2 := fbSig_lt b
  have h3 := fbExp_hi b
  have h4 : (sv b).natAbs = rv (mg b) := by unfold sv; split <;> omega
  rw [h4, h1, B99_def]
  have hp : ∀ e c : Nat, e + 53 ≤ c → fbSig b * 2 ^ e ≤ 2 ^ c := fun e c he => by
    have a1 : fbSig b * 2 ^ e ≤ 2 ^ 53 * 2 ^ e := Nat.mul_le_mul_right _ (by omega)
    rw [← Nat.pow_add] at a1
    exact Nat.le_trans a1 (Nat.pow_le_pow_right (by omega) (by omega))
  exact hp _ 2099 (by omega)
/-- What one term brings at most. -/
def BG : Nat := B99 * B99
theorem BG_pos : 0 < BG := Nat.mul_pos B99_pos B99_pos
theorem BG_mm : 2 * (4611686018427387904 * BG) < MM := by
  obtain ⟨c, hc⟩ : ∃ c, c = 2099 := ⟨_, rfl⟩
  obtain ⟨e, he⟩ : ∃ e, e = 68 := ⟨_, rfl⟩
  have h1 : BG = 2 ^ (c + c) := by unfold BG; rw [B99_def, ← hc, ← Nat.pow_add]
  have h2 : MM = 2 ^ (64 * e) := by rw [← pow64, he]; rfl
  have h3 : 2 * (4611686018427387904 * 2 ^ (c + c)) = 2 ^ (63 + (c + c)) := by rw [Nat.pow_add 2 63 (c + c), show (2 : Nat) ^ 63 = 2 * 4611686018427387904 from rfl, Nat.mul_assoc]
  rw [h1, h2, h3]
  exact Nat.pow_lt_pow_right (by omega) (by omega)
theorem one_le {x : Nat} (hf : mg x < infR) : (sv x * (K74 : Int)).natAbs ≤ BG := by
  rw [Int.natAbs_mul, Int.natAbs_natCast]
  exact Nat.mul_le_mul (sv_le x hf) K74_le
theorem two_le {x y : Nat} (hf : mg x < infR) (hg : mg y < infR) : (sv x * sv y).natAbs ≤ BG := by
  rw [Int.natAbs_mul]
  exact Nat.mul_le_mul (sv_le x hf) (sv_le y hg)
/-- A sum whose number is not too great for its words. -/
def Sm.Ok (S : Sm) : Prop := S.t ≤ 4611686018427387904 ∧ (S.n = false → S.T.natAbs ≤ S.t * BG)
theorem Sm.Ok.nil : Sm.nil.Ok := ⟨by decide, fun _ => by unfold Sm.nil; simp⟩
theorem cntN_false {b : Bool} {t k : Nat} (h : cntN b t k = false) : b = false ∧ t + k ≤ 4611686018427387904 ∧ cnt t k = t + k := by
  unfold cntN at h
  rw [Bool.or_eq_false_iff, decide_eq_false_iff_not] at h
  exact ⟨h.1, by omega, by unfold cnt; rw [if_neg h.2]⟩
theorem Sm.Ok.lay {S : Sm} {X : Int} (h : S.Ok) (hX : X.natAbs ≤ BG) : ((S.more 1).lay X).Ok := by
  refine ⟨cnt_le _ _, fun hn => ?_⟩
  obtain ⟨h1, h2, h3⟩ := cntN_false hn
  have h4 := h.2 h1
  show (S.T + X).natAbs ≤ cnt S.t 1 * BG
  rw [h3, Nat.add_mul, Nat.one_mul]
  omega
theorem Sm.Ok.add {S : Sm} {x : Nat} (h : S.Ok) (hx : x < 18446744073709551616) : (S.add x).Ok := by
  unfold Sm.add
  rcases kind x with ⟨n1, i1, k1⟩ | ⟨n1, i1, k1⟩ | ⟨n1, i1, k1⟩
  · rw [n1, if_pos rfl]
    exact ⟨cnt_le _ _, fun hn => by cases hn⟩
  · rw [n1, i1, if_neg (by simp), if_pos rfl]
    have hk : ∀ p m, (⟨S.T, p, m, cntN S.n S.t 1, cnt S.t 1⟩ : Sm).Ok := fun p m => by
      refine ⟨cnt_le _ _, fun hn => ?_⟩
      obtain ⟨h1, h2, h3⟩ := cntN_false hn
      have h4 := h.2 h1
      show S.T.natAbs ≤ cnt S.t 1 * BG
      rw [h3, Nat.add_mul]
      omega
    split
    · exact hk _ _
    · exact hk _ _
  · rw [n1, i1, if_neg (by simp), if_neg (by simp)]
    exact h.lay (one_le k1)
theorem oddP_fin {x : Nat} (h : oddP x = false) : mg x < infR := by
  unfold oddP at h
  rw [Bool.or_eq_false_iff] at h
  rcases kind x with ⟨n1, i1, k1⟩ | ⟨n1, i1, k1⟩ | ⟨n1, i1, k1⟩
  · rw [n1] at h; cases h.1
  · rw [i1] at h; cases h.2
  · exact k1
theorem mulR_odd_lt {x y : Nat} (hx : x < 18446744073709551616) (hy : y < 18446744073709551616) (h : (oddP x || oddP y) = true) : mulR 0 x y < 18446744073709551616 := by
  rcases mul_odd hx hy (by unfold oddP at h; exact h) with ⟨_, h2⟩ | ⟨s, _, h2⟩
  · rw [h2]; decide
  · rw [h2]; unfold infP; cases s <;> decide
theorem Sm.Ok.mul {S : Sm} {x y : Nat} (h : S.Ok) (hx : x < 18446744073709551616) (hy : y < 18446744073709551616) : (S.mul x y).Ok := by
  unfold Sm.mul
  cases ho : (oddP x || oddP y)
  · rw [if_neg (by simp)]
    rw [Bool.or_eq_false_iff] at ho
    exact h.lay (two_le (oddP_fin ho.1) (oddP_fin ho.2))
  · rw [if_pos rfl]
    exact h.add (mulR_odd_lt hx hy ho)
theorem Sm.Ok.merge {S O : Sm} (h : S.Ok) (g : O.Ok) : (S.merge O).Ok := by
  refine ⟨cnt_le _ _, fun hn => ?_⟩
  have hn' : (cntN S.n S.t O.t || O.n) = false := hn
  rw [Bool.or_eq_false_iff] at hn'
  obtain ⟨h1, h2, h3⟩ := cntN_false hn'.1
  have h4 := h.2 h1
  have h5 := g.2 hn'.2
  show (S.T + O.T).natAbs ≤ cnt S.t O.t * BG
  rw [h3, Nat.add_mul]
  omega
theorem Sm.Ok.neg {S : Sm} (h : S.Ok) : S.neg.Ok := ⟨h.1, fun hn => by have := h.2 hn; show (-S.T).natAbs ≤ _; rw [Int.natAbs_neg]; exact this⟩
/-- It fits. -/
theorem Sm.Ok.fit {S : Sm} (h : S.Ok) (hs : S.state = 0) : 2 * S.T.natAbs < MM := by
  have hn : S.n = false := by
    unfold Sm.state stt at hs
    cases hn : S.n
    · rfl
    · rw [hn, Bool.true_or, if_pos rfl] at hs; cases hs
  have h1 := h.2 hn
  have h2 : S.t * BG ≤ 4611686018427387904 * BG := Nat.mul_le_mul_right _ h.1
  have h3 := BG_mm
  omega

/-- A pattern, as one of a number. -/
def numP (x : Nat) : Nat := if x / 4503599627370496 % 2048 = 2047 then x &&& 9227875636482146303 else x
theorem numP_lt {x : Nat} (h : x < 18446744073709551616) : numP x < 18446744073709551616 := by
  unfold numP
  split
  · exact Nat.lt_of_le_of_lt Nat.and_le_left h
  · exact h
theorem numP_fin (x : Nat) : mg (numP x) < infR := by
  unfold numP mg
  rw [infR_val]
  split
  · have h1 : (x &&& 9227875636482146303) % 2 ^ 63 = (x % 2 ^ 63) &&& (9227875636482146303 % 2 ^ 63) := Nat.and_mod_two_pow
    have h2 : (x % 2 ^ 63) &&& (9227875636482146303 % 2 ^ 63) ≤ 9227875636482146303 % 2 ^ 63 := Nat.and_le_right
    rw [show (9223372036854775808 : Nat) = 2 ^ 63 from rfl, h1]
    refine Nat.lt_of_le_of_lt h2 (by decide)
  · omega
theorem fin_nan {x : Nat} (h : mg x < infR) : isNaN x = false := by unfold isNaN; exact decide_eq_false (by omega)
theorem fin_inf {x : Nat} (h : mg x < infR) : isInf x = false := by unfold isInf; exact decide_eq_false (by omega)
theorem add_fin {S : Sm} {x : Nat} (h : mg x < infR) : S.add x = (S.more 1).lay (sv x * (K74 : Int)) := by
  unfold Sm.add
  rw [fin_nan h, fin_inf h, if_neg (by simp), if_neg (by simp)]
theorem mul_fin {S : Sm} {x y : Nat} (h : mg x < infR) (g : mg y < infR) : S.mul x y = (S.more 1).lay (sv x * sv y) := by
  unfold Sm.mul oddP
  rw [fin_nan h, fin_inf h, fin_nan g, fin_inf g, if_neg (by simp)]
/-- Merged with itself so many times. -/
def dbl (X : Nat) : Nat → Sm
  | 0 => Sm.nil.add X
  | k + 1 => (dbl X k).merge (dbl X k)
theorem dbl_ok {X : Nat} (hX : X < 18446744073709551616) : ∀ k, (dbl X k).Ok
  | 0 => Sm.Ok.nil.add hX
  | k + 1 => (dbl_ok hX k).merge (dbl_ok hX k)
theorem dbl_val {X : Nat} (h : mg X < infR) : ∀ k, (dbl X k).T = sv X * (K74 : Int) * ((2 ^ k : Nat) : Int) ∧ (dbl X k).p = false ∧ (dbl X k).m = false ∧ (k ≤ 62 → (dbl X k).n = false ∧ (dbl X k).t = 2 ^ k) ∧ (62 < k → (dbl X k).n = true ∧ (dbl X k).t = 4611686018427387904)
  | 0 => by
    rw [dbl, add_fin h]
    exact ⟨by simp [Sm.more, Sm.lay, Sm.nil], rfl, rfl, fun _ => ⟨rfl, rfl⟩, fun h => by omega⟩
  | k + 1 => by
    obtain ⟨h1, h2, h3, h4, h5⟩ := dbl_val h k
    rw [dbl]
    refine ⟨?_, ?_, ?_, fun hk => ?_, fun hk => ?_⟩
    · show (dbl X k).T + (dbl X k).T = _
      rw [h1, ← Int.mul_add, Nat.pow_succ]
      congr 1
      omega
    · show ((dbl X k).p || (dbl X k).p) = false
      rw [h2]; rfl
    · show ((dbl X k).m || (dbl X k).m) = false
      rw [h3]; rfl
    · obtain ⟨h6, h7⟩ := h4 (by omega)
      have hb : 2 ^ (k + 1) ≤ 4611686018427387904 := Nat.pow_le_pow_right (n := 2) (by omega) hk
      show (cntN (dbl X k).n (dbl X k).t (dbl X k).t || (dbl X k).n) = false ∧ cnt (dbl X k).t (dbl X k).t = _
      unfold cntN cnt
      rw [h6, h7, show 2 ^ k + 2 ^ k = 2 ^ (k + 1) by rw [Nat.pow_succ]; omega, decide_eq_false (by omega), if_neg (by omega)]
      exact ⟨rfl, rfl⟩
    · show (cntN (dbl X k).n (dbl X k).t (dbl X k).t || (dbl X k).n) = true ∧ cnt (dbl X k).t (dbl X k).t = _
      unfold cntN cnt
      rcases Nat.lt_or_ge 62 k with hl | hl
      · obtain ⟨h6, h7⟩ := h5 hl
        rw [h6, h7]
        exact ⟨rfl, rfl⟩
      · have hk62 : k = 62 := by omega
        subst hk62
        obtain ⟨h6, h7⟩ := h4 (by omega)
        rw [h6, h7]
        exact ⟨rfl, rfl⟩
theorem dbl_lo {X : Nat} (h : mg X < infR) {k : Nat} (hk : k ≤ 62) : (dbl X k).state = 0 := by
  obtain ⟨_, h2, h3, h4, _⟩ := dbl_val h k
  unfold Sm.state
  rw [h2, h3, (h4 hk).1]
  rfl
theorem dbl_hi {X : Nat} (h : mg X < infR) {k : Nat} (hk : 62 < k) : (dbl X k).state = 2 := by
  obtain ⟨_, h2, h3, _, h5⟩ := dbl_val h k
  unfold Sm.state
  rw [h2, h3, (h5 hk).1]
  rfl
/-- Of, at the number that the law hands it. -/
theorem dbl_of {X : Nat} (h : mg X < infR) {k : Nat} (hk : k ≤ 62) (d : Int) : ofR d (sg X && decide (mg X ≠ 0)) (fbN X * 2 ^ k) (1 - (bl (fbD X) : Int)) = rT d (dbl X k).T := by
  obtain ⟨h1, _⟩ := dbl_val h k
  obtain ⟨_, ⟨a, ha, _⟩, _⟩ := DR.one X
  have hbD : bl (fbD X) = a + 1 := by rw [ha]; exact bl_eq_of (Nat.le_refl _) (Nat.pow_lt_pow_right (by omega) (by omega))
  have hNw := fbN_bits X
  have hDw := fbD_bits X
  rw [nw_bl] at hNw hDw
  have hb : bl (fbN X * 2 ^ k) ≤ 524288 := by
    by_cases h0 : fbN X = 0
    · rw [h0, Nat.zero_mul]; exact Nat.zero_le _
    · rw [bl_mul_pow k h0]; omega
  rw [ofR_zd d _ hb (by omega) (by omega), ← zd_two, h1]
  obtain ⟨c, hc⟩ : ∃ c : Nat, c = 1074 := ⟨_, rfl⟩
  refine rT_dy (A := c + c) (B := a) (by omega) ?_
  have h3 := fb_sv X
  rw [ha] at h3
  rw [K74_def, ← hc] at h3 ⊢
  rw [← sn_mul, Nat.pow_add]
  push_cast at h3 ⊢
  generalize sn (sg X && decide (mg X ≠ 0)) (fbN X) = p at *
  generalize (2 : Int) ^ c = u at *
  generalize (2 : Int) ^ a = v at *
  generalize (2 : Int) ^ k = z at *
  rw [Int.mul_assoc p z, Int.mul_comm z, ← Int.mul_assoc, ← Int.mul_assoc, h3]
  rw [Int.mul_right_comm (sv X) v u, Int.mul_right_comm (sv X * u) v z]
end Go.Proofs.Ytfbjeifhpmdjaaa

/-
  The contracts of layer 4's law package: number, take. Conditions: those that each theorem names.
-/
namespace Go.Proofs.Ytfbjeifhpmdjaaa
open Go.RowKit Nm Rn
set_option maxRecDepth 100000
set_option linter.unusedVariables false
set_option linter.unusedSimpArgs false

set_option maxHeartbeats 400000 in
theorem fin4_any (b : Nat) (w : World) (hb : b < 18446744073709551616) :
    Calls Try.prog 48 #[.int .u64 (b : Int)] w fun e w' => e = .returned (.bool (!decide (b / 4503599627370496 % 2048 = 2047))) ∧ w = w' := by
  obtain ⟨E, hE⟩ : ∃ E, E = b / 4503599627370496 % 2048 := ⟨_, rfl⟩
  have g1 : bits .and .u64 ((b : Int) / 4503599627370496) 2047 = (E : Int) := by
    rw [show (b : Int) / 4503599627370496 = ((b / 4503599627370496 : Nat) : Int) by omega, show (2047 : Int) = ((2047 : Nat) : Int) from rfl, u64_and_nat _ _ (by omega) (by omega), nat_mask11, hE]
  have HF : Hid ((!((E : Int) == 2047)) = (!decide (b / 4503599627370496 % 2048 = 2047))) := Lib.hid (by
    rw [← hE]
    congr 1
    rw [Bool.eq_iff_iff, beq_iff_eq, decide_eq_true_iff]
    omega)
  clear hE hb
  go_enter Try.func48, Try.ntmps48
  go_wp2
  go_ret
  exact ⟨ret_bool HF.out, rfl⟩
set_option maxHeartbeats 400000 in
theorem num4_any (b : Nat) (w : World) (hb : b < 18446744073709551616) :
    Calls Try.prog 13 #[.int .u64 (b : Int)] w fun e w' => e = .returned (.int .u64 (numP b : Nat)) ∧ w = w' := by
  have hf := fun w => fin4_any b w hb
  have ha : bits .andNot .u64 (b : Int) 9218868437227405312 = ((b &&& 9227875636482146303 : Nat) : Int) := by
    have := u64_andNot_nat b 9218868437227405312 hb (by omega)
    exact this
  unfold numP
  by_cases h : b / 4503599627370496 % 2048 = 2047
  · rw [decide_eq_true h] at hf
    rw [if_pos h]
    have HF := Lib.hid hf
    clear hf h hb
    go_enter Try.func13, Try.ntmps13
    go_wp2_with (go_at_call 48; (with_reducible refine (HF.out _).mono ?_); rintro e w2 ⟨rfl, rfl⟩)
    go_ret
    exact ⟨rfl, rfl⟩
  · rw [decide_eq_false h] at hf
    rw [if_neg h]
    have HF := Lib.hid hf
    clear hf h hb ha
    go_enter Try.func13, Try.ntmps13
    go_wp2_with (go_at_call 48; (with_reducible refine (HF.out _).mono ?_); rintro e w2 ⟨rfl, rfl⟩)
    go_ret
    exact ⟨rfl, rfl⟩

/-- A term is taken. -/
def Sm.take (S : Sm) (X Y : Nat) (b : Bool) : Sm := if b then S.mul X Y else S.add X
theorem Sm.Ok.take {S : Sm} {X Y : Nat} {b : Bool} (h : S.Ok) (hx : X < 18446744073709551616) (hy : Y < 18446744073709551616) : (S.take X Y b).Ok := by
  unfold Sm.take
  split
  · exact h.mul hx hy
  · exact h.add hx
section
variable {w0 w : World} {L : List Bx} {W : List Sw} {g : Nat}
theorem Own.tail2 {b c : Bx} (h : Own w0 (b :: c :: L) W w) : Own w0 (b :: L) W w := h.drop2
set_option maxHeartbeats 4000000 in
theorem take4_any (Z : Sm) (X Y : Nat) (b : Bool) (hS : Z.Ok) (hX : X < 18446744073709551616) (hY : Y < 18446744073709551616) (hO : Own w0 (⟨g, 36, Z.cs⟩ :: L) W w) :
    Calls Try.prog 14 #[.pointer (some ⟨g, 0, none⟩), .agg #[.int .u64 (X : Int), .int .u64 (Y : Int), .bool b]] w fun e w' => e = .returned (.tuple #[]) ∧ Own w0 (⟨g, 36, (Z.take X Y b).cs⟩ :: L) W w' := by
  have HFX := Lib.hid (fun w => fl4_any X w)
  have HFY := Lib.hid (fun w => fl4_any Y w)
  have HMU := Lib.hid (fun w L h => tmul_any (w0 := w0) (w := w) (L := L) (W := W) (g := g) Z X Y hS.1 hX hY h)
  have HAD := Lib.hid (fun w L h => tadd_any (w0 := w0) (w := w) (L := L) (W := W) (g := g) Z X hS.1 hX h)
  clear hS hX hY
  have hf : True := trivial
  unfold Sm.take
  cases b
  · rw [if_neg (by simp)]
    go_enter Try.func14, Try.ntmps14
    go_wp2_with (first | ((with_reducible refine at_box ?_); refine own_box (cs := [.int .u64 (X : Int), .int .u64 (Y : Int), .bool false]) hO rfl rfl ?_; clear hO; intro g3 w3 hO; clear hf; have hf := hO.cells; simp only [BC, CC, Nat.zero_add, Nat.reduceAdd, and_true] at hf) | (go_at_call 12; (with_reducible refine (HFX.out _).mono ?_); rintro e w2 ⟨rfl, rfl⟩) | (go_at_call 11; (with_reducible refine (HAD.out _ _ hO.swap).mono ?_); rintro e w1 ⟨rfl, hO1⟩; clear hO hf; have hO := hO1.tail2; clear hO1))
    go_end0
    exact ⟨rfl, hO⟩
  · rw [if_pos rfl]
    go_enter Try.func14, Try.ntmps14
    go_upto_region 2 with ((with_reducible refine at_box ?_); refine own_box (cs := [.int .u64 (X : Int), .int .u64 (Y : Int), .bool true]) hO rfl rfl ?_; clear hO; intro g3 w3 hO; clear hf; have hf := hO.cells; simp only [BC, CC, Nat.zero_add, Nat.reduceAdd, and_true] at hf)
    obtain ⟨S, hS⟩ : ∃ S : World → Prop, S = Own w0 (⟨g3, 33, [.int .u64 (X : Int), .int .u64 (Y : Int), .bool true]⟩ :: ⟨g, 36, Z.cs⟩ :: L) W := ⟨_, rfl⟩
    have hSE : ∀ w w', S w → Ext w w' → S w' := fun w w' h1 h2 => by rw [hS] at h1 ⊢; exact h1.ext h2
    have hS1 : S w3.drew := by rw [hS]; exact hO.ext (Ext.refl w3).drew
    have HS := Lib.hid hS
    clear hS hO hf
    obtain ⟨sp, hsp⟩ : ∃ sp : Nat → Sp, sp = ofList [det (.pointer (some ⟨g, 0, none⟩)), det (.pointer (some ⟨g3, 0, none⟩)), det (.int .u64 (X : Int)), det (.float .f64 X), det (.pointer (some ⟨g3, 1, none⟩)), det (.int .u64 (Y : Int)), det (.float .f64 Y)] := ⟨_, rfl⟩
    have HSP := Lib.hid hsp
    clear hsp
    refine wp_region_loose 7 S sp (by kernel_rfl) (by kernel_rfl) hS1 hSE ?_
    simp only [List.take_succ_cons, List.take_zero, List.drop_succ_cons, List.drop_zero]
    iterate 3
      refine wpX_step (fun K hK => ?_)
      go_simp
      refine StepY.det (by rw [HSP.out]; rfl) ?_ ?_
      · intro wz hz hF
        rw [HS.out] at hz
        have hf := hz.cells
        simp only [BC, CC, Nat.zero_add, Nat.reduceAdd, and_true] at hf
        clear hz hF
        go_simp
        exact ⟨rfl, Ext.refl _⟩
      refine hK _ _ ?_
      clear hK K
    refine wpX_step (fun K hK => ?_)
    go_simp
    refine StepY.det (by rw [HSP.out]; rfl) ?_ ?_
    · intro wz hz hF
      clear hz hF
      go_simp
      refine (HFX.out _).mono ?_
      rintro e w5 ⟨rfl, rfl⟩
      exact ⟨_, rfl, rfl, Ext.refl _⟩
    refine hK _ _ ?_
    clear hK K
    iterate 2
      refine wpX_step (fun K hK => ?_)
      go_simp
      refine StepY.det (by rw [HSP.out]; rfl) ?_ ?_
      · intro wz hz hF
        rw [HS.out] at hz
        have hf := hz.cells
        simp only [BC, CC, Nat.zero_add, Nat.reduceAdd, and_true] at hf
        clear hz hF
        go_simp
        exact ⟨rfl, Ext.refl _⟩
      refine hK _ _ ?_
      clear hK K
    refine wpX_step (fun K hK => ?_)
    go_simp
    refine StepY.det (by rw [HSP.out]; rfl) ?_ ?_
    · intro wz hz hF
      clear hz hF
      go_simp
      refine (HFY.out _).mono ?_
      rintro e w5 ⟨rfl, rfl⟩
      exact ⟨_, rfl, rfl, Ext.refl _⟩
    refine hK _ _ ?_
    clear hK K
    refine wpX_nil ?_
    intro wq hz hF
    clear hF
    rw [HS.out] at hz
    have hO := hz
    clear hz HS HSP
    have hf := hO.cells
    simp only [BC, CC, Nat.zero_add, Nat.reduceAdd, and_true] at hf
    go_wp2_with (go_at_call 35; (with_reducible refine (HMU.out _ _ hO.swap).mono ?_); rintro e w1 ⟨rfl, hO1⟩; clear hO hf; have hO := hO1.tail2; clear hO1)
    go_end0
    exact ⟨rfl, hO⟩
end
end Go.Proofs.Ytfbjeifhpmdjaaa

/-
  The document's ratios: their zero and their size. Conditions: those that each theorem names.
-/
namespace Go.Proofs.Ytfbjeifhpmdjaaa
open Go.RowKit Nm
set_option maxRecDepth 100000
set_option linter.unusedVariables false
set_option linter.unusedSimpArgs false

theorem nw_mul2 (a b : Nat) : nw (a * b) ≤ nw a + nw b := by
  have h1 := lt_pow_nw a
  have h2 := lt_pow_nw b
  refine (nw_le_iff _ _).2 ?_
  rw [Nat.pow_add]
  exact Nat.mul_lt_mul'' h1 h2
theorem zero_rat (w : World) : (zeroValue 43).run Try.prog w = .ok (.agg #[.bool false, .slice none 0 0, .slice none 0 0]) w := by kernel_rfl
theorem agg_rat (w : World) : (isAgg 43).run Try.prog w = .ok true w := by kernel_rfl
theorem size_rat (w : World) : (sizeOf 43).run Try.prog w = .ok 3 w := by kernel_rfl

end Go.Proofs.Ytfbjeifhpmdjaaa

/-
  The contracts of the reference's ratios, second part: signs; numbers of patterns. Conditions: those that each theorem names.
-/
namespace Go.Proofs.Ytfbjeifhpmdjaaa
open Go.RowKit Nm Rn
set_option maxRecDepth 100000
set_option linter.unusedVariables false
set_option linter.unusedSimpArgs false

/-- A ratio's sign. -/
def sgnZ (neg : Bool) (n : Nat) : Int := if n = 0 then 0 else if neg then -1 else 1
set_option maxHeartbeats 1000000 in
theorem rsign_any (neg : Bool) (A : Option Addr) (l c : Nat) (xs : List Nat) (B : Option Addr) (k d : Nat) (w : World) (h : Wds w A l c xs) (hl : l ≤ 17592186044416) :
    Calls Try.prog 25 #[.agg #[.bool neg, .slice A l c, .slice B k d]] w fun e w' => e = .returned (.int .i64 (sgnZ neg (nv xs))) ∧ Ext w w' := by
  by_cases h0 : nv xs = 0
  · have hz : nw (nv xs) ≤ 0 := by rw [h0, nw_zero]; omega
    have HF : Hid ((0 : Int) = sgnZ neg (nv xs)) := Lib.hid (by rw [h0]; rfl)
    clear h0
    go_enter Try.func25, Try.ntmps25
    go_wp2_with fail
    refine (norm_any _ _ _ _ _ (h.alloc _) (by omega)).mono ?_
    rintro e w1 ⟨A1, n1, c1, rfl, hN, hE1⟩
    have hn1 : n1 ≤ 0 := by have := hN.len; rw [nd_length] at this; omega
    go_wp2
    go_ret
    exact ⟨ret_int HF.out, ((Ext.refl w).alloc _).trans hE1⟩
  · have hnx1 : 0 < nw (nv xs) := by
      rcases Nat.eq_zero_or_pos (nw (nv xs)) with e | e
      · exact absurd (nw_eq_zero.1 e) h0
      · exact e
    have HF : Hid ((if neg then (-1 : Int) else 1) = sgnZ neg (nv xs)) := Lib.hid (by unfold sgnZ; rw [if_neg h0])
    clear h0
    go_enter Try.func25, Try.ntmps25
    go_wp2_with fail
    refine (norm_any _ _ _ _ _ (h.alloc _) (by omega)).mono ?_
    rintro e w1 ⟨A1, n1, c1, rfl, hN, hE1⟩
    have hn1 : 0 < n1 := by have := hN.len; rw [nd_length] at this; omega
    have q0 : w1.cell? ⟨w.heap.size, 0, none⟩ = some (.bool neg) := ((Blk.new w 43 #[.bool neg, .slice A l c, .slice B k d]).ext hE1).cell 0
    cases neg
    all_goals
      go_wp2
      go_ret
      exact ⟨ret_int HF.out, ((Ext.refl w).alloc _).trans hE1⟩

set_option maxHeartbeats 1000000 in
theorem frombits_any (b : Nat) (w : World) (hb : b < 18446744073709551616) :
    Calls Try.prog 22 #[.int .u64 (b : Int)] w (RetR (sg b && decide (mg b ≠ 0)) (fbN b) (fbD b) w) := by
  obtain ⟨E, hE⟩ : ∃ E, E = b / 4503599627370496 % 2048 := ⟨_, rfl⟩
  obtain ⟨F, hF⟩ : ∃ F, F = b % 4503599627370496 := ⟨_, rfl⟩
  have g1 : bits .and .u64 ((b : Int) / 4503599627370496) 2047 = (E : Int) := by
    rw [show (b : Int) / 4503599627370496 = ((b / 4503599627370496 : Nat) : Int) by omega, show (2047 : Int) = ((2047 : Nat) : Int) from rfl, u64_and_nat _ _ (by omega) (by omega), nat_mask11, hE]
  have g2 : bits .and .u64 (b : Int) 4503599627370495 = (F : Int) := by
    rw [show (4503599627370495 : Int) = ((4503599627370495 : Nat) : Int) from rfl, u64_and_nat _ _ (by omega) (by omega), hF]
    congr 1
    exact Nat.and_two_pow_sub_one_eq_mod b 52
  have hEb : E < 2048 := by omega
  have hFb : F < 4503599627370496 := by omega
  obtain ⟨T, hT⟩ : ∃ T, T = b / 9223372036854775808 := ⟨_, rfl⟩
  have g3 : (b : Int) / 9223372036854775808 = (T : Int) := by omega
  have hS : Hid (sg b = decide (T = 1)) := Lib.hid (by unfold sg; rw [hT]; exact decide_eq_decide.2 (by omega))
  have hTb : T ≤ 1 := by omega
  have hsig : Hid (fbSig b = if E = 0 then F else F + 4503599627370496) := Lib.hid (by unfold fbSig; rw [hE, hF])
  have hexp : Hid (fbExp b = (if E = 0 then 0 else (E : Int) - 1) - 1074) := Lib.hid (by unfold fbExp; rw [hE])
  have hzero := Lib.hid (fbSig_zero b)
  have hNe : Hid (fbN b = fracN (fbSig b) 1 (fbExp b)) := Lib.hid rfl
  have hDe : Hid (fbD b = fracD (fbSig b) 1 (fbExp b)) := Lib.hid rfl
  have hSZ := Lib.hid (show (sg b && decide (mg b ≠ 0)) = (decide (T = 1) && decide (fbSig b ≠ 0)) by
    rw [hS.out]; simp only [ne_eq, hzero.out])
  have HB := Lib.hid hb
  have hbsz := fbSig_lt b
  have hbe1 := fbExp_lo b
  have hbe2 := fbExp_hi b
  obtain ⟨G, hG⟩ : ∃ G, G = fbSig b := ⟨_, rfl⟩
  obtain ⟨X, hX⟩ : ∃ X, X = fbExp b := ⟨_, rfl⟩
  rw [← hG] at hsig hNe hDe hSZ hbsz
  rw [← hX] at hexp hNe hDe hbe1 hbe2
  have hs1 : Hid (E = 0 → F = G ∧ X = -1074) := Lib.hid (fun h => by rw [hsig.out, hexp.out, if_pos h, if_pos h]; exact ⟨rfl, rfl⟩)
  have hs2 : Hid (E ≠ 0 → F + 4503599627370496 = G ∧ X = (E : Int) - 1 - 1074) := Lib.hid (fun h => by rw [hsig.out, hexp.out, if_neg h, if_neg h]; exact ⟨rfl, rfl⟩)
  have HGb := Lib.hid hbsz
  clear hb hE hF hT hG hX hbsz
  have hsm : ∀ w, Calls Try.prog 55 #[.int .u64 (G : Int)] w (RetW G w) := fun w => by
    have := small_any (G : Int) w (by omega) (by have := HGb.out; omega)
    rwa [Int.toNat_natCast] at this
  have HSM := Lib.hid hsm
  clear hsm
  have hd1 : T = 0 ∨ T = 1 := by omega
  clear hTb
  by_cases hE0 : E = 0
  · obtain ⟨e1, e2⟩ := hs1.out hE0
    have hE1 : E ≤ 0 := by omega
    have g4 : (F : Int) = (G : Int) := by omega
    have HX : Hid ((E : Int) - 1074 = X) := Lib.hid (by rw [e2]; omega)
    rw [g4] at g2
    clear hE0 e1 e2 hFb g4
    rcases hd1 with hd1 | hd1
    all_goals
      rw [hd1] at g3
      have HT := Lib.hid hd1
      clear hd1
      obtain ⟨sB, hsB⟩ : ∃ sB, sB = (decide (T = 1)) := ⟨_, rfl⟩
      obtain ⟨nb, hnb⟩ : ∃ nb, nb = (sg b && decide (mg b ≠ 0)) := ⟨_, rfl⟩
      obtain ⟨N, hN⟩ : ∃ N, N = fbN b := ⟨_, rfl⟩
      obtain ⟨D, hD⟩ : ∃ D, D = fbD b := ⟨_, rfl⟩
      rw [← hnb, ← hN, ← hD]
      have HNB : Hid (nb = (sB && decide (G ≠ 0))) := Lib.hid (by rw [hnb, hSZ.out, hsB])
      have HN : Hid (N = fracN G 1 X) := Lib.hid (by rw [hN, hNe.out])
      have HD : Hid (D = fracD G 1 X) := Lib.hid (by rw [hD, hDe.out])
      have HSB : Hid (sB = decide (T = 1)) := Lib.hid hsB
      clear hnb hN hD hsB
      go_enter Try.func22, Try.ntmps22
      go_wp2_with fail
      refine (HSM.out _).mono ?_
      rintro e w1 ⟨A1, n1, c1, rfl, h1, hEx1⟩
      have h2 := h1.alloc (.cells #[.int .u32 1] 83)
      have h3 := one_wds w1 rfl
      have hn1 : n1 ≤ 2 := by
        have := h1.len
        rw [nd_length] at this
        have := nw_of_bits (x := G) (k := 53) (m := 2) HGb.out (by omega)
        omega
      have hblk := ((Blk.new w 43 #[.bool false, .slice none 0 0, .slice none 0 0]).ext hEx1).ext ((Ext.refl w1).alloc (.cells #[.int .u32 1] 83))
      have hEx : Ext w (w1.alloc (.cells #[.int .u32 1] 83)) := (((Ext.refl w).alloc _).trans hEx1).alloc _
      have hfr := frac_any sB A1 n1 c1 (nd G) (some ⟨w1.heap.size, 0, none⟩) 1 1 [1] X (w1.alloc (.cells #[.int .u32 1] 83)) h2 (by omega) h3 (by omega) (by omega) (by omega) (by simp [nv])
      rw [nv_nd, show nv [1] = 1 from rfl, ← HNB.out, ← HN.out, ← HD.out, ← HX.out, HSB.out, HT.out] at hfr
      have HFR := Lib.hid hfr
      clear hfr h3
      go_wp2_with fail
      refine HFR.out.mono ?_
      rintro e w2 ⟨A2, n2, c2, A3, n3, c3, rfl, hr1, hr2, hEx2⟩
      have hblk2 := hblk.ext hEx2
      have hExw := hEx.trans hEx2
      obtain ⟨G0, hG0⟩ : ∃ G0, G0 = w.heap.size := ⟨_, rfl⟩
      rw [← hG0] at hblk2
      rw [← hG0]
      have hGw : w.heap.size ≤ G0 := by omega
      have hGl := hblk2.lt
      have q0 : w2.cell? ⟨G0, 0, none⟩ = some (.bool false) := hblk2.cell 0
      have q1 : w2.cell? ⟨G0, 1, none⟩ = some (.slice none 0 0) := hblk2.cell 1
      have q2 : w2.cell? ⟨G0, 2, none⟩ = some (.slice none 0 0) := hblk2.cell 2
      have f0 := hblk2.frozen 0
      have f1 := hblk2.frozen 1
      have f2 := hblk2.frozen 2
      clear hG0
      go_wp2
      refine bodyPost_ret (v := .agg #[.bool nb, .slice A2 n2 c2, .slice A3 n3 c3]) (by simp [results, Try.results22, go_sem, hGl, q0, q1, q2]) rfl ?_
      exact ⟨_, _, _, _, _, _, rfl, hr1.set_box3 hblk2 (noInt3 _ _ _ _ _ _ _) (by simp) (by simp), hr2.set_box3 hblk2 (noInt3 _ _ _ _ _ _ _) (by simp) (by simp), hExw.set3 hGw _ _ _⟩
  · obtain ⟨e1, e2⟩ := hs2.out hE0
    have hE1 : 0 < E := by omega
    have g4 : (F : Int) + 4503599627370496 = (G : Int) := by omega
    have HX : Hid ((E : Int) - 1 - 1074 = X) := Lib.hid e2.symm
    clear hE0 e1 e2
    rcases hd1 with hd1 | hd1
    all_goals
      rw [hd1] at g3
      have HT := Lib.hid hd1
      clear hd1
      obtain ⟨sB, hsB⟩ : ∃ sB, sB = (decide (T = 1)) := ⟨_, rfl⟩
      obtain ⟨nb, hnb⟩ : ∃ nb, nb = (sg b && decide (mg b ≠ 0)) := ⟨_, rfl⟩
      obtain ⟨N, hN⟩ : ∃ N, N = fbN b := ⟨_, rfl⟩
      obtain ⟨D, hD⟩ : ∃ D, D = fbD b := ⟨_, rfl⟩
      rw [← hnb, ← hN, ← hD]
      have HNB : Hid (nb = (sB && decide (G ≠ 0))) := Lib.hid (by rw [hnb, hSZ.out, hsB])
      have HN : Hid (N = fracN G 1 X) := Lib.hid (by rw [hN, hNe.out])
      have HD : Hid (D = fracD G 1 X) := Lib.hid (by rw [hD, hDe.out])
      have HSB : Hid (sB = decide (T = 1)) := Lib.hid hsB
      clear hnb hN hD hsB
      go_enter Try.func22, Try.ntmps22
      go_wp2_with fail
      refine (HSM.out _).mono ?_
      rintro e w1 ⟨A1, n1, c1, rfl, h1, hEx1⟩
      have h2 := h1.alloc (.cells #[.int .u32 1] 83)
      have h3 := one_wds w1 rfl
      have hn1 : n1 ≤ 2 := by
        have := h1.len
        rw [nd_length] at this
        have := nw_of_bits (x := G) (k := 53) (m := 2) HGb.out (by omega)
        omega
      have hblk := ((Blk.new w 43 #[.bool false, .slice none 0 0, .slice none 0 0]).ext hEx1).ext ((Ext.refl w1).alloc (.cells #[.int .u32 1] 83))
      have hEx : Ext w (w1.alloc (.cells #[.int .u32 1] 83)) := (((Ext.refl w).alloc _).trans hEx1).alloc _
      have hfr := frac_any sB A1 n1 c1 (nd G) (some ⟨w1.heap.size, 0, none⟩) 1 1 [1] X (w1.alloc (.cells #[.int .u32 1] 83)) h2 (by omega) h3 (by omega) (by omega) (by omega) (by simp [nv])
      rw [nv_nd, show nv [1] = 1 from rfl, ← HNB.out, ← HN.out, ← HD.out, ← HX.out, HSB.out, HT.out] at hfr
      have HFR := Lib.hid hfr
      clear hfr h3
      go_wp2_with fail
      refine HFR.out.mono ?_
      rintro e w2 ⟨A2, n2, c2, A3, n3, c3, rfl, hr1, hr2, hEx2⟩
      have hblk2 := hblk.ext hEx2
      have hExw := hEx.trans hEx2
      obtain ⟨G0, hG0⟩ : ∃ G0, G0 = w.heap.size := ⟨_, rfl⟩
      rw [← hG0] at hblk2
      rw [← hG0]
      have hGw : w.heap.size ≤ G0 := by omega
      have hGl := hblk2.lt
      have q0 : w2.cell? ⟨G0, 0, none⟩ = some (.bool false) := hblk2.cell 0
      have q1 : w2.cell? ⟨G0, 1, none⟩ = some (.slice none 0 0) := hblk2.cell 1
      have q2 : w2.cell? ⟨G0, 2, none⟩ = some (.slice none 0 0) := hblk2.cell 2
      have f0 := hblk2.frozen 0
      have f1 := hblk2.frozen 1
      have f2 := hblk2.frozen 2
      clear hG0
      go_wp2
      refine bodyPost_ret (v := .agg #[.bool nb, .slice A2 n2 c2, .slice A3 n3 c3]) (by simp [results, Try.results22, go_sem, hGl, q0, q1, q2]) rfl ?_
      exact ⟨_, _, _, _, _, _, rfl, hr1.set_box3 hblk2 (noInt3 _ _ _ _ _ _ _) (by simp) (by simp), hr2.set_box3 hblk2 (noInt3 _ _ _ _ _ _ _) (by simp) (by simp), hExw.set3 hGw _ _ _⟩
end Go.Proofs.Ytfbjeifhpmdjaaa
