/-
  The contract of the document's Power. Conditions: those that each theorem names.
-/
import Derived.Test.YtfbjeifhpmdjaaaGreatP09
namespace Go.Proofs.YtfbjeifhpmdjaaaGreat
open Go.RowKit Nm
set_option maxRecDepth 100000
set_option linter.unusedVariables false
set_option linter.unusedSimpArgs false

theorem nd_one_p : nd 1 = [1] := by rw [nd_pos (by omega)]; simp [nd_zero]
theorem unit_list (w : World) : Wds (w.alloc (.cells #[.int .u32 1] 104)) (some ⟨w.heap.size, 0, none⟩) 1 1 (nd 1) := by
  rw [nd_one_p]
  refine ⟨rfl, by omega, by unfold maxLen; omega, by intro x hx; simp at hx; omega, fun _ => ⟨_, rfl, by simp, fun k x hk => ?_⟩⟩
  match k, hk with
  | 0, hk => simp at hk; subst hk; simp [Addr.add]
  | k + 1, hk => simp at hk

/-- How far it is: p x^n is the power. -/
structure PowRel (V N M p x n : Nat) : Prop where
  val : p * x ^ n = V ^ N
  lep : p * (x + 1) ^ n ≤ M
  lex : (x + 1) ^ n ≤ M
theorem PowRel.start (V N : Nat) : PowRel V N ((V + 1) ^ N) 1 V N := ⟨by rw [Nat.one_mul], by rw [Nat.one_mul]; exact Nat.le_refl _, Nat.le_refl _⟩
theorem sq_succ (x : Nat) : x * x + 1 ≤ (x + 1) ^ 2 := by
  rw [Nat.pow_succ, Nat.pow_one, Nat.add_mul, Nat.mul_add, Nat.one_mul]; omega
theorem PowRel.even {V N M p x m : Nat} (h : PowRel V N M p x (2 * m)) : PowRel V N M p (x * x) m := by
  have e : (x * x) ^ m = x ^ (2 * m) := by rw [Nat.pow_mul, Nat.pow_succ, Nat.pow_one]
  have l : (x * x + 1) ^ m ≤ (x + 1) ^ (2 * m) := by rw [Nat.pow_mul]; exact Nat.pow_le_pow_left (sq_succ x) m
  exact ⟨by rw [e]; exact h.val, Nat.le_trans (Nat.mul_le_mul_left p l) h.lep, Nat.le_trans l h.lex⟩
theorem PowRel.odd0 {V N M p x m : Nat} (h : PowRel V N M p x (2 * m + 1)) : PowRel V N M (p * x) x (2 * m) := by
  have hp : 0 < (x + 1) ^ (2 * m) := Nat.pow_pos (by omega)
  refine ⟨by rw [Nat.mul_assoc, ← Nat.pow_succ']; exact h.val, ?_, ?_⟩
  · refine Nat.le_trans ?_ h.lep
    rw [Nat.pow_succ', Nat.mul_assoc]
    exact Nat.mul_le_mul_left p (Nat.mul_le_mul_right _ (by omega))
  · refine Nat.le_trans ?_ h.lex
    rw [Nat.pow_succ']
    exact Nat.le_mul_of_pos_left _ (by omega)
theorem PowRel.odd {V N M p x m : Nat} (h : PowRel V N M p x (2 * m + 1)) : PowRel V N M (p * x) (x * x) m := h.odd0.even
theorem PowRel.p_le {V N M p x n : Nat} (h : PowRel V N M p x n) : p ≤ M := Nat.le_trans (Nat.le_mul_of_pos_right p (Nat.pow_pos (by omega))) h.lep
theorem PowRel.x_le {V N M p x n : Nat} (h : PowRel V N M p x n) (hn : 0 < n) : x ≤ M := by
  refine Nat.le_trans ?_ h.lex
  have := Nat.pow_le_pow_right (show 0 < x + 1 by omega) (show 1 ≤ n from hn)
  rw [Nat.pow_one] at this
  omega
theorem PowRel.done {V N M p x : Nat} (h : PowRel V N M p x 0) : p = V ^ N := by have := h.val; rwa [Nat.pow_zero, Nat.mul_one] at this

set_option maxHeartbeats 2000000 in
theorem power_any (A : Option Addr) (n c : Nat) (xs : List Nat) (N : Nat) (w : World) (h : Wds w A n c xs) (hn : n ≤ 35184372088000) (hN : N ≤ 1000000) (hM : nw ((nv xs + 1) ^ N) ≤ 1000000) :
    Calls Tryz.prog 107 #[.slice A n c, .int .i64 (N : Int)] w (RetW (nv xs ^ N) w) := by
  have HN1 := Lib.hid (fun w h => norm_any A n c xs w h hn)
  obtain ⟨V, hV⟩ : ∃ V, V = nv xs := ⟨_, rfl⟩
  rw [← hV] at HN1 hM ⊢
  obtain ⟨M, hMe⟩ : ∃ M, M = (V + 1) ^ N := ⟨_, rfl⟩
  rw [← hMe] at hM
  have HS : Hid (PowRel V N M 1 V N) := Lib.hid (by rw [hMe]; exact PowRel.start V N)
  have HM := Lib.hid hM
  have HT := Lib.hid (fun (A1 : Option Addr) (n1 c1 : Nat) (p : Nat) (A2 : Option Addr) (n2 c2 : Nat) (x : Nat) (w : World) (h1 : Wds w A1 n1 c1 (nd p)) (h2 : Wds w A2 n2 c2 (nd x)) (hp : p ≤ M) (hx : x ≤ M) => times_any A1 n1 c1 (nd p) A2 n2 c2 (nd x) w h1 (by have := h1.len; rw [nd_length] at this; have := nw_mono hp; omega) h2 (by have := h2.len; rw [nd_length] at this; have := nw_mono hx; omega))
  simp only [nv_nd] at HT
  have hU := unit_list w
  have hE0 : Ext w (w.alloc (.cells #[.int .u32 1] 104)) := (Ext.refl w).alloc _
  have h0 := h.ext hE0
  clear hV hMe hM h
  go_enter Tryz.func107, Tryz.ntmps107
  go_wp2_with fail
  generalize w.heap.size = g0 at hU ⊢
  generalize w.alloc _ = w0 at hU hE0 h0 ⊢
  refine (HN1.out _ h0).mono ?_
  rintro e w1 ⟨A1, n1, c1, rfl, hW1, hE1⟩
  have hU1 := hU.ext hE1
  have hE := hE0.trans hE1
  clear HN1 h0 hE0 hU hE1
  go_wp2
  go_loopw [1, 5, 6] (fun nv' pv xv wr => ∃ (k p x : Nat) (A1 : Option Addr) (n1 c1 : Nat) (A2 : Option Addr) (n2 c2 : Nat), k ≤ 1000000 ∧ nv' = .int .i64 (k : Int) ∧ pv = .slice A1 n1 c1 ∧ xv = .slice A2 n2 c2 ∧ Wds wr A1 n1 c1 (nd p) ∧ Wds wr A2 n2 c2 (nd x) ∧ Hid (PowRel V N M p x k) ∧ Ext w wr) (fun nv' _ _ _ => (intOf nv').toNat)
  case atStart => exact ⟨N, 1, V, _, _, _, _, _, _, hN, rfl, rfl, rfl, hU1, hW1, HS, hE⟩
  case round =>
    obtain ⟨k, p, x, A3, n3, c3, A4, n4, c4, hk, rfl, rfl, rfl, hWp, hWx, hrel, hEr⟩ := hrel
    clear hE hU1 hW1 HS
    by_cases hz : k = 0
    · subst hz
      have HD := Lib.hid hrel.out.done
      go_wp2
      go_ret
      exact ⟨_, _, _, rfl, by rw [← HD.out]; exact hWp, hEr⟩
    · have HP := Lib.hid hrel.out.p_le
      have HX := Lib.hid (hrel.out.x_le (by omega))
      rcases Nat.mod_two_eq_zero_or_one k with hpar | hpar
      · obtain ⟨m, hm⟩ : ∃ m, k = 2 * m := ⟨k / 2, by omega⟩
        have g1 : (k : Int) % 2 = 0 := by omega
        have g2 : (k : Int) / 2 = (m : Int) := by omega
        have hmp : 0 < m := by omega
        have hmk : m < k := by omega
        rw [hm] at hrel
        have HR := Lib.hid hrel.out.even
        clear hrel hpar hm
        go_wp2_with fail
        refine (HT.out _ _ _ _ _ _ _ _ _ hWx hWx HX.out HX.out).mono ?_
        rintro e w2 ⟨A5, n5, c5, rfl, hW5, hE5⟩
        go_wp2
        go_roundw
        case rel => exact ⟨m, p, x * x, _, _, _, _, _, _, by omega, rfl, rfl, rfl, hWp.ext hE5, hW5, HR, hEr.trans hE5⟩
        case measure => simp [intOf]; omega
      · obtain ⟨m, hm⟩ : ∃ m, k = 2 * m + 1 := ⟨k / 2, by omega⟩
        have g1 : (k : Int) % 2 = 1 := by omega
        have g2 : (k : Int) / 2 = (m : Int) := by omega
        have hmk : m < k := by omega
        rw [hm] at hrel
        have HR := Lib.hid hrel.out.odd
        have HR0 : m = 0 → Hid (PowRel V N M (p * x) x 0) := fun e => Lib.hid (by have := hrel.out.odd0; rwa [e] at this)
        clear hrel hpar hm
        by_cases hm0 : m = 0
        · subst hm0
          have HR1 := HR0 rfl
          go_wp2_with fail
          refine (HT.out _ _ _ _ _ _ _ _ _ hWp hWx HP.out HX.out).mono ?_
          rintro e w2 ⟨A5, n5, c5, rfl, hW5, hE5⟩
          go_wp2
          go_roundw
          case rel => exact ⟨0, p * x, x, _, _, _, _, _, _, by omega, rfl, rfl, rfl, hW5, hWx.ext hE5, HR1, hEr.trans hE5⟩
          case measure => simp [intOf]; omega
        · have hmp : 0 < m := by omega
          clear hm0 HR0
          go_wp2_with fail
          refine (HT.out _ _ _ _ _ _ _ _ _ hWp hWx HP.out HX.out).mono ?_
          rintro e w2 ⟨A5, n5, c5, rfl, hW5, hE5⟩
          have hWx2 := hWx.ext hE5
          go_wp2_with fail
          refine (HT.out _ _ _ _ _ _ _ _ _ hWx2 hWx2 HX.out HX.out).mono ?_
          rintro e w3 ⟨A6, n6, c6, rfl, hW6, hE6⟩
          go_wp2
          go_roundw
          case rel => exact ⟨m, p * x, x * x, _, _, _, _, _, _, by omega, rfl, rfl, rfl, hW5.ext hE6, hW6, HR, (hEr.trans hE5).trans hE6⟩
          case measure => simp [intOf]; omega
theorem nw_pow_le {t n b : Nat} (h : t ≤ 2 ^ b) : nw (t ^ n) ≤ b * n / 32 + 1 := by
  have h1 : t ^ n ≤ 2 ^ (b * n) := by rw [Nat.pow_mul]; exact Nat.pow_le_pow_left h n
  have h2 : nw (2 ^ (b * n)) ≤ b * n / 32 + 1 := by
    rw [nw_bl, bl_eq_of (k := b * n) (Nat.le_refl _) (Nat.pow_lt_pow_right (by omega) (by omega))]
    omega
  exact Nat.le_trans (nw_mono h1) h2
end Go.Proofs.YtfbjeifhpmdjaaaGreat
