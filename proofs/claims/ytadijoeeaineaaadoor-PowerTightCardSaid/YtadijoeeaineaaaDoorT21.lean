/-
  The contract of the document's Power. Conditions: those that each theorem names.
-/
import Derived.Test.YtadijoeeaineaaaDoorT12
import Derived.Test.YtadijoeeaineaaaDoorT13
import Derived.Test.YtadijoeeaineaaaDoorT20
import Derived.Test.YtadijoeeaineaaaDoorT09
import Derived.Lib.TrailingZeros
namespace Go.Proofs.YtadijoeeaineaaaDoor
open Go.RowKit Nm
set_option maxRecDepth 100000
set_option linter.unusedVariables false
set_option linter.unusedSimpArgs false

theorem nd_one_p : nd 1 = [1] := by rw [nd_pos (by omega)]; simp [nd_zero]
theorem unit_list (w : World) : Wds (w.alloc (.cells #[.int .u32 1] 48)) (some ⟨w.heap.size, 0, none⟩) 1 1 (nd 1) := by
  rw [nd_one_p]
  refine ⟨rfl, by omega, by unfold maxLen; omega, by intro x hx; simp at hx; omega, fun _ => ⟨_, rfl, by simp, fun k x hk => ?_⟩⟩
  match k, hk with
  | 0, hk => simp at hk; subst hk; simp [Addr.add]
  | k + 1, hk => simp at hk

/-- How far it is: p x^n is the power. -/
structure PowRel (V N M p x n : Nat) : Prop where
  val : p * x ^ n = V ^ N
  lep : p * (x + 1) ^ n ≤ M
  lex : (x + 1) ^ n ≤ M
theorem PowRel.start (V N : Nat) : PowRel V N ((V + 1) ^ N) 1 V N := ⟨by rw [Nat.one_mul], by rw [Nat.one_mul]; exact Nat.le_refl _, Nat.le_refl _⟩
theorem sq_succ (x : Nat) : x * x + 1 ≤ (x + 1) ^ 2 := by
  rw [Nat.pow_succ, Nat.pow_one, Nat.add_mul, Nat.mul_add, Nat.one_mul]; omega
theorem PowRel.even {V N M p x m : Nat} (h : PowRel V N M p x (2 * m)) : PowRel V N M p (x * x) m := by
  have e : (x * x) ^ m = x ^ (2 * m) := by rw [Nat.pow_mul, Nat.pow_succ, Nat.pow_one]
  have l : (x * x + 1) ^ m ≤ (x + 1) ^ (2 * m) := by rw [Nat.pow_mul]; exact Nat.pow_le_pow_left (sq_succ x) m
  exact ⟨by rw [e]; exact h.val, Nat.le_trans (Nat.mul_le_mul_left p l) h.lep, Nat.le_trans l h.lex⟩
theorem PowRel.odd0 {V N M p x m : Nat} (h : PowRel V N M p x (2 * m + 1)) : PowRel V N M (p * x) x (2 * m) := by
  have hp : 0 < (x + 1) ^ (2 * m) := Nat.pow_pos (by omega)
  refine ⟨by rw [Nat.mul_assoc, ← Nat.pow_succ']; exact h.val, ?_, ?_⟩
  · refine Nat.le_trans ?_ h.lep
    rw [Nat.pow_succ', Nat.mul_assoc]
    exact Nat.mul_le_mul_left p (Nat.mul_le_mul_right _ (by omega))
  · refine Nat.le_trans ?_ h.lex
    rw [Nat.pow_succ']
    exact Nat.le_mul_of_pos_left _ (by omega)
theorem PowRel.odd {V N M p x m : Nat} (h : PowRel V N M p x (2 * m + 1)) : PowRel V N M (p * x) (x * x) m := h.odd0.even
theorem PowRel.p_le {V N M p x n : Nat} (h : PowRel V N M p x n) : p ≤ M := Nat.le_trans (Nat.le_mul_of_pos_right p (Nat.pow_pos (by omega))) h.lep
theorem PowRel.x_le {V N M p x n : Nat} (h : PowRel V N M p x n) (hn : 0 < n) : x ≤ M := by
  refine Nat.le_trans ?_ h.lex
  have := Nat.pow_le_pow_right (show 0 < x + 1 by omega) (show 1 ≤ n from hn)
  rw [Nat.pow_one] at this
  omega
theorem PowRel.done {V N M p x : Nat} (h : PowRel V N M p x 0) : p = V ^ N := by have := h.val; rwa [Nat.pow_zero, Nat.mul_one] at this

set_option maxHeartbeats 2000000 in
theorem power_any (A : Option Addr) (n c : Nat) (xs : List Nat) (N : Nat) (w : World) (h : Wds w A n c xs) (hn : n ≤ 35184372088000) (hN : N ≤ 1000000) (hM : nw ((nv xs + 1) ^ N) ≤ 1000000) :
    Calls Tryd.prog 101 #[.slice A n c, .int .i64 (N : Int)] w (RetW (nv xs ^ N) w) := by
  have HN1 := Lib.hid (fun w h => norm_any A n c xs w h hn)
  obtain ⟨V, hV⟩ : ∃ V, V = nv xs := ⟨_, rfl⟩
  rw [← hV] at HN1 hM ⊢
  obtain ⟨M, hMe⟩ : ∃ M, M = (V + 1) ^ N := ⟨_, rfl⟩
  rw [← hMe] at hM
  have HS : Hid (PowRel V N M 1 V N) := Lib.hid (by rw [hMe]; exact PowRel.start V N)
  have HM := Lib.hid hM
  have HT := Lib.hid (fun (A1 : Option Addr) (n1 c1 : Nat) (p : Nat) (A2 : Option Addr) (n2 c2 : Nat) (x : Nat) (w : World) (h1 : Wds w A1 n1 c1 (nd p)) (h2 : Wds w A2 n2 c2 (nd x)) (hp : p ≤ M) (hx : x ≤ M) => times_any A1 n1 c1 (nd p) A2 n2 c2 (nd x) w h1 (by have := h1.len; rw [nd_length] at this; have := nw_mono hp; omega) h2 (by have := h2.len; rw [nd_length] at this; have := nw_mono hx; omega))
  simp only [nv_nd] at HT
  have hU := unit_list w
  have hE0 : Ext w (w.alloc (.cells #[.int .u32 1] 48)) := (Ext.refl w).alloc _
  have h0 := h.ext hE0
  clear hV hMe hM h
  go_enter Tryd.func101, Tryd.ntmps101
  go_wp2_with fail
  generalize w.heap.size = g0 at hU ⊢
  generalize w.alloc _ = w0 at hU hE0 h0 ⊢
  refine (HN1.out _ h0).mono ?_
  rintro e w1 ⟨A1, n1, c1, rfl, hW1, hE1⟩
  have hU1 := hU.ext hE1
  have hE := hE0.trans hE1
  clear HN1 h0 hE0 hU hE1
  go_wp2
  go_loopw [1, 5, 6] (fun nv' pv xv wr => ∃ (k p x : Nat) (A1 : Option Addr) (n1 c1 : Nat) (A2 : Option Addr) (n2 c2 : Nat), k ≤ 1000000 ∧ nv' = .int .i64 (k : Int) ∧ pv = .slice A1 n1 c1 ∧ xv = .slice A2 n2 c2 ∧ Wds wr A1 n1 c1 (nd p) ∧ Wds wr A2 n2 c2 (nd x) ∧ Hid (PowRel V N M p x k) ∧ Ext w wr) (fun nv' _ _ _ => (intOf nv').toNat)
  case atStart => exact ⟨N, 1, V, _, _, _, _, _, _, hN, rfl, rfl, rfl, hU1, hW1, HS, hE⟩
  case round =>
    obtain ⟨k, p, x, A3, n3, c3, A4, n4, c4, hk, rfl, rfl, rfl, hWp, hWx, hrel, hEr⟩ := hrel
    clear hE hU1 hW1 HS
    by_cases hz : k = 0
    · subst hz
      have HD := Lib.hid hrel.out.done
      go_wp2
      go_ret
      exact ⟨_, _, _, rfl, by rw [← HD.out]; exact hWp, hEr⟩
    · have HP := Lib.hid hrel.out.p_le
      have HX := Lib.hid (hrel.out.x_le (by omega))
      rcases Nat.mod_two_eq_zero_or_one k with hpar | hpar
      · obtain ⟨m, hm⟩ : ∃ m, k = 2 * m := ⟨k / 2, by omega⟩
        have g1 : (k : Int) % 2 = 0 := by omega
        have g2 : (k : Int) / 2 = (m : Int) := by omega
        have hmp : 0 < m := by omega
        have hmk : m < k := by omega
        rw [hm] at hrel
        have HR := Lib.hid hrel.out.even
        clear hrel hpar hm
        go_wp2_with fail
        refine (HT.out _ _ _ _ _ _ _ _ _ hWx hWx HX.out HX.out).mono ?_
        rintro e w2 ⟨A5, n5, c5, rfl, hW5, hE5⟩
        go_wp2
        go_roundw
        case rel => exact ⟨m, p, x * x, _, _, _, _, _, _, by omega, rfl, rfl, rfl, hWp.ext hE5, hW5, HR, hEr.trans hE5⟩
        case measure => simp [intOf]; omega
      · obtain ⟨m, hm⟩ : ∃ m, k = 2 * m + 1 := ⟨k / 2, by omega⟩
        have g1 : (k : Int) % 2 = 1 := by omega
        have g2 : (k : Int) / 2 = (m : Int) := by omega
        have hmk : m < k := by omega
        rw [hm] at hrel
        have HR := Lib.hid hrel.out.odd
        have HR0 : m = 0 → Hid (PowRel V N M (p * x) x 0) := fun e => Lib.hid (by have := hrel.out.odd0; rwa [e] at this)
        clear hrel hpar hm
        by_cases hm0 : m = 0
        · subst hm0
          have HR1 := HR0 rfl
          go_wp2_with fail
          refine (HT.out _ _ _ _ _ _ _ _ _ hWp hWx HP.out HX.out).mono ?_
          rintro e w2 ⟨A5, n5, c5, rfl, hW5, hE5⟩
          go_wp2
          go_roundw
          case rel => exact ⟨0, p * x, x, _, _, _, _, _, _, by omega, rfl, rfl, rfl, hW5, hWx.ext hE5, HR1, hEr.trans hE5⟩
          case measure => simp [intOf]; omega
        · have hmp : 0 < m := by omega
          clear hm0 HR0
          go_wp2_with fail
          refine (HT.out _ _ _ _ _ _ _ _ _ hWp hWx HP.out HX.out).mono ?_
          rintro e w2 ⟨A5, n5, c5, rfl, hW5, hE5⟩
          have hWx2 := hWx.ext hE5
          go_wp2_with fail
          refine (HT.out _ _ _ _ _ _ _ _ _ hWx2 hWx2 HX.out HX.out).mono ?_
          rintro e w3 ⟨A6, n6, c6, rfl, hW6, hE6⟩
          go_wp2
          go_roundw
          case rel => exact ⟨m, p * x, x * x, _, _, _, _, _, _, by omega, rfl, rfl, rfl, hW5.ext hE6, hW6, HR, (hEr.trans hE5).trans hE6⟩
          case measure => simp [intOf]; omega
theorem nw_pow_le {t n b : Nat} (h : t ≤ 2 ^ b) : nw (t ^ n) ≤ b * n / 32 + 1 := by
  have h1 : t ^ n ≤ 2 ^ (b * n) := by rw [Nat.pow_mul]; exact Nat.pow_le_pow_left h n
  have h2 : nw (2 ^ (b * n)) ≤ b * n / 32 + 1 := by
    rw [nw_bl, bl_eq_of (k := b * n) (Nat.le_refl _) (Nat.pow_lt_pow_right (by omega) (by omega))]
    omega
  exact Nat.le_trans (nw_mono h1) h2
end Go.Proofs.YtadijoeeaineaaaDoor

/-
  The contracts of the program's own naturals: powers. Conditions: those that each theorem names.
-/
namespace Go.Proofs.YtadijoeeaineaaaDoor
open Go.RowKit Nm
set_option maxRecDepth 100000
set_option linter.unusedVariables false
set_option linter.unusedSimpArgs false

theorem i64_and1 (k : Nat) (h : k < 2147483648) : bits .and .i64 (k : Int) 1 = ((k % 2 : Nat) : Int) := by
  show IntKind.i64.wrap ((BitVec.ofInt 64 (k : Int) &&& BitVec.ofInt 64 ((1 : Nat) : Int)).toNat : Nat) = _
  rw [BitVec.toNat_and, BitVec.ofInt_natCast, BitVec.ofInt_natCast, BitVec.toNat_ofNat, BitVec.toNat_ofNat, Nat.mod_eq_of_lt (by omega), Nat.mod_eq_of_lt (by omega), show (1 : Nat) = 2 ^ 1 - 1 from rfl, Nat.and_two_pow_sub_one_eq_mod, IntKind.wrap_i64]
  omega

/-- How far it is: p x^n is the power; x is not below 2. -/
structure PwRel (V N p x n : Nat) : Prop where
  val : p * x ^ n = V ^ N
  p1 : 1 ≤ p
  x2 : 2 ≤ x
theorem PwRel.start {V : Nat} (N : Nat) (h : 2 ≤ V) : PwRel V N 1 V N := ⟨by rw [Nat.one_mul], Nat.le_refl _, h⟩
theorem PwRel.even {V N p x m : Nat} (h : PwRel V N p x (2 * m)) : PwRel V N p (x * x) m := by
  have e : (x * x) ^ m = x ^ (2 * m) := by rw [Nat.pow_mul, Nat.pow_succ, Nat.pow_one]
  exact ⟨by rw [e]; exact h.val, h.p1, Nat.le_trans (show 2 ≤ 2 * 2 by omega) (Nat.mul_le_mul h.x2 h.x2)⟩
theorem PwRel.odd0 {V N p x m : Nat} (h : PwRel V N p x (2 * m + 1)) : PwRel V N (p * x) x (2 * m) :=
  ⟨by rw [Nat.mul_assoc, ← Nat.pow_succ']; exact h.val, Nat.le_trans (show 1 ≤ 1 * 1 by omega) (Nat.mul_le_mul h.p1 (by have := h.x2; omega)), h.x2⟩
theorem PwRel.odd {V N p x m : Nat} (h : PwRel V N p x (2 * m + 1)) : PwRel V N (p * x) (x * x) m := h.odd0.even
theorem PwRel.p_le {V N p x n : Nat} (h : PwRel V N p x n) : p ≤ V ^ N := by
  rw [← h.val]
  exact Nat.le_mul_of_pos_right p (Nat.pow_pos (by have := h.x2; omega))
theorem PwRel.x_le {V N p x n : Nat} (h : PwRel V N p x n) (hn : 0 < n) : x ≤ V ^ N := by
  rw [← h.val]
  have h1 := Nat.pow_le_pow_right (show 0 < x by have := h.x2; omega) (show 1 ≤ n from hn)
  rw [Nat.pow_one] at h1
  exact Nat.le_trans h1 (Nat.le_mul_of_pos_left _ h.p1)
theorem PwRel.done {V N p x : Nat} (h : PwRel V N p x 0) : p = V ^ N := by have := h.val; rwa [Nat.pow_zero, Nat.mul_one] at this

theorem bl_pow_le {V N : Nat} (h : N ≠ 0) : bl (V ^ N) ≤ bl V * N := by
  rw [bl_le_iff, Nat.pow_mul]
  exact Nat.pow_lt_pow_left (lt_pow_bl V) h

theorem Wds.nwe {w : World} {A : Option Addr} {n c X : Nat} (h : Wds w A n c (nd X)) : n = nw X := by have := h.len; rw [nd_length] at this; omega
/-- The inner product, cut. -/
theorem ncut_mul {w : World} {g n : Nat} {L : List Nat} {V : Nat} (hr : Row w g L) (hL : Ws L) (hl : L.length = n) (hv : nv L = V) (hn : n ≤ 8796093022208) :
    Calls Tryd.prog 138 #[.slice (some ⟨g, 0, none⟩) n n] w (RetW V w) := by
  rw [← hv]
  exact ncut_any _ _ _ _ _ (hr.wds hL hl (Nat.le_refl _) (by unfold maxLen; omega)) (by omega)

set_option maxHeartbeats 4000000 in
theorem npow_any (A : Option Addr) (n c : Nat) (xs : List Nat) (N : Nat) (w : World) (h : Wds w A n c xs) (hn : n ≤ 8796093022208) (hN : N ≤ 1000000) (hM : bl (nv xs) * N ≤ 524288) (hs : bl (nv xs) ≤ 524288) :
    Calls Tryd.prog 113 #[.slice A n c, .int .i64 (N : Int)] w (RetWE (nv xs ^ N) 0 w) := by
  have HN1 : Hid (∀ w, Wds w A n c xs → Calls Tryd.prog 133 #[.slice A n c] w (RetW (nv xs) w)) := Lib.hid (fun w h => by
    refine (nnorm_any A n c xs w h (by omega)).mono ?_
    rintro e w' ⟨g, m, rfl, hr, -, hm, hE⟩
    have hle : nw (nv xs) ≤ n := by have := nw_nv_le h.ws; have := h.len; omega
    exact ⟨_, _, _, rfl, hr.wds (Ws.nd _) (by rw [nd_length, hm]) (Nat.le_refl _) (by unfold maxLen; omega), hE⟩)
  have HL1 := Lib.hid (fun w h => nlen_any A n c xs w h (by omega))
  have h1 := nw_of_bl hs
  have HLG : Hid (∀ g w, w.cell? ⟨g, 0, none⟩ = some (.slice A n c) → Wds w A n c xs → Calls Tryd.prog 131 #[.slice (some ⟨g, 0, none⟩) 1 1] w fun e w' => e = .returned (.bool false) ∧ w = w') :=
    Lib.hid (fun g w a b => nlong_raw g 1 A n c xs w a b (by omega) h1)
  obtain ⟨V, hV⟩ : ∃ V, V = nv xs := ⟨_, rfl⟩
  rw [← hV] at HN1 HL1 hM hs ⊢
  have HW0 : Hid (N = 0 → V ^ N = 1) := Lib.hid (fun e => by rw [e, Nat.pow_zero])
  have HW1 : Hid (N ≠ 0 → bl V < 2 → V ^ N = V) := Lib.hid (fun e hb => by
    have : V < 2 ^ 1 := by have := lt_pow_bl V; exact Nat.lt_of_lt_of_le this (Nat.pow_le_pow_right (by omega) (by omega))
    rcases (show V = 0 ∨ V = 1 by omega) with e1 | e1
    · rw [e1, Nat.zero_pow (by omega)]
    · rw [e1, Nat.one_pow])
  have HV2 : Hid (2 ≤ bl V → 2 ≤ V) := Lib.hid (fun hb => by
    rcases Nat.lt_or_ge V 2 with h2 | h2
    · have : bl V ≤ 1 := by rw [bl_le_iff]; omega
      omega
    · exact h2)
  have HMW : Hid (N ≠ 0 → nw (V ^ N) ≤ 16384) := Lib.hid (fun e => nw_of_bl (Nat.le_trans (bl_pow_le e) hM))
  obtain ⟨bV, hbV⟩ : ∃ b, b = bl V := ⟨_, rfl⟩
  rw [← hbV] at HL1 hM HW1 HV2 hs
  obtain ⟨M, hMe⟩ : ∃ M, M = V ^ N := ⟨_, rfl⟩
  have HS : Hid (2 ≤ V → PwRel V N 1 V N) := Lib.hid (fun h => PwRel.start N h)
  have HPL : Hid (∀ p x n, PwRel V N p x n → p ≤ M) := Lib.hid (fun p x n h => by rw [hMe]; exact h.p_le)
  have HXL : Hid (∀ p x n, 0 < n → PwRel V N p x n → x ≤ M) := Lib.hid (fun p x n hn h => by rw [hMe]; exact h.x_le hn)
  have HDN : Hid (∀ p x, PwRel V N p x 0 → p = M) := Lib.hid (fun p x h => by rw [hMe]; exact h.done)
  rw [← hMe] at HW0 HW1 HMW ⊢
  have HML : Hid (∀ (A1 : Option Addr) (n1 c1 : Nat) (p : Nat) (A2 : Option Addr) (n2 c2 : Nat) (x : Nat) (w : World), nw M ≤ 16384 → Wds w A1 n1 c1 (nd p) → Wds w A2 n2 c2 (nd x) → p ≤ M → x ≤ M → Calls Tryd.prog 154 #[.slice A1 n1 c1, .slice A2 n2 c2] w fun e w' => ∃ g n L, e = .returned (.slice (some ⟨g, 0, none⟩) n n) ∧ n ≤ 100000 ∧ Row w' g L ∧ Ws L ∧ L.length = n ∧ nv L = p * x ∧ Ext w w') :=
    Lib.hid (fun A1 n1 c1 p A2 n2 c2 x w hM a b hp hx => by
      have hn1 := a.nwe
      have hn2 := b.nwe
      have hp' := nw_mono hp
      have hx' := nw_mono hx
      refine (nmul_raw A1 n1 c1 (nd p) A2 n2 c2 (nd x) w a (by omega) b (by omega)).mono ?_
      rintro e w' ⟨g, L, rfl, h1, h2, h3, h4, -, h5⟩
      rw [nv_nd, nv_nd] at h4
      exact ⟨g, _, L, rfl, by omega, h1, h2, h3, h4, h5⟩)
  have hn1 := h.alloc (.cells #[.slice A n c] 36)
  have hE0 : Ext w (w.alloc (.cells #[.slice A n c] 36)) := (Ext.refl w).alloc _
  have hcell0 : (w.alloc (.cells #[.slice A n c] 36)).cell? ⟨w.heap.size, 0, none⟩ = some (.slice A n c) := by simp
  clear hV hMe h hbV h1
  go_enter Tryd.func113, Tryd.ntmps113
  go_wp2_with fail
  generalize w.heap.size = g0 at hcell0 ⊢
  generalize w.alloc _ = w0 at hn1 hE0 hcell0 ⊢
  refine (HLG.out _ _ hcell0 hn1).mono ?_
  rintro e w' ⟨rfl, rfl⟩
  go_wp2_with fail
  refine (HN1.out _ hn1).mono ?_
  rintro e w1 ⟨A1, n1, c1, rfl, hW1, hE1⟩
  have hn2 := hn1.ext hE1
  have hE := hE0.trans hE1
  clear HN1 HLG hcell0 hE0 hE1 hn1
  go_wp2_with fail
  refine (HL1.out _ hn2).mono ?_
  rintro e w' ⟨rfl, rfl⟩
  clear HL1 hn2
  by_cases hN0 : N = 0
  · have hM1 := HW0.out hN0
    subst hN0
    subst hM1
    have hU := unit_list w1
    have hE2 := hE.alloc (.cells #[.int .u32 1] 48)
    go_wp2
    go_ret2
    exact ⟨_, _, _, rfl, hU, hE2⟩
  · by_cases hb2 : bV < 2
    · have hM1 := HW1.out hN0 hb2
      have hW1' : Wds w1 A1 n1 c1 (nd M) := by rw [hM1]; exact hW1
      clear hM1 hW1
      go_wp2
      go_ret2
      exact ⟨_, _, _, rfl, hW1', hE⟩
    · obtain ⟨b, hb⟩ : ∃ b, bV = b + 1 := ⟨bV - 1, by omega⟩
      subst hb
      have hV2 := HV2.out (by omega)
      have HR := Lib.hid (HS.out hV2)
      have HMW := Lib.hid (HMW.out hN0)
      obtain ⟨Q, hQ⟩ : ∃ Q, Q = 524288 / b := ⟨_, rfl⟩
      have hNQ : N ≤ Q := by
        rw [hQ, Nat.le_div_iff_mul_le (by omega), Nat.mul_comm]
        rw [Nat.add_mul] at hM
        omega
      have hQl : Q ≤ 524288 := by rw [hQ]; exact Nat.div_le_self _ _
      have hbe : ((b + 1 : Nat) : Int) - 1 = (b : Int) := by omega
      have hQe : (524288 : Int).tdiv (b : Int) = (Q : Int) := by rw [hQ]; rfl
      have hbp : (b : Int) ≠ 0 := by omega
      have hbp' : b ≠ 0 := by omega
      have hbl : b ≤ 524288 := by omega
      clear hQ HV2 HS HW0 HW1 hM hV2
      have hU := unit_list w1
      have hE2 := hE.alloc (.cells #[.int .u32 1] 48)
      have hW2 := hW1.alloc (.cells #[.int .u32 1] 48)
      clear hE hW1
      go_wp2
      generalize w1.heap.size = g1 at hU ⊢
      generalize w1.alloc _ = w2 at hU hE2 hW2 ⊢
      generalize ((N : Int) == 0) = z1
      generalize Value.bool (decide (Q < N)) = z2
      generalize Value.bool (decide ((b : Int) + 1 < 2)) = z3
      generalize Value.bool (decide ((N : Int) < 0)) = z4
      go_loopw [1, 6, 8] (fun nv' xv pv wr => ∃ (k p x : Nat) (A1 : Option Addr) (n1 c1 : Nat) (A2 : Option Addr) (n2 c2 : Nat), 0 < k ∧ k ≤ 1000000 ∧ nv' = .int .i64 (k : Int) ∧ pv = .slice A1 n1 c1 ∧ xv = .slice A2 n2 c2 ∧ Wds wr A1 n1 c1 (nd p) ∧ Wds wr A2 n2 c2 (nd x) ∧ Hid (PwRel V N p x k) ∧ Ext w wr) (fun nv' _ _ _ => (intOf nv').toNat)
      case atStart => exact ⟨N, 1, V, _, _, _, _, _, _, by omega, hN, rfl, rfl, rfl, hU, hW2, HR, hE2⟩
      case round =>
        obtain ⟨k, p, x, A3, n3, c3, A4, n4, c4, hk0, hk, rfl, rfl, rfl, hWp, hWx, hrel, hEr⟩ := hrel
        clear hU hW2 HR hE2 hNQ hQe hbp hbp' hbl hbe
        have hp := HPL.out _ _ _ hrel.out
        have hx := HXL.out _ _ _ hk0 hrel.out
        rcases Nat.mod_two_eq_zero_or_one k with hpar | hpar
        · obtain ⟨m, hm⟩ : ∃ m, k = 2 * m := ⟨k / 2, by omega⟩
          have g1 : bits .and .i64 (k : Int) 1 = 0 := by rw [i64_and1 k (by omega), hpar]; rfl
          have g2 : (k : Int) / 2 = (m : Int) := by omega
          have hmp : 0 < m := by omega
          have hmk : m < k := by omega
          rw [hm] at hrel
          have HR := Lib.hid hrel.out.even
          clear hrel hpar hm
          go_wp2_with fail
          refine (HML.out _ _ _ _ _ _ _ _ _ HMW.out hWx hWx hx hx).mono ?_
          rintro e w3 ⟨g5, n5, L5, rfl, hn5, hr5, hL5, hl5, hv5, hE5⟩
          go_wp2_with fail
          refine (ncut_mul hr5 hL5 hl5 hv5 (by omega)).mono ?_
          rintro e w4 ⟨A6, n6, c6, rfl, hW6, hE6⟩
          have hWp6 := (hWp.ext hE5).ext hE6
          have hEr6 := hEr.trans (hE5.trans hE6)
          clear hr5 hL5 hl5 hv5 hE5 hE6 hWp hWx hEr
          go_wp2
          go_roundw
          case rel => exact ⟨m, p, x * x, _, _, _, _, _, _, hmp, by omega, rfl, rfl, rfl, hWp6, hW6, HR, hEr6⟩
          case measure => simp only [intOf]; omega
        · obtain ⟨m, hm⟩ : ∃ m, k = 2 * m + 1 := ⟨k / 2, by omega⟩
          have g1 : bits .and .i64 (k : Int) 1 = 1 := by rw [i64_and1 k (by omega), hpar]; rfl
          have g2 : (k : Int) / 2 = (m : Int) := by omega
          have hmk : m < k := by omega
          rw [hm] at hrel
          have HR0 := Lib.hid hrel.out.odd0
          have HR := Lib.hid hrel.out.odd
          have hp2 := HPL.out _ _ _ HR0.out
          clear hrel hpar hm
          have hMl := HMW.out
          go_wp2_with fail
          refine (HML.out _ _ _ _ _ _ _ _ _ HMW.out hWp hWx hp hx).mono ?_
          rintro e w3 ⟨g5, n5, L5, rfl, hn5, hr5, hL5, hl5, hv5, hE5⟩
          go_wp2_with fail
          refine (ncut_mul hr5 hL5 hl5 hv5 (by omega)).mono ?_
          rintro e w4 ⟨A6, n6, c6, rfl, hW6, hE6⟩
          have hWx6 := (hWx.ext hE5).ext hE6
          have hEr6 := hEr.trans (hE5.trans hE6)
          have hn6 : n6 ≤ 16384 := by
            have h1 := hW6.nwe
            have h2 := nw_mono hp2
            omega
          clear hr5 hL5 hl5 hv5 hE5 hE6 hWp hWx hEr hMl
          by_cases hm0 : m = 0
          · subst hm0
            have hD := HDN.out _ _ HR0.out
            have hW6' : Wds w4 A6 n6 c6 (nd M) := by rw [← hD]; exact hW6
            clear hD hW6 HR HR0 hp hx hp2
            go_wp2
            go_ret2
            exact ⟨_, _, _, rfl, hW6', hEr6⟩
          · have hmp : 0 < m := by omega
            clear hm0
            go_wp2_with fail
            refine (HML.out _ _ _ _ _ _ _ _ _ HMW.out hWx6 hWx6 hx hx).mono ?_
            rintro e w5 ⟨g7, n7, L7, rfl, hn7, hr7, hL7, hl7, hv7, hE7⟩
            go_wp2_with fail
            refine (ncut_mul hr7 hL7 hl7 hv7 (by omega)).mono ?_
            rintro e w6 ⟨A8, n8, c8, rfl, hW8, hE8⟩
            have hW6' := (hW6.ext hE7).ext hE8
            have hEr8 := hEr6.trans (hE7.trans hE8)
            clear hr7 hL7 hl7 hv7 hE7 hE8 hW6 hWx6 hEr6
            go_wp2
            go_roundw
            case rel => exact ⟨m, p * x, x * x, _, _, _, _, _, _, hmp, by omega, rfl, rfl, rfl, hW6', hW8, HR, hEr8⟩
            case measure => simp only [intOf]; omega
end Go.Proofs.YtadijoeeaineaaaDoor

/-
  The contracts of the program's Zeros and power. Conditions: those that each theorem names.
-/
namespace Go.Proofs.YtadijoeeaineaaaDoor
open Go.RowKit Nm Rn
set_option maxRecDepth 100000
set_option linter.unusedVariables false
set_option linter.unusedSimpArgs false

/-- The table in its variable. -/
def Tab (w : World) : Prop := ∀ j, j < 32 → w.cell? ⟨1, j, none⟩ = some (.int .u8 ((Lib.deBruijn32tab.getD j 0 : Nat) : Int))
theorem cell_lt_ {w : World} {p : Addr} {v : Value} (h : w.cell? p = some v) : p.block < w.heap.size := by
  rcases Nat.lt_or_ge p.block w.heap.size with c | c
  · exact c
  · exfalso
    have : w.heap[p.block]? = none := Array.getElem?_eq_none c
    unfold World.cell? at h
    rw [this] at h
    simp at h
theorem Tab.ext {w w' : World} (h : Tab w) (e : Ext w w') : Tab w' := fun j hj => by
  have h1 := h j hj
  have h2 := cell_lt_ h1
  have e' : Below w.heap.size w w' := e
  rw [e'.cell h2]
  exact h1

theorem and_u32n (a b : Nat) (ha : a < 4294967296) (hb : b < 4294967296) : bits .and .u32 (a : Int) (b : Int) = ((a &&& b : Nat) : Int) := u32_and_nat a b ha hb
theorem tz32_key (x a : Nat) (hx : x < 4294967296) (hx0 : x ≠ 0) (hlow : x &&& (4294967296 - x) = a) :
    bits BinOp.and IntKind.u32 (x : Int) (-(x : Int) % 4294967296) * 125613361 % 4294967296 / 134217728 = ((a * 125613361 % 4294967296 / 134217728 : Nat) : Int) := by
  have e1 : -(x : Int) % 4294967296 = ((4294967296 - x : Nat) : Int) := by omega
  rw [e1, and_u32n x _ hx (by omega), hlow]
  omega
set_option maxHeartbeats 1000000 in
theorem tz32_core (x k idx : Nat) (w : World) (hx0 : ((x : Int) == 0) = false)
    (key : bits BinOp.and IntKind.u32 (x : Int) (-(x : Int) % 4294967296) * 125613361 % 4294967296 / 134217728 = (idx : Int))
    (hi : idx < 32) (hk : k < 32) (hcell : w.cell? ⟨1, idx, none⟩ = some (.int .u8 k)) :
    Calls Tryd.prog 152 #[.int .u32 x] w fun e w' => e = .returned (.int .i64 k) ∧ w = w' := by
  go_enter Tryd.func152, Tryd.ntmps152
  go_wp2_with (simp only [key])
  go_ret
  exact ⟨rfl, rfl⟩
theorem tz32_any (x : Nat) (hx : x < 4294967296) (hx0 : x ≠ 0) (w : World) (hT : Tab w) :
    Calls Tryd.prog 152 #[.int .u32 x] w fun e w' => e = .returned (.int .i64 (Lib.ctz 32 x : Nat)) ∧ w = w' := by
  obtain ⟨hlow, hk⟩ := Lib.lowest_bit 32 x hx0 hx
  obtain ⟨hi, htab⟩ := Lib.deBruijn32_at _ hk
  have hcell := hT _ hi
  rw [htab] at hcell
  exact tz32_core x _ _ w (by simp; omega) (tz32_key x _ hx hx0 hlow) hi hk hcell

theorem tz_uniq {n a m : Nat} (h : n = 2 ^ a * m) (hm : m % 2 = 1) : tz n = a := by
  have h0 : n ≠ 0 := fun e => by
    have := Nat.mul_pos (two_pow_pos a) (show 0 < m by omega)
    omega
  obtain ⟨m', h1, h2⟩ := tz_spec h0
  obtain ⟨b, hb⟩ : ∃ b, b = tz n := ⟨_, rfl⟩
  rw [← hb] at h1 ⊢
  rcases Nat.lt_trichotomy b a with g | g | g
  · exfalso
    rw [h, show a = b + (1 + (a - b - 1)) by omega, Nat.pow_add, Nat.mul_assoc] at h1
    have := Nat.eq_of_mul_eq_mul_left (two_pow_pos b) h1
    rw [Nat.pow_add, Nat.pow_one, Nat.mul_assoc] at this
    omega
  · exact g
  · exfalso
    rw [h, show b = a + (1 + (b - a - 1)) by omega, Nat.pow_add, Nat.mul_assoc] at h1
    have := Nat.eq_of_mul_eq_mul_left (two_pow_pos a) h1
    rw [Nat.pow_add, Nat.pow_one, Nat.mul_assoc] at this
    omega
theorem tz_at {xs : List Nat} (h : Ws xs) {k : Nat} (hk : k < xs.length) (hz : nv (xs.take k) = 0) (hx : xs[k] ≠ 0) : tz (nv xs) = 32 * k + Lib.ctz 32 xs[k] := by
  have hx32 : xs[k] < 4294967296 := h.get hk
  have h1 := nv_take_drop xs k (by omega)
  have h2 := nv_drop_eq hk
  obtain ⟨m, hm, hc⟩ := Lib.ctzFrom_spec 32 xs[k] (by omega) hx32
  have he : Lib.ctz 32 xs[k] = Lib.ctzFrom 32 xs[k] := by unfold Lib.ctz; rw [if_neg hx]
  rw [he]
  obtain ⟨c, hcc⟩ : ∃ c, c = Lib.ctzFrom 32 xs[k] := ⟨_, rfl⟩
  rw [← hcc] at hm hc ⊢
  obtain ⟨R, hR⟩ : ∃ R, R = nv (xs.drop (k + 1)) := ⟨_, rfl⟩
  rw [← hR] at h2
  rw [hz, Nat.zero_add, h2, hm] at h1
  refine tz_uniq (m := 2 * m + 1 + 2 ^ (32 - c) * R) ?_ ?_
  · rw [h1, show (4294967296 : Nat) ^ k = 2 ^ (32 * k) by rw [Nat.pow_mul], Nat.pow_add, Nat.mul_assoc]
    congr 1
    have e : (4294967296 : Nat) = 2 ^ c * 2 ^ (32 - c) := by rw [← Nat.pow_add, show c + (32 - c) = 32 by omega]
    rw [Nat.mul_add (2 ^ c) (2 * m + 1), ← Nat.mul_assoc (2 ^ c) (2 ^ (32 - c)) R, ← e]
  · obtain ⟨t, ht⟩ : ∃ t, 32 - c = 1 + t := ⟨31 - c, by omega⟩
    rw [ht, Nat.pow_add, Nat.pow_one, Nat.mul_assoc]
    omega

set_option maxHeartbeats 1000000 in
theorem nzeros_any (A : Option Addr) (n c : Nat) (xs : List Nat) (w : World) (h : Wds w A n c xs) (hn : n ≤ 1099511627776) (hT : Tab w) :
    Calls Tryd.prog 111 #[.slice A n c] w fun e w' => e = .returned (.int .i64 (tz (nv xs) : Nat)) ∧ w = w' := by
  have hlen := h.len
  have HTZ := Lib.hid (fun x hx hx0 => tz32_any x hx hx0 w hT)
  obtain ⟨Z, hZ⟩ : ∃ Z, Z = tz (nv xs) := ⟨_, rfl⟩
  have HZ := Lib.hid hZ
  rw [← hZ]
  clear hZ hT
  go_enter Tryd.func111, Tryd.ntmps111
  go_wp2
  go_loop [7] (fun iv => ∃ k : Nat, k ≤ n ∧ iv = .int .i64 (k : Int) ∧ Hid (nv (xs.take k) = 0)) (fun iv => n - (intOf iv).toNat)
  case atStart => exact ⟨0, by omega, rfl, Lib.hid (by simp [nv])⟩
  case round =>
    obtain ⟨k, hk, rfl, hz⟩ := hrel
    by_cases hkn : k < n
    · obtain ⟨ad, hx, rfl, hb, hc⟩ := h.at_ (k := k) hkn
      have hX := h.ws.get hx
      have hsucc := Lib.hid (nv_take_succ hx)
      by_cases hx0 : xs[k] = 0
      · have hz2 : Hid (nv (xs.take (k + 1)) = 0) := Lib.hid (by rw [hsucc.out, hz.out, hx0]; simp)
        rw [hx0] at hc
        clear hx0 hsucc hX
        go_wp2
        go_round
        case rel => exact ⟨k + 1, by omega, by go_num, hz2⟩
        case measure => simp [intOf]; omega
      · have hq : ((xs[k] : Int) != 0) = true := by rw [bne_iff_ne]; omega
        have HX := Lib.hid (HTZ.out xs[k] hX hx0)
        have HE := Lib.hid (tz_at h.ws hx hz.out hx0)
        have hcb : Lib.ctz 32 xs[k] < 32 := (Lib.lowest_bit 32 xs[k] hx0 hX).2
        obtain ⟨X, hXX⟩ : ∃ X, X = xs[k] := ⟨_, rfl⟩
        rw [← hXX] at hc hq HX HE hcb
        obtain ⟨q, hqq⟩ : ∃ q, q = Lib.ctz 32 X := ⟨_, rfl⟩
        rw [← hqq] at HX HE hcb
        clear hXX hqq hx0 hsucc hX
        go_wp2_with (go_at_call 152; refine HX.out.mono ?_; rintro e w' ⟨rfl, rfl⟩)
        go_ret
        exact ⟨ret_int (by rw [HZ.out, HE.out]; push_cast; rfl), rfl⟩
    · have hke : k = n := by omega
      subst hke
      have hz0 : Z = 0 := by
        rw [HZ.out]
        have := hz.out
        rw [← hlen, List.take_length] at this
        rw [this]
        rfl
      have HZ0 := Lib.hid hz0
      clear hz0
      go_wp2
      go_ret
      exact ⟨ret_int (by rw [HZ0.out]; rfl), rfl⟩

/-- Is the power below 0? -/
def pwS (s : Bool) (m : Nat) : Bool := s && decide (m % 2 = 1)
theorem cn_ok {r V : Nat} (h : r = V) (h1 : cn V = V) : cn r = V := by rw [h, h1]

set_option maxHeartbeats 2000000 in
theorem rpower_p (d : Int) (s : Bool) (A : Option Addr) (l c : Nat) (sig : Nat) (E : Int) (m : Nat) (w : World) (h : Wds w A l c (nd sig)) (hT : Tab w) (hsg : sig < 9007199254740992) (hE1 : -1074 ≤ E) (hE2 : E ≤ 972) (hm1 : 1 ≤ m) (hm2 : m ≤ 1024) :
    Calls Tryd.prog 63 #[.int .i64 d, .agg #[.bool s, .slice A l c, .int .i64 E], .int .i64 (m : Int)] w (RetFl (ofR d (pwS s m) ((sig / 2 ^ tz sig) ^ m) ((E + tz sig) * m)) w) := by
  have hbl : bl sig ≤ 53 := by rw [bl_le_iff]; have : (2 : Nat) ^ 53 = 9007199254740992 := by decide
                               omega
  have hnw : nw sig ≤ 2 := by have := nw_bl sig; omega
  have hl : l = nw sig := by have := h.len; rw [nd_length] at this; omega
  have htz : tz sig ≤ 53 := by
    by_cases h0 : sig = 0
    · rw [h0]; decide
    · have := tz_lt h0; omega
  have HZE : Hid (∀ w, Wds w A l c (nd sig) → Tab w → Calls Tryd.prog 111 #[.slice A l c] w fun e w' => e = .returned (.int .i64 (tz sig : Nat)) ∧ w = w') := Lib.hid (fun w h hT => by
    have := nzeros_any A l c (nd sig) w h (by omega) hT
    rwa [nv_nd] at this)
  have HSH : Hid (∀ w, Wds w A l c (nd sig) → Calls Tryd.prog 112 #[.slice A l c, .int .i64 (tz sig : Int)] w (RetWBE (sig / 2 ^ tz sig) (lostB sig (tz sig)) 0 w)) := Lib.hid (fun w h => by
    have := nshr_any A l c (nd sig) (tz sig) w h (by omega) (by omega) (by rw [nv_nd]; omega)
    rwa [nv_nd] at this)
  obtain ⟨z, hz⟩ : ∃ z, z = tz sig := ⟨_, rfl⟩
  obtain ⟨O, hO0⟩ : ∃ O, O = sig / 2 ^ tz sig := ⟨_, rfl⟩
  have hOb : bl O ≤ 53 := by
    rw [hO0]
    exact Nat.le_trans (bl_mono (Nat.div_le_self _ _)) hbl
  rw [← hO0] at HSH ⊢
  rw [← hz] at HZE HSH htz ⊢
  have HPW : Hid (∀ (A2 : Option Addr) (l2 c2 : Nat) w, Wds w A2 l2 c2 (nd O) → Calls Tryd.prog 113 #[.slice A2 l2 c2, .int .i64 (m : Int)] w (RetWE (O ^ m) 0 w)) := Lib.hid (fun A2 l2 c2 w h2 => by
    have h3 := h2.len
    rw [nd_length] at h3
    have h4 : nw O ≤ 2 := by have := nw_bl O; omega
    have h5 : bl O * m ≤ 53 * 1024 := Nat.mul_le_mul hOb hm2
    have := npow_any A2 l2 c2 (nd O) m w h2 (by omega) (by omega) (by rw [nv_nd]; omega) (by rw [nv_nd]; omega)
    rwa [nv_nd] at this)
  have hbp : nw (O ^ m) ≤ 4000 := by
    have h1 := lt_pow_bl O
    have h2 : O ^ m ≤ (2 ^ 53) ^ m := Nat.pow_le_pow_left (Nat.le_trans (Nat.le_of_lt h1) (Nat.pow_le_pow_right (by omega) hOb)) m
    rw [← Nat.pow_mul] at h2
    have h3 : 53 * m ≤ 54272 := by omega
    obtain ⟨T, hT'⟩ : ∃ T : Nat, T = 54273 := ⟨_, rfl⟩
    have h4 : bl (O ^ m) ≤ T := by
      rw [bl_le_iff]
      have h5 : 2 ^ (53 * m) < 2 ^ T := Nat.pow_lt_pow_right (by omega) (by omega)
      omega
    have := nw_bl (O ^ m)
    omega
  obtain ⟨V, hV⟩ : ∃ V, V = O ^ m := ⟨_, rfl⟩
  rw [← hV] at HPW hbp ⊢
  obtain ⟨F, hF⟩ : ∃ F : Int, F = (E + z) * m := ⟨_, rfl⟩
  have hFb : -1099776 ≤ F ∧ F ≤ 1126400 := by
    have a1 := Int.mul_le_mul_of_nonneg_right (show E + (z : Int) ≤ 1025 by omega) (show (0 : Int) ≤ (m : Int) by omega)
    have a2 := Int.mul_le_mul_of_nonneg_right (show -1074 ≤ E + (z : Int) by omega) (show (0 : Int) ≤ (m : Int) by omega)
    rw [← hF] at a1 a2
    omega
  have hWF : IntKind.i64.wrap ((E + (z : Int)) * (m : Int)) = F := by
    rw [← hF]
    simp [IntKind.wrap, IntKind.bits, IntKind.signed]
    omega
  have HOF : Hid (∀ (A2 : Option Addr) (l2 c2 : Nat) (t : Bool) w, Wds w A2 l2 c2 (nd V) → Calls Tryd.prog 23 #[.int .i64 d, .bool t, .slice A2 l2 c2, .int .i64 F] w (RetFl (ofR d t V F) w)) := Lib.hid (fun A2 l2 c2 t w h2 => by
    have h3 := h2.len
    rw [nd_length] at h3
    have := rof_any d t A2 l2 c2 (nd V) F w h2 (by omega)
    rwa [nv_nd] at this)
  rw [← hF]
  have hm3 : decide ((m : Int) < 0) = false := decide_eq_false (by omega)
  obtain ⟨par, hpar⟩ : ∃ b, b = decide (m % 2 = 1) := ⟨_, rfl⟩
  have hq : ((m : Int) % 2 == 1) = par := by
    rw [hpar, Bool.eq_iff_iff, beq_iff_eq, decide_eq_true_eq]
    omega
  have hps : pwS s m = (s && par) := by unfold pwS; rw [hpar]
  rw [hps]
  have hO := (Own.start w).add h
  have hf : True := trivial
  have hT' := hT
  clear h hz hO0 hV hF hpar hps hbl hnw hsg hOb hbp hl hT
  cases s
  all_goals
    go_enter Tryd.func63, Tryd.ntmps63
    go_wp2_with (first | ((with_reducible refine at_box ?_); (first | refine own_box (cs := [.bool false, .slice A l c, .int .i64 E]) hO rfl rfl ?_ | refine own_box (cs := [.bool true, .slice A l c, .int .i64 E]) hO rfl rfl ?_); clear hO; intro ga wa hO; clear hf; have hf := hO.cells; simp only [BC, CC, Nat.zero_add, Nat.reduceAdd, and_true] at hf))
    refine (HZE.out _ (hO.wd 0 rfl) (hT'.ext hO.toExt)).mono ?_
    rintro e w' ⟨rfl, rfl⟩
    go_wp2_with fail
    refine (HSH.out _ (hO.wd 0 rfl)).mono ?_
    rintro e w2 ⟨A2, l2, c2, rfl, hW2, hE2⟩
    have hO := (hO.ext hE2).add hW2
    clear hW2 hE2
    clear hf
    have hf := hO.cells
    simp only [BC, CC, Nat.zero_add, Nat.reduceAdd, and_true] at hf
    go_wp2_with fail
    refine (HPW.out _ _ _ _ (hO.wd 0 rfl)).mono ?_
    rintro e w3 ⟨A3, l3, c3, rfl, hW3, hE3⟩
    have hO := (hO.ext hE3).add hW3
    clear hW3 hE3
    clear hf
    have hf := hO.cells
    simp only [BC, CC, Nat.zero_add, Nat.reduceAdd, and_true] at hf
    go_wp2_with fail
    refine (HOF.out _ _ _ _ _ (hO.wd 0 rfl)).mono ?_
    rintro e w4 ⟨r, rfl, hr, hc, hE4⟩
    go_wp2
    go_ret
    exact ⟨r, rfl, hr, by first | exact hc | simpa using hc, hO.toExt.trans hE4⟩
end Go.Proofs.YtadijoeeaineaaaDoor
