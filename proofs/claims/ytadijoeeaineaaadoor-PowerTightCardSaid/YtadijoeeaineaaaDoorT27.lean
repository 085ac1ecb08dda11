/-
  Plain: a power's own ends, and those of a power of an interval, lie about it. Conditions: those that each theorem names.
-/
import Derived.Test.YtadijoeeaineaaaDoorT23
import Derived.Test.YtadijoeeaineaaaDoorT26
import Derived.Test.YtadijoeeaineaaaDoorT03
import Derived.Test.YtadijoeeaineaaaDoorT20
import Derived.Test.YtadijoeeaineaaaDoorT07
import Derived.Test.YtadijoeeaineaaaDoorT08
import Derived.StillTailTactics
import Derived.Deep.QuietTactic
import Derived.BigQuiet
import Derived.Test.YtadijoeeaineaaaDoorT09
import Derived.Deep.RegionWith
import Derived.Test.YtadijoeeaineaaaDoorT04
import Derived.Outline
import Derived.Test.YtadijoeeaineaaaDoorT06
namespace Go.Proofs.YtadijoeeaineaaaDoor
open Nm Rn
set_option linter.unusedVariables false
set_option linter.unusedSimpArgs false

/-- The m-th power of a number, as the document has it. -/
def tiS (x m : Nat) : Bool := pwS (sg x && decide (mg x ≠ 0)) m && decide (fbN x ^ m ≠ 0)
def tiN (x m : Nat) : Nat := fracN (fbN x ^ m) (fbD x ^ m) 0
def tiD (x m : Nat) : Nat := fracD (fbN x ^ m) (fbD x ^ m) 0
theorem tiD_pos (x m : Nat) : 0 < tiD x m := fracD_pos 0 (Nat.ne_of_gt (Nat.pow_pos (fbD_pos x)))
theorem tiS_zero {x m : Nat} (h : tiN x m = 0) : tiS x m = false := by
  unfold tiN at h
  have := fracN_eq_zero.1 h
  have hz : ¬ (fbN x ^ m ≠ 0) := fun h => h this
  unfold tiS
  rw [decide_eq_false hz, Bool.and_false]
theorem ti_rnd {d : Int} {x m : Nat} {n : Int} (nx : isNaN x = false) (fx : mg x < infR) (hn : n = (m : Int)) (hm0 : 0 < m) (hm : m ≤ 1024) : rnd d (tiS x m) (zr (tiN x m) (tiD x m)) = powR d x n := by
  rw [powR_pos nx (by omega) fx (by omega), show n.toNat = m by omega]
  have e : zr (tiN x m) (tiD x m) = ZP x m := rfl
  rw [e]
  unfold tiS
  by_cases hz : mg x = 0
  · rw [ZP_zero hz hm0, rnd_zero, rnd_zero]
  · have hN : fbN x ^ m ≠ 0 := Nat.ne_of_gt (Nat.pow_pos (fbN_pos_ hz))
    rw [decide_eq_true hN, Bool.and_true, decide_eq_true hz, Bool.and_true]
/-- The next pattern's place. -/
theorem step_key {b : Nat} (hb : b < 18446744073709551616) (nb : isNaN b = false) (hi : b ≠ infR) (hz : b ≠ 9223372036854775808) : stepP b < 18446744073709551616 ∧ key (stepP b) = key b + 1 ∧ isNaN (stepP b) = false ∧ stepP b ≠ 9223372036854775808 := by
  have e := infR_val
  have hmb := mg_le_inf nb
  unfold mg at hmb
  unfold stepP
  by_cases h1 : b = 9223372036854775809 ∨ b = 9223372036854775808
  · rw [if_pos h1]
    have : b = 9223372036854775809 := by rcases h1 with h | h; exact h; exact absurd h hz
    rw [this]; decide
  · rw [if_neg h1]
    by_cases h2 : 9223372036854775808 < b
    · rw [if_pos h2]
      have s1 : sg b = true := decide_eq_true (by omega)
      have s2 : sg (b - 1) = true := decide_eq_true (by omega)
      have m1 : mg b = b - 9223372036854775808 := by unfold mg; omega
      have m2 : mg (b - 1) = b - 1 - 9223372036854775808 := by unfold mg; omega
      refine ⟨by omega, ?_, ?_, by omega⟩
      · unfold key; rw [s1, s2, m1, m2]; simp; omega
      · unfold isNaN; rw [m2]; exact decide_eq_false (by omega)
    · rw [if_neg h2]
      have s1 : sg b = false := decide_eq_false (by omega)
      have s2 : sg (b + 1) = false := decide_eq_false (by omega)
      have m1 : mg b = b := by unfold mg; omega
      have m2 : mg (b + 1) = b + 1 := by unfold mg; omega
      refine ⟨by omega, ?_, ?_, by omega⟩
      · unfold key; rw [s1, s2, m1, m2]; simp
      · unfold isNaN; rw [m2]; exact decide_eq_false (by omega)
/-- The pattern before. -/
def prevP (b : Nat) : Nat := ng (stepP (ng b))
theorem prev_key {b : Nat} (hb : b < 18446744073709551616) (nb : isNaN b = false) (hi : b ≠ minf) (hz : mg b ≠ 0) : prevP b < 18446744073709551616 ∧ key (prevP b) = key b - 1 ∧ isNaN (prevP b) = false := by
  have h1 := ng_lt hb
  have h2 : isNaN (ng b) = false := by unfold isNaN at nb ⊢; rw [mg_ng hb]; exact nb
  have h3 : ng b ≠ infR := fun h => by
    have hk : key (ng b) = key infR := by rw [h]
    rw [key_ng hb, key_inf] at hk
    exact hi ((key_eq_minf hb nb).1 (by omega))
  have h4 : ng b ≠ 9223372036854775808 := fun h => by
    have : mg (ng b) = 0 := by rw [h]; decide
    rw [mg_ng hb] at this
    exact hz this
  obtain ⟨s1, s2, s3, _⟩ := step_key h1 h2 h3 h4
  unfold prevP
  refine ⟨ng_lt s1, ?_, ?_⟩
  · rw [key_ng s1, s2, key_ng hb]; omega
  · unfold isNaN at s3 ⊢; rw [mg_ng s1]; exact s3
theorem fin_of {b : Nat} (hb : b < 18446744073709551616) (nb : isNaN b = false) (h1 : b ≠ infR) (h2 : b ≠ minf) : mg b < infR := by
  have e := infR_val
  have e2 := minf_val
  have := mg_le_inf nb
  unfold mg at this ⊢
  omega
theorem sv_mono {a b : Nat} (h : key a ≤ key b) : sv a ≤ sv b := by
  obtain ⟨h1, h2⟩ := rv_key a b
  rcases Int.lt_or_le (key a) (key b) with hl | hg
  · have := h1.2 hl; omega
  · have := h2.2 (by omega); omega
theorem sv_lt {a b : Nat} (h : key a < key b) : sv a < sv b := (rv_key a b).1.2 h
theorem endV_sv (b : Nat) : endV b = sv b := rfl

/-- How a ratio stands to a pattern. -/
def rcL (b : Nat) (s : Bool) (N D : Nat) : Int := rc (sg b && decide (mg b ≠ 0)) (fbN b) (fbD b) s N D
def rcR (s : Bool) (N D b : Nat) : Int := rc s N D (sg b && decide (mg b ≠ 0)) (fbN b) (fbD b)
theorem cmpI_le0 {a b : Int} : cmpI a b ≤ 0 ↔ a ≤ b := by
  unfold cmpI
  repeat' split
  all_goals omega
theorem cmpI_neg0 {a b : Int} : cmpI a b < 0 ↔ a < b := by
  unfold cmpI
  repeat' split
  all_goals omega
theorem cmpI_pos0 {a b : Int} : 0 < cmpI a b ↔ b < a := by
  unfold cmpI
  repeat' split
  all_goals omega
section
variable {T D : Int} {LO HI NE : Nat}
theorem tg_lo (h : Tg T D LO HI NE) (hD : 0 < D) (hf : mg LO < infR) : sv LO * D ≤ T := by
  rcases h.or_ with ⟨_, _, _, g⟩ | ⟨_, _, _, g, _⟩
  · rw [endV_sv] at g; omega
  · have := g hf; rw [endV_sv] at this; omega
theorem tg_hi (h : Tg T D LO HI NE) (hD : 0 < D) (hf : mg HI < infR) : T ≤ sv HI * D := by
  rcases h.or_ with ⟨e, _, _, g⟩ | ⟨_, _, _, _, g, _⟩
  · rw [endV_sv, e] at g; omega
  · have := g hf; rw [endV_sv] at this; omega
theorem tg_nn (h : Tg T D LO HI NE) : isNaN LO = false ∧ isNaN HI = false := by
  have e := infR_val
  have h1 := h.l2
  have h2 := h.h2
  exact ⟨decide_eq_false (by omega), decide_eq_false (by omega)⟩
theorem mul_le {a b D : Int} (hD : 0 < D) (h : a ≤ b) : a * D ≤ b * D := Int.mul_le_mul_of_nonneg_right h (Int.le_of_lt hD)
theorem mul_lt {a b D : Int} (hD : 0 < D) (h : a < b) : a * D < b * D := Int.mul_lt_mul_of_pos_right h hD
/-- A lower end below the power's own is not above the power. -/
theorem tg_below (h : Tg T D LO HI NE) (hD : 0 < D) {y : Nat} (hy : y < 18446744073709551616) (ny : isNaN y = false) (h1 : y ≠ infR) (h2 : y ≠ minf) (hk : key y ≤ key LO) : sv y * D ≤ T := by
  have nl := (tg_nn h).1
  have hne : LO ≠ minf := fun e => by
    rw [e, key_minf] at hk
    have := (key_le ny).2
    exact h2 ((key_eq_minf hy ny).1 (by omega))
  have := tg_lo h hD (fin_of h.l1 nl h.l3 hne)
  have := mul_le hD (sv_mono hk)
  omega
theorem tg_above (h : Tg T D LO HI NE) (hD : 0 < D) {y : Nat} (hy : y < 18446744073709551616) (ny : isNaN y = false) (h1 : y ≠ infR) (h2 : y ≠ minf) (hk : key HI ≤ key y) : T ≤ sv y * D := by
  have nl := (tg_nn h).2
  have hne : HI ≠ infR := fun e => by
    rw [e, key_inf] at hk
    have := (key_le ny).1
    exact h1 ((key_eq_inf hy ny).1 (by omega))
  have := tg_hi h hD (fin_of h.h1 nl hne h.h3)
  have := mul_le hD (sv_mono hk)
  omega
/-- The pattern behind the lower end is infinite, or above the power. -/
theorem tg_next (h : Tg T D LO HI NE) (hD : 0 < D) : stepP LO = infR ∨ T < sv (stepP LO) * D := by
  have nn := tg_nn h
  rcases h.or_ with ⟨e, _, hf, g⟩ | ⟨_, e, _, _, g, _⟩
  · right
    obtain ⟨_, s2, _, _⟩ := step_key h.l1 nn.1 h.l3 h.l4
    have := mul_lt hD (sv_lt (show key LO < key (stepP LO) by omega))
    rw [endV_sv] at g
    omega
  · rw [e]
    by_cases hi : HI = infR
    · exact .inl hi
    · right
      have := g (fin_of h.h1 nn.2 hi h.h3)
      rwa [endV_sv] at this
/-- The pattern before the upper end is infinite, or below the power. -/
theorem tg_prev (h : Tg T D LO HI NE) (hD : 0 < D) (hz : mg HI ≠ 0) : prevP HI = minf ∨ sv (prevP HI) * D < T := by
  have nn := tg_nn h
  obtain ⟨p1, p2, p3⟩ := prev_key h.h1 nn.2 h.h3 hz
  rcases h.or_ with ⟨e, _, hf, g⟩ | ⟨_, e, _, g, _⟩
  · right
    have := mul_lt hD (sv_lt (show key (prevP HI) < key HI by omega))
    rw [endV_sv, e] at g
    omega
  · have hk : key (prevP HI) = key LO := by
      have := (step_key h.l1 nn.1 h.l3 h.l4).2.1
      rw [e] at this
      omega
    by_cases hm : LO = minf
    · left
      rw [hm, key_minf] at hk
      exact (key_eq_minf p1 p3).1 hk
    · right
      have := g (fin_of h.l1 nn.1 h.l3 hm)
      rw [endV_sv] at this
      have e2 : sv (prevP HI) = sv LO := (rv_key _ _).2.2 hk
      rw [e2]
      exact this
theorem tg_zero (h : Tg T D LO HI NE) (hD : 0 < D) (hz : HI = 0) : sv 9223372036854775809 * D < T := by
  have nn := tg_nn h
  have s0 : sv 9223372036854775809 < sv 0 := sv_lt (by decide)
  rcases h.or_ with ⟨e, _, hf, g⟩ | ⟨_, e, _, g, _⟩
  · have := mul_lt hD s0
    rw [endV_sv, e, hz] at g
    omega
  · have hk := (step_key h.l1 nn.1 h.l3 h.l4).2.1
    rw [e, hz] at hk
    have k1 : key LO = key 9223372036854775809 := by
      have k0 : key 0 = 0 := rfl
      have k2 : key 9223372036854775809 = -1 := by decide
      omega
    have hm : LO ≠ minf := fun e => by rw [e] at k1; revert k1; decide
    have := g (fin_of h.l1 nn.1 h.l3 hm)
    rw [endV_sv, (rv_key _ _).2.2 k1] at this
    exact this
end
theorem ti_tg {x m : Nat} {n : Int} (nx : isNaN x = false) (fx : mg x < infR) (hn : n = (m : Int)) (hm0 : 0 < m) (hm : m ≤ 1024) :
    Tg (sn (tiS x m) (tiN x m) * (K74 : Int)) (tiD x m : Int) (powR (-1) x n) (powR 1 x n) (powR 0 x n) := by
  have := tg_of (s := tiS x m) (tiD_pos x m) (tiS_zero (x := x) (m := m))
  rwa [ti_rnd nx fx hn hm0 hm, ti_rnd nx fx hn hm0 hm, ti_rnd nx fx hn hm0 hm] at this
theorem tiD_posi (x m : Nat) : (0 : Int) < (tiD x m : Int) := by have := tiD_pos x m; omega
theorem rcL_eq (b : Nat) (s : Bool) {N D : Nat} (hD : 0 < D) : rcL b s N D = cmpI (sv b * (D : Int)) (sn s N * (K74 : Int)) ∧ rcR s N D b = cmpI (sn s N * (K74 : Int)) (sv b * (D : Int)) := rc_end (ev_bits b) s hD
/-- The ends of a power of an interval, about the power of a number of it. -/
structure TiX (x m y1 y2 : Nat) : Prop where
  c1 : y1 = minf ∨ rcL y1 (tiS x m) (tiN x m) (tiD x m) ≤ 0
  c2 : y2 = infR ∨ rcR (tiS x m) (tiN x m) (tiD x m) y2 ≤ 0
theorem tiX_of {x m y1 y2 : Nat} {n : Int} (nx : isNaN x = false) (fx : mg x < infR) (hn : n = (m : Int)) (hm0 : 0 < m) (hm : m ≤ 1024) (hy : PnE y1 y2) (k1 : key y1 ≤ key (powR (-1) x n)) (k2 : key (powR 1 x n) ≤ key y2) : TiX x m y1 y2 := by
  have h := ti_tg nx fx hn hm0 hm
  have hD := tiD_posi x m
  constructor
  · by_cases e : y1 = minf
    · exact .inl e
    · right
      rw [(rcL_eq y1 _ (tiD_pos x m)).1, cmpI_le0]
      exact tg_below h hD hy.la hy.na hy.ia e k1
  · by_cases e : y2 = infR
    · exact .inl e
    · right
      rw [(rcL_eq y2 _ (tiD_pos x m)).2, cmpI_le0]
      exact tg_above h hD hy.lb hy.nb e hy.ib k2
theorem ti_low {x m : Nat} {n : Int} (nx : isNaN x = false) (fx : mg x < infR) (hn : n = (m : Int)) (hm0 : 0 < m) (hm : m ≤ 1024) : stepP (powR (-1) x n) = infR ∨ rcR (tiS x m) (tiN x m) (tiD x m) (stepP (powR (-1) x n)) < 0 := by
  rcases tg_next (ti_tg nx fx hn hm0 hm) (tiD_posi x m) with h | h
  · exact .inl h
  · right; rw [(rcL_eq _ _ (tiD_pos x m)).2, cmpI_neg0]; exact h
theorem ti_high {x m : Nat} {n : Int} (nx : isNaN x = false) (fx : mg x < infR) (hn : n = (m : Int)) (hm0 : 0 < m) (hm : m ≤ 1024) :
    (powR 1 x n = 0 ∧ 0 < rcR (tiS x m) (tiN x m) (tiD x m) 9223372036854775809) ∨ (powR 1 x n ≠ 0 ∧ (prevP (powR 1 x n) = minf ∨ 0 < rcR (tiS x m) (tiN x m) (tiD x m) (prevP (powR 1 x n)))) := by
  have h := ti_tg nx fx hn hm0 hm
  by_cases hz : powR 1 x n = 0
  · refine .inl ⟨hz, ?_⟩
    rw [(rcL_eq _ _ (tiD_pos x m)).2, cmpI_pos0]
    exact tg_zero h (tiD_posi x m) hz
  · refine .inr ⟨hz, ?_⟩
    have hm1 : mg (powR 1 x n) ≠ 0 := fun e => by
      have := split_pat h.h1
      rw [e] at this
      have h4 := h.h4
      revert this
      split <;> intro this <;> omega
    rcases tg_prev h (tiD_posi x m) hm1 with g | g
    · exact .inl g
    · right; rw [(rcL_eq _ _ (tiD_pos x m)).2, cmpI_pos0]; exact g
end Go.Proofs.YtadijoeeaineaaaDoor

/-
  The contracts of the document's own intervals, first part: how patterns stand to each other, how two ends are read. Conditions: those that each theorem names.
-/
namespace Go.Proofs.YtadijoeeaineaaaDoor
open Go.RowKit Nm Rn
set_option maxRecDepth 100000
set_option linter.unusedVariables false
set_option linter.unusedSimpArgs false

theorem or_top6 (p : Nat) (h : p < 9223372036854775808) : bits .or .u64 (p : Int) 9223372036854775808 = ((p + 9223372036854775808 : Nat) : Int) := by
  have e : (9223372036854775808 : Int) = ((9223372036854775808 : Nat) : Int) := rfl
  rw [e, u64_or_nat _ _ (by omega) (by omega)]
  congr 1
  rw [Nat.or_comm, nat_join 63 _ _ (by omega) (by omega), Nat.add_comm]

theorem xor_ones (p : Nat) (h : p < 18446744073709551616) : 18446744073709551615 ^^^ p = 18446744073709551615 - p := by
  have h1 : BitVec.allOnes 64 ^^^ BitVec.ofNat 64 p = ~~~(BitVec.ofNat 64 p) := BitVec.allOnes_xor
  have h2 := congrArg BitVec.toNat h1
  rw [BitVec.toNat_xor, BitVec.toNat_not, BitVec.toNat_allOnes, BitVec.toNat_ofNat, Nat.mod_eq_of_lt (show p < 2 ^ 64 by omega)] at h2
  exact h2
theorem not_u64 (p : Nat) (h : p < 18446744073709551616) : bits .xor .u64 IntKind.u64.max (p : Int) = ((18446744073709551615 - p : Nat) : Int) := by
  have e : IntKind.u64.max = ((18446744073709551615 : Nat) : Int) := rfl
  rw [e, u64_xor_nat _ _ (by omega) h, xor_ones p h]

set_option maxHeartbeats 400000 in
theorem key6_any (b : Nat) (w : World) (h : b < 18446744073709551616) :
    Calls Tryd.prog 97 #[.int .u64 (b : Int)] w fun e w' => e = .returned (.int .u64 (rkey b : Nat)) ∧ w = w' := by
  have hp := plain3_any b w h
  have hpl := plN_lt h
  obtain ⟨p, hpe⟩ : ∃ p, p = plN b := ⟨_, rfl⟩
  rw [← hpe] at hp hpl
  have HP := Lib.hid hp
  clear hp
  by_cases h0 : 9223372036854775808 ≤ p
  · have HF : Hid (((18446744073709551615 - p : Nat) : Int) = (rkey b : Nat)) := Lib.hid (by unfold rkey; rw [← hpe, if_pos h0])
    have h1 : decide ((9223372036854775808 : Int) ≤ (p : Int)) = true := decide_eq_true (by omega)
    have h2 := not_u64 p hpl
    have HPL := Lib.hid hpl
    clear hpe h h0 hpl
    go_enter Tryd.func97, Tryd.ntmps97
    go_wp2_with fail
    refine HP.out.mono ?_
    rintro e w1 ⟨rfl, rfl⟩
    go_wp2
    go_ret
    exact ⟨ret_int HF.out, rfl⟩
  · have HF : Hid ((p : Int) + 9223372036854775808 = (rkey b : Nat)) := Lib.hid (by unfold rkey; rw [← hpe, if_neg h0]; omega)
    have h1 : decide ((9223372036854775808 : Int) ≤ (p : Int)) = false := decide_eq_false (by omega)
    have h2 := or_top6 p (by omega)
    clear hpe h h0
    go_enter Tryd.func97, Tryd.ntmps97
    go_wp2_with fail
    refine HP.out.mono ?_
    rintro e w1 ⟨rfl, rfl⟩
    go_wp2
    go_ret
    exact ⟨ret_int HF.out, rfl⟩

set_option maxHeartbeats 400000 in
theorem above6_any (x y : Nat) (w : World) (hx : x < 18446744073709551616) (hy : y < 18446744073709551616) :
    Calls Tryd.prog 35 #[.int .u64 (x : Int), .int .u64 (y : Int)] w fun e w' => e = .returned (.bool (ltB y x)) ∧ w = w' := by
  have hnx := isnan_any x w hx
  have hny := isnan_any y w hy
  have hkx := key6_any x w hx
  have hky := key6_any y w hy
  have hF := (above_lt hx hy).symm
  unfold aboveB at hF
  obtain ⟨K, hK⟩ : ∃ K, K = rkey x := ⟨_, rfl⟩
  obtain ⟨L, hL⟩ : ∃ L, L = rkey y := ⟨_, rfl⟩
  rw [← hK] at hkx hF
  rw [← hL] at hky hF
  have HKX := Lib.hid hkx
  have HKY := Lib.hid hky
  cases h1 : isNaN x <;> cases h2 : isNaN y
  all_goals
    rw [h1] at hnx hF
    rw [h2] at hny hF
    have HF := Lib.hid hF
    have HNX := Lib.hid hnx
    have HNY := Lib.hid hny
    clear hnx hny hkx hky hF hK hL h1 h2 hx hy
    go_enter Tryd.func35, Tryd.ntmps35
    go_wp2_with (first | (go_at_call 66; ((with_reducible refine HNX.out.mono ?_); rintro e w' ⟨rfl, rfl⟩)) | (go_at_call 66; ((with_reducible refine HNY.out.mono ?_); rintro e w' ⟨rfl, rfl⟩)) | (go_at_call 97; ((with_reducible refine HKX.out.mono ?_); rintro e w' ⟨rfl, rfl⟩)) | (go_at_call 97; ((with_reducible refine HKY.out.mono ?_); rintro e w' ⟨rfl, rfl⟩)))
    go_ret
    first
    | exact ⟨ret_bool (by rw [HF.out]; simp), rfl⟩
    | exact ⟨ret_bool (by rw [HF.out, Bool.not_false, Bool.true_and, Bool.true_and]; exact decide_eq_decide.2 (by omega)), rfl⟩

set_option maxHeartbeats 400000 in
theorem sound6_any (lo hi : Nat) (w : World) (hl : lo < 18446744073709551616) (hh : hi < 18446744073709551616) :
    Calls Tryd.prog 96 #[.agg #[.int .u64 (lo : Int), .int .u64 (hi : Int)]] w fun e w' => e = .returned (.bool (sndB lo hi)) ∧ Ext w w' := by
  have hnx := fun w => isnan_any lo w hl
  have hny := fun w => isnan_any hi w hh
  have hab := fun w => above6_any lo hi w hl hh
  have hF := snd_eq hl hh
  unfold sndR at hF
  rw [above_lt hl hh] at hF
  have HI := Lib.hid (show ((lo : Int) != 9218868437227405312) = decide (lo ≠ infR) by rw [infR_val, Bool.eq_iff_iff, bne_iff_ne, decide_eq_true_iff]; omega)
  have HM := Lib.hid (show ((hi : Int) != 18442240474082181120) = decide (hi ≠ minf) by rw [minf_val, Bool.eq_iff_iff, bne_iff_ne, decide_eq_true_iff]; omega)
  obtain ⟨a, ha⟩ : ∃ a, a = decide (lo ≠ infR) := ⟨_, rfl⟩
  obtain ⟨b, hb⟩ : ∃ b, b = decide (hi ≠ minf) := ⟨_, rfl⟩
  rw [← ha] at hF HI
  rw [← hb] at hF HM
  have hI := HI.out
  have hM := HM.out
  have HAB := Lib.hid hab
  clear ha hb HI HM hab
  cases h1 : isNaN lo <;> cases h2 : isNaN hi <;> cases h3 : ltB hi lo <;> cases a <;> cases b
  all_goals
    rw [h1, h2, h3] at hF
    have HF := Lib.hid hF
    have HAB2 := Lib.hid (fun w => h3 ▸ HAB.out w)
    have HNX := Lib.hid (fun w => h1 ▸ hnx w)
    have HNY := Lib.hid (fun w => h2 ▸ hny w)
    clear hnx hny hF h1 h2 h3 hl hh HAB
    go_enter Tryd.func96, Tryd.ntmps96
    go_wp2_with (first | (go_at_call 66; ((with_reducible refine (HNX.out _).mono ?_); rintro e w' ⟨rfl, rfl⟩)) | (go_at_call 66; ((with_reducible refine (HNY.out _).mono ?_); rintro e w' ⟨rfl, rfl⟩)) | (go_at_call 35; ((with_reducible refine (HAB2.out _).mono ?_); rintro e w' ⟨rfl, rfl⟩)))
    go_ret
    exact ⟨ret_bool (by rw [HF.out]; rfl), (Ext.refl w).alloc _⟩

/-- A result of two patterns. -/
def RetI (lo hi : Nat) (w : World) (e : Ending) (w' : World) : Prop := e = .returned (.agg #[.int .u64 (lo : Int), .int .u64 (hi : Int)]) ∧ Ext w w'

set_option maxHeartbeats 400000 in
theorem empty6_any (w : World) : Calls Tryd.prog 34 #[] w (RetI infR minf w) := by
  go_enter Tryd.func34, Tryd.ntmps34
  go_wp2
  exact bodyPost_ret (v := .agg #[.int .u64 9218868437227405312, .int .u64 18442240474082181120]) (by simp [results, Tryd.results34, go_sem]) rfl ⟨rfl, (Ext.refl w).alloc _⟩

theorem Blk.new2 (w : World) (o : Obj) (t : TypeId) (cs : Array Value) : Blk ((w.alloc o).alloc (.cells cs t)) (w.heap.size + 1) t cs := by
  have := Blk.new (w.alloc o) t cs
  rwa [show (w.alloc o).heap.size = w.heap.size + 1 by simp] at this
theorem plain_rd {lo hi : Nat} (h : sndB lo hi = true) : plN lo = rdLo lo hi ∧ plN hi = rdHi lo hi := by
  obtain ⟨h1, h2⟩ := snd_nan h
  unfold rdLo rdHi
  rw [if_pos h, if_pos h]
  exact ⟨plN_of h1, plN_of h2⟩
theorem empty_rd {lo hi : Nat} (h : sndB lo hi = false) : infR = rdLo lo hi ∧ minf = rdHi lo hi := by
  unfold rdLo rdHi
  rw [if_neg (by simp [h]), if_neg (by simp [h])]
  exact ⟨rfl, rfl⟩

set_option maxHeartbeats 1000000 in
theorem read6_any (lo hi : Nat) (w : World) (hl : lo < 18446744073709551616) (hh : hi < 18446744073709551616) :
    Calls Tryd.prog 32 #[.agg #[.int .u64 (lo : Int), .int .u64 (hi : Int)]] w (RetI (rdLo lo hi) (rdHi lo hi) w) := by
  have hs := fun w => sound6_any lo hi w hl hh
  have hp1 := fun w => plain3_any lo w hl
  have hp2 := fun w => plain3_any hi w hh
  cases hb : sndB lo hi
  · rw [hb] at hs
    obtain ⟨e1, e2⟩ := empty_rd hb
    rw [← e1, ← e2]
    have HS := Lib.hid hs
    clear hs hp1 hp2 hb e1 e2 hl hh
    go_enter Tryd.func32, Tryd.ntmps32
    go_wp2_with fail
    refine (HS.out _).mono ?_
    rintro e w1 ⟨rfl, hE1⟩
    go_wp2_with fail
    refine (empty6_any _).mono ?_
    rintro e w2 ⟨rfl, hE2⟩
    have hE := hE1.trans hE2
    have hblk := (Blk.new2 w (.cells #[.int .u64 (lo : Int), .int .u64 (hi : Int)] 53) 53 #[.int .u64 0, .int .u64 0]).ext hE
    have hEw : Ext w w2 := (((Ext.refl w).alloc _).alloc _).trans hE
    obtain ⟨G, hG⟩ : ∃ G, G = w.heap.size + 1 := ⟨_, rfl⟩
    rw [← hG] at hblk
    rw [← hG]
    have hGw : w.heap.size ≤ G := by omega
    have hGl := hblk.lt
    have q0 : w2.cell? ⟨G, 0, none⟩ = some (.int .u64 0) := hblk.cell 0
    have q1 : w2.cell? ⟨G, 1, none⟩ = some (.int .u64 0) := hblk.cell 1
    have f0 := hblk.frozen 0
    have f1 := hblk.frozen 1
    clear hG hE hE1 hE2
    go_wp2
    exact bodyPost_ret (v := .agg #[.int .u64 (infR : Int), .int .u64 (minf : Int)]) (by simp [results, Tryd.results32, go_sem, hGl, q0, q1]) rfl ⟨rfl, (hEw.setCell hGw _).setCell hGw _⟩
  · rw [hb] at hs
    obtain ⟨e1, e2⟩ := plain_rd hb
    rw [e1] at hp1
    rw [e2] at hp2
    obtain ⟨a, ha⟩ : ∃ a, a = rdLo lo hi := ⟨_, rfl⟩
    obtain ⟨b, hb'⟩ : ∃ b, b = rdHi lo hi := ⟨_, rfl⟩
    rw [← ha] at hp1 ⊢
    rw [← hb'] at hp2 ⊢
    have HS := Lib.hid hs
    have HP1 := Lib.hid hp1
    have HP2 := Lib.hid hp2
    clear hs hp1 hp2 hb e1 e2 hl hh ha hb'
    go_enter Tryd.func32, Tryd.ntmps32
    go_wp2_with fail
    refine (HS.out _).mono ?_
    rintro e w1 ⟨rfl, hE1⟩
    have hblk := (Blk.new2 w (.cells #[.int .u64 (lo : Int), .int .u64 (hi : Int)] 53) 53 #[.int .u64 0, .int .u64 0]).ext hE1
    have hbox := ((Blk.new w 53 #[.int .u64 (lo : Int), .int .u64 (hi : Int)]).ext ((Ext.refl _).alloc (.cells #[.int .u64 0, .int .u64 0] 53))).ext hE1
    have hEw : Ext w w1 := (((Ext.refl w).alloc _).alloc _).trans hE1
    have b0 : w1.cell? ⟨w.heap.size, 0, none⟩ = some (.int .u64 (lo : Int)) := hbox.cell 0
    have b1 : w1.cell? ⟨w.heap.size, 1, none⟩ = some (.int .u64 (hi : Int)) := hbox.cell 1
    obtain ⟨G, hG⟩ : ∃ G, G = w.heap.size + 1 := ⟨_, rfl⟩
    rw [← hG] at hblk
    rw [← hG]
    have hGw : w.heap.size ≤ G := by omega
    have hGl := hblk.lt
    have q0 : w1.cell? ⟨G, 0, none⟩ = some (.int .u64 0) := hblk.cell 0
    have q1 : w1.cell? ⟨G, 1, none⟩ = some (.int .u64 0) := hblk.cell 1
    have f0 := hblk.frozen 0
    have f1 := hblk.frozen 1
    clear hG hE1
    go_wp2_with fail
    refine wp_region_still_tail 7 (by kernel_rfl) (by kernel_rfl) ?_
    simp only [List.take_succ_cons, List.take_zero, List.drop_succ_cons, List.drop_zero]
    still_step
    still_step
    still_call ((HP1.out _).mono fun _ _ h => ⟨h.1, h.2.symm⟩)
    still_step
    still_step
    still_call ((HP2.out _).mono fun _ _ h => ⟨h.1, h.2.symm⟩)
    still_step
    refine wpStill_nil ?_
    change wpList _ _ _ _ _ w1.drew
    go_wp2
    exact bodyPost_ret (v := .agg #[.int .u64 (a : Int), .int .u64 (b : Int)]) (by simp [results, Tryd.results32, go_sem, hGl, q0, q1]) rfl ⟨rfl, (hEw.drew.setCell hGw _).setCell hGw _⟩
end Go.Proofs.YtadijoeeaineaaaDoor

/-
  The contracts of the program's intervals, first part: how two ends are read, made, found valid. Conditions: those that each theorem names.
-/
namespace Go.Proofs.YtadijoeeaineaaaDoor
open Go.RowKit Nm Rn
set_option maxRecDepth 100000
set_option linter.unusedVariables false
set_option linter.unusedSimpArgs false

set_option maxHeartbeats 400000 in
theorem iplain_any (b : Nat) (w : World) (h : b < 18446744073709551616) :
    Calls Tryd.prog 143 #[.float .f64 b] w fun e w' => e = .returned (.float .f64 (pl b)) ∧ w = w' := by
  have hq := fo_eq h (show 0 < 18446744073709551616 by omega)
  rw [eq0 h] at hq
  by_cases h0 : b = 0 ∨ b = 9223372036854775808
  · rw [decide_eq_true h0] at hq
    have HF : Hid (0 = pl b) := Lib.hid (by unfold pl; rcases h0 with h0 | h0 <;> subst h0 <;> rfl)
    clear h0 h
    go_enter Tryd.func143, Tryd.ntmps143
    go_wp2
    go_ret
    exact ⟨ret_float HF.out, rfl⟩
  · rw [decide_eq_false h0] at hq
    have HF : Hid (b = pl b) := Lib.hid (by unfold pl; rw [if_neg (fun h => h0 (.inr h))])
    clear h0 h
    go_enter Tryd.func143, Tryd.ntmps143
    go_wp2
    go_ret
    exact ⟨ret_float HF.out, rfl⟩

set_option maxHeartbeats 1000000 in
theorem isound_any (lo hi : Nat) (w : World) (hl : lo < 18446744073709551616) (hh : hi < 18446744073709551616) :
    Calls Tryd.prog 142 #[.float .f64 lo, .float .f64 hi] w fun e w' => e = .returned (.bool (sndB lo hi)) ∧ w = w' := by
  have h1 := fo_lt hl hh
  have h1' := fo_eq hl hh
  have h12 := fo_le hl hh
  rw [h1, h1'] at h12
  have h2 := fo_lt hl infR_lt
  have h3 := fo_gt hh minf_lt
  have hF : sndB lo hi = (leB lo hi && ltB lo infR && ltB minf hi) := rfl
  obtain ⟨a, ha⟩ : ∃ a, a = ltB lo hi := ⟨_, rfl⟩
  obtain ⟨a', ha'⟩ : ∃ a', a' = eqB lo hi := ⟨_, rfl⟩
  obtain ⟨b, hb⟩ : ∃ b, b = ltB lo infR := ⟨_, rfl⟩
  obtain ⟨c, hc⟩ : ∃ c, c = ltB minf hi := ⟨_, rfl⟩
  rw [← h12, ← ha, ← ha', ← hb, ← hc] at hF
  rw [← ha] at h1
  rw [← ha'] at h1'
  rw [← hb] at h2
  rw [← hc] at h3
  have HF := Lib.hid hF
  clear h12 hF ha ha' hb hc hl hh
  cases a <;> cases a' <;> cases b <;> cases c
  all_goals
    go_enter Tryd.func142, Tryd.ntmps142
    go_wp2_with (first | (go_at_call 45; ((with_reducible refine (inf_p _).mono ?_); rintro e w' ⟨rfl, rfl⟩)) | (go_at_call 45; ((with_reducible refine (inf_m _).mono ?_); rintro e w' ⟨rfl, rfl⟩)))
    go_ret
    exact ⟨ret_bool (by rw [HF.out]; rfl), rfl⟩
end Go.Proofs.YtadijoeeaineaaaDoor

/-
  The contracts of the program's intervals, second part: Empty, Entire, Read, New, Point, Valid. Conditions: those that each theorem names.
-/
namespace Go.Proofs.YtadijoeeaineaaaDoor
open Go.RowKit Nm Rn
set_option maxRecDepth 100000
set_option linter.unusedVariables false
set_option linter.unusedSimpArgs false

/-- A result of two floats. -/
def RetF (lo hi : Nat) (w : World) (e : Ending) (w' : World) : Prop := e = .returned (.agg #[.float .f64 lo, .float .f64 hi]) ∧ Ext w w'

set_option maxHeartbeats 400000 in
theorem iempty_any (w : World) : Calls Tryd.prog 99 #[] w (RetF infR minf w) := by
  go_enter Tryd.func99, Tryd.ntmps99
  go_wp2_with (first | (go_at_call 45; ((with_reducible refine (inf_p _).mono ?_); rintro e w' ⟨rfl, rfl⟩)) | (go_at_call 45; ((with_reducible refine (inf_m _).mono ?_); rintro e w' ⟨rfl, rfl⟩)))
  exact bodyPost_ret (v := .agg #[.float .f64 infR, .float .f64 minf]) (by simp [results, Tryd.results99, go_sem]) rfl ⟨rfl, (Ext.refl w).alloc _⟩
set_option maxHeartbeats 400000 in
theorem ientire_any (w : World) : Calls Tryd.prog 100 #[] w (RetF minf infR w) := by
  go_enter Tryd.func100, Tryd.ntmps100
  go_wp2_with (first | (go_at_call 45; ((with_reducible refine (inf_p _).mono ?_); rintro e w' ⟨rfl, rfl⟩)) | (go_at_call 45; ((with_reducible refine (inf_m _).mono ?_); rintro e w' ⟨rfl, rfl⟩)))
  exact bodyPost_ret (v := .agg #[.float .f64 minf, .float .f64 infR]) (by simp [results, Tryd.results100, go_sem]) rfl ⟨rfl, (Ext.refl w).alloc _⟩

set_option maxHeartbeats 1000000 in
theorem iread_any (lo hi : Nat) (w : World) (hl : lo < 18446744073709551616) (hh : hi < 18446744073709551616) :
    Calls Tryd.prog 98 #[.agg #[.float .f64 lo, .float .f64 hi]] w (RetF (rdLo lo hi) (rdHi lo hi) w) := by
  have hs := fun w => isound_any lo hi w hl hh
  have hp1 := fun w => iplain_any lo w hl
  have hp2 := fun w => iplain_any hi w hh
  cases hb : sndB lo hi
  · rw [hb] at hs
    obtain ⟨e1, e2⟩ := empty_rd hb
    rw [← e1, ← e2]
    have HS := Lib.hid hs
    clear hs hp1 hp2 hb e1 e2 hl hh
    go_enter Tryd.func98, Tryd.ntmps98
    go_wp2_with fail
    refine (HS.out _).mono ?_
    rintro e w1 ⟨rfl, rfl⟩
    go_wp2_with fail
    refine (iempty_any _).mono ?_
    rintro e w2 ⟨rfl, hE⟩
    have hblk := (Blk.new2 w (.cells #[.float .f64 lo, .float .f64 hi] 61) 61 #[.float .f64 0, .float .f64 0]).ext hE
    have hEw : Ext w w2 := (((Ext.refl w).alloc _).alloc _).trans hE
    obtain ⟨G, hG⟩ : ∃ G, G = w.heap.size + 1 := ⟨_, rfl⟩
    rw [← hG] at hblk
    rw [← hG]
    have hGw : w.heap.size ≤ G := by omega
    have hGl := hblk.lt
    have q0 : w2.cell? ⟨G, 0, none⟩ = some (.float .f64 0) := hblk.cell 0
    have q1 : w2.cell? ⟨G, 1, none⟩ = some (.float .f64 0) := hblk.cell 1
    have f0 := hblk.frozen 0
    have f1 := hblk.frozen 1
    clear hG hE
    go_wp2
    exact bodyPost_ret (v := .agg #[.float .f64 infR, .float .f64 minf]) (by simp [results, Tryd.results98, go_sem, hGl, q0, q1]) rfl ⟨rfl, (hEw.setCell hGw _).setCell hGw _⟩
  · rw [hb] at hs
    have e1 : pl lo = rdLo lo hi := by unfold rdLo; rw [if_pos hb]
    have e2 : pl hi = rdHi lo hi := by unfold rdHi; rw [if_pos hb]
    rw [e1] at hp1
    rw [e2] at hp2
    obtain ⟨a, ha⟩ : ∃ a, a = rdLo lo hi := ⟨_, rfl⟩
    obtain ⟨b, hb'⟩ : ∃ b, b = rdHi lo hi := ⟨_, rfl⟩
    rw [← ha] at hp1 ⊢
    rw [← hb'] at hp2 ⊢
    have HS := Lib.hid hs
    have HP1 := Lib.hid hp1
    have HP2 := Lib.hid hp2
    clear hs hp1 hp2 hb e1 e2 hl hh ha hb'
    go_enter Tryd.func98, Tryd.ntmps98
    go_wp2_with fail
    refine (HS.out _).mono ?_
    rintro e w1 ⟨rfl, rfl⟩
    generalize hX : (w.alloc (.cells #[.float .f64 lo, .float .f64 hi] 61)).alloc (.cells #[.float .f64 0, .float .f64 0] 61) = w1
    have hE1 : Ext ((w.alloc (.cells #[.float .f64 lo, .float .f64 hi] 61)).alloc (.cells #[.float .f64 0, .float .f64 0] 61)) w1 := by rw [← hX]; exact Ext.refl _
    clear hX
    have hblk := (Blk.new2 w (.cells #[.float .f64 lo, .float .f64 hi] 61) 61 #[.float .f64 0, .float .f64 0]).ext hE1
    have hbox := ((Blk.new w 61 #[.float .f64 lo, .float .f64 hi]).ext ((Ext.refl _).alloc (.cells #[.float .f64 0, .float .f64 0] 61))).ext hE1
    have hEw : Ext w w1 := (((Ext.refl w).alloc _).alloc _).trans hE1
    have b0 : w1.cell? ⟨w.heap.size, 0, none⟩ = some (.float .f64 lo) := hbox.cell 0
    have b1 : w1.cell? ⟨w.heap.size, 1, none⟩ = some (.float .f64 hi) := hbox.cell 1
    obtain ⟨G, hG⟩ : ∃ G, G = w.heap.size + 1 := ⟨_, rfl⟩
    rw [← hG] at hblk
    rw [← hG]
    have hGw : w.heap.size ≤ G := by omega
    have hGl := hblk.lt
    have q0 : w1.cell? ⟨G, 0, none⟩ = some (.float .f64 0) := hblk.cell 0
    have q1 : w1.cell? ⟨G, 1, none⟩ = some (.float .f64 0) := hblk.cell 1
    have f0 := hblk.frozen 0
    have f1 := hblk.frozen 1
    clear hG hE1
    go_wp2_with fail
    refine wp_region_still_tail 7 (by kernel_rfl) (by kernel_rfl) ?_
    simp only [List.take_succ_cons, List.take_zero, List.drop_succ_cons, List.drop_zero]
    still_step
    still_step
    still_call ((HP1.out _).mono fun _ _ h => ⟨h.1, h.2.symm⟩)
    still_step
    still_step
    still_call ((HP2.out _).mono fun _ _ h => ⟨h.1, h.2.symm⟩)
    still_step
    refine wpStill_nil ?_
    change wpList _ _ _ _ _ w1.drew
    go_wp2
    exact bodyPost_ret (v := .agg #[.float .f64 a, .float .f64 b]) (by simp [results, Tryd.results98, go_sem, hGl, q0, q1]) rfl ⟨rfl, (hEw.drew.setCell hGw _).setCell hGw _⟩

end Go.Proofs.YtadijoeeaineaaaDoor

/-
  The contracts of the program's intervals, third part: patterns in and out of them; Valid. Conditions: those that each theorem names.
-/
namespace Go.Proofs.YtadijoeeaineaaaDoor
open Go.RowKit Nm Rn
set_option maxRecDepth 100000
set_option linter.unusedVariables false
set_option linter.unusedSimpArgs false

/-- A world in which a box of two words lies, and behind it another one. -/
theorem two_boxes (w : World) (s t : TypeId) (x y p q : Value) : ∃ w1, w1 = (w.alloc (.cells #[x, y] s)).alloc (.cells #[p, q] t) ∧ Ext w w1 ∧ w1.cell? ⟨w.heap.size, 0, none⟩ = some x ∧ w1.cell? ⟨w.heap.size, 1, none⟩ = some y ∧
    Blk w1 (w.heap.size + 1) t #[p, q] := by
  have hb := (Blk.new w s #[x, y]).ext ((Ext.refl _).alloc (.cells #[p, q] t))
  exact ⟨_, rfl, ((Ext.refl w).alloc _).alloc _, hb.cell 0, hb.cell 1, Blk.new2 w _ t #[p, q]⟩

set_option maxHeartbeats 1000000 in
theorem out7_any (lo hi : Nat) (w : World) :
    Calls Tryd.prog 36 #[.agg #[.float .f64 lo, .float .f64 hi]] w (RetI lo hi w) := by
  obtain ⟨w1, hw1, hEw, b0, b1, hblk⟩ := two_boxes w 61 53 (.float .f64 lo) (.float .f64 hi) (.int .u64 0) (.int .u64 0)
  go_enter Tryd.func36, Tryd.ntmps36
  go_wp2_with fail
  rw [← hw1]
  clear hw1
  obtain ⟨G, hG⟩ : ∃ G, G = w.heap.size + 1 := ⟨_, rfl⟩
  rw [← hG] at hblk
  rw [← hG]
  have hGw : w.heap.size ≤ G := by omega
  have hGl := hblk.lt
  have q0 : w1.cell? ⟨G, 0, none⟩ = some (.int .u64 0) := hblk.cell 0
  have q1 : w1.cell? ⟨G, 1, none⟩ = some (.int .u64 0) := hblk.cell 1
  have f0 := hblk.frozen 0
  have f1 := hblk.frozen 1
  clear hG
  go_still_tail 7, (by kernel_rfl)
  change wpList _ _ _ _ _ w1.drew
  go_wp2
  exact bodyPost_ret (v := .agg #[.int .u64 (lo : Int), .int .u64 (hi : Int)]) (by simp [results, Tryd.results36, go_sem, hGl, q0, q1]) rfl ⟨rfl, (hEw.drew.setCell hGw _).setCell hGw _⟩
set_option maxHeartbeats 1000000 in
theorem in7_any (lo hi : Nat) (w : World) :
    Calls Tryd.prog 38 #[.agg #[.int .u64 (lo : Int), .int .u64 (hi : Int)]] w (RetF lo hi w) := by
  obtain ⟨w1, hw1, hEw, b0, b1, hblk⟩ := two_boxes w 53 61 (.int .u64 (lo : Int)) (.int .u64 (hi : Int)) (.float .f64 0) (.float .f64 0)
  go_enter Tryd.func38, Tryd.ntmps38
  go_wp2_with fail
  rw [← hw1]
  clear hw1
  obtain ⟨G, hG⟩ : ∃ G, G = w.heap.size + 1 := ⟨_, rfl⟩
  rw [← hG] at hblk
  rw [← hG]
  have hGw : w.heap.size ≤ G := by omega
  have hGl := hblk.lt
  have q0 : w1.cell? ⟨G, 0, none⟩ = some (.float .f64 0) := hblk.cell 0
  have q1 : w1.cell? ⟨G, 1, none⟩ = some (.float .f64 0) := hblk.cell 1
  have f0 := hblk.frozen 0
  have f1 := hblk.frozen 1
  clear hG
  go_still_tail 7, (by kernel_rfl)
  change wpList _ _ _ _ _ w1.drew
  go_wp2
  exact bodyPost_ret (v := .agg #[.float .f64 lo, .float .f64 hi]) (by simp [results, Tryd.results38, go_sem, hGl, q0, q1]) rfl ⟨rfl, (hEw.drew.setCell hGw _).setCell hGw _⟩
end Go.Proofs.YtadijoeeaineaaaDoor

/-
  The contracts of the document's own intervals, second part: whether two ends are valid, what is made of them. Conditions: those that each theorem names.
-/
namespace Go.Proofs.YtadijoeeaineaaaDoor
open Go.RowKit Nm Rn
set_option maxRecDepth 100000
set_option linter.unusedVariables false
set_option linter.unusedSimpArgs false

/-- What New answers. -/
def newLo (lo hi : Nat) : Nat := if sndB lo hi then pl lo else 0
def newHi (lo hi : Nat) : Nat := if sndB lo hi then pl hi else 0

end Go.Proofs.YtadijoeeaineaaaDoor

/-
  The contracts of the document's own intervals, third part: validity. Conditions: those that each theorem names.
-/
namespace Go.Proofs.YtadijoeeaineaaaDoor
open Go.RowKit Nm Rn
set_option maxRecDepth 100000
set_option linter.unusedVariables false
set_option linter.unusedSimpArgs false

/-- Two pairs of patterns are one. -/
theorem eqI (a b c d : Int) (w : World) : (binOp .eql 53 (.agg #[.int .u64 a, .int .u64 b]) (.agg #[.int .u64 c, .int .u64 d])).run Tryd.prog w = .ok (.bool (a == c && b == d)) w := by
  cases h1 : (a == c) <;> cases h2 : (b == d) <;> go_simp <;> simp [h1, h2]
theorem eqI' {a b c d : Int} {E : Bool} (h : (a == c && b == d) = E) (w : World) : (binOp .eql 53 (.agg #[.int .u64 a, .int .u64 b]) (.agg #[.int .u64 c, .int .u64 d])).run Tryd.prog w = .ok (.bool E) w := by rw [eqI, h]

set_option maxHeartbeats 1000000 in
theorem valid6_any (lo hi : Nat) (w : World) (hl : lo < 18446744073709551616) (hh : hi < 18446744073709551616) :
    Calls Tryd.prog 39 #[.agg #[.int .u64 (lo : Int), .int .u64 (hi : Int)]] w fun e w' => e = .returned (.bool (vldB lo hi)) ∧ Ext w w' := by
  have hs := fun w => sound6_any lo hi w hl hh
  have hF : vldB lo hi = vldB lo hi := rfl
  conv at hF => rhs; unfold vldB
  have hE : ((lo : Int) == (infR : Nat) && (hi : Int) == (minf : Nat)) = (decide (lo = infR) && decide (hi = minf)) := by
    congr 1
    · rw [Bool.eq_iff_iff, beq_iff_eq, decide_eq_true_iff]; omega
    · rw [Bool.eq_iff_iff, beq_iff_eq, decide_eq_true_iff]; omega
  have HC := Lib.hid (show ((lo : Int) != 9223372036854775808) = decide (lo ≠ 9223372036854775808) by rw [Bool.eq_iff_iff, bne_iff_ne, decide_eq_true_iff]; omega)
  have HD := Lib.hid (show ((hi : Int) != 9223372036854775808) = decide (hi ≠ 9223372036854775808) by rw [Bool.eq_iff_iff, bne_iff_ne, decide_eq_true_iff]; omega)
  obtain ⟨E, hEE⟩ : ∃ E, E = (decide (lo = infR) && decide (hi = minf)) := ⟨_, rfl⟩
  obtain ⟨c, hc⟩ : ∃ c, c = decide (lo ≠ 9223372036854775808) := ⟨_, rfl⟩
  obtain ⟨d, hd⟩ : ∃ d, d = decide (hi ≠ 9223372036854775808) := ⟨_, rfl⟩
  rw [← hEE, ← hc, ← hd] at hF
  rw [← hEE] at hE
  rw [← hc] at HC
  rw [← hd] at HD
  have hC := HC.out
  have hD := HD.out
  have hq := eqI' hE
  obtain ⟨R, hR⟩ : ∃ R, R = vldB lo hi := ⟨_, rfl⟩
  rw [← hR] at hF ⊢
  obtain ⟨V, hV⟩ : ∃ V, V = sndB lo hi := ⟨_, rfl⟩
  rw [← hV] at hF hs
  have HF := Lib.hid hF
  have HS := Lib.hid hs
  clear hEE hc hd HC HD hR hE hs hF hV hl hh
  go_enter Tryd.func39, Tryd.ntmps39
  go_wp2_with fail
  go_region_with (go_at_call 34; refine (empty6_any _).mono ?_; rintro e w2 ⟨rfl, hE2⟩; have hbx := Blk.ext (w := (w.alloc (.cells #[.int .u64 (lo : Int), .int .u64 (hi : Int)] 53)).drew) (Blk.new w 53 #[.int .u64 (lo : Int), .int .u64 (hi : Int)]) hE2; have b0 : w2.cell? ⟨w.heap.size, 0, none⟩ = some (.int .u64 (lo : Int)) := hbx.cell 0; have b1 : w2.cell? ⟨w.heap.size, 1, none⟩ = some (.int .u64 (hi : Int)) := hbx.cell 1; have hlt := hbx.lt; clear hbx)
  all_goals
    have hEw : Ext w w2 := (((Ext.refl w).alloc _).drew).trans hE2
    have HE := Lib.hid hEw
    clear hEw hE2 hq
    cases E
    · cases V <;> cases c <;> cases d
      all_goals
        go_wp2_with fail
        refine (HS.out _).mono ?_
        rintro e w3 ⟨rfl, hE3⟩
        have b2 : w3.cell? ⟨w.heap.size, 0, none⟩ = some (.int .u64 (lo : Int)) := (hE3.cell (p := ⟨w.heap.size, 0, none⟩) hlt).trans b0
        have b3 : w3.cell? ⟨w.heap.size, 1, none⟩ = some (.int .u64 (hi : Int)) := (hE3.cell (p := ⟨w.heap.size, 1, none⟩) hlt).trans b1
        go_wp2
        go_ret
        exact ⟨ret_bool (by rw [HF.out]; rfl), HE.out.trans hE3⟩
    · go_wp2
      go_ret
      exact ⟨ret_bool (by rw [HF.out]; rfl), HE.out⟩
end Go.Proofs.YtadijoeeaineaaaDoor
