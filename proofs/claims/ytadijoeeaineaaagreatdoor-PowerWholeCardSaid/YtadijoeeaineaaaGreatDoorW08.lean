/-
  Plain: what the program's steps of an interval answer is the document's. Conditions: those that each theorem names.
-/
import Derived.Test.YtadijoeeaineaaaGreatDoorW05
import Derived.Test.YtadijoeeaineaaaGreatDoorW07
import Derived.Test.YtadijoeeaineaaaGreatDoorW04
set_option linter.unusedVariables false
set_option linter.unusedSimpArgs false
set_option maxRecDepth 100000
namespace Go.Proofs.YtadijoeeaineaaaGreatDoor
open Nm Rn

/-- What a step makes of a pattern. -/
noncomputable def stF (k x : Nat) : Nat := if k = 0 then sgP x else stP k x
noncomputable def piLo (k x1 x2 : Nat) : Nat := if emp x1 x2 then infR else rdLo (stF k (rdLo x1 x2)) (stF k (rdHi x1 x2))
noncomputable def piHi (k x1 x2 : Nat) : Nat := if emp x1 x2 then minf else rdHi (stF k (rdLo x1 x2)) (stF k (rdHi x1 x2))

theorem stQ_mono (k : Nat) (s : Bool) {T T' K : Nat} (hK : 0 < K) (h : T ≤ T') : stQ k s T K ≤ stQ k s T' K := by
  have hq := Nat.div_le_div_right (c := K) h
  have h1 := Nat.div_add_mod T K
  have h2 := Nat.div_add_mod T' K
  rcases Nat.lt_or_eq_of_le hq with g | g
  · have a := Bool.toNat_le (stMo k s T K)
    unfold stQ
    omega
  · unfold stQ
    rw [g] at h1 ⊢
    have hr : T % K ≤ T' % K := by omega
    have : (stMo k s T K).toNat ≤ (stMo k s T' K).toNat := by
      have himp : stMo k s T K = true → stMo k s T' K = true := by
        unfold stMo
        rw [g]
        split
        · cases s
          · simp
          · simp; omega
        · split
          · cases s
            · simp; omega
            · simp
          · split
            · simp
            · simp only [Bool.or_eq_true, Bool.and_eq_true, decide_eq_true_eq]
              intro hh
              rcases hh with hh | ⟨hh, hh2⟩
              · left; omega
              · rcases Nat.lt_or_eq_of_le hr with c | c
                · left; omega
                · right; exact ⟨by omega, hh2⟩
      cases hc : stMo k s T K
      · simp
      · rw [himp hc]; exact Nat.le_refl _
    omega
theorem stR_mono (k : Nat) (s : Bool) {f g : Nat} (h : f ≤ g) : stR k s f ≤ stR k s g := by
  unfold stR
  exact rung_mono (Nat.mul_le_mul_right _ (stQ_mono k s K74_pos (rv_le h)))

/-- The magnitude that is answered. -/
noncomputable def stM' (k : Nat) (s : Bool) (m : Nat) : Nat := if m < infR then stR k s m else m
theorem stM_mono (k : Nat) (s : Bool) {f g : Nat} (hg : g ≤ infR) (h : f ≤ g) : stM' k s f ≤ stM' k s g := by
  unfold stM'
  split
  · rename_i h1
    split
    · exact stR_mono k s h
    · have := (stR_spec h1 k s).1
      omega
  · rename_i h1
    rw [if_neg (by omega)]
    exact h
theorem stM_lt (k : Nat) (s : Bool) {f : Nat} (h : f < infR) : stM' k s f < infR := by
  unfold stM'
  rw [if_pos h]
  exact (stR_spec h k s).1
theorem stP_word {k x : Nat} (hx : x < 18446744073709551616) (hn : isNaN x = false) : stP k x = Ieee.double.word (sg x) (stM' k (sg x) (mg x)) ∧ stM' k (sg x) (mg x) ≤ infR := by
  unfold isNaN at hn
  have hn' := of_decide_eq_false hn
  unfold stP stM'
  by_cases h : mg x < infR
  · rw [if_pos h, if_pos h]
    exact ⟨rfl, Nat.le_of_lt (stR_spec h k (sg x)).1⟩
  · rw [if_neg h, if_neg h]
    refine ⟨?_, by omega⟩
    rw [word_eq]
    exact split_pat hx
theorem key_word {s : Bool} {r : Nat} (hr : r ≤ infR) : key (Ieee.double.word s r) = (if s then -(r : Int) else (r : Int)) ∧ isNaN (Ieee.double.word s r) = false ∧ Ieee.double.word s r < 18446744073709551616 := by
  have hi := infR_val
  have h1 : r < 9223372036854775808 := by omega
  refine ⟨?_, ?_, word_lt h1⟩
  · unfold key
    rw [sg_word h1, mg_word h1]
  · unfold isNaN
    rw [mg_word h1]
    exact decide_eq_false (by omega)
theorem pl_word {s : Bool} {r : Nat} (hr : r ≤ infR) : pl (Ieee.double.word s r) = pat s r := by
  have hi := infR_val
  cases s
  · show (if r = 9223372036854775808 then 0 else r) = (if r = 0 then 0 else r)
    rw [if_neg (by omega)]
    split <;> omega
  · show (if 9223372036854775808 + r = 9223372036854775808 then 0 else 9223372036854775808 + r) = (if r = 0 then 0 else 9223372036854775808 + r)
    by_cases h0 : r = 0
    · rw [if_pos h0, if_pos (by omega)]
    · rw [if_neg h0, if_neg (by omega)]
theorem one_rv : rv 4607182418800017408 = 1 * K74 := by
  obtain ⟨c, hc, hK⟩ : ∃ c : Nat, c = 1074 ∧ K74 = 2 ^ c := ⟨1074, rfl, K74_def⟩
  rw [show (4607182418800017408 : Nat) = (c - 52) * 4503599627370496 + 4503599627370496 by omega, rv_form (c - 52) 4503599627370496 (by omega) (fun _ => Nat.le_refl _), hK, show (4503599627370496 : Nat) = 2 ^ 52 by decide, ← Nat.pow_add, Nat.one_mul]
  congr 1
  omega
theorem rnd_one (d : Int) (s : Bool) : rnd d s (zr 1 1) = pat s 4607182418800017408 := by
  unfold rnd
  rw [zr_whole, ← one_rv, rr_exact (by decide)]
theorem key_sg {x : Nat} : (key x < 0 ↔ sg x = true ∧ mg x ≠ 0) ∧ (0 < key x ↔ sg x = false ∧ mg x ≠ 0) := by
  unfold key
  cases sg x
  · simp; omega
  · simp; omega
theorem sgP_pl {x : Nat} : sgP x = (if mg x = 0 then 0 else pat (sg x) 4607182418800017408) := by
  obtain ⟨k1, k2⟩ := key_sg (x := x)
  unfold sgP
  by_cases h0 : mg x = 0
  · rw [if_neg (fun h => (k1.1 h).2 h0), if_neg (fun h => (k2.1 h).2 h0), if_pos h0]
  · rw [if_neg h0]
    cases hs : sg x
    · rw [if_neg (fun h => by have := (k1.1 h).1; rw [hs] at this; cases this), if_pos (k2.2 ⟨hs, h0⟩)]
      rfl
    · rw [if_pos (k1.2 ⟨hs, h0⟩)]
      rfl
theorem key_one (s : Bool) : key (pat s 4607182418800017408) = (if s then -4607182418800017408 else 4607182418800017408) ∧ isNaN (pat s 4607182418800017408) = false ∧ pat s 4607182418800017408 < 18446744073709551616 ∧ pl (pat s 4607182418800017408) = pat s 4607182418800017408 := by
  cases s <;> decide

/-- A step's answer as a key, and what it is as an end. -/
theorem stF_facts (k : Nat) {x : Nat} (hx : x < 18446744073709551616) (hn : isNaN x = false) :
    stF k x < 18446744073709551616 ∧ isNaN (stF k x) = false ∧
      key (stF k x) = (if k = 0 then (if mg x = 0 then 0 else if sg x then -4607182418800017408 else 4607182418800017408) else if sg x then -(stM' k (sg x) (mg x) : Int) else (stM' k (sg x) (mg x) : Int)) ∧
      pl (stF k x) = (if k = 0 then (if mg x = 0 then 0 else pat (sg x) 4607182418800017408) else pat (sg x) (stM' k (sg x) (mg x))) := by
  unfold stF
  by_cases hk : k = 0
  · rw [if_pos hk, if_pos hk, if_pos hk, sgP_pl]
    obtain ⟨a1, a2, a3, a4⟩ := key_one (sg x)
    by_cases h0 : mg x = 0
    · rw [if_pos h0, if_pos h0]; decide
    · rw [if_neg h0, if_neg h0]; exact ⟨a3, a2, a1, a4⟩
  · rw [if_neg hk, if_neg hk, if_neg hk]
    obtain ⟨e, hle⟩ := stP_word (k := k) hx hn
    rw [e]
    obtain ⟨a1, a2, a3⟩ := key_word (s := sg x) hle
    exact ⟨a3, a2, a1, pl_word hle⟩
theorem stF_mono (k : Nat) {x y : Nat} (hx : x < 18446744073709551616) (hy : y < 18446744073709551616) (nx : isNaN x = false) (ny : isNaN y = false) (h : key x ≤ key y) : key (stF k x) ≤ key (stF k y) := by
  rw [(stF_facts k hx nx).2.2.1, (stF_facts k hy ny).2.2.1]
  have mx : mg x ≤ infR := by unfold isNaN at nx; have := of_decide_eq_false nx; omega
  have my : mg y ≤ infR := by unfold isNaN at ny; have := of_decide_eq_false ny; omega
  unfold key at h
  by_cases hk : k = 0
  · rw [if_pos hk, if_pos hk]
    cases hs : sg x <;> cases ht : sg y <;> rw [hs, ht] at h <;> simp only [Bool.false_eq_true, if_false, if_true] at h ⊢ <;> repeat' split
    all_goals omega
  · rw [if_neg hk, if_neg hk]
    cases hs : sg x <;> cases ht : sg y <;> rw [hs, ht] at h <;> simp only [Bool.false_eq_true, if_false, if_true] at h ⊢
    · have := stM_mono k false my (show mg x ≤ mg y by omega)
      omega
    · have e1 : mg x = 0 := by omega
      have e2 : mg y = 0 := by omega
      have z : ∀ s, stM' k s 0 = 0 := fun s => by
        unfold stM'
        rw [if_pos (by decide)]
        unfold stR
        rw [rv_zero]
        have hq : stQ k s 0 K74 = 0 := by
          have hK := K74_pos
          unfold stQ stMo
          rw [Nat.zero_div, Nat.zero_mod]
          have c1 : decide (K74 < 2 * 0) = false := decide_eq_false (by omega)
          have c2 : decide (2 * 0 = K74) = false := decide_eq_false (by omega)
          rw [c1, c2]
          simp
        rw [hq, Nat.zero_mul]
        exact rung_zero
      rw [e1, e2, z, z]
      simp
    · omega
    · have := stM_mono k true mx (show mg y ≤ mg x by omega)
      omega

theorem stF_snd (k : Nat) {a b : Nat} (g1 : a < 18446744073709551616) (g2 : b < 18446744073709551616) (g3 : isNaN a = false) (g4 : isNaN b = false) (g5 : a ≠ infR) (g6 : b ≠ minf) (g8 : key a ≤ key b) : sndB (stF k a) (stF k b) = true := by
  obtain ⟨a1, a2, a3, a4⟩ := stF_facts k g1 g3
  obtain ⟨b1, b2, b3, b4⟩ := stF_facts k g2 g4
  have hi := infR_val
  have hm := minf_val
  have ma : mg a ≤ infR := by unfold isNaN at g3; have := of_decide_eq_false g3; omega
  have mb : mg b ≤ infR := by unfold isNaN at g4; have := of_decide_eq_false g4; omega
  have h1 := stF_mono k g1 g2 g3 g4 g8
  have h2 : key (stF k a) < 9218868437227405312 := by
    rw [a3]
    by_cases hk : k = 0
    · rw [if_pos hk]; repeat' split
      all_goals omega
    · rw [if_neg hk]
      split
      · omega
      · rename_i hsa
        have : mg a < infR := by
          rcases Nat.lt_or_ge (mg a) infR with h | h
          · exact h
          · exfalso
            apply g5
            have hsf : sg a = false := by cases hh : sg a; rfl; exact absurd hh hsa
            have := split_pat g1
            rw [hsf] at this
            simp at this
            omega
        have := stM_lt k (sg a) this
        omega
  have h3 : -9218868437227405312 < key (stF k b) := by
    rw [b3]
    by_cases hk : k = 0
    · rw [if_pos hk]; repeat' split
      all_goals omega
    · rw [if_neg hk]
      split
      · rename_i hsb
        have : mg b < infR := by
          rcases Nat.lt_or_ge (mg b) infR with h | h
          · exact h
          · exfalso
            apply g6
            have := split_pat g2
            rw [hsb] at this
            simp at this
            omega
        have := stM_lt k (sg b) this
        omega
      · omega
  unfold sndB leB ltB
  rw [a2, b2, nan_inf, nan_minf, key_inf, key_minf, decide_eq_true h1, decide_eq_true h2, decide_eq_true h3]
  rfl
theorem rdLo_nz (x1 x2 : Nat) : rdLo x1 x2 ≠ 9223372036854775808 ∧ rdHi x1 x2 ≠ 9223372036854775808 := by
  have h1 := infR_val
  have h2 := minf_val
  have hp : ∀ b, pl b ≠ 9223372036854775808 := fun b => by unfold pl; split <;> omega
  unfold rdLo rdHi
  constructor
  · split
    · exact hp _
    · omega
  · split
    · exact hp _
    · omega
end Go.Proofs.YtadijoeeaineaaaGreatDoor

/-
  Plain: the magnitudes of the ends of intervals. Conditions: those that each theorem names.
-/
namespace Go.Proofs.YtadijoeeaineaaaGreatDoor
open Nm Rn
set_option linter.unusedVariables false
set_option linter.unusedSimpArgs false

theorem plN_pl {b : Nat} (h : isNaN b = false) : plN (pl b) = pl b := by
  have h0 : isNaN 0 = false := rfl
  unfold plN pl
  by_cases h1 : b = 9223372036854775808
  · rw [if_pos h1, h0]; rfl
  · rw [if_neg h1, if_neg h1, h]; rfl
theorem rdLo_pl (lo hi : Nat) : plN (rdLo lo hi) = rdLo lo hi := by
  unfold rdLo
  cases h : sndB lo hi
  · rw [if_neg (by simp)]; unfold plN; rw [nan_inf, infR_val]; rfl
  · rw [if_pos rfl]; exact plN_pl (snd_nan h).1
theorem rdHi_pl (lo hi : Nat) : plN (rdHi lo hi) = rdHi lo hi := by
  unfold rdHi
  cases h : sndB lo hi
  · rw [if_neg (by simp)]; unfold plN; rw [nan_minf, minf_val]; rfl
  · rw [if_pos rfl]; exact plN_pl (snd_nan h).2
theorem key_fin {x : Nat} (h : mg x < infR) : -9218868437227405312 < key x ∧ key x < 9218868437227405312 := by
  have e := infR_val
  unfold key
  split <;> omega
/-- A pattern's magnitude. -/
def mx (x : Nat) : Nat := if key x < 0 then mg x else x
theorem mx_lt {x : Nat} (hx : x < 18446744073709551616) : mx x < 18446744073709551616 := by unfold mx mg; split <;> omega
theorem mx_nan {x : Nat} (hx : isNaN x = false) : isNaN (mx x) = false := by
  unfold mx; split
  · have : mg (mg x) = mg x := by unfold mg; omega
    unfold isNaN at hx ⊢; rw [this]; exact hx
  · exact hx
theorem mx_key {x : Nat} : key (mx x) = if key x < 0 then -key x else key x := by
  unfold mx
  split
  · rename_i h
    have hm : mg x < 9223372036854775808 := by unfold mg; omega
    have e2 : mg (mg x) = mg x := by unfold mg; omega
    have e3 : sg (mg x) = false := decide_eq_false (by omega)
    unfold key at h ⊢
    rw [e2, e3]
    revert h
    cases sg x
    · intro h; rw [if_neg (by simp)] at h; omega
    · intro _; simp
  · rfl

def szHi (p q : Nat) : Nat := if key (mx q) < key (mx p) then mx p else mx q
def szLo (p q : Nat) : Nat := if key p ≤ 0 ∧ 0 ≤ key q then 0 else if key (mx q) < key (mx p) then mx q else mx p

theorem sz_ends {p q : Nat} (hp : p < 18446744073709551616) (hq : q < 18446744073709551616) (np : isNaN p = false) (nq : isNaN q = false) (h1 : p ≠ infR) (h2 : q ≠ minf) :
    szLo p q < 18446744073709551616 ∧ isNaN (szLo p q) = false ∧ szLo p q ≠ infR ∧ szHi p q < 18446744073709551616 ∧ isNaN (szHi p q) = false ∧ szHi p q ≠ minf := by
  have P1 := mx_lt hp
  have P2 := mx_nan np
  have Q1 := mx_lt hq
  have Q2 := mx_nan nq
  have kp := @mx_key p
  have kq := @mx_key q
  have rp := key_le np
  have rq := key_le nq
  have ip := key_eq_inf hp np
  have iq := key_eq_minf hq nq
  have i1 := infR_val
  have z0 : isNaN 0 = false := rfl
  refine ⟨?_, ?_, ?_, ?_, ?_, ?_⟩
  · unfold szLo; split
    · omega
    · split <;> assumption
  · unfold szLo; split
    · exact z0
    · split <;> assumption
  · intro h
    have hk : key (szLo p q) = 9218868437227405312 := by rw [h]; exact key_inf
    revert hk
    unfold szLo
    split
    · intro hk; have e : key 0 = 0 := rfl; omega
    · rename_i g
      split
      · intro hk; revert kp kq; split <;> split <;> (intros; omega)
      · intro hk; revert kp kq; split <;> split <;> (intros; omega)
  · unfold szHi; split <;> assumption
  · unfold szHi; split <;> assumption
  · intro h
    have hk : key (szHi p q) = -9218868437227405312 := by rw [h]; exact key_minf
    revert hk
    unfold szHi
    revert kp kq
    split <;> split <;> split <;> (intros; omega)

/-- The ends of the magnitudes of an interval. -/
def abLo (lo hi : Nat) : Nat := if rdLo lo hi = infR ∧ rdHi lo hi = minf then infR else pl (szLo (rdLo lo hi) (rdHi lo hi))
def abHi (lo hi : Nat) : Nat := if rdLo lo hi = infR ∧ rdHi lo hi = minf then minf else pl (szHi (rdLo lo hi) (rdHi lo hi))
def kmin (a b : Nat) : Nat := if key b < key a then b else a
def kmax (a b : Nat) : Nat := if key a < key b then b else a
def minLo (x1 x2 y1 y2 : Nat) : Nat := if (rdLo x1 x2 = infR ∧ rdHi x1 x2 = minf) ∨ (rdLo y1 y2 = infR ∧ rdHi y1 y2 = minf) then infR else pl (kmin (rdLo x1 x2) (rdLo y1 y2))
def minHi (x1 x2 y1 y2 : Nat) : Nat := if (rdLo x1 x2 = infR ∧ rdHi x1 x2 = minf) ∨ (rdLo y1 y2 = infR ∧ rdHi y1 y2 = minf) then minf else pl (kmin (rdHi x1 x2) (rdHi y1 y2))
def maxLo (x1 x2 y1 y2 : Nat) : Nat := if (rdLo x1 x2 = infR ∧ rdHi x1 x2 = minf) ∨ (rdLo y1 y2 = infR ∧ rdHi y1 y2 = minf) then infR else pl (kmax (rdLo x1 x2) (rdLo y1 y2))
def maxHi (x1 x2 y1 y2 : Nat) : Nat := if (rdLo x1 x2 = infR ∧ rdHi x1 x2 = minf) ∨ (rdLo y1 y2 = infR ∧ rdHi y1 y2 = minf) then minf else pl (kmax (rdHi x1 x2) (rdHi y1 y2))
/-- Whether two ends are valid as they stand. -/
def vldB (lo hi : Nat) : Bool := (decide (lo = infR) && decide (hi = minf)) || (sndB lo hi && decide (lo ≠ 9223372036854775808) && decide (hi ≠ 9223372036854775808))
end Go.Proofs.YtadijoeeaineaaaGreatDoor

/-
  The contracts of the reference's naturals, first part: words, Long. Conditions: those that each theorem names.
-/
namespace Go.Proofs.YtadijoeeaineaaaGreatDoor
open Go.RowKit Nm
set_option maxRecDepth 100000
set_option linter.unusedVariables false
set_option linter.unusedSimpArgs false

set_option maxHeartbeats 400000 in
theorem words_any (A : Option Addr) (n c : Nat) (xs : List Nat) (w : World) (h : Wds w A n c xs) (hn : n ≤ 35184372088832) :
    Calls Tryz.prog 43 #[.slice A n c] w fun e w' => e = .returned (.int .i64 (nw (nv xs) : Int)) ∧ w = w' := by
  have hlen := h.len
  go_enter Tryz.func43, Tryz.ntmps43
  go_wp2
  go_loop [3] (fun i => ∃ k : Nat, k ≤ n ∧ i = .int .i64 k ∧ ∀ j, (hj : j < xs.length) → k ≤ j → xs[j] = 0) (fun i => (intOf i).toNat)
  case atStart => exact ⟨n, Nat.le_refl _, rfl, fun j hj hk => by omega⟩
  case round =>
    obtain ⟨k, hk, rfl, hz⟩ := hrel
    have HZ := Lib.hid hz
    clear hz
    by_cases h0 : k = 0
    · subst h0
      go_wp2
      go_ret
      exact ⟨ret_int (by rw [(take_trim h.ws (Nat.zero_le _) HZ.out (fun k hk e => by omega)).2.1]; rfl), rfl⟩
    · obtain ⟨ad, hx, rfl, hb, hc⟩ := h.at_ (k := k - 1) (by omega)
      by_cases hx0 : xs[k - 1] = 0
      · go_wp2
        go_round
        case rel => exact ⟨k - 1, by omega, by go_num, fun j hj hkj => by
          by_cases e : j = k - 1
          · subst e; exact hx0
          · exact HZ.out j hj (by omega)⟩
        case measure => simp [intOf]; omega
      · go_wp2
        go_ret
        exact ⟨ret_int (by rw [(take_trim h.ws (by omega) HZ.out (fun j hj e => by
          have e : j = k - 1 := by omega
          subst e; exact hx0)).2.1]), rfl⟩

theorem info_u32 : (Tryz.prog.info? 65).map (fun i => (i.zero, i.size, i.bytes)) = some (some (.int .u32 0), 1, 4) := by kernel_rfl

/-- Block g is just the words L, none of them frozen. -/
def Row (w : World) (g : Nat) (L : List Nat) : Prop := w.heap[g]? = some (.cells (u32s L).toArray 65 (0, 0))

section
variable {w w' : World} {g : Nat} {L : List Nat}
theorem Row.lt (h : Row w g L) : g < w.heap.size := by
  rcases Nat.lt_or_ge g w.heap.size with hlt | hge
  · exact hlt
  · unfold Row at h; rw [Array.getElem?_eq_none hge] at h; cases h
theorem Row.cell (h : Row w g L) {i : Nat} (hi : i < L.length) : w.cell? ⟨g, i, none⟩ = some (.int .u32 (L[i] : Int)) := by
  unfold Row at h
  simp [World.cell?, h, u32s, hi]
theorem Row.frozen (h : Row w g L) (i : Nat) : w.frozen? ⟨g, i, none⟩ = false := by
  unfold Row at h
  simp [World.frozen?, h]
theorem Row.set_ (h : Row w g L) (i : Nat) (x : Nat) : Row (w.setCell ⟨g, i, none⟩ (.int .u32 (x : Int))) g (L.set i x) := by
  unfold Row at h ⊢
  simp [World.setCell, Array.getElem?_modify, h, u32s, List.map_set]
theorem Row.new (w : World) (L : List Nat) : Row (w.alloc (.cells (u32s L).toArray 65)) w.heap.size L := heap_alloc_new w _
theorem Row.drew (h : Row w g L) : Row w.drew g L := h
theorem Row.drewN (h : Row w g L) (n : Nat) : Row (w.drewN n) g L := h
theorem Row.ext (h : Row w g L) (hb : Ext w w') : Row w' g L := (Below.block hb g h.lt).trans h
theorem Row.alloc (h : Row w g L) (o : Obj) : Row (w.alloc o) g L := h.ext ((Ext.refl w).alloc o)
theorem Row.far (h : Row w g L) {p : Addr} (hp : g ≠ p.block) (u : Value) : Row (w.setCell p u) g L := (Below.heap_setCell w p u g hp).trans h
theorem Row.wds (h : Row w g L) (hL : Ws L) {n c : Nat} (hn : L.length = n) (hc : n ≤ c) (hm : c ≤ maxLen) : Wds w (some ⟨g, 0, none⟩) n c L :=
  ⟨hn, hc, hm, hL, fun _ => ⟨_, rfl, h.lt, fun k x hk => by
    have hk' : k < L.length := (List.getElem?_eq_some_iff.1 hk).1
    have := h.cell hk'
    rw [List.getElem?_eq_getElem hk'] at hk
    injection hk with hk
    rw [← hk, ← this]
    unfold Addr.add
    split
    · subst_vars; rfl
    · simp⟩⟩
theorem Row.own (h : Row w g L) {base n : Nat} (hb : base ≤ g) (hn : L.length = n) (hm : n ≤ maxLen) : w.ownsRow base 65 1 (.slice (some ⟨g, 0, none⟩) n n) n (u32s L) :=
  ⟨by rw [u32s_length]; omega, .inr ⟨g, n, _, rfl, hb, h, Nat.le_refl _, hm, by simp [u32s_length, hn], by simp [List.take_of_length_le, u32s_length, hn]⟩⟩
end

theorem cells_replicate (n : Nat) : madeCells (Value.int .u32 0).cells (n * 1) = (u32s (List.replicate n 0)).toArray := by
  apply Array.ext
  · simp [size_madeCells, u32s]
  · intro i h1 h2
    simp [madeCells, u32s, Value.cells, Nat.mod_one]

/-- make([]uint32, n). -/
theorem run_make32 (n : Nat) (hn : n ≤ 70368744177664) (w : World) :
    (Instr.makeSlice 38 (.int .i64 (n : Int)) (.int .i64 (n : Int))).run Tryz.prog w = .ok (.slice (some ⟨w.heap.size, 0, none⟩) n n) (w.alloc (.cells (u32s (List.replicate n 0)).toArray 65)) := by
  obtain ⟨i0, hi0, hz0, hz1, hz2⟩ := info_parts info_u32
  have hr := run_make (P := Tryz.prog) w 38 65 i0 (.int .u32 0) Tryz.underlying38 hi0 hz0 .i64 .i64 n n (by omega) (by omega) (by rw [hz2]; omega) (by omega)
  simp only [Int.toNat_natCast] at hr
  rw [hr, hz1, cells_replicate]

/-- One word more, onto a row of the call's own. -/
theorem wp_app32 {ops : Array Oper} {rest : List Oper} {o : Oper} {a : Act} {Q : Exit → Act → World → Prop} (hgd : o.guard = none) (s x : Operand)
    (ho : o.op = .call { callee := .builtin .append, args := #[s, x], argTypes := #[38, 38] })
    {w0 wr : World} {v : Value} {j : Nat} {acc : List Nat} (lo : Nat) {xv : Int} (hs : a.eval s = v) (hown : wr.ownsRow w0.heap.size 65 1 v j (u32s acc)) (hb : Ext w0 wr)
    (hx : a.eval x = .slice (some ⟨wr.heap.size, 0, none⟩) 1 1) (hxv : xv = (lo : Int)) (hj : j ≤ 35184372088000)
    (h : ∀ v' w1, w1.ownsRow w0.heap.size 65 1 v' (j + 1) (u32s (acc ++ [lo])) → Ext w0 w1 → wpList Tryz.prog ops Q rest (a.put o.dst v') w1) :
    wpList Tryz.prog ops Q (o :: rest) a (wr.alloc (.cells #[.int .u32 xv] 65)) := by
  obtain ⟨i0, hi0, hz0, hz1, hz2⟩ := info_parts info_u32
  subst hxv
  refine wpList_append_own _ hgd s x _ ho w0.heap.size 65 i0 (.int .u32 0) 1 4 Tryz.underlying38 hi0 hz0 hz1 hz2 rfl (by decide) _ _ _ hs (hown.alloc _) ⟨wr.heap.size, 0, none⟩ 1 1 [.int .u32 (lo : Int)] hx rfl (cell_one_new _ _ _) (by simp [Value.oneCell']) (by simp only [maxLen]; omega) (by omega) (by have := hb.size; simp; omega) ?_
  intro v' w1 hown' hgrow _
  rw [u32s_snoc] at hown'
  exact h v' w1 hown' ((hb.alloc _).grown hgrow fun q hq => (hown.lt q hq).1)

set_option maxHeartbeats 400000 in
theorem norm_any (A : Option Addr) (n c : Nat) (xs : List Nat) (w : World) (h : Wds w A n c xs) (hn : n ≤ 35184372088000) :
    Calls Tryz.prog 74 #[.slice A n c] w (RetW (nv xs) w) := by
  have hlen := h.len
  obtain ⟨i0, hi0, hz0, hz1, hz2⟩ := info_parts info_u32
  go_enter Tryz.func74, Tryz.ntmps74
  go_wp2
  go_loop [3] (fun i => ∃ k : Nat, k ≤ n ∧ i = .int .i64 k ∧ ∀ j, (hj : j < xs.length) → k ≤ j → xs[j] = 0) (fun i => (intOf i).toNat)
  case atStart => exact ⟨n, Nat.le_refl _, rfl, fun j hj hk => by omega⟩
  case round =>
    obtain ⟨k, hk, rfl, hz⟩ := hrel
    have HZ := Lib.hid hz
    clear hz
    by_cases hx0 : k ≠ 0 ∧ ∃ hx : k - 1 < xs.length, xs[k - 1] = 0
    · obtain ⟨h0, hx, hx0⟩ := hx0
      obtain ⟨ad, hx, rfl, hb, hc⟩ := h.at_ (k := k - 1) (by omega)
      go_wp2
      go_round
      case rel => exact ⟨k - 1, by omega, by go_num, fun j hj hkj => by
        by_cases e : j = k - 1
        · subst e; exact hx0
        · exact HZ.out j hj (by omega)⟩
      case measure => simp [intOf]; omega
    · have hT := take_trim h.ws (n := k) (by omega) HZ.out (fun j hj e => by
        intro hj0
        refine hx0 ⟨by omega, by omega, ?_⟩
        have e : k - 1 = j := by omega
        subst e; exact hj0)
      have HT := Lib.hid hT.1
      clear hT
      have hgo : k ≤ 0 ∨ ∃ ad, ∃ hx : k - 1 < xs.length, 0 < k ∧ A = some ad ∧ xs[k - 1] ≠ 0 ∧ w.cell? (ad.add (k - 1)) = some (.int .u32 (xs[k - 1] : Int)) := by
        by_cases h0 : k = 0
        · exact Or.inl (by omega)
        · obtain ⟨ad, hx, rfl, hb, hc⟩ := h.at_ (k := k - 1) (by omega)
          exact Or.inr ⟨ad, hx, by omega, rfl, fun e => hx0 ⟨h0, hx, e⟩, hc⟩
      clear hx0
      rcases hgo with hk0 | ⟨ad0, hx, hk0, rfl, hx0, hc⟩
      all_goals
        go_wp2
        go_loopw [4, 5] (fun v i wr => ∃ j : Nat, j ≤ k ∧ i = .int .i64 j ∧ wr.ownsRow w.heap.size 65 1 v j (u32s (xs.take j)) ∧ Ext w wr) (fun _ i _ => k - (intOf i).toNat)
        case atStart => exact ⟨0, Nat.zero_le _, rfl, World.ownsRow_nil _ _ _ _, Ext.refl _⟩
        case round =>
          obtain ⟨j, hj, rfl, hown, hb⟩ := hrel
          by_cases hlt : j < k
          · first
            | (exfalso; omega)
            | (obtain ⟨ad, hxj, hA, hbj, hcj⟩ := (h.ext hb).at_ (k := j) (by omega)
               have hrow : u32s (xs.take j) ++ [.int .u32 (xs[j] : Int)] = u32s (xs.take (j + 1)) := by
                 rw [u32s_snoc, List.take_succ_eq_append_getElem hxj]
               have HR := Lib.hid hrow
               clear hrow
               first | subst hA | (injection hA with hA; subst hA)
               go_wp2_with (at_builtin; refine wpList_append_own _ rfl (.tmp 25) (.tmp 30) _ rfl w.heap.size 65 i0 (.int .u32 0) 1 4 Tryz.underlying38 hi0 hz0 hz1 hz2 rfl (by decide) _ _ _ rfl (hown.alloc _) ⟨wr.heap.size, 0, none⟩ 1 1 [.int .u32 (xs[j] : Int)] rfl rfl (cell_one_new _ _ _) (by simp [Value.oneCell']) (by simp only [maxLen]; omega) (by omega) (by have := hb.size; simp; omega) ?_; intro v' w1 hown' hgrow _)
               go_roundw
               case rel => exact ⟨j + 1, by omega, by go_num, by rw [← HR.out]; exact hown', (hb.alloc _).grown hgrow fun q hq => (hown.lt q hq).1⟩
               case measure => simp [intOf]; omega)
          · have e : j = k := by omega
            subst e
            obtain ⟨A', c', rfl, hW⟩ := Wds.of_own hown (h.ws.take j)
            go_wp2
            go_ret
            exact ⟨A', j, c', rfl, by rw [HT.out]; exact hW, hb⟩
end Go.Proofs.YtadijoeeaineaaaGreatDoor
