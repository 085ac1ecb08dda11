/-
  Plain: what the program's steps of an interval answer is the document's. Conditions: those that each theorem names.
-/
import Derived.Test.YtmcfflecaklpcaaY24
import Derived.Test.YtmcfflecaklpcaaY05
import Derived.Test.YtmcfflecaklpcaaY20
import Derived.Test.YtmcfflecaklpcaaY04
import Derived.Deep.RegionWith
import Derived.Test.YtmcfflecaklpcaaY13
import Derived.Outline
import Derived.StillTailTactics
import Derived.Test.YtmcfflecaklpcaaY21
import Derived.Test.YtmcfflecaklpcaaY11
import Derived.Deep.DeepCutAuto
set_option linter.unusedVariables false
set_option linter.unusedSimpArgs false
set_option maxRecDepth 100000
namespace Go.Proofs.Ytmcfflecaklpcaa
open Nm Rn

/-- What a step makes of a pattern. -/
noncomputable def stF (k x : Nat) : Nat := if k = 0 then sgP x else stP k x
noncomputable def piLo (k x1 x2 : Nat) : Nat := if emp x1 x2 then infR else rdLo (stF k (rdLo x1 x2)) (stF k (rdHi x1 x2))
noncomputable def piHi (k x1 x2 : Nat) : Nat := if emp x1 x2 then minf else rdHi (stF k (rdLo x1 x2)) (stF k (rdHi x1 x2))

theorem stQ_mono (k : Nat) (s : Bool) {T T' K : Nat} (hK : 0 < K) (h : T ≤ T') : stQ k s T K ≤ stQ k s T' K := by
  have hq := Nat.div_le_div_right (c := K) h
  have h1 := Nat.div_add_mod T K
  have h2 := Nat.div_add_mod T' K
  rcases Nat.lt_or_eq_of_le hq with g | g
  · have a := Bool.toNat_le (stMo k s T K)
    unfold stQ
    omega
  · unfold stQ
    rw [g] at h1 ⊢
    have hr : T % K ≤ T' % K := by omega
    have : (stMo k s T K).toNat ≤ (stMo k s T' K).toNat := by
      have himp : stMo k s T K = true → stMo k s T' K = true := by
        unfold stMo
        rw [g]
        split
        · cases s
          · simp
          · simp; omega
        · split
          · cases s
            · simp; omega
            · simp
          · split
            · simp
            · simp only [Bool.or_eq_true, Bool.and_eq_true, decide_eq_true_eq]
              intro hh
              rcases hh with hh | ⟨hh, hh2⟩
              · left; omega
              · rcases Nat.lt_or_eq_of_le hr with c | c
                · left; omega
                · right; exact ⟨by omega, hh2⟩
      cases hc : stMo k s T K
      · simp
      · rw [himp hc]; exact Nat.le_refl _
    omega
theorem stR_mono (k : Nat) (s : Bool) {f g : Nat} (h : f ≤ g) : stR k s f ≤ stR k s g := by
  unfold stR
  exact rung_mono (Nat.mul_le_mul_right _ (stQ_mono k s K74_pos (rv_le h)))

/-- The magnitude that is answered. -/
noncomputable def stM' (k : Nat) (s : Bool) (m : Nat) : Nat := if m < infR then stR k s m else m
theorem stM_mono (k : Nat) (s : Bool) {f g : Nat} (hg : g ≤ infR) (h : f ≤ g) : stM' k s f ≤ stM' k s g := by
  unfold stM'
  split
  · rename_i h1
    split
    · exact stR_mono k s h
    · have := (stR_spec h1 k s).1
      omega
  · rename_i h1
    rw [if_neg (by omega)]
    exact h
theorem stM_lt (k : Nat) (s : Bool) {f : Nat} (h : f < infR) : stM' k s f < infR := by
  unfold stM'
  rw [if_pos h]
  exact (stR_spec h k s).1
theorem stP_word {k x : Nat} (hx : x < 18446744073709551616) (hn : isNaN x = false) : stP k x = Ieee.double.word (sg x) (stM' k (sg x) (mg x)) ∧ stM' k (sg x) (mg x) ≤ infR := by
  unfold isNaN at hn
  have hn' := of_decide_eq_false hn
  unfold stP stM'
  by_cases h : mg x < infR
  · rw [if_pos h, if_pos h]
    exact ⟨rfl, Nat.le_of_lt (stR_spec h k (sg x)).1⟩
  · rw [if_neg h, if_neg h]
    refine ⟨?_, by omega⟩
    rw [word_eq]
    exact split_pat hx
theorem key_word {s : Bool} {r : Nat} (hr : r ≤ infR) : key (Ieee.double.word s r) = (if s then -(r : Int) else (r : Int)) ∧ isNaN (Ieee.double.word s r) = false ∧ Ieee.double.word s r < 18446744073709551616 := by
  have hi := infR_val
  have h1 : r < 9223372036854775808 := by omega
  refine ⟨?_, ?_, word_lt h1⟩
  · unfold key
    rw [sg_word h1, mg_word h1]
  · unfold isNaN
    rw [mg_word h1]
    exact decide_eq_false (by omega)
theorem pl_word {s : Bool} {r : Nat} (hr : r ≤ infR) : pl (Ieee.double.word s r) = pat s r := by
  have hi := infR_val
  cases s
  · show (if r = 9223372036854775808 then 0 else r) = (if r = 0 then 0 else r)
    rw [if_neg (by omega)]
    split <;> omega
  · show (if 9223372036854775808 + r = 9223372036854775808 then 0 else 9223372036854775808 + r) = (if r = 0 then 0 else 9223372036854775808 + r)
    by_cases h0 : r = 0
    · rw [if_pos h0, if_pos (by omega)]
    · rw [if_neg h0, if_neg (by omega)]
theorem one_rv : rv 4607182418800017408 = 1 * K74 := by
  obtain ⟨c, hc, hK⟩ : ∃ c : Nat, c = 1074 ∧ K74 = 2 ^ c := ⟨1074, rfl, K74_def⟩
  rw [show (4607182418800017408 : Nat) = (c - 52) * 4503599627370496 + 4503599627370496 by omega, rv_form (c - 52) 4503599627370496 (by omega) (fun _ => Nat.le_refl _), hK, show (4503599627370496 : Nat) = 2 ^ 52 by decide, ← Nat.pow_add, Nat.one_mul]
  congr 1
  omega
theorem rnd_one (d : Int) (s : Bool) : rnd d s (zr 1 1) = pat s 4607182418800017408 := by
  unfold rnd
  rw [zr_whole, ← one_rv, rr_exact (by decide)]
theorem key_sg {x : Nat} : (key x < 0 ↔ sg x = true ∧ mg x ≠ 0) ∧ (0 < key x ↔ sg x = false ∧ mg x ≠ 0) := by
  unfold key
  cases sg x
  · simp; omega
  · simp; omega
theorem sgP_pl {x : Nat} : sgP x = (if mg x = 0 then 0 else pat (sg x) 4607182418800017408) := by
  obtain ⟨k1, k2⟩ := key_sg (x := x)
  unfold sgP
  by_cases h0 : mg x = 0
  · rw [if_neg (fun h => (k1.1 h).2 h0), if_neg (fun h => (k2.1 h).2 h0), if_pos h0]
  · rw [if_neg h0]
    cases hs : sg x
    · rw [if_neg (fun h => by have := (k1.1 h).1; rw [hs] at this; cases this), if_pos (k2.2 ⟨hs, h0⟩)]
      rfl
    · rw [if_pos (k1.2 ⟨hs, h0⟩)]
      rfl
theorem key_one (s : Bool) : key (pat s 4607182418800017408) = (if s then -4607182418800017408 else 4607182418800017408) ∧ isNaN (pat s 4607182418800017408) = false ∧ pat s 4607182418800017408 < 18446744073709551616 ∧ pl (pat s 4607182418800017408) = pat s 4607182418800017408 := by
  cases s <;> decide

/-- A step's answer as a key, and what it is as an end. -/
theorem stF_facts (k : Nat) {x : Nat} (hx : x < 18446744073709551616) (hn : isNaN x = false) :
    stF k x < 18446744073709551616 ∧ isNaN (stF k x) = false ∧
      key (stF k x) = (if k = 0 then (if mg x = 0 then 0 else if sg x then -4607182418800017408 else 4607182418800017408) else if sg x then -(stM' k (sg x) (mg x) : Int) else (stM' k (sg x) (mg x) : Int)) ∧
      pl (stF k x) = (if k = 0 then (if mg x = 0 then 0 else pat (sg x) 4607182418800017408) else pat (sg x) (stM' k (sg x) (mg x))) := by
  unfold stF
  by_cases hk : k = 0
  · rw [if_pos hk, if_pos hk, if_pos hk, sgP_pl]
    obtain ⟨a1, a2, a3, a4⟩ := key_one (sg x)
    by_cases h0 : mg x = 0
    · rw [if_pos h0, if_pos h0]; decide
    · rw [if_neg h0, if_neg h0]; exact ⟨a3, a2, a1, a4⟩
  · rw [if_neg hk, if_neg hk, if_neg hk]
    obtain ⟨e, hle⟩ := stP_word (k := k) hx hn
    rw [e]
    obtain ⟨a1, a2, a3⟩ := key_word (s := sg x) hle
    exact ⟨a3, a2, a1, pl_word hle⟩
theorem stF_mono (k : Nat) {x y : Nat} (hx : x < 18446744073709551616) (hy : y < 18446744073709551616) (nx : isNaN x = false) (ny : isNaN y = false) (h : key x ≤ key y) : key (stF k x) ≤ key (stF k y) := by
  rw [(stF_facts k hx nx).2.2.1, (stF_facts k hy ny).2.2.1]
  have mx : mg x ≤ infR := by unfold isNaN at nx; have := of_decide_eq_false nx; omega
  have my : mg y ≤ infR := by unfold isNaN at ny; have := of_decide_eq_false ny; omega
  unfold key at h
  by_cases hk : k = 0
  · rw [if_pos hk, if_pos hk]
    cases hs : sg x <;> cases ht : sg y <;> rw [hs, ht] at h <;> simp only [Bool.false_eq_true, if_false, if_true] at h ⊢ <;> repeat' split
    all_goals omega
  · rw [if_neg hk, if_neg hk]
    cases hs : sg x <;> cases ht : sg y <;> rw [hs, ht] at h <;> simp only [Bool.false_eq_true, if_false, if_true] at h ⊢
    · have := stM_mono k false my (show mg x ≤ mg y by omega)
      omega
    · have e1 : mg x = 0 := by omega
      have e2 : mg y = 0 := by omega
      have z : ∀ s, stM' k s 0 = 0 := fun s => by
        unfold stM'
        rw [if_pos (by decide)]
        unfold stR
        rw [rv_zero]
        have hq : stQ k s 0 K74 = 0 := by
          have hK := K74_pos
          unfold stQ stMo
          rw [Nat.zero_div, Nat.zero_mod]
          have c1 : decide (K74 < 2 * 0) = false := decide_eq_false (by omega)
          have c2 : decide (2 * 0 = K74) = false := decide_eq_false (by omega)
          rw [c1, c2]
          simp
        rw [hq, Nat.zero_mul]
        exact rung_zero
      rw [e1, e2, z, z]
      simp
    · omega
    · have := stM_mono k true mx (show mg y ≤ mg x by omega)
      omega

/-- The document's end, of an end that is no NaN and no -0. -/
theorem te_end (k : Nat) {x : Nat} (hx : x < 18446744073709551616) (hn : isNaN x = false) (hz : x ≠ 9223372036854775808) :
    (x ≠ infR → lsLo (teI k x) (teS k x) (teN k x) (teD k x) = pl (stF k x)) ∧ (x ≠ minf → lsHi (teI k x) (teS k x) (teN k x) (teD k x) = pl (stF k x)) := by
  have hi := infR_val
  have hm := minf_val
  rw [(stF_facts k hx hn).2.2.2]
  by_cases hf : mg x < infR
  · obtain ⟨b1, b2, b3, b4⟩ := b_fin hf
    have hsg : (sg x && decide (mg x ≠ 0)) = sg x := by
      by_cases h0 : mg x = 0
      · have : sg x = false := by
          unfold sg
          refine decide_eq_false fun h => ?_
          unfold mg at h0
          omega
        rw [this]; rfl
      · rw [decide_eq_true h0, Bool.and_true]
    have key : ∀ d : Int, rnd d (teS k x) (zr (teN k x) (teD k x)) = (if k = 0 then (if mg x = 0 then 0 else pat (sg x) 4607182418800017408) else pat (sg x) (stM' k (sg x) (mg x))) := fun d => by
      unfold teS teN teD
      rw [if_pos b1, if_pos b1, if_pos b1, b2, b3, b4, hsg]
      unfold stZ
      by_cases hk : k = 0
      · rw [if_pos hk, if_pos hk]
        by_cases h0 : mg x = 0
        · rw [if_pos ((fbN_zero x).2 h0), if_pos h0, zr_zero, rnd_zero]
        · have h1 : fbN x ≠ 0 := fun h => h0 ((fbN_zero x).1 h)
          rw [if_neg h1, if_neg h0, show decide ((1 : Nat) ≠ 0) = true from rfl, Bool.and_true, rnd_one]
      · rw [if_neg hk, if_neg hk, stQ_ratio k (sg x) (fbD_pos x) K74_pos (fb_val x)]
        unfold stM'
        rw [if_pos hf]
        by_cases hq : stQ k (sg x) (rv (mg x)) K74 = 0
        · rw [hq, show decide ((0 : Nat) ≠ 0) = false from rfl, Bool.and_false, zr_zero, rnd_zero]
          have : stR k (sg x) (mg x) = 0 := by unfold stR; rw [hq, Nat.zero_mul]; exact rung_zero
          rw [this]
          rfl
        · rw [decide_eq_true hq, Bool.and_true]
          exact rnd_whole d (sg x) hf k
    have hI : teI k x = 0 := by unfold teI; rw [if_pos b1]
    unfold lsLo lsHi
    rw [hI, if_pos rfl, if_pos rfl]
    exact ⟨fun _ => key (-1), fun _ => key 1⟩
  · have hmi : mg x = infR := by unfold isNaN at hn; have := of_decide_eq_false hn; omega
    have hx2 : x = infR ∨ x = minf := by unfold mg at hmi; omega
    have hone : ∀ d : Int, ∀ s : Bool, rnd d s (zr 1 1) = pat s 4607182418800017408 := rnd_one
    have hM : ∀ s, stM' k s (mg x) = infR := fun s => by unfold stM'; rw [if_neg hf, hmi]
    have hm0 : ¬ mg x = 0 := by omega
    have p1 : pat true infR = minf := by decide
    have p2 : pat false infR = infR := by decide
    have s1 : sg infR = false := by decide
    have s2 : sg minf = true := by decide
    have nz1 : ¬ (1 : Int) = 0 := by omega
    have nz2 : ¬ (-1 : Int) = 0 := by omega
    have dl1 : decide ((1 : Int) < 0) = false := by decide
    have dl2 : decide ((-1 : Int) < 0) = true := by decide
    rw [hM, if_neg hm0]
    rcases hx2 with rfl | rfl
    · refine ⟨fun h => absurd rfl h, fun _ => ?_⟩
      have b1 : bI infR = 1 := if_pos rfl
      unfold lsHi teI teS teN teD
      rw [b1, if_neg nz1, if_neg nz1, if_neg nz1, if_neg nz1, s1]
      by_cases hk : k = 0
      · rw [if_pos hk, if_pos hk, if_pos hk, if_pos hk, if_pos rfl, if_pos hk, hone, dl1]
      · rw [if_neg hk, if_neg hk, if_neg hk, if_neg hk, if_neg nz1, if_neg hk, p2]
    · refine ⟨fun _ => ?_, fun h => absurd rfl h⟩
      have b1 : bI minf = -1 := by unfold bI; rw [if_neg (by decide), if_pos rfl]
      unfold lsLo teI teS teN teD
      rw [b1, if_neg nz2, if_neg nz2, if_neg nz2, if_neg nz2, s2]
      by_cases hk : k = 0
      · rw [if_pos hk, if_pos hk, if_pos hk, if_pos hk, if_pos rfl, if_pos hk, hone, dl2]
      · rw [if_neg hk, if_neg hk, if_neg hk, if_neg hk, if_neg nz2, if_neg hk, p1]

theorem rdLo_nz (x1 x2 : Nat) : rdLo x1 x2 ≠ 9223372036854775808 ∧ rdHi x1 x2 ≠ 9223372036854775808 := by
  have h1 := infR_val
  have h2 := minf_val
  have hp : ∀ b, pl b ≠ 9223372036854775808 := fun b => by unfold pl; split <;> omega
  unfold rdLo rdHi
  constructor
  · split
    · exact hp _
    · omega
  · split
    · exact hp _
    · omega
theorem steps_eq (k x1 x2 : Nat) (hx1 : x1 < 18446744073709551616) (hx2 : x2 < 18446744073709551616) : piLo k x1 x2 = toLo k x1 x2 ∧ piHi k x1 x2 = toHi k x1 x2 := by
  unfold piLo piHi toLo toHi
  by_cases he : emp x1 x2
  · rw [if_pos he, if_pos he, if_pos he, if_pos he]
    exact ⟨rfl, rfl⟩
  · rw [if_neg he, if_neg he, if_neg he, if_neg he]
    obtain ⟨g1, g2, g3, g4, g5, g6, _, g8⟩ := rd_ends hx1 hx2 he
    have hz := rdLo_nz x1 x2
    generalize rdLo x1 x2 = a at *
    generalize rdHi x1 x2 = b at *
    rw [(te_end k g1 g3 hz.1).1 g5, (te_end k g2 g4 hz.2).2 g6]
    obtain ⟨a1, a2, a3, a4⟩ := stF_facts k g1 g3
    obtain ⟨b1, b2, b3, b4⟩ := stF_facts k g2 g4
    have hi := infR_val
    have hm := minf_val
    have ma : mg a ≤ infR := by unfold isNaN at g3; have := of_decide_eq_false g3; omega
    have mb : mg b ≤ infR := by unfold isNaN at g4; have := of_decide_eq_false g4; omega
    have hs : sndB (stF k a) (stF k b) = true := by
      have h1 := stF_mono k g1 g2 g3 g4 g8
      have h2 : key (stF k a) < 9218868437227405312 := by
        rw [a3]
        by_cases hk : k = 0
        · rw [if_pos hk]; repeat' split
          all_goals omega
        · rw [if_neg hk]
          split
          · omega
          · rename_i hsa
            have : mg a < infR := by
              rcases Nat.lt_or_ge (mg a) infR with h | h
              · exact h
              · exfalso
                apply g5
                have hsf : sg a = false := by cases hh : sg a; rfl; exact absurd hh hsa
                have := split_pat g1
                rw [hsf] at this
                simp at this
                omega
            have := stM_lt k (sg a) this
            omega
      have h3 : -9218868437227405312 < key (stF k b) := by
        rw [b3]
        by_cases hk : k = 0
        · rw [if_pos hk]; repeat' split
          all_goals omega
        · rw [if_neg hk]
          split
          · rename_i hsb
            have : mg b < infR := by
              rcases Nat.lt_or_ge (mg b) infR with h | h
              · exact h
              · exfalso
                apply g6
                have := split_pat g2
                rw [hsb] at this
                simp at this
                omega
            have := stM_lt k (sg b) this
            omega
          · omega
      unfold sndB leB ltB
      rw [a2, b2, nan_inf, nan_minf, key_inf, key_minf, decide_eq_true h1, decide_eq_true h2, decide_eq_true h3]
      rfl
    unfold rdLo rdHi
    rw [hs]
    exact ⟨if_pos rfl, if_pos rfl⟩
end Go.Proofs.Ytmcfflecaklpcaa

/-
  The contracts of the program's intervals, first part: how two ends are read, made, found valid. Conditions: those that each theorem names.
-/
namespace Go.Proofs.Ytmcfflecaklpcaa
open Go.RowKit Nm Rn
set_option maxRecDepth 100000
set_option linter.unusedVariables false
set_option linter.unusedSimpArgs false

set_option maxHeartbeats 400000 in
theorem iplain_any (b : Nat) (w : World) (h : b < 18446744073709551616) :
    Calls Try.prog 115 #[.float .f64 b] w fun e w' => e = .returned (.float .f64 (pl b)) ∧ w = w' := by
  have hq := fo_eq h (show 0 < 18446744073709551616 by omega)
  rw [eq0 h] at hq
  by_cases h0 : b = 0 ∨ b = 9223372036854775808
  · rw [decide_eq_true h0] at hq
    have HF : Hid (0 = pl b) := Lib.hid (by unfold pl; rcases h0 with h0 | h0 <;> subst h0 <;> rfl)
    clear h0 h
    go_enter Try.func115, Try.ntmps115
    go_wp2
    go_ret
    exact ⟨ret_float HF.out, rfl⟩
  · rw [decide_eq_false h0] at hq
    have HF : Hid (b = pl b) := Lib.hid (by unfold pl; rw [if_neg (fun h => h0 (.inr h))])
    clear h0 h
    go_enter Try.func115, Try.ntmps115
    go_wp2
    go_ret
    exact ⟨ret_float HF.out, rfl⟩

set_option maxHeartbeats 1000000 in
theorem isound_any (lo hi : Nat) (w : World) (hl : lo < 18446744073709551616) (hh : hi < 18446744073709551616) :
    Calls Try.prog 114 #[.float .f64 lo, .float .f64 hi] w fun e w' => e = .returned (.bool (sndB lo hi)) ∧ w = w' := by
  have h1 := fo_lt hl hh
  have h1' := fo_eq hl hh
  have h12 := fo_le hl hh
  rw [h1, h1'] at h12
  have h2 := fo_lt hl infR_lt
  have h3 := fo_gt hh minf_lt
  have hF : sndB lo hi = (leB lo hi && ltB lo infR && ltB minf hi) := rfl
  obtain ⟨a, ha⟩ : ∃ a, a = ltB lo hi := ⟨_, rfl⟩
  obtain ⟨a', ha'⟩ : ∃ a', a' = eqB lo hi := ⟨_, rfl⟩
  obtain ⟨b, hb⟩ : ∃ b, b = ltB lo infR := ⟨_, rfl⟩
  obtain ⟨c, hc⟩ : ∃ c, c = ltB minf hi := ⟨_, rfl⟩
  rw [← h12, ← ha, ← ha', ← hb, ← hc] at hF
  rw [← ha] at h1
  rw [← ha'] at h1'
  rw [← hb] at h2
  rw [← hc] at h3
  have HF := Lib.hid hF
  clear h12 hF ha ha' hb hc hl hh
  cases a <;> cases a' <;> cases b <;> cases c
  all_goals
    go_enter Try.func114, Try.ntmps114
    go_wp2_with (first | (go_at_call 104; ((with_reducible refine (inf_p _).mono ?_); rintro e w' ⟨rfl, rfl⟩)) | (go_at_call 104; ((with_reducible refine (inf_m _).mono ?_); rintro e w' ⟨rfl, rfl⟩)))
    go_ret
    exact ⟨ret_bool (by rw [HF.out]; rfl), rfl⟩
end Go.Proofs.Ytmcfflecaklpcaa

/-
  The contracts of the program's intervals, second part: Empty, Entire, Read, New, Point, Valid. Conditions: those that each theorem names.
-/
namespace Go.Proofs.Ytmcfflecaklpcaa
open Go.RowKit Nm Rn
set_option maxRecDepth 100000
set_option linter.unusedVariables false
set_option linter.unusedSimpArgs false

/-- A result of two floats. -/
def RetF (lo hi : Nat) (w : World) (e : Ending) (w' : World) : Prop := e = .returned (.agg #[.float .f64 lo, .float .f64 hi]) ∧ Ext w w'

set_option maxHeartbeats 400000 in
theorem iempty_any (w : World) : Calls Try.prog 74 #[] w (RetF infR minf w) := by
  go_enter Try.func74, Try.ntmps74
  go_wp2_with (first | (go_at_call 104; ((with_reducible refine (inf_p _).mono ?_); rintro e w' ⟨rfl, rfl⟩)) | (go_at_call 104; ((with_reducible refine (inf_m _).mono ?_); rintro e w' ⟨rfl, rfl⟩)))
  exact bodyPost_ret (v := .agg #[.float .f64 infR, .float .f64 minf]) (by simp [results, Try.results74, go_sem]) rfl ⟨rfl, (Ext.refl w).alloc _⟩

set_option maxHeartbeats 1000000 in
theorem iread_any (lo hi : Nat) (w : World) (hl : lo < 18446744073709551616) (hh : hi < 18446744073709551616) :
    Calls Try.prog 72 #[.agg #[.float .f64 lo, .float .f64 hi]] w (RetF (rdLo lo hi) (rdHi lo hi) w) := by
  have hs := fun w => isound_any lo hi w hl hh
  have hp1 := fun w => iplain_any lo w hl
  have hp2 := fun w => iplain_any hi w hh
  cases hb : sndB lo hi
  · rw [hb] at hs
    obtain ⟨e1, e2⟩ := empty_rd hb
    rw [← e1, ← e2]
    have HS := Lib.hid hs
    clear hs hp1 hp2 hb e1 e2 hl hh
    go_enter Try.func72, Try.ntmps72
    go_wp2_with fail
    refine (HS.out _).mono ?_
    rintro e w1 ⟨rfl, rfl⟩
    go_wp2_with fail
    refine (iempty_any _).mono ?_
    rintro e w2 ⟨rfl, hE⟩
    have hblk := (Blk.new2 w (.cells #[.float .f64 lo, .float .f64 hi] 52) 52 #[.float .f64 0, .float .f64 0]).ext hE
    have hEw : Ext w w2 := (((Ext.refl w).alloc _).alloc _).trans hE
    obtain ⟨G, hG⟩ : ∃ G, G = w.heap.size + 1 := ⟨_, rfl⟩
    rw [← hG] at hblk
    rw [← hG]
    have hGw : w.heap.size ≤ G := by omega
    have hGl := hblk.lt
    have q0 : w2.cell? ⟨G, 0, none⟩ = some (.float .f64 0) := hblk.cell 0
    have q1 : w2.cell? ⟨G, 1, none⟩ = some (.float .f64 0) := hblk.cell 1
    have f0 := hblk.frozen 0
    have f1 := hblk.frozen 1
    clear hG hE
    go_wp2
    exact bodyPost_ret (v := .agg #[.float .f64 infR, .float .f64 minf]) (by simp [results, Try.results72, go_sem, hGl, q0, q1]) rfl ⟨rfl, (hEw.setCell hGw _).setCell hGw _⟩
  · rw [hb] at hs
    have e1 : pl lo = rdLo lo hi := by unfold rdLo; rw [if_pos hb]
    have e2 : pl hi = rdHi lo hi := by unfold rdHi; rw [if_pos hb]
    rw [e1] at hp1
    rw [e2] at hp2
    obtain ⟨a, ha⟩ : ∃ a, a = rdLo lo hi := ⟨_, rfl⟩
    obtain ⟨b, hb'⟩ : ∃ b, b = rdHi lo hi := ⟨_, rfl⟩
    rw [← ha] at hp1 ⊢
    rw [← hb'] at hp2 ⊢
    have HS := Lib.hid hs
    have HP1 := Lib.hid hp1
    have HP2 := Lib.hid hp2
    clear hs hp1 hp2 hb e1 e2 hl hh ha hb'
    go_enter Try.func72, Try.ntmps72
    go_wp2_with fail
    refine (HS.out _).mono ?_
    rintro e w1 ⟨rfl, rfl⟩
    generalize hX : (w.alloc (.cells #[.float .f64 lo, .float .f64 hi] 52)).alloc (.cells #[.float .f64 0, .float .f64 0] 52) = w1
    have hE1 : Ext ((w.alloc (.cells #[.float .f64 lo, .float .f64 hi] 52)).alloc (.cells #[.float .f64 0, .float .f64 0] 52)) w1 := by rw [← hX]; exact Ext.refl _
    clear hX
    have hblk := (Blk.new2 w (.cells #[.float .f64 lo, .float .f64 hi] 52) 52 #[.float .f64 0, .float .f64 0]).ext hE1
    have hbox := ((Blk.new w 52 #[.float .f64 lo, .float .f64 hi]).ext ((Ext.refl _).alloc (.cells #[.float .f64 0, .float .f64 0] 52))).ext hE1
    have hEw : Ext w w1 := (((Ext.refl w).alloc _).alloc _).trans hE1
    have b0 : w1.cell? ⟨w.heap.size, 0, none⟩ = some (.float .f64 lo) := hbox.cell 0
    have b1 : w1.cell? ⟨w.heap.size, 1, none⟩ = some (.float .f64 hi) := hbox.cell 1
    obtain ⟨G, hG⟩ : ∃ G, G = w.heap.size + 1 := ⟨_, rfl⟩
    rw [← hG] at hblk
    rw [← hG]
    have hGw : w.heap.size ≤ G := by omega
    have hGl := hblk.lt
    have q0 : w1.cell? ⟨G, 0, none⟩ = some (.float .f64 0) := hblk.cell 0
    have q1 : w1.cell? ⟨G, 1, none⟩ = some (.float .f64 0) := hblk.cell 1
    have f0 := hblk.frozen 0
    have f1 := hblk.frozen 1
    clear hG hE1
    go_wp2_with fail
    refine wp_region_still_tail 7 (by kernel_rfl) (by kernel_rfl) ?_
    simp only [List.take_succ_cons, List.take_zero, List.drop_succ_cons, List.drop_zero]
    still_step
    still_step
    still_call ((HP1.out _).mono fun _ _ h => ⟨h.1, h.2.symm⟩)
    still_step
    still_step
    still_call ((HP2.out _).mono fun _ _ h => ⟨h.1, h.2.symm⟩)
    still_step
    refine wpStill_nil ?_
    change wpList _ _ _ _ _ w1.drew
    go_wp2
    exact bodyPost_ret (v := .agg #[.float .f64 a, .float .f64 b]) (by simp [results, Try.results72, go_sem, hGl, q0, q1]) rfl ⟨rfl, (hEw.drew.setCell hGw _).setCell hGw _⟩

end Go.Proofs.Ytmcfflecaklpcaa

/-
  The contracts of the program's intervals, third part: patterns in and out of them; Valid. Conditions: those that each theorem names.
-/
namespace Go.Proofs.Ytmcfflecaklpcaa
open Go.RowKit Nm Rn
set_option maxRecDepth 100000
set_option linter.unusedVariables false
set_option linter.unusedSimpArgs false

/-- A world in which a box of two words lies, and behind it another one. -/
theorem two_boxes (w : World) (s t : TypeId) (x y p q : Value) : ∃ w1, w1 = (w.alloc (.cells #[x, y] s)).alloc (.cells #[p, q] t) ∧ Ext w w1 ∧ w1.cell? ⟨w.heap.size, 0, none⟩ = some x ∧ w1.cell? ⟨w.heap.size, 1, none⟩ = some y ∧
    Blk w1 (w.heap.size + 1) t #[p, q] := by
  have hb := (Blk.new w s #[x, y]).ext ((Ext.refl _).alloc (.cells #[p, q] t))
  exact ⟨_, rfl, ((Ext.refl w).alloc _).alloc _, hb.cell 0, hb.cell 1, Blk.new2 w _ t #[p, q]⟩

set_option maxHeartbeats 1000000 in
theorem out6_any (lo hi : Nat) (w : World) :
    Calls Try.prog 26 #[.agg #[.float .f64 lo, .float .f64 hi]] w (RetI lo hi w) := by
  obtain ⟨w1, hw1, hEw, b0, b1, hblk⟩ := two_boxes w 52 49 (.float .f64 lo) (.float .f64 hi) (.int .u64 0) (.int .u64 0)
  go_enter Try.func26, Try.ntmps26
  go_wp2_with fail
  rw [← hw1]
  clear hw1
  obtain ⟨G, hG⟩ : ∃ G, G = w.heap.size + 1 := ⟨_, rfl⟩
  rw [← hG] at hblk
  rw [← hG]
  have hGw : w.heap.size ≤ G := by omega
  have hGl := hblk.lt
  have q0 : w1.cell? ⟨G, 0, none⟩ = some (.int .u64 0) := hblk.cell 0
  have q1 : w1.cell? ⟨G, 1, none⟩ = some (.int .u64 0) := hblk.cell 1
  have f0 := hblk.frozen 0
  have f1 := hblk.frozen 1
  clear hG
  go_still_tail 7, (by kernel_rfl)
  change wpList _ _ _ _ _ w1.drew
  go_wp2
  exact bodyPost_ret (v := .agg #[.int .u64 (lo : Int), .int .u64 (hi : Int)]) (by simp [results, Try.results26, go_sem, hGl, q0, q1]) rfl ⟨rfl, (hEw.drew.setCell hGw _).setCell hGw _⟩
set_option maxHeartbeats 1000000 in
theorem in6_any (lo hi : Nat) (w : World) :
    Calls Try.prog 28 #[.agg #[.int .u64 (lo : Int), .int .u64 (hi : Int)]] w (RetF lo hi w) := by
  obtain ⟨w1, hw1, hEw, b0, b1, hblk⟩ := two_boxes w 49 52 (.int .u64 (lo : Int)) (.int .u64 (hi : Int)) (.float .f64 0) (.float .f64 0)
  go_enter Try.func28, Try.ntmps28
  go_wp2_with fail
  rw [← hw1]
  clear hw1
  obtain ⟨G, hG⟩ : ∃ G, G = w.heap.size + 1 := ⟨_, rfl⟩
  rw [← hG] at hblk
  rw [← hG]
  have hGw : w.heap.size ≤ G := by omega
  have hGl := hblk.lt
  have q0 : w1.cell? ⟨G, 0, none⟩ = some (.float .f64 0) := hblk.cell 0
  have q1 : w1.cell? ⟨G, 1, none⟩ = some (.float .f64 0) := hblk.cell 1
  have f0 := hblk.frozen 0
  have f1 := hblk.frozen 1
  clear hG
  go_still_tail 7, (by kernel_rfl)
  change wpList _ _ _ _ _ w1.drew
  go_wp2
  exact bodyPost_ret (v := .agg #[.float .f64 lo, .float .f64 hi]) (by simp [results, Try.results28, go_sem, hGl, q0, q1]) rfl ⟨rfl, (hEw.drew.setCell hGw _).setCell hGw _⟩
set_option maxHeartbeats 1000000 in
theorem out7_any (lo hi : Nat) (w : World) :
    Calls Try.prog 34 #[.agg #[.float .f64 lo, .float .f64 hi]] w (RetI lo hi w) := by
  obtain ⟨w1, hw1, hEw, b0, b1, hblk⟩ := two_boxes w 52 49 (.float .f64 lo) (.float .f64 hi) (.int .u64 0) (.int .u64 0)
  go_enter Try.func34, Try.ntmps34
  go_wp2_with fail
  rw [← hw1]
  clear hw1
  obtain ⟨G, hG⟩ : ∃ G, G = w.heap.size + 1 := ⟨_, rfl⟩
  rw [← hG] at hblk
  rw [← hG]
  have hGw : w.heap.size ≤ G := by omega
  have hGl := hblk.lt
  have q0 : w1.cell? ⟨G, 0, none⟩ = some (.int .u64 0) := hblk.cell 0
  have q1 : w1.cell? ⟨G, 1, none⟩ = some (.int .u64 0) := hblk.cell 1
  have f0 := hblk.frozen 0
  have f1 := hblk.frozen 1
  clear hG
  go_still_tail 7, (by kernel_rfl)
  change wpList _ _ _ _ _ w1.drew
  go_wp2
  exact bodyPost_ret (v := .agg #[.int .u64 (lo : Int), .int .u64 (hi : Int)]) (by simp [results, Try.results34, go_sem, hGl, q0, q1]) rfl ⟨rfl, (hEw.drew.setCell hGw _).setCell hGw _⟩
set_option maxHeartbeats 1000000 in
theorem in7_any (lo hi : Nat) (w : World) :
    Calls Try.prog 36 #[.agg #[.int .u64 (lo : Int), .int .u64 (hi : Int)]] w (RetF lo hi w) := by
  obtain ⟨w1, hw1, hEw, b0, b1, hblk⟩ := two_boxes w 49 52 (.int .u64 (lo : Int)) (.int .u64 (hi : Int)) (.float .f64 0) (.float .f64 0)
  go_enter Try.func36, Try.ntmps36
  go_wp2_with fail
  rw [← hw1]
  clear hw1
  obtain ⟨G, hG⟩ : ∃ G, G = w.heap.size + 1 := ⟨_, rfl⟩
  rw [← hG] at hblk
  rw [← hG]
  have hGw : w.heap.size ≤ G := by omega
  have hGl := hblk.lt
  have q0 : w1.cell? ⟨G, 0, none⟩ = some (.float .f64 0) := hblk.cell 0
  have q1 : w1.cell? ⟨G, 1, none⟩ = some (.float .f64 0) := hblk.cell 1
  have f0 := hblk.frozen 0
  have f1 := hblk.frozen 1
  clear hG
  go_still_tail 7, (by kernel_rfl)
  change wpList _ _ _ _ _ w1.drew
  go_wp2
  exact bodyPost_ret (v := .agg #[.float .f64 lo, .float .f64 hi]) (by simp [results, Try.results36, go_sem, hGl, q0, q1]) rfl ⟨rfl, (hEw.drew.setCell hGw _).setCell hGw _⟩
end Go.Proofs.Ytmcfflecaklpcaa

/-
  The contract of the program's empty; its intervals' zero and size. Conditions: those that each theorem names.
-/
namespace Go.Proofs.Ytmcfflecaklpcaa
open Go.RowKit Nm Rn
set_option maxRecDepth 100000
set_option linter.unusedVariables false
set_option linter.unusedSimpArgs false

theorem zero_iv (w : World) : (zeroValue 52).run Try.prog w = .ok (.agg #[.float .f64 0, .float .f64 0]) w := by kernel_rfl
theorem agg_iv (w : World) : (isAgg 52).run Try.prog w = .ok true w := by kernel_rfl
theorem size_iv (w : World) : (sizeOf 52).run Try.prog w = .ok 2 w := by kernel_rfl
set_option maxHeartbeats 1000000 in
theorem iemp_any (lo hi : Nat) (w : World) (hl : lo < 18446744073709551616) (hh : hi < 18446744073709551616) :
    Calls Try.prog 73 #[.agg #[.float .f64 lo, .float .f64 hi]] w fun e w' => e = .returned (.bool (ltB hi lo)) ∧ Ext w w' := by
  have hq := fo_gt hl hh
  obtain ⟨R, hR⟩ : ∃ R, R = ltB hi lo := ⟨_, rfl⟩
  rw [← hR] at hq ⊢
  clear hR hl hh
  go_enter Try.func73, Try.ntmps73
  go_wp2
  go_ret
  exact ⟨ret_bool (by first | rfl | exact hq), (Ext.refl w).alloc _⟩

end Go.Proofs.Ytmcfflecaklpcaa

/-
  What max and min of two floats answer. Conditions: those that each theorem names.
-/
namespace Go.Proofs.Ytmcfflecaklpcaa
open Go.RowKit Nm Rn
set_option maxRecDepth 100000
set_option linter.unusedVariables false
set_option linter.unusedSimpArgs false

theorem lt_key {x y : Nat} (nx : isNaN x = false) (ny : isNaN y = false) : ltB x y = decide (key x < key y) := by unfold ltB; rw [nx, ny]; rfl
theorem eq_key {x y : Nat} (nx : isNaN x = false) (ny : isNaN y = false) : eqB x y = decide (key x = key y) := by unfold eqB; rw [nx, ny]; rfl
theorem le_key {x y : Nat} (nx : isNaN x = false) (ny : isNaN y = false) : leB x y = decide (key x ≤ key y) := by unfold leB; rw [nx, ny]; rfl

theorem max_run {x y : Nat} (hx : x < 18446744073709551616) (hy : y < 18446744073709551616) (nx : isNaN x = false) (ny : isNaN y = false) (h : key x = key y → x = y) (P : Program) (w : World) (ats : Array TypeId) (ty : TypeId) :
    (Builtin.max_ ats ty #[.float .f64 x, .float .f64 y]).run P w = .ok (.float .f64 (if key x < key y then y else x)) w := by
  have h1 := fo_lt hx hy
  have h2 := fo_eq hx hy
  have h3 := fo_gt hx hy
  rw [lt_key nx ny] at h1
  rw [eq_key nx ny] at h2
  rw [lt_key ny nx] at h3
  have hm : (Builtin.max2 (.float .f64 x) (.float .f64 y)).run P w = .ok (.float .f64 (if key x < key y then y else x)) w := by
    rcases Int.lt_trichotomy (key x) (key y) with g | g | g
    · rw [decide_eq_true g] at h1
      rw [if_pos g]
      have e := eq_of_beq h1
      simp only [Builtin.max2, Builtin.min2, e]; rfl
    · rw [decide_eq_true g] at h2
      have e := eq_of_beq h2
      have := h g
      subst this
      rw [if_neg (by omega)]
      simp only [Builtin.max2, Builtin.min2, e, ite_self]; rfl
    · rw [decide_eq_true g] at h3
      rw [if_neg (by omega)]
      have e := eq_of_beq h3
      simp only [Builtin.max2, Builtin.min2, e]; rfl
  unfold Builtin.max_
  simp only [List.foldlM]
  simpa using hm
theorem min_run {x y : Nat} (hx : x < 18446744073709551616) (hy : y < 18446744073709551616) (nx : isNaN x = false) (ny : isNaN y = false) (h : key x = key y → x = y) (P : Program) (w : World) (ats : Array TypeId) (ty : TypeId) :
    (Builtin.min_ ats ty #[.float .f64 x, .float .f64 y]).run P w = .ok (.float .f64 (if key y < key x then y else x)) w := by
  have h1 := fo_lt hx hy
  have h2 := fo_eq hx hy
  have h3 := fo_gt hx hy
  rw [lt_key nx ny] at h1
  rw [eq_key nx ny] at h2
  rw [lt_key ny nx] at h3
  have hm : (Builtin.min2 (.float .f64 x) (.float .f64 y)).run P w = .ok (.float .f64 (if key y < key x then y else x)) w := by
    rcases Int.lt_trichotomy (key x) (key y) with g | g | g
    · rw [decide_eq_true g] at h1
      rw [if_neg (by omega)]
      have e := eq_of_beq h1
      simp only [Builtin.max2, Builtin.min2, e]; rfl
    · rw [decide_eq_true g] at h2
      have e := eq_of_beq h2
      have := h g
      subst this
      rw [if_neg (by omega)]
      simp only [Builtin.max2, Builtin.min2, e, ite_self]; rfl
    · rw [decide_eq_true g] at h3
      rw [if_pos g]
      have e := eq_of_beq h3
      simp only [Builtin.max2, Builtin.min2, e]; rfl
  unfold Builtin.min_
  simp only [List.foldlM]
  simpa using hm
end Go.Proofs.Ytmcfflecaklpcaa

/-
  The contracts of the program's intervals, fourth part: Valid. Conditions: those that each theorem names.
-/
namespace Go.Proofs.Ytmcfflecaklpcaa
open Go.RowKit Nm Rn
set_option maxRecDepth 100000
set_option linter.unusedVariables false
set_option linter.unusedSimpArgs false

@[go_sem] theorem run_equalIn_float (P : Program) (w : World) (d : Nat) (t : TypeId) (k : FloatKind) (a b : Nat) (h : P.underlying t = some (.float k)) : (Op.equalIn (d + 1) t (.float k a) (.float k b)).run P w = .ok (k.format.order a b == some .eq) w := by
  simp [Op.equalIn, run_underlying h, Op.floatEq]
theorem eqF {a b c d : Nat} (ha : a < 18446744073709551616) (hb : b < 18446744073709551616) (hc : c < 18446744073709551616) (hd : d < 18446744073709551616) (w : World) : (binOp .eql 52 (.agg #[.float .f64 a, .float .f64 b]) (.agg #[.float .f64 c, .float .f64 d])).run Try.prog w = .ok (.bool (eqB a c && eqB b d)) w := by
  rw [← fo_eq ha hc, ← fo_eq hb hd]
  cases h1 : (FloatKind.f64.format.order a c == some .eq) <;> cases h2 : (FloatKind.f64.format.order b d == some .eq) <;> go_simp <;> simp [h1, h2]
theorem eqF' {a b c d : Nat} (ha : a < 18446744073709551616) (hb : b < 18446744073709551616) (hc : c < 18446744073709551616) (hd : d < 18446744073709551616) {E : Bool} (h : (eqB a c && eqB b d) = E) (w : World) : (binOp .eql 52 (.agg #[.float .f64 a, .float .f64 b]) (.agg #[.float .f64 c, .float .f64 d])).run Try.prog w = .ok (.bool E) w := by rw [eqF ha hb hc hd, h]

end Go.Proofs.Ytmcfflecaklpcaa
