/-
  Plain: what the program's steps of an interval answer is the document's. Conditions: those that each theorem names.
-/
import Derived.Test.YtadijoeeaineaaaDoorT38
import Derived.Test.YtadijoeeaineaaaDoorT06
import Derived.Test.YtadijoeeaineaaaDoorT33
import Derived.Test.YtadijoeeaineaaaDoorT12
import Derived.Test.YtadijoeeaineaaaDoorT13
import Derived.Test.YtadijoeeaineaaaDoorT36
import Derived.Test.YtadijoeeaineaaaDoorT37
set_option linter.unusedVariables false
set_option linter.unusedSimpArgs false
set_option maxRecDepth 100000
namespace Go.Proofs.YtadijoeeaineaaaDoor
open Nm Rn

/-- What a step makes of a pattern. -/
noncomputable def stF (k x : Nat) : Nat := if k = 0 then sgP x else stP k x
noncomputable def piLo (k x1 x2 : Nat) : Nat := if emp x1 x2 then infR else rdLo (stF k (rdLo x1 x2)) (stF k (rdHi x1 x2))
noncomputable def piHi (k x1 x2 : Nat) : Nat := if emp x1 x2 then minf else rdHi (stF k (rdLo x1 x2)) (stF k (rdHi x1 x2))

theorem stQ_mono (k : Nat) (s : Bool) {T T' K : Nat} (hK : 0 < K) (h : T ≤ T') : stQ k s T K ≤ stQ k s T' K := by
  have hq := Nat.div_le_div_right (c := K) h
  have h1 := Nat.div_add_mod T K
  have h2 := Nat.div_add_mod T' K
  rcases Nat.lt_or_eq_of_le hq with g | g
  · have a := Bool.toNat_le (stMo k s T K)
    unfold stQ
    omega
  · unfold stQ
    rw [g] at h1 ⊢
    have hr : T % K ≤ T' % K := by omega
    have : (stMo k s T K).toNat ≤ (stMo k s T' K).toNat := by
      have himp : stMo k s T K = true → stMo k s T' K = true := by
        unfold stMo
        rw [g]
        split
        · cases s
          · simp
          · simp; omega
        · split
          · cases s
            · simp; omega
            · simp
          · split
            · simp
            · simp only [Bool.or_eq_true, Bool.and_eq_true, decide_eq_true_eq]
              intro hh
              rcases hh with hh | ⟨hh, hh2⟩
              · left; omega
              · rcases Nat.lt_or_eq_of_le hr with c | c
                · left; omega
                · right; exact ⟨by omega, hh2⟩
      cases hc : stMo k s T K
      · simp
      · rw [himp hc]; exact Nat.le_refl _
    omega
theorem stR_mono (k : Nat) (s : Bool) {f g : Nat} (h : f ≤ g) : stR k s f ≤ stR k s g := by
  unfold stR
  exact rung_mono (Nat.mul_le_mul_right _ (stQ_mono k s K74_pos (rv_le h)))

/-- The magnitude that is answered. -/
noncomputable def stM' (k : Nat) (s : Bool) (m : Nat) : Nat := if m < infR then stR k s m else m
theorem stM_mono (k : Nat) (s : Bool) {f g : Nat} (hg : g ≤ infR) (h : f ≤ g) : stM' k s f ≤ stM' k s g := by
  unfold stM'
  split
  · rename_i h1
    split
    · exact stR_mono k s h
    · have := (stR_spec h1 k s).1
      omega
  · rename_i h1
    rw [if_neg (by omega)]
    exact h
theorem stM_lt (k : Nat) (s : Bool) {f : Nat} (h : f < infR) : stM' k s f < infR := by
  unfold stM'
  rw [if_pos h]
  exact (stR_spec h k s).1
theorem stP_word {k x : Nat} (hx : x < 18446744073709551616) (hn : isNaN x = false) : stP k x = Ieee.double.word (sg x) (stM' k (sg x) (mg x)) ∧ stM' k (sg x) (mg x) ≤ infR := by
  unfold isNaN at hn
  have hn' := of_decide_eq_false hn
  unfold stP stM'
  by_cases h : mg x < infR
  · rw [if_pos h, if_pos h]
    exact ⟨rfl, Nat.le_of_lt (stR_spec h k (sg x)).1⟩
  · rw [if_neg h, if_neg h]
    refine ⟨?_, by omega⟩
    rw [word_eq]
    exact split_pat hx
theorem key_word {s : Bool} {r : Nat} (hr : r ≤ infR) : key (Ieee.double.word s r) = (if s then -(r : Int) else (r : Int)) ∧ isNaN (Ieee.double.word s r) = false ∧ Ieee.double.word s r < 18446744073709551616 := by
  have hi := infR_val
  have h1 : r < 9223372036854775808 := by omega
  refine ⟨?_, ?_, word_lt h1⟩
  · unfold key
    rw [sg_word h1, mg_word h1]
  · unfold isNaN
    rw [mg_word h1]
    exact decide_eq_false (by omega)
theorem pl_word {s : Bool} {r : Nat} (hr : r ≤ infR) : pl (Ieee.double.word s r) = pat s r := by
  have hi := infR_val
  cases s
  · show (if r = 9223372036854775808 then 0 else r) = (if r = 0 then 0 else r)
    rw [if_neg (by omega)]
    split <;> omega
  · show (if 9223372036854775808 + r = 9223372036854775808 then 0 else 9223372036854775808 + r) = (if r = 0 then 0 else 9223372036854775808 + r)
    by_cases h0 : r = 0
    · rw [if_pos h0, if_pos (by omega)]
    · rw [if_neg h0, if_neg (by omega)]
theorem one_rv : rv 4607182418800017408 = 1 * K74 := by
  obtain ⟨c, hc, hK⟩ : ∃ c : Nat, c = 1074 ∧ K74 = 2 ^ c := ⟨1074, rfl, K74_def⟩
  rw [show (4607182418800017408 : Nat) = (c - 52) * 4503599627370496 + 4503599627370496 by omega, rv_form (c - 52) 4503599627370496 (by omega) (fun _ => Nat.le_refl _), hK, show (4503599627370496 : Nat) = 2 ^ 52 by decide, ← Nat.pow_add, Nat.one_mul]
  congr 1
  omega
theorem rnd_one (d : Int) (s : Bool) : rnd d s (zr 1 1) = pat s 4607182418800017408 := by
  unfold rnd
  rw [zr_whole, ← one_rv, rr_exact (by decide)]
theorem key_sg {x : Nat} : (key x < 0 ↔ sg x = true ∧ mg x ≠ 0) ∧ (0 < key x ↔ sg x = false ∧ mg x ≠ 0) := by
  unfold key
  cases sg x
  · simp; omega
  · simp; omega
theorem sgP_pl {x : Nat} : sgP x = (if mg x = 0 then 0 else pat (sg x) 4607182418800017408) := by
  obtain ⟨k1, k2⟩ := key_sg (x := x)
  unfold sgP
  by_cases h0 : mg x = 0
  · rw [if_neg (fun h => (k1.1 h).2 h0), if_neg (fun h => (k2.1 h).2 h0), if_pos h0]
  · rw [if_neg h0]
    cases hs : sg x
    · rw [if_neg (fun h => by have := (k1.1 h).1; rw [hs] at this; cases this), if_pos (k2.2 ⟨hs, h0⟩)]
      rfl
    · rw [if_pos (k1.2 ⟨hs, h0⟩)]
      rfl
theorem key_one (s : Bool) : key (pat s 4607182418800017408) = (if s then -4607182418800017408 else 4607182418800017408) ∧ isNaN (pat s 4607182418800017408) = false ∧ pat s 4607182418800017408 < 18446744073709551616 ∧ pl (pat s 4607182418800017408) = pat s 4607182418800017408 := by
  cases s <;> decide

/-- A step's answer as a key, and what it is as an end. -/
theorem stF_facts (k : Nat) {x : Nat} (hx : x < 18446744073709551616) (hn : isNaN x = false) :
    stF k x < 18446744073709551616 ∧ isNaN (stF k x) = false ∧
      key (stF k x) = (if k = 0 then (if mg x = 0 then 0 else if sg x then -4607182418800017408 else 4607182418800017408) else if sg x then -(stM' k (sg x) (mg x) : Int) else (stM' k (sg x) (mg x) : Int)) ∧
      pl (stF k x) = (if k = 0 then (if mg x = 0 then 0 else pat (sg x) 4607182418800017408) else pat (sg x) (stM' k (sg x) (mg x))) := by
  unfold stF
  by_cases hk : k = 0
  · rw [if_pos hk, if_pos hk, if_pos hk, sgP_pl]
    obtain ⟨a1, a2, a3, a4⟩ := key_one (sg x)
    by_cases h0 : mg x = 0
    · rw [if_pos h0, if_pos h0]; decide
    · rw [if_neg h0, if_neg h0]; exact ⟨a3, a2, a1, a4⟩
  · rw [if_neg hk, if_neg hk, if_neg hk]
    obtain ⟨e, hle⟩ := stP_word (k := k) hx hn
    rw [e]
    obtain ⟨a1, a2, a3⟩ := key_word (s := sg x) hle
    exact ⟨a3, a2, a1, pl_word hle⟩
theorem stF_mono (k : Nat) {x y : Nat} (hx : x < 18446744073709551616) (hy : y < 18446744073709551616) (nx : isNaN x = false) (ny : isNaN y = false) (h : key x ≤ key y) : key (stF k x) ≤ key (stF k y) := by
  rw [(stF_facts k hx nx).2.2.1, (stF_facts k hy ny).2.2.1]
  have mx : mg x ≤ infR := by unfold isNaN at nx; have := of_decide_eq_false nx; omega
  have my : mg y ≤ infR := by unfold isNaN at ny; have := of_decide_eq_false ny; omega
  unfold key at h
  by_cases hk : k = 0
  · rw [if_pos hk, if_pos hk]
    cases hs : sg x <;> cases ht : sg y <;> rw [hs, ht] at h <;> simp only [Bool.false_eq_true, if_false, if_true] at h ⊢ <;> repeat' split
    all_goals omega
  · rw [if_neg hk, if_neg hk]
    cases hs : sg x <;> cases ht : sg y <;> rw [hs, ht] at h <;> simp only [Bool.false_eq_true, if_false, if_true] at h ⊢
    · have := stM_mono k false my (show mg x ≤ mg y by omega)
      omega
    · have e1 : mg x = 0 := by omega
      have e2 : mg y = 0 := by omega
      have z : ∀ s, stM' k s 0 = 0 := fun s => by
        unfold stM'
        rw [if_pos (by decide)]
        unfold stR
        rw [rv_zero]
        have hq : stQ k s 0 K74 = 0 := by
          have hK := K74_pos
          unfold stQ stMo
          rw [Nat.zero_div, Nat.zero_mod]
          have c1 : decide (K74 < 2 * 0) = false := decide_eq_false (by omega)
          have c2 : decide (2 * 0 = K74) = false := decide_eq_false (by omega)
          rw [c1, c2]
          simp
        rw [hq, Nat.zero_mul]
        exact rung_zero
      rw [e1, e2, z, z]
      simp
    · omega
    · have := stM_mono k true mx (show mg y ≤ mg x by omega)
      omega

theorem stF_snd (k : Nat) {a b : Nat} (g1 : a < 18446744073709551616) (g2 : b < 18446744073709551616) (g3 : isNaN a = false) (g4 : isNaN b = false) (g5 : a ≠ infR) (g6 : b ≠ minf) (g8 : key a ≤ key b) : sndB (stF k a) (stF k b) = true := by
  obtain ⟨a1, a2, a3, a4⟩ := stF_facts k g1 g3
  obtain ⟨b1, b2, b3, b4⟩ := stF_facts k g2 g4
  have hi := infR_val
  have hm := minf_val
  have ma : mg a ≤ infR := by unfold isNaN at g3; have := of_decide_eq_false g3; omega
  have mb : mg b ≤ infR := by unfold isNaN at g4; have := of_decide_eq_false g4; omega
  have h1 := stF_mono k g1 g2 g3 g4 g8
  have h2 : key (stF k a) < 9218868437227405312 := by
    rw [a3]
    by_cases hk : k = 0
    · rw [if_pos hk]; repeat' split
      all_goals omega
    · rw [if_neg hk]
      split
      · omega
      · rename_i hsa
        have : mg a < infR := by
          rcases Nat.lt_or_ge (mg a) infR with h | h
          · exact h
          · exfalso
            apply g5
            have hsf : sg a = false := by cases hh : sg a; rfl; exact absurd hh hsa
            have := split_pat g1
            rw [hsf] at this
            simp at this
            omega
        have := stM_lt k (sg a) this
        omega
  have h3 : -9218868437227405312 < key (stF k b) := by
    rw [b3]
    by_cases hk : k = 0
    · rw [if_pos hk]; repeat' split
      all_goals omega
    · rw [if_neg hk]
      split
      · rename_i hsb
        have : mg b < infR := by
          rcases Nat.lt_or_ge (mg b) infR with h | h
          · exact h
          · exfalso
            apply g6
            have := split_pat g2
            rw [hsb] at this
            simp at this
            omega
        have := stM_lt k (sg b) this
        omega
      · omega
  unfold sndB leB ltB
  rw [a2, b2, nan_inf, nan_minf, key_inf, key_minf, decide_eq_true h1, decide_eq_true h2, decide_eq_true h3]
  rfl
theorem rdLo_nz (x1 x2 : Nat) : rdLo x1 x2 ≠ 9223372036854775808 ∧ rdHi x1 x2 ≠ 9223372036854775808 := by
  have h1 := infR_val
  have h2 := minf_val
  have hp : ∀ b, pl b ≠ 9223372036854775808 := fun b => by unfold pl; split <;> omega
  unfold rdLo rdHi
  constructor
  · split
    · exact hp _
    · omega
  · split
    · exact hp _
    · omega
end Go.Proofs.YtadijoeeaineaaaDoor

/-
  The contracts of the program's steps of intervals. Conditions: those that each theorem names.
-/
namespace Go.Proofs.YtadijoeeaineaaaDoor
open Go.RowKit Nm Rn
set_option maxRecDepth 100000
set_option linter.unusedVariables false
set_option linter.unusedSimpArgs false

set_option maxHeartbeats 4000000 in
theorem over4_e (x1 x2 a b : Nat) (w : World) (HR : Hid (∀ w, Calls Tryd.prog 98 #[.agg #[.float .f64 x1, .float .f64 x2]] w (RetF a b w)))
    (hq : ∀ w, (binOp .eql 61 (.agg #[.float .f64 a, .float .f64 b]) (.agg #[.float .f64 infR, .float .f64 minf])).run Tryd.prog w = .ok (.bool true) w) :
    Calls Tryd.prog 104 #[.agg #[.func (.func 109) #[] #[]], .agg #[.float .f64 x1, .float .f64 x2]] w (RetF a b w) := by
  have hO := Own.start w
  have hf : True := trivial
  have HEM := Lib.hid (fun w => iempty_any w)
  obtain ⟨I1, hI1⟩ : ∃ r, r = infR := ⟨_, rfl⟩
  obtain ⟨I2, hI2⟩ : ∃ r, r = minf := ⟨_, rfl⟩
  rw [← hI1, ← hI2] at HEM hq
  clear hI1 hI2
  go_enter Tryd.func104, Tryd.ntmps104
  go_wp2_with (first | ((with_reducible refine at_box ?_); refine own_box (cs := [.func (.func 109) #[] #[]]) hO rfl rfl ?_; clear hO; intro g2 wa hO; clear hf; have hf := hO.cells; simp only [BC, CC, Nat.zero_add, Nat.reduceAdd, and_true] at hf) | ((with_reducible refine at_box ?_); refine own_box (cs := [.float .f64 x1, .float .f64 x2]) hO rfl rfl ?_; clear hO; intro g3 wb hO; clear hf; have hf := hO.cells; simp only [BC, CC, Nat.zero_add, Nat.reduceAdd, and_true] at hf) | ((with_reducible refine at_alloc ?_); refine own_alloc hO zero_iv rfl rfl ?_; clear hO; intro g4 wc hO; clear hf; have hf := hO.cells; simp only [BC, CC, Nat.zero_add, Nat.reduceAdd, and_true] at hf))
  refine (HR.out _).mono ?_
  rintro e w2 ⟨rfl, hE1⟩
  have hO := hO.ext hE1
  clear hE1
  clear hf
  have hf := hO.cells
  simp only [BC, CC, Nat.zero_add, Nat.reduceAdd, and_true] at hf
  go_wp2_with ((with_reducible refine at_store (T := 61) ?_); refine own_store (T := 61) hO 1 rfl rfl rfl size_iv rfl rfl rfl ?_; clear hO; intro w3 hO; simp only [List.set_cons_zero, List.set_cons_succ, spl, List.take_succ_cons, List.take_zero, List.nil_append, List.cons_append, List.length_cons, List.length_nil, List.drop_succ_cons, List.drop_zero, List.drop_nil, Nat.reduceAdd, Nat.zero_add, List.append_nil] at hO; clear hf; have hf := hO.cells; simp only [BC, CC, Nat.zero_add, Nat.reduceAdd, and_true] at hf)
  obtain ⟨S, hS⟩ : ∃ S : World → Prop, S = Own w [⟨g4, 61, [.float .f64 0, .float .f64 0]⟩, ⟨g3, 61, [.float .f64 a, .float .f64 b]⟩, ⟨g2, 106, [.func (.func 109) #[] #[]]⟩] [] := ⟨_, rfl⟩
  have HSE : Hid (∀ w w', S w → Ext w w' → S w') := Lib.hid (fun w w' h1 h2 => by rw [hS] at h1 ⊢; exact h1.ext h2)
  have hS1 : S w3.drew := by rw [hS]; exact hO.ext (Ext.refl w3).drew
  have HS := Lib.hid hS
  clear hS hO hf
  obtain ⟨sp, hsp⟩ : ∃ sp : Nat → Sp, sp = ofList [det (.agg #[.float .f64 a, .float .f64 b]), det (.agg #[.float .f64 I1, .float .f64 I2])] := ⟨_, rfl⟩
  have HSP := Lib.hid hsp
  clear hsp
  refine wp_region_loose 2 S sp (by kernel_rfl) (by kernel_rfl) hS1 HSE.out ?_
  simp only [List.take_succ_cons, List.take_zero, List.drop_succ_cons, List.drop_zero]
  iterate 2
    refine wpX_step (fun K hK => ?_)
    go_simp
    refine StepY.det (by rw [HSP.out]; rfl) ?_ ?_
    · intro wz hz hF
      rw [HS.out] at hz
      have hf := hz.cells
      simp only [BC, CC, Nat.zero_add, Nat.reduceAdd, and_true] at hf
      clear hz hF
      go_simp
      first
      | exact ⟨rfl, Ext.refl _⟩
      | (refine (HEM.out _).mono ?_
         rintro e w5 ⟨rfl, hE5⟩
         exact ⟨_, rfl, rfl, hE5⟩)
    refine hK _ _ ?_
    clear hK K
  refine wpX_nil ?_
  intro w4 hz4 hF
  clear hF
  rw [HS.out] at hz4
  have hO := hz4
  have hf := hO.cells
  simp only [BC, CC, Nat.zero_add, Nat.reduceAdd, and_true] at hf
  clear hz4 hS1 HSP
  go_wp2_with ((with_reducible refine at_store (T := 61) ?_); refine own_store (T := 61) hO 0 rfl rfl rfl size_iv rfl rfl rfl ?_; clear hO; intro w5 hO; simp only [List.set_cons_zero, List.set_cons_succ, spl, List.take_succ_cons, List.take_zero, List.nil_append, List.cons_append, List.length_cons, List.length_nil, List.drop_succ_cons, List.drop_zero, List.drop_nil, Nat.reduceAdd, Nat.zero_add, List.append_nil] at hO; clear hf; have hf := hO.cells; simp only [BC, CC, Nat.zero_add, Nat.reduceAdd, and_true] at hf)
  exact own_ret hO 0 rfl rfl rfl agg_iv size_iv rfl ⟨rfl, hO.toExt⟩

set_option maxHeartbeats 4000000 in
theorem over4_f (x1 x2 a b p q r1 r2 : Nat) (w : World) (HR : Hid (∀ w, Calls Tryd.prog 98 #[.agg #[.float .f64 x1, .float .f64 x2]] w (RetF a b w)))
    (hq : ∀ w, (binOp .eql 61 (.agg #[.float .f64 a, .float .f64 b]) (.agg #[.float .f64 infR, .float .f64 minf])).run Tryd.prog w = .ok (.bool false) w)
    (H1 : ∀ w, (callFunc 109 #[.float .f64 a]).run Tryd.prog w = .ok (.value (.float .f64 p)) w) (H2 : ∀ w, (callFunc 109 #[.float .f64 b]).run Tryd.prog w = .ok (.value (.float .f64 q)) w)
    (HR2 : Hid (∀ w, Calls Tryd.prog 98 #[.agg #[.float .f64 p, .float .f64 q]] w (RetF r1 r2 w))) :
    Calls Tryd.prog 104 #[.agg #[.func (.func 109) #[] #[]], .agg #[.float .f64 x1, .float .f64 x2]] w (RetF r1 r2 w) := by
  have hO := Own.start w
  have hf : True := trivial
  have HEM := Lib.hid (fun w => iempty_any w)
  obtain ⟨I1, hI1⟩ : ∃ r, r = infR := ⟨_, rfl⟩
  obtain ⟨I2, hI2⟩ : ∃ r, r = minf := ⟨_, rfl⟩
  rw [← hI1, ← hI2] at HEM hq
  clear hI1 hI2
  go_enter Tryd.func104, Tryd.ntmps104
  go_wp2_with (first | ((with_reducible refine at_box ?_); refine own_box (cs := [.func (.func 109) #[] #[]]) hO rfl rfl ?_; clear hO; intro g2 wa hO; clear hf; have hf := hO.cells; simp only [BC, CC, Nat.zero_add, Nat.reduceAdd, and_true] at hf) | ((with_reducible refine at_box ?_); refine own_box (cs := [.float .f64 x1, .float .f64 x2]) hO rfl rfl ?_; clear hO; intro g3 wb hO; clear hf; have hf := hO.cells; simp only [BC, CC, Nat.zero_add, Nat.reduceAdd, and_true] at hf) | ((with_reducible refine at_alloc ?_); refine own_alloc hO zero_iv rfl rfl ?_; clear hO; intro g4 wc hO; clear hf; have hf := hO.cells; simp only [BC, CC, Nat.zero_add, Nat.reduceAdd, and_true] at hf))
  refine (HR.out _).mono ?_
  rintro e w2 ⟨rfl, hE1⟩
  have hO := hO.ext hE1
  clear hE1
  clear hf
  have hf := hO.cells
  simp only [BC, CC, Nat.zero_add, Nat.reduceAdd, and_true] at hf
  go_wp2_with ((with_reducible refine at_store (T := 61) ?_); refine own_store (T := 61) hO 1 rfl rfl rfl size_iv rfl rfl rfl ?_; clear hO; intro w3 hO; simp only [List.set_cons_zero, List.set_cons_succ, spl, List.take_succ_cons, List.take_zero, List.nil_append, List.cons_append, List.length_cons, List.length_nil, List.drop_succ_cons, List.drop_zero, List.drop_nil, Nat.reduceAdd, Nat.zero_add, List.append_nil] at hO; clear hf; have hf := hO.cells; simp only [BC, CC, Nat.zero_add, Nat.reduceAdd, and_true] at hf)
  obtain ⟨S, hS⟩ : ∃ S : World → Prop, S = Own w [⟨g4, 61, [.float .f64 0, .float .f64 0]⟩, ⟨g3, 61, [.float .f64 a, .float .f64 b]⟩, ⟨g2, 106, [.func (.func 109) #[] #[]]⟩] [] := ⟨_, rfl⟩
  have HSE : Hid (∀ w w', S w → Ext w w' → S w') := Lib.hid (fun w w' h1 h2 => by rw [hS] at h1 ⊢; exact h1.ext h2)
  have hS1 : S w3.drew := by rw [hS]; exact hO.ext (Ext.refl w3).drew
  have HS := Lib.hid hS
  clear hS hO hf
  obtain ⟨sp, hsp⟩ : ∃ sp : Nat → Sp, sp = ofList [det (.agg #[.float .f64 a, .float .f64 b]), det (.agg #[.float .f64 I1, .float .f64 I2])] := ⟨_, rfl⟩
  have HSP := Lib.hid hsp
  clear hsp
  refine wp_region_loose 2 S sp (by kernel_rfl) (by kernel_rfl) hS1 HSE.out ?_
  simp only [List.take_succ_cons, List.take_zero, List.drop_succ_cons, List.drop_zero]
  iterate 2
    refine wpX_step (fun K hK => ?_)
    go_simp
    refine StepY.det (by rw [HSP.out]; rfl) ?_ ?_
    · intro wz hz hF
      rw [HS.out] at hz
      have hf := hz.cells
      simp only [BC, CC, Nat.zero_add, Nat.reduceAdd, and_true] at hf
      clear hz hF
      go_simp
      first
      | exact ⟨rfl, Ext.refl _⟩
      | (refine (HEM.out _).mono ?_
         rintro e w5 ⟨rfl, hE5⟩
         exact ⟨_, rfl, rfl, hE5⟩)
    refine hK _ _ ?_
    clear hK K
  refine wpX_nil ?_
  intro w4 hz4 hF
  clear hF
  rw [HS.out] at hz4
  have hO := hz4
  have hf := hO.cells
  simp only [BC, CC, Nat.zero_add, Nat.reduceAdd, and_true] at hf
  clear hz4 hS1 HSP
  go_wp2_with fail
  have hS2 : S w4.drew := by rw [HS.out]; exact hO.ext (Ext.refl w4).drew
  clear hO hf
  obtain ⟨sp2, hsp⟩ : ∃ sp : Nat → Sp, sp = ofList [det (.pointer (some ⟨g2, 0, none⟩)), det (.func (.func 109) #[] #[]), det (.pointer (some ⟨g3, 0, none⟩)), det (.float .f64 a), det (.float .f64 p), det (.pointer (some ⟨g2, 0, none⟩)), det (.func (.func 109) #[] #[]), det (.pointer (some ⟨g3, 1, none⟩)), det (.float .f64 b), det (.float .f64 q), det (.agg #[.float .f64 p, .float .f64 q]), det (.agg #[.float .f64 r1, .float .f64 r2])] := ⟨_, rfl⟩
  have HSP2 := Lib.hid hsp
  clear hsp
  refine wp_region_loose 12 S sp2 (by kernel_rfl) (by kernel_rfl) hS2 HSE.out ?_
  simp only [List.take_succ_cons, List.take_zero, List.drop_succ_cons, List.drop_zero]
  iterate 12
    refine wpX_step (fun K hK => ?_)
    go_simp
    refine StepY.det (by rw [HSP2.out]; rfl) ?_ ?_
    · intro wz hz hF
      rw [HS.out] at hz
      have hf := hz.cells
      simp only [BC, CC, Nat.zero_add, Nat.reduceAdd, and_true] at hf
      clear hz hF
      go_simp
      first
      | exact ⟨rfl, Ext.refl _⟩
      | (refine (HR2.out _).mono ?_
         rintro e w5 ⟨rfl, hE5⟩
         exact ⟨_, rfl, rfl, hE5⟩)
    refine hK _ _ ?_
    clear hK K
  refine wpX_nil ?_
  intro w6 hz6 hF
  clear hF
  rw [HS.out] at hz6
  have hO := hz6
  have hf := hO.cells
  simp only [BC, CC, Nat.zero_add, Nat.reduceAdd, and_true] at hf
  clear hz6
  go_wp2_with ((with_reducible refine at_store (T := 61) ?_); refine own_store (T := 61) hO 0 rfl rfl rfl size_iv rfl rfl rfl ?_; clear hO; intro w7 hO; simp only [List.set_cons_zero, List.set_cons_succ, spl, List.take_succ_cons, List.take_zero, List.nil_append, List.cons_append, List.length_cons, List.length_nil, List.drop_succ_cons, List.drop_zero, List.drop_nil, Nat.reduceAdd, Nat.zero_add, List.append_nil] at hO; clear hf; have hf := hO.cells; simp only [BC, CC, Nat.zero_add, Nat.reduceAdd, and_true] at hf)
  exact own_ret hO 0 rfl rfl rfl agg_iv size_iv rfl ⟨rfl, hO.toExt⟩

theorem over4_any (x1 x2 : Nat) (w : World) (hx1 : x1 < 18446744073709551616) (hx2 : x2 < 18446744073709551616) :
    Calls Tryd.prog 104 #[.agg #[.func (.func 109) #[] #[]], .agg #[.float .f64 x1, .float .f64 x2]] w (RetF (piLo 4 x1 x2) (piHi 4 x1 x2) w) := by
  have HR := Lib.hid (fun w => iread_any x1 x2 w hx1 hx2)
  by_cases he : emp x1 x2
  · have e1 : piLo 4 x1 x2 = infR := if_pos he
    have e2 : piHi 4 x1 x2 = minf := if_pos he
    rw [e1, e2]
    rw [he.1, he.2] at HR
    exact over4_e x1 x2 infR minf w HR (eqF' (by decide) (by decide) (by decide) (by decide) rfl)
  · have e1 : piLo 4 x1 x2 = rdLo (stF 4 (rdLo x1 x2)) (stF 4 (rdHi x1 x2)) := if_neg he
    have e2 : piHi 4 x1 x2 = rdHi (stF 4 (rdLo x1 x2)) (stF 4 (rdHi x1 x2)) := if_neg he
    rw [e1, e2]
    obtain ⟨g1, g2, g3, g4, g5, g6, _, g8⟩ := rd_ends hx1 hx2 he
    have hq := eqF' (E := false) g1 g2 (show infR < 18446744073709551616 by decide) (show minf < 18446744073709551616 by decide) (by
      rw [eq_key g3 nan_inf, eq_key g4 nan_minf, key_inf, key_minf, Bool.and_eq_false_iff, decide_eq_false_iff_not, decide_eq_false_iff_not, key_eq_inf g1 g3]
      exact .inl g5)
    have s1 := stF_facts 4 g1 g3
    have s2 := stF_facts 4 g2 g4
    exact over4_f x1 x2 _ _ _ _ _ _ w HR hq (fun w => callEven g1 g3 w) (fun w => callEven g2 g4 w) (Lib.hid fun w => iread_any _ _ w s1.1 s2.1)

set_option maxHeartbeats 2000000 in
theorem pst4_any (x1 x2 : Nat) (w : World) (hx1 : x1 < 18446744073709551616) (hx2 : x2 < 18446744073709551616) :
    Calls Tryd.prog 53 #[.agg #[.float .f64 x1, .float .f64 x2]] w (RetF (piLo 4 x1 x2) (piHi 4 x1 x2) w) := by
  have HOV := Lib.hid (fun w => over4_any x1 x2 w hx1 hx2)
  obtain ⟨r1, hr1⟩ : ∃ r, r = piLo 4 x1 x2 := ⟨_, rfl⟩
  obtain ⟨r2, hr2⟩ : ∃ r, r = piHi 4 x1 x2 := ⟨_, rfl⟩
  rw [← hr1, ← hr2] at HOV ⊢
  clear hr1 hr2 hx1 hx2
  have hO := Own.start w
  have hf : True := trivial
  go_enter Tryd.func53, Tryd.ntmps53
  go_wp2_with (first | ((with_reducible refine at_box ?_); refine own_box (cs := [.float .f64 x1, .float .f64 x2]) hO rfl rfl ?_; clear hO; intro ga wa hO; clear hf; have hf := hO.cells; simp only [BC, CC, Nat.zero_add, Nat.reduceAdd, and_true] at hf) | ((with_reducible refine at_alloc ?_); refine own_alloc hO zero_iv rfl rfl ?_; clear hO; intro gb wb hO; clear hf; have hf := hO.cells; simp only [BC, CC, Nat.zero_add, Nat.reduceAdd, and_true] at hf))
  refine (HOV.out _).mono ?_
  rintro e w2 ⟨rfl, hE1⟩
  have hO := hO.ext hE1
  clear hE1
  clear hf
  have hf := hO.cells
  simp only [BC, CC, Nat.zero_add, Nat.reduceAdd, and_true] at hf
  go_wp2_with ((with_reducible refine at_store (T := 61) ?_); refine own_store (T := 61) hO 0 rfl rfl rfl size_iv rfl rfl rfl ?_; clear hO; intro w3 hO; simp only [List.set_cons_zero, List.set_cons_succ, spl, List.take_succ_cons, List.take_zero, List.nil_append, List.cons_append, List.length_cons, List.length_nil, List.drop_succ_cons, List.drop_zero, List.drop_nil, Nat.reduceAdd, Nat.zero_add, List.append_nil] at hO; clear hf; have hf := hO.cells; simp only [BC, CC, Nat.zero_add, Nat.reduceAdd, and_true] at hf)
  exact own_ret hO 0 rfl rfl rfl agg_iv size_iv rfl ⟨rfl, hO.toExt⟩

end Go.Proofs.YtadijoeeaineaaaDoor

/-
  Chapter 7's lives, and the walk through PowerKnown. Conditions: those that each theorem names.
-/
namespace Go.Proofs.YtadijoeeaineaaaDoor
open Go.RowKit Nm Rn
set_option maxRecDepth 100000
set_option linter.unusedVariables false
set_option linter.unusedSimpArgs false

theorem neqF {a b c d : Nat} (ha : a < 18446744073709551616) (hb : b < 18446744073709551616) (hc : c < 18446744073709551616) (hd : d < 18446744073709551616) (w : World) : (binOp .neq 61 (.agg #[.float .f64 a, .float .f64 b]) (.agg #[.float .f64 c, .float .f64 d])).run Tryd.prog w = .ok (.bool (!(eqB a c && eqB b d))) w := by
  rw [← fo_eq ha hc, ← fo_eq hb hd]
  cases h1 : (FloatKind.f64.format.order a c == some .eq) <;> cases h2 : (FloatKind.f64.format.order b d == some .eq) <;> go_simp <;> simp [h1, h2]
theorem neqF' {a b c d : Nat} (ha : a < 18446744073709551616) (hb : b < 18446744073709551616) (hc : c < 18446744073709551616) (hd : d < 18446744073709551616) {E : Bool} (h : (!(eqB a c && eqB b d)) = E) (w : World) : (binOp .neq 61 (.agg #[.float .f64 a, .float .f64 b]) (.agg #[.float .f64 c, .float .f64 d])).run Tryd.prog w = .ok (.bool E) w := by rw [neqF ha hb hc hd, h]
set_option maxHeartbeats 1000000 in
theorem of7_any (a b : Nat) (w : World) : Calls Tryd.prog 46 #[.float .f64 a, .float .f64 b] w (RetF a b w) := by
  have hO := Own.start w
  have hf : True := trivial
  go_enter Tryd.func46, Tryd.ntmps46
  go_wp2_with (first | ((with_reducible refine at_alloc ?_); refine own_alloc hO zero_iv rfl rfl ?_; clear hO; intro g w1 hO; clear hf; have hf := hO.cells; simp only [BC, CC, Nat.zero_add, Nat.reduceAdd, and_true] at hf) | ((with_reducible refine at_store (T := 61) ?_); refine own_store (T := 61) hO 0 rfl rfl rfl size_iv rfl rfl rfl ?_; clear hO; intro w2 hO; simp only [List.set_cons_zero, List.set_cons_succ, spl, List.take_succ_cons, List.take_zero, List.nil_append, List.cons_append, List.length_cons, List.length_nil, List.drop_succ_cons, List.drop_zero, List.drop_nil, Nat.reduceAdd, Nat.zero_add, List.append_nil] at hO; clear hf; have hf := hO.cells; simp only [BC, CC, Nat.zero_add, Nat.reduceAdd, and_true] at hf))
  exact own_ret hO 0 rfl rfl rfl agg_iv size_iv rfl ⟨rfl, hO.toExt⟩

theorem eF_0 (w : World) : (binOp .eql 61 (.agg #[.float .f64 13844065254536904704, .float .f64 4628293042053316608]) (.agg #[.float .f64 13844065254536904704, .float .f64 4628293042053316608])).run Tryd.prog w = .ok (.bool true) w := eqF' (by decide) (by decide) (by decide) (by decide) (by decide +kernel) w
theorem eF_1 (w : World) : (binOp .eql 61 (.agg #[.float .f64 0, .float .f64 4613937818241073152]) (.agg #[.float .f64 0, .float .f64 4613937818241073152])).run Tryd.prog w = .ok (.bool true) w := eqF' (by decide) (by decide) (by decide) (by decide) (by decide +kernel) w
theorem eF_2 (w : World) : (binOp .eql 61 (.agg #[.float .f64 0, .float .f64 4611686018427387904]) (.agg #[.float .f64 0, .float .f64 4611686018427387904])).run Tryd.prog w = .ok (.bool true) w := eqF' (by decide) (by decide) (by decide) (by decide) (by decide +kernel) w
theorem eF_3 (w : World) : (binOp .eql 61 (.agg #[.float .f64 4611686018427387904, .float .f64 4616189618054758400]) (.agg #[.float .f64 4611686018427387904, .float .f64 4616189618054758400])).run Tryd.prog w = .ok (.bool true) w := eqF' (by decide) (by decide) (by decide) (by decide) (by decide +kernel) w
theorem ab_0 (w : World) : Calls Tryd.prog 56 #[.agg #[.float .f64 13837309855095848960, .float .f64 4611686018427387904]] w (RetF 0 4613937818241073152 w) := by
  have := pabs_any 13837309855095848960 4611686018427387904 w (by decide) (by decide)
  rw [show abLo 13837309855095848960 4611686018427387904 = 0 by decide +kernel, show abHi 13837309855095848960 4611686018427387904 = 4613937818241073152 by decide +kernel] at this
  exact this
theorem sk_0 (w : World) : Calls Tryd.prog 53 #[.agg #[.float .f64 4602678819172646912, .float .f64 4612811918334230528]] w (RetF 0 4611686018427387904 w) := by
  have := pst4_any 4602678819172646912 4612811918334230528 w (by decide) (by decide)
  rw [show piLo 4 4602678819172646912 4612811918334230528 = 0 by decide +kernel, show piHi 4 4602678819172646912 4612811918334230528 = 4611686018427387904 by decide +kernel] at this
  exact this
theorem mx_0 (w : World) : Calls Tryd.prog 57 #[.agg #[.float .f64 4607182418800017408, .float .f64 4616189618054758400], .agg #[.float .f64 4611686018427387904, .float .f64 4613937818241073152]] w (RetF 4611686018427387904 4616189618054758400 w) := by
  have := pmax_any 4607182418800017408 4616189618054758400 4611686018427387904 4613937818241073152 w (by decide) (by decide) (by decide) (by decide)
  rw [show maxLo 4607182418800017408 4616189618054758400 4611686018427387904 4613937818241073152 = 4611686018427387904 by decide +kernel, show maxHi 4607182418800017408 4616189618054758400 4611686018427387904 4613937818241073152 = 4616189618054758400 by decide +kernel] at this
  exact this
set_option maxHeartbeats 4000000 in
theorem lives7_any (w : World) (hT : Tab w) : Calls Tryd.prog 44 #[] w fun e w' => e = .returned (.bool true) ∧ Ext w w' := by
  have HT := Lib.hid hT
  have hX := Ext.refl w
  clear hT
  have qeF_0 := eF_0
  have qeF_1 := eF_1
  have qeF_2 := eF_2
  have qeF_3 := eF_3
  go_enter Tryd.func44, Tryd.ntmps44
  go_wp2_with (first | (go_at_call 46; (with_reducible refine (of7_any _ _ _).mono ?_); rintro e w' ⟨rfl, hE'⟩; have hX := hX.trans hE'; clear hE') | (go_at_call 37; (with_reducible refine (pk_0 _ (HT.out.ext hX)).mono ?_); rintro e w' ⟨rfl, hE'⟩; have hX := hX.trans hE'; clear hE') | (go_at_call 56; (with_reducible refine (ab_0 _).mono ?_); rintro e w' ⟨rfl, hE'⟩; have hX := hX.trans hE'; clear hE') | (go_at_call 53; (with_reducible refine (sk_0 _).mono ?_); rintro e w' ⟨rfl, hE'⟩; have hX := hX.trans hE'; clear hE') | (go_at_call 57; (with_reducible refine (mx_0 _).mono ?_); rintro e w' ⟨rfl, hE'⟩; have hX := hX.trans hE'; clear hE'))
  go_ret
  exact ⟨rfl, hX⟩

end Go.Proofs.YtadijoeeaineaaaDoor
