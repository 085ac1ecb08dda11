/-
  Plain: / where an operand is no number, or the second one nought. Conditions: those that each theorem names.
-/
import Derived.Test.YtadijoeeaineaaaDoorZ32
import Derived.Test.YtadijoeeaineaaaDoorZ31
import Derived.Test.YtadijoeeaineaaaDoorZ21
set_option linter.unusedVariables false
set_option linter.unusedSimpArgs false
namespace Go.Proofs.YtadijoeeaineaaaDoor.Rn
open Nm

theorem pl_zero {y : Nat} (h : mg y = 0) (hy : y < 18446744073709551616) : pl y = 0 := by
  unfold pl
  unfold mg at h
  by_cases h0 : y = 9223372036854775808
  · rw [if_pos h0]
  · rw [if_neg h0]; omega
theorem pl_same {y : Nat} (h : mg y ≠ 0) : pl y = y := by
  unfold pl
  by_cases h0 : y = 9223372036854775808
  · exact absurd (by rw [h0]; rfl) h
  · rw [if_neg h0]
theorem mg_pl (y : Nat) (hy : y < 18446744073709551616) : mg (pl y) = mg y := by
  by_cases h : mg y = 0
  · rw [pl_zero h hy, h]; rfl
  · rw [pl_same h]
theorem write_zero (s : Bool) : Ieee.double.write (.number s 0 0) = if s then 9223372036854775808 else 0 := by cases s <;> rfl

/-- A quotient with an operand that is no number, or by nought. -/
theorem div_odd {x y : Nat} (hx : x < 18446744073709551616) (hy : y < 18446744073709551616) (h : (isNaN x || isInf x || (isNaN y || isInf y) || decide (mg y = 0)) = true) :
    (Ieee.double.div x (pl y) = none ∧ ∀ d, divR d x y = NaNc) ∨ ∃ s, Ieee.double.div x (pl y) = some s ∧ s < 18446744073709551616 ∧ isNaN s = false ∧ ∀ d, divR d x y = pl s := by
  have hinf : ∀ s, infP s < 18446744073709551616 ∧ isNaN (infP s) = false ∧ pl (infP s) = infP s := by intro s; cases s <;> exact ⟨by decide, rfl, rfl⟩
  have z : ∀ {b m : Nat} {e : Int}, m * 2 ^ (e + 1074).toNat = rv (mg b) → (m = 0 ↔ mg b = 0) := by
    intro b m e h
    constructor
    · intro hm; rw [hm, Nat.zero_mul] at h; exact rv_eq_zero.1 h.symm
    · intro hm; rw [hm, rv_zero] at h; rcases Nat.mul_eq_zero.1 h with h2 | h2; exact h2; have := two_pow_pos (e + 1074).toNat; omega
  have hIz : ¬ infR = 0 := by rw [infR_val]; omega
  unfold divR Ieee.Format.div
  rcases kind x with ⟨n1, i1, k1⟩ | ⟨n1, i1, k1⟩ | ⟨n1, i1, k1⟩
  · left
    rw [read_nan hx k1, n1]
    exact ⟨rfl, fun d => rfl⟩
  · have hx0 : mg x ≠ 0 := by rw [k1]; exact hIz
    rcases kind y with ⟨n2, i2, k2⟩ | ⟨n2, i2, k2⟩ | ⟨n2, i2, k2⟩
    · left
      have hy0 : mg y ≠ 0 := by omega
      rw [pl_same hy0, read_nan hy k2, read_inf hx k1, n2, n1]
      exact ⟨rfl, fun d => rfl⟩
    · left
      have hy0 : mg y ≠ 0 := by rw [k2]; exact hIz
      rw [pl_same hy0, read_inf hy k2, read_inf hx k1, n1, n2, i1, i2]
      exact ⟨rfl, fun d => rfl⟩
    · right
      rw [n1, n2, i1, i2, decide_eq_false hx0]
      simp only [Bool.false_or, Bool.and_false, Bool.false_and, Bool.or_false, Bool.false_eq_true, if_false, if_true]
      by_cases h0 : mg y = 0
      · rw [pl_zero h0 hy, read_inf hx k1]
        obtain ⟨m, e, hr, -, hv⟩ := read_fin (b := 0) (by omega) (by rw [show mg 0 = 0 from rfl, infR_val]; omega)
        rw [hr]
        refine ⟨infP (sg x), ?_, (hinf _).1, (hinf _).2.1, fun d => ?_⟩
        · show some (Ieee.double.write (.infinity (sg x ^^ sg 0))) = _
          rw [show sg 0 = false from rfl, Bool.xor_false, write_inf]
        · rw [if_pos h0, decide_eq_true hx0, Bool.and_true, (hinf _).2.2]
      · rw [pl_same h0, read_inf hx k1]
        obtain ⟨m, e, hr, -, hv⟩ := read_fin hy k2
        rw [hr]
        refine ⟨infP (sg x ^^ sg y), ?_, (hinf _).1, (hinf _).2.1, fun d => ?_⟩
        · show some (Ieee.double.write (.infinity (sg x ^^ sg y))) = _
          rw [write_inf]
        · rw [if_neg h0, (hinf _).2.2]
  · rcases kind y with ⟨n2, i2, k2⟩ | ⟨n2, i2, k2⟩ | ⟨n2, i2, k2⟩
    · left
      have hy0 : mg y ≠ 0 := by omega
      obtain ⟨m, e, hr, -, hv⟩ := read_fin hx k1
      rw [pl_same hy0, read_nan hy k2, hr, n2, n1]
      exact ⟨rfl, fun d => rfl⟩
    · right
      have hy0 : mg y ≠ 0 := by rw [k2]; exact hIz
      obtain ⟨m, e, hr, -, hv⟩ := read_fin hx k1
      rw [pl_same hy0, read_inf hy k2, hr, n2, n1, i1, i2, decide_eq_false hy0]
      simp only [Bool.false_or, Bool.and_false, Bool.false_and, Bool.or_false, Bool.false_eq_true, if_false, if_true]
      refine ⟨if (sg x ^^ sg y) then 9223372036854775808 else 0, ?_, ?_, ?_, fun d => ?_⟩
      · show some (Ieee.double.write (.number (sg x ^^ sg y) 0 0)) = _
        rw [write_zero]
      · cases (sg x ^^ sg y) <;> decide
      · cases (sg x ^^ sg y) <;> rfl
      · rw [if_neg hy0]
        cases (sg x ^^ sg y) <;> rfl
    · rw [n1, n2, i1, i2] at h
      have h0 : mg y = 0 := by simpa using h
      obtain ⟨m, e, hr, -, hv⟩ := read_fin hx k1
      rw [pl_zero h0 hy, hr, n1, n2, i1, i2, h0]
      have hz : Ieee.double.read 0 = .number false 0 (-1074) := by
        obtain ⟨m', e', hr', he', hv'⟩ := read_fin (b := 0) (by omega) (by rw [show mg 0 = 0 from rfl, infR_val]; omega)
        rfl
      rw [hz]
      simp only [Bool.false_or, Bool.and_false, Bool.false_and, Bool.or_false, Bool.false_eq_true, if_false, if_true, decide_true, Bool.and_true]
      by_cases hx0 : mg x = 0
      · left
        have hm := (z hv).2 hx0
        subst hm
        refine ⟨rfl, fun d => ?_⟩
        rw [if_pos (by simpa using hx0)]
      · right
        have hm : m ≠ 0 := fun h => hx0 ((z hv).1 h)
        refine ⟨infP (sg x), ?_, (hinf _).1, (hinf _).2.1, fun d => ?_⟩
        · show Option.map _ (if m = 0 then none else some (Ieee.Datum.infinity (sg x ^^ false))) = _
          rw [if_neg hm, Bool.xor_false]
          show some (Ieee.double.write _) = _
          rw [write_inf]
        · rw [if_neg (by simpa using hx0), decide_eq_true hx0, Bool.and_true, (hinf _).2.2]
end Go.Proofs.YtadijoeeaineaaaDoor.Rn

/-
  The contract of the program's Div. Conditions: those that each theorem names.
-/
namespace Go.Proofs.YtadijoeeaineaaaDoor
open Go.RowKit Nm Rn
set_option maxRecDepth 100000
set_option linter.unusedVariables false
set_option linter.unusedSimpArgs false

theorem odd_pl {y : Nat} (hy : y < 18446744073709551616) : oddF (pl y) = oddF y := by
  unfold oddF isNaN isInf
  rw [mg_pl y hy]
theorem pl_lt_ {y : Nat} (hy : y < 18446744073709551616) : pl y < 18446744073709551616 := pl_lt hy
theorem all_four {b1 b2 b3 b4 : Bool} (h : ¬ (b1 = true ∧ b2 = true ∧ b3 = true ∧ b4 = true)) : b1 = false ∨ (b1 = true ∧ b2 = false) ∨ (b1 = true ∧ b2 = true ∧ b3 = false) ∨ (b1 = true ∧ b2 = true ∧ b3 = true ∧ b4 = false) := by
  cases b1 <;> cases b2 <;> cases b3 <;> cases b4 <;> simp_all
theorem same_parts {x y : Nat} (hy : mg y ≠ 0) : Same75 (fbSig x) (fbSig y) (fbExp x - fbExp y) (rv (mg x) * K75) (rv (mg y)) := by
  have hDy : 0 < fbSig y := by
    rcases Nat.eq_zero_or_pos (fbSig y) with h | h
    · exact absurd ((fbSig_zero y).1 h) hy
    · exact h
  have hry : 0 < rv (mg y) := by
    rcases Nat.eq_zero_or_pos (rv (mg y)) with h | h
    · exact absurd (rv_eq_zero.1 h) hy
    · exact h
  have hx1 := fbExp_lo x
  have hy1 := fbExp_lo y
  obtain ⟨c, hc⟩ : ∃ c, c = 1075 := ⟨_, rfl⟩
  obtain ⟨a, ha⟩ : ∃ a, a = (fbExp x + 1074).toNat := ⟨_, rfl⟩
  obtain ⟨b, hb⟩ : ∃ b, b = (fbExp y + 1074).toNat := ⟨_, rfl⟩
  have hK : K75 = 2 ^ c := by rw [hc]; exact K75_def
  refine ⟨a + c, b, by omega, hry, hDy, ?_⟩
  rw [fb_rv x, fb_rv y, ← ha, ← hb, hK, Nat.pow_add]
  simp only [Nat.mul_assoc, Nat.mul_comm, Nat.mul_left_comm]
/-- A product with a quotient is some number, or an infinity. -/
theorem back_mul {s y : Nat} (hs : s < 18446744073709551616) (hsi : mg s ≤ infR) (hy : y < 18446744073709551616) (fy : mg y < infR) (hy0 : mg y ≠ 0) : ∃ p, Ieee.double.mul s y = some p ∧ p < 18446744073709551616 ∧ mg p ≤ infR := by
  by_cases hf : mg s < infR
  · refine ⟨_, mul_fin hs hy hf fy, word_lt (near_lt' _), ?_⟩
    rw [mg_word (near_lt' _)]
    exact near_le _
  · have hse : mg s = infR := by omega
    have hn1 : isNaN s = false := by unfold isNaN; exact decide_eq_false (by omega)
    have hi1 : isInf s = true := by unfold isInf; exact decide_eq_true hse
    have hn2 : isNaN y = false := by unfold isNaN; exact decide_eq_false (by omega)
    have hi2 : isInf y = false := by unfold isInf; exact decide_eq_false (by omega)
    rcases mul_odd hs hy (by rw [hn1, hi1]; rfl) with ⟨_, h2⟩ | ⟨t, h1, _⟩
    · exfalso
      have := h2 0
      unfold mulR at this
      rw [hn1, hn2, hi1, hi2, if_neg (by simp), if_pos (by simp), if_neg (by rw [hse, infR_val]; omega)] at this
      revert this
      cases (sg s != sg y) <;> decide
    · refine ⟨_, h1, infP_lt t, ?_⟩
      cases t
      · show mg infR ≤ infR; rw [infR_val]; decide
      · show mg minf ≤ infR; rw [infR_val, minf_val]; decide

set_option maxHeartbeats 4000000 in
theorem rdiv_odd (d : Int) (x y : Nat) (w : World) (hx : x < 18446744073709551616) (hy : y < 18446744073709551616) (ho : (oddF x || oddF y || decide (mg y = 0)) = true) :
    Calls Tryd.prog 16 #[.int .i64 d, .float .f64 x, .float .f64 y] w (RetFl (divR d x y) w) := by
  have hm := div_odd hx hy ho
  have hyl := pl_lt hy
  have HPY := Lib.hid (fun w => rplain_any y w hy)
  have hop := odd_pl hy
  have hoz : (oddF x || oddF (pl y)) = true ∨ ((oddF x || oddF (pl y)) = false ∧ pl y = 0) := by
    rw [hop]
    cases h1 : (oddF x || oddF y)
    · rw [h1, Bool.false_or] at ho
      exact .inr ⟨rfl, pl_zero (of_decide_eq_true ho) hy⟩
    · exact .inl rfl
  obtain ⟨y', hy'⟩ : ∃ y', y' = pl y := ⟨_, rfl⟩
  rw [← hy'] at hm hyl HPY hoz
  have hE0 : Ext w (w.alloc (.cells #[.float .f64 x, .float .f64 y'] 24)) := (Ext.refl w).alloc _
  have hc0 : (w.alloc (.cells #[.float .f64 x, .float .f64 y'] 24)).cell? ⟨w.heap.size, 0, none⟩ = some (.float .f64 x) := by simp
  have hc1 : (w.alloc (.cells #[.float .f64 x, .float .f64 y'] 24)).cell? ⟨w.heap.size, 1, none⟩ = some (.float .f64 y') := by simp
  have HO := Lib.hid (fun g w c0 c1 => odd_two g x y' w c0 c1 hx hyl)
  have q0 := fo_eq hyl (show 0 < 18446744073709551616 by omega)
  obtain ⟨oo, hoo⟩ : ∃ oo, oo = (oddF x || oddF y') := ⟨_, rfl⟩
  rw [← hoo] at HO hoz
  have hzz : oo = true ∨ (oo = false ∧ (FloatKind.f64.format.order y' 0 == some .eq) = true) := by
    rcases hoz with h | ⟨h, h2⟩
    · exact .inl h
    · refine .inr ⟨h, ?_⟩
      rw [h2]; rfl
  obtain ⟨V, hV⟩ : ∃ V, V = divR d x y := ⟨_, rfl⟩
  rw [← hV]
  rcases hm with ⟨hm, hr⟩ | ⟨s, hm, hs, hsn, hr⟩
  · rw [hr] at hV
    have HV := Lib.hid hV
    have hrun := fun w => run_nan (op := .quo) (x := x) (y := y') hm (by simp) w
    have HP := Lib.hid (fun v w => rplain_any (nanOf v x y') w (nanOf_lt v x y'))
    clear ho hm hr hV hx hy hy' hoo hoz hyl hop q0
    rcases hzz with rfl | ⟨rfl, hq⟩
    all_goals
      go_enter Tryd.func16, Tryd.ntmps16
      go_wp2
      go_step3
      go_wp2_with (go_at_call 82; refine (HPY.out _).mono ?_; rintro e w' ⟨rfl, rfl⟩)
      generalize w.heap.size = g0 at hc0 hc1 ⊢
      generalize w.alloc _ = w1 at hE0 hc0 hc1 ⊢
      go_wp2_with (first | (go_at_call 74; refine (HO.out _ _ hc0 hc1).mono ?_; rintro e w' ⟨rfl, rfl⟩) | (go_at_call 82; refine (HP.out _ _).mono ?_; rintro e w' ⟨rfl, rfl⟩))
      rw [Exit.noGoto_ret]
      go_ret
      exact ⟨_, rfl, by rw [pl_nan (nanOf_nan _ x y')]; exact nanOf_lt _ x y', by rw [pl_nan (nanOf_nan _ x y'), cn_nan (nanOf_nan _ x y')]; exact HV.out.symm, hE0.drew⟩
  · rw [hr] at hV
    have HV := Lib.hid hV
    have hrun := fun w => fquo hm w
    have HP := Lib.hid (fun w => rplain_any s w hs)
    have hpn : isNaN (pl s) = false := by unfold isNaN; rw [mg_pl s hs]; exact hsn
    have HS := Lib.hid (And.intro (pl_lt hs) (cn_num hpn))
    clear ho hm hr hV hx hy hy' hoo hoz hyl hop q0 hs hsn hpn
    rcases hzz with rfl | ⟨rfl, hq⟩
    all_goals
      go_enter Tryd.func16, Tryd.ntmps16
      go_wp2
      go_step3
      go_wp2_with (go_at_call 82; refine (HPY.out _).mono ?_; rintro e w' ⟨rfl, rfl⟩)
      generalize w.heap.size = g0 at hc0 hc1 ⊢
      generalize w.alloc _ = w1 at hE0 hc0 hc1 ⊢
      go_wp2_with (first | (go_at_call 74; refine (HO.out _ _ hc0 hc1).mono ?_; rintro e w' ⟨rfl, rfl⟩) | (go_at_call 82; refine (HP.out _).mono ?_; rintro e w' ⟨rfl, rfl⟩))
      rw [Exit.noGoto_ret]
      go_ret
      exact ⟨_, rfl, HS.out.1, by rw [HS.out.2]; exact HV.out.symm, hE0⟩
set_option maxHeartbeats 8000000 in
theorem rdiv_fin (d : Int) (x y : Nat) (w : World) (hx : x < 18446744073709551616) (hy : y < 18446744073709551616) (ho : (oddF x || oddF y) = false) (hy0 : mg y ≠ 0) :
    Calls Tryd.prog 16 #[.int .i64 d, .float .f64 x, .float .f64 y] w fun e w' => e = .returned (.float .f64 (rnd d (sg x != sg y) (zq (rv (mg x) * K75) (rv (mg y))))) ∧ Ext w w' := by
  have HPL := Lib.hid (fun w => rplain_any y w hy)
  rw [pl_same hy0] at HPL
  have hE0 : Ext w (w.alloc (.cells #[.float .f64 x, .float .f64 y] 24)) := (Ext.refl w).alloc _
  have hc0 : (w.alloc (.cells #[.float .f64 x, .float .f64 y] 24)).cell? ⟨w.heap.size, 0, none⟩ = some (.float .f64 x) := by simp
  have hc1 : (w.alloc (.cells #[.float .f64 x, .float .f64 y] 24)).cell? ⟨w.heap.size, 1, none⟩ = some (.float .f64 y) := by simp
  have HO := Lib.hid (fun g w c0 c1 => odd_two g x y w c0 c1 hx hy)
  rw [ho] at HO
  rw [Bool.or_eq_false_iff] at ho
  have fx := oddF_fin ho.1
  have fy := oddF_fin ho.2
  have hm := div_fin hx hy fx fy hy0
  have hnl := near_lt' (zq (rv (mg x) * K75) (rv (mg y)))
  obtain ⟨s, hs⟩ : ∃ s, s = Ieee.double.word (sg x ^^ sg y) (near (zq (rv (mg x) * K75) (rv (mg y)))) := ⟨_, rfl⟩
  rw [← hs] at hm
  have hsl : s < 18446744073709551616 := by rw [hs]; exact word_lt hnl
  have hsi : mg s ≤ infR := by rw [hs, mg_word hnl]; exact near_le _
  obtain ⟨p, hp, hpl, hpi⟩ := back_mul hsl hsi hy fy hy0
  have hrun := fun w => fquo hm w
  have hrun2 := fun w => fmul hp w
  have q1 := fo_lt hy (show 0 < 18446744073709551616 by omega)
  have q0 := fo_eq hy (show 0 < 18446744073709551616 by omega)
  have hFy := Fl.of hy fy
  rw [hFy.ltB Fl.zero] at q1
  have hsv0 : sv y ≠ 0 := fun h => hy0 (rv_eq_zero.1 (by have := sv_abs y; rw [h] at this; simpa using this.symm))
  rw [hFy.eqB Fl.zero, decide_eq_false hsv0] at q0
  have HMX := Lib.hid (fun w => middle_any x w hx (by omega))
  have HMY := Lib.hid (fun w => middle_any y w hy (by omega))
  have HMS := Lib.hid (fun w => middle_any s w hsl hsi)
  have HMP := Lib.hid (fun w => middle_any p w hpl hpi)
  obtain ⟨Z, hZ⟩ : ∃ Z, Z = zq (rv (mg x) * K75) (rv (mg y)) := ⟨_, rfl⟩
  obtain ⟨V, hV⟩ : ∃ V, V = rnd d (sg x != sg y) Z := ⟨_, rfl⟩
  rw [← hZ, ← hV]
  obtain ⟨b1, hb1⟩ : ∃ b, b = midB x := ⟨_, rfl⟩
  obtain ⟨b2, hb2⟩ : ∃ b, b = midB y := ⟨_, rfl⟩
  obtain ⟨b3, hb3⟩ : ∃ b, b = midB s := ⟨_, rfl⟩
  obtain ⟨b4, hb4⟩ : ∃ b, b = midB p := ⟨_, rfl⟩
  rw [← hb1] at HMX
  rw [← hb2] at HMY
  rw [← hb3] at HMS
  rw [← hb4] at HMP
  by_cases hb : b1 = true ∧ b2 = true ∧ b3 = true ∧ b4 = true
  · obtain ⟨rfl, rfl, rfl, rfl⟩ := hb
    obtain ⟨mx, -⟩ := mid_of hb1.symm
    obtain ⟨my, -⟩ := mid_of hb2.symm
    obtain ⟨ms, fs⟩ := mid_of hb3.symm
    obtain ⟨mp, fp⟩ := mid_of hb4.symm
    obtain ⟨m, a, b, M, E, om, ha, hb, fM, fE, hres⟩ := div_quick (Fl.of hx fx) hFy mx my hm fs ms hp fp mp
    have hrun3 := fun w => fsub ha w
    have hrun4 := fun w => fsub hb w
    have HMI := Lib.hid (fun w => missed_any s y p m w om)
    have hk := hres d
    rw [← hZ, show (sg x ^^ sg y) = (sg x != sg y) by cases sg x <;> cases sg y <;> rfl, ← hV] at hk
    by_cases hneg : sv y < 0
    · rw [if_pos hneg] at hk
      rw [decide_eq_true hneg] at q1
      have fN := fE.neg
      have hng := fun w => run_ng fE.lt w
      have HNU := Lib.hid (fun w => nudge_any d s (ng b) (-E) w hsl fs fN.lt (by rw [fN.ltB Fl.zero]) (by rw [Fl.zero.ltB fN]))
      rw [← hk] at HNU
      clear hk hres fN fE fM om ha hb mx my ms fs mp fp hb1 hb2 hb3 hb4 hV hZ hsv0 hFy hpi hpl hp hsi hsl hs hnl hm fx fy ho hx hy hy0 hneg
      go_enter Tryd.func16, Tryd.ntmps16
      go_wp2
      go_step3
      go_wp2_with (go_at_call 82; refine (HPL.out _).mono ?_; rintro e w' ⟨rfl, rfl⟩)
      generalize w.heap.size = g0 at hc0 hc1 ⊢
      generalize w.alloc _ = w1 at hE0 hc0 hc1 ⊢
      go_wp2_with (first | (go_at_call 74; refine (HO.out _ _ hc0 hc1).mono ?_; rintro e w' ⟨rfl, rfl⟩) | (go_at_call 75; ((with_reducible refine (HMX.out _).mono ?_); rintro e w' ⟨rfl, rfl⟩)) | (go_at_call 75; ((with_reducible refine (HMY.out _).mono ?_); rintro e w' ⟨rfl, rfl⟩)) | (go_at_call 75; ((with_reducible refine (HMS.out _).mono ?_); rintro e w' ⟨rfl, rfl⟩)) | (go_at_call 75; ((with_reducible refine (HMP.out _).mono ?_); rintro e w' ⟨rfl, rfl⟩)) | (go_at_call 77; refine (HMI.out _).mono ?_; rintro e w' ⟨rfl, rfl⟩) | (go_at_call 78; refine (HNU.out _).mono ?_; rintro e w' ⟨rfl, rfl⟩))
      rw [Exit.noGoto_ret]
      go_ret
      exact ⟨rfl, hE0⟩
    · rw [if_neg hneg] at hk
      rw [decide_eq_false hneg] at q1
      have HNU := Lib.hid (fun w => nudge_any d s b E w hsl fs fE.lt (by rw [fE.ltB Fl.zero]) (by rw [Fl.zero.ltB fE]))
      rw [← hk] at HNU
      clear hk hres fE fM om ha hb mx my ms fs mp fp hb1 hb2 hb3 hb4 hV hZ hsv0 hFy hpi hpl hp hsi hsl hs hnl hm fx fy ho hx hy hy0 hneg
      go_enter Tryd.func16, Tryd.ntmps16
      go_wp2
      go_step3
      go_wp2_with (go_at_call 82; refine (HPL.out _).mono ?_; rintro e w' ⟨rfl, rfl⟩)
      generalize w.heap.size = g0 at hc0 hc1 ⊢
      generalize w.alloc _ = w1 at hE0 hc0 hc1 ⊢
      go_wp2_with (first | (go_at_call 74; refine (HO.out _ _ hc0 hc1).mono ?_; rintro e w' ⟨rfl, rfl⟩) | (go_at_call 75; ((with_reducible refine (HMX.out _).mono ?_); rintro e w' ⟨rfl, rfl⟩)) | (go_at_call 75; ((with_reducible refine (HMY.out _).mono ?_); rintro e w' ⟨rfl, rfl⟩)) | (go_at_call 75; ((with_reducible refine (HMS.out _).mono ?_); rintro e w' ⟨rfl, rfl⟩)) | (go_at_call 75; ((with_reducible refine (HMP.out _).mono ?_); rintro e w' ⟨rfl, rfl⟩)) | (go_at_call 77; refine (HMI.out _).mono ?_; rintro e w' ⟨rfl, rfl⟩) | (go_at_call 78; refine (HNU.out _).mono ?_; rintro e w' ⟨rfl, rfl⟩))
      rw [Exit.noGoto_ret]
      go_ret
      exact ⟨rfl, hE0⟩
  · have hcase := all_four hb
    have HPX := Lib.hid (fun w => part_any x w hx)
    have HPY := Lib.hid (fun w => part_any y w hy)
    have hbx : bl (fbSig x) ≤ 53 := by rw [bl_le_iff]; exact fbSig_lt x
    have hby : bl (fbSig y) ≤ 53 := by rw [bl_le_iff]; exact fbSig_lt y
    have HQ := Lib.hid (fun (A : Option Addr) (n c : Nat) (B : Option Addr) (m e : Nat) (w : World) (h : Wds w A n c (nd (fbSig x))) (k : Wds w B m e (nd (fbSig y))) => quotient_any d (sg x) (sg y) A n c (nd (fbSig x)) (fbExp x) B m e (nd (fbSig y)) (fbExp y) (rv (mg x) * K75) (rv (mg y)) w h (by have := h.len; rw [nd_length] at this; have := fbSig_nw x; omega) k (by have := k.len; rw [nd_length] at this; have := fbSig_nw y; omega) (by rw [nv_nd, nv_nd]; exact same_parts hy0) (by rw [nv_nd, nv_nd]; omega) (by rw [nv_nd]; omega) (by have := fbExp_lo x; omega) (by have := fbExp_hi x; omega) (by have := fbExp_lo y; omega) (by have := fbExp_hi y; omega))
    rw [← hZ, ← hV] at HQ
    clear hb hb1 hb2 hb3 hb4 hV hZ hsv0 hFy hpi hpl hp hsi hsl hs hnl hm fx fy ho hx hy hy0 hbx hby
    rcases hcase with rfl | ⟨rfl, rfl⟩ | ⟨rfl, rfl, rfl⟩ | ⟨rfl, rfl, rfl, rfl⟩
    all_goals
      go_enter Tryd.func16, Tryd.ntmps16
      go_wp2
      apply wp_scope_to (l := 0) (hf := by rfl)
      · go_wp2_with (first | (go_at_call 82; refine (HPL.out _).mono ?_; rintro e w' ⟨rfl, rfl⟩) | (go_at_call 74; refine (HO.out _ _ hc0 hc1).mono ?_; rintro e w' ⟨rfl, rfl⟩) | (go_at_call 75; ((with_reducible refine (HMX.out _).mono ?_); rintro e w' ⟨rfl, rfl⟩)) | (go_at_call 75; ((with_reducible refine (HMY.out _).mono ?_); rintro e w' ⟨rfl, rfl⟩)) | (go_at_call 75; ((with_reducible refine (HMS.out _).mono ?_); rintro e w' ⟨rfl, rfl⟩)) | (go_at_call 75; ((with_reducible refine (HMP.out _).mono ?_); rintro e w' ⟨rfl, rfl⟩)))
        go_step3
        exact ⟨rfl, rfl, rfl⟩
      · go_wp2_with fail
        refine (HPX.out _).mono ?_
        rintro e w2 ⟨A1, n1, c1, rfl, hR1, hE1⟩
        go_wp2_with fail
        refine (HPY.out _).mono ?_
        rintro e w3 ⟨A2, n2, c2, rfl, hR2, hE2⟩
        go_wp2_with fail
        refine (HQ.out _ _ _ _ _ _ _ (hR1.ext hE2) hR2).mono ?_
        rintro e w4 ⟨rfl, hE3⟩
        go_wp2
        rw [jump_ret]
        go_ret
        exact ⟨rfl, ((hE0.trans hE1).trans hE2).trans hE3⟩

theorem rdiv_any (d : Int) (x y : Nat) (w : World) (hx : x < 18446744073709551616) (hy : y < 18446744073709551616) :
    Calls Tryd.prog 16 #[.int .i64 d, .float .f64 x, .float .f64 y] w (RetFl (divR d x y) w) := by
  cases ho : (oddF x || oddF y || decide (mg y = 0))
  · rw [Bool.or_eq_false_iff] at ho
    have hy0 : mg y ≠ 0 := of_decide_eq_false ho.2
    refine (rdiv_fin d x y w hx hy ho.1 hy0).mono ?_
    rintro e w' ⟨rfl, hE⟩
    have e1 : divR d x y = rnd d (sg x != sg y) (zq (rv (mg x) * K75) (rv (mg y))) := by
      have ho := ho.1
      unfold oddF at ho
      rw [Bool.or_eq_false_iff, Bool.or_eq_false_iff, Bool.or_eq_false_iff] at ho
      unfold divR
      rw [ho.1.1, ho.1.2, ho.2.1, ho.2.2, decide_eq_false hy0, if_neg hy0]
      simp only [Bool.or_false, Bool.and_false, Bool.false_or, Bool.false_eq_true, if_false]
    rw [e1]
    exact ⟨_, rfl, (rnd_ok _ _ _).1, cn_num (rnd_ok _ _ _).2, hE⟩
  · exact rdiv_odd d x y w hx hy ho
end Go.Proofs.YtadijoeeaineaaaDoor

/-
  Plain: the n-th root of a ratio, cut behind some binary digits, with a mark for what was cut off: it rounds alike behind any number of digits that is great enough. Conditions: those that each theorem names.
-/
set_option linter.unusedVariables false
set_option linter.unusedSimpArgs false
namespace Go.Proofs.YtadijoeeaineaaaDoor.Rn
open Nm

/-- r is the n-th root of N / D times 2^k, cut; o tells whether something was cut off. -/
def RootAt (N D n : Nat) (k : Int) (r : Nat) (o : Bool) : Prop :=
  ∃ A B : Nat, (A : Int) - B = n * k ∧ r ^ n * (D * 2 ^ B) ≤ N * 2 ^ A ∧ N * 2 ^ A < (r + 1) ^ n * (D * 2 ^ B) ∧ o = decide (r ^ n * (D * 2 ^ B) ≠ N * 2 ^ A)

theorem RootAt.any {N D n : Nat} {k : Int} {r : Nat} {o : Bool} (h : RootAt N D n k r o) {A B : Nat} (hAB : (A : Int) - B = n * k) :
    r ^ n * (D * 2 ^ B) ≤ N * 2 ^ A ∧ N * 2 ^ A < (r + 1) ^ n * (D * 2 ^ B) ∧ o = decide (r ^ n * (D * 2 ^ B) ≠ N * 2 ^ A) := by
  obtain ⟨A', B', hAB', h1, h2, h3⟩ := h
  have hc : A + B' = A' + B := by omega
  have e1 : ∀ R : Nat, R * (D * 2 ^ B) * 2 ^ B' = R * (D * 2 ^ B') * 2 ^ B := fun R => by simp only [Nat.mul_assoc, Nat.mul_comm, Nat.mul_left_comm]
  have e2 : N * 2 ^ A * 2 ^ B' = N * 2 ^ A' * 2 ^ B := by rw [Nat.mul_assoc, Nat.mul_assoc, ← Nat.pow_add, ← Nat.pow_add, hc]
  have hB := two_pow_pos B
  have hB' := two_pow_pos B'
  refine ⟨?_, ?_, ?_⟩
  · refine Nat.le_of_mul_le_mul_right (c := 2 ^ B') ?_ hB'
    rw [e1, e2]
    exact Nat.mul_le_mul_right _ h1
  · refine Nat.lt_of_mul_lt_mul_right (a := 2 ^ B') ?_
    rw [e1, e2]
    exact Nat.mul_lt_mul_of_pos_right h2 hB
  · rw [h3]
    refine decide_eq_decide.2 (not_congr ?_)
    constructor
    · intro h
      refine Nat.eq_of_mul_eq_mul_right hB' ?_
      rw [e1, e2, h]
    · intro h
      refine Nat.eq_of_mul_eq_mul_right hB ?_
      rw [← e1, ← e2, h]

/-- The same ratio. -/
theorem RootAt.congr {N D N' D' n : Nat} {k : Int} {r : Nat} {o : Bool} (hD : 0 < D) (hD' : 0 < D') (he : N * D' = N' * D) (h : RootAt N D n k r o) : RootAt N' D' n k r o := by
  obtain ⟨A, B, hAB, h1, h2, h3⟩ := h
  have e1 : ∀ R : Nat, R * (D * 2 ^ B) * D' = R * (D' * 2 ^ B) * D := fun R => by simp only [Nat.mul_assoc, Nat.mul_comm, Nat.mul_left_comm]
  have e2 : N * 2 ^ A * D' = N' * 2 ^ A * D := by rw [Nat.mul_right_comm, he, Nat.mul_right_comm]
  refine ⟨A, B, hAB, ?_, ?_, ?_⟩
  · refine Nat.le_of_mul_le_mul_right (c := D) ?_ hD
    rw [← e1, ← e2]
    exact Nat.mul_le_mul_right _ h1
  · refine Nat.lt_of_mul_lt_mul_right (a := D) ?_
    rw [← e1, ← e2]
    exact Nat.mul_lt_mul_of_pos_right h2 hD'
  · rw [h3]
    refine decide_eq_decide.2 (not_congr ?_)
    constructor
    · intro h
      refine Nat.eq_of_mul_eq_mul_right hD ?_
      rw [← e1, ← e2, h]
    · intro h
      refine Nat.eq_of_mul_eq_mul_right hD' ?_
      rw [e1, e2, h]

theorem pow_lt_pow_ {a b n : Nat} (hn : n ≠ 0) (h : a < b) : a ^ n < b ^ n := Nat.pow_lt_pow_left h hn
theorem pow_le_pow_ {a b : Nat} (n : Nat) (h : a ≤ b) : a ^ n ≤ b ^ n := Nat.pow_le_pow_left h n

/-- Fewer digits. -/
theorem RootAt.less {N D n : Nat} {k : Int} {r1 r2 j : Nat} {o1 o2 : Bool} (hn : n ≠ 0) (hD : 0 < D) (h1 : RootAt N D n k r1 o1) (h2 : RootAt N D n (k + j) r2 o2) : r1 = r2 / 2 ^ j ∧ o1 = decide ((2 * r2 + o2.toNat) % 2 ^ (j + 1) ≠ 0) := by
  obtain ⟨A, B, hAB, a1, a2, a3⟩ := h1
  have hAB2 : ((A + n * j : Nat) : Int) - B = n * (k + j) := by rw [Int.mul_add]; push_cast; omega
  obtain ⟨b1, b2, b3⟩ := h2.any hAB2
  have hj := two_pow_pos j
  have hpn : 2 ^ (n * j) = (2 ^ j) ^ n := by rw [Nat.mul_comm, Nat.pow_mul]
  obtain ⟨E, hE⟩ : ∃ E, E = D * 2 ^ B := ⟨_, rfl⟩
  have hE0 : 0 < E := by rw [hE]; exact Nat.mul_pos hD (two_pow_pos B)
  obtain ⟨W, hW⟩ : ∃ W, W = N * 2 ^ A := ⟨_, rfl⟩
  obtain ⟨J, hJ⟩ : ∃ J, J = 2 ^ j := ⟨_, rfl⟩
  have hW2 : N * 2 ^ (A + n * j) = W * J ^ n := by rw [Nat.pow_add, ← Nat.mul_assoc, hW, hpn, hJ]
  rw [hW2, ← hE] at b1 b2 b3
  rw [← hE, ← hW] at a1 a2 a3
  rw [← hJ] at hj ⊢
  have hJn : 0 < J ^ n := Nat.pow_pos hj
  have c1 : r1 * J ≤ r2 := by
    rcases Nat.lt_or_ge r2 (r1 * J) with h | h
    · exfalso
      have := pow_le_pow_ n (show r2 + 1 ≤ r1 * J from h)
      rw [Nat.mul_pow] at this
      have h2 : (r2 + 1) ^ n * E ≤ r1 ^ n * J ^ n * E := Nat.mul_le_mul_right _ this
      have h3 : r1 ^ n * J ^ n * E = r1 ^ n * E * J ^ n := Nat.mul_right_comm _ _ _
      have h4 : r1 ^ n * E * J ^ n ≤ W * J ^ n := Nat.mul_le_mul_right _ a1
      omega
    · exact h
  have c2 : r2 < (r1 + 1) * J := by
    rcases Nat.lt_or_ge r2 ((r1 + 1) * J) with h | h
    · exact h
    · exfalso
      have := pow_le_pow_ n h
      rw [Nat.mul_pow] at this
      have h2 : (r1 + 1) ^ n * J ^ n * E ≤ r2 ^ n * E := Nat.mul_le_mul_right _ this
      have h3 : (r1 + 1) ^ n * J ^ n * E = (r1 + 1) ^ n * E * J ^ n := Nat.mul_right_comm _ _ _
      have h4 : W * J ^ n < (r1 + 1) ^ n * E * J ^ n := Nat.mul_lt_mul_of_pos_right a2 hJn
      omega
  have hdiv : r1 = r2 / J := by
    refine (Nat.div_eq_of_lt_le ?_ ?_).symm
    · exact c1
    · exact c2
  refine ⟨hdiv, ?_⟩
  rw [a3]
  refine decide_eq_decide.2 (not_congr ?_)
  rw [Nat.pow_succ, ← hJ]
  have hdm := Nat.div_add_mod r2 J
  rw [← hdiv] at hdm
  have hmod : (2 * r2 + o2.toNat) % (J * 2) = 2 * (r2 % J) + o2.toNat := by
    have ho : o2.toNat ≤ 1 := by cases o2 <;> simp
    have hlt := Nat.mod_lt r2 hj
    have : 2 * r2 + o2.toNat = (2 * (r2 % J) + o2.toNat) + r1 * (J * 2) := by
      have h5 : r1 * (J * 2) = 2 * (J * r1) := by simp only [Nat.mul_assoc, Nat.mul_comm, Nat.mul_left_comm]
      omega
    rw [this, Nat.add_mul_mod_self_right, Nat.mod_eq_of_lt (by omega)]
  rw [hmod]
  constructor
  · intro h
    have e : r1 ^ n * J ^ n * E = W * J ^ n := by rw [Nat.mul_right_comm, h]
    have hr2 : r2 = r1 * J := by
      rcases Nat.lt_or_ge (r1 * J) r2 with h6 | h6
      · exfalso
        have := pow_lt_pow_ hn h6
        rw [Nat.mul_pow] at this
        have h7 : r1 ^ n * J ^ n * E < r2 ^ n * E := Nat.mul_lt_mul_of_pos_right this hE0
        omega
      · omega
    have h0 : r2 % J = 0 := by rw [hr2, Nat.mul_mod_left]
    rw [h0, b3]
    have : ¬ (r2 ^ n * E ≠ W * J ^ n) := by rw [hr2, Nat.mul_pow, e]; simp
    rw [decide_eq_false this]; rfl
  · intro h
    have h0 : r2 % J = 0 := by omega
    have ho : o2 = false := by cases ho2 : o2 with | false => rfl | true => rw [ho2] at h; simp at h
    have hr2 : r2 = r1 * J := by rw [Nat.mul_comm]; omega
    rw [ho] at b3
    have b4 : r2 ^ n * E = W * J ^ n := by
      have := of_decide_eq_false b3.symm
      omega
    refine Nat.eq_of_mul_eq_mul_right hJn ?_
    rw [← b4, hr2, Nat.mul_pow, Nat.mul_right_comm]

/-- More digits round alike. -/
theorem RootAt.rnd_less {N D n : Nat} {k : Int} {r1 r2 j : Nat} {o1 o2 : Bool} (hn : n ≠ 0) (hD : 0 < D) (h1 : RootAt N D n k r1 o1) (h2 : RootAt N D n (k + j) r2 o2) (hb : o1 = true → 55 ≤ bl r1) (d : Int) (neg : Bool) :
    rnd d neg (zd (2 * r1 + o1.toNat) (-k - 1)) = rnd d neg (zd (2 * r2 + o2.toNat) (-(k + j) - 1)) := by
  obtain ⟨e1, e2⟩ := h1.less hn hD h2
  obtain ⟨P, hP⟩ : ∃ P : Nat, P = (-k + 1075).toNat := ⟨_, rfl⟩
  obtain ⟨Q, hQ⟩ : ∃ Q : Nat, Q = (-(-k + 1075)).toNat := ⟨_, rfl⟩
  have hPQ : (P : Int) - Q = -k + 1075 := by omega
  have hz : zd (2 * r2 + o2.toNat) (-(k + j) - 1) = zq ((2 * r2 + o2.toNat) * 2 ^ P) (2 ^ (j + 1) * 2 ^ Q) := by
    rw [zd_of (A := P) (B := j + 1 + Q) (by omega), Nat.pow_add]
  rw [hz]
  refine rnd_quo (X := 2 * r2 + o2.toNat) (Y := 2 ^ (j + 1)) (A := P) (B := Q) (two_pow_pos _) (Nat.mul_pos (two_pow_pos _) (two_pow_pos _)) ?_ e2 hb hPQ ?_ d neg
  · rw [e1, Nat.pow_succ, Nat.mul_comm (2 ^ j) 2, ← Nat.div_div_eq_div_mul]
    have ho : o2.toNat ≤ 1 := by cases o2 <;> simp
    rw [show (2 * r2 + o2.toNat) / 2 = r2 by omega]
  · rfl

theorem RootAt.alike {N D n : Nat} {k1 k2 : Int} {r1 r2 : Nat} {o1 o2 : Bool} (hn : n ≠ 0) (hD : 0 < D) (h1 : RootAt N D n k1 r1 o1) (h2 : RootAt N D n k2 r2 o2) (hb1 : o1 = true → 55 ≤ bl r1) (hb2 : o2 = true → 55 ≤ bl r2) (d : Int) (neg : Bool) :
    rnd d neg (zd (2 * r1 + o1.toNat) (-k1 - 1)) = rnd d neg (zd (2 * r2 + o2.toNat) (-k2 - 1)) := by
  rcases Int.le_total k1 k2 with h | h
  · obtain ⟨j, hj⟩ : ∃ j : Nat, k2 = k1 + j := ⟨(k2 - k1).toNat, by omega⟩
    subst hj
    exact h1.rnd_less hn hD h2 hb1 d neg
  · obtain ⟨j, hj⟩ : ∃ j : Nat, k1 = k2 + j := ⟨(k1 - k2).toNat, by omega⟩
    subst hj
    exact (h2.rnd_less hn hD h1 hb2 d neg).symm

/-- The n-th root of N / D, rounded. -/
noncomputable def rootV (d : Int) (neg : Bool) (N D n : Nat) : Nat :=
  open Classical in
  if h : ∃ V, ∃ k r o, RootAt N D n k r o ∧ (o = true → 55 ≤ bl r) ∧ V = rnd d neg (zd (2 * r + o.toNat) (-k - 1)) then Classical.choose h else 0
theorem RootAt.val {N D n : Nat} {k : Int} {r : Nat} {o : Bool} (h : RootAt N D n k r o) (hn : n ≠ 0) (hD : 0 < D) (hb : o = true → 55 ≤ bl r) (d : Int) (neg : Bool) : rnd d neg (zd (2 * r + o.toNat) (-k - 1)) = rootV d neg N D n := by
  have hex : ∃ V, ∃ k r o, RootAt N D n k r o ∧ (o = true → 55 ≤ bl r) ∧ V = rnd d neg (zd (2 * r + o.toNat) (-k - 1)) := ⟨_, k, r, o, h, hb, rfl⟩
  unfold rootV
  rw [dif_pos hex]
  obtain ⟨k', r', o', h', hb', he⟩ := Classical.choose_spec hex
  rw [he]
  exact h.alike hn hD h' hb hb' d neg

/-- What Root answers. -/
noncomputable def rootR (d : Int) (x : Nat) (n : Int) : Nat :=
  if isNaN x || decide (n < 1) || decide (1024 < n) || (decide (n % 2 = 0) && (sg x && decide (mg x ≠ 0))) then NaNc
  else if isInf x then x
  else if mg x = 0 then 0
  else rootV d (sg x) (rv (mg x)) K74 n.toNat
end Go.Proofs.YtadijoeeaineaaaDoor.Rn
