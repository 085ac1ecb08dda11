/-
  Plain: / where an operand is no number, or the second one nought. Conditions: those that each theorem names.
-/
import Derived.Test.YtmcfflecaklpcaaZ18
import Derived.Test.YtmcfflecaklpcaaZ32
import Derived.Test.YtmcfflecaklpcaaZ33
import Derived.Test.YtmcfflecaklpcaaZ22
set_option linter.unusedVariables false
set_option linter.unusedSimpArgs false
namespace Go.Proofs.Ytmcfflecaklpcaa.Rn
open Nm

theorem pl_zero {y : Nat} (h : mg y = 0) (hy : y < 18446744073709551616) : pl y = 0 := by
  unfold pl
  unfold mg at h
  by_cases h0 : y = 9223372036854775808
  · rw [if_pos h0]
  · rw [if_neg h0]; omega
theorem pl_same {y : Nat} (h : mg y ≠ 0) : pl y = y := by
  unfold pl
  by_cases h0 : y = 9223372036854775808
  · exact absurd (by rw [h0]; rfl) h
  · rw [if_neg h0]
theorem mg_pl (y : Nat) (hy : y < 18446744073709551616) : mg (pl y) = mg y := by
  by_cases h : mg y = 0
  · rw [pl_zero h hy, h]; rfl
  · rw [pl_same h]
theorem write_zero (s : Bool) : Ieee.double.write (.number s 0 0) = if s then 9223372036854775808 else 0 := by cases s <;> rfl

/-- A quotient with an operand that is no number, or by nought. -/
theorem div_odd {x y : Nat} (hx : x < 18446744073709551616) (hy : y < 18446744073709551616) (h : (isNaN x || isInf x || (isNaN y || isInf y) || decide (mg y = 0)) = true) :
    (Ieee.double.div x (pl y) = none ∧ ∀ d, divR d x y = NaNc) ∨ ∃ s, Ieee.double.div x (pl y) = some s ∧ s < 18446744073709551616 ∧ isNaN s = false ∧ ∀ d, divR d x y = pl s := by
  have hinf : ∀ s, infP s < 18446744073709551616 ∧ isNaN (infP s) = false ∧ pl (infP s) = infP s := by intro s; cases s <;> exact ⟨by decide, rfl, rfl⟩
  have z : ∀ {b m : Nat} {e : Int}, m * 2 ^ (e + 1074).toNat = rv (mg b) → (m = 0 ↔ mg b = 0) := by
    intro b m e h
    constructor
    · intro hm; rw [hm, Nat.zero_mul] at h; exact rv_eq_zero.1 h.symm
    · intro hm; rw [hm, rv_zero] at h; rcases Nat.mul_eq_zero.1 h with h2 | h2; exact h2; have := two_pow_pos (e + 1074).toNat; omega
  have hIz : ¬ infR = 0 := by rw [infR_val]; omega
  unfold divR Ieee.Format.div
  rcases kind x with ⟨n1, i1, k1⟩ | ⟨n1, i1, k1⟩ | ⟨n1, i1, k1⟩
  · left
    rw [read_nan hx k1, n1]
    exact ⟨rfl, fun d => rfl⟩
  · have hx0 : mg x ≠ 0 := by rw [k1]; exact hIz
    rcases kind y with ⟨n2, i2, k2⟩ | ⟨n2, i2, k2⟩ | ⟨n2, i2, k2⟩
    · left
      have hy0 : mg y ≠ 0 := by omega
      rw [pl_same hy0, read_nan hy k2, read_inf hx k1, n2, n1]
      exact ⟨rfl, fun d => rfl⟩
    · left
      have hy0 : mg y ≠ 0 := by rw [k2]; exact hIz
      rw [pl_same hy0, read_inf hy k2, read_inf hx k1, n1, n2, i1, i2]
      exact ⟨rfl, fun d => rfl⟩
    · right
      rw [n1, n2, i1, i2, decide_eq_false hx0]
      simp only [Bool.false_or, Bool.and_false, Bool.false_and, Bool.or_false, Bool.false_eq_true, if_false, if_true]
      by_cases h0 : mg y = 0
      · rw [pl_zero h0 hy, read_inf hx k1]
        obtain ⟨m, e, hr, -, hv⟩ := read_fin (b := 0) (by omega) (by rw [show mg 0 = 0 from rfl, infR_val]; omega)
        rw [hr]
        refine ⟨infP (sg x), ?_, (hinf _).1, (hinf _).2.1, fun d => ?_⟩
        · show some (Ieee.double.write (.infinity (sg x ^^ sg 0))) = _
          rw [show sg 0 = false from rfl, Bool.xor_false, write_inf]
        · rw [if_pos h0, decide_eq_true hx0, Bool.and_true, (hinf _).2.2]
      · rw [pl_same h0, read_inf hx k1]
        obtain ⟨m, e, hr, -, hv⟩ := read_fin hy k2
        rw [hr]
        refine ⟨infP (sg x ^^ sg y), ?_, (hinf _).1, (hinf _).2.1, fun d => ?_⟩
        · show some (Ieee.double.write (.infinity (sg x ^^ sg y))) = _
          rw [write_inf]
        · rw [if_neg h0, (hinf _).2.2]
  · rcases kind y with ⟨n2, i2, k2⟩ | ⟨n2, i2, k2⟩ | ⟨n2, i2, k2⟩
    · left
      have hy0 : mg y ≠ 0 := by omega
      obtain ⟨m, e, hr, -, hv⟩ := read_fin hx k1
      rw [pl_same hy0, read_nan hy k2, hr, n2, n1]
      exact ⟨rfl, fun d => rfl⟩
    · right
      have hy0 : mg y ≠ 0 := by rw [k2]; exact hIz
      obtain ⟨m, e, hr, -, hv⟩ := read_fin hx k1
      rw [pl_same hy0, read_inf hy k2, hr, n2, n1, i1, i2, decide_eq_false hy0]
      simp only [Bool.false_or, Bool.and_false, Bool.false_and, Bool.or_false, Bool.false_eq_true, if_false, if_true]
      refine ⟨if (sg x ^^ sg y) then 9223372036854775808 else 0, ?_, ?_, ?_, fun d => ?_⟩
      · show some (Ieee.double.write (.number (sg x ^^ sg y) 0 0)) = _
        rw [write_zero]
      · cases (sg x ^^ sg y) <;> decide
      · cases (sg x ^^ sg y) <;> rfl
      · rw [if_neg hy0]
        cases (sg x ^^ sg y) <;> rfl
    · rw [n1, n2, i1, i2] at h
      have h0 : mg y = 0 := by simpa using h
      obtain ⟨m, e, hr, -, hv⟩ := read_fin hx k1
      rw [pl_zero h0 hy, hr, n1, n2, i1, i2, h0]
      have hz : Ieee.double.read 0 = .number false 0 (-1074) := by
        obtain ⟨m', e', hr', he', hv'⟩ := read_fin (b := 0) (by omega) (by rw [show mg 0 = 0 from rfl, infR_val]; omega)
        rfl
      rw [hz]
      simp only [Bool.false_or, Bool.and_false, Bool.false_and, Bool.or_false, Bool.false_eq_true, if_false, if_true, decide_true, Bool.and_true]
      by_cases hx0 : mg x = 0
      · left
        have hm := (z hv).2 hx0
        subst hm
        refine ⟨rfl, fun d => ?_⟩
        rw [if_pos (by simpa using hx0)]
      · right
        have hm : m ≠ 0 := fun h => hx0 ((z hv).1 h)
        refine ⟨infP (sg x), ?_, (hinf _).1, (hinf _).2.1, fun d => ?_⟩
        · show Option.map _ (if m = 0 then none else some (Ieee.Datum.infinity (sg x ^^ false))) = _
          rw [if_neg hm, Bool.xor_false]
          show some (Ieee.double.write _) = _
          rw [write_inf]
        · rw [if_neg (by simpa using hx0), decide_eq_true hx0, Bool.and_true, (hinf _).2.2]
end Go.Proofs.Ytmcfflecaklpcaa.Rn

/-
  The contract of the program's Div. Conditions: those that each theorem names.
-/
namespace Go.Proofs.Ytmcfflecaklpcaa
open Go.RowKit Nm Rn
set_option maxRecDepth 100000
set_option linter.unusedVariables false
set_option linter.unusedSimpArgs false

theorem odd_pl {y : Nat} (hy : y < 18446744073709551616) : oddF (pl y) = oddF y := by
  unfold oddF isNaN isInf
  rw [mg_pl y hy]
theorem pl_lt_ {y : Nat} (hy : y < 18446744073709551616) : pl y < 18446744073709551616 := pl_lt hy
theorem all_four {b1 b2 b3 b4 : Bool} (h : ¬ (b1 = true ∧ b2 = true ∧ b3 = true ∧ b4 = true)) : b1 = false ∨ (b1 = true ∧ b2 = false) ∨ (b1 = true ∧ b2 = true ∧ b3 = false) ∨ (b1 = true ∧ b2 = true ∧ b3 = true ∧ b4 = false) := by
  cases b1 <;> cases b2 <;> cases b3 <;> cases b4 <;> simp_all
theorem same_parts {x y : Nat} (hy : mg y ≠ 0) : Same75 (fbSig x) (fbSig y) (fbExp x - fbExp y) (rv (mg x) * K75) (rv (mg y)) := by
  have hDy : 0 < fbSig y := by
    rcases Nat.eq_zero_or_pos (fbSig y) with h | h
    · exact absurd ((fbSig_zero y).1 h) hy
    · exact h
  have hry : 0 < rv (mg y) := by
    rcases Nat.eq_zero_or_pos (rv (mg y)) with h | h
    · exact absurd (rv_eq_zero.1 h) hy
    · exact h
  have hx1 := fbExp_lo x
  have hy1 := fbExp_lo y
  obtain ⟨c, hc⟩ : ∃ c, c = 1075 := ⟨_, rfl⟩
  obtain ⟨a, ha⟩ : ∃ a, a = (fbExp x + 1074).toNat := ⟨_, rfl⟩
  obtain ⟨b, hb⟩ : ∃ b, b = (fbExp y + 1074).toNat := ⟨_, rfl⟩
  have hK : K75 = 2 ^ c := by rw [hc]; exact K75_def
  refine ⟨a + c, b, by omega, hry, hDy, ?_⟩
  rw [fb_rv x, fb_rv y, ← ha, ← hb, hK, Nat.pow_add]
  simp only [Nat.mul_assoc, Nat.mul_comm, Nat.mul_left_comm]
/-- A product with a quotient is some number, or an infinity. -/
theorem back_mul {s y : Nat} (hs : s < 18446744073709551616) (hsi : mg s ≤ infR) (hy : y < 18446744073709551616) (fy : mg y < infR) (hy0 : mg y ≠ 0) : ∃ p, Ieee.double.mul s y = some p ∧ p < 18446744073709551616 ∧ mg p ≤ infR := by
  by_cases hf : mg s < infR
  · refine ⟨_, mul_fin hs hy hf fy, word_lt (near_lt' _), ?_⟩
    rw [mg_word (near_lt' _)]
    exact near_le _
  · have hse : mg s = infR := by omega
    have hn1 : isNaN s = false := by unfold isNaN; exact decide_eq_false (by omega)
    have hi1 : isInf s = true := by unfold isInf; exact decide_eq_true hse
    have hn2 : isNaN y = false := by unfold isNaN; exact decide_eq_false (by omega)
    have hi2 : isInf y = false := by unfold isInf; exact decide_eq_false (by omega)
    rcases mul_odd hs hy (by rw [hn1, hi1]; rfl) with ⟨_, h2⟩ | ⟨t, h1, _⟩
    · exfalso
      have := h2 0
      unfold mulR at this
      rw [hn1, hn2, hi1, hi2, if_neg (by simp), if_pos (by simp), if_neg (by rw [hse, infR_val]; omega)] at this
      revert this
      cases (sg s != sg y) <;> decide
    · refine ⟨_, h1, infP_lt t, ?_⟩
      cases t
      · show mg infR ≤ infR; rw [infR_val]; decide
      · show mg minf ≤ infR; rw [infR_val, minf_val]; decide

set_option maxHeartbeats 4000000 in
theorem rdiv_odd (d : Int) (x y : Nat) (w : World) (hx : x < 18446744073709551616) (hy : y < 18446744073709551616) (ho : (oddF x || oddF y || decide (mg y = 0)) = true) :
    Calls Try.prog 60 #[.int .i64 d, .float .f64 x, .float .f64 y] w (RetFl (divR d x y) w) := by
  have hm := div_odd hx hy ho
  have hyl := pl_lt hy
  have HPY := Lib.hid (fun w => rplain_any y w hy)
  have hop := odd_pl hy
  have hoz : (oddF x || oddF (pl y)) = true ∨ ((oddF x || oddF (pl y)) = false ∧ pl y = 0) := by
    rw [hop]
    cases h1 : (oddF x || oddF y)
    · rw [h1, Bool.false_or] at ho
      exact .inr ⟨rfl, pl_zero (of_decide_eq_true ho) hy⟩
    · exact .inl rfl
  obtain ⟨y', hy'⟩ : ∃ y', y' = pl y := ⟨_, rfl⟩
  rw [← hy'] at hm hyl HPY hoz
  have hE0 : Ext w (w.alloc (.cells #[.float .f64 x, .float .f64 y'] 24)) := (Ext.refl w).alloc _
  have hc0 : (w.alloc (.cells #[.float .f64 x, .float .f64 y'] 24)).cell? ⟨w.heap.size, 0, none⟩ = some (.float .f64 x) := by simp
  have hc1 : (w.alloc (.cells #[.float .f64 x, .float .f64 y'] 24)).cell? ⟨w.heap.size, 1, none⟩ = some (.float .f64 y') := by simp
  have HO := Lib.hid (fun g w c0 c1 => odd_two g x y' w c0 c1 hx hyl)
  have q0 := fo_eq hyl (show 0 < 18446744073709551616 by omega)
  obtain ⟨oo, hoo⟩ : ∃ oo, oo = (oddF x || oddF y') := ⟨_, rfl⟩
  rw [← hoo] at HO hoz
  have hzz : oo = true ∨ (oo = false ∧ (FloatKind.f64.format.order y' 0 == some .eq) = true) := by
    rcases hoz with h | ⟨h, h2⟩
    · exact .inl h
    · refine .inr ⟨h, ?_⟩
      rw [h2]; rfl
  obtain ⟨V, hV⟩ : ∃ V, V = divR d x y := ⟨_, rfl⟩
  rw [← hV]
  rcases hm with ⟨hm, hr⟩ | ⟨s, hm, hs, hsn, hr⟩
  · rw [hr] at hV
    have HV := Lib.hid hV
    have hrun := fun w => run_nan (op := .quo) (x := x) (y := y') hm (by simp) w
    have HP := Lib.hid (fun v w => rplain_any (nanOf v x y') w (nanOf_lt v x y'))
    clear ho hm hr hV hx hy hy' hoo hoz hyl hop q0
    rcases hzz with rfl | ⟨rfl, hq⟩
    all_goals
      go_enter Try.func60, Try.ntmps60
      go_wp2
      go_step3
      go_wp2_with (go_at_call 49; refine (HPY.out _).mono ?_; rintro e w' ⟨rfl, rfl⟩)
      generalize w.heap.size = g0 at hc0 hc1 ⊢
      generalize w.alloc _ = w1 at hE0 hc0 hc1 ⊢
      go_wp2_with (first | (go_at_call 50; refine (HO.out _ _ hc0 hc1).mono ?_; rintro e w' ⟨rfl, rfl⟩) | (go_at_call 49; refine (HP.out _ _).mono ?_; rintro e w' ⟨rfl, rfl⟩))
      rw [Exit.noGoto_ret]
      go_ret
      exact ⟨_, rfl, by rw [pl_nan (nanOf_nan _ x y')]; exact nanOf_lt _ x y', by rw [pl_nan (nanOf_nan _ x y'), cn_nan (nanOf_nan _ x y')]; exact HV.out.symm, hE0.drew⟩
  · rw [hr] at hV
    have HV := Lib.hid hV
    have hrun := fun w => fquo hm w
    have HP := Lib.hid (fun w => rplain_any s w hs)
    have hpn : isNaN (pl s) = false := by unfold isNaN; rw [mg_pl s hs]; exact hsn
    have HS := Lib.hid (And.intro (pl_lt hs) (cn_num hpn))
    clear ho hm hr hV hx hy hy' hoo hoz hyl hop q0 hs hsn hpn
    rcases hzz with rfl | ⟨rfl, hq⟩
    all_goals
      go_enter Try.func60, Try.ntmps60
      go_wp2
      go_step3
      go_wp2_with (go_at_call 49; refine (HPY.out _).mono ?_; rintro e w' ⟨rfl, rfl⟩)
      generalize w.heap.size = g0 at hc0 hc1 ⊢
      generalize w.alloc _ = w1 at hE0 hc0 hc1 ⊢
      go_wp2_with (first | (go_at_call 50; refine (HO.out _ _ hc0 hc1).mono ?_; rintro e w' ⟨rfl, rfl⟩) | (go_at_call 49; refine (HP.out _).mono ?_; rintro e w' ⟨rfl, rfl⟩))
      rw [Exit.noGoto_ret]
      go_ret
      exact ⟨_, rfl, HS.out.1, by rw [HS.out.2]; exact HV.out.symm, hE0⟩
set_option maxHeartbeats 8000000 in
theorem rdiv_fin (d : Int) (x y : Nat) (w : World) (hx : x < 18446744073709551616) (hy : y < 18446744073709551616) (ho : (oddF x || oddF y) = false) (hy0 : mg y ≠ 0) :
    Calls Try.prog 60 #[.int .i64 d, .float .f64 x, .float .f64 y] w fun e w' => e = .returned (.float .f64 (rnd d (sg x != sg y) (zq (rv (mg x) * K75) (rv (mg y))))) ∧ Ext w w' := by
  have HPL := Lib.hid (fun w => rplain_any y w hy)
  rw [pl_same hy0] at HPL
  have hE0 : Ext w (w.alloc (.cells #[.float .f64 x, .float .f64 y] 24)) := (Ext.refl w).alloc _
  have hc0 : (w.alloc (.cells #[.float .f64 x, .float .f64 y] 24)).cell? ⟨w.heap.size, 0, none⟩ = some (.float .f64 x) := by simp
  have hc1 : (w.alloc (.cells #[.float .f64 x, .float .f64 y] 24)).cell? ⟨w.heap.size, 1, none⟩ = some (.float .f64 y) := by simp
  have HO := Lib.hid (fun g w c0 c1 => odd_two g x y w c0 c1 hx hy)
  rw [ho] at HO
  rw [Bool.or_eq_false_iff] at ho
  have fx := oddF_fin ho.1
  have fy := oddF_fin ho.2
  have hm := div_fin hx hy fx fy hy0
  have hnl := near_lt' (zq (rv (mg x) * K75) (rv (mg y)))
  obtain ⟨s, hs⟩ : ∃ s, s = Ieee.double.word (sg x ^^ sg y) (near (zq (rv (mg x) * K75) (rv (mg y)))) := ⟨_, rfl⟩
  rw [← hs] at hm
  have hsl : s < 18446744073709551616 := by rw [hs]; exact word_lt hnl
  have hsi : mg s ≤ infR := by rw [hs, mg_word hnl]; exact near_le _
  obtain ⟨p, hp, hpl, hpi⟩ := back_mul hsl hsi hy fy hy0
  have hrun := fun w => fquo hm w
  have hrun2 := fun w => fmul hp w
  have q1 := fo_lt hy (show 0 < 18446744073709551616 by omega)
  have q0 := fo_eq hy (show 0 < 18446744073709551616 by omega)
  have hFy := Fl.of hy fy
  rw [hFy.ltB Fl.zero] at q1
  have hsv0 : sv y ≠ 0 := fun h => hy0 (rv_eq_zero.1 (by have := sv_abs y; rw [h] at this; simpa using this.symm))
  rw [hFy.eqB Fl.zero, decide_eq_false hsv0] at q0
  have HMX := Lib.hid (fun w => middle_any x w hx (by omega))
  have HMY := Lib.hid (fun w => middle_any y w hy (by omega))
  have HMS := Lib.hid (fun w => middle_any s w hsl hsi)
  have HMP := Lib.hid (fun w => middle_any p w hpl hpi)
  obtain ⟨Z, hZ⟩ : ∃ Z, Z = zq (rv (mg x) * K75) (rv (mg y)) := ⟨_, rfl⟩
  obtain ⟨V, hV⟩ : ∃ V, V = rnd d (sg x != sg y) Z := ⟨_, rfl⟩
  rw [← hZ, ← hV]
  obtain ⟨b1, hb1⟩ : ∃ b, b = midB x := ⟨_, rfl⟩
  obtain ⟨b2, hb2⟩ : ∃ b, b = midB y := ⟨_, rfl⟩
  obtain ⟨b3, hb3⟩ : ∃ b, b = midB s := ⟨_, rfl⟩
  obtain ⟨b4, hb4⟩ : ∃ b, b = midB p := ⟨_, rfl⟩
  rw [← hb1] at HMX
  rw [← hb2] at HMY
  rw [← hb3] at HMS
  rw [← hb4] at HMP
  by_cases hb : b1 = true ∧ b2 = true ∧ b3 = true ∧ b4 = true
  · obtain ⟨rfl, rfl, rfl, rfl⟩ := hb
    obtain ⟨mx, -⟩ := mid_of hb1.symm
    obtain ⟨my, -⟩ := mid_of hb2.symm
    obtain ⟨ms, fs⟩ := mid_of hb3.symm
    obtain ⟨mp, fp⟩ := mid_of hb4.symm
    obtain ⟨m, a, b, M, E, om, ha, hb, fM, fE, hres⟩ := div_quick (Fl.of hx fx) hFy mx my hm fs ms hp fp mp
    have hrun3 := fun w => fsub ha w
    have hrun4 := fun w => fsub hb w
    have HMI := Lib.hid (fun w => missed_any s y p m w om)
    have hk := hres d
    rw [← hZ, show (sg x ^^ sg y) = (sg x != sg y) by cases sg x <;> cases sg y <;> rfl, ← hV] at hk
    by_cases hneg : sv y < 0
    · rw [if_pos hneg] at hk
      rw [decide_eq_true hneg] at q1
      have fN := fE.neg
      have hng := fun w => run_ng fE.lt w
      have HNU := Lib.hid (fun w => nudge_any d s (ng b) (-E) w hsl fs fN.lt (by rw [fN.ltB Fl.zero]) (by rw [Fl.zero.ltB fN]))
      rw [← hk] at HNU
      clear hk hres fN fE fM om ha hb mx my ms fs mp fp hb1 hb2 hb3 hb4 hV hZ hsv0 hFy hpi hpl hp hsi hsl hs hnl hm fx fy ho hx hy hy0 hneg
      go_enter Try.func60, Try.ntmps60
      go_wp2
      go_step3
      go_wp2_with (go_at_call 49; refine (HPL.out _).mono ?_; rintro e w' ⟨rfl, rfl⟩)
      generalize w.heap.size = g0 at hc0 hc1 ⊢
      generalize w.alloc _ = w1 at hE0 hc0 hc1 ⊢
      go_wp2_with (first | (go_at_call 50; refine (HO.out _ _ hc0 hc1).mono ?_; rintro e w' ⟨rfl, rfl⟩) | (go_at_call 52; ((with_reducible refine (HMX.out _).mono ?_); rintro e w' ⟨rfl, rfl⟩)) | (go_at_call 52; ((with_reducible refine (HMY.out _).mono ?_); rintro e w' ⟨rfl, rfl⟩)) | (go_at_call 52; ((with_reducible refine (HMS.out _).mono ?_); rintro e w' ⟨rfl, rfl⟩)) | (go_at_call 52; ((with_reducible refine (HMP.out _).mono ?_); rintro e w' ⟨rfl, rfl⟩)) | (go_at_call 53; refine (HMI.out _).mono ?_; rintro e w' ⟨rfl, rfl⟩) | (go_at_call 54; refine (HNU.out _).mono ?_; rintro e w' ⟨rfl, rfl⟩))
      rw [Exit.noGoto_ret]
      go_ret
      exact ⟨rfl, hE0⟩
    · rw [if_neg hneg] at hk
      rw [decide_eq_false hneg] at q1
      have HNU := Lib.hid (fun w => nudge_any d s b E w hsl fs fE.lt (by rw [fE.ltB Fl.zero]) (by rw [Fl.zero.ltB fE]))
      rw [← hk] at HNU
      clear hk hres fE fM om ha hb mx my ms fs mp fp hb1 hb2 hb3 hb4 hV hZ hsv0 hFy hpi hpl hp hsi hsl hs hnl hm fx fy ho hx hy hy0 hneg
      go_enter Try.func60, Try.ntmps60
      go_wp2
      go_step3
      go_wp2_with (go_at_call 49; refine (HPL.out _).mono ?_; rintro e w' ⟨rfl, rfl⟩)
      generalize w.heap.size = g0 at hc0 hc1 ⊢
      generalize w.alloc _ = w1 at hE0 hc0 hc1 ⊢
      go_wp2_with (first | (go_at_call 50; refine (HO.out _ _ hc0 hc1).mono ?_; rintro e w' ⟨rfl, rfl⟩) | (go_at_call 52; ((with_reducible refine (HMX.out _).mono ?_); rintro e w' ⟨rfl, rfl⟩)) | (go_at_call 52; ((with_reducible refine (HMY.out _).mono ?_); rintro e w' ⟨rfl, rfl⟩)) | (go_at_call 52; ((with_reducible refine (HMS.out _).mono ?_); rintro e w' ⟨rfl, rfl⟩)) | (go_at_call 52; ((with_reducible refine (HMP.out _).mono ?_); rintro e w' ⟨rfl, rfl⟩)) | (go_at_call 53; refine (HMI.out _).mono ?_; rintro e w' ⟨rfl, rfl⟩) | (go_at_call 54; refine (HNU.out _).mono ?_; rintro e w' ⟨rfl, rfl⟩))
      rw [Exit.noGoto_ret]
      go_ret
      exact ⟨rfl, hE0⟩
  · have hcase := all_four hb
    have HPX := Lib.hid (fun w => part_any x w hx)
    have HPY := Lib.hid (fun w => part_any y w hy)
    have hbx : bl (fbSig x) ≤ 53 := by rw [bl_le_iff]; exact fbSig_lt x
    have hby : bl (fbSig y) ≤ 53 := by rw [bl_le_iff]; exact fbSig_lt y
    have HQ := Lib.hid (fun (A : Option Addr) (n c : Nat) (B : Option Addr) (m e : Nat) (w : World) (h : Wds w A n c (nd (fbSig x))) (k : Wds w B m e (nd (fbSig y))) => quotient_any d (sg x) (sg y) A n c (nd (fbSig x)) (fbExp x) B m e (nd (fbSig y)) (fbExp y) (rv (mg x) * K75) (rv (mg y)) w h (by have := h.len; rw [nd_length] at this; have := fbSig_nw x; omega) k (by have := k.len; rw [nd_length] at this; have := fbSig_nw y; omega) (by rw [nv_nd, nv_nd]; exact same_parts hy0) (by rw [nv_nd, nv_nd]; omega) (by rw [nv_nd]; omega) (by have := fbExp_lo x; omega) (by have := fbExp_hi x; omega) (by have := fbExp_lo y; omega) (by have := fbExp_hi y; omega))
    rw [← hZ, ← hV] at HQ
    clear hb hb1 hb2 hb3 hb4 hV hZ hsv0 hFy hpi hpl hp hsi hsl hs hnl hm fx fy ho hx hy hy0 hbx hby
    rcases hcase with rfl | ⟨rfl, rfl⟩ | ⟨rfl, rfl, rfl⟩ | ⟨rfl, rfl, rfl, rfl⟩
    all_goals
      go_enter Try.func60, Try.ntmps60
      go_wp2
      apply wp_scope_to (l := 0) (hf := by rfl)
      · go_wp2_with (first | (go_at_call 49; refine (HPL.out _).mono ?_; rintro e w' ⟨rfl, rfl⟩) | (go_at_call 50; refine (HO.out _ _ hc0 hc1).mono ?_; rintro e w' ⟨rfl, rfl⟩) | (go_at_call 52; ((with_reducible refine (HMX.out _).mono ?_); rintro e w' ⟨rfl, rfl⟩)) | (go_at_call 52; ((with_reducible refine (HMY.out _).mono ?_); rintro e w' ⟨rfl, rfl⟩)) | (go_at_call 52; ((with_reducible refine (HMS.out _).mono ?_); rintro e w' ⟨rfl, rfl⟩)) | (go_at_call 52; ((with_reducible refine (HMP.out _).mono ?_); rintro e w' ⟨rfl, rfl⟩)))
        go_step3
        exact ⟨rfl, rfl, rfl⟩
      · go_wp2_with fail
        refine (HPX.out _).mono ?_
        rintro e w2 ⟨A1, n1, c1, rfl, hR1, hE1⟩
        go_wp2_with fail
        refine (HPY.out _).mono ?_
        rintro e w3 ⟨A2, n2, c2, rfl, hR2, hE2⟩
        go_wp2_with fail
        refine (HQ.out _ _ _ _ _ _ _ (hR1.ext hE2) hR2).mono ?_
        rintro e w4 ⟨rfl, hE3⟩
        go_wp2
        rw [jump_ret]
        go_ret
        exact ⟨rfl, ((hE0.trans hE1).trans hE2).trans hE3⟩

theorem rdiv_any (d : Int) (x y : Nat) (w : World) (hx : x < 18446744073709551616) (hy : y < 18446744073709551616) :
    Calls Try.prog 60 #[.int .i64 d, .float .f64 x, .float .f64 y] w (RetFl (divR d x y) w) := by
  cases ho : (oddF x || oddF y || decide (mg y = 0))
  · rw [Bool.or_eq_false_iff] at ho
    have hy0 : mg y ≠ 0 := of_decide_eq_false ho.2
    refine (rdiv_fin d x y w hx hy ho.1 hy0).mono ?_
    rintro e w' ⟨rfl, hE⟩
    have e1 : divR d x y = rnd d (sg x != sg y) (zq (rv (mg x) * K75) (rv (mg y))) := by
      have ho := ho.1
      unfold oddF at ho
      rw [Bool.or_eq_false_iff, Bool.or_eq_false_iff, Bool.or_eq_false_iff] at ho
      unfold divR
      rw [ho.1.1, ho.1.2, ho.2.1, ho.2.2, decide_eq_false hy0, if_neg hy0]
      simp only [Bool.or_false, Bool.and_false, Bool.false_or, Bool.false_eq_true, if_false]
    rw [e1]
    exact ⟨_, rfl, (rnd_ok _ _ _).1, cn_num (rnd_ok _ _ _).2, hE⟩
  · exact rdiv_odd d x y w hx hy ho
end Go.Proofs.Ytmcfflecaklpcaa

/-
  Plain: the model's square root, and the root rounded in a direction. Conditions: those that each theorem names.
-/
set_option linter.unusedVariables false
set_option linter.unusedSimpArgs false
namespace Go.Proofs.Ytmcfflecaklpcaa.Rn
open Nm

theorem rootFrom_spec (n : Nat) : ∀ todo r : Nat, r * r ≤ n → n < (r + 2 ^ todo) * (r + 2 ^ todo) →
    Ieee.Datum.rootFrom n todo r * Ieee.Datum.rootFrom n todo r ≤ n ∧ n < (Ieee.Datum.rootFrom n todo r + 1) * (Ieee.Datum.rootFrom n todo r + 1)
  | 0, r, h1, h2 => by
    unfold Ieee.Datum.rootFrom
    rw [Nat.pow_zero] at h2
    exact ⟨h1, h2⟩
  | todo + 1, r, h1, h2 => by
    unfold Ieee.Datum.rootFrom
    simp only [Nat.one_shiftLeft]
    have e : r + 2 ^ (todo + 1) = r + 2 ^ todo + 2 ^ todo := by rw [Nat.pow_succ]; omega
    split
    · rename_i h
      exact rootFrom_spec n todo _ h (by rw [← e]; exact h2)
    · rename_i h
      exact rootFrom_spec n todo _ h1 (by omega)
theorem isqrt_spec {n : Nat} (hn : n ≠ 0) : Ieee.Datum.rootFrom n (n.log2 / 2 + 1) 0 * Ieee.Datum.rootFrom n (n.log2 / 2 + 1) 0 ≤ n ∧ n < (Ieee.Datum.rootFrom n (n.log2 / 2 + 1) 0 + 1) * (Ieee.Datum.rootFrom n (n.log2 / 2 + 1) 0 + 1) := by
  refine rootFrom_spec n _ 0 (by omega) ?_
  rw [Nat.zero_add, ← Nat.pow_add]
  have h := (log2_bounds hn).2
  exact Nat.lt_of_lt_of_le h (Nat.pow_le_pow_right (by omega) (by omega))

theorem sq_le_iff {W P r : Nat} (h1 : W * W ≤ P) (h2 : P < (W + 1) * (W + 1)) : r * r ≤ P ↔ r ≤ W := by
  constructor
  · intro h
    rcases Nat.lt_or_ge W r with h3 | h3
    · have := Nat.mul_le_mul (show W + 1 ≤ r from h3) (show W + 1 ≤ r from h3); omega
    · exact h3
  · intro h
    have := Nat.mul_le_mul h h; omega
theorem sq_lt_iff {W P r : Nat} (h1 : W * W ≤ P) (h2 : P < (W + 1) * (W + 1)) : r * r < P ↔ r < W ∨ (r = W ∧ W * W ≠ P) := by
  constructor
  · intro h
    have := (sq_le_iff h1 h2).1 (Nat.le_of_lt h)
    by_cases h3 : r = W
    · subst h3; exact .inr ⟨rfl, by omega⟩
    · exact .inl (by omega)
  · rintro (h | ⟨rfl, h⟩)
    · have h3 : r * r < W * W := Nat.mul_self_lt_mul_self h
      omega
    · omega

/-- The Z of a square root, to the last unit. -/
theorem sqrt_z {X : Nat} (hX : 0 < X) : ∃ Z, (∀ r, 4 * r ≤ Z ↔ r * r ≤ X * K74) ∧ (∀ r, 4 * r < Z ↔ r * r < X * K74) ∧ ∀ d, rootV d false X K74 2 = rnd d false Z := by
  obtain ⟨P, hP⟩ : ∃ P, P = X * K74 := ⟨_, rfl⟩
  have hP0 : P ≠ 0 := by rw [hP]; exact Nat.ne_of_gt (Nat.mul_pos hX K74_pos)
  obtain ⟨W, hW⟩ : ∃ W, W = Ieee.Datum.rootFrom P (P.log2 / 2 + 1) 0 := ⟨_, rfl⟩
  obtain ⟨w1, w2⟩ := isqrt_spec hP0
  rw [← hW] at w1 w2
  obtain ⟨o, ho⟩ : ∃ o, o = decide (W * W ≠ P) := ⟨_, rfl⟩
  have hat : RootAt X K74 2 1074 W o := by
    obtain ⟨c, hc, hK⟩ : ∃ c : Nat, c = 1074 ∧ K74 = 2 ^ c := ⟨1074, rfl, K74_def⟩
    have e1 : X * 2 ^ (c + c) = P * K74 := by rw [hP, hK, Nat.pow_add, Nat.mul_assoc]
    have e2 : ∀ R : Nat, R ^ 2 * (K74 * 2 ^ 0) = R * R * K74 := fun R => by rw [Nat.pow_succ, Nat.pow_one, Nat.pow_zero, Nat.mul_one]
    refine ⟨c + c, 0, by push_cast; omega, ?_, ?_, ?_⟩
    · rw [e1, e2]; exact Nat.mul_le_mul_right _ w1
    · rw [e1, e2]; exact Nat.mul_lt_mul_of_pos_right w2 K74_pos
    · rw [e1, e2, ho]
      refine decide_eq_decide.2 (not_congr ⟨fun h => by rw [h], fun h => Nat.eq_of_mul_eq_mul_right K74_pos h⟩)
  have hbl : 55 ≤ bl W := by
    rcases Nat.lt_or_ge (bl W) 55 with h | h
    · exfalso
      have h1 := lt_pow_bl W
      have h2 : 2 ^ bl W ≤ 2 ^ 54 := Nat.pow_le_pow_right (by omega) (by omega)
      have h3 := Nat.mul_le_mul (show W + 1 ≤ 2 ^ 54 by omega) (show W + 1 ≤ 2 ^ 54 by omega)
      have h4 : P ≥ K74 := by rw [hP]; exact Nat.le_mul_of_pos_left _ hX
      have h5 : (2 : Nat) ^ 54 * 2 ^ 54 ≤ K74 := by
        obtain ⟨c, hc, hK⟩ : ∃ c : Nat, c = 1074 ∧ K74 = 2 ^ c := ⟨1074, rfl, K74_def⟩
        rw [hK, ← Nat.pow_add]; exact Nat.pow_le_pow_right (by omega) (by omega)
      omega
    · exact h
  have hv := fun d => hat.val (by omega) K74_pos (fun _ => hbl) d false
  have hz : zd (2 * W + o.toNat) (-1074 - 1) = 2 * (2 * W + o.toNat) := by
    rw [zd_of (A := 0) (B := 0) (by omega), Nat.pow_zero, Nat.mul_one, zq_one]
  refine ⟨2 * (2 * W + o.toNat), fun r => ?_, fun r => ?_, fun d => by rw [← hv d, hz]⟩
  · rw [← hP, sq_le_iff w1 w2]
    have : o.toNat ≤ 1 := by cases o <;> simp
    omega
  · rw [← hP, sq_lt_iff w1 w2]
    by_cases h : W * W ≠ P
    · rw [ho, decide_eq_true h]; simp [h]; omega
    · rw [ho, decide_eq_false h]; simp [h]; omega

/-- The model's square root is the nearest. -/
theorem sqrt_fin {x : Nat} (hx : x < 18446744073709551616) (fx : mg x < infR) (hs : sg x = false) (h0 : mg x ≠ 0) :
    ∃ Z, Ieee.double.sqrt x = some (Ieee.double.word false (near Z)) ∧ (∀ r, 4 * r ≤ Z ↔ r * r ≤ rv (mg x) * K74) ∧ (∀ r, 4 * r < Z ↔ r * r < rv (mg x) * K74) ∧ ∀ d, rootV d false (rv (mg x)) K74 2 = rnd d false Z := by
  have hX : 0 < rv (mg x) := Nat.pos_of_ne_zero fun e => h0 (rv_eq_zero.1 e)
  obtain ⟨Z, z1, z2, z3⟩ := sqrt_z hX
  refine ⟨Z, ?_, z1, z2, z3⟩
  obtain ⟨m, i, e1, hi, v1⟩ := read_fin hx fx
  have hm : m ≠ 0 := by
    intro h
    rw [h, Nat.zero_mul] at v1
    omega
  unfold Ieee.Format.sqrt
  rw [e1, hs]
  simp only [Ieee.Datum.root, if_neg hm, Bool.false_eq_true, if_false, Option.map_some]
  congr 1
  unfold Ieee.Format.write
  simp only
  rw [nearest_eq, near_eq]
  congr 1
  have e3 : Ieee.double.fractionBits + 2 = 54 := rfl
  rw [e3]
  obtain ⟨m1, hm1⟩ : ∃ m1, m1 = 2 * 54 - m.log2 := ⟨_, rfl⟩
  rw [← hm1]
  obtain ⟨more, hmore⟩ : ∃ more, more = m1 + ((i - m1) % 2).toNat := ⟨_, rfl⟩
  rw [← hmore, Nat.shiftLeft_eq]
  have hn0 : m * 2 ^ more ≠ 0 := Nat.ne_of_gt (Nat.mul_pos (by omega) (two_pow_pos _))
  obtain ⟨w1, w2⟩ := isqrt_spec hn0
  obtain ⟨W, hW⟩ : ∃ W, W = Ieee.Datum.rootFrom (m * 2 ^ more) ((m * 2 ^ more).log2 / 2 + 1) 0 := ⟨_, rfl⟩
  rw [← hW] at w1 w2 ⊢
  have heven : (i - more) % 2 = 0 := by rw [hmore]; omega
  obtain ⟨e, he⟩ : ∃ e, e = (i - (more : Int)) / 2 := ⟨_, rfl⟩
  rw [← he]
  obtain ⟨U, hU⟩ : ∃ U : Nat, U = (i + 1074).toNat := ⟨_, rfl⟩
  rw [← hU] at v1
  have sq : ∀ R : Nat, R ^ 2 = R * R := fun R => by rw [Nat.pow_succ, Nat.pow_one]
  have hat := root_at (V := m) (k := more) (X := U) (N := 2) (r := W) (e := e) (x := i) (by rw [sq]; exact w1) (by rw [sq]; exact w2) (by omega) (by omega)
  rw [v1, sq] at hat
  have hb : 55 ≤ bl W := by
    rcases Nat.lt_or_ge (bl W) 55 with h | h
    · exfalso
      have h1 := lt_pow_bl W
      have h2 : 2 ^ bl W ≤ 2 ^ 54 := Nat.pow_le_pow_right (by omega) (by omega)
      have h3 := Nat.mul_le_mul (show W + 1 ≤ 2 ^ 54 by omega) (show W + 1 ≤ 2 ^ 54 by omega)
      have h4 := (log2_bounds hm).1
      have h5 : 2 ^ m.log2 * 2 ^ more ≤ m * 2 ^ more := Nat.mul_le_mul_right _ h4
      rw [← Nat.pow_add] at h5 h3
      have h6 : (2 : Nat) ^ (54 + 54) ≤ 2 ^ (m.log2 + more) := Nat.pow_le_pow_right (by omega) (by omega)
      omega
    · exact h
  have hv := hat.val (by omega) K74_pos (fun _ => hb) 0 false
  rw [z3 0] at hv
  have hmk : (W * W != m * 2 ^ more) = decide (W * W ≠ m * 2 ^ more) := by
    by_cases h : W * W = m * 2 ^ more
    · rw [h]; simp
    · rw [decide_eq_true h]; simpa using h
  rw [hmk]
  have hp : ∀ z, rnd 0 false z = near z := fun z => by
    unfold rnd pat near
    split
    · rename_i h; exact h.symm
    · rfl
  rw [hp, hp, Int.neg_neg] at hv
  exact hv
end Go.Proofs.Ytmcfflecaklpcaa.Rn

/-
  Plain: the quick road of a square root answers the number rounded in the direction. Conditions: those that each theorem names.
-/
set_option linter.unusedVariables false
set_option linter.unusedSimpArgs false
namespace Go.Proofs.Ytmcfflecaklpcaa.Rn
open Nm

theorem Ks_K74 : 4 * Ks ≤ K74 := by
  obtain ⟨c, hc, hK⟩ : ∃ c : Nat, c = 1074 ∧ K74 = 2 ^ c := ⟨1074, rfl, K74_def⟩
  obtain ⟨a, ha, hK2⟩ : ∃ a : Nat, a = 174 ∧ Ks = 2 ^ a := ⟨174, rfl, Ks_def⟩
  rw [hK, hK2, show 4 * 2 ^ a = 2 ^ (a + 2) by rw [Nat.pow_add]; omega]
  exact Nat.pow_le_pow_right (by omega) (by omega)
theorem K74_Kg : 4 * K74 ≤ Kg := by
  obtain ⟨c, hc, hK⟩ : ∃ c : Nat, c = 1074 ∧ K74 = 2 ^ c := ⟨1074, rfl, K74_def⟩
  obtain ⟨a, ha, hK2⟩ : ∃ a : Nat, a = 1974 ∧ Kg = 2 ^ a := ⟨1974, rfl, Kg_def⟩
  rw [hK, hK2, show 4 * 2 ^ c = 2 ^ (c + 2) by rw [Nat.pow_add]; omega]
  exact Nat.pow_le_pow_right (by omega) (by omega)

/-- The root lies in the middle. -/
theorem sqrt_mid {x s : Nat} {X : Int} (hx : Fl x X) (mx : Mid X) (h0 : 0 < X) (hs : Ieee.double.sqrt x = some s) :
    ∃ Z f A, s = near Z ∧ mg s < infR ∧ s < 9223372036854775808 ∧ Z ≤ 4 * rv (infR - 2) ∧ Mid (sv s) ∧ rv f ≤ rv s ∧ rv s ≤ rv f + A ∧ 4503599627370496 * A ≤ rv f ∧ rv f * rv f ≤ rv (mg x) * K74 ∧ rv (mg x) * K74 < (rv f + A) * (rv f + A) ∧
      (∀ r, 4 * r ≤ Z ↔ r * r ≤ rv (mg x) * K74) ∧ (∀ r, 4 * r < Z ↔ r * r < rv (mg x) * K74) ∧ ∀ d, rootV d false (rv (mg x)) K74 2 = rnd d false Z := by
  have hxa := hx.abs
  have hX0 : 0 < rv (mg x) := by omega
  have hmx : mg x ≠ 0 := fun h => by rw [h, rv_zero] at hX0; omega
  have hsg : sg x = false := by
    cases h : sg x
    · rfl
    · have := hx.val
      unfold sv at this
      rw [h, if_pos rfl] at this
      omega
  obtain ⟨Z, e, z1, z2, z3⟩ := sqrt_fin hx.lt hx.fin hsg hmx
  rw [e] at hs
  injection hs with hs
  have hnl := near_lt' Z
  have hms : mg s = near Z := by rw [← hs, mg_word hnl]
  have hss : sg s = false := by rw [← hs, sg_word hnl]
  have hsl : s < 18446744073709551616 := by rw [← hs]; exact word_lt hnl
  have hsn : s = near Z := by
    have h1 := of_decide_eq_false (p := 9223372036854775808 ≤ s) hss
    unfold mg at hms
    omega
  have k1 := Ks_K74
  have k2 := K74_Kg
  have m1 := mx.1
  have m2 := mx.2
  rw [hxa] at m1 m2
  obtain ⟨Xn, hXn⟩ : ∃ Xn, Xn = rv (mg x) := ⟨_, rfl⟩
  rw [← hXn] at m1 m2 z1 z2 z3 hX0 ⊢
  have hZ1 : Z < 4 * Kg := by
    rcases Nat.lt_or_ge Z (4 * Kg) with h | h
    · exact h
    · exfalso
      have h1 := (z1 Kg).1 h
      have h2 : Xn * K74 ≤ Kg * K74 := Nat.mul_le_mul_right _ (by omega)
      have h3 : Kg * (4 * K74) ≤ Kg * Kg := Nat.mul_le_mul_left _ k2
      have h4 : Kg * (4 * K74) = 4 * (Kg * K74) := Nat.mul_left_comm _ _ _
      have h5 : 0 < Kg * K74 := Nat.mul_pos (by omega) K74_pos
      omega
  have hZ2 : Z ≤ 4 * rv (infR - 2) := by have := cap_rv; omega
  obtain ⟨n1, n2, n3⟩ := near_lt Z hZ2
  obtain ⟨f, hf⟩ : ∃ f, f = rung (Z / 4) := ⟨_, rfl⟩
  obtain ⟨w1, w2⟩ := rung_spec (Z / 4)
  rw [← hf] at w1 w2 n3
  have y1 : rv f * rv f ≤ Xn * K74 := (z1 _).1 (by omega)
  have y2 : Xn * K74 < rv (f + 1) * rv (f + 1) := by
    rcases Nat.lt_or_ge (Xn * K74) (rv (f + 1) * rv (f + 1)) with h | h
    · exact h
    · have := (z1 _).2 h; omega
  obtain ⟨sf, g1, g2, g3, g4⟩ := rv_dvd f
  obtain ⟨v, hv⟩ : ∃ v, v = f / 4503599627370496 - 1 := ⟨_, rfl⟩
  rw [← hv] at g1 g2 g4
  have hu2 : rv (f + 1) = rv f + 2 ^ v := by rw [g2, g1, Nat.add_mul, Nat.one_mul]
  have hKs : 9007199254740992 ≤ Ks := by
    obtain ⟨a, ha, hK2⟩ : ∃ a : Nat, a = 174 ∧ Ks = 2 ^ a := ⟨174, rfl, Ks_def⟩
    rw [hK2, show (9007199254740992 : Nat) = 2 ^ 53 by decide]
    exact Nat.pow_le_pow_right (by omega) (by omega)
  -- not small
  have hlo : Ks < rv f := by
    rcases Nat.lt_or_ge Ks (rv f) with h | h
    · exact h
    · exfalso
      have h1 : rv (f + 1) ≤ 2 * Ks := by
        by_cases h2 : v = 0
        · rw [h2, Nat.pow_zero] at hu2; omega
        · have h3 := Nat.mul_le_mul_right (2 ^ v) (g4 h2)
          rw [← g1] at h3
          omega
      have h4 := Nat.mul_le_mul h1 h1
      have h5 : Ks * (4 * Ks) ≤ Xn * K74 := Nat.mul_le_mul (by omega) k1
      have h6 : 2 * Ks * (2 * Ks) = Ks * (4 * Ks) := by
        rw [show 4 * Ks = 2 * (2 * Ks) by omega]; ac_rfl
      omega
  have hv0 : v ≠ 0 := by
    intro h
    rw [h, Nat.pow_zero] at g1 g2
    omega
  have hA : 4503599627370496 * 2 ^ v ≤ rv f := by rw [g1]; exact Nat.mul_le_mul_right _ (g4 hv0)
  -- not great
  have hhi : rv (f + 1) < Kg := by
    rcases Nat.lt_or_ge (rv (f + 1)) Kg with h | h
    · exact h
    · exfalso
      have h1 : Kg ≤ 2 * rv f := by omega
      have h2 : Kg * Kg ≤ 2 * rv f * (2 * rv f) := Nat.mul_le_mul h1 h1
      have h3 : 2 * rv f * (2 * rv f) = 4 * (rv f * rv f) := by
        rw [show (4 : Nat) = 2 * 2 from rfl]; ac_rfl
      have h4 : Kg * (4 * K74) ≤ Kg * Kg := Nat.mul_le_mul_left _ k2
      have h5 : Kg * (4 * K74) = 4 * (Kg * K74) := Nat.mul_left_comm _ _ _
      have h6 : Xn * K74 < Kg * K74 := Nat.mul_lt_mul_of_pos_right m2 K74_pos
      omega
  have r1 : rv f ≤ rv s := rv_le (by omega)
  have r2 : rv s ≤ rv (f + 1) := rv_le (by omega)
  have hab : (sv s).natAbs = rv s := by rw [sv_abs, hms, hsn]
  refine ⟨Z, f, 2 ^ v, hsn, by rw [hms]; exact n1, by omega, hZ2, ⟨by omega, by omega⟩, r1, by omega, hA, y1, by rw [← hu2]; exact y2, z1, z2, z3⟩

set_option maxHeartbeats 4000000 in
theorem sqrt_quick {x s p : Nat} {X : Int} (hx : Fl x X) (mx : Mid X) (h0 : 0 < X) (hs : Ieee.double.sqrt x = some s) (hp : Ieee.double.mul s s = some p) (fp : mg p < infR) (mp : Mid (sv p)) :
    ∃ m a b M E, MissedOps s s p m ∧ Ieee.double.sub x p = some a ∧ Ieee.double.sub a m = some b ∧ Fl m M ∧ Fl b E ∧ ∀ d, rootV d false (rv (mg x)) K74 2 = kp (key s + adj d E) := by
  obtain ⟨Z, f, A, hsn, fs, hsl, hZ, ms, r1, r2, hA, y1, y2, z1, z2, z3⟩ := sqrt_mid hx mx h0 hs
  have hF : Fl s (sv s) := Fl.of (by omega) fs
  have hsv : sv s = (rv s : Int) := by
    unfold sv sg mg
    rw [decide_eq_false (by omega), if_neg (by simp), Nat.mod_eq_of_lt hsl]
  obtain ⟨r, m, hr, hr0, hrg, om, fpr, fm, -⟩ := mul_quick hF hF ms ms hp fp mp
  have hK := K74_pos
  rw [K74_i, hsv] at hr
  have hrp : 0 < r := by
    rcases Int.lt_or_le 0 r with h | h
    · exact h
    · exfalso
      have h1 : r < 0 := by omega
      have h2 : r * (K74 : Int) < 0 := Int.mul_neg_of_neg_of_pos h1 (by omega)
      have h3 : (0 : Int) ≤ (rv s : Int) * (rv s : Int) := Int.mul_nonneg (by omega) (by omega)
      omega
  obtain ⟨rn', hrn⟩ : ∃ k : Nat, r = (k : Int) := ⟨r.toNat, by omega⟩
  have hrv : rn' * K74 = rv s * rv s := by
    rw [hrn] at hr
    have h1 : ((rn' * K74 : Nat) : Int) = ((rv s * rv s : Nat) : Int) := by push_cast; exact hr
    omega
  obtain ⟨Xn, hXn⟩ : ∃ Xn, Xn = rv (mg x) := ⟨_, rfl⟩
  have hxa := hx.abs
  rw [← hXn] at y1 y2 z1 z2 z3 hxa ⊢
  have hXe : X = (Xn : Int) := by omega
  obtain ⟨F, hFd⟩ : ∃ F, F = rv f := ⟨_, rfl⟩
  rw [← hFd] at r1 r2 hA y1 y2
  have q0 : (F + A) * (F + A) ≤ F * F + 3 * (F * A) := by
    have e : (F + A) * (F + A) = F * F + 2 * (F * A) + A * A := by
      rw [Nat.add_mul, Nat.mul_add, Nat.mul_add, Nat.mul_comm A F]; omega
    have : A * A ≤ F * A := Nat.mul_le_mul_right _ (by omega)
    omega
  have q1 : 4503599627370496 * (F * A) ≤ F * F := by
    rw [Nat.mul_left_comm]; exact Nat.mul_le_mul_left _ hA
  have q2 : F * F ≤ rn' * K74 := by rw [hrv]; exact Nat.mul_le_mul r1 r1
  have q3 : rn' * K74 ≤ (F + A) * (F + A) := by rw [hrv]; exact Nat.mul_le_mul r2 r2
  have c1 : 4503599627370496 * rn' ≤ 4503599627370499 * Xn := by
    have : (4503599627370496 * rn') * K74 ≤ (4503599627370499 * Xn) * K74 := by rw [Nat.mul_assoc, Nat.mul_assoc]; omega
    exact Nat.le_of_mul_le_mul_right this hK
  have c2 : 4503599627370496 * Xn ≤ 4503599627370499 * rn' := by
    have : (4503599627370496 * Xn) * K74 ≤ (4503599627370499 * rn') * K74 := by rw [Nat.mul_assoc, Nat.mul_assoc]; omega
    exact Nat.le_of_mul_le_mul_right this hK
  clear q0 q1 q2 q3
  have hPr : 9007199254740992 * (rn r - r).natAbs ≤ r.natAbs := by
    have h1 := ex_hi r.natAbs
    have h2 := rn_err h1
    by_cases h3 : ex r.natAbs = 0
    · rw [h3, Nat.pow_zero] at h2; omega
    · have h4 := ex_lo h3
      omega
  have hrep : RpZ (X - rn r) := sterbZ hx.rp (rn_rp _) (by omega)
  have bX := mx.2
  obtain ⟨a, oa, fa⟩ := hx.sub fpr (nr_cap (by omega))
  rw [rn_of hrep] at fa
  obtain ⟨b, ob, fb⟩ := fa.sub fm (nr_cap (by omega))
  rw [show X - rn r - (r - rn r) = X - r by omega] at fb
  refine ⟨m, a, b, _, _, om, oa, ob, fm, fb, fun d => ?_⟩
  obtain ⟨p1, p2⟩ := rn_pos (S := X - r)
  rw [z3 d]
  have t1 : 4 * rv (near Z) < Z ↔ rn' < Xn := by
    rw [z2, ← hsn, ← hrv]
    exact ⟨fun h => Nat.lt_of_mul_lt_mul_right h, fun h => Nat.mul_lt_mul_of_pos_right h hK⟩
  have t2 : Z < 4 * rv (near Z) ↔ Xn < rn' := by
    have h1 : 4 * rv (near Z) ≤ Z ↔ rn' ≤ Xn := by
      rw [z1, ← hsn, ← hrv]
      exact ⟨fun h => Nat.le_of_mul_le_mul_right h hK, fun h => Nat.mul_le_mul_right _ h⟩
    omega
  refine rnd_nudge d false hZ (K := key s) ?_ ?_ ?_
  · rw [if_neg (by simp), ← hsn]
    unfold key sg mg
    rw [decide_eq_false (by omega), if_neg (by simp), Nat.mod_eq_of_lt hsl]
  · rw [if_neg (by simp), t1, p1]; omega
  · rw [if_neg (by simp), t2, p2]; omega
end Go.Proofs.Ytmcfflecaklpcaa.Rn
