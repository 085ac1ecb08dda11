/-
  The contract of the program's Sqrt. Conditions: those that each theorem names.
-/
import Derived.Test.YtmcfflecaklpcaaZ22
import Derived.Test.YtmcfflecaklpcaaZ24
import Derived.Test.YtmcfflecaklpcaaZ34
import Derived.Test.YtmcfflecaklpcaaZ30
import Derived.Test.YtmcfflecaklpcaaZ07
namespace Go.Proofs.Ytmcfflecaklpcaa
open Go.RowKit Nm Rn
set_option maxRecDepth 100000
set_option linter.unusedVariables false
set_option linter.unusedSimpArgs false

/-- What Sqrt answers. -/
noncomputable def sqrtR (d : Int) (x : Nat) : Nat :=
  if (isNaN x || ngP x) = true then NaNc else if isInf x then x else if mg x = 0 then 0 else rootV d (sg x) (rv (mg x)) K74 2

theorem callSq (args : Array Value) (w : World) : (callFunc 101 args).run Try.prog w = ((Extern.MathSqrt.sqrt args).run Try.prog w).andThen fun v w' => .ok (.value v) w' :=
  run_callFunc_extern Try.func101 (by kernel_rfl) (by kernel_rfl) (by kernel_rfl) (by kernel_rfl) args w
theorem callSq_some {x s : Nat} (h : Ieee.double.sqrt x = some s) (w : World) : (callFunc 101 #[.float .f64 x]).run Try.prog w = .ok (.value (.float .f64 s)) w := by
  have h' : FloatKind.f64.format.sqrt x = some s := h
  rw [callSq]
  have e : Extern.MathSqrt.sqrt #[Value.float .f64 x] = (match FloatKind.f64.format.sqrt x with | some r => pure (Value.float .f64 r) | none => do pure (Value.float .f64 (← choose (.nanBits .f64 x x)))) := rfl
  rw [e, h']
  rfl
theorem callSq_none {x : Nat} (h : Ieee.double.sqrt x = none) (w : World) : (callFunc 101 #[.float .f64 x]).run Try.prog w = .ok (.value (.float .f64 (nanOf w x x))) w.drew := by
  have h' : FloatKind.f64.format.sqrt x = none := h
  rw [callSq]
  have e : Extern.MathSqrt.sqrt #[Value.float .f64 x] = (match FloatKind.f64.format.sqrt x with | some r => pure (Value.float .f64 r) | none => do pure (Value.float .f64 (← choose (.nanBits .f64 x x)))) := rfl
  rw [e, h']
  simp [Question.forced, nanOf]
set_option maxHeartbeats 400000 in
theorem msq_some {x s : Nat} (h : Ieee.double.sqrt x = some s) (w : World) : Calls Try.prog 51 #[.float .f64 x] w fun e w' => e = .returned (.float .f64 s) ∧ w = w' := by
  have hd := callSq_some h
  go_enter Try.func51, Try.ntmps51
  go_wp2
  go_ret
  exact ⟨rfl, rfl⟩
set_option maxHeartbeats 400000 in
theorem msq_none {x : Nat} (h : Ieee.double.sqrt x = none) (w : World) : Calls Try.prog 51 #[.float .f64 x] w fun e w' => e = .returned (.float .f64 (nanOf w x x)) ∧ w.drew = w' := by
  have hd := callSq_none h
  go_enter Try.func51, Try.ntmps51
  go_wp2
  go_ret
  exact ⟨rfl, rfl⟩

theorem sqrt_odd {x : Nat} (hx : x < 18446744073709551616) (h : (isNaN x || isInf x || decide (mg x = 0) || sg x) = true) :
    (Ieee.double.sqrt (pl x) = none ∧ ∀ d, sqrtR d x = NaNc) ∨ (∃ s, Ieee.double.sqrt (pl x) = some s ∧ s < 18446744073709551616 ∧ isNaN s = false ∧ ∀ d, sqrtR d x = s) := by
  have hv := infR_val
  cases h1 : isNaN x
  case true =>
    refine .inl ⟨?_, fun d => by unfold sqrtR; rw [h1, Bool.true_or, if_pos rfl]⟩
    have hn := (isNaN_iff x).1 h1
    rw [pl_same (by omega)]
    unfold Ieee.Format.sqrt
    rw [read_nan hx hn]
    rfl
  case false =>
    cases h2 : isInf x
    case true =>
      have hi := (isInf_iff x).1 h2
      have hm : mg x ≠ 0 := by omega
      rw [pl_same hm]
      cases h3 : sg x
      case true =>
        refine .inl ⟨?_, fun d => by unfold sqrtR ngP; rw [h3, decide_eq_true hm, Bool.and_true, Bool.or_true, if_pos rfl]⟩
        unfold Ieee.Format.sqrt
        rw [read_inf hx hi, h3]
        rfl
      case false =>
        have hxe : x = infR := by
          have h4 := of_decide_eq_false (p := 9223372036854775808 ≤ x) h3
          unfold mg at hi
          omega
        refine .inr ⟨x, ?_, hx, h1, fun d => by unfold sqrtR ngP; rw [h1, h2, h3, Bool.false_and, Bool.false_or, if_neg (by simp), if_pos rfl]⟩
        rw [hxe]
        decide +kernel
    case false =>
      by_cases h3 : mg x = 0
      · rw [pl_zero h3 hx]
        refine .inr ⟨0, by decide +kernel, by omega, by decide, fun d => by unfold sqrtR ngP; rw [h1, h2, decide_eq_false (by omega), Bool.and_false, Bool.false_or, if_neg (by simp), if_neg (by simp), if_pos h3]⟩
      · have h4 : sg x = true := by
          rw [h1, h2, decide_eq_false h3, Bool.false_or, Bool.false_or, Bool.false_or] at h
          exact h
        refine .inl ⟨?_, fun d => by unfold sqrtR ngP; rw [h4, decide_eq_true (show mg x ≠ 0 from h3), Bool.and_true, Bool.or_true, if_pos rfl]⟩
        rw [pl_same h3]
        have hf : mg x < infR := by
          have g1 : ¬ infR < mg x := fun e => by rw [(isNaN_iff x).2 e] at h1; cases h1
          have g2 : ¬ mg x = infR := fun e => by rw [(isInf_iff x).2 e] at h2; cases h2
          omega
        obtain ⟨m, i, e1, hi, v1⟩ := read_fin hx hf
        have hm : m ≠ 0 := by
          intro e
          rw [e, Nat.zero_mul] at v1
          exact h3 (rv_eq_zero.1 v1.symm)
        unfold Ieee.Format.sqrt
        rw [e1, h4]
        simp only [Ieee.Datum.root, if_neg hm, if_true, Option.map_none]

set_option maxHeartbeats 2000000 in
theorem rsqrt_odd (d : Int) (x : Nat) (w : World) (hx : x < 18446744073709551616) (ho : (isNaN x || isInf x || decide (mg x = 0) || sg x) = true) :
    Calls Try.prog 14 #[.int .i64 d, .float .f64 x] w (RetFl (sqrtR d x) w) := by
  have hm := sqrt_odd hx ho
  have hyl := pl_lt hx
  have HPX := Lib.hid (fun w => rplain_any x w hx)
  have hcond : oddF (pl x) = true ∨ (oddF (pl x) = false ∧ leB (pl x) 0 = true) := by
    rw [odd_pl hx]
    cases hod : oddF x
    · refine .inr ⟨rfl, ?_⟩
      have hf := oddF_fin hod
      have hF := Fl.of hyl (by rw [mg_pl x hx]; exact hf)
      rw [hF.leB Fl.zero]
      refine decide_eq_true ?_
      unfold oddF at hod
      rw [Bool.or_eq_false_iff] at hod
      rw [hod.1, hod.2, Bool.false_or, Bool.false_or] at ho
      by_cases hz : mg x = 0
      · rw [pl_zero hz hx]; decide
      · rw [decide_eq_false hz, Bool.false_or] at ho
        rw [pl_same hz]
        unfold sv
        rw [ho, if_pos rfl]
        omega
    · exact .inl rfl
  obtain ⟨y, hy⟩ : ∃ y, y = pl x := ⟨_, rfl⟩
  rw [← hy] at hm hyl HPX hcond
  have hE0 : Ext w (w.alloc (.cells #[.float .f64 y] 24)) := (Ext.refl w).alloc _
  have hc0 : (w.alloc (.cells #[.float .f64 y] 24)).cell? ⟨w.heap.size, 0, none⟩ = some (.float .f64 y) := by simp
  have HO := Lib.hid (fun g w c0 => odd_one g y w c0 hyl)
  have q1 := fo_le hyl (show 0 < 18446744073709551616 by omega)
  obtain ⟨oo, hoo⟩ : ∃ oo, oo = oddF y := ⟨_, rfl⟩
  obtain ⟨ll, hll⟩ : ∃ ll, ll = leB y 0 := ⟨_, rfl⟩
  rw [← hoo] at HO hcond
  rw [← hll] at q1 hcond
  obtain ⟨V, hV⟩ : ∃ V, V = sqrtR d x := ⟨_, rfl⟩
  rw [← hV]
  rcases hm with ⟨hm, hr⟩ | ⟨s, hm, hs, hsn, hr⟩
  · have hr' := hr d
    rw [← hV] at hr'
    have HV := Lib.hid hr'
    have HSQ := Lib.hid (fun w => msq_none hm w)
    clear hm hr hr' hV hx ho hy hoo hll
    rcases hcond with rfl | ⟨rfl, rfl⟩
    all_goals
      go_enter Try.func14, Try.ntmps14
      go_wp2
      go_step3
      go_wp2_with (go_at_call 49; refine (HPX.out _).mono ?_; rintro e w' ⟨rfl, rfl⟩)
      generalize w.heap.size = g0 at hc0 ⊢
      generalize w.alloc _ = w1 at hE0 hc0 ⊢
      go_wp2_with (first | (go_at_call 50; refine (HO.out _ _ hc0).mono ?_; rintro e w' ⟨rfl, rfl⟩) | (go_at_call 51; refine (HSQ.out _).mono ?_; rintro e w' ⟨rfl, rfl⟩))
      rw [Exit.noGoto_ret]
      go_ret
      exact ⟨_, rfl, nanOf_lt _ y y, by rw [cn_nan (nanOf_nan _ y y)]; exact HV.out.symm, hE0.drew⟩
  · have hr' := hr d
    rw [← hV] at hr'
    have HV := Lib.hid hr'
    have HSQ := Lib.hid (fun w => msq_some hm w)
    have HS := Lib.hid (And.intro hs (cn_num hsn))
    clear hm hr hr' hV hx ho hy hoo hll hs hsn
    rcases hcond with rfl | ⟨rfl, rfl⟩
    all_goals
      go_enter Try.func14, Try.ntmps14
      go_wp2
      go_step3
      go_wp2_with (go_at_call 49; refine (HPX.out _).mono ?_; rintro e w' ⟨rfl, rfl⟩)
      generalize w.heap.size = g0 at hc0 ⊢
      generalize w.alloc _ = w1 at hE0 hc0 ⊢
      go_wp2_with (first | (go_at_call 50; refine (HO.out _ _ hc0).mono ?_; rintro e w' ⟨rfl, rfl⟩) | (go_at_call 51; refine (HSQ.out _).mono ?_; rintro e w' ⟨rfl, rfl⟩))
      rw [Exit.noGoto_ret]
      go_ret
      exact ⟨_, rfl, HS.out.1, by rw [HS.out.2]; exact HV.out.symm, hE0⟩

set_option maxHeartbeats 4000000 in
theorem rsqrt_fin (d : Int) (x : Nat) (w : World) (hx : x < 18446744073709551616) (ho : oddF x = false) (h0 : mg x ≠ 0) (hsg : sg x = false) :
    Calls Try.prog 14 #[.int .i64 d, .float .f64 x] w fun e w' => e = .returned (.float .f64 (rootV d false (rv (mg x)) K74 2)) ∧ Ext w w' := by
  have HPL := Lib.hid (fun w => rplain_any x w hx)
  rw [pl_same h0] at HPL
  have hE0 : Ext w (w.alloc (.cells #[.float .f64 x] 24)) := (Ext.refl w).alloc _
  have hc0 : (w.alloc (.cells #[.float .f64 x] 24)).cell? ⟨w.heap.size, 0, none⟩ = some (.float .f64 x) := by simp
  have HO := Lib.hid (fun g w c0 => odd_one g x w c0 hx)
  rw [ho] at HO
  have fx := oddF_fin ho
  have hFx := Fl.of hx fx
  have hsv : sv x = (rv (mg x) : Int) := by unfold sv; rw [hsg, if_neg (by simp)]
  have hrp : 0 < rv (mg x) := Nat.pos_of_ne_zero fun e => h0 (rv_eq_zero.1 e)
  obtain ⟨Z0, hm, -, -, -⟩ := sqrt_fin hx fx hsg h0
  have hnl := near_lt' Z0
  obtain ⟨s, hs⟩ : ∃ s, s = Ieee.double.word false (near Z0) := ⟨_, rfl⟩
  rw [← hs] at hm
  have hsl : s < 18446744073709551616 := by rw [hs]; exact word_lt hnl
  have hsi : mg s ≤ infR := by rw [hs, mg_word hnl]; exact near_le _
  have q1 := fo_le hx (show 0 < 18446744073709551616 by omega)
  rw [hFx.leB Fl.zero, decide_eq_false (by omega)] at q1
  have HSQ := Lib.hid (fun w => msq_some hm w)
  have HMX := Lib.hid (fun w => middle_any x w hx (by omega))
  obtain ⟨V, hV⟩ : ∃ V, V = rootV d false (rv (mg x)) K74 2 := ⟨_, rfl⟩
  rw [← hV]
  have hmul : ∃ p, Ieee.double.mul s s = some p ∧ p < 18446744073709551616 ∧ mg p ≤ infR := by
    by_cases hf : mg s < infR
    · refine ⟨_, mul_fin hsl hsl hf hf, word_lt (near_lt' _), ?_⟩
      rw [mg_word (near_lt' _)]
      exact near_le _
    · have hse : mg s = infR := by omega
      have hss : sg s = false := by rw [hs, sg_word hnl]
      have hs2 : s = infR := by
        have h4 := of_decide_eq_false (p := 9223372036854775808 ≤ s) hss
        unfold mg at hse
        omega
      refine ⟨infR, ?_, by rw [infR_val]; omega, by rw [infR_val]; decide⟩
      rw [hs2]
      decide +kernel
  obtain ⟨p, hp, hpl, hpi⟩ := hmul
  have hrun2 := fun w => fmul hp w
  have HMP := Lib.hid (fun w => middle_any p w hpl hpi)
  obtain ⟨b1, hb1⟩ : ∃ b, b = midB x := ⟨_, rfl⟩
  obtain ⟨b4, hb4⟩ : ∃ b, b = midB p := ⟨_, rfl⟩
  rw [← hb1] at HMX
  rw [← hb4] at HMP
  by_cases hb : b1 = true ∧ b4 = true
  · obtain ⟨rfl, rfl⟩ := hb
    obtain ⟨mx, -⟩ := mid_of hb1.symm
    obtain ⟨mp, fp⟩ := mid_of hb4.symm
    obtain ⟨-, -, -, -, fs, -⟩ := sqrt_mid hFx mx (by omega) hm
    obtain ⟨m, a, b, M, E, om, ha, hb, fM, fE, hres⟩ := sqrt_quick hFx mx (by omega) hm hp fp mp
    have hrun3 := fun w => fsub ha w
    have hrun4 := fun w => fsub hb w
    have HMI := Lib.hid (fun w => missed_any s s p m w om)
    have hk := hres d
    rw [← hV] at hk
    have HNU := Lib.hid (fun w => nudge_any d s b E w hsl fs fE.lt (by rw [fE.ltB Fl.zero]) (by rw [Fl.zero.ltB fE]))
    rw [← hk] at HNU
    clear hk hres fE fM om ha hb mx mp fp fs hb1 hb4 hV hpi hpl hp hsi hsl hs hnl hm fx ho hx h0 hsg hsv hrp hFx
    go_enter Try.func14, Try.ntmps14
    go_wp2
    go_step3
    go_wp2_with (go_at_call 49; refine (HPL.out _).mono ?_; rintro e w' ⟨rfl, rfl⟩)
    generalize w.heap.size = g0 at hc0 ⊢
    generalize w.alloc _ = w1 at hE0 hc0 ⊢
    go_wp2_with (first | (go_at_call 50; refine (HO.out _ _ hc0).mono ?_; rintro e w' ⟨rfl, rfl⟩) | (go_at_call 51; refine (HSQ.out _).mono ?_; rintro e w' ⟨rfl, rfl⟩) | (go_at_call 52; ((with_reducible refine (HMX.out _).mono ?_); rintro e w' ⟨rfl, rfl⟩)) | (go_at_call 52; ((with_reducible refine (HMP.out _).mono ?_); rintro e w' ⟨rfl, rfl⟩)) | (go_at_call 53; refine (HMI.out _).mono ?_; rintro e w' ⟨rfl, rfl⟩) | (go_at_call 54; refine (HNU.out _).mono ?_; rintro e w' ⟨rfl, rfl⟩))
    rw [Exit.noGoto_ret]
    go_ret
    exact ⟨rfl, hE0⟩
  · have hcase : b1 = false ∨ (b1 = true ∧ b4 = false) := by cases b1 <;> cases b4 <;> simp_all
    have HPX := Lib.hid (fun w => part_any x w hx)
    rw [hsg] at HPX
    have HRO : Hid (∀ A l c w, Wds w A l c (nd (fbSig x)) → Calls Try.prog 42 #[.int .i64 d, .agg #[.bool false, .slice A l c, .int .i64 (fbExp x)], .int .i64 2] w fun e w' => e = .returned (.float .f64 V) ∧ Ext w w') := Lib.hid (fun A l c w h => by
      have := root_any d false A l c (fbSig x) (fbExp x + 1074).toNat 2 (fbExp x) w h (by rcases Nat.eq_zero_or_pos (fbSig x) with e | e; exact absurd ((fbSig_zero x).1 e) h0; exact e) (by rw [bl_le_iff]; exact fbSig_lt x) (by have := fbExp_lo x; omega) (by have := fbExp_hi x; omega) (by omega) (by omega)
      rw [← fb_rv, ← hV] at this
      exact this)
    clear hb hb1 hb4 hV hpi hpl hp hsi hsl hs hnl hm fx ho hx h0 hsg hsv hrp hFx
    rcases hcase with rfl | ⟨rfl, rfl⟩
    all_goals
      go_enter Try.func14, Try.ntmps14
      go_wp2
      apply wp_scope_to (l := 0) (hf := by rfl)
      · go_wp2_with (first | (go_at_call 49; refine (HPL.out _).mono ?_; rintro e w' ⟨rfl, rfl⟩) | (go_at_call 50; refine (HO.out _ _ hc0).mono ?_; rintro e w' ⟨rfl, rfl⟩) | (go_at_call 51; refine (HSQ.out _).mono ?_; rintro e w' ⟨rfl, rfl⟩) | (go_at_call 52; ((with_reducible refine (HMX.out _).mono ?_); rintro e w' ⟨rfl, rfl⟩)) | (go_at_call 52; ((with_reducible refine (HMP.out _).mono ?_); rintro e w' ⟨rfl, rfl⟩)))
        go_step3
        exact ⟨rfl, rfl, rfl⟩
      · go_wp2_with fail
        refine (HPX.out _).mono ?_
        rintro e w2 ⟨A1, n1, c1, rfl, hR1, hE1⟩
        go_wp2_with fail
        refine (HRO.out _ _ _ _ hR1).mono ?_
        rintro e w4 ⟨rfl, hE3⟩
        go_wp2
        rw [jump_ret]
        go_ret
        exact ⟨rfl, (hE0.trans hE1).trans hE3⟩

theorem rsqrt_any (d : Int) (x : Nat) (w : World) (hx : x < 18446744073709551616) :
    Calls Try.prog 14 #[.int .i64 d, .float .f64 x] w (RetFl (sqrtR d x) w) := by
  cases ho : (isNaN x || isInf x || decide (mg x = 0) || sg x)
  · rw [Bool.or_eq_false_iff, Bool.or_eq_false_iff] at ho
    obtain ⟨⟨h1, h2⟩, h3⟩ := ho
    have hz : mg x ≠ 0 := of_decide_eq_false h2
    have h1' := h1
    rw [Bool.or_eq_false_iff] at h1
    refine (rsqrt_fin d x w hx h1' hz h3).mono ?_
    rintro e w' ⟨rfl, hE⟩
    have e1 : sqrtR d x = rootV d false (rv (mg x)) K74 2 := by
      unfold sqrtR ngP
      rw [h1.1, h1.2, h3, Bool.false_and, Bool.false_or, if_neg (by simp), if_neg (by simp), if_neg hz]
    have hk := rootV_ok d false (rv (mg x)) K74 2
    exact ⟨_, rfl, hk.1, by rw [e1]; exact cn_num hk.2, hE⟩
  · exact rsqrt_odd d x w hx ho
end Go.Proofs.Ytmcfflecaklpcaa

/-
  The contract of the document's Sqrt. Conditions: those that each theorem names.
-/
namespace Go.Proofs.Ytmcfflecaklpcaa
open Go.RowKit Nm Rn
set_option maxRecDepth 100000
set_option linter.unusedVariables false
set_option linter.unusedSimpArgs false

set_option maxHeartbeats 1000000 in
theorem sqrt3_n1 (d : Int) (x : Nat) (w : World) (hx : x < 18446744073709551616) (h1 : isNaN x = true) :
    Calls Try.prog 15 #[.int .i64 d, .int .u64 (x : Int)] w fun e w' => e = .returned (.int .u64 (NaNc : Nat)) ∧ Ext w w' := by
  have HNX := Lib.hid (fun w => isnan_any x w hx)
  have HIX := Lib.hid (fun w => isinf3_any x w hx)
  have HGX := Lib.hid (fun w => neg3_ngB x w hx)
  have HV : Hid ((9221120237041090561 : Int) = (NaNc : Nat)) := Lib.hid rfl
  rw [h1] at HNX
  clear h1 hx
  go_enter Try.func15, Try.ntmps15
  go_wp2_with (first | (go_at_call 45; ((with_reducible refine (HNX.out _).mono ?_); rintro e w' ⟨rfl, rfl⟩)) | (go_at_call 47; ((with_reducible refine (HIX.out _).mono ?_); rintro e w' ⟨rfl, rfl⟩)) | (go_at_call 46; ((with_reducible refine (HGX.out _).mono ?_); rintro e w' ⟨rfl, rfl⟩)))
  go_ret
  exact ⟨ret_int HV.out, Ext.refl _⟩

set_option maxHeartbeats 1000000 in
theorem sqrt3_n2 (d : Int) (x : Nat) (w : World) (hx : x < 18446744073709551616) (h1 : isNaN x = false) (hg : ngB x = true) :
    Calls Try.prog 15 #[.int .i64 d, .int .u64 (x : Int)] w fun e w' => e = .returned (.int .u64 (NaNc : Nat)) ∧ Ext w w' := by
  have HNX := Lib.hid (fun w => isnan_any x w hx)
  have HIX := Lib.hid (fun w => isinf3_any x w hx)
  have HGX := Lib.hid (fun w => neg3_ngB x w hx)
  have HV : Hid ((9221120237041090561 : Int) = (NaNc : Nat)) := Lib.hid rfl
  rw [h1] at HNX
  rw [hg] at HGX
  clear h1 hg hx
  go_enter Try.func15, Try.ntmps15
  go_wp2_with (first | (go_at_call 45; ((with_reducible refine (HNX.out _).mono ?_); rintro e w' ⟨rfl, rfl⟩)) | (go_at_call 47; ((with_reducible refine (HIX.out _).mono ?_); rintro e w' ⟨rfl, rfl⟩)) | (go_at_call 46; ((with_reducible refine (HGX.out _).mono ?_); rintro e w' ⟨rfl, rfl⟩)))
  go_ret
  exact ⟨ret_int HV.out, Ext.refl _⟩

set_option maxHeartbeats 1000000 in
theorem sqrt3_i (d : Int) (x : Nat) (w : World) (hx : x < 18446744073709551616) (h1 : isNaN x = false) (hg : ngB x = false) (hi : isInf x = true) :
    Calls Try.prog 15 #[.int .i64 d, .int .u64 (x : Int)] w fun e w' => e = .returned (.int .u64 (x : Nat)) ∧ Ext w w' := by
  have HNX := Lib.hid (fun w => isnan_any x w hx)
  have HIX := Lib.hid (fun w => isinf3_any x w hx)
  have HGX := Lib.hid (fun w => neg3_ngB x w hx)
  have HV : Hid ((9221120237041090561 : Int) = (NaNc : Nat)) := Lib.hid rfl
  rw [h1] at HNX
  rw [hg] at HGX
  rw [hi] at HIX
  clear h1 hg hi hx
  go_enter Try.func15, Try.ntmps15
  go_wp2_with (first | (go_at_call 45; ((with_reducible refine (HNX.out _).mono ?_); rintro e w' ⟨rfl, rfl⟩)) | (go_at_call 47; ((with_reducible refine (HIX.out _).mono ?_); rintro e w' ⟨rfl, rfl⟩)) | (go_at_call 46; ((with_reducible refine (HGX.out _).mono ?_); rintro e w' ⟨rfl, rfl⟩)))
  go_ret
  exact ⟨rfl, Ext.refl _⟩

set_option maxHeartbeats 1000000 in
theorem sqrt3_f (d : Int) (x : Nat) (w : World) (hx : x < 18446744073709551616) (h1 : isNaN x = false) (hg : ngB x = false) (hi : isInf x = false) (R : Nat) (hR : ∀ (A : Option Addr) (l c : Nat) (B : Option Addr) (k dd : Nat) (w : World), RatAt w A l c B k dd (fbN x) (fbD x) → Calls Try.prog 48 #[.int .i64 d, .agg #[.bool (ngB x), .slice A l c, .slice B k dd], .int .i64 2] w fun e w' => e = .returned (.int .u64 (R : Nat)) ∧ Ext w w') :
    Calls Try.prog 15 #[.int .i64 d, .int .u64 (x : Int)] w fun e w' => e = .returned (.int .u64 (R : Nat)) ∧ Ext w w' := by
  have HNX := Lib.hid (fun w => isnan_any x w hx)
  have HIX := Lib.hid (fun w => isinf3_any x w hx)
  have HGX := Lib.hid (fun w => neg3_ngB x w hx)
  have HV : Hid ((9221120237041090561 : Int) = (NaNc : Nat)) := Lib.hid rfl
  rw [h1] at HNX
  rw [hi] at HIX
  have HRO := Lib.hid hR
  have HFB : Hid (∀ w, Calls Try.prog 17 #[.int .u64 (x : Int)] w (RetR (ngB x) (fbN x) (fbD x) w)) := Lib.hid (fun w => frombits_any x w hx)
  rw [hg] at HGX
  clear hi hR h1 hg hx
  go_enter Try.func15, Try.ntmps15
  go_wp2_with (first | (go_at_call 45; ((with_reducible refine (HNX.out _).mono ?_); rintro e w' ⟨rfl, rfl⟩)) | (go_at_call 47; ((with_reducible refine (HIX.out _).mono ?_); rintro e w' ⟨rfl, rfl⟩)) | (go_at_call 46; ((with_reducible refine (HGX.out _).mono ?_); rintro e w' ⟨rfl, rfl⟩)))
  refine (HFB.out _).mono ?_
  rintro e w1 ⟨A1, n1', c1, A2, n2', c2, rfl, hW1, hW2, hE1⟩
  go_wp2_with fail
  refine (HRO.out _ _ _ _ _ _ _ ⟨hW1, hW2⟩).mono ?_
  rintro e w2 ⟨rfl, hE2⟩
  go_wp2
  go_ret
  exact ⟨rfl, hE1.trans hE2⟩

theorem sqrt3_any (d : Int) (x : Nat) (w : World) (hx : x < 18446744073709551616) :
    Calls Try.prog 15 #[.int .i64 d, .int .u64 (x : Int)] w fun e w' => e = .returned (.int .u64 (sqrtR d x : Nat)) ∧ Ext w w' := by
  have eg : ngP x = ngB x := rfl
  cases h1 : isNaN x
  case true =>
    have e : sqrtR d x = NaNc := by unfold sqrtR; rw [h1, Bool.true_or, if_pos rfl]
    rw [e]
    exact sqrt3_n1 d x w hx h1
  case false =>
    cases hg : ngB x
    case true =>
      have e : sqrtR d x = NaNc := by unfold sqrtR; rw [eg, hg, Bool.or_true, if_pos rfl]
      rw [e]
      exact sqrt3_n2 d x w hx h1 hg
    case false =>
      have e : sqrtR d x = if isInf x then x else if mg x = 0 then 0 else rootV d (sg x) (rv (mg x)) K74 2 := by unfold sqrtR; rw [h1, eg, hg, Bool.or_false, if_neg (by simp)]
      rw [e]
      cases hi : isInf x
      case true =>
        rw [if_pos rfl]
        exact sqrt3_i d x w hx h1 hg hi
      case false =>
        rw [if_neg (by simp)]
        exact sqrt3_f d x w hx h1 hg hi _ (fun A l c B m dd w h => root3_of d x 2 w (by omega) (by omega) A l c B m dd h)
end Go.Proofs.Ytmcfflecaklpcaa

/-
  The walk through RoundSquareRoots. Conditions: those that each theorem names.
-/
namespace Go.Proofs.Ytmcfflecaklpcaa
open Go.RowKit Nm Rn
set_option maxRecDepth 100000
set_option linter.unusedVariables false
set_option linter.unusedSimpArgs false

set_option maxHeartbeats 1000000 in
theorem sqroots_walk (d : Int) (x : Nat) (w : World) (hx : x < 18446744073709551616) :
    Calls Try.prog 4 #[.int .i64 d, .int .u64 (x : Int)] w fun e w' => e = .returned (.bool true) ∧ Ext w w' := by
  have HA := Lib.hid (fun w => rsqrt_any d x w hx)
  have HB := Lib.hid (fun w => sqrt3_any d x w hx)
  have HL := Lib.hid (fun r w h => lbits_any r w h)
  obtain ⟨V, hV⟩ : ∃ V, V = sqrtR d x := ⟨_, rfl⟩
  rw [← hV] at HA HB
  clear hV hx
  go_enter Try.func4, Try.ntmps4
  go_wp2_with (go_at_call 12; refine (fl_any _ _).mono ?_; rintro e w' ⟨rfl, rfl⟩)
  refine (HA.out _).mono ?_
  rintro e w1 ⟨r, rfl, hr, hc, hE⟩
  go_wp2_with fail
  refine (HL.out r _ hr).mono ?_
  rintro e w2 ⟨rfl, rfl⟩
  rw [hc]
  clear hc hr
  go_wp2_with fail
  refine (HB.out _).mono ?_
  rintro e w3 ⟨rfl, hE3⟩
  go_wp2
  go_ret
  exact ⟨by simp, hE.trans hE3⟩
end Go.Proofs.Ytmcfflecaklpcaa
