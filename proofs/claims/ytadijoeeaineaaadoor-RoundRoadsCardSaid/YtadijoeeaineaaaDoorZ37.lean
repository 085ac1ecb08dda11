/-
  Plain: the quick road of a square root answers the number rounded in the direction. Conditions: those that each theorem names.
-/
import Derived.Test.YtadijoeeaineaaaDoorZ36
import Derived.Test.YtadijoeeaineaaaDoorZ33
import Derived.Test.YtadijoeeaineaaaDoorZ07
import Derived.Test.YtadijoeeaineaaaDoorZ31
import Derived.Test.YtadijoeeaineaaaDoorZ17
set_option linter.unusedVariables false
set_option linter.unusedSimpArgs false
namespace Go.Proofs.YtadijoeeaineaaaDoor.Rn
open Nm

theorem Ks_K74 : 4 * Ks ≤ K74 := by
  obtain ⟨c, hc, hK⟩ : ∃ c : Nat, c = 1074 ∧ K74 = 2 ^ c := ⟨1074, rfl, K74_def⟩
  obtain ⟨a, ha, hK2⟩ : ∃ a : Nat, a = 174 ∧ Ks = 2 ^ a := ⟨174, rfl, Ks_def⟩
  rw [hK, hK2, show 4 * 2 ^ a = 2 ^ (a + 2) by rw [Nat.pow_add]; omega]
  exact Nat.pow_le_pow_right (by omega) (by omega)
theorem K74_Kg : 4 * K74 ≤ Kg := by
  obtain ⟨c, hc, hK⟩ : ∃ c : Nat, c = 1074 ∧ K74 = 2 ^ c := ⟨1074, rfl, K74_def⟩
  obtain ⟨a, ha, hK2⟩ : ∃ a : Nat, a = 1974 ∧ Kg = 2 ^ a := ⟨1974, rfl, Kg_def⟩
  rw [hK, hK2, show 4 * 2 ^ c = 2 ^ (c + 2) by rw [Nat.pow_add]; omega]
  exact Nat.pow_le_pow_right (by omega) (by omega)

/-- The root lies in the middle. -/
theorem sqrt_mid {x s : Nat} {X : Int} (hx : Fl x X) (mx : Mid X) (h0 : 0 < X) (hs : Ieee.double.sqrt x = some s) :
    ∃ Z f A, s = near Z ∧ mg s < infR ∧ s < 9223372036854775808 ∧ Z ≤ 4 * rv (infR - 2) ∧ Mid (sv s) ∧ rv f ≤ rv s ∧ rv s ≤ rv f + A ∧ 4503599627370496 * A ≤ rv f ∧ rv f * rv f ≤ rv (mg x) * K74 ∧ rv (mg x) * K74 < (rv f + A) * (rv f + A) ∧
      (∀ r, 4 * r ≤ Z ↔ r * r ≤ rv (mg x) * K74) ∧ (∀ r, 4 * r < Z ↔ r * r < rv (mg x) * K74) ∧ ∀ d, rootV d false (rv (mg x)) K74 2 = rnd d false Z := by
  have hxa := hx.abs
  have hX0 : 0 < rv (mg x) := by omega
  have hmx : mg x ≠ 0 := fun h => by rw [h, rv_zero] at hX0; omega
  have hsg : sg x = false := by
    cases h : sg x
    · rfl
    · have := hx.val
      unfold sv at this
      rw [h, if_pos rfl] at this
      omega
  obtain ⟨Z, e, z1, z2, z3⟩ := sqrt_fin hx.lt hx.fin hsg hmx
  rw [e] at hs
  injection hs with hs
  have hnl := near_lt' Z
  have hms : mg s = near Z := by rw [← hs, mg_word hnl]
  have hss : sg s = false := by rw [← hs, sg_word hnl]
  have hsl : s < 18446744073709551616 := by rw [← hs]; exact word_lt hnl
  have hsn : s = near Z := by
    have h1 := of_decide_eq_false (p := 9223372036854775808 ≤ s) hss
    unfold mg at hms
    omega
  have k1 := Ks_K74
  have k2 := K74_Kg
  have m1 := mx.1
  have m2 := mx.2
  rw [hxa] at m1 m2
  obtain ⟨Xn, hXn⟩ : ∃ Xn, Xn = rv (mg x) := ⟨_, rfl⟩
  rw [← hXn] at m1 m2 z1 z2 z3 hX0 ⊢
  have hZ1 : Z < 4 * Kg := by
    rcases Nat.lt_or_ge Z (4 * Kg) with h | h
    · exact h
    · exfalso
      have h1 := (z1 Kg).1 h
      have h2 : Xn * K74 ≤ Kg * K74 := Nat.mul_le_mul_right _ (by omega)
      have h3 : Kg * (4 * K74) ≤ Kg * Kg := Nat.mul_le_mul_left _ k2
      have h4 : Kg * (4 * K74) = 4 * (Kg * K74) := Nat.mul_left_comm _ _ _
      have h5 : 0 < Kg * K74 := Nat.mul_pos (by omega) K74_pos
      omega
  have hZ2 : Z ≤ 4 * rv (infR - 2) := by have := cap_rv; omega
  obtain ⟨n1, n2, n3⟩ := near_lt Z hZ2
  obtain ⟨f, hf⟩ : ∃ f, f = rung (Z / 4) := ⟨_, rfl⟩
  obtain ⟨w1, w2⟩ := rung_spec (Z / 4)
  rw [← hf] at w1 w2 n3
  have y1 : rv f * rv f ≤ Xn * K74 := (z1 _).1 (by omega)
  have y2 : Xn * K74 < rv (f + 1) * rv (f + 1) := by
    rcases Nat.lt_or_ge (Xn * K74) (rv (f + 1) * rv (f + 1)) with h | h
    · exact h
    · have := (z1 _).2 h; omega
  obtain ⟨sf, g1, g2, g3, g4⟩ := rv_dvd f
  obtain ⟨v, hv⟩ : ∃ v, v = f / 4503599627370496 - 1 := ⟨_, rfl⟩
  rw [← hv] at g1 g2 g4
  have hu2 : rv (f + 1) = rv f + 2 ^ v := by rw [g2, g1, Nat.add_mul, Nat.one_mul]
  have hKs : 9007199254740992 ≤ Ks := by
    obtain ⟨a, ha, hK2⟩ : ∃ a : Nat, a = 174 ∧ Ks = 2 ^ a := ⟨174, rfl, Ks_def⟩
    rw [hK2, show (9007199254740992 : Nat) = 2 ^ 53 by decide]
    exact Nat.pow_le_pow_right (by omega) (by omega)
  -- not small
  have hlo : Ks < rv f := by
    rcases Nat.lt_or_ge Ks (rv f) with h | h
    · exact h
    · exfalso
      have h1 : rv (f + 1) ≤ 2 * Ks := by
        by_cases h2 : v = 0
        · rw [h2, Nat.pow_zero] at hu2; omega
        · have h3 := Nat.mul_le_mul_right (2 ^ v) (g4 h2)
          rw [← g1] at h3
          omega
      have h4 := Nat.mul_le_mul h1 h1
      have h5 : Ks * (4 * Ks) ≤ Xn * K74 := Nat.mul_le_mul (by omega) k1
      have h6 : 2 * Ks * (2 * Ks) = Ks * (4 * Ks) := by
        rw [show 4 * Ks = 2 * (2 * Ks) by omega]; ac_rfl
      omega
  have hv0 : v ≠ 0 := by
    intro h
    rw [h, Nat.pow_zero] at g1 g2
    omega
  have hA : 4503599627370496 * 2 ^ v ≤ rv f := by rw [g1]; exact Nat.mul_le_mul_right _ (g4 hv0)
  -- not great
  have hhi : rv (f + 1) < Kg := by
    rcases Nat.lt_or_ge (rv (f + 1)) Kg with h | h
    · exact h
    · exfalso
      have h1 : Kg ≤ 2 * rv f := by omega
      have h2 : Kg * Kg ≤ 2 * rv f * (2 * rv f) := Nat.mul_le_mul h1 h1
      have h3 : 2 * rv f * (2 * rv f) = 4 * (rv f * rv f) := by
        rw [show (4 : Nat) = 2 * 2 from rfl]; ac_rfl
      have h4 : Kg * (4 * K74) ≤ Kg * Kg := Nat.mul_le_mul_left _ k2
      have h5 : Kg * (4 * K74) = 4 * (Kg * K74) := Nat.mul_left_comm _ _ _
      have h6 : Xn * K74 < Kg * K74 := Nat.mul_lt_mul_of_pos_right m2 K74_pos
      omega
  have r1 : rv f ≤ rv s := rv_le (by omega)
  have r2 : rv s ≤ rv (f + 1) := rv_le (by omega)
  have hab : (sv s).natAbs = rv s := by rw [sv_abs, hms, hsn]
  refine ⟨Z, f, 2 ^ v, hsn, by rw [hms]; exact n1, by omega, hZ2, ⟨by omega, by omega⟩, r1, by omega, hA, y1, by rw [← hu2]; exact y2, z1, z2, z3⟩

set_option maxHeartbeats 4000000 in
theorem sqrt_quick {x s p : Nat} {X : Int} (hx : Fl x X) (mx : Mid X) (h0 : 0 < X) (hs : Ieee.double.sqrt x = some s) (hp : Ieee.double.mul s s = some p) (fp : mg p < infR) (mp : Mid (sv p)) :
    ∃ m a b M E, MissedOps s s p m ∧ Ieee.double.sub x p = some a ∧ Ieee.double.sub a m = some b ∧ Fl m M ∧ Fl b E ∧ ∀ d, rootV d false (rv (mg x)) K74 2 = kp (key s + adj d E) := by
  obtain ⟨Z, f, A, hsn, fs, hsl, hZ, ms, r1, r2, hA, y1, y2, z1, z2, z3⟩ := sqrt_mid hx mx h0 hs
  have hF : Fl s (sv s) := Fl.of (by omega) fs
  have hsv : sv s = (rv s : Int) := by
    unfold sv sg mg
    rw [decide_eq_false (by omega), if_neg (by simp), Nat.mod_eq_of_lt hsl]
  obtain ⟨r, m, hr, hr0, hrg, om, fpr, fm, -⟩ := mul_quick hF hF ms ms hp fp mp
  have hK := K74_pos
  rw [K74_i, hsv] at hr
  have hrp : 0 < r := by
    rcases Int.lt_or_le 0 r with h | h
    · exact h
    · exfalso
      have h1 : r < 0 := by omega
      have h2 : r * (K74 : Int) < 0 := Int.mul_neg_of_neg_of_pos h1 (by omega)
      have h3 : (0 : Int) ≤ (rv s : Int) * (rv s : Int) := Int.mul_nonneg (by omega) (by omega)
      omega
  obtain ⟨rn', hrn⟩ : ∃ k : Nat, r = (k : Int) := ⟨r.toNat, by omega⟩
  have hrv : rn' * K74 = rv s * rv s := by
    rw [hrn] at hr
    have h1 : ((rn' * K74 : Nat) : Int) = ((rv s * rv s : Nat) : Int) := by push_cast; exact hr
    omega
  obtain ⟨Xn, hXn⟩ : ∃ Xn, Xn = rv (mg x) := ⟨_, rfl⟩
  have hxa := hx.abs
  rw [← hXn] at y1 y2 z1 z2 z3 hxa ⊢
  have hXe : X = (Xn : Int) := by omega
  obtain ⟨F, hFd⟩ : ∃ F, F = rv f := ⟨_, rfl⟩
  rw [← hFd] at r1 r2 hA y1 y2
  have q0 : (F + A) * (F + A) ≤ F * F + 3 * (F * A) := by
    have e : (F + A) * (F + A) = F * F + 2 * (F * A) + A * A := by
      rw [Nat.add_mul, Nat.mul_add, Nat.mul_add, Nat.mul_comm A F]; omega
    have : A * A ≤ F * A := Nat.mul_le_mul_right _ (by omega)
    omega
  have q1 : 4503599627370496 * (F * A) ≤ F * F := by
    rw [Nat.mul_left_comm]; exact Nat.mul_le_mul_left _ hA
  have q2 : F * F ≤ rn' * K74 := by rw [hrv]; exact Nat.mul_le_mul r1 r1
  have q3 : rn' * K74 ≤ (F + A) * (F + A) := by rw [hrv]; exact Nat.mul_le_mul r2 r2
  have c1 : 4503599627370496 * rn' ≤ 4503599627370499 * Xn := by
    have : (4503599627370496 * rn') * K74 ≤ (4503599627370499 * Xn) * K74 := by rw [Nat.mul_assoc, Nat.mul_assoc]; omega
    exact Nat.le_of_mul_le_mul_right this hK
  have c2 : 4503599627370496 * Xn ≤ 4503599627370499 * rn' := by
    have : (4503599627370496 * Xn) * K74 ≤ (4503599627370499 * rn') * K74 := by rw [Nat.mul_assoc, Nat.mul_assoc]; omega
    exact Nat.le_of_mul_le_mul_right this hK
  clear q0 q1 q2 q3
  have hPr : 9007199254740992 * (rn r - r).natAbs ≤ r.natAbs := by
    have h1 := ex_hi r.natAbs
    have h2 := rn_err h1
    by_cases h3 : ex r.natAbs = 0
    · rw [h3, Nat.pow_zero] at h2; omega
    · have h4 := ex_lo h3
      omega
  have hrep : RpZ (X - rn r) := sterbZ hx.rp (rn_rp _) (by omega)
  have bX := mx.2
  obtain ⟨a, oa, fa⟩ := hx.sub fpr (nr_cap (by omega))
  rw [rn_of hrep] at fa
  obtain ⟨b, ob, fb⟩ := fa.sub fm (nr_cap (by omega))
  rw [show X - rn r - (r - rn r) = X - r by omega] at fb
  refine ⟨m, a, b, _, _, om, oa, ob, fm, fb, fun d => ?_⟩
  obtain ⟨p1, p2⟩ := rn_pos (S := X - r)
  rw [z3 d]
  have t1 : 4 * rv (near Z) < Z ↔ rn' < Xn := by
    rw [z2, ← hsn, ← hrv]
    exact ⟨fun h => Nat.lt_of_mul_lt_mul_right h, fun h => Nat.mul_lt_mul_of_pos_right h hK⟩
  have t2 : Z < 4 * rv (near Z) ↔ Xn < rn' := by
    have h1 : 4 * rv (near Z) ≤ Z ↔ rn' ≤ Xn := by
      rw [z1, ← hsn, ← hrv]
      exact ⟨fun h => Nat.le_of_mul_le_mul_right h hK, fun h => Nat.mul_le_mul_right _ h⟩
    omega
  refine rnd_nudge d false hZ (K := key s) ?_ ?_ ?_
  · rw [if_neg (by simp), ← hsn]
    unfold key sg mg
    rw [decide_eq_false (by omega), if_neg (by simp), Nat.mod_eq_of_lt hsl]
  · rw [if_neg (by simp), t1, p1]; omega
  · rw [if_neg (by simp), t2, p2]; omega
end Go.Proofs.YtadijoeeaineaaaDoor.Rn

/-
  The contract of the program's Sqrt. Conditions: those that each theorem names.
-/
namespace Go.Proofs.YtadijoeeaineaaaDoor
open Go.RowKit Nm Rn
set_option maxRecDepth 100000
set_option linter.unusedVariables false
set_option linter.unusedSimpArgs false

/-- What Sqrt answers. -/
noncomputable def sqrtR (d : Int) (x : Nat) : Nat :=
  if (isNaN x || ngP x) = true then NaNc else if isInf x then x else if mg x = 0 then 0 else rootV d (sg x) (rv (mg x)) K74 2

theorem callSq (args : Array Value) (w : World) : (callFunc 123 args).run Tryd.prog w = ((Extern.MathSqrt.sqrt args).run Tryd.prog w).andThen fun v w' => .ok (.value v) w' :=
  run_callFunc_extern Tryd.func123 (by kernel_rfl) (by kernel_rfl) (by kernel_rfl) (by kernel_rfl) args w
theorem callSq_some {x s : Nat} (h : Ieee.double.sqrt x = some s) (w : World) : (callFunc 123 #[.float .f64 x]).run Tryd.prog w = .ok (.value (.float .f64 s)) w := by
  have h' : FloatKind.f64.format.sqrt x = some s := h
  rw [callSq]
  have e : Extern.MathSqrt.sqrt #[Value.float .f64 x] = (match FloatKind.f64.format.sqrt x with | some r => pure (Value.float .f64 r) | none => do pure (Value.float .f64 (← choose (.nanBits .f64 x x)))) := rfl
  rw [e, h']
  rfl
theorem callSq_none {x : Nat} (h : Ieee.double.sqrt x = none) (w : World) : (callFunc 123 #[.float .f64 x]).run Tryd.prog w = .ok (.value (.float .f64 (nanOf w x x))) w.drew := by
  have h' : FloatKind.f64.format.sqrt x = none := h
  rw [callSq]
  have e : Extern.MathSqrt.sqrt #[Value.float .f64 x] = (match FloatKind.f64.format.sqrt x with | some r => pure (Value.float .f64 r) | none => do pure (Value.float .f64 (← choose (.nanBits .f64 x x)))) := rfl
  rw [e, h']
  simp [Question.forced, nanOf]
set_option maxHeartbeats 400000 in
theorem msq_some {x s : Nat} (h : Ieee.double.sqrt x = some s) (w : World) : Calls Tryd.prog 85 #[.float .f64 x] w fun e w' => e = .returned (.float .f64 s) ∧ w = w' := by
  have hd := callSq_some h
  go_enter Tryd.func85, Tryd.ntmps85
  go_wp2
  go_ret
  exact ⟨rfl, rfl⟩
set_option maxHeartbeats 400000 in
theorem msq_none {x : Nat} (h : Ieee.double.sqrt x = none) (w : World) : Calls Tryd.prog 85 #[.float .f64 x] w fun e w' => e = .returned (.float .f64 (nanOf w x x)) ∧ w.drew = w' := by
  have hd := callSq_none h
  go_enter Tryd.func85, Tryd.ntmps85
  go_wp2
  go_ret
  exact ⟨rfl, rfl⟩

theorem sqrt_odd {x : Nat} (hx : x < 18446744073709551616) (h : (isNaN x || isInf x || decide (mg x = 0) || sg x) = true) :
    (Ieee.double.sqrt (pl x) = none ∧ ∀ d, sqrtR d x = NaNc) ∨ (∃ s, Ieee.double.sqrt (pl x) = some s ∧ s < 18446744073709551616 ∧ isNaN s = false ∧ ∀ d, sqrtR d x = s) := by
  have hv := infR_val
  cases h1 : isNaN x
  case true =>
    refine .inl ⟨?_, fun d => by unfold sqrtR; rw [h1, Bool.true_or, if_pos rfl]⟩
    have hn := (isNaN_iff x).1 h1
    rw [pl_same (by omega)]
    unfold Ieee.Format.sqrt
    rw [read_nan hx hn]
    rfl
  case false =>
    cases h2 : isInf x
    case true =>
      have hi := (isInf_iff x).1 h2
      have hm : mg x ≠ 0 := by omega
      rw [pl_same hm]
      cases h3 : sg x
      case true =>
        refine .inl ⟨?_, fun d => by unfold sqrtR ngP; rw [h3, decide_eq_true hm, Bool.and_true, Bool.or_true, if_pos rfl]⟩
        unfold Ieee.Format.sqrt
        rw [read_inf hx hi, h3]
        rfl
      case false =>
        have hxe : x = infR := by
          have h4 := of_decide_eq_false (p := 9223372036854775808 ≤ x) h3
          unfold mg at hi
          omega
        refine .inr ⟨x, ?_, hx, h1, fun d => by unfold sqrtR ngP; rw [h1, h2, h3, Bool.false_and, Bool.false_or, if_neg (by simp), if_pos rfl]⟩
        rw [hxe]
        decide +kernel
    case false =>
      by_cases h3 : mg x = 0
      · rw [pl_zero h3 hx]
        refine .inr ⟨0, by decide +kernel, by omega, by decide, fun d => by unfold sqrtR ngP; rw [h1, h2, decide_eq_false (by omega), Bool.and_false, Bool.false_or, if_neg (by simp), if_neg (by simp), if_pos h3]⟩
      · have h4 : sg x = true := by
          rw [h1, h2, decide_eq_false h3, Bool.false_or, Bool.false_or, Bool.false_or] at h
          exact h
        refine .inl ⟨?_, fun d => by unfold sqrtR ngP; rw [h4, decide_eq_true (show mg x ≠ 0 from h3), Bool.and_true, Bool.or_true, if_pos rfl]⟩
        rw [pl_same h3]
        have hf : mg x < infR := by
          have g1 : ¬ infR < mg x := fun e => by rw [(isNaN_iff x).2 e] at h1; cases h1
          have g2 : ¬ mg x = infR := fun e => by rw [(isInf_iff x).2 e] at h2; cases h2
          omega
        obtain ⟨m, i, e1, hi, v1⟩ := read_fin hx hf
        have hm : m ≠ 0 := by
          intro e
          rw [e, Nat.zero_mul] at v1
          exact h3 (rv_eq_zero.1 v1.symm)
        unfold Ieee.Format.sqrt
        rw [e1, h4]
        simp only [Ieee.Datum.root, if_neg hm, if_true, Option.map_none]

set_option maxHeartbeats 2000000 in
theorem rsqrt_odd (d : Int) (x : Nat) (w : World) (hx : x < 18446744073709551616) (ho : (isNaN x || isInf x || decide (mg x = 0) || sg x) = true) :
    Calls Tryd.prog 18 #[.int .i64 d, .float .f64 x] w (RetFl (sqrtR d x) w) := by
  have hm := sqrt_odd hx ho
  have hyl := pl_lt hx
  have HPX := Lib.hid (fun w => rplain_any x w hx)
  have hcond : oddF (pl x) = true ∨ (oddF (pl x) = false ∧ leB (pl x) 0 = true) := by
    rw [odd_pl hx]
    cases hod : oddF x
    · refine .inr ⟨rfl, ?_⟩
      have hf := oddF_fin hod
      have hF := Fl.of hyl (by rw [mg_pl x hx]; exact hf)
      rw [hF.leB Fl.zero]
      refine decide_eq_true ?_
      unfold oddF at hod
      rw [Bool.or_eq_false_iff] at hod
      rw [hod.1, hod.2, Bool.false_or, Bool.false_or] at ho
      by_cases hz : mg x = 0
      · rw [pl_zero hz hx]; decide
      · rw [decide_eq_false hz, Bool.false_or] at ho
        rw [pl_same hz]
        unfold sv
        rw [ho, if_pos rfl]
        omega
    · exact .inl rfl
  obtain ⟨y, hy⟩ : ∃ y, y = pl x := ⟨_, rfl⟩
  rw [← hy] at hm hyl HPX hcond
  have hE0 : Ext w (w.alloc (.cells #[.float .f64 y] 24)) := (Ext.refl w).alloc _
  have hc0 : (w.alloc (.cells #[.float .f64 y] 24)).cell? ⟨w.heap.size, 0, none⟩ = some (.float .f64 y) := by simp
  have HO := Lib.hid (fun g w c0 => odd_one g y w c0 hyl)
  have q1 := fo_le hyl (show 0 < 18446744073709551616 by omega)
  obtain ⟨oo, hoo⟩ : ∃ oo, oo = oddF y := ⟨_, rfl⟩
  obtain ⟨ll, hll⟩ : ∃ ll, ll = leB y 0 := ⟨_, rfl⟩
  rw [← hoo] at HO hcond
  rw [← hll] at q1 hcond
  obtain ⟨V, hV⟩ : ∃ V, V = sqrtR d x := ⟨_, rfl⟩
  rw [← hV]
  rcases hm with ⟨hm, hr⟩ | ⟨s, hm, hs, hsn, hr⟩
  · have hr' := hr d
    rw [← hV] at hr'
    have HV := Lib.hid hr'
    have HSQ := Lib.hid (fun w => msq_none hm w)
    clear hm hr hr' hV hx ho hy hoo hll
    rcases hcond with rfl | ⟨rfl, rfl⟩
    all_goals
      go_enter Tryd.func18, Tryd.ntmps18
      go_wp2
      go_step3
      go_wp2_with (go_at_call 82; refine (HPX.out _).mono ?_; rintro e w' ⟨rfl, rfl⟩)
      generalize w.heap.size = g0 at hc0 ⊢
      generalize w.alloc _ = w1 at hE0 hc0 ⊢
      go_wp2_with (first | (go_at_call 74; refine (HO.out _ _ hc0).mono ?_; rintro e w' ⟨rfl, rfl⟩) | (go_at_call 85; refine (HSQ.out _).mono ?_; rintro e w' ⟨rfl, rfl⟩))
      rw [Exit.noGoto_ret]
      go_ret
      exact ⟨_, rfl, nanOf_lt _ y y, by rw [cn_nan (nanOf_nan _ y y)]; exact HV.out.symm, hE0.drew⟩
  · have hr' := hr d
    rw [← hV] at hr'
    have HV := Lib.hid hr'
    have HSQ := Lib.hid (fun w => msq_some hm w)
    have HS := Lib.hid (And.intro hs (cn_num hsn))
    clear hm hr hr' hV hx ho hy hoo hll hs hsn
    rcases hcond with rfl | ⟨rfl, rfl⟩
    all_goals
      go_enter Tryd.func18, Tryd.ntmps18
      go_wp2
      go_step3
      go_wp2_with (go_at_call 82; refine (HPX.out _).mono ?_; rintro e w' ⟨rfl, rfl⟩)
      generalize w.heap.size = g0 at hc0 ⊢
      generalize w.alloc _ = w1 at hE0 hc0 ⊢
      go_wp2_with (first | (go_at_call 74; refine (HO.out _ _ hc0).mono ?_; rintro e w' ⟨rfl, rfl⟩) | (go_at_call 85; refine (HSQ.out _).mono ?_; rintro e w' ⟨rfl, rfl⟩))
      rw [Exit.noGoto_ret]
      go_ret
      exact ⟨_, rfl, HS.out.1, by rw [HS.out.2]; exact HV.out.symm, hE0⟩

set_option maxHeartbeats 4000000 in
theorem rsqrt_fin (d : Int) (x : Nat) (w : World) (hx : x < 18446744073709551616) (ho : oddF x = false) (h0 : mg x ≠ 0) (hsg : sg x = false) :
    Calls Tryd.prog 18 #[.int .i64 d, .float .f64 x] w fun e w' => e = .returned (.float .f64 (rootV d false (rv (mg x)) K74 2)) ∧ Ext w w' := by
  have HPL := Lib.hid (fun w => rplain_any x w hx)
  rw [pl_same h0] at HPL
  have hE0 : Ext w (w.alloc (.cells #[.float .f64 x] 24)) := (Ext.refl w).alloc _
  have hc0 : (w.alloc (.cells #[.float .f64 x] 24)).cell? ⟨w.heap.size, 0, none⟩ = some (.float .f64 x) := by simp
  have HO := Lib.hid (fun g w c0 => odd_one g x w c0 hx)
  rw [ho] at HO
  have fx := oddF_fin ho
  have hFx := Fl.of hx fx
  have hsv : sv x = (rv (mg x) : Int) := by unfold sv; rw [hsg, if_neg (by simp)]
  have hrp : 0 < rv (mg x) := Nat.pos_of_ne_zero fun e => h0 (rv_eq_zero.1 e)
  obtain ⟨Z0, hm, -, -, -⟩ := sqrt_fin hx fx hsg h0
  have hnl := near_lt' Z0
  obtain ⟨s, hs⟩ : ∃ s, s = Ieee.double.word false (near Z0) := ⟨_, rfl⟩
  rw [← hs] at hm
  have hsl : s < 18446744073709551616 := by rw [hs]; exact word_lt hnl
  have hsi : mg s ≤ infR := by rw [hs, mg_word hnl]; exact near_le _
  have q1 := fo_le hx (show 0 < 18446744073709551616 by omega)
  rw [hFx.leB Fl.zero, decide_eq_false (by omega)] at q1
  have HSQ := Lib.hid (fun w => msq_some hm w)
  have HMX := Lib.hid (fun w => middle_any x w hx (by omega))
  obtain ⟨V, hV⟩ : ∃ V, V = rootV d false (rv (mg x)) K74 2 := ⟨_, rfl⟩
  rw [← hV]
  have hmul : ∃ p, Ieee.double.mul s s = some p ∧ p < 18446744073709551616 ∧ mg p ≤ infR := by
    by_cases hf : mg s < infR
    · refine ⟨_, mul_fin hsl hsl hf hf, word_lt (near_lt' _), ?_⟩
      rw [mg_word (near_lt' _)]
      exact near_le _
    · have hse : mg s = infR := by omega
      have hss : sg s = false := by rw [hs, sg_word hnl]
      have hs2 : s = infR := by
        have h4 := of_decide_eq_false (p := 9223372036854775808 ≤ s) hss
        unfold mg at hse
        omega
      refine ⟨infR, ?_, by rw [infR_val]; omega, by rw [infR_val]; decide⟩
      rw [hs2]
      decide +kernel
  obtain ⟨p, hp, hpl, hpi⟩ := hmul
  have hrun2 := fun w => fmul hp w
  have HMP := Lib.hid (fun w => middle_any p w hpl hpi)
  obtain ⟨b1, hb1⟩ : ∃ b, b = midB x := ⟨_, rfl⟩
  obtain ⟨b4, hb4⟩ : ∃ b, b = midB p := ⟨_, rfl⟩
  rw [← hb1] at HMX
  rw [← hb4] at HMP
  by_cases hb : b1 = true ∧ b4 = true
  · obtain ⟨rfl, rfl⟩ := hb
    obtain ⟨mx, -⟩ := mid_of hb1.symm
    obtain ⟨mp, fp⟩ := mid_of hb4.symm
    obtain ⟨-, -, -, -, fs, -⟩ := sqrt_mid hFx mx (by omega) hm
    obtain ⟨m, a, b, M, E, om, ha, hb, fM, fE, hres⟩ := sqrt_quick hFx mx (by omega) hm hp fp mp
    have hrun3 := fun w => fsub ha w
    have hrun4 := fun w => fsub hb w
    have HMI := Lib.hid (fun w => missed_any s s p m w om)
    have hk := hres d
    rw [← hV] at hk
    have HNU := Lib.hid (fun w => nudge_any d s b E w hsl fs fE.lt (by rw [fE.ltB Fl.zero]) (by rw [Fl.zero.ltB fE]))
    rw [← hk] at HNU
    clear hk hres fE fM om ha hb mx mp fp fs hb1 hb4 hV hpi hpl hp hsi hsl hs hnl hm fx ho hx h0 hsg hsv hrp hFx
    go_enter Tryd.func18, Tryd.ntmps18
    go_wp2
    go_step3
    go_wp2_with (go_at_call 82; refine (HPL.out _).mono ?_; rintro e w' ⟨rfl, rfl⟩)
    generalize w.heap.size = g0 at hc0 ⊢
    generalize w.alloc _ = w1 at hE0 hc0 ⊢
    go_wp2_with (first | (go_at_call 74; refine (HO.out _ _ hc0).mono ?_; rintro e w' ⟨rfl, rfl⟩) | (go_at_call 85; refine (HSQ.out _).mono ?_; rintro e w' ⟨rfl, rfl⟩) | (go_at_call 75; ((with_reducible refine (HMX.out _).mono ?_); rintro e w' ⟨rfl, rfl⟩)) | (go_at_call 75; ((with_reducible refine (HMP.out _).mono ?_); rintro e w' ⟨rfl, rfl⟩)) | (go_at_call 77; refine (HMI.out _).mono ?_; rintro e w' ⟨rfl, rfl⟩) | (go_at_call 78; refine (HNU.out _).mono ?_; rintro e w' ⟨rfl, rfl⟩))
    rw [Exit.noGoto_ret]
    go_ret
    exact ⟨rfl, hE0⟩
  · have hcase : b1 = false ∨ (b1 = true ∧ b4 = false) := by cases b1 <;> cases b4 <;> simp_all
    have HPX := Lib.hid (fun w => part_any x w hx)
    rw [hsg] at HPX
    have HRO : Hid (∀ A l c w, Wds w A l c (nd (fbSig x)) → Calls Tryd.prog 84 #[.int .i64 d, .agg #[.bool false, .slice A l c, .int .i64 (fbExp x)], .int .i64 2] w fun e w' => e = .returned (.float .f64 V) ∧ Ext w w') := Lib.hid (fun A l c w h => by
      have := root_any d false A l c (fbSig x) (fbExp x + 1074).toNat 2 (fbExp x) w h (by rcases Nat.eq_zero_or_pos (fbSig x) with e | e; exact absurd ((fbSig_zero x).1 e) h0; exact e) (by rw [bl_le_iff]; exact fbSig_lt x) (by have := fbExp_lo x; omega) (by have := fbExp_hi x; omega) (by omega) (by omega)
      rw [← fb_rv, ← hV] at this
      exact this)
    clear hb hb1 hb4 hV hpi hpl hp hsi hsl hs hnl hm fx ho hx h0 hsg hsv hrp hFx
    rcases hcase with rfl | ⟨rfl, rfl⟩
    all_goals
      go_enter Tryd.func18, Tryd.ntmps18
      go_wp2
      apply wp_scope_to (l := 0) (hf := by rfl)
      · go_wp2_with (first | (go_at_call 82; refine (HPL.out _).mono ?_; rintro e w' ⟨rfl, rfl⟩) | (go_at_call 74; refine (HO.out _ _ hc0).mono ?_; rintro e w' ⟨rfl, rfl⟩) | (go_at_call 85; refine (HSQ.out _).mono ?_; rintro e w' ⟨rfl, rfl⟩) | (go_at_call 75; ((with_reducible refine (HMX.out _).mono ?_); rintro e w' ⟨rfl, rfl⟩)) | (go_at_call 75; ((with_reducible refine (HMP.out _).mono ?_); rintro e w' ⟨rfl, rfl⟩)))
        go_step3
        exact ⟨rfl, rfl, rfl⟩
      · go_wp2_with fail
        refine (HPX.out _).mono ?_
        rintro e w2 ⟨A1, n1, c1, rfl, hR1, hE1⟩
        go_wp2_with fail
        refine (HRO.out _ _ _ _ hR1).mono ?_
        rintro e w4 ⟨rfl, hE3⟩
        go_wp2
        rw [jump_ret]
        go_ret
        exact ⟨rfl, (hE0.trans hE1).trans hE3⟩

theorem rsqrt_any (d : Int) (x : Nat) (w : World) (hx : x < 18446744073709551616) :
    Calls Tryd.prog 18 #[.int .i64 d, .float .f64 x] w (RetFl (sqrtR d x) w) := by
  cases ho : (isNaN x || isInf x || decide (mg x = 0) || sg x)
  · rw [Bool.or_eq_false_iff, Bool.or_eq_false_iff] at ho
    obtain ⟨⟨h1, h2⟩, h3⟩ := ho
    have hz : mg x ≠ 0 := of_decide_eq_false h2
    have h1' := h1
    rw [Bool.or_eq_false_iff] at h1
    refine (rsqrt_fin d x w hx h1' hz h3).mono ?_
    rintro e w' ⟨rfl, hE⟩
    have e1 : sqrtR d x = rootV d false (rv (mg x)) K74 2 := by
      unfold sqrtR ngP
      rw [h1.1, h1.2, h3, Bool.false_and, Bool.false_or, if_neg (by simp), if_neg (by simp), if_neg hz]
    have hk := rootV_ok d false (rv (mg x)) K74 2
    exact ⟨_, rfl, hk.1, by rw [e1]; exact cn_num hk.2, hE⟩
  · exact rsqrt_odd d x w hx ho
end Go.Proofs.YtadijoeeaineaaaDoor

/-
  The contract of the layer's lives. Conditions: those that each theorem names.
-/
namespace Go.Proofs.YtadijoeeaineaaaDoor
open Go.RowKit Nm Rn
set_option maxRecDepth 100000
set_option linter.unusedVariables false
set_option linter.unusedSimpArgs false

theorem lbv_any (r V : Nat) (i : Int) (w : World) (h : r < 18446744073709551616) (hc : cn r = V) (e : (V : Int) = i) :
    Calls Tryd.prog 9 #[.float .f64 r] w fun e w' => e = .returned (.int .u64 i) ∧ w = w' := by
  have := lbits_any r w h
  rwa [hc, e] at this
theorem flv_any (b : Nat) (i : Int) (w : World) (e : (b : Int) = i) :
    Calls Tryd.prog 11 #[.int .u64 i] w fun e w' => e = .returned (.float .f64 b) ∧ w = w' := by
  have := fl_any b w
  rwa [e] at this
/-- A root, out of its digits. -/
theorem rootV_at (d : Int) (neg : Bool) (N n : Nat) (a r V : Nat) (o : Bool) (hn : n ≠ 0) (h1 : r ^ n * K74 ≤ N * 2 ^ a) (h2 : N * 2 ^ a < (r + 1) ^ n * K74) (ho : o = decide (r ^ n * K74 ≠ N * 2 ^ a)) (hb : o = true → 55 ≤ bl r) (k : Nat) (ha : a = n * k) (hV : rnd d neg (zd (2 * r + o.toNat) (-(k : Int) - 1)) = V) : rootV d neg N K74 n = V := by
  have hat : RootAt N K74 n k r o := ⟨a, 0, by push_cast [ha]; omega, by rw [Nat.pow_zero, Nat.mul_one]; exact h1, by rw [Nat.pow_zero, Nat.mul_one]; exact h2, by rw [Nat.pow_zero, Nat.mul_one]; exact ho⟩
  rw [← hV]
  exact (hat.val hn K74_pos hb d neg).symm
theorem v_S1 : sqrtR 1 4611686018427387904 = 4609047870845172685 := by
  unfold sqrtR
  rw [if_neg (by decide), if_neg (by decide), if_neg (by decide)]
  exact rootV_at 1 (sg 4611686018427387904) (rv (mg 4611686018427387904)) 2 200 1792728671193156477399422023278 _ true (by decide) (by decide +kernel) (by decide +kernel) (by decide +kernel) (fun _ => by decide +kernel) 100 (by decide) (by decide +kernel)
theorem v_A1 : addR 1 4607182418800017408 1 = 4607182418800017409 := by decide +kernel
theorem v_D1 : divR (-1) 4607182418800017408 4613937818241073152 = 4599676419421066581 := by decide +kernel
theorem v_M1 : mulR 1 1 1 = 1 := by decide +kernel
theorem v_A2 : addR (-1) 9218868437227405311 9218868437227405311 = 9218868437227405311 := by decide +kernel
set_option maxHeartbeats 1000000 in
theorem lives_any (w : World) : Calls Tryd.prog 21 #[] w fun e w' => e = .returned (.bool true) ∧ Ext w w' := by
  have HLB := Lib.hid (fun r V i w h hc e => lbv_any r V i w h hc e)
  have FL1 := Lib.hid (fun w => flv_any 1 1 w rfl)
  have FL2 := Lib.hid (fun w => flv_any 9218868437227405311 9218868437227405311 w rfl)
  have HA1 : Hid (∀ w, Calls Tryd.prog 14 #[.int .i64 1, .float .f64 4607182418800017408, .float .f64 1] w (RetFl 4607182418800017409 w)) := Lib.hid (fun w => by
    have := radd_any_ 1 4607182418800017408 1 w (by decide) (by decide)
    rw [v_A1] at this
    exact this)
  have HD1 : Hid (∀ w, Calls Tryd.prog 16 #[.int .i64 (-1), .float .f64 4607182418800017408, .float .f64 4613937818241073152] w (RetFl 4599676419421066581 w)) := Lib.hid (fun w => by
    have := rdiv_any (-1) 4607182418800017408 4613937818241073152 w (by decide) (by decide)
    rw [v_D1] at this
    exact this)
  have HS1 : Hid (∀ w, Calls Tryd.prog 18 #[.int .i64 1, .float .f64 4611686018427387904] w (RetFl 4609047870845172685 w)) := Lib.hid (fun w => by
    have := rsqrt_any 1 4611686018427387904 w (by decide)
    rw [v_S1] at this
    exact this)
  have HM1 : Hid (∀ w, Calls Tryd.prog 15 #[.int .i64 1, .float .f64 1, .float .f64 1] w (RetFl 1 w)) := Lib.hid (fun w => by
    have := rmul_any 1 1 1 w (by decide) (by decide)
    rw [v_M1] at this
    exact this)
  have HA2 : Hid (∀ w, Calls Tryd.prog 14 #[.int .i64 (-1), .float .f64 9218868437227405311, .float .f64 9218868437227405311] w (RetFl 9218868437227405311 w)) := Lib.hid (fun w => by
    have := radd_any_ (-1) 9218868437227405311 9218868437227405311 w (by decide) (by decide)
    rw [v_A2] at this
    exact this)
  go_enter Tryd.func21, Tryd.ntmps21
  go_wp2_with (first | (go_at_call 11; ((with_reducible refine (FL1.out _).mono ?_); rintro e w' ⟨rfl, rfl⟩)) | (go_at_call 11; ((with_reducible refine (FL2.out _).mono ?_); rintro e w' ⟨rfl, rfl⟩)))
  have hE : Ext w w := Ext.refl w
  refine (HA1.out _).mono ?_
  rintro e w0a ⟨r, rfl, hr, hc, hE'⟩
  replace hE := hE.trans hE'
  clear hE'
  go_wp2_with (first | (go_at_call 11; ((with_reducible refine (FL1.out _).mono ?_); rintro e w' ⟨rfl, rfl⟩)) | (go_at_call 11; ((with_reducible refine (FL2.out _).mono ?_); rintro e w' ⟨rfl, rfl⟩)))
  refine (HLB.out r 4607182418800017409 4607182418800017409 _ hr hc rfl).mono ?_
  rintro e w0b ⟨rfl, rfl⟩
  clear hc hr
  go_wp2_with (first | (go_at_call 11; ((with_reducible refine (FL1.out _).mono ?_); rintro e w' ⟨rfl, rfl⟩)) | (go_at_call 11; ((with_reducible refine (FL2.out _).mono ?_); rintro e w' ⟨rfl, rfl⟩)))
  refine (HD1.out _).mono ?_
  rintro e w1a ⟨r, rfl, hr, hc, hE'⟩
  replace hE := hE.trans hE'
  clear hE'
  go_wp2_with (first | (go_at_call 11; ((with_reducible refine (FL1.out _).mono ?_); rintro e w' ⟨rfl, rfl⟩)) | (go_at_call 11; ((with_reducible refine (FL2.out _).mono ?_); rintro e w' ⟨rfl, rfl⟩)))
  refine (HLB.out r 4599676419421066581 4599676419421066581 _ hr hc rfl).mono ?_
  rintro e w1b ⟨rfl, rfl⟩
  clear hc hr
  go_wp2_with (first | (go_at_call 11; ((with_reducible refine (FL1.out _).mono ?_); rintro e w' ⟨rfl, rfl⟩)) | (go_at_call 11; ((with_reducible refine (FL2.out _).mono ?_); rintro e w' ⟨rfl, rfl⟩)))
  refine (HS1.out _).mono ?_
  rintro e w2a ⟨r, rfl, hr, hc, hE'⟩
  replace hE := hE.trans hE'
  clear hE'
  go_wp2_with (first | (go_at_call 11; ((with_reducible refine (FL1.out _).mono ?_); rintro e w' ⟨rfl, rfl⟩)) | (go_at_call 11; ((with_reducible refine (FL2.out _).mono ?_); rintro e w' ⟨rfl, rfl⟩)))
  refine (HLB.out r 4609047870845172685 4609047870845172685 _ hr hc rfl).mono ?_
  rintro e w2b ⟨rfl, rfl⟩
  clear hc hr
  go_wp2_with (first | (go_at_call 11; ((with_reducible refine (FL1.out _).mono ?_); rintro e w' ⟨rfl, rfl⟩)) | (go_at_call 11; ((with_reducible refine (FL2.out _).mono ?_); rintro e w' ⟨rfl, rfl⟩)))
  refine (HM1.out _).mono ?_
  rintro e w3a ⟨r, rfl, hr, hc, hE'⟩
  replace hE := hE.trans hE'
  clear hE'
  go_wp2_with (first | (go_at_call 11; ((with_reducible refine (FL1.out _).mono ?_); rintro e w' ⟨rfl, rfl⟩)) | (go_at_call 11; ((with_reducible refine (FL2.out _).mono ?_); rintro e w' ⟨rfl, rfl⟩)))
  refine (HLB.out r 1 1 _ hr hc rfl).mono ?_
  rintro e w3b ⟨rfl, rfl⟩
  clear hc hr
  go_wp2_with (first | (go_at_call 11; ((with_reducible refine (FL1.out _).mono ?_); rintro e w' ⟨rfl, rfl⟩)) | (go_at_call 11; ((with_reducible refine (FL2.out _).mono ?_); rintro e w' ⟨rfl, rfl⟩)))
  refine (HA2.out _).mono ?_
  rintro e w4a ⟨r, rfl, hr, hc, hE'⟩
  replace hE := hE.trans hE'
  clear hE'
  go_wp2_with (first | (go_at_call 11; ((with_reducible refine (FL1.out _).mono ?_); rintro e w' ⟨rfl, rfl⟩)) | (go_at_call 11; ((with_reducible refine (FL2.out _).mono ?_); rintro e w' ⟨rfl, rfl⟩)))
  refine (HLB.out r 9218868437227405311 9218868437227405311 _ hr hc rfl).mono ?_
  rintro e w4b ⟨rfl, rfl⟩
  clear hc hr
  go_wp2_with (first | (go_at_call 11; ((with_reducible refine (FL1.out _).mono ?_); rintro e w' ⟨rfl, rfl⟩)) | (go_at_call 11; ((with_reducible refine (FL2.out _).mono ?_); rintro e w' ⟨rfl, rfl⟩)))
  go_ret
  exact ⟨rfl, hE⟩
end Go.Proofs.YtadijoeeaineaaaDoor
