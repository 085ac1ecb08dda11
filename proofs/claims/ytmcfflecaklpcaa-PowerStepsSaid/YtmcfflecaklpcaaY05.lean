/-
  The contracts of the program's steps of one number: sign, floor, ceil, trunc, the nearest. Conditions: those that each theorem names.
-/
import Derived.Test.YtmcfflecaklpcaaY04
namespace Go.Proofs.Ytmcfflecaklpcaa
open Go.RowKit Nm Rn
set_option maxRecDepth 100000
set_option linter.unusedVariables false
set_option linter.unusedSimpArgs false

theorem toInt_run {way : Ieee.Toward} {k : Nat} (hw : (way = .down ∧ k = 1) ∨ (way = .up ∧ k = 2) ∨ (way = .zero ∧ k = 3) ∨ (way = .even ∧ k = 4)) (nm : String) {x : Nat} (hx : x < 18446744073709551616) (hn : isNaN x = false) (P : Program) (w : World) :
    (Extern.MathFloor.toIntegral nm way #[.float .f64 x]).run P w = .ok (.float .f64 (stP k x)) w := by
  have h := integral_eq hw hx hn
  have hnn : ∀ s t, Ieee.double.read x ≠ .nan s t := by
    intro s t e
    unfold isNaN at hn
    have hn' := of_decide_eq_false hn
    by_cases hf : mg x < infR
    · obtain ⟨m, e2, hr, _, _⟩ := read_fin hx hf
      rw [hr] at e
      cases e
    · rw [read_inf hx (by omega)] at e
      cases e
  have e : Extern.MathFloor.toIntegral nm way #[.float .f64 x] = (match Ieee.double.read x with
    | .nan s t =>
      if FloatKind.f64.format.quiet t = t then pure (.float .f64 x) else do
      let kept ← choose (.extern "math.Floor,Ceil,Trunc,RoundToEven.signallingNaN kept" 2)
      pure (.float .f64 (if kept == 1 then x else FloatKind.f64.encode (.nan s (FloatKind.f64.format.quiet t))))
    | d => pure (.float .f64 (Ieee.double.write (d.integral way)))) := rfl
  rw [e]
  cases hr : Ieee.double.read x with
  | nan s t => exact absurd hr (hnn s t)
  | number s m i =>
    rw [hr] at h
    show (pure (Value.float .f64 (Ieee.double.write ((Ieee.Datum.number s m i).integral way))) : Sem Value).run P w = _
    rw [h]
    rfl
  | infinity s =>
    rw [hr] at h
    show (pure (Value.float .f64 (Ieee.double.write ((Ieee.Datum.infinity s).integral way))) : Sem Value).run P w = _
    rw [h]
    rfl

theorem callFloor {x : Nat} (hx : x < 18446744073709551616) (hn : isNaN x = false) (w : World) : (callFunc 152 #[.float .f64 x]).run Try.prog w = .ok (.value (.float .f64 (stP 1 x))) w := by
  have h : (callFunc 152 #[.float .f64 x]).run Try.prog w = ((Extern.MathFloor.toIntegral "math.archFloor" .down #[.float .f64 x]).run Try.prog w).andThen fun v w' => .ok (.value v) w' :=
    run_callFunc_extern Try.func152 (by kernel_rfl) (by kernel_rfl) (by kernel_rfl) (by kernel_rfl) _ w
  rw [h, toInt_run (.inl ⟨rfl, rfl⟩) _ hx hn]
  rfl
theorem callCeil {x : Nat} (hx : x < 18446744073709551616) (hn : isNaN x = false) (w : World) : (callFunc 154 #[.float .f64 x]).run Try.prog w = .ok (.value (.float .f64 (stP 2 x))) w := by
  have h : (callFunc 154 #[.float .f64 x]).run Try.prog w = ((Extern.MathFloor.toIntegral "math.archCeil" .up #[.float .f64 x]).run Try.prog w).andThen fun v w' => .ok (.value v) w' :=
    run_callFunc_extern Try.func154 (by kernel_rfl) (by kernel_rfl) (by kernel_rfl) (by kernel_rfl) _ w
  rw [h, toInt_run (.inr (.inl ⟨rfl, rfl⟩)) _ hx hn]
  rfl
theorem callTrunc {x : Nat} (hx : x < 18446744073709551616) (hn : isNaN x = false) (w : World) : (callFunc 156 #[.float .f64 x]).run Try.prog w = .ok (.value (.float .f64 (stP 3 x))) w := by
  have h : (callFunc 156 #[.float .f64 x]).run Try.prog w = ((Extern.MathFloor.toIntegral "math.archTrunc" .zero #[.float .f64 x]).run Try.prog w).andThen fun v w' => .ok (.value v) w' :=
    run_callFunc_extern Try.func156 (by kernel_rfl) (by kernel_rfl) (by kernel_rfl) (by kernel_rfl) _ w
  rw [h, toInt_run (.inr (.inr (.inl ⟨rfl, rfl⟩))) _ hx hn]
  rfl
theorem callEven {x : Nat} (hx : x < 18446744073709551616) (hn : isNaN x = false) (w : World) : (callFunc 125 #[.float .f64 x]).run Try.prog w = .ok (.value (.float .f64 (stP 4 x))) w := by
  have h : (callFunc 125 #[.float .f64 x]).run Try.prog w = ((Extern.MathFloor.toIntegral "math.RoundToEven" .even #[.float .f64 x]).run Try.prog w).andThen fun v w' => .ok (.value v) w' :=
    run_callFunc_extern Try.func125 (by kernel_rfl) (by kernel_rfl) (by kernel_rfl) (by kernel_rfl) _ w
  rw [h, toInt_run (.inr (.inr (.inr ⟨rfl, rfl⟩))) _ hx hn]
  rfl

set_option maxHeartbeats 400000 in
theorem mfloor_any {x : Nat} (hx : x < 18446744073709551616) (hn : isNaN x = false) (w : World) : Calls Try.prog 122 #[.float .f64 x] w fun e w' => e = .returned (.float .f64 (stP 1 x)) ∧ w = w' := by
  have hd := fun w => callFloor hx hn w
  obtain ⟨r, hr⟩ : ∃ r, r = stP 1 x := ⟨_, rfl⟩
  rw [← hr] at hd ⊢
  clear hr
  go_enter Try.func122, Try.ntmps122
  go_wp2
  go_ret
  exact ⟨rfl, rfl⟩
set_option maxHeartbeats 400000 in
theorem mceil_any {x : Nat} (hx : x < 18446744073709551616) (hn : isNaN x = false) (w : World) : Calls Try.prog 123 #[.float .f64 x] w fun e w' => e = .returned (.float .f64 (stP 2 x)) ∧ w = w' := by
  have hd := fun w => callCeil hx hn w
  obtain ⟨r, hr⟩ : ∃ r, r = stP 2 x := ⟨_, rfl⟩
  rw [← hr] at hd ⊢
  clear hr
  go_enter Try.func123, Try.ntmps123
  go_wp2
  go_ret
  exact ⟨rfl, rfl⟩
set_option maxHeartbeats 400000 in
theorem mtrunc_any {x : Nat} (hx : x < 18446744073709551616) (hn : isNaN x = false) (w : World) : Calls Try.prog 124 #[.float .f64 x] w fun e w' => e = .returned (.float .f64 (stP 3 x)) ∧ w = w' := by
  have hd := fun w => callTrunc hx hn w
  obtain ⟨r, hr⟩ : ∃ r, r = stP 3 x := ⟨_, rfl⟩
  rw [← hr] at hd ⊢
  clear hr
  go_enter Try.func124, Try.ntmps124
  go_wp2
  go_ret
  exact ⟨rfl, rfl⟩

/-- A number's sign, as a pattern. -/
def sgP (x : Nat) : Nat := if key x < 0 then 13830554455654793216 else if 0 < key x then 4607182418800017408 else 0
set_option maxHeartbeats 400000 in
theorem psign_any {x : Nat} (hx : x < 18446744073709551616) (hn : isNaN x = false) (w : World) : Calls Try.prog 120 #[.float .f64 x] w fun e w' => e = .returned (.float .f64 (sgP x)) ∧ w = w' := by
  have z0 : (0 : Nat) < 18446744073709551616 := by omega
  have n0 : isNaN 0 = false := rfl
  have k0 : key 0 = 0 := rfl
  have hl := fo_lt hx z0
  have hg := fo_gt hx z0
  unfold ltB at hl hg
  rw [hn, n0, k0] at hl hg
  simp only [Bool.not_false, Bool.true_and] at hl hg
  unfold sgP
  by_cases h1 : key x < 0
  · rw [if_pos h1]
    rw [decide_eq_true h1] at hl
    clear hg h1 hn
    go_enter Try.func120, Try.ntmps120
    go_wp2
    go_ret
    exact ⟨rfl, rfl⟩
  · rw [if_neg h1]
    rw [decide_eq_false h1] at hl
    by_cases h2 : 0 < key x
    · rw [if_pos h2]
      rw [decide_eq_true h2] at hg
      clear h1 h2 hn
      go_enter Try.func120, Try.ntmps120
      go_wp2
      go_ret
      exact ⟨rfl, rfl⟩
    · rw [if_neg h2]
      rw [decide_eq_false h2] at hg
      clear h1 h2 hn
      go_enter Try.func120, Try.ntmps120
      go_wp2
      go_ret
      exact ⟨rfl, rfl⟩
end Go.Proofs.Ytmcfflecaklpcaa

/-
  The contract of math.Round. Conditions: those that each theorem names.
-/
namespace Go.Proofs.Ytmcfflecaklpcaa
open Go.RowKit Nm Rn
set_option maxRecDepth 100000
set_option linter.unusedVariables false
set_option linter.unusedSimpArgs false

theorem and_sign (b : Nat) (h : b < 18446744073709551616) : bits .and .u64 (b : Int) 9223372036854775808 = ((if sg b then 9223372036854775808 else 0 : Nat) : Int) := by
  rw [show (9223372036854775808 : Int) = ((9223372036854775808 : Nat) : Int) from rfl, u64_and_nat _ _ h (by omega)]
  congr 1
  have e63 : (9223372036854775808 : Nat) = 2 ^ 63 := by decide
  have hb : b.testBit 63 = sg b := by
    rw [Nat.testBit_eq_decide_div_mod_eq]
    unfold sg
    refine decide_eq_decide.2 ?_
    rw [← e63]
    omega
  apply Nat.eq_of_testBit_eq
  intro i
  rw [Nat.testBit_and, e63, Nat.testBit_two_pow]
  by_cases hi : 63 = i
  · subst hi
    rw [hb]
    cases sg b
    · simp
    · simp
      decide
  · rw [decide_eq_false hi, Bool.and_false]
    cases sg b
    · simp
    · simp only [if_true]
      rw [Nat.testBit_two_pow, decide_eq_false hi]
theorem andNot_low (a c : Nat) (h : a < 18446744073709551616) (hc : c ≤ 63) : bits .andNot .u64 (a : Int) ((2 ^ c - 1 : Nat) : Int) = ((a - a % 2 ^ c : Nat) : Int) := by
  have h1 : 2 ^ c ≤ 2 ^ 63 := Nat.pow_le_pow_right (by omega) hc
  have h2 : (2 : Nat) ^ 63 = 9223372036854775808 := by decide
  have h3 : 0 < 2 ^ c := Nat.pow_pos (by omega)
  rw [u64_andNot_nat _ _ h (by omega)]
  congr 1
  have e : 18446744073709551615 - (2 ^ c - 1) = 2 ^ 64 - 1 - (2 ^ c - 1) := by
    rw [show (2 : Nat) ^ 64 = 18446744073709551616 by decide]
  have ha : a < 2 ^ 64 := by rw [show (2 : Nat) ^ 64 = 18446744073709551616 by decide]; exact h
  apply Nat.eq_of_testBit_eq
  intro i
  have h5 : a - a % 2 ^ c = 2 ^ c * (a / 2 ^ c) := by
    have := Nat.div_add_mod a (2 ^ c)
    omega
  have h4 : (18446744073709551615 - (2 ^ c - 1)).testBit i = (decide (i < 64) && !decide (i < c)) := by
    have := Nat.testBit_two_pow_sub_succ (n := 64) (x := 2 ^ c - 1) (by rw [show (2 : Nat) ^ 64 = 18446744073709551616 by decide]; omega) i
    rw [show 2 ^ c - 1 + 1 = 2 ^ c by omega] at this
    rw [show 18446744073709551615 - (2 ^ c - 1) = 2 ^ 64 - 2 ^ c by rw [show (2 : Nat) ^ 64 = 18446744073709551616 by decide]; omega, this, Nat.testBit_two_pow_sub_one]
  rw [Nat.testBit_and, h4, h5, Nat.testBit_two_pow_mul, Nat.testBit_div_two_pow]
  by_cases hi : i < c
  · rw [decide_eq_true hi, decide_eq_false (show ¬ c ≤ i by omega)]
    simp
  · rw [decide_eq_false hi, decide_eq_true (show c ≤ i by omega), show i - c + c = i by omega]
    by_cases h64 : i < 64
    · rw [decide_eq_true h64]; simp
    · rw [decide_eq_false h64]
      have : a.testBit i = false := Nat.testBit_lt_two_pow (Nat.lt_of_lt_of_le ha (Nat.pow_le_pow_right (by omega) (by omega)))
      rw [this]; simp

set_option maxHeartbeats 1000000 in
theorem mround_any {x : Nat} (hx : x < 18446744073709551616) (hn : isNaN x = false) (w : World) : Calls Try.prog 126 #[.float .f64 x] w fun e w' => e = .returned (.float .f64 (stP 5 x)) ∧ w = w' := by
  have hi := infR_val
  unfold isNaN at hn
  have hn' := of_decide_eq_false hn
  obtain ⟨E, hE⟩ : ∃ E, E = x / 4503599627370496 % 2048 := ⟨_, rfl⟩
  have g1 : bits .and .u64 ((x : Int) / 4503599627370496) 2047 = (E : Int) := by
    rw [show (x : Int) / 4503599627370496 = ((x / 4503599627370496 : Nat) : Int) by omega, show (2047 : Int) = ((2047 : Nat) : Int) from rfl, u64_and_nat _ _ (by omega) (by omega), show (2047 : Nat) = 2 ^ 11 - 1 by decide, Nat.and_two_pow_sub_one_eq_mod, hE]
  have g2 := and_sign x hx
  have hEm : mg x / 4503599627370496 = E := by unfold mg; omega
  have hEb : E ≤ 2047 := by omega
  obtain ⟨V, hV⟩ : ∃ V, V = stP 5 x := ⟨_, rfl⟩
  rw [← hV]
  have hVf : mg x < infR → V = Ieee.double.word (sg x) (rAw (mg x)) := fun h => by
    rw [hV]
    unfold stP
    rw [if_pos h, rAw_eq h (sg x)]
  have hxp := split_pat hx
  by_cases c1 : E < 1022
  · have e : V = if sg x then 9223372036854775808 else 0 := by
      rw [hVf (by unfold mg at hEm ⊢; omega), word_eq]
      unfold rAw
      rw [hEm, if_pos c1]
    rw [e]
    obtain ⟨T, hT⟩ : ∃ T : Nat, T = if sg x then 9223372036854775808 else 0 := ⟨_, rfl⟩
    rw [← hT] at g2 ⊢
    have d1 : decide ((E : Int) < 1023) = true := decide_eq_true (by omega)
    have d2 : ((E : Int) == 1022) = false := by rw [beq_eq_false_iff_ne]; omega
    clear hT e hV hVf hxp hEm hn hn' hE c1
    go_enter Try.func126, Try.ntmps126
    go_wp2
    go_ret
    exact ⟨rfl, rfl⟩
  · by_cases c2 : E = 1022
    · have e : V = if sg x then 13830554455654793216 else 4607182418800017408 := by
        rw [hVf (by unfold mg at hEm ⊢; omega), word_eq]
        unfold rAw
        rw [hEm, if_neg c1, if_pos c2]
      have g3 : bits .or .u64 ((if sg x then 9223372036854775808 else 0 : Nat) : Int) 4607182418800017408 = ((if sg x then 13830554455654793216 else 4607182418800017408 : Nat) : Int) := by
        cases sg x <;> decide
      rw [e]
      obtain ⟨T, hT⟩ : ∃ T : Nat, T = if sg x then 9223372036854775808 else 0 := ⟨_, rfl⟩
      obtain ⟨U, hU⟩ : ∃ U : Nat, U = if sg x then 13830554455654793216 else 4607182418800017408 := ⟨_, rfl⟩
      rw [← hT] at g2 g3
      rw [← hU] at g3 ⊢
      rw [c2] at g1
      clear hT hU e hV hVf hxp hEm hn hn' hE c1 c2
      go_enter Try.func126, Try.ntmps126
      go_wp2
      go_ret
      exact ⟨rfl, rfl⟩
    · by_cases c3 : E < 1075
      · obtain ⟨c, hc⟩ : ∃ c, c = 1074 - E := ⟨_, rfl⟩
        have hfin : mg x < infR := by unfold mg at hEm ⊢; omega
        have hp : (2251799813685248 : Int) / 2 ^ (51 - c) = ((2 ^ c : Nat) : Int) := by
          have : (2251799813685248 : Nat) / 2 ^ (51 - c) = 2 ^ c := by
            rw [show (2251799813685248 : Nat) = 2 ^ 51 by decide, Nat.pow_div (by omega) (by omega)]
            congr 1
            omega
          rw [← this, Int.natCast_ediv, Int.natCast_pow]
          rfl
        have hq : (4503599627370495 : Int) / 2 ^ (51 - c) = ((2 ^ (c + 1) - 1 : Nat) : Int) := by
          have : (4503599627370495 : Nat) / 2 ^ (51 - c) = 2 ^ (c + 1) - 1 := by
            have h1 : 2 ^ (c + 1) * 2 ^ (51 - c) = 4503599627370496 := by
              rw [← Nat.pow_add, show c + 1 + (51 - c) = 52 by omega]
            have h2 : 0 < 2 ^ (51 - c) := Nat.pow_pos (by omega)
            have h3 : 0 < 2 ^ (c + 1) := Nat.pow_pos (by omega)
            rw [Nat.div_eq_iff h2, Nat.sub_mul, h1]
            omega
          rw [← this, Int.natCast_ediv, Int.natCast_pow]
          rfl
        have hpb : 2 ^ c ≤ 2251799813685248 := by
          have := Nat.pow_le_pow_right (n := 2) (show 0 < 2 by omega) (show c ≤ 51 by omega)
          rwa [show (2 : Nat) ^ 51 = 2251799813685248 by decide] at this
        have e : V = x + 2 ^ c - (x + 2 ^ c) % 2 ^ (c + 1) := by
          rw [hVf hfin, word_eq]
          unfold rAw
          rw [hEm, if_neg c1, if_neg c2, if_pos c3, ← hc, show 1075 - E = c + 1 by omega]
          have hm : x = if sg x then 9223372036854775808 + mg x else mg x := hxp
          obtain ⟨t, ht⟩ : ∃ t, 9223372036854775808 = 2 ^ (c + 1) * t := ⟨2 ^ (62 - c), by rw [← Nat.pow_add, show c + 1 + (62 - c) = 63 by omega]⟩
          cases hs : sg x
          · rw [hs] at hm
            simp at hm
            rw [← hm]
            simp
          · rw [hs] at hm
            simp only [if_true] at hm ⊢
            obtain ⟨M, hM⟩ : ∃ M, M = mg x := ⟨_, rfl⟩
            rw [← hM] at hm ⊢
            have hle := Nat.mod_le (M + 2 ^ c) (2 ^ (c + 1))
            have e2 : (x + 2 ^ c) % 2 ^ (c + 1) = (M + 2 ^ c) % 2 ^ (c + 1) := by
              rw [hm, Nat.add_assoc, ht, Nat.mul_add_mod]
            rw [e2]
            omega
        rw [e]
        have hxb : x + 2 ^ c < 18446744073709551616 := by
          have : x < 18442240474082181120 := by unfold mg at hEm; omega
          omega
        have g4 := andNot_low (x + 2 ^ c) (c + 1) hxb (by omega)
        obtain ⟨P, hP⟩ : ∃ P, P = 2 ^ c := ⟨_, rfl⟩
        obtain ⟨Q, hQ⟩ : ∃ Q, Q = 2 ^ (c + 1) - 1 := ⟨_, rfl⟩
        obtain ⟨R, hR⟩ : ∃ R, R = x + 2 ^ c - (x + 2 ^ c) % 2 ^ (c + 1) := ⟨_, rfl⟩
        rw [← hR] at g4 ⊢
        rw [← hP] at hp hxb g4
        rw [← hQ] at hq g4
        have d1 : decide ((E : Int) < 1023) = false := decide_eq_false (by omega)
        have d2 : decide ((E : Int) < 1075) = true := decide_eq_true (by omega)
        have hcE : 51 - c = E - 1023 := by omega
        rw [hcE] at hp hq
        have hE2 : 1023 ≤ E := by omega
        have hE3 : E < 1075 := c3
        have g4' : bits .andNot .u64 ((x : Int) + (P : Int)) (Q : Int) = (R : Int) := by rw [← Int.natCast_add]; exact g4
        clear hP hQ hR e hV hVf hxp hEm hn hn' hE c1 c2 c3 g2 hpb hc hcE g4
        go_enter Try.func126, Try.ntmps126
        go_wp2
        go_ret
        exact ⟨rfl, rfl⟩
      · have e : V = x := by
          rw [hV]
          unfold stP
          by_cases hf : mg x < infR
          · rw [if_pos hf, ← rAw_eq hf (sg x), word_eq]
            unfold rAw
            rw [hEm, if_neg c1, if_neg c2, if_neg c3]
            exact hxp.symm
          · rw [if_neg hf]
        rw [e]
        have d1 : decide ((E : Int) < 1023) = false := decide_eq_false (by omega)
        have d2 : decide ((E : Int) < 1075) = false := decide_eq_false (by omega)
        clear e hV hVf hxp hEm hn hn' hE c1 c2 c3 g2
        go_enter Try.func126, Try.ntmps126
        go_wp2
        go_ret
        exact ⟨rfl, rfl⟩
end Go.Proofs.Ytmcfflecaklpcaa

/-
  Words for memory: a block known whole, without integers in it; a list of words beside it. Conditions: none but those that each theorem names.
-/
namespace Go.Proofs.Ytmcfflecaklpcaa
open Go.RowKit Nm
set_option linter.unusedVariables false
set_option linter.unusedSimpArgs false

/-- Block g is just the cells cs of element type t, none frozen. -/
def Blk (w : World) (g : Nat) (t : TypeId) (cs : Array Value) : Prop := w.heap[g]? = some (.cells cs t (0, 0))
/-- No cell is an integer. -/
def NoInt (cs : Array Value) : Prop := ∀ (i : Nat) (k : IntKind) (x : Int), cs[i]? ≠ some (Value.int k x)

section
variable {w w' : World} {g : Nat} {t : TypeId} {cs : Array Value}
theorem Blk.lt (h : Blk w g t cs) : g < w.heap.size := by
  rcases Nat.lt_or_ge g w.heap.size with hlt | hge
  · exact hlt
  · unfold Blk at h; rw [Array.getElem?_eq_none hge] at h; cases h
theorem Blk.cell (h : Blk w g t cs) (i : Nat) : w.cell? ⟨g, i, none⟩ = cs[i]? := cell_of_row w g i cs t (0, 0) h
theorem Blk.frozen (h : Blk w g t cs) (i : Nat) : w.frozen? ⟨g, i, none⟩ = false := by
  unfold Blk at h
  simp [World.frozen?, h]
theorem Blk.new (w : World) (t : TypeId) (cs : Array Value) : Blk (w.alloc (.cells cs t)) w.heap.size t cs := heap_alloc_new w _
theorem Blk.ext (h : Blk w g t cs) (hb : Ext w w') : Blk w' g t cs := (Below.block hb g h.lt).trans h
theorem Blk.set_ (h : Blk w g t cs) (i : Nat) (u : Value) : Blk (w.setCell ⟨g, i, none⟩ u) g t (cs.setIfInBounds i u) := by
  unfold Blk at h ⊢
  simp [World.setCell, Array.getElem?_modify, h]
theorem Blk.far (h : Blk w g t cs) {p : Addr} (hp : g ≠ p.block) (u : Value) : Blk (w.setCell p u) g t cs := (Below.heap_setCell w p u g hp).trans h
theorem NoInt.set {cs : Array Value} (h : NoInt cs) (i : Nat) {u : Value} (hu : ∀ (k : IntKind) (x : Int), u ≠ Value.int k x) : NoInt (cs.setIfInBounds i u) := by
  intro j k x hj
  rw [Array.getElem?_setIfInBounds] at hj
  split at hj
  · split at hj
    · injection hj with hj; exact hu k x hj
    · cases hj
  · exact h j k x hj
/-- A store into a block without integers leaves every list of words as it was. -/
theorem Wds.set_box {A : Option Addr} {n c : Nat} {xs : List Nat} (h : Wds w A n c xs) (hb : Blk w g t cs) (hcs : NoInt cs) (i : Nat) (u : Value) : Wds (w.setCell ⟨g, i, none⟩ u) A n c xs := by
  refine ⟨h.1, h.2.1, h.2.2.1, h.2.2.2.1, fun hn => ?_⟩
  obtain ⟨ad, e, hlt, hc⟩ := h.2.2.2.2 hn
  have hne : ad.block ≠ g := by
    intro hg
    have hx1 : 0 < xs.length := by have := h.1; omega
    have h1 := hc 0 _ (List.getElem?_eq_getElem hx1)
    have h2 : w.heap[(ad.add 0).block]? = some (.cells cs t (0, 0)) := by rw [block_of_add, hg]; exact hb
    unfold World.cell? at h1
    rw [h2] at h1
    simp only at h1
    split at h1
    · cases h1
    · exact hcs _ _ _ h1
  refine ⟨ad, e, by simpa [World.setCell] using hlt, fun k x hk => ?_⟩
  rw [← hc k x hk]
  exact World.cell?_of_block (Below.heap_setCell w ⟨g, i, none⟩ u _ (by rw [block_of_add]; exact hne))
theorem Wds.set_box3 {A : Option Addr} {n c : Nat} {xs : List Nat} (h : Wds w A n c xs) (hb : Blk w g t cs) (hcs : NoInt cs) {u0 u1 u2 : Value} (h0 : ∀ (k : IntKind) (x : Int), u0 ≠ Value.int k x) (h1 : ∀ (k : IntKind) (x : Int), u1 ≠ Value.int k x) :
    Wds (((w.setCell ⟨g, 0, none⟩ u0).setCell ⟨g, 1, none⟩ u1).setCell ⟨g, 2, none⟩ u2) A n c xs :=
  ((h.set_box hb hcs 0 u0).set_box (hb.set_ 0 u0) (hcs.set 0 h0) 1 u1).set_box ((hb.set_ 0 u0).set_ 1 u1) ((hcs.set 0 h0).set 1 h1) 2 u2
theorem Ext.set3 {w0 : World} (h : Ext w0 w) (hg : w0.heap.size ≤ g) (u0 u1 u2 : Value) : Ext w0 (((w.setCell ⟨g, 0, none⟩ u0).setCell ⟨g, 1, none⟩ u1).setCell ⟨g, 2, none⟩ u2) :=
  ((h.setCell hg u0).setCell hg u1).setCell hg u2
end
theorem noInt3 (b : Bool) (A : Option Addr) (n c : Nat) (B : Option Addr) (m d : Nat) : NoInt #[.bool b, .slice A n c, .slice B m d] := by
  intro i k x h
  match i, h with
  | 0, h => simp at h
  | 1, h => simp at h
  | 2, h => simp at h
  | i + 3, h => simp at h

end Go.Proofs.Ytmcfflecaklpcaa

/-
  The contracts of the reference's naturals, first part: words, Long. Conditions: those that each theorem names.
-/
namespace Go.Proofs.Ytmcfflecaklpcaa
open Go.RowKit Nm
set_option maxRecDepth 100000
set_option linter.unusedVariables false
set_option linter.unusedSimpArgs false

set_option maxHeartbeats 400000 in
theorem words_any (A : Option Addr) (n c : Nat) (xs : List Nat) (w : World) (h : Wds w A n c xs) (hn : n ≤ 35184372088832) :
    Calls Try.prog 107 #[.slice A n c] w fun e w' => e = .returned (.int .i64 (nw (nv xs) : Int)) ∧ w = w' := by
  have hlen := h.len
  go_enter Try.func107, Try.ntmps107
  go_wp2
  go_loop [3] (fun i => ∃ k : Nat, k ≤ n ∧ i = .int .i64 k ∧ ∀ j, (hj : j < xs.length) → k ≤ j → xs[j] = 0) (fun i => (intOf i).toNat)
  case atStart => exact ⟨n, Nat.le_refl _, rfl, fun j hj hk => by omega⟩
  case round =>
    obtain ⟨k, hk, rfl, hz⟩ := hrel
    have HZ := Lib.hid hz
    clear hz
    by_cases h0 : k = 0
    · subst h0
      go_wp2
      go_ret
      exact ⟨ret_int (by rw [(take_trim h.ws (Nat.zero_le _) HZ.out (fun k hk e => by omega)).2.1]; rfl), rfl⟩
    · obtain ⟨ad, hx, rfl, hb, hc⟩ := h.at_ (k := k - 1) (by omega)
      by_cases hx0 : xs[k - 1] = 0
      · go_wp2
        go_round
        case rel => exact ⟨k - 1, by omega, by go_num, fun j hj hkj => by
          by_cases e : j = k - 1
          · subst e; exact hx0
          · exact HZ.out j hj (by omega)⟩
        case measure => simp [intOf]; omega
      · go_wp2
        go_ret
        exact ⟨ret_int (by rw [(take_trim h.ws (by omega) HZ.out (fun j hj e => by
          have e : j = k - 1 := by omega
          subst e; exact hx0)).2.1]), rfl⟩

theorem info_u32 : (Try.prog.info? 80).map (fun i => (i.zero, i.size, i.bytes)) = some (some (.int .u32 0), 1, 4) := by kernel_rfl

/-- Block g is just the words L, none of them frozen. -/
def Row (w : World) (g : Nat) (L : List Nat) : Prop := w.heap[g]? = some (.cells (u32s L).toArray 80 (0, 0))

section
variable {w w' : World} {g : Nat} {L : List Nat}
theorem Row.lt (h : Row w g L) : g < w.heap.size := by
  rcases Nat.lt_or_ge g w.heap.size with hlt | hge
  · exact hlt
  · unfold Row at h; rw [Array.getElem?_eq_none hge] at h; cases h
theorem Row.cell (h : Row w g L) {i : Nat} (hi : i < L.length) : w.cell? ⟨g, i, none⟩ = some (.int .u32 (L[i] : Int)) := by
  unfold Row at h
  simp [World.cell?, h, u32s, hi]
theorem Row.frozen (h : Row w g L) (i : Nat) : w.frozen? ⟨g, i, none⟩ = false := by
  unfold Row at h
  simp [World.frozen?, h]
theorem Row.set_ (h : Row w g L) (i : Nat) (x : Nat) : Row (w.setCell ⟨g, i, none⟩ (.int .u32 (x : Int))) g (L.set i x) := by
  unfold Row at h ⊢
  simp [World.setCell, Array.getElem?_modify, h, u32s, List.map_set]
theorem Row.new (w : World) (L : List Nat) : Row (w.alloc (.cells (u32s L).toArray 80)) w.heap.size L := heap_alloc_new w _
theorem Row.drew (h : Row w g L) : Row w.drew g L := h
theorem Row.drewN (h : Row w g L) (n : Nat) : Row (w.drewN n) g L := h
theorem Row.ext (h : Row w g L) (hb : Ext w w') : Row w' g L := (Below.block hb g h.lt).trans h
theorem Row.alloc (h : Row w g L) (o : Obj) : Row (w.alloc o) g L := h.ext ((Ext.refl w).alloc o)
theorem Row.far (h : Row w g L) {p : Addr} (hp : g ≠ p.block) (u : Value) : Row (w.setCell p u) g L := (Below.heap_setCell w p u g hp).trans h
theorem Row.wds (h : Row w g L) (hL : Ws L) {n c : Nat} (hn : L.length = n) (hc : n ≤ c) (hm : c ≤ maxLen) : Wds w (some ⟨g, 0, none⟩) n c L :=
  ⟨hn, hc, hm, hL, fun _ => ⟨_, rfl, h.lt, fun k x hk => by
    have hk' : k < L.length := (List.getElem?_eq_some_iff.1 hk).1
    have := h.cell hk'
    rw [List.getElem?_eq_getElem hk'] at hk
    injection hk with hk
    rw [← hk, ← this]
    unfold Addr.add
    split
    · subst_vars; rfl
    · simp⟩⟩
theorem Row.own (h : Row w g L) {base n : Nat} (hb : base ≤ g) (hn : L.length = n) (hm : n ≤ maxLen) : w.ownsRow base 80 1 (.slice (some ⟨g, 0, none⟩) n n) n (u32s L) :=
  ⟨by rw [u32s_length]; omega, .inr ⟨g, n, _, rfl, hb, h, Nat.le_refl _, hm, by simp [u32s_length, hn], by simp [List.take_of_length_le, u32s_length, hn]⟩⟩
end

theorem cells_replicate (n : Nat) : madeCells (Value.int .u32 0).cells (n * 1) = (u32s (List.replicate n 0)).toArray := by
  apply Array.ext
  · simp [size_madeCells, u32s]
  · intro i h1 h2
    simp [madeCells, u32s, Value.cells, Nat.mod_one]

/-- make([]uint32, n). -/
theorem run_make32 (n : Nat) (hn : n ≤ 70368744177664) (w : World) :
    (Instr.makeSlice 33 (.int .i64 (n : Int)) (.int .i64 (n : Int))).run Try.prog w = .ok (.slice (some ⟨w.heap.size, 0, none⟩) n n) (w.alloc (.cells (u32s (List.replicate n 0)).toArray 80)) := by
  obtain ⟨i0, hi0, hz0, hz1, hz2⟩ := info_parts info_u32
  have hr := run_make (P := Try.prog) w 33 80 i0 (.int .u32 0) Try.underlying33 hi0 hz0 .i64 .i64 n n (by omega) (by omega) (by rw [hz2]; omega) (by omega)
  simp only [Int.toNat_natCast] at hr
  rw [hr, hz1, cells_replicate]

/-- One word more, onto a row of the call's own. -/
theorem wp_app32 {ops : Array Oper} {rest : List Oper} {o : Oper} {a : Act} {Q : Exit → Act → World → Prop} (hgd : o.guard = none) (s x : Operand)
    (ho : o.op = .call { callee := .builtin .append, args := #[s, x], argTypes := #[33, 33] })
    {w0 wr : World} {v : Value} {j : Nat} {acc : List Nat} (lo : Nat) {xv : Int} (hs : a.eval s = v) (hown : wr.ownsRow w0.heap.size 80 1 v j (u32s acc)) (hb : Ext w0 wr)
    (hx : a.eval x = .slice (some ⟨wr.heap.size, 0, none⟩) 1 1) (hxv : xv = (lo : Int)) (hj : j ≤ 35184372088000)
    (h : ∀ v' w1, w1.ownsRow w0.heap.size 80 1 v' (j + 1) (u32s (acc ++ [lo])) → Ext w0 w1 → wpList Try.prog ops Q rest (a.put o.dst v') w1) :
    wpList Try.prog ops Q (o :: rest) a (wr.alloc (.cells #[.int .u32 xv] 80)) := by
  obtain ⟨i0, hi0, hz0, hz1, hz2⟩ := info_parts info_u32
  subst hxv
  refine wpList_append_own _ hgd s x _ ho w0.heap.size 80 i0 (.int .u32 0) 1 4 Try.underlying33 hi0 hz0 hz1 hz2 rfl (by decide) _ _ _ hs (hown.alloc _) ⟨wr.heap.size, 0, none⟩ 1 1 [.int .u32 (lo : Int)] hx rfl (cell_one_new _ _ _) (by simp [Value.oneCell']) (by simp only [maxLen]; omega) (by omega) (by have := hb.size; simp; omega) ?_
  intro v' w1 hown' hgrow _
  rw [u32s_snoc] at hown'
  exact h v' w1 hown' ((hb.alloc _).grown hgrow fun q hq => (hown.lt q hq).1)

set_option maxHeartbeats 400000 in
theorem norm_any (A : Option Addr) (n c : Nat) (xs : List Nat) (w : World) (h : Wds w A n c xs) (hn : n ≤ 35184372088000) :
    Calls Try.prog 65 #[.slice A n c] w (RetW (nv xs) w) := by
  have hlen := h.len
  obtain ⟨i0, hi0, hz0, hz1, hz2⟩ := info_parts info_u32
  go_enter Try.func65, Try.ntmps65
  go_wp2
  go_loop [3] (fun i => ∃ k : Nat, k ≤ n ∧ i = .int .i64 k ∧ ∀ j, (hj : j < xs.length) → k ≤ j → xs[j] = 0) (fun i => (intOf i).toNat)
  case atStart => exact ⟨n, Nat.le_refl _, rfl, fun j hj hk => by omega⟩
  case round =>
    obtain ⟨k, hk, rfl, hz⟩ := hrel
    have HZ := Lib.hid hz
    clear hz
    by_cases hx0 : k ≠ 0 ∧ ∃ hx : k - 1 < xs.length, xs[k - 1] = 0
    · obtain ⟨h0, hx, hx0⟩ := hx0
      obtain ⟨ad, hx, rfl, hb, hc⟩ := h.at_ (k := k - 1) (by omega)
      go_wp2
      go_round
      case rel => exact ⟨k - 1, by omega, by go_num, fun j hj hkj => by
        by_cases e : j = k - 1
        · subst e; exact hx0
        · exact HZ.out j hj (by omega)⟩
      case measure => simp [intOf]; omega
    · have hT := take_trim h.ws (n := k) (by omega) HZ.out (fun j hj e => by
        intro hj0
        refine hx0 ⟨by omega, by omega, ?_⟩
        have e : k - 1 = j := by omega
        subst e; exact hj0)
      have HT := Lib.hid hT.1
      clear hT
      have hgo : k ≤ 0 ∨ ∃ ad, ∃ hx : k - 1 < xs.length, 0 < k ∧ A = some ad ∧ xs[k - 1] ≠ 0 ∧ w.cell? (ad.add (k - 1)) = some (.int .u32 (xs[k - 1] : Int)) := by
        by_cases h0 : k = 0
        · exact Or.inl (by omega)
        · obtain ⟨ad, hx, rfl, hb, hc⟩ := h.at_ (k := k - 1) (by omega)
          exact Or.inr ⟨ad, hx, by omega, rfl, fun e => hx0 ⟨h0, hx, e⟩, hc⟩
      clear hx0
      rcases hgo with hk0 | ⟨ad0, hx, hk0, rfl, hx0, hc⟩
      all_goals
        go_wp2
        go_loopw [4, 5] (fun v i wr => ∃ j : Nat, j ≤ k ∧ i = .int .i64 j ∧ wr.ownsRow w.heap.size 80 1 v j (u32s (xs.take j)) ∧ Ext w wr) (fun _ i _ => k - (intOf i).toNat)
        case atStart => exact ⟨0, Nat.zero_le _, rfl, World.ownsRow_nil _ _ _ _, Ext.refl _⟩
        case round =>
          obtain ⟨j, hj, rfl, hown, hb⟩ := hrel
          by_cases hlt : j < k
          · first
            | (exfalso; omega)
            | (obtain ⟨ad, hxj, hA, hbj, hcj⟩ := (h.ext hb).at_ (k := j) (by omega)
               have hrow : u32s (xs.take j) ++ [.int .u32 (xs[j] : Int)] = u32s (xs.take (j + 1)) := by
                 rw [u32s_snoc, List.take_succ_eq_append_getElem hxj]
               have HR := Lib.hid hrow
               clear hrow
               first | subst hA | (injection hA with hA; subst hA)
               go_wp2_with (at_builtin; refine wpList_append_own _ rfl (.tmp 25) (.tmp 30) _ rfl w.heap.size 80 i0 (.int .u32 0) 1 4 Try.underlying33 hi0 hz0 hz1 hz2 rfl (by decide) _ _ _ rfl (hown.alloc _) ⟨wr.heap.size, 0, none⟩ 1 1 [.int .u32 (xs[j] : Int)] rfl rfl (cell_one_new _ _ _) (by simp [Value.oneCell']) (by simp only [maxLen]; omega) (by omega) (by have := hb.size; simp; omega) ?_; intro v' w1 hown' hgrow _)
               go_roundw
               case rel => exact ⟨j + 1, by omega, by go_num, by rw [← HR.out]; exact hown', (hb.alloc _).grown hgrow fun q hq => (hown.lt q hq).1⟩
               case measure => simp [intOf]; omega)
          · have e : j = k := by omega
            subst e
            obtain ⟨A', c', rfl, hW⟩ := Wds.of_own hown (h.ws.take j)
            go_wp2
            go_ret
            exact ⟨A', j, c', rfl, by rw [HT.out]; exact hW, hb⟩
end Go.Proofs.Ytmcfflecaklpcaa
