/-
  What the library's functions without a body answer. Conditions: those that each theorem names.
-/
import Derived.Test.YtcimfccjcikemaaMem
import Derived.Laws.Externs
import Derived.Laws.DeepNot64
import Derived.Test.YtcimfccjcikemaaIv
namespace Go.Proofs.Ytcimfccjcikemaa
open Go.RowKit Nm Rn
set_option maxRecDepth 100000
set_option linter.unusedVariables false
set_option linter.unusedSimpArgs false

@[go_sem] theorem run_store_float (P : Program) (w : World) (a : Addr) (m : Mode) (k : FloatKind) (b : Nat) : (store a (.float k b) m).run P w = stored P w a (.float k b) m := run_store P w a _ m rfl

theorem callF64b (args : Array Value) (w : World) : (callFunc 55 args).run Try.prog w = ((Extern.MathFloatBits.float64bits args).run Try.prog w).andThen fun v w' => .ok (.value v) w' :=
  run_callFunc_extern Try.func55 (by kernel_rfl) (by kernel_rfl) (by kernel_rfl) (by kernel_rfl) args w
@[go_sem] theorem callF64b' (b : Nat) (w : World) : (callFunc 55 #[.float .f64 b]).run Try.prog w = .ok (.value (.int .u64 (b : Int))) w := by
  rw [callF64b]; rfl
theorem callF64f (args : Array Value) (w : World) : (callFunc 14 args).run Try.prog w = ((Extern.MathFloatBits.float64frombits args).run Try.prog w).andThen fun v w' => .ok (.value v) w' :=
  run_callFunc_extern Try.func14 (by kernel_rfl) (by kernel_rfl) (by kernel_rfl) (by kernel_rfl) args w
@[go_sem] theorem callF64f' (n : Int) (w : World) : (callFunc 14 #[.int .u64 n]).run Try.prog w = .ok (.value (.float .f64 n.toNat)) w := by
  rw [callF64f]; rfl

/-- The sign's place. -/
theorem andNot_top (b : Nat) (h : b < 18446744073709551616) : bits .andNot .u64 (b : Int) 9223372036854775808 = (mg b : Int) := by
  have e : (9223372036854775808 : Int) = ((9223372036854775808 : Nat) : Int) := rfl
  rw [e, u64_andNot_nat _ _ h (by omega)]
  congr 1
  have e2 : (18446744073709551615 - 9223372036854775808 : Nat) = 2 ^ 63 - 1 := by decide
  rw [e2, Nat.and_two_pow_sub_one_eq_mod]
  rfl

set_option maxHeartbeats 400000 in
theorem isnan_any (b : Nat) (w : World) (h : b < 18446744073709551616) :
    Calls Try.prog 87 #[.int .u64 (b : Int)] w fun e w' => e = .returned (.bool (isNaN b)) ∧ w = w' := by
  have g := andNot_top b h
  have HF : Hid (decide ((9218868437227405312 : Int) < (mg b : Int)) = isNaN b) := Lib.hid (by unfold isNaN; rw [infR_val]; exact decide_eq_decide.2 (by omega))
  clear h
  go_enter Try.func87, Try.ntmps87
  go_wp2
  go_ret
  exact ⟨ret_bool HF.out, rfl⟩
set_option maxHeartbeats 400000 in
theorem isinf3_any (b : Nat) (w : World) (h : b < 18446744073709551616) :
    Calls Try.prog 121 #[.int .u64 (b : Int)] w fun e w' => e = .returned (.bool (isInf b)) ∧ w = w' := by
  have g := andNot_top b h
  have HF : Hid (((mg b : Int) == 9218868437227405312) = isInf b) := Lib.hid (by unfold isInf; rw [infR_val, Bool.eq_iff_iff, beq_iff_eq, decide_eq_true_iff]; omega)
  clear h
  go_enter Try.func121, Try.ntmps121
  go_wp2
  go_ret
  exact ⟨ret_bool HF.out, rfl⟩
set_option maxHeartbeats 400000 in
theorem neg3_any (b : Nat) (w : World) :
    Calls Try.prog 80 #[.int .u64 (b : Int)] w fun e w' => e = .returned (.bool (decide (9223372036854775808 < b))) ∧ w = w' := by
  have HF : Hid (decide ((9223372036854775808 : Int) < (b : Int)) = decide (9223372036854775808 < b)) := Lib.hid (decide_eq_decide.2 (by omega))
  go_enter Try.func80, Try.ntmps80
  go_wp2
  go_ret
  exact ⟨ret_bool HF.out, rfl⟩
set_option maxHeartbeats 400000 in
theorem plain3_any (b : Nat) (w : World) (h : b < 18446744073709551616) :
    Calls Try.prog 57 #[.int .u64 (b : Int)] w fun e w' => e = .returned (.int .u64 (plN b : Nat)) ∧ w = w' := by
  have hn := isnan_any b w h
  by_cases h0 : b = 9223372036854775808
  · have HF : Hid ((0 : Int) = (plN b : Nat)) := Lib.hid (by unfold plN; rw [if_pos h0]; rfl)
    clear hn h
    have h1 : ((b : Int) == 9223372036854775808) = true := by rw [beq_iff_eq]; omega
    clear h0
    go_enter Try.func57, Try.ntmps57
    go_wp2
    go_ret
    exact ⟨ret_int HF.out, rfl⟩
  · have h1 : ((b : Int) == 9223372036854775808) = false := by rw [beq_eq_false_iff_ne]; omega
    cases h2 : isNaN b
    · have HF : Hid ((b : Int) = (plN b : Nat)) := Lib.hid (by unfold plN; rw [if_neg h0, h2, if_neg (by simp)])
      rw [h2] at hn
      have HN := Lib.hid hn
      clear hn h h0 h2
      go_enter Try.func57, Try.ntmps57
      go_wp2_with fail
      refine HN.out.mono ?_
      rintro e w1 ⟨rfl, rfl⟩
      go_wp2
      go_ret
      exact ⟨ret_int HF.out, rfl⟩
    · have HF : Hid ((9221120237041090561 : Int) = (plN b : Nat)) := Lib.hid (by unfold plN; rw [if_neg h0, h2, if_pos rfl]; rfl)
      rw [h2] at hn
      have HN := Lib.hid hn
      clear hn h h0 h2
      go_enter Try.func57, Try.ntmps57
      go_wp2_with fail
      refine HN.out.mono ?_
      rintro e w1 ⟨rfl, rfl⟩
      go_wp2
      go_ret
      exact ⟨ret_int HF.out, rfl⟩
end Go.Proofs.Ytcimfccjcikemaa
