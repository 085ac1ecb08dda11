/-
  The contracts of Narrow, at the three calls of RoundKnown. Conditions: those that each theorem names.
-/
import Derived.Test.YtadijoeeaineaaaDoorZ07
import Derived.Test.YtadijoeeaineaaaDoorZ11
import Derived.Test.YtadijoeeaineaaaDoorZ26
import Derived.Test.YtadijoeeaineaaaDoorZ37
import Derived.Test.YtadijoeeaineaaaDoorZ32
import Derived.Test.YtadijoeeaineaaaDoorZ36
import Derived.Test.YtadijoeeaineaaaDoorZ17
import Derived.Test.YtadijoeeaineaaaDoorZ24
namespace Go.Proofs.YtadijoeeaineaaaDoor
open Go.RowKit Nm Rn
set_option maxRecDepth 100000
set_option linter.unusedVariables false
set_option linter.unusedSimpArgs false

theorem callF32b' (args : Array Value) (w : World) : (callFunc 30 args).run Tryd.prog w = ((Extern.MathFloatBits.float32bits args).run Tryd.prog w).andThen fun v w' => .ok (.value v) w' :=
  run_callFunc_extern Tryd.func30 (by kernel_rfl) (by kernel_rfl) (by kernel_rfl) (by kernel_rfl) args w
theorem callF32b (b : Nat) (w : World) : (callFunc 30 #[.float .f32 b]).run Tryd.prog w = .ok (.value (.int .u32 (b : Int))) w := by
  rw [callF32b']
  rfl
theorem callF32f' (args : Array Value) (w : World) : (callFunc 141 args).run Tryd.prog w = ((Extern.MathFloatBits.float32frombits args).run Tryd.prog w).andThen fun v w' => .ok (.value v) w' :=
  run_callFunc_extern Tryd.func141 (by kernel_rfl) (by kernel_rfl) (by kernel_rfl) (by kernel_rfl) args w
theorem callF32f (n : Int) (w : World) : (callFunc 141 #[.int .u32 n]).run Tryd.prog w = .ok (.value (.float .f32 n.toNat)) w := by
  rw [callF32f']
  rfl
theorem cv_f64_4591870180066957722 (w : World) : (convert 24 50 (.float .f64 4591870180066957722)).run Tryd.prog w = .ok (.float .f32 1036831949) w := by kernel_rfl
theorem cv_f32_1036831949 (w : World) : (convert 50 24 (.float .f32 1036831949)).run Tryd.prog w = .ok (.float .f64 4591870180174331904) w := by kernel_rfl
theorem cv_f64_18442240474082181120 (w : World) : (convert 24 50 (.float .f64 18442240474082181120)).run Tryd.prog w = .ok (.float .f32 4286578688) w := by kernel_rfl
theorem cv_f64_9218868437227405312 (w : World) : (convert 24 50 (.float .f64 9218868437227405312)).run Tryd.prog w = .ok (.float .f32 2139095040) w := by kernel_rfl
theorem cv_f32_4286578688 (w : World) : (convert 50 24 (.float .f32 4286578688)).run Tryd.prog w = .ok (.float .f64 18442240474082181120) w := by kernel_rfl
theorem cv_f32_2139095040 (w : World) : (convert 50 24 (.float .f32 2139095040)).run Tryd.prog w = .ok (.float .f64 9218868437227405312) w := by kernel_rfl
theorem cv_f64_1 (w : World) : (convert 24 50 (.float .f64 1)).run Tryd.prog w = .ok (.float .f32 0) w := by kernel_rfl
theorem cv_f32_0 (w : World) : (convert 50 24 (.float .f32 0)).run Tryd.prog w = .ok (.float .f64 0) w := by kernel_rfl
theorem cv_f32_1 (w : World) : (convert 50 24 (.float .f32 1)).run Tryd.prog w = .ok (.float .f64 3936146074321813504) w := by kernel_rfl
theorem cv_f64_3936146074321813504 (w : World) : (convert 24 50 (.float .f64 3936146074321813504)).run Tryd.prog w = .ok (.float .f32 1) w := by kernel_rfl
theorem inf32_m (w : World) : Calls Tryd.prog 45 #[.int .i64 (-1)] w fun e w' => e = .returned (.float .f64 18442240474082181120) ∧ w = w' := by
  go_enter Tryd.func45, Tryd.ntmps45
  go_wp2
  go_ret
  exact ⟨rfl, rfl⟩
theorem inf32_p (w : World) : Calls Tryd.prog 45 #[.int .i64 1] w fun e w' => e = .returned (.float .f64 9218868437227405312) ∧ w = w' := by
  go_enter Tryd.func45, Tryd.ntmps45
  go_wp2
  go_ret
  exact ⟨rfl, rfl⟩
set_option maxHeartbeats 1000000 in
theorem copyK (w : World) : Calls Tryd.prog 140 #[.float .f64 3936146074321813504, .float .f64 9218868437227405312] w fun e w' => e = .returned (.float .f64 3936146074321813504) ∧ w = w' := by
  go_enter Tryd.func140, Tryd.ntmps140
  go_wp2
  go_ret
  exact ⟨rfl, rfl⟩
theorem nn_ (b : Nat) (h : b < 18446744073709551616) (hn : isNaN b = false) (w : World) : Calls Tryd.prog 60 #[.float .f64 b] w fun e w' => e = .returned (.bool false) ∧ w = w' := by
  have := mnan_any b w h
  rwa [hn] at this
set_option maxHeartbeats 2000000 in
theorem nx_1 (w : World) :
    Calls Tryd.prog 95 #[.float .f32 1036831949, .float .f32 4286578688] w fun e w' => e = .returned (.float .f32 1036831948) ∧ w = w' := by
  have k_cv_f32_1036831949 := cv_f32_1036831949
  have k_cv_f32_4286578688 := cv_f32_4286578688
  have o0 : (FloatKind.f32.format.order 1036831949 4286578688 == some Ordering.eq) = false := by decide +kernel
  have o1 : (FloatKind.f32.format.order 1036831949 0 == some Ordering.eq) = false := by decide +kernel
  have o2 : (FloatKind.f32.format.order 4286578688 1036831949 == some Ordering.gt) = false := by decide +kernel
  have o3 : (FloatKind.f32.format.order 1036831949 0 == some Ordering.gt) = true := by decide +kernel
  have HN0 := Lib.hid (fun w => nn_ 4591870180174331904 (by decide) (by decide) w)
  have HN1 := Lib.hid (fun w => nn_ 18442240474082181120 (by decide) (by decide) w)
  have kb := callF32b
  have kf := callF32f
  go_enter Tryd.func95, Tryd.ntmps95
  go_wp2_with (first | (go_at_call 60; ((with_reducible refine (HN0.out _).mono ?_); rintro e w' ⟨rfl, rfl⟩)) | (go_at_call 60; ((with_reducible refine (HN1.out _).mono ?_); rintro e w' ⟨rfl, rfl⟩)))
  go_ret
  exact ⟨rfl, rfl⟩
set_option maxHeartbeats 2000000 in
theorem nx_2 (w : World) :
    Calls Tryd.prog 95 #[.float .f32 0, .float .f32 2139095040] w fun e w' => e = .returned (.float .f32 1) ∧ w = w' := by
  have k_cv_f32_0 := cv_f32_0
  have k_cv_f32_2139095040 := cv_f32_2139095040
  have k_cv_f32_1 := cv_f32_1
  have k_cv_f64_3936146074321813504 := cv_f64_3936146074321813504
  have o0 : (FloatKind.f32.format.order 0 2139095040 == some Ordering.eq) = false := by decide +kernel
  have o1 : (FloatKind.f32.format.order 0 0 == some Ordering.eq) = true := by decide +kernel
  have HN0 := Lib.hid (fun w => nn_ 0 (by decide) (by decide) w)
  have HN1 := Lib.hid (fun w => nn_ 9218868437227405312 (by decide) (by decide) w)
  have kb := callF32b
  have kf := callF32f
  go_enter Tryd.func95, Tryd.ntmps95
  go_wp2_with (first | (go_at_call 60; ((with_reducible refine (HN0.out _).mono ?_); rintro e w' ⟨rfl, rfl⟩)) | (go_at_call 60; ((with_reducible refine (HN1.out _).mono ?_); rintro e w' ⟨rfl, rfl⟩)) | (go_at_call 140; ((with_reducible refine (copyK _).mono ?_); rintro e w' ⟨rfl, rfl⟩)))
  go_ret
  exact ⟨rfl, rfl⟩
set_option maxHeartbeats 2000000 in
theorem nar_1 (w : World) :
    Calls Tryd.prog 31 #[.int .i64 (-1), .float .f64 4591870180066957722] w fun e w' => e = .returned (.float .f32 1036831948) ∧ w = w' := by
  have k_cv_f64_4591870180066957722 := cv_f64_4591870180066957722
  have k_cv_f32_1036831949 := cv_f32_1036831949
  have k_cv_f64_18442240474082181120 := cv_f64_18442240474082181120
  have o0 : (FloatKind.f64.format.order 4591870180174331904 4591870180066957722 == some Ordering.gt) = true := by decide +kernel
  have o1 : (FloatKind.f32.format.order 1036831948 0 == some Ordering.eq) = false := by decide +kernel
  have kb := callF32b
  have kf := callF32f
  go_enter Tryd.func31, Tryd.ntmps31
  go_wp2_with (first | (go_at_call 45; ((with_reducible refine (inf32_m _).mono ?_); rintro e w' ⟨rfl, rfl⟩)) | (go_at_call 95; ((with_reducible refine (nx_1 _).mono ?_); rintro e w' ⟨rfl, rfl⟩)))
  go_ret
  exact ⟨rfl, rfl⟩
set_option maxHeartbeats 2000000 in
theorem nar_2 (w : World) :
    Calls Tryd.prog 31 #[.int .i64 1, .float .f64 4591870180066957722] w fun e w' => e = .returned (.float .f32 1036831949) ∧ w = w' := by
  have k_cv_f64_4591870180066957722 := cv_f64_4591870180066957722
  have k_cv_f32_1036831949 := cv_f32_1036831949
  have o0 : (FloatKind.f64.format.order 4591870180174331904 4591870180066957722 == some Ordering.lt) = false := by decide +kernel
  have o1 : (FloatKind.f32.format.order 1036831949 0 == some Ordering.eq) = false := by decide +kernel
  have kb := callF32b
  have kf := callF32f
  go_enter Tryd.func31, Tryd.ntmps31
  go_wp2_with (fail)
  go_ret
  exact ⟨rfl, rfl⟩
set_option maxHeartbeats 2000000 in
theorem nar_3 (w : World) :
    Calls Tryd.prog 31 #[.int .i64 1, .float .f64 1] w fun e w' => e = .returned (.float .f32 1) ∧ w = w' := by
  have k_cv_f64_1 := cv_f64_1
  have k_cv_f32_0 := cv_f32_0
  have k_cv_f64_9218868437227405312 := cv_f64_9218868437227405312
  have o0 : (FloatKind.f64.format.order 0 1 == some Ordering.lt) = true := by decide +kernel
  have o1 : (FloatKind.f32.format.order 1 0 == some Ordering.eq) = false := by decide +kernel
  have kb := callF32b
  have kf := callF32f
  go_enter Tryd.func31, Tryd.ntmps31
  go_wp2_with (first | (go_at_call 45; ((with_reducible refine (inf32_p _).mono ?_); rintro e w' ⟨rfl, rfl⟩)) | (go_at_call 95; ((with_reducible refine (nx_2 _).mono ?_); rintro e w' ⟨rfl, rfl⟩)))
  go_ret
  exact ⟨rfl, rfl⟩
end Go.Proofs.YtadijoeeaineaaaDoor

/-
  The values that RoundKnown asks for. Conditions: those that each theorem names.
-/
namespace Go.Proofs.YtadijoeeaineaaaDoor
open Go.RowKit Nm Rn
set_option maxRecDepth 100000
set_option linter.unusedVariables false
set_option linter.unusedSimpArgs false
set_option exponentiation.threshold 100000

theorem cn_inj_ {r V : Nat} (h : cn r = V) (hV : V ≠ NaNc) : r = V := by
  unfold cn at h
  cases hn : isNaN r
  · rw [hn] at h; exact h
  · rw [hn] at h; exact absurd h.symm hV
theorem powR_at (d : Int) (x : Nat) (n : Int) (m O k : Nat) (E : Int) (V : Nat) (h1 : isNaN x = false) (h2 : isInf x = false) (hz : mg x ≠ 0) (hn : n = (m : Int)) (hm0 : 0 < m) (hm2 : m ≤ 1024) (hs : fbSig x = 2 ^ k * O) (hO : O % 2 = 1) (hE : fbExp x + (k : Int) = E) (hV : rnd d (pwS (sg x) m) (zd (O ^ m) (E * m)) = V) : powR d x n = V := by
  have ht := tz_uniq hs hO
  have hoS : odS x = O := by
    unfold odS
    rw [ht, hs, Nat.mul_div_cancel_left _ (two_pow_pos k)]
  have hoE : odE x = E := by
    unfold odE
    rw [ht, hE]
  have htn : n.toNat = m := by omega
  unfold powR
  rw [if_neg (by rw [h1]; simp; omega), if_neg (by omega), if_neg (by rw [h2]; simp), if_neg (by rintro ⟨h, _⟩; exact hz h), if_pos (by omega), htn]
  rw [← pow_pos_eq d _ x hm2]
  obtain ⟨e1, e2⟩ := odE_m x m hm2
  have hb := pow_bl x m hm2
  rw [ofR_zd d _ (by omega) (by omega) (by omega), hoS, hoE]
  exact hV
theorem ten_wds (w : World) {g : Nat} (hg : g = w.heap.size) : Wds (w.alloc (.cells #[.int .u32 10] 48)) (some ⟨g, 0, none⟩) 1 1 [10] := by
  subst hg
  exact (Row.new w [10]).wds (Ws.cons (by omega) Ws.nil) rfl (Nat.le_refl _) (by unfold maxLen; omega)
theorem kv_a1 : addR (-1) 4607182418800017408 9223372036854775809 = 4607182418800017407 := by decide +kernel
theorem kv_a2 : addR 1 4607182418800017408 9223372036854775809 = 4607182418800017408 := by decide +kernel
theorem kv_f1 : fmaR (-1) 4607182418800017409 4607182418800017406 13830554455654793216 = 13362180094408261632 := by decide +kernel
theorem kv_f2 : fmaR 1 4607182418800017409 4607182418800017406 13830554455654793216 = 13362180094408261632 := by decide +kernel
theorem kv_f3 : fmaR 0 1 1 9223372036854775809 = 9223372036854775809 := by decide +kernel
theorem kv_f4 : fmaR (-1) 9218868437227405311 4611686018427387904 18442240474082181119 = 9218868437227405311 := by decide +kernel
theorem kv_p1 : powR (-1) 4607182418800017409 1024 = 4607182418800018432 := powR_at (-1) 4607182418800017409 1024 1024 4503599627370497 0 (-52) 4607182418800018432 (by decide) (by decide) (by decide) (by decide) (by decide) (by decide) (by decide +kernel) (by decide) (by decide +kernel) (by decide +kernel)
theorem kv_p2 : powR 1 4621819117588971520 400 = 9218868437227405312 := powR_at 1 4621819117588971520 400 400 5 50 1 9218868437227405312 (by decide) (by decide) (by decide) (by decide) (by decide) (by decide) (by decide +kernel) (by decide) (by decide +kernel) (by decide +kernel)
theorem kv_p3 : powR (-1) 4621819117588971520 400 = 9218868437227405311 := powR_at (-1) 4621819117588971520 400 400 5 50 1 9218868437227405311 (by decide) (by decide) (by decide) (by decide) (by decide) (by decide) (by decide +kernel) (by decide) (by decide +kernel) (by decide +kernel)
theorem kv_p4 : powR (-1) 4613937818241073152 2 = 4621256167635550208 := powR_at (-1) 4613937818241073152 2 2 3 51 0 4621256167635550208 (by decide) (by decide) (by decide) (by decide) (by decide) (by decide) (by decide +kernel) (by decide) (by decide +kernel) (by decide +kernel)
theorem kv_r1 : rootR (-1) 4628293042053316608 3 = 4613937818241073152 := by
  unfold rootR
  rw [if_neg (by decide), if_neg (by decide), if_neg (by decide)]
  exact rootV_at (-1) (sg 4628293042053316608) (rv (mg 4628293042053316608)) 3 0 3 4613937818241073152 false (by decide) (by decide +kernel) (by decide +kernel) (by decide +kernel) (fun h => by cases h) 0 (by decide) (by decide +kernel)
theorem kv_r2 : rootR 1 13844065254536904704 3 = 13835058055282163712 := by
  unfold rootR
  rw [if_neg (by decide), if_neg (by decide), if_neg (by decide)]
  exact rootV_at 1 (sg 13844065254536904704) (rv (mg 13844065254536904704)) 3 0 2 13835058055282163712 false (by decide) (by decide +kernel) (by decide +kernel) (by decide +kernel) (fun h => by cases h) 0 (by decide) (by decide +kernel)
theorem kv_r3 : rootR 1 13839561654909534208 2 = 9221120237041090561 := by
  unfold rootR
  rw [if_pos (by decide)]
  rfl
theorem kv_o1 : ofR 1 false 1 (-9223372036854775808) = 1 := by decide +kernel
theorem kv_o2 : ofR (-1) false 1 9223372036854775807 = 9218868437227405311 := by decide +kernel
theorem kv_q1 : ratR 0 false 1 10 0 = 4591870180066957722 := by decide +kernel
end Go.Proofs.YtadijoeeaineaaaDoor
