/-
  The walk through RoundKnown. Conditions: those that each theorem names.
-/
import Derived.Test.YtadijoeeaineaaaDoorZ37
import Derived.Test.YtadijoeeaineaaaDoorZ32
import Derived.Test.YtadijoeeaineaaaDoorZ36
import Derived.Test.YtadijoeeaineaaaDoorZ26
import Derived.Test.YtadijoeeaineaaaDoorZ17
import Derived.Test.YtadijoeeaineaaaDoorZ24
import Derived.Test.YtadijoeeaineaaaDoorZ38
namespace Go.Proofs.YtadijoeeaineaaaDoor
open Go.RowKit Nm Rn
set_option maxRecDepth 100000
set_option linter.unusedVariables false
set_option linter.unusedSimpArgs false

theorem kc_a1 (w : World) : Calls Tryd.prog 14 #[.int .i64 (-1), .float .f64 4607182418800017408, .float .f64 9223372036854775809] w (RetFl 4607182418800017407 w) := by
  have := radd_any_ (-1) 4607182418800017408 9223372036854775809 w (by decide) (by decide)
  rw [kv_a1] at this
  exact this
theorem kc_a2 (w : World) : Calls Tryd.prog 14 #[.int .i64 1, .float .f64 4607182418800017408, .float .f64 9223372036854775809] w (RetFl 4607182418800017408 w) := by
  have := radd_any_ 1 4607182418800017408 9223372036854775809 w (by decide) (by decide)
  rw [kv_a2] at this
  exact this
theorem kc_f1 (w : World) : Calls Tryd.prog 13 #[.int .i64 (-1), .float .f64 4607182418800017409, .float .f64 4607182418800017406, .float .f64 13830554455654793216] w (RetFl 13362180094408261632 w) := by
  have := rfma_any (-1) 4607182418800017409 4607182418800017406 13830554455654793216 w (by decide) (by decide) (by decide)
  rw [kv_f1] at this
  exact this
theorem kc_f2 (w : World) : Calls Tryd.prog 13 #[.int .i64 1, .float .f64 4607182418800017409, .float .f64 4607182418800017406, .float .f64 13830554455654793216] w (RetFl 13362180094408261632 w) := by
  have := rfma_any 1 4607182418800017409 4607182418800017406 13830554455654793216 w (by decide) (by decide) (by decide)
  rw [kv_f2] at this
  exact this
theorem kc_f3 (w : World) : Calls Tryd.prog 13 #[.int .i64 0, .float .f64 1, .float .f64 1, .float .f64 9223372036854775809] w (RetFl 9223372036854775809 w) := by
  have := rfma_any 0 1 1 9223372036854775809 w (by decide) (by decide) (by decide)
  rw [kv_f3] at this
  exact this
theorem kc_f4 (w : World) : Calls Tryd.prog 13 #[.int .i64 (-1), .float .f64 9218868437227405311, .float .f64 4611686018427387904, .float .f64 18442240474082181119] w (RetFl 9218868437227405311 w) := by
  have := rfma_any (-1) 9218868437227405311 4611686018427387904 18442240474082181119 w (by decide) (by decide) (by decide)
  rw [kv_f4] at this
  exact this
theorem kc_p1 (w : World) (hT : Tab w) : Calls Tryd.prog 10 #[.int .i64 (-1), .float .f64 4607182418800017409, .int .i64 1024] w (RetFl 4607182418800018432 w) := by
  have := rpow_prog (-1) 4607182418800017409 1024 w (by decide) hT
  rw [kv_p1] at this
  exact this
theorem kc_p2 (w : World) (hT : Tab w) : Calls Tryd.prog 10 #[.int .i64 1, .float .f64 4621819117588971520, .int .i64 400] w (RetFl 9218868437227405312 w) := by
  have := rpow_prog 1 4621819117588971520 400 w (by decide) hT
  rw [kv_p2] at this
  exact this
theorem kc_p3 (w : World) (hT : Tab w) : Calls Tryd.prog 10 #[.int .i64 (-1), .float .f64 4621819117588971520, .int .i64 400] w (RetFl 9218868437227405311 w) := by
  have := rpow_prog (-1) 4621819117588971520 400 w (by decide) hT
  rw [kv_p3] at this
  exact this
theorem kc_p4 (w : World) (hT : Tab w) : Calls Tryd.prog 10 #[.int .i64 (-1), .float .f64 4613937818241073152, .int .i64 2] w (RetFl 4621256167635550208 w) := by
  have := rpow_prog (-1) 4613937818241073152 2 w (by decide) hT
  rw [kv_p4] at this
  exact this
theorem kc_r1 (w : World) : Calls Tryd.prog 17 #[.int .i64 (-1), .float .f64 4628293042053316608, .int .i64 3] w (RetFl 4613937818241073152 w) := by
  have := rroot_any (-1) 4628293042053316608 3 w (by decide)
  rw [kv_r1] at this
  exact this
theorem kc_r2 (w : World) : Calls Tryd.prog 17 #[.int .i64 1, .float .f64 13844065254536904704, .int .i64 3] w (RetFl 13835058055282163712 w) := by
  have := rroot_any 1 13844065254536904704 3 w (by decide)
  rw [kv_r2] at this
  exact this
theorem kc_r3 (w : World) : Calls Tryd.prog 17 #[.int .i64 1, .float .f64 13839561654909534208, .int .i64 2] w (RetFl 9221120237041090561 w) := by
  have := rroot_any 1 13839561654909534208 2 w (by decide)
  rw [kv_r3] at this
  exact this
theorem kc_o1 (w : World) : Calls Tryd.prog 23 #[.int .i64 1, .bool false, .slice (some ⟨w.heap.size, 0, none⟩) 1 1, .int .i64 (-9223372036854775808)] (w.alloc (.cells #[.int .u32 1] 48)) (RetFl 1 (w.alloc (.cells #[.int .u32 1] 48))) := by
  have := rof_any 1 false (some ⟨w.heap.size, 0, none⟩) 1 1 [1] (-9223372036854775808) (w.alloc (.cells #[.int .u32 1] 48)) (one_wds w rfl) (by decide)
  rw [show nv [1] = 1 from rfl] at this
  rw [kv_o1] at this
  exact this
theorem kc_o2 (w : World) : Calls Tryd.prog 23 #[.int .i64 (-1), .bool false, .slice (some ⟨w.heap.size, 0, none⟩) 1 1, .int .i64 9223372036854775807] (w.alloc (.cells #[.int .u32 1] 48)) (RetFl 9218868437227405311 (w.alloc (.cells #[.int .u32 1] 48))) := by
  have := rof_any (-1) false (some ⟨w.heap.size, 0, none⟩) 1 1 [1] 9223372036854775807 (w.alloc (.cells #[.int .u32 1] 48)) (one_wds w rfl) (by decide)
  rw [show nv [1] = 1 from rfl] at this
  rw [kv_o2] at this
  exact this
theorem kc_q1 (w : World) : Calls Tryd.prog 25 #[.int .i64 0, .bool false, .slice (some ⟨w.heap.size, 0, none⟩) 1 1, .slice (some ⟨w.heap.size + 1, 0, none⟩) 1 1, .int .i64 0] ((w.alloc (.cells #[.int .u32 1] 48)).alloc (.cells #[.int .u32 10] 48)) (RetFl 4591870180066957722 ((w.alloc (.cells #[.int .u32 1] 48)).alloc (.cells #[.int .u32 10] 48))) := by
  have := pratio_any 0 false (some ⟨w.heap.size, 0, none⟩) 1 1 [1] (some ⟨w.heap.size + 1, 0, none⟩) 1 1 [10] 0 ((w.alloc (.cells #[.int .u32 1] 48)).alloc (.cells #[.int .u32 10] 48)) ((one_wds w rfl).alloc _) (by decide) (ten_wds (w.alloc (.cells #[.int .u32 1] 48)) (Array.size_push _).symm) (by decide)
  rw [show nv [1] = 1 from rfl, show nv [10] = 10 from rfl] at this
  rw [kv_q1] at this
  exact this
set_option maxHeartbeats 4000000 in
theorem known_walk (w : World) (hT : Tab w) : Calls Tryd.prog 5 #[] w fun e w' => e = .returned (.bool true) ∧ Ext w w' := by
  have HT := Lib.hid hT
  have HLB := Lib.hid (fun r V i w h hc e => lbv_any r V i w h hc e)
  have FL1 := Lib.hid (fun w => flv_any 1 1 w rfl)
  have FL2 := Lib.hid (fun w => flv_any 9218868437227405311 9218868437227405311 w rfl)
  have FL3 := Lib.hid (fun w => flv_any 4607182418800017409 4607182418800017409 w rfl)
  have FL4 := Lib.hid (fun w => flv_any 4607182418800017406 4607182418800017406 w rfl)
  have NA1 := Lib.hid (fun w => nar_1 w)
  have NA2 := Lib.hid (fun w => nar_2 w)
  have NA3 := Lib.hid (fun w => nar_3 w)
  have kb := callF32b
  have kn0 : ∀ w, (Go.Op.unary .neg (.float .f64 1)).run Tryd.prog w = .ok (.float .f64 9223372036854775809) w := fun w => by
    have := run_ng (x := 1) (by decide) w
    rwa [show ng 1 = 9223372036854775809 by decide] at this
  have kn1 : ∀ w, (Go.Op.unary .neg (.float .f64 9218868437227405311)).run Tryd.prog w = .ok (.float .f64 18442240474082181119) w := fun w => by
    have := run_ng (x := 9218868437227405311) (by decide) w
    rwa [show ng 9218868437227405311 = 18442240474082181119 by decide] at this
  have q_p4 := fo_ne (show 4621256167635550208 < 18446744073709551616 by decide) (show 4621256167635550208 < 18446744073709551616 by decide)
  rw [eqB_refl, show isNaN 4621256167635550208 = false by decide] at q_p4
  have q_r1 := fo_ne (show 4613937818241073152 < 18446744073709551616 by decide) (show 4613937818241073152 < 18446744073709551616 by decide)
  rw [eqB_refl, show isNaN 4613937818241073152 = false by decide] at q_r1
  have q_r2 := fo_ne (show 13835058055282163712 < 18446744073709551616 by decide) (show 13835058055282163712 < 18446744073709551616 by decide)
  rw [eqB_refl, show isNaN 13835058055282163712 = false by decide] at q_r2
  clear hT
  go_enter Tryd.func5, Tryd.ntmps5
  go_wp2_with (first | (go_at_call 11; ((with_reducible refine (FL1.out _).mono ?_); rintro e w' ⟨rfl, rfl⟩)) | (go_at_call 11; ((with_reducible refine (FL2.out _).mono ?_); rintro e w' ⟨rfl, rfl⟩)) | (go_at_call 11; ((with_reducible refine (FL3.out _).mono ?_); rintro e w' ⟨rfl, rfl⟩)) | (go_at_call 11; ((with_reducible refine (FL4.out _).mono ?_); rintro e w' ⟨rfl, rfl⟩)) | (go_at_call 31; ((with_reducible refine (NA1.out _).mono ?_); rintro e w' ⟨rfl, rfl⟩)) | (go_at_call 31; ((with_reducible refine (NA2.out _).mono ?_); rintro e w' ⟨rfl, rfl⟩)) | (go_at_call 31; ((with_reducible refine (NA3.out _).mono ?_); rintro e w' ⟨rfl, rfl⟩)))
  refine (lives_any _).mono ?_
  rintro e w0 ⟨rfl, hE⟩
  go_wp2_with (first | (go_at_call 11; ((with_reducible refine (FL1.out _).mono ?_); rintro e w' ⟨rfl, rfl⟩)) | (go_at_call 11; ((with_reducible refine (FL2.out _).mono ?_); rintro e w' ⟨rfl, rfl⟩)) | (go_at_call 11; ((with_reducible refine (FL3.out _).mono ?_); rintro e w' ⟨rfl, rfl⟩)) | (go_at_call 11; ((with_reducible refine (FL4.out _).mono ?_); rintro e w' ⟨rfl, rfl⟩)) | (go_at_call 31; ((with_reducible refine (NA1.out _).mono ?_); rintro e w' ⟨rfl, rfl⟩)) | (go_at_call 31; ((with_reducible refine (NA2.out _).mono ?_); rintro e w' ⟨rfl, rfl⟩)) | (go_at_call 31; ((with_reducible refine (NA3.out _).mono ?_); rintro e w' ⟨rfl, rfl⟩)))
  refine (kc_a1 _).mono ?_
  rintro e w1 ⟨r, rfl, hr, hc, hE'⟩
  replace hE := hE.trans hE'
  clear hE'
  go_wp2_with (first | (go_at_call 11; ((with_reducible refine (FL1.out _).mono ?_); rintro e w' ⟨rfl, rfl⟩)) | (go_at_call 11; ((with_reducible refine (FL2.out _).mono ?_); rintro e w' ⟨rfl, rfl⟩)) | (go_at_call 11; ((with_reducible refine (FL3.out _).mono ?_); rintro e w' ⟨rfl, rfl⟩)) | (go_at_call 11; ((with_reducible refine (FL4.out _).mono ?_); rintro e w' ⟨rfl, rfl⟩)) | (go_at_call 31; ((with_reducible refine (NA1.out _).mono ?_); rintro e w' ⟨rfl, rfl⟩)) | (go_at_call 31; ((with_reducible refine (NA2.out _).mono ?_); rintro e w' ⟨rfl, rfl⟩)) | (go_at_call 31; ((with_reducible refine (NA3.out _).mono ?_); rintro e w' ⟨rfl, rfl⟩)))
  refine (HLB.out r 4607182418800017407 4607182418800017407 _ hr hc rfl).mono ?_
  rintro e w' ⟨rfl, rfl⟩
  clear hc hr
  go_wp2_with (first | (go_at_call 11; ((with_reducible refine (FL1.out _).mono ?_); rintro e w' ⟨rfl, rfl⟩)) | (go_at_call 11; ((with_reducible refine (FL2.out _).mono ?_); rintro e w' ⟨rfl, rfl⟩)) | (go_at_call 11; ((with_reducible refine (FL3.out _).mono ?_); rintro e w' ⟨rfl, rfl⟩)) | (go_at_call 11; ((with_reducible refine (FL4.out _).mono ?_); rintro e w' ⟨rfl, rfl⟩)) | (go_at_call 31; ((with_reducible refine (NA1.out _).mono ?_); rintro e w' ⟨rfl, rfl⟩)) | (go_at_call 31; ((with_reducible refine (NA2.out _).mono ?_); rintro e w' ⟨rfl, rfl⟩)) | (go_at_call 31; ((with_reducible refine (NA3.out _).mono ?_); rintro e w' ⟨rfl, rfl⟩)))
  refine (kc_a2 _).mono ?_
  rintro e w2 ⟨r, rfl, hr, hc, hE'⟩
  replace hE := hE.trans hE'
  clear hE'
  go_wp2_with (first | (go_at_call 11; ((with_reducible refine (FL1.out _).mono ?_); rintro e w' ⟨rfl, rfl⟩)) | (go_at_call 11; ((with_reducible refine (FL2.out _).mono ?_); rintro e w' ⟨rfl, rfl⟩)) | (go_at_call 11; ((with_reducible refine (FL3.out _).mono ?_); rintro e w' ⟨rfl, rfl⟩)) | (go_at_call 11; ((with_reducible refine (FL4.out _).mono ?_); rintro e w' ⟨rfl, rfl⟩)) | (go_at_call 31; ((with_reducible refine (NA1.out _).mono ?_); rintro e w' ⟨rfl, rfl⟩)) | (go_at_call 31; ((with_reducible refine (NA2.out _).mono ?_); rintro e w' ⟨rfl, rfl⟩)) | (go_at_call 31; ((with_reducible refine (NA3.out _).mono ?_); rintro e w' ⟨rfl, rfl⟩)))
  refine (HLB.out r 4607182418800017408 4607182418800017408 _ hr hc rfl).mono ?_
  rintro e w' ⟨rfl, rfl⟩
  clear hc hr
  go_wp2_with (first | (go_at_call 11; ((with_reducible refine (FL1.out _).mono ?_); rintro e w' ⟨rfl, rfl⟩)) | (go_at_call 11; ((with_reducible refine (FL2.out _).mono ?_); rintro e w' ⟨rfl, rfl⟩)) | (go_at_call 11; ((with_reducible refine (FL3.out _).mono ?_); rintro e w' ⟨rfl, rfl⟩)) | (go_at_call 11; ((with_reducible refine (FL4.out _).mono ?_); rintro e w' ⟨rfl, rfl⟩)) | (go_at_call 31; ((with_reducible refine (NA1.out _).mono ?_); rintro e w' ⟨rfl, rfl⟩)) | (go_at_call 31; ((with_reducible refine (NA2.out _).mono ?_); rintro e w' ⟨rfl, rfl⟩)) | (go_at_call 31; ((with_reducible refine (NA3.out _).mono ?_); rintro e w' ⟨rfl, rfl⟩)))
  refine (kc_f1 _).mono ?_
  rintro e w3 ⟨r, rfl, hr, hc, hE'⟩
  replace hE := hE.trans hE'
  clear hE'
  go_wp2_with (first | (go_at_call 11; ((with_reducible refine (FL1.out _).mono ?_); rintro e w' ⟨rfl, rfl⟩)) | (go_at_call 11; ((with_reducible refine (FL2.out _).mono ?_); rintro e w' ⟨rfl, rfl⟩)) | (go_at_call 11; ((with_reducible refine (FL3.out _).mono ?_); rintro e w' ⟨rfl, rfl⟩)) | (go_at_call 11; ((with_reducible refine (FL4.out _).mono ?_); rintro e w' ⟨rfl, rfl⟩)) | (go_at_call 31; ((with_reducible refine (NA1.out _).mono ?_); rintro e w' ⟨rfl, rfl⟩)) | (go_at_call 31; ((with_reducible refine (NA2.out _).mono ?_); rintro e w' ⟨rfl, rfl⟩)) | (go_at_call 31; ((with_reducible refine (NA3.out _).mono ?_); rintro e w' ⟨rfl, rfl⟩)))
  refine (HLB.out r 13362180094408261632 13362180094408261632 _ hr hc rfl).mono ?_
  rintro e w' ⟨rfl, rfl⟩
  clear hc hr
  go_wp2_with (first | (go_at_call 11; ((with_reducible refine (FL1.out _).mono ?_); rintro e w' ⟨rfl, rfl⟩)) | (go_at_call 11; ((with_reducible refine (FL2.out _).mono ?_); rintro e w' ⟨rfl, rfl⟩)) | (go_at_call 11; ((with_reducible refine (FL3.out _).mono ?_); rintro e w' ⟨rfl, rfl⟩)) | (go_at_call 11; ((with_reducible refine (FL4.out _).mono ?_); rintro e w' ⟨rfl, rfl⟩)) | (go_at_call 31; ((with_reducible refine (NA1.out _).mono ?_); rintro e w' ⟨rfl, rfl⟩)) | (go_at_call 31; ((with_reducible refine (NA2.out _).mono ?_); rintro e w' ⟨rfl, rfl⟩)) | (go_at_call 31; ((with_reducible refine (NA3.out _).mono ?_); rintro e w' ⟨rfl, rfl⟩)))
  refine (kc_f2 _).mono ?_
  rintro e w4 ⟨r, rfl, hr, hc, hE'⟩
  replace hE := hE.trans hE'
  clear hE'
  go_wp2_with (first | (go_at_call 11; ((with_reducible refine (FL1.out _).mono ?_); rintro e w' ⟨rfl, rfl⟩)) | (go_at_call 11; ((with_reducible refine (FL2.out _).mono ?_); rintro e w' ⟨rfl, rfl⟩)) | (go_at_call 11; ((with_reducible refine (FL3.out _).mono ?_); rintro e w' ⟨rfl, rfl⟩)) | (go_at_call 11; ((with_reducible refine (FL4.out _).mono ?_); rintro e w' ⟨rfl, rfl⟩)) | (go_at_call 31; ((with_reducible refine (NA1.out _).mono ?_); rintro e w' ⟨rfl, rfl⟩)) | (go_at_call 31; ((with_reducible refine (NA2.out _).mono ?_); rintro e w' ⟨rfl, rfl⟩)) | (go_at_call 31; ((with_reducible refine (NA3.out _).mono ?_); rintro e w' ⟨rfl, rfl⟩)))
  refine (HLB.out r 13362180094408261632 13362180094408261632 _ hr hc rfl).mono ?_
  rintro e w' ⟨rfl, rfl⟩
  clear hc hr
  go_wp2_with (first | (go_at_call 11; ((with_reducible refine (FL1.out _).mono ?_); rintro e w' ⟨rfl, rfl⟩)) | (go_at_call 11; ((with_reducible refine (FL2.out _).mono ?_); rintro e w' ⟨rfl, rfl⟩)) | (go_at_call 11; ((with_reducible refine (FL3.out _).mono ?_); rintro e w' ⟨rfl, rfl⟩)) | (go_at_call 11; ((with_reducible refine (FL4.out _).mono ?_); rintro e w' ⟨rfl, rfl⟩)) | (go_at_call 31; ((with_reducible refine (NA1.out _).mono ?_); rintro e w' ⟨rfl, rfl⟩)) | (go_at_call 31; ((with_reducible refine (NA2.out _).mono ?_); rintro e w' ⟨rfl, rfl⟩)) | (go_at_call 31; ((with_reducible refine (NA3.out _).mono ?_); rintro e w' ⟨rfl, rfl⟩)))
  refine (kc_f3 _).mono ?_
  rintro e w5 ⟨r, rfl, hr, hc, hE'⟩
  replace hE := hE.trans hE'
  clear hE'
  go_wp2_with (first | (go_at_call 11; ((with_reducible refine (FL1.out _).mono ?_); rintro e w' ⟨rfl, rfl⟩)) | (go_at_call 11; ((with_reducible refine (FL2.out _).mono ?_); rintro e w' ⟨rfl, rfl⟩)) | (go_at_call 11; ((with_reducible refine (FL3.out _).mono ?_); rintro e w' ⟨rfl, rfl⟩)) | (go_at_call 11; ((with_reducible refine (FL4.out _).mono ?_); rintro e w' ⟨rfl, rfl⟩)) | (go_at_call 31; ((with_reducible refine (NA1.out _).mono ?_); rintro e w' ⟨rfl, rfl⟩)) | (go_at_call 31; ((with_reducible refine (NA2.out _).mono ?_); rintro e w' ⟨rfl, rfl⟩)) | (go_at_call 31; ((with_reducible refine (NA3.out _).mono ?_); rintro e w' ⟨rfl, rfl⟩)))
  refine (HLB.out r 9223372036854775809 9223372036854775809 _ hr hc rfl).mono ?_
  rintro e w' ⟨rfl, rfl⟩
  clear hc hr
  go_wp2_with (first | (go_at_call 11; ((with_reducible refine (FL1.out _).mono ?_); rintro e w' ⟨rfl, rfl⟩)) | (go_at_call 11; ((with_reducible refine (FL2.out _).mono ?_); rintro e w' ⟨rfl, rfl⟩)) | (go_at_call 11; ((with_reducible refine (FL3.out _).mono ?_); rintro e w' ⟨rfl, rfl⟩)) | (go_at_call 11; ((with_reducible refine (FL4.out _).mono ?_); rintro e w' ⟨rfl, rfl⟩)) | (go_at_call 31; ((with_reducible refine (NA1.out _).mono ?_); rintro e w' ⟨rfl, rfl⟩)) | (go_at_call 31; ((with_reducible refine (NA2.out _).mono ?_); rintro e w' ⟨rfl, rfl⟩)) | (go_at_call 31; ((with_reducible refine (NA3.out _).mono ?_); rintro e w' ⟨rfl, rfl⟩)))
  refine (kc_f4 _).mono ?_
  rintro e w6 ⟨r, rfl, hr, hc, hE'⟩
  replace hE := hE.trans hE'
  clear hE'
  go_wp2_with (first | (go_at_call 11; ((with_reducible refine (FL1.out _).mono ?_); rintro e w' ⟨rfl, rfl⟩)) | (go_at_call 11; ((with_reducible refine (FL2.out _).mono ?_); rintro e w' ⟨rfl, rfl⟩)) | (go_at_call 11; ((with_reducible refine (FL3.out _).mono ?_); rintro e w' ⟨rfl, rfl⟩)) | (go_at_call 11; ((with_reducible refine (FL4.out _).mono ?_); rintro e w' ⟨rfl, rfl⟩)) | (go_at_call 31; ((with_reducible refine (NA1.out _).mono ?_); rintro e w' ⟨rfl, rfl⟩)) | (go_at_call 31; ((with_reducible refine (NA2.out _).mono ?_); rintro e w' ⟨rfl, rfl⟩)) | (go_at_call 31; ((with_reducible refine (NA3.out _).mono ?_); rintro e w' ⟨rfl, rfl⟩)))
  refine (HLB.out r 9218868437227405311 9218868437227405311 _ hr hc rfl).mono ?_
  rintro e w' ⟨rfl, rfl⟩
  clear hc hr
  go_wp2_with (first | (go_at_call 11; ((with_reducible refine (FL1.out _).mono ?_); rintro e w' ⟨rfl, rfl⟩)) | (go_at_call 11; ((with_reducible refine (FL2.out _).mono ?_); rintro e w' ⟨rfl, rfl⟩)) | (go_at_call 11; ((with_reducible refine (FL3.out _).mono ?_); rintro e w' ⟨rfl, rfl⟩)) | (go_at_call 11; ((with_reducible refine (FL4.out _).mono ?_); rintro e w' ⟨rfl, rfl⟩)) | (go_at_call 31; ((with_reducible refine (NA1.out _).mono ?_); rintro e w' ⟨rfl, rfl⟩)) | (go_at_call 31; ((with_reducible refine (NA2.out _).mono ?_); rintro e w' ⟨rfl, rfl⟩)) | (go_at_call 31; ((with_reducible refine (NA3.out _).mono ?_); rintro e w' ⟨rfl, rfl⟩)))
  refine (kc_p1 _ (HT.out.ext hE)).mono ?_
  rintro e w7 ⟨r, rfl, hr, hc, hE'⟩
  replace hE := hE.trans hE'
  clear hE'
  go_wp2_with (first | (go_at_call 11; ((with_reducible refine (FL1.out _).mono ?_); rintro e w' ⟨rfl, rfl⟩)) | (go_at_call 11; ((with_reducible refine (FL2.out _).mono ?_); rintro e w' ⟨rfl, rfl⟩)) | (go_at_call 11; ((with_reducible refine (FL3.out _).mono ?_); rintro e w' ⟨rfl, rfl⟩)) | (go_at_call 11; ((with_reducible refine (FL4.out _).mono ?_); rintro e w' ⟨rfl, rfl⟩)) | (go_at_call 31; ((with_reducible refine (NA1.out _).mono ?_); rintro e w' ⟨rfl, rfl⟩)) | (go_at_call 31; ((with_reducible refine (NA2.out _).mono ?_); rintro e w' ⟨rfl, rfl⟩)) | (go_at_call 31; ((with_reducible refine (NA3.out _).mono ?_); rintro e w' ⟨rfl, rfl⟩)))
  refine (HLB.out r 4607182418800018432 4607182418800018432 _ hr hc rfl).mono ?_
  rintro e w' ⟨rfl, rfl⟩
  clear hc hr
  go_wp2_with (first | (go_at_call 11; ((with_reducible refine (FL1.out _).mono ?_); rintro e w' ⟨rfl, rfl⟩)) | (go_at_call 11; ((with_reducible refine (FL2.out _).mono ?_); rintro e w' ⟨rfl, rfl⟩)) | (go_at_call 11; ((with_reducible refine (FL3.out _).mono ?_); rintro e w' ⟨rfl, rfl⟩)) | (go_at_call 11; ((with_reducible refine (FL4.out _).mono ?_); rintro e w' ⟨rfl, rfl⟩)) | (go_at_call 31; ((with_reducible refine (NA1.out _).mono ?_); rintro e w' ⟨rfl, rfl⟩)) | (go_at_call 31; ((with_reducible refine (NA2.out _).mono ?_); rintro e w' ⟨rfl, rfl⟩)) | (go_at_call 31; ((with_reducible refine (NA3.out _).mono ?_); rintro e w' ⟨rfl, rfl⟩)))
  refine (kc_p2 _ (HT.out.ext hE)).mono ?_
  rintro e w8 ⟨r, rfl, hr, hc, hE'⟩
  replace hE := hE.trans hE'
  clear hE'
  go_wp2_with (first | (go_at_call 11; ((with_reducible refine (FL1.out _).mono ?_); rintro e w' ⟨rfl, rfl⟩)) | (go_at_call 11; ((with_reducible refine (FL2.out _).mono ?_); rintro e w' ⟨rfl, rfl⟩)) | (go_at_call 11; ((with_reducible refine (FL3.out _).mono ?_); rintro e w' ⟨rfl, rfl⟩)) | (go_at_call 11; ((with_reducible refine (FL4.out _).mono ?_); rintro e w' ⟨rfl, rfl⟩)) | (go_at_call 31; ((with_reducible refine (NA1.out _).mono ?_); rintro e w' ⟨rfl, rfl⟩)) | (go_at_call 31; ((with_reducible refine (NA2.out _).mono ?_); rintro e w' ⟨rfl, rfl⟩)) | (go_at_call 31; ((with_reducible refine (NA3.out _).mono ?_); rintro e w' ⟨rfl, rfl⟩)))
  refine (HLB.out r 9218868437227405312 9218868437227405312 _ hr hc rfl).mono ?_
  rintro e w' ⟨rfl, rfl⟩
  clear hc hr
  go_wp2_with (first | (go_at_call 11; ((with_reducible refine (FL1.out _).mono ?_); rintro e w' ⟨rfl, rfl⟩)) | (go_at_call 11; ((with_reducible refine (FL2.out _).mono ?_); rintro e w' ⟨rfl, rfl⟩)) | (go_at_call 11; ((with_reducible refine (FL3.out _).mono ?_); rintro e w' ⟨rfl, rfl⟩)) | (go_at_call 11; ((with_reducible refine (FL4.out _).mono ?_); rintro e w' ⟨rfl, rfl⟩)) | (go_at_call 31; ((with_reducible refine (NA1.out _).mono ?_); rintro e w' ⟨rfl, rfl⟩)) | (go_at_call 31; ((with_reducible refine (NA2.out _).mono ?_); rintro e w' ⟨rfl, rfl⟩)) | (go_at_call 31; ((with_reducible refine (NA3.out _).mono ?_); rintro e w' ⟨rfl, rfl⟩)))
  refine (kc_p3 _ (HT.out.ext hE)).mono ?_
  rintro e w9 ⟨r, rfl, hr, hc, hE'⟩
  replace hE := hE.trans hE'
  clear hE'
  go_wp2_with (first | (go_at_call 11; ((with_reducible refine (FL1.out _).mono ?_); rintro e w' ⟨rfl, rfl⟩)) | (go_at_call 11; ((with_reducible refine (FL2.out _).mono ?_); rintro e w' ⟨rfl, rfl⟩)) | (go_at_call 11; ((with_reducible refine (FL3.out _).mono ?_); rintro e w' ⟨rfl, rfl⟩)) | (go_at_call 11; ((with_reducible refine (FL4.out _).mono ?_); rintro e w' ⟨rfl, rfl⟩)) | (go_at_call 31; ((with_reducible refine (NA1.out _).mono ?_); rintro e w' ⟨rfl, rfl⟩)) | (go_at_call 31; ((with_reducible refine (NA2.out _).mono ?_); rintro e w' ⟨rfl, rfl⟩)) | (go_at_call 31; ((with_reducible refine (NA3.out _).mono ?_); rintro e w' ⟨rfl, rfl⟩)))
  refine (HLB.out r 9218868437227405311 9218868437227405311 _ hr hc rfl).mono ?_
  rintro e w' ⟨rfl, rfl⟩
  clear hc hr
  go_wp2_with (first | (go_at_call 11; ((with_reducible refine (FL1.out _).mono ?_); rintro e w' ⟨rfl, rfl⟩)) | (go_at_call 11; ((with_reducible refine (FL2.out _).mono ?_); rintro e w' ⟨rfl, rfl⟩)) | (go_at_call 11; ((with_reducible refine (FL3.out _).mono ?_); rintro e w' ⟨rfl, rfl⟩)) | (go_at_call 11; ((with_reducible refine (FL4.out _).mono ?_); rintro e w' ⟨rfl, rfl⟩)) | (go_at_call 31; ((with_reducible refine (NA1.out _).mono ?_); rintro e w' ⟨rfl, rfl⟩)) | (go_at_call 31; ((with_reducible refine (NA2.out _).mono ?_); rintro e w' ⟨rfl, rfl⟩)) | (go_at_call 31; ((with_reducible refine (NA3.out _).mono ?_); rintro e w' ⟨rfl, rfl⟩)))
  refine (kc_p4 _ (HT.out.ext hE)).mono ?_
  rintro e w10 ⟨r, rfl, hr, hc, hE'⟩
  replace hE := hE.trans hE'
  clear hE'
  obtain rfl := cn_inj_ hc (by decide)
  clear hc hr
  go_wp2_with (first | (go_at_call 11; ((with_reducible refine (FL1.out _).mono ?_); rintro e w' ⟨rfl, rfl⟩)) | (go_at_call 11; ((with_reducible refine (FL2.out _).mono ?_); rintro e w' ⟨rfl, rfl⟩)) | (go_at_call 11; ((with_reducible refine (FL3.out _).mono ?_); rintro e w' ⟨rfl, rfl⟩)) | (go_at_call 11; ((with_reducible refine (FL4.out _).mono ?_); rintro e w' ⟨rfl, rfl⟩)) | (go_at_call 31; ((with_reducible refine (NA1.out _).mono ?_); rintro e w' ⟨rfl, rfl⟩)) | (go_at_call 31; ((with_reducible refine (NA2.out _).mono ?_); rintro e w' ⟨rfl, rfl⟩)) | (go_at_call 31; ((with_reducible refine (NA3.out _).mono ?_); rintro e w' ⟨rfl, rfl⟩)))
  refine (kc_r1 _).mono ?_
  rintro e w11 ⟨r, rfl, hr, hc, hE'⟩
  replace hE := hE.trans hE'
  clear hE'
  obtain rfl := cn_inj_ hc (by decide)
  clear hc hr
  go_wp2_with (first | (go_at_call 11; ((with_reducible refine (FL1.out _).mono ?_); rintro e w' ⟨rfl, rfl⟩)) | (go_at_call 11; ((with_reducible refine (FL2.out _).mono ?_); rintro e w' ⟨rfl, rfl⟩)) | (go_at_call 11; ((with_reducible refine (FL3.out _).mono ?_); rintro e w' ⟨rfl, rfl⟩)) | (go_at_call 11; ((with_reducible refine (FL4.out _).mono ?_); rintro e w' ⟨rfl, rfl⟩)) | (go_at_call 31; ((with_reducible refine (NA1.out _).mono ?_); rintro e w' ⟨rfl, rfl⟩)) | (go_at_call 31; ((with_reducible refine (NA2.out _).mono ?_); rintro e w' ⟨rfl, rfl⟩)) | (go_at_call 31; ((with_reducible refine (NA3.out _).mono ?_); rintro e w' ⟨rfl, rfl⟩)))
  refine (kc_r2 _).mono ?_
  rintro e w12 ⟨r, rfl, hr, hc, hE'⟩
  replace hE := hE.trans hE'
  clear hE'
  obtain rfl := cn_inj_ hc (by decide)
  clear hc hr
  go_wp2_with (first | (go_at_call 11; ((with_reducible refine (FL1.out _).mono ?_); rintro e w' ⟨rfl, rfl⟩)) | (go_at_call 11; ((with_reducible refine (FL2.out _).mono ?_); rintro e w' ⟨rfl, rfl⟩)) | (go_at_call 11; ((with_reducible refine (FL3.out _).mono ?_); rintro e w' ⟨rfl, rfl⟩)) | (go_at_call 11; ((with_reducible refine (FL4.out _).mono ?_); rintro e w' ⟨rfl, rfl⟩)) | (go_at_call 31; ((with_reducible refine (NA1.out _).mono ?_); rintro e w' ⟨rfl, rfl⟩)) | (go_at_call 31; ((with_reducible refine (NA2.out _).mono ?_); rintro e w' ⟨rfl, rfl⟩)) | (go_at_call 31; ((with_reducible refine (NA3.out _).mono ?_); rintro e w' ⟨rfl, rfl⟩)))
  refine (kc_r3 _).mono ?_
  rintro e w13 ⟨r, rfl, hr, hc, hE'⟩
  replace hE := hE.trans hE'
  clear hE'
  go_wp2_with (first | (go_at_call 11; ((with_reducible refine (FL1.out _).mono ?_); rintro e w' ⟨rfl, rfl⟩)) | (go_at_call 11; ((with_reducible refine (FL2.out _).mono ?_); rintro e w' ⟨rfl, rfl⟩)) | (go_at_call 11; ((with_reducible refine (FL3.out _).mono ?_); rintro e w' ⟨rfl, rfl⟩)) | (go_at_call 11; ((with_reducible refine (FL4.out _).mono ?_); rintro e w' ⟨rfl, rfl⟩)) | (go_at_call 31; ((with_reducible refine (NA1.out _).mono ?_); rintro e w' ⟨rfl, rfl⟩)) | (go_at_call 31; ((with_reducible refine (NA2.out _).mono ?_); rintro e w' ⟨rfl, rfl⟩)) | (go_at_call 31; ((with_reducible refine (NA3.out _).mono ?_); rintro e w' ⟨rfl, rfl⟩)))
  refine (HLB.out r 9221120237041090561 9221120237041090561 _ hr hc rfl).mono ?_
  rintro e w' ⟨rfl, rfl⟩
  clear hc hr
  go_wp2_with (first | (go_at_call 11; ((with_reducible refine (FL1.out _).mono ?_); rintro e w' ⟨rfl, rfl⟩)) | (go_at_call 11; ((with_reducible refine (FL2.out _).mono ?_); rintro e w' ⟨rfl, rfl⟩)) | (go_at_call 11; ((with_reducible refine (FL3.out _).mono ?_); rintro e w' ⟨rfl, rfl⟩)) | (go_at_call 11; ((with_reducible refine (FL4.out _).mono ?_); rintro e w' ⟨rfl, rfl⟩)) | (go_at_call 31; ((with_reducible refine (NA1.out _).mono ?_); rintro e w' ⟨rfl, rfl⟩)) | (go_at_call 31; ((with_reducible refine (NA2.out _).mono ?_); rintro e w' ⟨rfl, rfl⟩)) | (go_at_call 31; ((with_reducible refine (NA3.out _).mono ?_); rintro e w' ⟨rfl, rfl⟩)))
  refine (kc_o1 _).mono ?_
  rintro e w14 ⟨r, rfl, hr, hc, hE'⟩
  replace hE := hE.trans ((Ext.refl w13).alloc (.cells #[.int .u32 1] 48))
  replace hE := hE.trans hE'
  clear hE'
  go_wp2_with (first | (go_at_call 11; ((with_reducible refine (FL1.out _).mono ?_); rintro e w' ⟨rfl, rfl⟩)) | (go_at_call 11; ((with_reducible refine (FL2.out _).mono ?_); rintro e w' ⟨rfl, rfl⟩)) | (go_at_call 11; ((with_reducible refine (FL3.out _).mono ?_); rintro e w' ⟨rfl, rfl⟩)) | (go_at_call 11; ((with_reducible refine (FL4.out _).mono ?_); rintro e w' ⟨rfl, rfl⟩)) | (go_at_call 31; ((with_reducible refine (NA1.out _).mono ?_); rintro e w' ⟨rfl, rfl⟩)) | (go_at_call 31; ((with_reducible refine (NA2.out _).mono ?_); rintro e w' ⟨rfl, rfl⟩)) | (go_at_call 31; ((with_reducible refine (NA3.out _).mono ?_); rintro e w' ⟨rfl, rfl⟩)))
  refine (HLB.out r 1 1 _ hr hc rfl).mono ?_
  rintro e w' ⟨rfl, rfl⟩
  clear hc hr
  go_wp2_with (first | (go_at_call 11; ((with_reducible refine (FL1.out _).mono ?_); rintro e w' ⟨rfl, rfl⟩)) | (go_at_call 11; ((with_reducible refine (FL2.out _).mono ?_); rintro e w' ⟨rfl, rfl⟩)) | (go_at_call 11; ((with_reducible refine (FL3.out _).mono ?_); rintro e w' ⟨rfl, rfl⟩)) | (go_at_call 11; ((with_reducible refine (FL4.out _).mono ?_); rintro e w' ⟨rfl, rfl⟩)) | (go_at_call 31; ((with_reducible refine (NA1.out _).mono ?_); rintro e w' ⟨rfl, rfl⟩)) | (go_at_call 31; ((with_reducible refine (NA2.out _).mono ?_); rintro e w' ⟨rfl, rfl⟩)) | (go_at_call 31; ((with_reducible refine (NA3.out _).mono ?_); rintro e w' ⟨rfl, rfl⟩)))
  refine (kc_o2 _).mono ?_
  rintro e w15 ⟨r, rfl, hr, hc, hE'⟩
  replace hE := hE.trans ((Ext.refl w14).alloc (.cells #[.int .u32 1] 48))
  replace hE := hE.trans hE'
  clear hE'
  go_wp2_with (first | (go_at_call 11; ((with_reducible refine (FL1.out _).mono ?_); rintro e w' ⟨rfl, rfl⟩)) | (go_at_call 11; ((with_reducible refine (FL2.out _).mono ?_); rintro e w' ⟨rfl, rfl⟩)) | (go_at_call 11; ((with_reducible refine (FL3.out _).mono ?_); rintro e w' ⟨rfl, rfl⟩)) | (go_at_call 11; ((with_reducible refine (FL4.out _).mono ?_); rintro e w' ⟨rfl, rfl⟩)) | (go_at_call 31; ((with_reducible refine (NA1.out _).mono ?_); rintro e w' ⟨rfl, rfl⟩)) | (go_at_call 31; ((with_reducible refine (NA2.out _).mono ?_); rintro e w' ⟨rfl, rfl⟩)) | (go_at_call 31; ((with_reducible refine (NA3.out _).mono ?_); rintro e w' ⟨rfl, rfl⟩)))
  refine (HLB.out r 9218868437227405311 9218868437227405311 _ hr hc rfl).mono ?_
  rintro e w' ⟨rfl, rfl⟩
  clear hc hr
  go_wp2_with (first | (go_at_call 11; ((with_reducible refine (FL1.out _).mono ?_); rintro e w' ⟨rfl, rfl⟩)) | (go_at_call 11; ((with_reducible refine (FL2.out _).mono ?_); rintro e w' ⟨rfl, rfl⟩)) | (go_at_call 11; ((with_reducible refine (FL3.out _).mono ?_); rintro e w' ⟨rfl, rfl⟩)) | (go_at_call 11; ((with_reducible refine (FL4.out _).mono ?_); rintro e w' ⟨rfl, rfl⟩)) | (go_at_call 31; ((with_reducible refine (NA1.out _).mono ?_); rintro e w' ⟨rfl, rfl⟩)) | (go_at_call 31; ((with_reducible refine (NA2.out _).mono ?_); rintro e w' ⟨rfl, rfl⟩)) | (go_at_call 31; ((with_reducible refine (NA3.out _).mono ?_); rintro e w' ⟨rfl, rfl⟩)))
  refine (kc_q1 _).mono ?_
  rintro e w16 ⟨r, rfl, hr, hc, hE'⟩
  replace hE := hE.trans (((Ext.refl w15).alloc (.cells #[.int .u32 1] 48)).trans ((Ext.refl _).alloc (.cells #[.int .u32 10] 48)))
  replace hE := hE.trans hE'
  clear hE'
  go_wp2_with (first | (go_at_call 11; ((with_reducible refine (FL1.out _).mono ?_); rintro e w' ⟨rfl, rfl⟩)) | (go_at_call 11; ((with_reducible refine (FL2.out _).mono ?_); rintro e w' ⟨rfl, rfl⟩)) | (go_at_call 11; ((with_reducible refine (FL3.out _).mono ?_); rintro e w' ⟨rfl, rfl⟩)) | (go_at_call 11; ((with_reducible refine (FL4.out _).mono ?_); rintro e w' ⟨rfl, rfl⟩)) | (go_at_call 31; ((with_reducible refine (NA1.out _).mono ?_); rintro e w' ⟨rfl, rfl⟩)) | (go_at_call 31; ((with_reducible refine (NA2.out _).mono ?_); rintro e w' ⟨rfl, rfl⟩)) | (go_at_call 31; ((with_reducible refine (NA3.out _).mono ?_); rintro e w' ⟨rfl, rfl⟩)))
  refine (HLB.out r 4591870180066957722 4591870180066957722 _ hr hc rfl).mono ?_
  rintro e w' ⟨rfl, rfl⟩
  clear hc hr
  go_wp2_with (first | (go_at_call 11; ((with_reducible refine (FL1.out _).mono ?_); rintro e w' ⟨rfl, rfl⟩)) | (go_at_call 11; ((with_reducible refine (FL2.out _).mono ?_); rintro e w' ⟨rfl, rfl⟩)) | (go_at_call 11; ((with_reducible refine (FL3.out _).mono ?_); rintro e w' ⟨rfl, rfl⟩)) | (go_at_call 11; ((with_reducible refine (FL4.out _).mono ?_); rintro e w' ⟨rfl, rfl⟩)) | (go_at_call 31; ((with_reducible refine (NA1.out _).mono ?_); rintro e w' ⟨rfl, rfl⟩)) | (go_at_call 31; ((with_reducible refine (NA2.out _).mono ?_); rintro e w' ⟨rfl, rfl⟩)) | (go_at_call 31; ((with_reducible refine (NA3.out _).mono ?_); rintro e w' ⟨rfl, rfl⟩)))
  go_ret
  exact ⟨rfl, hE⟩
end Go.Proofs.YtadijoeeaineaaaDoor
