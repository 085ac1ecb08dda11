/-
  The walk of TotalKnown. Conditions: those that each theorem names.
-/
import Derived.Test.YtfbjeifhpmdjaaaZ43
import Derived.Test.YtfbjeifhpmdjaaaZ29
import Derived.Test.YtfbjeifhpmdjaaaZ27
import Derived.Test.YtfbjeifhpmdjaaaZ05
namespace Go.Proofs.Ytfbjeifhpmdjaaa
open Go.RowKit Nm Rn
set_option maxRecDepth 100000
set_option linter.unusedVariables false
set_option linter.unusedSimpArgs false

theorem cn_is4 {r V : Nat} (h : isNaN V = false) (hc : cn r = V) : r = V := by
  unfold cn at hc
  split at hc
  · rw [← hc, NaNc_nan] at h; cases h
  · exact hc
theorem fd_new (w : World) (xs : List Nat) (h6 : W6 xs) (hm : xs.length ≤ maxLen) : Fds (w.alloc (.cells (fls xs).toArray 28)) (some ⟨w.heap.size, 0, none⟩) xs.length xs.length xs := by
  have h := ((Own.start w).alloc 28 (fls xs) (fls_noU xs)).blk 0 rfl
  exact Fds.of_blk (ys := []) (by rw [List.append_nil]; exact h) h6 rfl (Nat.le_refl _) hm
theorem fd_nil (w : World) : Fds w none 0 0 [] := ⟨rfl, Nat.le_refl _, by unfold maxLen; omega, W6.nil, fun h => by omega⟩

set_option maxHeartbeats 16000000 in
theorem known_w4 (w : World) :
    Calls Try.prog 7 #[] w fun e w' => e = .returned (.bool true) ∧ Ext w w' := by
  have HL := Lib.hid (fun w => lives4_any w)
  have HBT := Lib.hid (fun r w h => bits4_any r w h)
  have HF0 : Hid (∀ w, Calls Try.prog 12 #[.int .u64 1] w fun e w' => e = .returned (.float .f64 1) ∧ w = w') := Lib.hid (fun w => fl4_any 1 w)
  have HF1 : Hid (∀ w, Calls Try.prog 12 #[.int .u64 9218868437227405311] w fun e w' => e = .returned (.float .f64 9218868437227405311) ∧ w = w') := Lib.hid (fun w => fl4_any 9218868437227405311 w)
  have HF2 : Hid (∀ w, Calls Try.prog 12 #[.int .u64 9218868437227405312] w fun e w' => e = .returned (.float .f64 9218868437227405312) ∧ w = w') := Lib.hid (fun w => fl4_any 9218868437227405312 w)
  have hg0 : ∀ w, (Go.Op.unary .neg (.float .f64 1)).run Try.prog w = .ok (.float .f64 9223372036854775809) w := fun w => run_ng (x := 1) (by omega) w
  have hg1 : ∀ w, (Go.Op.unary .neg (.float .f64 9218868437227405311)).run Try.prog w = .ok (.float .f64 18442240474082181119) w := fun w => run_ng (x := 9218868437227405311) (by omega) w
  have hg2 : ∀ w, (Go.Op.unary .neg (.float .f64 9218868437227405312)).run Try.prog w = .ok (.float .f64 18442240474082181120) w := fun w => run_ng (x := 9218868437227405312) (by omega) w
  obtain ⟨Z0, hZ0⟩ : ∃ Z, Z = Sm.nil := ⟨_, rfl⟩
  have ok0 : Z0.Ok := by rw [hZ0]; exact Sm.Ok.nil
  obtain ⟨Z1, hZ1⟩ : ∃ Z, Z = Z0.mul 1 1 := ⟨_, rfl⟩
  have ok1 : Z1.Ok := by rw [hZ1]; exact ok0.mul (by omega) (by omega)
  obtain ⟨Z2, hZ2⟩ : ∃ Z, Z = Z1.mul 1 9223372036854775809 := ⟨_, rfl⟩
  have ok2 : Z2.Ok := by rw [hZ2]; exact ok1.mul (by omega) (by omega)
  obtain ⟨Z3, hZ3⟩ : ∃ Z, Z = Z2.mul 9218868437227405311 9218868437227405311 := ⟨_, rfl⟩
  have ok3 : Z3.Ok := by rw [hZ3]; exact ok2.mul (by omega) (by omega)
  obtain ⟨Z4, hZ4⟩ : ∃ Z, Z = Z3.mul 18442240474082181119 9218868437227405311 := ⟨_, rfl⟩
  have ok4 : Z4.Ok := by rw [hZ4]; exact ok3.mul (by omega) (by omega)
  obtain ⟨Z5, hZ5⟩ : ∃ Z, Z = Z4.add 4617315517961601024 := ⟨_, rfl⟩
  have ok5 : Z5.Ok := by rw [hZ5]; exact ok4.add (by omega)
  obtain ⟨Z6, hZ6⟩ : ∃ Z, Z = Z5.add 9218868437227405312 := ⟨_, rfl⟩
  have ok6 : Z6.Ok := by rw [hZ6]; exact ok5.add (by omega)
  obtain ⟨Z7, hZ7⟩ : ∃ Z, Z = Z6.add 18442240474082181120 := ⟨_, rfl⟩
  have ok7 : Z7.Ok := by rw [hZ7]; exact ok6.add (by omega)
  obtain ⟨Z8, hZ8⟩ : ∃ Z, Z = Z7.add 4607182418800017408 := ⟨_, rfl⟩
  have ok8 : Z8.Ok := by rw [hZ8]; exact ok7.add (by omega)
  obtain ⟨Y1, hY1⟩ : ∃ Z, Z = Z0.add 4607182418800017408 := ⟨_, rfl⟩
  have oy1 : Y1.Ok := by rw [hY1]; exact ok0.add (by omega)
  obtain ⟨Y2, hY2⟩ : ∃ Z, Z = Y1.add 4607182418800017408 := ⟨_, rfl⟩
  have oy2 : Y2.Ok := by rw [hY2]; exact oy1.add (by omega)
  obtain ⟨Y3, hY3⟩ : ∃ Z, Z = Y2.add 4607182418800017408 := ⟨_, rfl⟩
  have oy3 : Y3.Ok := by rw [hY3]; exact oy2.add (by omega)
  have v0 : Z0.round 1 = 0 := by rw [hZ0]; decide +kernel
  have v1 : Z0.sign = 0 := by rw [hZ0]; decide +kernel
  have v2 : Z0.state = 0 := by rw [hZ0]; decide +kernel
  have v3 : Z0.over (-1) 3 = 0 := by rw [hZ0]; decide +kernel
  have v4 : Z0.root 1 = 0 := by rw [hZ0]; decide +kernel
  have v5 : Z1.round (-1) = 0 := by rw [hZ1, hZ0]; decide +kernel
  have v6 : Z1.round 1 = 1 := by rw [hZ1, hZ0]; decide +kernel
  have v7 : Z1.sign = 1 := by rw [hZ1, hZ0]; decide +kernel
  have v8 : Z2.sign = 0 := by rw [hZ2, hZ1, hZ0]; decide +kernel
  have v9 : Z2.round 1 = 0 := by rw [hZ2, hZ1, hZ0]; decide +kernel
  have v10 : Z5.round (-1) = 4617315517961601024 := by rw [hZ5, hZ4, hZ3, hZ2, hZ1, hZ0]; decide +kernel
  have v11 : Z5.over 1 0 = 9221120237041090561 := by rw [hZ5, hZ4, hZ3, hZ2, hZ1, hZ0]; decide +kernel
  have v12 : Z6.state = 1 := by rw [hZ6, hZ5, hZ4, hZ3, hZ2, hZ1, hZ0]; decide +kernel
  have v13 : Z6.sign = 1 := by rw [hZ6, hZ5, hZ4, hZ3, hZ2, hZ1, hZ0]; decide +kernel
  have v14 : Z6.round (-1) = 9218868437227405312 := by rw [hZ6, hZ5, hZ4, hZ3, hZ2, hZ1, hZ0]; decide +kernel
  have v15 : Z8.state = 2 := by rw [hZ8, hZ7, hZ6, hZ5, hZ4, hZ3, hZ2, hZ1, hZ0]; decide +kernel
  have v16 : Z8.sign = 0 := by rw [hZ8, hZ7, hZ6, hZ5, hZ4, hZ3, hZ2, hZ1, hZ0]; decide +kernel
  have v17 : Z8.round (-1) = 9221120237041090561 := by rw [hZ8, hZ7, hZ6, hZ5, hZ4, hZ3, hZ2, hZ1, hZ0]; decide +kernel
  have v18 : Y3.over (-1) 3 = 4607182418800017408 := by rw [hY3, hY2, hY1, hZ0]; decide +kernel
  have v19 : Y3.root (-1) = 4610479282544200874 := by rw [hY3, hY2, hY1, hZ0]; decide +kernel
  have v20 : Y3.root 1 = 4610479282544200875 := by rw [hY3, hY2, hY1, hZ0]; decide +kernel
  have vD1 : (dotL [] []).round 1 = 0 := by decide +kernel
  have vS : (sqL [4613937818241073152, 4616189618054758400]).round (-1) = 4627730092099895296 := by decide +kernel
  have vT : (sumL [4845873199050653696, 4607182418800017408, 4607182418800017408]).round 0 = 4845873199050653697 := by decide +kernel
  have Hv0 := Lib.hid (fun g w1 h => tround_any (w0 := w) (w := w1) (L := []) (W := []) (g := g) Z0 1 (fun hs => ok0.fit hs) h)
  rw [v0] at Hv0
  have Hv1 := Lib.hid (fun g w1 h => tsign_any (w0 := w) (w := w1) (L := []) (W := []) (g := g) Z0 (fun hs => ok0.fit hs) h)
  rw [v1] at Hv1
  have Hv2 := Lib.hid (fun g w1 h => tstate_S (w0 := w) (w := w1) (L := []) (W := []) (g := g) Z0 h)
  rw [v2] at Hv2
  have Hv3 := Lib.hid (fun g w1 h => tover_any (w0 := w) (w := w1) (L := []) (W := []) (g := g) Z0 (-1) 3 (by omega) (fun hs => ok0.fit hs) h)
  rw [v3] at Hv3
  have Hv4 := Lib.hid (fun g w1 h => troot_any (w0 := w) (w := w1) (L := []) (W := []) (g := g) Z0 1 (fun hs => ok0.fit hs) h)
  rw [v4] at Hv4
  have Hv5 := Lib.hid (fun g w1 h => tround_any (w0 := w) (w := w1) (L := []) (W := []) (g := g) Z1 (-1) (fun hs => ok1.fit hs) h)
  rw [v5] at Hv5
  have Hv6 := Lib.hid (fun g w1 h => tround_any (w0 := w) (w := w1) (L := []) (W := []) (g := g) Z1 1 (fun hs => ok1.fit hs) h)
  rw [v6] at Hv6
  have Hv7 := Lib.hid (fun g w1 h => tsign_any (w0 := w) (w := w1) (L := []) (W := []) (g := g) Z1 (fun hs => ok1.fit hs) h)
  rw [v7] at Hv7
  have Hv8 := Lib.hid (fun g w1 h => tsign_any (w0 := w) (w := w1) (L := []) (W := []) (g := g) Z2 (fun hs => ok2.fit hs) h)
  rw [v8] at Hv8
  have Hv9 := Lib.hid (fun g w1 h => tround_any (w0 := w) (w := w1) (L := []) (W := []) (g := g) Z2 1 (fun hs => ok2.fit hs) h)
  rw [v9] at Hv9
  have Hv10 := Lib.hid (fun g w1 h => tround_any (w0 := w) (w := w1) (L := []) (W := []) (g := g) Z5 (-1) (fun hs => ok5.fit hs) h)
  rw [v10] at Hv10
  have Hv11 := Lib.hid (fun g w1 h => tover_any (w0 := w) (w := w1) (L := []) (W := []) (g := g) Z5 1 0 (by omega) (fun hs => ok5.fit hs) h)
  rw [v11] at Hv11
  have Hv12 := Lib.hid (fun g w1 h => tstate_S (w0 := w) (w := w1) (L := []) (W := []) (g := g) Z6 h)
  rw [v12] at Hv12
  have Hv13 := Lib.hid (fun g w1 h => tsign_any (w0 := w) (w := w1) (L := []) (W := []) (g := g) Z6 (fun hs => ok6.fit hs) h)
  rw [v13] at Hv13
  have Hv14 := Lib.hid (fun g w1 h => tround_any (w0 := w) (w := w1) (L := []) (W := []) (g := g) Z6 (-1) (fun hs => ok6.fit hs) h)
  rw [v14] at Hv14
  have Hv15 := Lib.hid (fun g w1 h => tstate_S (w0 := w) (w := w1) (L := []) (W := []) (g := g) Z8 h)
  rw [v15] at Hv15
  have Hv16 := Lib.hid (fun g w1 h => tsign_any (w0 := w) (w := w1) (L := []) (W := []) (g := g) Z8 (fun hs => ok8.fit hs) h)
  rw [v16] at Hv16
  have Hv17 := Lib.hid (fun g w1 h => tround_any (w0 := w) (w := w1) (L := []) (W := []) (g := g) Z8 (-1) (fun hs => ok8.fit hs) h)
  rw [v17] at Hv17
  have Hv18 := Lib.hid (fun g w1 h => tover_any (w0 := w) (w := w1) (L := []) (W := []) (g := g) Y3 (-1) 3 (by omega) (fun hs => oy3.fit hs) h)
  rw [v18] at Hv18
  have Hv19 := Lib.hid (fun g w1 h => troot_any (w0 := w) (w := w1) (L := []) (W := []) (g := g) Y3 (-1) (fun hs => oy3.fit hs) h)
  rw [v19] at Hv19
  have Hv20 := Lib.hid (fun g w1 h => troot_any (w0 := w) (w := w1) (L := []) (W := []) (g := g) Y3 1 (fun hs => oy3.fit hs) h)
  rw [v20] at Hv20
  have HX0 := Lib.hid (fun g w1 h => tmul_any (w0 := w) (w := w1) (L := []) (W := []) (g := g) Z0 1 1 ok0.1 (by omega) (by omega) h)
  rw [← hZ1] at HX0
  have HX1 := Lib.hid (fun g w1 h => tmul_any (w0 := w) (w := w1) (L := []) (W := []) (g := g) Z1 1 9223372036854775809 ok1.1 (by omega) (by omega) h)
  rw [← hZ2] at HX1
  have HX2 := Lib.hid (fun g w1 h => tmul_any (w0 := w) (w := w1) (L := []) (W := []) (g := g) Z2 9218868437227405311 9218868437227405311 ok2.1 (by omega) (by omega) h)
  rw [← hZ3] at HX2
  have HX3 := Lib.hid (fun g w1 h => tmul_any (w0 := w) (w := w1) (L := []) (W := []) (g := g) Z3 18442240474082181119 9218868437227405311 ok3.1 (by omega) (by omega) h)
  rw [← hZ4] at HX3
  have HX4 := Lib.hid (fun g w1 h => tadd_any (w0 := w) (w := w1) (L := []) (W := []) (g := g) Z4 4617315517961601024 ok4.1 (by omega) h)
  rw [← hZ5] at HX4
  have HX5 := Lib.hid (fun g w1 h => tadd_any (w0 := w) (w := w1) (L := []) (W := []) (g := g) Z5 9218868437227405312 ok5.1 (by omega) h)
  rw [← hZ6] at HX5
  have HX6 := Lib.hid (fun g w1 h => tadd_any (w0 := w) (w := w1) (L := []) (W := []) (g := g) Z6 18442240474082181120 ok6.1 (by omega) h)
  rw [← hZ7] at HX6
  have HX7 := Lib.hid (fun g w1 h => tadd_any (w0 := w) (w := w1) (L := []) (W := []) (g := g) Z7 4607182418800017408 ok7.1 (by omega) h)
  rw [← hZ8] at HX7
  have HY0 := Lib.hid (fun g w1 h => tadd_any (w0 := w) (w := w1) (L := []) (W := []) (g := g) Z0 4607182418800017408 ok0.1 (by omega) h)
  rw [← hY1] at HY0
  have HY1 := Lib.hid (fun g w1 h => tadd_any (w0 := w) (w := w1) (L := []) (W := []) (g := g) Y1 4607182418800017408 oy1.1 (by omega) h)
  rw [← hY2] at HY1
  have HY2 := Lib.hid (fun g w1 h => tadd_any (w0 := w) (w := w1) (L := []) (W := []) (g := g) Y2 4607182418800017408 oy2.1 (by omega) h)
  rw [← hY3] at HY2
  have HD1 : Hid (∀ A n c B m k w, Fds w A n c [4607182418800017408, 4611686018427387904] → Fds w B m k [4613937818241073152] → Calls Try.prog 36 #[.int .i64 1, .slice A n c, .slice B m k] w fun e w' => e = .returned (.tuple #[.float .f64 0, .int .i64 1]) ∧ Ext w w') := Lib.hid (fun A n c B m k w h h' => (tdot_any 1 A n c [4607182418800017408, 4611686018427387904] B m k [4613937818241073152] w h h').mono fun e w' ⟨r, he, hr, hc, hE⟩ => by
    have : r = 0 := cn_is4 (by decide) hc
    subst this
    exact ⟨he, hE⟩)
  have HD2 : Hid (∀ A n c B m k w, Fds w A n c [] → Fds w B m k [] → Calls Try.prog 36 #[.int .i64 1, .slice A n c, .slice B m k] w fun e w' => e = .returned (.tuple #[.float .f64 0, .int .i64 0]) ∧ Ext w w') := Lib.hid (fun A n c B m k w h h' => (tdot_any 1 A n c [] B m k [] w h h').mono fun e w' ⟨r, he, hr, hc, hE⟩ => by
    rw [if_pos rfl, vD1] at hc
    have : r = 0 := cn_is4 (by decide) hc
    subst this
    exact ⟨he, hE⟩)
  have HSQ : Hid (∀ A n c w, Fds w A n c [4613937818241073152, 4616189618054758400] → Calls Try.prog 37 #[.int .i64 (-1), .slice A n c] w fun e w' => e = .returned (.float .f64 4627730092099895296) ∧ Ext w w') := Lib.hid (fun A n c w h => (tsquares_any (-1) A n c [4613937818241073152, 4616189618054758400] w h).mono fun e w' ⟨r, he, hr, hc, hE⟩ => by
    have : r = 4627730092099895296 := cn_is4 (by decide) (by rw [hc, vS])
    subst this
    exact ⟨he, hE⟩)
  have HTT : Hid (∀ A n c w, Fds w A n c [4845873199050653696, 4607182418800017408, 4607182418800017408] → Calls Try.prog 38 #[.int .i64 0, .slice A n c] w fun e w' => e = .returned (.float .f64 4845873199050653697) ∧ Ext w w') := Lib.hid (fun A n c w h => (ttotal_any 0 A n c [4845873199050653696, 4607182418800017408, 4607182418800017408] w h).mono fun e w' ⟨r, he, hr, hc, hE⟩ => by
    have : r = 4845873199050653697 := cn_is4 (by decide) (by rw [hc, vT])
    subst this
    exact ⟨he, hE⟩)
  have HZ0 := Lib.hid hZ0
  have ne4617315517961601024 : (FloatKind.f64.format.order 4617315517961601024 4617315517961601024 != some .eq) = false := (fo_ne (x := 4617315517961601024) (y := 4617315517961601024) (by omega) (by omega)).trans (by decide)
  have eq4617315517961601024 : (FloatKind.f64.format.order 4617315517961601024 4617315517961601024 == some .eq) = true := (fo_eq (x := 4617315517961601024) (y := 4617315517961601024) (by omega) (by omega)).trans (by decide)
  have ne4607182418800017408 : (FloatKind.f64.format.order 4607182418800017408 4607182418800017408 != some .eq) = false := (fo_ne (x := 4607182418800017408) (y := 4607182418800017408) (by omega) (by omega)).trans (by decide)
  have eq4607182418800017408 : (FloatKind.f64.format.order 4607182418800017408 4607182418800017408 == some .eq) = true := (fo_eq (x := 4607182418800017408) (y := 4607182418800017408) (by omega) (by omega)).trans (by decide)
  have ne0 : (FloatKind.f64.format.order 0 0 != some .eq) = false := (fo_ne (x := 0) (y := 0) (by omega) (by omega)).trans (by decide)
  have eq0 : (FloatKind.f64.format.order 0 0 == some .eq) = true := (fo_eq (x := 0) (y := 0) (by omega) (by omega)).trans (by decide)
  have ne4627730092099895296 : (FloatKind.f64.format.order 4627730092099895296 4627730092099895296 != some .eq) = false := (fo_ne (x := 4627730092099895296) (y := 4627730092099895296) (by omega) (by omega)).trans (by decide)
  have eq4627730092099895296 : (FloatKind.f64.format.order 4627730092099895296 4627730092099895296 == some .eq) = true := (fo_eq (x := 4627730092099895296) (y := 4627730092099895296) (by omega) (by omega)).trans (by decide)
  have ne4845873199050653697 : (FloatKind.f64.format.order 4845873199050653697 4845873199050653697 != some .eq) = false := (fo_ne (x := 4845873199050653697) (y := 4845873199050653697) (by omega) (by omega)).trans (by decide)
  have eq4845873199050653697 : (FloatKind.f64.format.order 4845873199050653697 4845873199050653697 == some .eq) = true := (fo_eq (x := 4845873199050653697) (y := 4845873199050653697) (by omega) (by omega)).trans (by decide)
  clear ok0 ok1 ok2 ok3 ok4 ok5 ok6 ok7 ok8 oy1 oy2 oy3 v0 v1 v2 v3 v4 v5 v6 v7 v8 v9 v10 v11 v12 v13 v14 v15 v16 v17 v18 v19 v20 vD1 vS vT hZ0 hZ1 hZ2 hZ3 hZ4 hZ5 hZ6 hZ7 hZ8 hY1 hY2 hY3
  have hO := Own.start w
  go_enter Try.func7, Try.ntmps7
  go_wp2_with fail
  refine (tnew_any hO).mono ?_
  rintro e w2 ⟨g, rfl, hO2⟩
  clear hO
  rw [← HZ0.out] at hO2
  have hO := hO2
  clear hO2
  go_wp2_with fail
  refine (HL.out _).mono ?_
  rintro e w3 ⟨rfl, hE⟩
  have hO := hO.ext hE
  clear hE
  go_wp2_with fail
  refine (Hv0.out g _ hO).mono ?_
  rintro e w4 ⟨r, rfl, hr, hc, hE⟩
  have hO := hO.ext hE
  clear hE
  go_wp2_with fail
  refine (HBT.out r _ hr).mono ?_
  rintro e w5 ⟨rfl, rfl⟩
  rw [hc]
  clear hr hc
  go_wp2_with fail
  refine (Hv1.out g _ hO).mono ?_
  rintro e w4 ⟨rfl, rfl⟩
  go_wp2_with fail
  refine (Hv2.out g _ hO).mono ?_
  rintro e w4 ⟨rfl, rfl⟩
  go_wp2_with fail
  refine (Hv3.out g _ hO).mono ?_
  rintro e w4 ⟨r, rfl, hr, hc, hE⟩
  have hO := hO.ext hE
  clear hE
  go_wp2_with fail
  refine (HBT.out r _ hr).mono ?_
  rintro e w5 ⟨rfl, rfl⟩
  rw [hc]
  clear hr hc
  go_wp2_with fail
  refine (Hv4.out g _ hO).mono ?_
  rintro e w4 ⟨r, rfl, hr, hc, hE⟩
  have hO := hO.ext hE
  clear hE
  go_wp2_with fail
  refine (HBT.out r _ hr).mono ?_
  rintro e w5 ⟨rfl, rfl⟩
  rw [hc]
  clear hr hc
  go_wp2_with fail
  refine (HF0.out _).mono ?_
  rintro e w6 ⟨rfl, rfl⟩
  go_wp2_with fail
  refine (HF0.out _).mono ?_
  rintro e w6 ⟨rfl, rfl⟩
  go_wp2_with fail
  refine (HX0.out g _ hO).mono ?_
  rintro e w7 ⟨rfl, hO1⟩
  clear hO
  have hO := hO1
  clear hO1
  go_wp2_with fail
  refine (Hv5.out g _ hO).mono ?_
  rintro e w4 ⟨r, rfl, hr, hc, hE⟩
  have hO := hO.ext hE
  clear hE
  go_wp2_with fail
  refine (HBT.out r _ hr).mono ?_
  rintro e w5 ⟨rfl, rfl⟩
  rw [hc]
  clear hr hc
  go_wp2_with fail
  refine (Hv6.out g _ hO).mono ?_
  rintro e w4 ⟨r, rfl, hr, hc, hE⟩
  have hO := hO.ext hE
  clear hE
  go_wp2_with fail
  refine (HBT.out r _ hr).mono ?_
  rintro e w5 ⟨rfl, rfl⟩
  rw [hc]
  clear hr hc
  go_wp2_with fail
  refine (Hv7.out g _ hO).mono ?_
  rintro e w4 ⟨rfl, rfl⟩
  go_wp2_with fail
  refine (HF0.out _).mono ?_
  rintro e w6 ⟨rfl, rfl⟩
  go_wp2_with fail
  refine (HF0.out _).mono ?_
  rintro e w6 ⟨rfl, rfl⟩
  go_wp2_with fail
  refine (HX1.out g _ hO).mono ?_
  rintro e w7 ⟨rfl, hO1⟩
  clear hO
  have hO := hO1
  clear hO1
  go_wp2_with fail
  refine (Hv8.out g _ hO).mono ?_
  rintro e w4 ⟨rfl, rfl⟩
  go_wp2_with fail
  refine (Hv9.out g _ hO).mono ?_
  rintro e w4 ⟨r, rfl, hr, hc, hE⟩
  have hO := hO.ext hE
  clear hE
  go_wp2_with fail
  refine (HBT.out r _ hr).mono ?_
  rintro e w5 ⟨rfl, rfl⟩
  rw [hc]
  clear hr hc
  go_wp2_with fail
  refine (HF1.out _).mono ?_
  rintro e w6 ⟨rfl, rfl⟩
  go_wp2_with fail
  refine (HF1.out _).mono ?_
  rintro e w6 ⟨rfl, rfl⟩
  go_wp2_with fail
  refine (HX2.out g _ hO).mono ?_
  rintro e w7 ⟨rfl, hO1⟩
  clear hO
  have hO := hO1
  clear hO1
  go_wp2_with fail
  refine (HF1.out _).mono ?_
  rintro e w6 ⟨rfl, rfl⟩
  go_wp2_with fail
  refine (HF1.out _).mono ?_
  rintro e w6 ⟨rfl, rfl⟩
  go_wp2_with fail
  refine (HX3.out g _ hO).mono ?_
  rintro e w7 ⟨rfl, hO1⟩
  clear hO
  have hO := hO1
  clear hO1
  go_wp2_with fail
  refine (HX4.out g _ hO).mono ?_
  rintro e w7 ⟨rfl, hO1⟩
  clear hO
  have hO := hO1
  clear hO1
  go_wp2_with fail
  refine (Hv10.out g _ hO).mono ?_
  rintro e w4 ⟨r, rfl, hr, hc, hE⟩
  have hO := hO.ext hE
  clear hE
  have hrr := cn_is4 (by decide) hc
  subst hrr
  clear hc hr
  go_wp2_with fail
  refine (Hv11.out g _ hO).mono ?_
  rintro e w4 ⟨r, rfl, hr, hc, hE⟩
  have hO := hO.ext hE
  clear hE
  go_wp2_with fail
  refine (HBT.out r _ hr).mono ?_
  rintro e w5 ⟨rfl, rfl⟩
  rw [hc]
  clear hr hc
  go_wp2_with fail
  refine (HF2.out _).mono ?_
  rintro e w6 ⟨rfl, rfl⟩
  go_wp2_with fail
  refine (HX5.out g _ hO).mono ?_
  rintro e w7 ⟨rfl, hO1⟩
  clear hO
  have hO := hO1
  clear hO1
  go_wp2_with fail
  refine (Hv12.out g _ hO).mono ?_
  rintro e w4 ⟨rfl, rfl⟩
  go_wp2_with fail
  refine (Hv13.out g _ hO).mono ?_
  rintro e w4 ⟨rfl, rfl⟩
  go_wp2_with fail
  refine (Hv14.out g _ hO).mono ?_
  rintro e w4 ⟨r, rfl, hr, hc, hE⟩
  have hO := hO.ext hE
  clear hE
  go_wp2_with fail
  refine (HBT.out r _ hr).mono ?_
  rintro e w5 ⟨rfl, rfl⟩
  rw [hc]
  clear hr hc
  go_wp2_with fail
  refine (HF2.out _).mono ?_
  rintro e w6 ⟨rfl, rfl⟩
  go_wp2_with fail
  refine (HX6.out g _ hO).mono ?_
  rintro e w7 ⟨rfl, hO1⟩
  clear hO
  have hO := hO1
  clear hO1
  go_wp2_with fail
  refine (HX7.out g _ hO).mono ?_
  rintro e w7 ⟨rfl, hO1⟩
  clear hO
  have hO := hO1
  clear hO1
  go_wp2_with fail
  refine (Hv15.out g _ hO).mono ?_
  rintro e w4 ⟨rfl, rfl⟩
  go_wp2_with fail
  refine (Hv16.out g _ hO).mono ?_
  rintro e w4 ⟨rfl, rfl⟩
  go_wp2_with fail
  refine (Hv17.out g _ hO).mono ?_
  rintro e w4 ⟨r, rfl, hr, hc, hE⟩
  have hO := hO.ext hE
  clear hE
  go_wp2_with fail
  refine (HBT.out r _ hr).mono ?_
  rintro e w5 ⟨rfl, rfl⟩
  rw [hc]
  clear hr hc
  go_wp2_with fail
  refine (tnew_any hO).mono ?_
  rintro e w2 ⟨g2, rfl, hO2⟩
  clear hO
  rw [← HZ0.out] at hO2
  have hO : Own w [⟨g2, 36, Z0.cs⟩] [] w2 := hO2.drop2.sub (by first | exact List.Sublist.refl _ | simp)
  clear hO2
  go_wp2_with fail
  refine (HY0.out g2 _ hO).mono ?_
  rintro e w7 ⟨rfl, hO1⟩
  clear hO
  have hO := hO1
  clear hO1
  go_wp2_with fail
  refine (HY1.out g2 _ hO).mono ?_
  rintro e w7 ⟨rfl, hO1⟩
  clear hO
  have hO := hO1
  clear hO1
  go_wp2_with fail
  refine (HY2.out g2 _ hO).mono ?_
  rintro e w7 ⟨rfl, hO1⟩
  clear hO
  have hO := hO1
  clear hO1
  go_wp2_with fail
  refine (Hv18.out g2 _ hO).mono ?_
  rintro e w4 ⟨r, rfl, hr, hc, hE⟩
  have hO := hO.ext hE
  clear hE
  have hrr := cn_is4 (by decide) hc
  subst hrr
  clear hc hr
  go_wp2_with fail
  refine (Hv19.out g2 _ hO).mono ?_
  rintro e w4 ⟨r, rfl, hr, hc, hE⟩
  have hO := hO.ext hE
  clear hE
  go_wp2_with fail
  refine (HBT.out r _ hr).mono ?_
  rintro e w5 ⟨rfl, rfl⟩
  rw [hc]
  clear hr hc
  go_wp2_with fail
  refine (Hv20.out g2 _ hO).mono ?_
  rintro e w4 ⟨r, rfl, hr, hc, hE⟩
  have hO := hO.ext hE
  clear hE
  go_wp2_with fail
  refine (HBT.out r _ hr).mono ?_
  rintro e w5 ⟨rfl, rfl⟩
  rw [hc]
  clear hr hc
  go_wp2_with fail
  have hF1 := fd_new w4 [4607182418800017408, 4611686018427387904] (by intro x hx; simp at hx; omega) (by unfold maxLen; decide)
  have hF2 := fd_new (w4.alloc (.cells (fls [4607182418800017408, 4611686018427387904]).toArray 28)) [4613937818241073152] (by intro x hx; simp at hx; omega) (by unfold maxLen; decide)
  rw [World.size_alloc] at hF2
  have hEE : Ext w4 ((w4.alloc (.cells (fls [4607182418800017408, 4611686018427387904]).toArray 28)).alloc (.cells (fls [4613937818241073152]).toArray 28)) := ((Ext.refl w4).alloc _).alloc _
  have hF1 := hF1.ext ((Ext.refl _).alloc (.cells (fls [4613937818241073152]).toArray 28))
  refine (HD1.out _ _ _ _ _ _ _ hF1 hF2).mono ?_
  rintro e w8 ⟨rfl, hE⟩
  have hO := (hO.ext hEE).ext hE
  clear hF1 hF2 hEE hE
  go_wp2_with fail
  refine (HD2.out _ _ _ _ _ _ _ (fd_nil _) (fd_nil _)).mono ?_
  rintro e w9 ⟨rfl, hE⟩
  have hO := hO.ext hE
  clear hE
  go_wp2_with fail
  have hF1 := fd_new w9 [4613937818241073152, 4616189618054758400] (by intro x hx; simp at hx; omega) (by unfold maxLen; decide)
  have hEE : Ext w9 (w9.alloc (.cells (fls [4613937818241073152, 4616189618054758400]).toArray 28)) := (Ext.refl w9).alloc _
  refine (HSQ.out _ _ _ _ hF1).mono ?_
  rintro e w10 ⟨rfl, hE⟩
  have hO := (hO.ext hEE).ext hE
  clear hE hEE hF1
  go_wp2_with fail
  have hF1 := fd_new w10 [4845873199050653696, 4607182418800017408, 4607182418800017408] (by intro x hx; simp at hx; omega) (by unfold maxLen; decide)
  have hEE : Ext w10 (w10.alloc (.cells (fls [4845873199050653696, 4607182418800017408, 4607182418800017408]).toArray 28)) := (Ext.refl w10).alloc _
  refine (HTT.out _ _ _ _ hF1).mono ?_
  rintro e w11 ⟨rfl, hE⟩
  have hO := (hO.ext hEE).ext hE
  clear hE hEE hF1
  go_wp2_with fail
  go_ret
  exact ⟨rfl, hO.toExt⟩
end Go.Proofs.Ytfbjeifhpmdjaaa
