/-
  The walk of TotalTwos. Conditions: those that each theorem names.
-/
import Derived.Test.YtfbjeifhpmdjaaaZ27
import Derived.Test.YtfbjeifhpmdjaaaZ29
import Derived.Test.YtfbjeifhpmdjaaaZ31
import Derived.Test.YtfbjeifhpmdjaaaZ32
import Derived.ProofKit
import Derived.WideKeyArr2
import Derived.Lib.SmallJoins
namespace Go.Proofs.Ytfbjeifhpmdjaaa
open Go.RowKit Nm Rn
set_option maxRecDepth 100000
set_option linter.unusedVariables false
set_option linter.unusedSimpArgs false

theorem Fds.new (w : World) {xs : List Nat} {n : Nat} (h : W6 xs) (hn : xs.length = n) (hm : n ≤ maxLen) : Fds (w.alloc (.cells (fls xs).toArray 28)) (some ⟨w.heap.size, 0, none⟩) n n xs := by
  have hb := Blk.new w 28 (fls (xs ++ [])).toArray
  rw [List.append_nil] at hb
  refine Fds.of_blk (t := 28) (ys := []) ?_ h hn (Nat.le_refl _) hm
  rw [List.append_nil]
  exact hb
theorem dot_two (d : Int) (xs ys : List Nat) (n m : Nat) (w : World) (hx : W6 xs) (hy : W6 ys) (hn : xs.length = n) (hm : ys.length = m) (bn : n ≤ maxLen) (bm : m ≤ maxLen) :
    Calls Try.prog 36 #[.int .i64 d, .slice (some ⟨w.heap.size, 0, none⟩) n n, .slice (some ⟨w.heap.size + 1, 0, none⟩) m m] ((w.alloc (.cells (fls xs).toArray 28)).alloc (.cells (fls ys).toArray 28)) (RetDot xs ys d w) := by
  have h1 := (Fds.new w hx hn bn).ext ((Ext.refl _).alloc (.cells (fls ys).toArray 28))
  have h2 := Fds.new (w.alloc (.cells (fls xs).toArray 28)) hy hm bm
  rw [show (w.alloc (.cells (fls xs).toArray 28)).heap.size = w.heap.size + 1 by simp] at h2
  exact (tdot_any d _ n n xs _ m m ys _ h1 h2).mono fun e w' ⟨r, h3, h4, h5, h6⟩ => ⟨r, h3, h4, h5, (((Ext.refl w).alloc _).alloc _).trans h6⟩
theorem total_one (d : Int) (xs : List Nat) (n : Nat) (w : World) (hx : W6 xs) (hn : xs.length = n) (bn : n ≤ maxLen) :
    Calls Try.prog 38 #[.int .i64 d, .slice (some ⟨w.heap.size, 0, none⟩) n n] (w.alloc (.cells (fls xs).toArray 28)) (RetFl ((sumL xs).round d) w) :=
  (ttotal_any d _ n n xs _ (Fds.new w hx hn bn)).mono fun e w' ⟨r, h3, h4, h5, h6⟩ => ⟨r, h3, h4, h5, ((Ext.refl w).alloc _).trans h6⟩

theorem fin_round {S : Sm} (h : S.p = false) (h2 : S.m = false) (h3 : S.n = false) (d : Int) : S.round d = rT d S.T := by
  unfold Sm.round Sm.state
  rw [h, h2, h3]
  rfl
theorem two_add {x y : Nat} (hx : mg x < infR) (hy : mg y < infR) (d : Int) : (sumL [x, y]).round d = addR d x y := by
  have e : sumL [x, y] = (Sm.nil.add x).add y := rfl
  rw [e, add_fin hx, add_fin hy, fin_round rfl rfl rfl]
  unfold addR
  rw [fin_nan hx, fin_nan hy, fin_inf hx, fin_inf hy]
  show rT d (0 + sv x * (K74 : Int) + sv y * (K74 : Int)) = rT d ((sv x + sv y) * (K74 : Int))
  rw [Int.zero_add, Int.add_mul]
theorem two_mul {x y : Nat} (hx : mg x < infR) (hy : mg y < infR) (d : Int) : (dotL [x] [y]).round d = mulR d x y := by
  have e : dotL [x] [y] = Sm.nil.mul x y := rfl
  rw [e, mul_fin hx hy, fin_round rfl rfl rfl]
  unfold mulR
  rw [fin_nan hx, fin_nan hy, fin_inf hx, fin_inf hy]
  show rT d (0 + sv x * sv y) = rT d (sv x * sv y)
  rw [Int.zero_add]
theorem sv_one : sv 4607182418800017408 = (K74 : Int) := by decide +kernel
theorem two_fma {x y z : Nat} (hx : mg x < infR) (hy : mg y < infR) (hz : mg z < infR) (d : Int) : (dotL [x, z] [y, 4607182418800017408]).round d = fmaR d x y z := by
  have e : dotL [x, z] [y, 4607182418800017408] = (Sm.nil.mul x y).mul z 4607182418800017408 := rfl
  rw [e, mul_fin hx hy, mul_fin hz (by decide), fin_round rfl rfl rfl, sv_one]
  unfold fmaR oddP
  rw [fin_nan hx, fin_nan hy, fin_nan hz, fin_inf hx, fin_inf hy, fin_inf hz]
  show rT d (0 + sv x * sv y + sv z * (K74 : Int)) = rT d (sv x * sv y + sv z * (K74 : Int))
  rw [Int.zero_add]

set_option maxHeartbeats 4000000 in
theorem twos_w (d : Int) (x y z : Nat) (w : World) (hx : x < 18446744073709551616) (hy : y < 18446744073709551616) (hz : z < 18446744073709551616) :
    Calls Try.prog 8 #[.int .i64 d, .agg #[.int .u64 (x : Int), .int .u64 (y : Int), .int .u64 (z : Int)]] w fun e w' => e = .returned (.bool true) ∧ Ext w w' := by
  have HNX := Lib.hid (fun w => num4_any x w hx)
  have HNY := Lib.hid (fun w => num4_any y w hy)
  have HNZ := Lib.hid (fun w => num4_any z w hz)
  have HBT := Lib.hid (fun r w h => bits4_any r w h)
  obtain ⟨X, eX⟩ : ∃ X, X = numP x := ⟨_, rfl⟩
  obtain ⟨Y, eY⟩ : ∃ Y, Y = numP y := ⟨_, rfl⟩
  obtain ⟨Z, eZ⟩ : ∃ Z, Z = numP z := ⟨_, rfl⟩
  have lX : X < 18446744073709551616 := by rw [eX]; exact numP_lt hx
  have lY : Y < 18446744073709551616 := by rw [eY]; exact numP_lt hy
  have lZ : Z < 18446744073709551616 := by rw [eZ]; exact numP_lt hz
  have fX : mg X < infR := by rw [eX]; exact numP_fin x
  have fY : mg Y < infR := by rw [eY]; exact numP_fin y
  have fZ : mg Z < infR := by rw [eZ]; exact numP_fin z
  rw [← eX] at HNX
  rw [← eY] at HNY
  rw [← eZ] at HNZ
  clear eX eY eZ hx hy hz
  have HFX := Lib.hid (fun w => fl4_any X w)
  have HFY := Lib.hid (fun w => fl4_any Y w)
  have HFZ := Lib.hid (fun w => fl4_any Z w)
  obtain ⟨VA, hVA⟩ : ∃ V, V = addR d X Y := ⟨_, rfl⟩
  obtain ⟨VM, hVM⟩ : ∃ V, V = mulR d X Y := ⟨_, rfl⟩
  obtain ⟨VF, hVF⟩ : ∃ V, V = fmaR d X Y Z := ⟨_, rfl⟩
  have hA := fun w => radd_any_ d X Y w lX lY
  have hM := fun w => rmul_any d X Y w lX lY
  have hF := fun w => rfma_any d X Y Z w lX lY lZ
  rw [← hVA] at hA
  rw [← hVM] at hM
  rw [← hVF] at hF
  have hD1 := fun w => dot_two d [X] [Y] 1 1 w (W6.cons lX W6.nil) (W6.cons lY W6.nil) rfl rfl (by decide) (by decide)
  have hD2 := fun w => dot_two d [X, Z] [Y, 4607182418800017408] 2 2 w (W6.cons lX (W6.cons lZ W6.nil)) (W6.cons lY (W6.cons (by decide) W6.nil)) rfl rfl (by decide) (by decide)
  have hD3 := fun w => total_one d [X, Y] 2 w (W6.cons lX (W6.cons lY W6.nil)) rfl (by decide)
  rw [two_add fX fY, ← hVA] at hD3
  have HD1 : Hid (∀ w, Calls Try.prog 36 #[.int .i64 d, .slice (some ⟨w.heap.size, 0, none⟩) 1 1, .slice (some ⟨w.heap.size + 1, 0, none⟩) 1 1] ((w.alloc (.cells #[.float .f64 X] 28)).alloc (.cells #[.float .f64 Y] 28)) fun e w' => ∃ r, e = .returned (.tuple #[.float .f64 r, .int .i64 0]) ∧ r < 18446744073709551616 ∧ cn r = VM ∧ Ext w w') := Lib.hid (fun w => (hD1 w).mono fun e w' h => by
    obtain ⟨r, h1, h2, h3, h4⟩ := h
    exact ⟨r, h1, h2, (h3.trans (if_pos rfl)).trans ((two_mul fX fY d).trans hVM.symm), h4⟩)
  have HD2 : Hid (∀ w, Calls Try.prog 36 #[.int .i64 d, .slice (some ⟨w.heap.size, 0, none⟩) 2 2, .slice (some ⟨w.heap.size + 1, 0, none⟩) 2 2] ((w.alloc (.cells #[.float .f64 X, .float .f64 Z] 28)).alloc (.cells #[.float .f64 Y, .float .f64 4607182418800017408] 28)) fun e w' => ∃ r, e = .returned (.tuple #[.float .f64 r, .int .i64 0]) ∧ r < 18446744073709551616 ∧ cn r = VF ∧ Ext w w') := Lib.hid (fun w => (hD2 w).mono fun e w' h => by
    obtain ⟨r, h1, h2, h3, h4⟩ := h
    exact ⟨r, h1, h2, (h3.trans (if_pos rfl)).trans ((two_fma fX fY fZ d).trans hVF.symm), h4⟩)
  have HD3 : Hid (∀ w, Calls Try.prog 38 #[.int .i64 d, .slice (some ⟨w.heap.size, 0, none⟩) 2 2] (w.alloc (.cells #[.float .f64 X, .float .f64 Y] 28)) (RetFl VA w)) := Lib.hid hD3
  have HA := Lib.hid hA
  have HM := Lib.hid hM
  have HF := Lib.hid hF
  clear hD1 hD2 hD3 hA hM hF hVA hVM hVF lX lY lZ fX fY fZ
  have hO := Own.start w
  have hf : True := trivial
  go_enter Try.func8, Try.ntmps8
  go_wp2_with (first | ((with_reducible refine at_box ?_); refine own_box (cs := [.int .u64 (x : Int), .int .u64 (y : Int), .int .u64 (z : Int)]) hO rfl rfl ?_; clear hO; intro g w1 hO; clear hf; have hf := hO.cells; simp only [BC, CC, Nat.zero_add, Nat.reduceAdd, and_true] at hf) | (go_at_call 13; (with_reducible refine (HNX.out _).mono ?_); rintro e w2 ⟨rfl, rfl⟩) | (go_at_call 13; (with_reducible refine (HNY.out _).mono ?_); rintro e w2 ⟨rfl, rfl⟩) | (go_at_call 13; (with_reducible refine (HNZ.out _).mono ?_); rintro e w2 ⟨rfl, rfl⟩) | (go_at_call 12; (with_reducible refine (HFX.out _).mono ?_); rintro e w2 ⟨rfl, rfl⟩) | (go_at_call 12; (with_reducible refine (HFY.out _).mono ?_); rintro e w2 ⟨rfl, rfl⟩) | (go_at_call 12; (with_reducible refine (HFZ.out _).mono ?_); rintro e w2 ⟨rfl, rfl⟩))
  refine (HD1.out _).mono ?_
  rintro e w2 ⟨r1, rfl, hr1, cr1, hE⟩
  have hO := hO.ext hE
  clear hE hf
  have hf := hO.cells
  simp only [BC, CC, Nat.zero_add, Nat.reduceAdd, and_true] at hf
  go_wp2_with fail
  refine (HD2.out _).mono ?_
  rintro e w2 ⟨r2, rfl, hr2, cr2, hE⟩
  have hO := hO.ext hE
  clear hE hf
  have hf := hO.cells
  simp only [BC, CC, Nat.zero_add, Nat.reduceAdd, and_true] at hf
  go_wp2_with fail
  refine (HD3.out _).mono ?_
  rintro e w2 ⟨r3, rfl, hr3, cr3, hE⟩
  have hO := hO.ext hE
  clear hE
  go_wp2_with fail
  refine (HBT.out r3 _ hr3).mono ?_
  rintro e w3 ⟨rfl, rfl⟩
  rw [cr3]
  clear hr3 cr3
  go_wp2_with fail
  refine (HA.out _).mono ?_
  rintro e w2 ⟨r4, rfl, hr4, cr4, hE⟩
  have hO := hO.ext hE
  clear hE
  go_wp2_with fail
  refine (HBT.out r4 _ hr4).mono ?_
  rintro e w3 ⟨rfl, rfl⟩
  rw [cr4]
  clear hr4 cr4
  go_wp2_with fail
  refine (HBT.out r1 _ hr1).mono ?_
  rintro e w3 ⟨rfl, rfl⟩
  rw [cr1]
  clear hr1 cr1
  go_wp2_with fail
  refine (HM.out _).mono ?_
  rintro e w2 ⟨r5, rfl, hr5, cr5, hE⟩
  have hO := hO.ext hE
  clear hE
  go_wp2_with fail
  refine (HBT.out r5 _ hr5).mono ?_
  rintro e w3 ⟨rfl, rfl⟩
  rw [cr5]
  clear hr5 cr5
  go_wp2_with fail
  refine (HBT.out r2 _ hr2).mono ?_
  rintro e w3 ⟨rfl, rfl⟩
  rw [cr2]
  clear hr2 cr2
  go_wp2_with fail
  refine (HF.out _).mono ?_
  rintro e w2 ⟨r6, rfl, hr6, cr6, hE⟩
  have hO := hO.ext hE
  clear hE
  go_wp2_with fail
  refine (HBT.out r6 _ hr6).mono ?_
  rintro e w3 ⟨rfl, rfl⟩
  rw [cr6]
  clear hr6 cr6
  go_wp2_with fail
  refine (lives4_any _).mono ?_
  rintro e w6 ⟨rfl, hE⟩
  have hO := hO.ext hE
  clear hE
  go_wp2_with fail
  go_ret
  exact ⟨rfl, hO.toExt⟩
end Go.Proofs.Ytfbjeifhpmdjaaa

/-
  Plain, over whatever program: an array of three numbers by value, opened and shut. Conditions: those that each theorem names.
-/
namespace Go.Proofs.Ytfbjeifhpmdjaaa
open Go Go.ChangeShapes Go.WideShapes Go.ChangeAt Go.RowKit Go.Joins
set_option linter.unusedVariables false
set_option linter.unusedSimpArgs false
section
variable {H : Type} {enc : TypeId × Value → H} {P : Program} {k e : TypeId} {q : IntKind} {w : World} {base : Nat} {sp : Nat → Bool} {held : Bool}
theorem open_arr3 {r : Reach} {b0 : Nat} {v : Value} {d : DataW H} {p : List MemPlace} (hu : P.underlying k = some (.array 3 e)) (he : P.underlying e = some (.int q)) (h1 : P.cellsOf e = 1) (h3 : P.cellsOf k = 3)
    (hv : Value.okWide P w r b0 k v) (h : DataW.Trod enc P w base sp held k v d p) :
    ∃ a b c : Int, v = .agg #[.int q a, .int q b, .int q c] ∧ d = .agg [.lit (.int q a), .lit (.int q b), .lit (.int q c)] ∧ p = [] ∧ (Lit.int q a).wf = true ∧ (Lit.int q b).wf = true ∧ (Lit.int q c).wf = true := by
  simp only [Value.okWide, hu] at hv
  obtain ⟨cs, rfl, hsz, -⟩ := hv
  obtain ⟨c0, c1, c2, rfl⟩ := array3 (hsz.trans h3)
  obtain ⟨fuel, hf⟩ := h
  cases fuel with
  | zero => simp [DataW.trod] at hf
  | succ m =>
    rw [DataW.trod_step] at hf
    unfold DataW.trodStep at hf
    simp only [hu, Value.cells] at hf
    rw [if_pos (by rw [h3]; rfl)] at hf
    simp only [Option.map_eq_some_iff] at hf
    obtain ⟨ys, hy, e1⟩ := hf
    rw [show List.range 3 = [0, 1, 2] from rfl] at hy
    simp only [List.mapM_cons, List.mapM_nil, bind, Option.bind_eq_some_iff, pure, Option.some.injEq, h1] at hy
    obtain ⟨y0, k0, ys1, ⟨y1, k1, ys2, ⟨y2, k2, ys3, rfl, rfl⟩, rfl⟩, rfl⟩ := hy
    obtain ⟨a, ea, rfl, wa⟩ := DataW.trod_int he k0
    obtain ⟨b, eb, rfl, wb⟩ := DataW.trod_int he k1
    obtain ⟨c, ec, rfl, wc⟩ := DataW.trod_int he k2
    simp at ea eb ec
    subst ea eb ec
    simp at e1
    exact ⟨a, b, c, rfl, e1.1.symm, e1.2, wa, wb, wc⟩
theorem shut_arr3 {a b c : Int} (hu : P.underlying k = some (.array 3 e)) (he : P.underlying e = some (.int q)) (h1 : P.cellsOf e = 1) (h3 : P.cellsOf k = 3) (wa : (Lit.int q a).wf = true) (wb : (Lit.int q b).wf = true) (wc : (Lit.int q c).wf = true) :
    DataW.Trod enc P w base sp held k (.agg #[.int q a, .int q b, .int q c]) (.agg [.lit (.int q a), .lit (.int q b), .lit (.int q c)]) [] := by
  refine ⟨2, ?_⟩
  rw [DataW.trod_step]
  unfold DataW.trodStep
  simp only [hu, Value.cells]
  rw [if_pos (by rw [h3]; rfl), show List.range 3 = [0, 1, 2] from rfl]
  have t0 := trod_int_mk (enc := enc) (w := w) (base := base) (spare := sp) (held := held) 0 he wa
  have t1 := trod_int_mk (enc := enc) (w := w) (base := base) (spare := sp) (held := held) 0 he wb
  have t2 := trod_int_mk (enc := enc) (w := w) (base := base) (spare := sp) (held := held) 0 he wc
  simp only [List.mapM_cons, List.mapM_nil, h1]
  simp [t0, t1, t2]
end
end Go.Proofs.Ytfbjeifhpmdjaaa
