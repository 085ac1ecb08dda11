/-
  The contract of the program's Add of intervals. Conditions: those that each theorem names.
-/
import Derived.Test.YtllfcklgljdgeaaZ06
import Derived.Test.YtllfcklgljdgeaaZ20
import Derived.Test.YtllfcklgljdgeaaZ29
import Derived.Test.YtllfcklgljdgeaaZ18
import Derived.Test.YtllfcklgljdgeaaZ15
import Derived.Test.YtllfcklgljdgeaaZ05
import Derived.Test.YtllfcklgljdgeaaZ26
import Derived.Deep.DeepCutAuto
import Derived.Deep.RegionHeld3
import Derived.Test.YtllfcklgljdgeaaZ14
namespace Go.Proofs.Ytllfcklgljdgeaa
open Go.RowKit Nm Rn
set_option maxRecDepth 100000
set_option linter.unusedVariables false
set_option linter.unusedSimpArgs false

theorem zero_iv (w : World) : (zeroValue 28).run Try.prog w = .ok (.agg #[.float .f64 0, .float .f64 0]) w := by kernel_rfl
theorem agg_iv (w : World) : (isAgg 28).run Try.prog w = .ok true w := by kernel_rfl
theorem size_iv (w : World) : (sizeOf 28).run Try.prog w = .ok 2 w := by kernel_rfl
theorem emp_lt {lo hi : Nat} (hl : lo < 18446744073709551616) (hh : hi < 18446744073709551616) : ltB (rdHi lo hi) (rdLo lo hi) = decide (emp lo hi) := by
  by_cases e : emp lo hi
  · rw [decide_eq_true e, e.1, e.2]; decide
  · rw [decide_eq_false e]
    obtain ⟨g1, g2, g3, g4, g5, g6, _, g8⟩ := rd_ends hl hh e
    unfold ltB
    rw [g3, g4, decide_eq_false (by omega)]; rfl
theorem cn_eq {r V : Nat} (h : cn r = V) (hV : isNaN V = false) : r = V := by
  unfold cn at h
  cases hr : isNaN r
  · rw [hr] at h; exact h
  · rw [hr] at h
    rw [← h] at hV
    cases hV

set_option maxHeartbeats 4000000 in
theorem iadd_e1 (x1 x2 y1 y2 a1 a2 b1 b2 : Nat) (w : World) (HX : Hid (∀ w, Calls Try.prog 15 #[.agg #[.float .f64 x1, .float .f64 x2]] w (RetF a1 a2 w))) (HY : Hid (∀ w, Calls Try.prog 15 #[.agg #[.float .f64 y1, .float .f64 y2]] w (RetF b1 b2 w))) (HE1 : Hid (∀ w, Calls Try.prog 16 #[.agg #[.float .f64 a1, .float .f64 a2]] w fun e w' => e = .returned (.bool true) ∧ Ext w w')) : Calls Try.prog 10 #[.agg #[.float .f64 x1, .float .f64 x2], .agg #[.float .f64 y1, .float .f64 y2]] w (RetF infR minf w) := by
  have HEM := Lib.hid (fun w => iempty_any w)
  obtain ⟨r1, hr1⟩ : ∃ r, r = infR := ⟨_, rfl⟩
  obtain ⟨r2, hr2⟩ : ∃ r, r = minf := ⟨_, rfl⟩
  rw [← hr1, ← hr2] at HEM ⊢
  clear hr1 hr2
  have hO := Own.start w
  have hf : True := trivial
  go_enter Try.func10, Try.ntmps10
  go_wp2_with (first | ((with_reducible refine at_box ?_); refine own_box (cs := [.float .f64 x1, .float .f64 x2]) hO rfl rfl ?_; clear hO; intro ga wa hO; clear hf; have hf := hO.cells; simp only [BC, CC, Nat.zero_add, Nat.reduceAdd, and_true] at hf) | ((with_reducible refine at_box ?_); refine own_box (cs := [.float .f64 y1, .float .f64 y2]) hO rfl rfl ?_; clear hO; intro gb wa hO; clear hf; have hf := hO.cells; simp only [BC, CC, Nat.zero_add, Nat.reduceAdd, and_true] at hf) | ((with_reducible refine at_alloc ?_); refine own_alloc hO zero_iv rfl rfl ?_; clear hO; intro g w1 hO; clear hf; have hf := hO.cells; simp only [BC, CC, Nat.zero_add, Nat.reduceAdd, and_true] at hf))
  obtain ⟨S, hS⟩ : ∃ S : World → Prop, S = Own w [⟨g, 28, [.float .f64 0, .float .f64 0]⟩, ⟨gb, 28, [.float .f64 y1, .float .f64 y2]⟩, ⟨ga, 28, [.float .f64 x1, .float .f64 x2]⟩] [] := ⟨_, rfl⟩
  have hSE : ∀ w w', S w → Ext w w' → S w' := fun w w' h1 h2 => by rw [hS] at h1 ⊢; exact h1.ext h2
  have hS1 : S w1.drew := by rw [hS]; exact hO.ext (Ext.refl w1).drew
  have HS := Lib.hid hS
  clear hS hO hf
  obtain ⟨sp, hsp⟩ : ∃ sp : Nat → Sp, sp = ofList [det (.agg #[.float .f64 x1, .float .f64 x2]), det (.agg #[.float .f64 a1, .float .f64 a2]), det (.agg #[.float .f64 y1, .float .f64 y2]), det (.agg #[.float .f64 b1, .float .f64 b2])] := ⟨_, rfl⟩
  have HSP := Lib.hid hsp
  clear hsp
  refine wp_region_loose 4 S sp (by kernel_rfl) (by kernel_rfl) hS1 hSE ?_
  simp only [List.take_succ_cons, List.take_zero, List.drop_succ_cons, List.drop_zero]
  refine wpX_step (fun K hK => ?_)
  go_simp
  refine StepY.det (by rw [HSP.out]; rfl) ?_ ?_
  · intro wz hz hF
    rw [HS.out] at hz
    have hf := hz.facts
    simp only [BF, CF, Nat.zero_add, Nat.reduceAdd, and_true] at hf
    clear hz hF
    go_simp
    exact ⟨rfl, Ext.refl _⟩
  refine hK _ _ ?_
  clear hK K
  refine wpX_step (fun K hK => ?_)
  go_simp
  refine StepY.det (by rw [HSP.out]; rfl) ?_ ?_
  · intro wz hz hF
    clear hz hF
    go_simp
    go_at_call 15
    refine (HX.out _).mono ?_
    rintro e w2 ⟨rfl, hE1⟩
    exact ⟨_, rfl, rfl, hE1⟩
  refine hK _ _ ?_
  clear hK K
  refine wpX_step (fun K hK => ?_)
  go_simp
  refine StepY.det (by rw [HSP.out]; rfl) ?_ ?_
  · intro wz hz hF
    rw [HS.out] at hz
    have hf := hz.facts
    simp only [BF, CF, Nat.zero_add, Nat.reduceAdd, and_true] at hf
    clear hz hF
    go_simp
    exact ⟨rfl, Ext.refl _⟩
  refine hK _ _ ?_
  clear hK K
  refine wpX_step (fun K hK => ?_)
  go_simp
  refine StepY.det (by rw [HSP.out]; rfl) ?_ ?_
  · intro wz hz hF
    clear hz hF
    go_simp
    go_at_call 15
    refine (HY.out _).mono ?_
    rintro e w2 ⟨rfl, hE1⟩
    exact ⟨_, rfl, rfl, hE1⟩
  refine hK _ _ ?_
  clear hK K
  refine wpX_nil ?_
  intro w1 hz hF
  clear hF hS1
  rw [HS.out] at hz
  have hO := hz
  have hf : True := trivial
  clear hz hSE HS HSP S sp
  go_wp2_with (first | ((with_reducible refine at_store (T := 28) ?_); refine own_store (T := 28) hO 2 rfl rfl rfl size_iv rfl rfl rfl ?_; clear hO; intro w1 hO; simp only [List.set_cons_zero, List.set_cons_succ, spl, List.take_succ_cons, List.take_zero, List.nil_append, List.cons_append, List.length_cons, List.length_nil, List.drop_succ_cons, List.drop_zero, List.drop_nil, Nat.reduceAdd, Nat.zero_add, List.append_nil] at hO; clear hf; have hf := hO.cells; simp only [BC, CC, Nat.zero_add, Nat.reduceAdd, and_true] at hf) | ((with_reducible refine at_store (T := 28) ?_); refine own_store (T := 28) hO 1 rfl rfl rfl size_iv rfl rfl rfl ?_; clear hO; intro w1 hO; simp only [List.set_cons_zero, List.set_cons_succ, spl, List.take_succ_cons, List.take_zero, List.nil_append, List.cons_append, List.length_cons, List.length_nil, List.drop_succ_cons, List.drop_zero, List.drop_nil, Nat.reduceAdd, Nat.zero_add, List.append_nil] at hO; clear hf; have hf := hO.cells; simp only [BC, CC, Nat.zero_add, Nat.reduceAdd, and_true] at hf))
  refine (HE1.out _).mono ?_
  rintro e w2 ⟨rfl, hE1⟩
  have hO := hO.ext hE1
  clear hf
  have hf := hO.cells
  simp only [BC, CC, Nat.zero_add, Nat.reduceAdd, and_true] at hf
  clear hE1
  go_wp2_with fail
  refine (HEM.out _).mono ?_
  rintro e w2 ⟨rfl, hE1⟩
  have hO := hO.ext hE1
  clear hf
  have hf := hO.cells
  simp only [BC, CC, Nat.zero_add, Nat.reduceAdd, and_true] at hf
  clear hE1
  go_wp2_with (first | ((with_reducible refine at_store (T := 28) ?_); refine own_store (T := 28) hO 0 rfl rfl rfl size_iv rfl rfl rfl ?_; clear hO; intro w1 hO; simp only [List.set_cons_zero, List.set_cons_succ, spl, List.take_succ_cons, List.take_zero, List.nil_append, List.cons_append, List.length_cons, List.length_nil, List.drop_succ_cons, List.drop_zero, List.drop_nil, Nat.reduceAdd, Nat.zero_add, List.append_nil] at hO; clear hf; have hf := hO.cells; simp only [BC, CC, Nat.zero_add, Nat.reduceAdd, and_true] at hf))
  exact own_ret hO 0 rfl rfl rfl agg_iv size_iv rfl ⟨rfl, hO.toExt⟩

set_option maxHeartbeats 4000000 in
theorem iadd_e2 (x1 x2 y1 y2 a1 a2 b1 b2 : Nat) (w : World) (HX : Hid (∀ w, Calls Try.prog 15 #[.agg #[.float .f64 x1, .float .f64 x2]] w (RetF a1 a2 w))) (HY : Hid (∀ w, Calls Try.prog 15 #[.agg #[.float .f64 y1, .float .f64 y2]] w (RetF b1 b2 w))) (HE1 : Hid (∀ w, Calls Try.prog 16 #[.agg #[.float .f64 a1, .float .f64 a2]] w fun e w' => e = .returned (.bool false) ∧ Ext w w')) (HE2 : Hid (∀ w, Calls Try.prog 16 #[.agg #[.float .f64 b1, .float .f64 b2]] w fun e w' => e = .returned (.bool true) ∧ Ext w w')) : Calls Try.prog 10 #[.agg #[.float .f64 x1, .float .f64 x2], .agg #[.float .f64 y1, .float .f64 y2]] w (RetF infR minf w) := by
  have HEM := Lib.hid (fun w => iempty_any w)
  obtain ⟨r1, hr1⟩ : ∃ r, r = infR := ⟨_, rfl⟩
  obtain ⟨r2, hr2⟩ : ∃ r, r = minf := ⟨_, rfl⟩
  rw [← hr1, ← hr2] at HEM ⊢
  clear hr1 hr2
  have hO := Own.start w
  have hf : True := trivial
  go_enter Try.func10, Try.ntmps10
  go_wp2_with (first | ((with_reducible refine at_box ?_); refine own_box (cs := [.float .f64 x1, .float .f64 x2]) hO rfl rfl ?_; clear hO; intro ga wa hO; clear hf; have hf := hO.cells; simp only [BC, CC, Nat.zero_add, Nat.reduceAdd, and_true] at hf) | ((with_reducible refine at_box ?_); refine own_box (cs := [.float .f64 y1, .float .f64 y2]) hO rfl rfl ?_; clear hO; intro gb wa hO; clear hf; have hf := hO.cells; simp only [BC, CC, Nat.zero_add, Nat.reduceAdd, and_true] at hf) | ((with_reducible refine at_alloc ?_); refine own_alloc hO zero_iv rfl rfl ?_; clear hO; intro g w1 hO; clear hf; have hf := hO.cells; simp only [BC, CC, Nat.zero_add, Nat.reduceAdd, and_true] at hf))
  obtain ⟨S, hS⟩ : ∃ S : World → Prop, S = Own w [⟨g, 28, [.float .f64 0, .float .f64 0]⟩, ⟨gb, 28, [.float .f64 y1, .float .f64 y2]⟩, ⟨ga, 28, [.float .f64 x1, .float .f64 x2]⟩] [] := ⟨_, rfl⟩
  have hSE : ∀ w w', S w → Ext w w' → S w' := fun w w' h1 h2 => by rw [hS] at h1 ⊢; exact h1.ext h2
  have hS1 : S w1.drew := by rw [hS]; exact hO.ext (Ext.refl w1).drew
  have HS := Lib.hid hS
  clear hS hO hf
  obtain ⟨sp, hsp⟩ : ∃ sp : Nat → Sp, sp = ofList [det (.agg #[.float .f64 x1, .float .f64 x2]), det (.agg #[.float .f64 a1, .float .f64 a2]), det (.agg #[.float .f64 y1, .float .f64 y2]), det (.agg #[.float .f64 b1, .float .f64 b2])] := ⟨_, rfl⟩
  have HSP := Lib.hid hsp
  clear hsp
  refine wp_region_loose 4 S sp (by kernel_rfl) (by kernel_rfl) hS1 hSE ?_
  simp only [List.take_succ_cons, List.take_zero, List.drop_succ_cons, List.drop_zero]
  refine wpX_step (fun K hK => ?_)
  go_simp
  refine StepY.det (by rw [HSP.out]; rfl) ?_ ?_
  · intro wz hz hF
    rw [HS.out] at hz
    have hf := hz.facts
    simp only [BF, CF, Nat.zero_add, Nat.reduceAdd, and_true] at hf
    clear hz hF
    go_simp
    exact ⟨rfl, Ext.refl _⟩
  refine hK _ _ ?_
  clear hK K
  refine wpX_step (fun K hK => ?_)
  go_simp
  refine StepY.det (by rw [HSP.out]; rfl) ?_ ?_
  · intro wz hz hF
    clear hz hF
    go_simp
    go_at_call 15
    refine (HX.out _).mono ?_
    rintro e w2 ⟨rfl, hE1⟩
    exact ⟨_, rfl, rfl, hE1⟩
  refine hK _ _ ?_
  clear hK K
  refine wpX_step (fun K hK => ?_)
  go_simp
  refine StepY.det (by rw [HSP.out]; rfl) ?_ ?_
  · intro wz hz hF
    rw [HS.out] at hz
    have hf := hz.facts
    simp only [BF, CF, Nat.zero_add, Nat.reduceAdd, and_true] at hf
    clear hz hF
    go_simp
    exact ⟨rfl, Ext.refl _⟩
  refine hK _ _ ?_
  clear hK K
  refine wpX_step (fun K hK => ?_)
  go_simp
  refine StepY.det (by rw [HSP.out]; rfl) ?_ ?_
  · intro wz hz hF
    clear hz hF
    go_simp
    go_at_call 15
    refine (HY.out _).mono ?_
    rintro e w2 ⟨rfl, hE1⟩
    exact ⟨_, rfl, rfl, hE1⟩
  refine hK _ _ ?_
  clear hK K
  refine wpX_nil ?_
  intro w1 hz hF
  clear hF hS1
  rw [HS.out] at hz
  have hO := hz
  have hf : True := trivial
  clear hz hSE HS HSP S sp
  go_wp2_with (first | ((with_reducible refine at_store (T := 28) ?_); refine own_store (T := 28) hO 2 rfl rfl rfl size_iv rfl rfl rfl ?_; clear hO; intro w1 hO; simp only [List.set_cons_zero, List.set_cons_succ, spl, List.take_succ_cons, List.take_zero, List.nil_append, List.cons_append, List.length_cons, List.length_nil, List.drop_succ_cons, List.drop_zero, List.drop_nil, Nat.reduceAdd, Nat.zero_add, List.append_nil] at hO; clear hf; have hf := hO.cells; simp only [BC, CC, Nat.zero_add, Nat.reduceAdd, and_true] at hf) | ((with_reducible refine at_store (T := 28) ?_); refine own_store (T := 28) hO 1 rfl rfl rfl size_iv rfl rfl rfl ?_; clear hO; intro w1 hO; simp only [List.set_cons_zero, List.set_cons_succ, spl, List.take_succ_cons, List.take_zero, List.nil_append, List.cons_append, List.length_cons, List.length_nil, List.drop_succ_cons, List.drop_zero, List.drop_nil, Nat.reduceAdd, Nat.zero_add, List.append_nil] at hO; clear hf; have hf := hO.cells; simp only [BC, CC, Nat.zero_add, Nat.reduceAdd, and_true] at hf))
  refine (HE1.out _).mono ?_
  rintro e w2 ⟨rfl, hE1⟩
  have hO := hO.ext hE1
  clear hf
  have hf := hO.cells
  simp only [BC, CC, Nat.zero_add, Nat.reduceAdd, and_true] at hf
  clear hE1
  go_wp2_with fail
  refine (HE2.out _).mono ?_
  rintro e w2 ⟨rfl, hE1⟩
  have hO := hO.ext hE1
  clear hf
  have hf := hO.cells
  simp only [BC, CC, Nat.zero_add, Nat.reduceAdd, and_true] at hf
  clear hE1
  go_wp2_with fail
  refine (HEM.out _).mono ?_
  rintro e w2 ⟨rfl, hE1⟩
  have hO := hO.ext hE1
  clear hf
  have hf := hO.cells
  simp only [BC, CC, Nat.zero_add, Nat.reduceAdd, and_true] at hf
  clear hE1
  go_wp2_with (first | ((with_reducible refine at_store (T := 28) ?_); refine own_store (T := 28) hO 0 rfl rfl rfl size_iv rfl rfl rfl ?_; clear hO; intro w1 hO; simp only [List.set_cons_zero, List.set_cons_succ, spl, List.take_succ_cons, List.take_zero, List.nil_append, List.cons_append, List.length_cons, List.length_nil, List.drop_succ_cons, List.drop_zero, List.drop_nil, Nat.reduceAdd, Nat.zero_add, List.append_nil] at hO; clear hf; have hf := hO.cells; simp only [BC, CC, Nat.zero_add, Nat.reduceAdd, and_true] at hf))
  exact own_ret hO 0 rfl rfl rfl agg_iv size_iv rfl ⟨rfl, hO.toExt⟩

set_option maxHeartbeats 4000000 in
theorem iadd_f (x1 x2 y1 y2 a1 a2 b1 b2 r1 r2 : Nat) (w : World) (HX : Hid (∀ w, Calls Try.prog 15 #[.agg #[.float .f64 x1, .float .f64 x2]] w (RetF a1 a2 w))) (HY : Hid (∀ w, Calls Try.prog 15 #[.agg #[.float .f64 y1, .float .f64 y2]] w (RetF b1 b2 w))) (HE1 : Hid (∀ w, Calls Try.prog 16 #[.agg #[.float .f64 a1, .float .f64 a2]] w fun e w' => e = .returned (.bool false) ∧ Ext w w')) (HE2 : Hid (∀ w, Calls Try.prog 16 #[.agg #[.float .f64 b1, .float .f64 b2]] w fun e w' => e = .returned (.bool false) ∧ Ext w w'))
    (HA1 : Hid (∀ w, Calls Try.prog 25 #[.int .i64 (-1), .float .f64 a1, .float .f64 b1] w fun e w' => e = .returned (.float .f64 r1) ∧ Ext w w'))
    (HA2 : Hid (∀ w, Calls Try.prog 25 #[.int .i64 1, .float .f64 a2, .float .f64 b2] w fun e w' => e = .returned (.float .f64 r2) ∧ Ext w w')) : Calls Try.prog 10 #[.agg #[.float .f64 x1, .float .f64 x2], .agg #[.float .f64 y1, .float .f64 y2]] w (RetF r1 r2 w) := by
  have hO := Own.start w
  have hf : True := trivial
  go_enter Try.func10, Try.ntmps10
  go_wp2_with (first | ((with_reducible refine at_box ?_); refine own_box (cs := [.float .f64 x1, .float .f64 x2]) hO rfl rfl ?_; clear hO; intro ga wa hO; clear hf; have hf := hO.cells; simp only [BC, CC, Nat.zero_add, Nat.reduceAdd, and_true] at hf) | ((with_reducible refine at_box ?_); refine own_box (cs := [.float .f64 y1, .float .f64 y2]) hO rfl rfl ?_; clear hO; intro gb wa hO; clear hf; have hf := hO.cells; simp only [BC, CC, Nat.zero_add, Nat.reduceAdd, and_true] at hf) | ((with_reducible refine at_alloc ?_); refine own_alloc hO zero_iv rfl rfl ?_; clear hO; intro g w1 hO; clear hf; have hf := hO.cells; simp only [BC, CC, Nat.zero_add, Nat.reduceAdd, and_true] at hf))
  obtain ⟨S, hS⟩ : ∃ S : World → Prop, S = Own w [⟨g, 28, [.float .f64 0, .float .f64 0]⟩, ⟨gb, 28, [.float .f64 y1, .float .f64 y2]⟩, ⟨ga, 28, [.float .f64 x1, .float .f64 x2]⟩] [] := ⟨_, rfl⟩
  have hSE : ∀ w w', S w → Ext w w' → S w' := fun w w' h1 h2 => by rw [hS] at h1 ⊢; exact h1.ext h2
  have hS1 : S w1.drew := by rw [hS]; exact hO.ext (Ext.refl w1).drew
  have HS := Lib.hid hS
  clear hS hO hf
  obtain ⟨sp, hsp⟩ : ∃ sp : Nat → Sp, sp = ofList [det (.agg #[.float .f64 x1, .float .f64 x2]), det (.agg #[.float .f64 a1, .float .f64 a2]), det (.agg #[.float .f64 y1, .float .f64 y2]), det (.agg #[.float .f64 b1, .float .f64 b2])] := ⟨_, rfl⟩
  have HSP := Lib.hid hsp
  clear hsp
  refine wp_region_loose 4 S sp (by kernel_rfl) (by kernel_rfl) hS1 hSE ?_
  simp only [List.take_succ_cons, List.take_zero, List.drop_succ_cons, List.drop_zero]
  refine wpX_step (fun K hK => ?_)
  go_simp
  refine StepY.det (by rw [HSP.out]; rfl) ?_ ?_
  · intro wz hz hF
    rw [HS.out] at hz
    have hf := hz.facts
    simp only [BF, CF, Nat.zero_add, Nat.reduceAdd, and_true] at hf
    clear hz hF
    go_simp
    exact ⟨rfl, Ext.refl _⟩
  refine hK _ _ ?_
  clear hK K
  refine wpX_step (fun K hK => ?_)
  go_simp
  refine StepY.det (by rw [HSP.out]; rfl) ?_ ?_
  · intro wz hz hF
    clear hz hF
    go_simp
    go_at_call 15
    refine (HX.out _).mono ?_
    rintro e w2 ⟨rfl, hE1⟩
    exact ⟨_, rfl, rfl, hE1⟩
  refine hK _ _ ?_
  clear hK K
  refine wpX_step (fun K hK => ?_)
  go_simp
  refine StepY.det (by rw [HSP.out]; rfl) ?_ ?_
  · intro wz hz hF
    rw [HS.out] at hz
    have hf := hz.facts
    simp only [BF, CF, Nat.zero_add, Nat.reduceAdd, and_true] at hf
    clear hz hF
    go_simp
    exact ⟨rfl, Ext.refl _⟩
  refine hK _ _ ?_
  clear hK K
  refine wpX_step (fun K hK => ?_)
  go_simp
  refine StepY.det (by rw [HSP.out]; rfl) ?_ ?_
  · intro wz hz hF
    clear hz hF
    go_simp
    go_at_call 15
    refine (HY.out _).mono ?_
    rintro e w2 ⟨rfl, hE1⟩
    exact ⟨_, rfl, rfl, hE1⟩
  refine hK _ _ ?_
  clear hK K
  refine wpX_nil ?_
  intro w1 hz hF
  clear hF hS1
  rw [HS.out] at hz
  have hO := hz
  have hf : True := trivial
  clear hz hSE HS HSP S sp
  go_wp2_with (first | ((with_reducible refine at_store (T := 28) ?_); refine own_store (T := 28) hO 2 rfl rfl rfl size_iv rfl rfl rfl ?_; clear hO; intro w1 hO; simp only [List.set_cons_zero, List.set_cons_succ, spl, List.take_succ_cons, List.take_zero, List.nil_append, List.cons_append, List.length_cons, List.length_nil, List.drop_succ_cons, List.drop_zero, List.drop_nil, Nat.reduceAdd, Nat.zero_add, List.append_nil] at hO; clear hf; have hf := hO.cells; simp only [BC, CC, Nat.zero_add, Nat.reduceAdd, and_true] at hf) | ((with_reducible refine at_store (T := 28) ?_); refine own_store (T := 28) hO 1 rfl rfl rfl size_iv rfl rfl rfl ?_; clear hO; intro w1 hO; simp only [List.set_cons_zero, List.set_cons_succ, spl, List.take_succ_cons, List.take_zero, List.nil_append, List.cons_append, List.length_cons, List.length_nil, List.drop_succ_cons, List.drop_zero, List.drop_nil, Nat.reduceAdd, Nat.zero_add, List.append_nil] at hO; clear hf; have hf := hO.cells; simp only [BC, CC, Nat.zero_add, Nat.reduceAdd, and_true] at hf))
  refine (HE1.out _).mono ?_
  rintro e w2 ⟨rfl, hE1⟩
  have hO := hO.ext hE1
  clear hf
  have hf := hO.cells
  simp only [BC, CC, Nat.zero_add, Nat.reduceAdd, and_true] at hf
  clear hE1
  go_wp2_with fail
  refine (HE2.out _).mono ?_
  rintro e w2 ⟨rfl, hE1⟩
  have hO := hO.ext hE1
  clear hf
  have hf := hO.cells
  simp only [BC, CC, Nat.zero_add, Nat.reduceAdd, and_true] at hf
  clear hE1
  go_wp2_with fail
  rename_i w1
  obtain ⟨S, hS⟩ : ∃ S : World → Prop, S = Own w [⟨g, 28, [.float .f64 0, .float .f64 0]⟩, ⟨gb, 28, [.float .f64 b1, .float .f64 b2]⟩, ⟨ga, 28, [.float .f64 a1, .float .f64 a2]⟩] [] := ⟨_, rfl⟩
  have hSE : ∀ w w', S w → Ext w w' → S w' := fun w w' h1 h2 => by rw [hS] at h1 ⊢; exact h1.ext h2
  have hS1 : S w2.drew := by rw [hS]; exact hO.ext (Ext.refl w2).drew
  have HS := Lib.hid hS
  clear hS hO hf
  obtain ⟨sp, hsp⟩ : ∃ sp : Nat → Sp, sp = ofList [det (.pointer (some ⟨ga, 0, none⟩)), det (.float .f64 a1), det (.pointer (some ⟨gb, 0, none⟩)), det (.float .f64 b1), det (.float .f64 r1), det (.pointer (some ⟨ga, 1, none⟩)), det (.float .f64 a2), det (.pointer (some ⟨gb, 1, none⟩)), det (.float .f64 b2), det (.float .f64 r2), det (.agg #[.float .f64 r1, .float .f64 r2])] := ⟨_, rfl⟩
  have HSP := Lib.hid hsp
  clear hsp
  refine wp_region_loose 11 S sp (by kernel_rfl) (by kernel_rfl) hS1 hSE ?_
  simp only [List.take_succ_cons, List.take_zero, List.drop_succ_cons, List.drop_zero]
  iterate 4
    refine wpX_step (fun K hK => ?_)
    go_simp
    first
    | (refine ⟨by rw [HSP.out]; rfl, hK _ _ ?_⟩
       clear hK K)
    | (refine StepY.det (by rw [HSP.out]; rfl) ?_ ?_
       · intro wz hz hF
         rw [HS.out] at hz
         have hf := hz.facts
         simp only [BF, CF, Nat.zero_add, Nat.reduceAdd, and_true] at hf
         clear hz hF
         go_simp
         exact ⟨rfl, Ext.refl _⟩
       refine hK _ _ ?_
       clear hK K)
  refine wpX_step (fun K hK => ?_)
  go_simp
  refine StepY.det (by rw [HSP.out]; rfl) ?_ ?_
  · intro wz hz hF
    clear hz hF
    go_simp
    go_at_call 25
    refine (HA1.out _).mono ?_
    rintro e w2 ⟨rfl, hE1⟩
    exact ⟨_, rfl, rfl, hE1⟩
  refine hK _ _ ?_
  clear hK K
  iterate 4
    refine wpX_step (fun K hK => ?_)
    go_simp
    first
    | (refine ⟨by rw [HSP.out]; rfl, hK _ _ ?_⟩
       clear hK K)
    | (refine StepY.det (by rw [HSP.out]; rfl) ?_ ?_
       · intro wz hz hF
         rw [HS.out] at hz
         have hf := hz.facts
         simp only [BF, CF, Nat.zero_add, Nat.reduceAdd, and_true] at hf
         clear hz hF
         go_simp
         exact ⟨rfl, Ext.refl _⟩
       refine hK _ _ ?_
       clear hK K)
  refine wpX_step (fun K hK => ?_)
  go_simp
  refine StepY.det (by rw [HSP.out]; rfl) ?_ ?_
  · intro wz hz hF
    clear hz hF
    go_simp
    go_at_call 25
    refine (HA2.out _).mono ?_
    rintro e w2 ⟨rfl, hE1⟩
    exact ⟨_, rfl, rfl, hE1⟩
  refine hK _ _ ?_
  clear hK K
  refine wpX_step (fun K hK => ?_)
  go_simp
  first
  | (refine ⟨by rw [HSP.out]; rfl, hK _ _ ?_⟩
     clear hK K)
  | (refine StepY.det (by rw [HSP.out]; rfl) ?_ ?_
     · intro wz hz hF
       clear hz hF
       go_simp
       exact ⟨rfl, Ext.refl _⟩
     refine hK _ _ ?_
     clear hK K)
  refine wpX_nil ?_
  intro w1 hz hF
  clear hF hS1
  rw [HS.out] at hz
  have hO := hz
  have hf : True := trivial
  clear hz hSE HS HSP S sp
  go_wp2_with (first | ((with_reducible refine at_store (T := 28) ?_); refine own_store (T := 28) hO 0 rfl rfl rfl size_iv rfl rfl rfl ?_; clear hO; intro w1 hO; simp only [List.set_cons_zero, List.set_cons_succ, spl, List.take_succ_cons, List.take_zero, List.nil_append, List.cons_append, List.length_cons, List.length_nil, List.drop_succ_cons, List.drop_zero, List.drop_nil, Nat.reduceAdd, Nat.zero_add, List.append_nil] at hO; clear hf; have hf := hO.cells; simp only [BC, CC, Nat.zero_add, Nat.reduceAdd, and_true] at hf))
  exact own_ret hO 0 rfl rfl rfl agg_iv size_iv rfl ⟨rfl, hO.toExt⟩
end Go.Proofs.Ytllfcklgljdgeaa

/-
  Pairs of patterns against themselves. Conditions: those that each theorem names.
-/
namespace Go.Proofs.Ytllfcklgljdgeaa
open Go.RowKit Nm Rn
set_option maxRecDepth 100000
set_option linter.unusedVariables false
set_option linter.unusedSimpArgs false

theorem neqI_self (a b : Int) (w : World) : (binOp .neq 24 (.agg #[.int .u64 a, .int .u64 b]) (.agg #[.int .u64 a, .int .u64 b])).run Try.prog w = .ok (.bool false) w := by
  go_simp <;> simp
theorem eqI_self (a b : Int) (w : World) : (binOp .eql 24 (.agg #[.int .u64 a, .int .u64 b]) (.agg #[.int .u64 a, .int .u64 b])).run Try.prog w = .ok (.bool true) w := by
  rw [eqI]; simp
end Go.Proofs.Ytllfcklgljdgeaa

/-
  The walk of the law IvalAdds: it answers true. Conditions: those that each theorem names.
-/
namespace Go.Proofs.Ytllfcklgljdgeaa
open Go.RowKit Nm Rn
set_option maxRecDepth 100000
set_option linter.unusedVariables false
set_option linter.unusedSimpArgs false

theorem inf_minf {p : Nat} (hp : p < 18446744073709551616) (h : isInf p = true) (hn : p ≠ infR) : p = minf := by
  have := inf_cases hp ((isInf_iff p).1 h)
  rw [this] at hn ⊢
  cases hs : sg p
  · rw [hs] at hn; exact absurd rfl hn
  · rfl
theorem inf_infR {p : Nat} (hp : p < 18446744073709551616) (h : isInf p = true) (hn : p ≠ minf) : p = infR := by
  have := inf_cases hp ((isInf_iff p).1 h)
  rw [this] at hn ⊢
  cases hs : sg p
  · rfl
  · rw [hs] at hn; exact absurd rfl hn
theorem iadd_any (x1 x2 y1 y2 : Nat) (w : World) (hx1 : x1 < 18446744073709551616) (hx2 : x2 < 18446744073709551616) (hy1 : y1 < 18446744073709551616) (hy2 : y2 < 18446744073709551616) :
    Calls Try.prog 10 #[.agg #[.float .f64 x1, .float .f64 x2], .agg #[.float .f64 y1, .float .f64 y2]] w (RetF (iaLo x1 x2 y1 y2) (iaHi x1 x2 y1 y2) w) := by
  have HX := Lib.hid (fun w => iread_any x1 x2 w hx1 hx2)
  have HY := Lib.hid (fun w => iread_any y1 y2 w hy1 hy2)
  have HE1 := Lib.hid (fun w => iemp_any (rdLo x1 x2) (rdHi x1 x2) w (rdLo_lt x1 x2 hx1) (rdHi_lt x1 x2 hx2))
  have HE2 := Lib.hid (fun w => iemp_any (rdLo y1 y2) (rdHi y1 y2) w (rdLo_lt y1 y2 hy1) (rdHi_lt y1 y2 hy2))
  rw [emp_lt hx1 hx2] at HE1
  rw [emp_lt hy1 hy2] at HE2
  by_cases ex : emp x1 x2
  · have e1 : iaLo x1 x2 y1 y2 = infR := if_pos (.inl ex)
    have e2 : iaHi x1 x2 y1 y2 = minf := if_pos (.inl ex)
    rw [e1, e2]
    rw [decide_eq_true ex] at HE1
    exact iadd_e1 x1 x2 y1 y2 _ _ _ _ w HX HY HE1
  · rw [decide_eq_false ex] at HE1
    by_cases ey : emp y1 y2
    · have e1 : iaLo x1 x2 y1 y2 = infR := if_pos (.inr ey)
      have e2 : iaHi x1 x2 y1 y2 = minf := if_pos (.inr ey)
      rw [e1, e2]
      rw [decide_eq_true ey] at HE2
      exact iadd_e2 x1 x2 y1 y2 _ _ _ _ w HX HY HE1 HE2
    · rw [decide_eq_false ey] at HE2
      have e1 : iaLo x1 x2 y1 y2 = addR (-1) (rdLo x1 x2) (rdLo y1 y2) := if_neg (by intro h; rcases h with h | h; exact ex h; exact ey h)
      have e2 : iaHi x1 x2 y1 y2 = addR 1 (rdHi x1 x2) (rdHi y1 y2) := if_neg (by intro h; rcases h with h | h; exact ex h; exact ey h)
      obtain ⟨g1, g2, g3, g4, g5, g6, _, _⟩ := rd_ends hx1 hx2 ex
      obtain ⟨k1, k2, k3, k4, k5, k6, _, _⟩ := rd_ends hy1 hy2 ey
      have n1 := addR_num (d := -1) g3 k3 (fun a b => by rw [inf_minf g1 a g5, inf_minf k1 b k5])
      have n2 := addR_num (d := 1) g4 k4 (fun a b => by rw [inf_infR g2 a g6, inf_infR k2 b k6])
      rw [e1, e2]
      exact iadd_f x1 x2 y1 y2 _ _ _ _ _ _ w HX HY HE1 HE2
        (Lib.hid fun w => (radd_any_ (-1) _ _ w g1 k1).mono fun e w' ⟨r, h1, _, h3, h4⟩ => ⟨by rw [h1, cn_eq h3 n1], h4⟩)
        (Lib.hid fun w => (radd_any_ 1 _ _ w g2 k2).mono fun e w' ⟨r, h1, _, h3, h4⟩ => ⟨by rw [h1, cn_eq h3 n2], h4⟩)

set_option maxHeartbeats 4000000 in
theorem adds_walk (x1 x2 y1 y2 : Nat) (w : World) (hx1 : x1 < 18446744073709551616) (hx2 : x2 < 18446744073709551616) (hy1 : y1 < 18446744073709551616) (hy2 : y2 < 18446744073709551616) :
    Calls Try.prog 4 #[.agg #[.int .u64 (x1 : Int), .int .u64 (x2 : Int)], .agg #[.int .u64 (y1 : Int), .int .u64 (y2 : Int)]] w fun e w' => e = .returned (.bool true) ∧ Ext w w' := by
  have h3 := fun w => iadd_any x1 x2 y1 y2 w hx1 hx2 hy1 hy2
  have h4 := fun w => add6_any x1 x2 y1 y2 w hx1 hx2 hy1 hy2
  obtain ⟨a, ha⟩ : ∃ a, a = iaLo x1 x2 y1 y2 := ⟨_, rfl⟩
  obtain ⟨b, hb⟩ : ∃ b, b = iaHi x1 x2 y1 y2 := ⟨_, rfl⟩
  rw [← ha, ← hb] at h3 h4
  have H3 := Lib.hid h3
  have H4 := Lib.hid h4
  have he1 := eqI_self (a : Int) b
  clear ha hb h3 h4 hx1 hx2 hy1 hy2
  have hO := Own.start w
  have hf : True := trivial
  go_enter Try.func4, Try.ntmps4
  go_wp2_with (first | ((with_reducible refine at_box ?_); refine own_box (cs := [.int .u64 (x1 : Int), .int .u64 (x2 : Int)]) hO rfl rfl ?_; clear hO; intro ga wa hO; clear hf; have hf := hO.cells; simp only [BC, CC, Nat.zero_add, Nat.reduceAdd, and_true] at hf) | ((with_reducible refine at_box ?_); refine own_box (cs := [.int .u64 (y1 : Int), .int .u64 (y2 : Int)]) hO rfl rfl ?_; clear hO; intro gb wa hO; clear hf; have hf := hO.cells; simp only [BC, CC, Nat.zero_add, Nat.reduceAdd, and_true] at hf))
  obtain ⟨S, hS⟩ : ∃ S : World → Prop, S = Own w [⟨gb, 24, [.int .u64 (y1 : Int), .int .u64 (y2 : Int)]⟩, ⟨ga, 24, [.int .u64 (x1 : Int), .int .u64 (x2 : Int)]⟩] [] := ⟨_, rfl⟩
  have hS1 : S wa.drew := by rw [hS]; exact hO.ext (Ext.refl wa).drew
  have HSS := Lib.hid hS
  clear hS hO hf
  refine wp_region_steady S (by kernel_rfl) (by kernel_rfl) hS1 ?_
  repeat (refine wpG_step (fun K hK => ?_)
          go_simp
          first
          | (refine hK _ ?_
             clear hK K)
          | (apply StepG.mk
             intro wz hz
             have hz' := hz
             rw [HSS.out] at hz'
             have hf := hz'.facts
             simp only [BF, CF, Nat.zero_add, Nat.reduceAdd, and_true] at hf
             have hk : ∀ w5, Ext wz w5 → S w5 := fun w5 h5 => by rw [HSS.out]; exact hz'.ext h5
             have HK := Lib.hid hk
             clear hk hz'
             go_simp
             first
             | exact ⟨rfl, hz⟩
             | (go_at_call 8; exact (in6_any _ _ _).mono fun e w5 h5 => ⟨h5.1, HK.out _ h5.2⟩)
             | (go_at_call 6; exact (out6_any _ _ _).mono fun e w5 h5 => ⟨h5.1, HK.out _ h5.2⟩)
             | (go_at_call 10; exact (H3.out _).mono fun e w5 h5 => ⟨h5.1, HK.out _ h5.2⟩)
             | (go_at_call 11; exact (H4.out _).mono fun e w5 h5 => ⟨h5.1, HK.out _ h5.2⟩)
             refine hK _ ?_
             clear hK K))
  refine wpG_nil ?_
  intro w5 hw5
  rw [HSS.out] at hw5
  have HE5 := Lib.hid hw5.toExt
  clear hw5 hS1
  go_wp2
  go_ret
  exact ⟨rfl, HE5.out⟩
end Go.Proofs.Ytllfcklgljdgeaa
