/-
  The contract of the program's Add of intervals. Conditions: those that each theorem names.
-/
import Derived.Test.YtmcfflecaklpcaaZ39
import Derived.Test.YtmcfflecaklpcaaZ32
import Derived.Test.YtmcfflecaklpcaaZ22
import Derived.Test.YtmcfflecaklpcaaZ12
import Derived.Test.YtmcfflecaklpcaaZ28
namespace Go.Proofs.Ytmcfflecaklpcaa
open Go.RowKit Nm Rn
set_option maxRecDepth 100000
set_option linter.unusedVariables false
set_option linter.unusedSimpArgs false

set_option maxHeartbeats 4000000 in
theorem iadd_e1 (x1 x2 y1 y2 a1 a2 b1 b2 : Nat) (w : World) (HX : Hid (∀ w, Calls Try.prog 72 #[.agg #[.float .f64 x1, .float .f64 x2]] w (RetF a1 a2 w))) (HY : Hid (∀ w, Calls Try.prog 72 #[.agg #[.float .f64 y1, .float .f64 y2]] w (RetF b1 b2 w))) (HE1 : Hid (∀ w, Calls Try.prog 73 #[.agg #[.float .f64 a1, .float .f64 a2]] w fun e w' => e = .returned (.bool true) ∧ Ext w w')) : Calls Try.prog 77 #[.agg #[.float .f64 x1, .float .f64 x2], .agg #[.float .f64 y1, .float .f64 y2]] w (RetF infR minf w) := by
  have HEM := Lib.hid (fun w => iempty_any w)
  obtain ⟨r1, hr1⟩ : ∃ r, r = infR := ⟨_, rfl⟩
  obtain ⟨r2, hr2⟩ : ∃ r, r = minf := ⟨_, rfl⟩
  rw [← hr1, ← hr2] at HEM ⊢
  clear hr1 hr2
  have hO := Own.start w
  have hf : True := trivial
  go_enter Try.func77, Try.ntmps77
  go_wp2_with (first | ((with_reducible refine at_box ?_); refine own_box (cs := [.float .f64 x1, .float .f64 x2]) hO rfl rfl ?_; clear hO; intro ga wa hO; clear hf; have hf := hO.cells; simp only [BC, CC, Nat.zero_add, Nat.reduceAdd, and_true] at hf) | ((with_reducible refine at_box ?_); refine own_box (cs := [.float .f64 y1, .float .f64 y2]) hO rfl rfl ?_; clear hO; intro gb wa hO; clear hf; have hf := hO.cells; simp only [BC, CC, Nat.zero_add, Nat.reduceAdd, and_true] at hf) | ((with_reducible refine at_alloc ?_); refine own_alloc hO zero_iv rfl rfl ?_; clear hO; intro g w1 hO; clear hf; have hf := hO.cells; simp only [BC, CC, Nat.zero_add, Nat.reduceAdd, and_true] at hf))
  obtain ⟨S, hS⟩ : ∃ S : World → Prop, S = Own w [⟨g, 52, [.float .f64 0, .float .f64 0]⟩, ⟨gb, 52, [.float .f64 y1, .float .f64 y2]⟩, ⟨ga, 52, [.float .f64 x1, .float .f64 x2]⟩] [] := ⟨_, rfl⟩
  have hSE : ∀ w w', S w → Ext w w' → S w' := fun w w' h1 h2 => by rw [hS] at h1 ⊢; exact h1.ext h2
  have hS1 : S w1.drew := by rw [hS]; exact hO.ext (Ext.refl w1).drew
  have HS := Lib.hid hS
  clear hS hO hf
  obtain ⟨sp, hsp⟩ : ∃ sp : Nat → Sp, sp = ofList [det (.agg #[.float .f64 x1, .float .f64 x2]), det (.agg #[.float .f64 a1, .float .f64 a2]), det (.agg #[.float .f64 y1, .float .f64 y2]), det (.agg #[.float .f64 b1, .float .f64 b2])] := ⟨_, rfl⟩
  have HSP := Lib.hid hsp
  clear hsp
  refine wp_region_loose 4 S sp (by kernel_rfl) (by kernel_rfl) hS1 hSE ?_
  simp only [List.take_succ_cons, List.take_zero, List.drop_succ_cons, List.drop_zero]
  refine wpX_step (fun K hK => ?_)
  go_simp
  refine StepY.det (by rw [HSP.out]; rfl) ?_ ?_
  · intro wz hz hF
    rw [HS.out] at hz
    have hf := hz.facts
    simp only [BF, CF, Nat.zero_add, Nat.reduceAdd, and_true] at hf
    clear hz hF
    go_simp
    exact ⟨rfl, Ext.refl _⟩
  refine hK _ _ ?_
  clear hK K
  refine wpX_step (fun K hK => ?_)
  go_simp
  refine StepY.det (by rw [HSP.out]; rfl) ?_ ?_
  · intro wz hz hF
    clear hz hF
    go_simp
    go_at_call 72
    refine (HX.out _).mono ?_
    rintro e w2 ⟨rfl, hE1⟩
    exact ⟨_, rfl, rfl, hE1⟩
  refine hK _ _ ?_
  clear hK K
  refine wpX_step (fun K hK => ?_)
  go_simp
  refine StepY.det (by rw [HSP.out]; rfl) ?_ ?_
  · intro wz hz hF
    rw [HS.out] at hz
    have hf := hz.facts
    simp only [BF, CF, Nat.zero_add, Nat.reduceAdd, and_true] at hf
    clear hz hF
    go_simp
    exact ⟨rfl, Ext.refl _⟩
  refine hK _ _ ?_
  clear hK K
  refine wpX_step (fun K hK => ?_)
  go_simp
  refine StepY.det (by rw [HSP.out]; rfl) ?_ ?_
  · intro wz hz hF
    clear hz hF
    go_simp
    go_at_call 72
    refine (HY.out _).mono ?_
    rintro e w2 ⟨rfl, hE1⟩
    exact ⟨_, rfl, rfl, hE1⟩
  refine hK _ _ ?_
  clear hK K
  refine wpX_nil ?_
  intro w1 hz hF
  clear hF hS1
  rw [HS.out] at hz
  have hO := hz
  have hf : True := trivial
  clear hz hSE HS HSP S sp
  go_wp2_with (first | ((with_reducible refine at_store (T := 52) ?_); refine own_store (T := 52) hO 2 rfl rfl rfl size_iv rfl rfl rfl ?_; clear hO; intro w1 hO; simp only [List.set_cons_zero, List.set_cons_succ, spl, List.take_succ_cons, List.take_zero, List.nil_append, List.cons_append, List.length_cons, List.length_nil, List.drop_succ_cons, List.drop_zero, List.drop_nil, Nat.reduceAdd, Nat.zero_add, List.append_nil] at hO; clear hf; have hf := hO.cells; simp only [BC, CC, Nat.zero_add, Nat.reduceAdd, and_true] at hf) | ((with_reducible refine at_store (T := 52) ?_); refine own_store (T := 52) hO 1 rfl rfl rfl size_iv rfl rfl rfl ?_; clear hO; intro w1 hO; simp only [List.set_cons_zero, List.set_cons_succ, spl, List.take_succ_cons, List.take_zero, List.nil_append, List.cons_append, List.length_cons, List.length_nil, List.drop_succ_cons, List.drop_zero, List.drop_nil, Nat.reduceAdd, Nat.zero_add, List.append_nil] at hO; clear hf; have hf := hO.cells; simp only [BC, CC, Nat.zero_add, Nat.reduceAdd, and_true] at hf))
  refine (HE1.out _).mono ?_
  rintro e w2 ⟨rfl, hE1⟩
  have hO := hO.ext hE1
  clear hf
  have hf := hO.cells
  simp only [BC, CC, Nat.zero_add, Nat.reduceAdd, and_true] at hf
  clear hE1
  go_wp2_with fail
  refine (HEM.out _).mono ?_
  rintro e w2 ⟨rfl, hE1⟩
  have hO := hO.ext hE1
  clear hf
  have hf := hO.cells
  simp only [BC, CC, Nat.zero_add, Nat.reduceAdd, and_true] at hf
  clear hE1
  go_wp2_with (first | ((with_reducible refine at_store (T := 52) ?_); refine own_store (T := 52) hO 0 rfl rfl rfl size_iv rfl rfl rfl ?_; clear hO; intro w1 hO; simp only [List.set_cons_zero, List.set_cons_succ, spl, List.take_succ_cons, List.take_zero, List.nil_append, List.cons_append, List.length_cons, List.length_nil, List.drop_succ_cons, List.drop_zero, List.drop_nil, Nat.reduceAdd, Nat.zero_add, List.append_nil] at hO; clear hf; have hf := hO.cells; simp only [BC, CC, Nat.zero_add, Nat.reduceAdd, and_true] at hf))
  exact own_ret hO 0 rfl rfl rfl agg_iv size_iv rfl ⟨rfl, hO.toExt⟩

set_option maxHeartbeats 4000000 in
theorem iadd_e2 (x1 x2 y1 y2 a1 a2 b1 b2 : Nat) (w : World) (HX : Hid (∀ w, Calls Try.prog 72 #[.agg #[.float .f64 x1, .float .f64 x2]] w (RetF a1 a2 w))) (HY : Hid (∀ w, Calls Try.prog 72 #[.agg #[.float .f64 y1, .float .f64 y2]] w (RetF b1 b2 w))) (HE1 : Hid (∀ w, Calls Try.prog 73 #[.agg #[.float .f64 a1, .float .f64 a2]] w fun e w' => e = .returned (.bool false) ∧ Ext w w')) (HE2 : Hid (∀ w, Calls Try.prog 73 #[.agg #[.float .f64 b1, .float .f64 b2]] w fun e w' => e = .returned (.bool true) ∧ Ext w w')) : Calls Try.prog 77 #[.agg #[.float .f64 x1, .float .f64 x2], .agg #[.float .f64 y1, .float .f64 y2]] w (RetF infR minf w) := by
  have HEM := Lib.hid (fun w => iempty_any w)
  obtain ⟨r1, hr1⟩ : ∃ r, r = infR := ⟨_, rfl⟩
  obtain ⟨r2, hr2⟩ : ∃ r, r = minf := ⟨_, rfl⟩
  rw [← hr1, ← hr2] at HEM ⊢
  clear hr1 hr2
  have hO := Own.start w
  have hf : True := trivial
  go_enter Try.func77, Try.ntmps77
  go_wp2_with (first | ((with_reducible refine at_box ?_); refine own_box (cs := [.float .f64 x1, .float .f64 x2]) hO rfl rfl ?_; clear hO; intro ga wa hO; clear hf; have hf := hO.cells; simp only [BC, CC, Nat.zero_add, Nat.reduceAdd, and_true] at hf) | ((with_reducible refine at_box ?_); refine own_box (cs := [.float .f64 y1, .float .f64 y2]) hO rfl rfl ?_; clear hO; intro gb wa hO; clear hf; have hf := hO.cells; simp only [BC, CC, Nat.zero_add, Nat.reduceAdd, and_true] at hf) | ((with_reducible refine at_alloc ?_); refine own_alloc hO zero_iv rfl rfl ?_; clear hO; intro g w1 hO; clear hf; have hf := hO.cells; simp only [BC, CC, Nat.zero_add, Nat.reduceAdd, and_true] at hf))
  obtain ⟨S, hS⟩ : ∃ S : World → Prop, S = Own w [⟨g, 52, [.float .f64 0, .float .f64 0]⟩, ⟨gb, 52, [.float .f64 y1, .float .f64 y2]⟩, ⟨ga, 52, [.float .f64 x1, .float .f64 x2]⟩] [] := ⟨_, rfl⟩
  have hSE : ∀ w w', S w → Ext w w' → S w' := fun w w' h1 h2 => by rw [hS] at h1 ⊢; exact h1.ext h2
  have hS1 : S w1.drew := by rw [hS]; exact hO.ext (Ext.refl w1).drew
  have HS := Lib.hid hS
  clear hS hO hf
  obtain ⟨sp, hsp⟩ : ∃ sp : Nat → Sp, sp = ofList [det (.agg #[.float .f64 x1, .float .f64 x2]), det (.agg #[.float .f64 a1, .float .f64 a2]), det (.agg #[.float .f64 y1, .float .f64 y2]), det (.agg #[.float .f64 b1, .float .f64 b2])] := ⟨_, rfl⟩
  have HSP := Lib.hid hsp
  clear hsp
  refine wp_region_loose 4 S sp (by kernel_rfl) (by kernel_rfl) hS1 hSE ?_
  simp only [List.take_succ_cons, List.take_zero, List.drop_succ_cons, List.drop_zero]
  refine wpX_step (fun K hK => ?_)
  go_simp
  refine StepY.det (by rw [HSP.out]; rfl) ?_ ?_
  · intro wz hz hF
    rw [HS.out] at hz
    have hf := hz.facts
    simp only [BF, CF, Nat.zero_add, Nat.reduceAdd, and_true] at hf
    clear hz hF
    go_simp
    exact ⟨rfl, Ext.refl _⟩
  refine hK _ _ ?_
  clear hK K
  refine wpX_step (fun K hK => ?_)
  go_simp
  refine StepY.det (by rw [HSP.out]; rfl) ?_ ?_
  · intro wz hz hF
    clear hz hF
    go_simp
    go_at_call 72
    refine (HX.out _).mono ?_
    rintro e w2 ⟨rfl, hE1⟩
    exact ⟨_, rfl, rfl, hE1⟩
  refine hK _ _ ?_
  clear hK K
  refine wpX_step (fun K hK => ?_)
  go_simp
  refine StepY.det (by rw [HSP.out]; rfl) ?_ ?_
  · intro wz hz hF
    rw [HS.out] at hz
    have hf := hz.facts
    simp only [BF, CF, Nat.zero_add, Nat.reduceAdd, and_true] at hf
    clear hz hF
    go_simp
    exact ⟨rfl, Ext.refl _⟩
  refine hK _ _ ?_
  clear hK K
  refine wpX_step (fun K hK => ?_)
  go_simp
  refine StepY.det (by rw [HSP.out]; rfl) ?_ ?_
  · intro wz hz hF
    clear hz hF
    go_simp
    go_at_call 72
    refine (HY.out _).mono ?_
    rintro e w2 ⟨rfl, hE1⟩
    exact ⟨_, rfl, rfl, hE1⟩
  refine hK _ _ ?_
  clear hK K
  refine wpX_nil ?_
  intro w1 hz hF
  clear hF hS1
  rw [HS.out] at hz
  have hO := hz
  have hf : True := trivial
  clear hz hSE HS HSP S sp
  go_wp2_with (first | ((with_reducible refine at_store (T := 52) ?_); refine own_store (T := 52) hO 2 rfl rfl rfl size_iv rfl rfl rfl ?_; clear hO; intro w1 hO; simp only [List.set_cons_zero, List.set_cons_succ, spl, List.take_succ_cons, List.take_zero, List.nil_append, List.cons_append, List.length_cons, List.length_nil, List.drop_succ_cons, List.drop_zero, List.drop_nil, Nat.reduceAdd, Nat.zero_add, List.append_nil] at hO; clear hf; have hf := hO.cells; simp only [BC, CC, Nat.zero_add, Nat.reduceAdd, and_true] at hf) | ((with_reducible refine at_store (T := 52) ?_); refine own_store (T := 52) hO 1 rfl rfl rfl size_iv rfl rfl rfl ?_; clear hO; intro w1 hO; simp only [List.set_cons_zero, List.set_cons_succ, spl, List.take_succ_cons, List.take_zero, List.nil_append, List.cons_append, List.length_cons, List.length_nil, List.drop_succ_cons, List.drop_zero, List.drop_nil, Nat.reduceAdd, Nat.zero_add, List.append_nil] at hO; clear hf; have hf := hO.cells; simp only [BC, CC, Nat.zero_add, Nat.reduceAdd, and_true] at hf))
  refine (HE1.out _).mono ?_
  rintro e w2 ⟨rfl, hE1⟩
  have hO := hO.ext hE1
  clear hf
  have hf := hO.cells
  simp only [BC, CC, Nat.zero_add, Nat.reduceAdd, and_true] at hf
  clear hE1
  go_wp2_with fail
  refine (HE2.out _).mono ?_
  rintro e w2 ⟨rfl, hE1⟩
  have hO := hO.ext hE1
  clear hf
  have hf := hO.cells
  simp only [BC, CC, Nat.zero_add, Nat.reduceAdd, and_true] at hf
  clear hE1
  go_wp2_with fail
  refine (HEM.out _).mono ?_
  rintro e w2 ⟨rfl, hE1⟩
  have hO := hO.ext hE1
  clear hf
  have hf := hO.cells
  simp only [BC, CC, Nat.zero_add, Nat.reduceAdd, and_true] at hf
  clear hE1
  go_wp2_with (first | ((with_reducible refine at_store (T := 52) ?_); refine own_store (T := 52) hO 0 rfl rfl rfl size_iv rfl rfl rfl ?_; clear hO; intro w1 hO; simp only [List.set_cons_zero, List.set_cons_succ, spl, List.take_succ_cons, List.take_zero, List.nil_append, List.cons_append, List.length_cons, List.length_nil, List.drop_succ_cons, List.drop_zero, List.drop_nil, Nat.reduceAdd, Nat.zero_add, List.append_nil] at hO; clear hf; have hf := hO.cells; simp only [BC, CC, Nat.zero_add, Nat.reduceAdd, and_true] at hf))
  exact own_ret hO 0 rfl rfl rfl agg_iv size_iv rfl ⟨rfl, hO.toExt⟩

set_option maxHeartbeats 4000000 in
theorem iadd_f (x1 x2 y1 y2 a1 a2 b1 b2 r1 r2 : Nat) (w : World) (HX : Hid (∀ w, Calls Try.prog 72 #[.agg #[.float .f64 x1, .float .f64 x2]] w (RetF a1 a2 w))) (HY : Hid (∀ w, Calls Try.prog 72 #[.agg #[.float .f64 y1, .float .f64 y2]] w (RetF b1 b2 w))) (HE1 : Hid (∀ w, Calls Try.prog 73 #[.agg #[.float .f64 a1, .float .f64 a2]] w fun e w' => e = .returned (.bool false) ∧ Ext w w')) (HE2 : Hid (∀ w, Calls Try.prog 73 #[.agg #[.float .f64 b1, .float .f64 b2]] w fun e w' => e = .returned (.bool false) ∧ Ext w w'))
    (HA1 : Hid (∀ w, Calls Try.prog 21 #[.int .i64 (-1), .float .f64 a1, .float .f64 b1] w fun e w' => e = .returned (.float .f64 r1) ∧ Ext w w'))
    (HA2 : Hid (∀ w, Calls Try.prog 21 #[.int .i64 1, .float .f64 a2, .float .f64 b2] w fun e w' => e = .returned (.float .f64 r2) ∧ Ext w w')) : Calls Try.prog 77 #[.agg #[.float .f64 x1, .float .f64 x2], .agg #[.float .f64 y1, .float .f64 y2]] w (RetF r1 r2 w) := by
  have hO := Own.start w
  have hf : True := trivial
  go_enter Try.func77, Try.ntmps77
  go_wp2_with (first | ((with_reducible refine at_box ?_); refine own_box (cs := [.float .f64 x1, .float .f64 x2]) hO rfl rfl ?_; clear hO; intro ga wa hO; clear hf; have hf := hO.cells; simp only [BC, CC, Nat.zero_add, Nat.reduceAdd, and_true] at hf) | ((with_reducible refine at_box ?_); refine own_box (cs := [.float .f64 y1, .float .f64 y2]) hO rfl rfl ?_; clear hO; intro gb wa hO; clear hf; have hf := hO.cells; simp only [BC, CC, Nat.zero_add, Nat.reduceAdd, and_true] at hf) | ((with_reducible refine at_alloc ?_); refine own_alloc hO zero_iv rfl rfl ?_; clear hO; intro g w1 hO; clear hf; have hf := hO.cells; simp only [BC, CC, Nat.zero_add, Nat.reduceAdd, and_true] at hf))
  obtain ⟨S, hS⟩ : ∃ S : World → Prop, S = Own w [⟨g, 52, [.float .f64 0, .float .f64 0]⟩, ⟨gb, 52, [.float .f64 y1, .float .f64 y2]⟩, ⟨ga, 52, [.float .f64 x1, .float .f64 x2]⟩] [] := ⟨_, rfl⟩
  have hSE : ∀ w w', S w → Ext w w' → S w' := fun w w' h1 h2 => by rw [hS] at h1 ⊢; exact h1.ext h2
  have hS1 : S w1.drew := by rw [hS]; exact hO.ext (Ext.refl w1).drew
  have HS := Lib.hid hS
  clear hS hO hf
  obtain ⟨sp, hsp⟩ : ∃ sp : Nat → Sp, sp = ofList [det (.agg #[.float .f64 x1, .float .f64 x2]), det (.agg #[.float .f64 a1, .float .f64 a2]), det (.agg #[.float .f64 y1, .float .f64 y2]), det (.agg #[.float .f64 b1, .float .f64 b2])] := ⟨_, rfl⟩
  have HSP := Lib.hid hsp
  clear hsp
  refine wp_region_loose 4 S sp (by kernel_rfl) (by kernel_rfl) hS1 hSE ?_
  simp only [List.take_succ_cons, List.take_zero, List.drop_succ_cons, List.drop_zero]
  refine wpX_step (fun K hK => ?_)
  go_simp
  refine StepY.det (by rw [HSP.out]; rfl) ?_ ?_
  · intro wz hz hF
    rw [HS.out] at hz
    have hf := hz.facts
    simp only [BF, CF, Nat.zero_add, Nat.reduceAdd, and_true] at hf
    clear hz hF
    go_simp
    exact ⟨rfl, Ext.refl _⟩
  refine hK _ _ ?_
  clear hK K
  refine wpX_step (fun K hK => ?_)
  go_simp
  refine StepY.det (by rw [HSP.out]; rfl) ?_ ?_
  · intro wz hz hF
    clear hz hF
    go_simp
    go_at_call 72
    refine (HX.out _).mono ?_
    rintro e w2 ⟨rfl, hE1⟩
    exact ⟨_, rfl, rfl, hE1⟩
  refine hK _ _ ?_
  clear hK K
  refine wpX_step (fun K hK => ?_)
  go_simp
  refine StepY.det (by rw [HSP.out]; rfl) ?_ ?_
  · intro wz hz hF
    rw [HS.out] at hz
    have hf := hz.facts
    simp only [BF, CF, Nat.zero_add, Nat.reduceAdd, and_true] at hf
    clear hz hF
    go_simp
    exact ⟨rfl, Ext.refl _⟩
  refine hK _ _ ?_
  clear hK K
  refine wpX_step (fun K hK => ?_)
  go_simp
  refine StepY.det (by rw [HSP.out]; rfl) ?_ ?_
  · intro wz hz hF
    clear hz hF
    go_simp
    go_at_call 72
    refine (HY.out _).mono ?_
    rintro e w2 ⟨rfl, hE1⟩
    exact ⟨_, rfl, rfl, hE1⟩
  refine hK _ _ ?_
  clear hK K
  refine wpX_nil ?_
  intro w1 hz hF
  clear hF hS1
  rw [HS.out] at hz
  have hO := hz
  have hf : True := trivial
  clear hz hSE HS HSP S sp
  go_wp2_with (first | ((with_reducible refine at_store (T := 52) ?_); refine own_store (T := 52) hO 2 rfl rfl rfl size_iv rfl rfl rfl ?_; clear hO; intro w1 hO; simp only [List.set_cons_zero, List.set_cons_succ, spl, List.take_succ_cons, List.take_zero, List.nil_append, List.cons_append, List.length_cons, List.length_nil, List.drop_succ_cons, List.drop_zero, List.drop_nil, Nat.reduceAdd, Nat.zero_add, List.append_nil] at hO; clear hf; have hf := hO.cells; simp only [BC, CC, Nat.zero_add, Nat.reduceAdd, and_true] at hf) | ((with_reducible refine at_store (T := 52) ?_); refine own_store (T := 52) hO 1 rfl rfl rfl size_iv rfl rfl rfl ?_; clear hO; intro w1 hO; simp only [List.set_cons_zero, List.set_cons_succ, spl, List.take_succ_cons, List.take_zero, List.nil_append, List.cons_append, List.length_cons, List.length_nil, List.drop_succ_cons, List.drop_zero, List.drop_nil, Nat.reduceAdd, Nat.zero_add, List.append_nil] at hO; clear hf; have hf := hO.cells; simp only [BC, CC, Nat.zero_add, Nat.reduceAdd, and_true] at hf))
  refine (HE1.out _).mono ?_
  rintro e w2 ⟨rfl, hE1⟩
  have hO := hO.ext hE1
  clear hf
  have hf := hO.cells
  simp only [BC, CC, Nat.zero_add, Nat.reduceAdd, and_true] at hf
  clear hE1
  go_wp2_with fail
  refine (HE2.out _).mono ?_
  rintro e w2 ⟨rfl, hE1⟩
  have hO := hO.ext hE1
  clear hf
  have hf := hO.cells
  simp only [BC, CC, Nat.zero_add, Nat.reduceAdd, and_true] at hf
  clear hE1
  go_wp2_with fail
  rename_i w1
  obtain ⟨S, hS⟩ : ∃ S : World → Prop, S = Own w [⟨g, 52, [.float .f64 0, .float .f64 0]⟩, ⟨gb, 52, [.float .f64 b1, .float .f64 b2]⟩, ⟨ga, 52, [.float .f64 a1, .float .f64 a2]⟩] [] := ⟨_, rfl⟩
  have hSE : ∀ w w', S w → Ext w w' → S w' := fun w w' h1 h2 => by rw [hS] at h1 ⊢; exact h1.ext h2
  have hS1 : S w2.drew := by rw [hS]; exact hO.ext (Ext.refl w2).drew
  have HS := Lib.hid hS
  clear hS hO hf
  obtain ⟨sp, hsp⟩ : ∃ sp : Nat → Sp, sp = ofList [det (.pointer (some ⟨ga, 0, none⟩)), det (.float .f64 a1), det (.pointer (some ⟨gb, 0, none⟩)), det (.float .f64 b1), det (.float .f64 r1), det (.pointer (some ⟨ga, 1, none⟩)), det (.float .f64 a2), det (.pointer (some ⟨gb, 1, none⟩)), det (.float .f64 b2), det (.float .f64 r2), det (.agg #[.float .f64 r1, .float .f64 r2])] := ⟨_, rfl⟩
  have HSP := Lib.hid hsp
  clear hsp
  refine wp_region_loose 11 S sp (by kernel_rfl) (by kernel_rfl) hS1 hSE ?_
  simp only [List.take_succ_cons, List.take_zero, List.drop_succ_cons, List.drop_zero]
  iterate 4
    refine wpX_step (fun K hK => ?_)
    go_simp
    first
    | (refine ⟨by rw [HSP.out]; rfl, hK _ _ ?_⟩
       clear hK K)
    | (refine StepY.det (by rw [HSP.out]; rfl) ?_ ?_
       · intro wz hz hF
         rw [HS.out] at hz
         have hf := hz.facts
         simp only [BF, CF, Nat.zero_add, Nat.reduceAdd, and_true] at hf
         clear hz hF
         go_simp
         exact ⟨rfl, Ext.refl _⟩
       refine hK _ _ ?_
       clear hK K)
  refine wpX_step (fun K hK => ?_)
  go_simp
  refine StepY.det (by rw [HSP.out]; rfl) ?_ ?_
  · intro wz hz hF
    clear hz hF
    go_simp
    go_at_call 21
    refine (HA1.out _).mono ?_
    rintro e w2 ⟨rfl, hE1⟩
    exact ⟨_, rfl, rfl, hE1⟩
  refine hK _ _ ?_
  clear hK K
  iterate 4
    refine wpX_step (fun K hK => ?_)
    go_simp
    first
    | (refine ⟨by rw [HSP.out]; rfl, hK _ _ ?_⟩
       clear hK K)
    | (refine StepY.det (by rw [HSP.out]; rfl) ?_ ?_
       · intro wz hz hF
         rw [HS.out] at hz
         have hf := hz.facts
         simp only [BF, CF, Nat.zero_add, Nat.reduceAdd, and_true] at hf
         clear hz hF
         go_simp
         exact ⟨rfl, Ext.refl _⟩
       refine hK _ _ ?_
       clear hK K)
  refine wpX_step (fun K hK => ?_)
  go_simp
  refine StepY.det (by rw [HSP.out]; rfl) ?_ ?_
  · intro wz hz hF
    clear hz hF
    go_simp
    go_at_call 21
    refine (HA2.out _).mono ?_
    rintro e w2 ⟨rfl, hE1⟩
    exact ⟨_, rfl, rfl, hE1⟩
  refine hK _ _ ?_
  clear hK K
  refine wpX_step (fun K hK => ?_)
  go_simp
  first
  | (refine ⟨by rw [HSP.out]; rfl, hK _ _ ?_⟩
     clear hK K)
  | (refine StepY.det (by rw [HSP.out]; rfl) ?_ ?_
     · intro wz hz hF
       clear hz hF
       go_simp
       exact ⟨rfl, Ext.refl _⟩
     refine hK _ _ ?_
     clear hK K)
  refine wpX_nil ?_
  intro w1 hz hF
  clear hF hS1
  rw [HS.out] at hz
  have hO := hz
  have hf : True := trivial
  clear hz hSE HS HSP S sp
  go_wp2_with (first | ((with_reducible refine at_store (T := 52) ?_); refine own_store (T := 52) hO 0 rfl rfl rfl size_iv rfl rfl rfl ?_; clear hO; intro w1 hO; simp only [List.set_cons_zero, List.set_cons_succ, spl, List.take_succ_cons, List.take_zero, List.nil_append, List.cons_append, List.length_cons, List.length_nil, List.drop_succ_cons, List.drop_zero, List.drop_nil, Nat.reduceAdd, Nat.zero_add, List.append_nil] at hO; clear hf; have hf := hO.cells; simp only [BC, CC, Nat.zero_add, Nat.reduceAdd, and_true] at hf))
  exact own_ret hO 0 rfl rfl rfl agg_iv size_iv rfl ⟨rfl, hO.toExt⟩
end Go.Proofs.Ytmcfflecaklpcaa

/-
  The contracts of the document's bounds: the bound of a pattern, its negative. Conditions: those that each theorem names.
-/
namespace Go.Proofs.Ytmcfflecaklpcaa
open Go.RowKit Nm Rn
set_option maxRecDepth 100000
set_option linter.unusedVariables false
set_option linter.unusedSimpArgs false

/-- Not a word. -/
def notU : Value → Bool
  | .int .u32 _ => false
  | _ => true
def NoU (cs : Array Value) : Prop := ∀ (i : Nat) (x : Int), cs[i]? ≠ some (Value.int .u32 x)
theorem NoU.of {cs : Array Value} (h : cs.toList.all notU = true) : NoU cs := by
  intro i x hx
  have h1 : (Value.int .u32 x) ∈ cs.toList := by
    rw [← Array.getElem?_toList] at hx
    exact List.mem_of_getElem? hx
  have := List.all_eq_true.1 h _ h1
  simp [notU] at this
theorem NoU.set {cs : Array Value} (h : NoU cs) (i : Nat) {u : Value} (hu : notU u = true) : NoU (cs.setIfInBounds i u) := by
  intro j x hj
  rw [Array.getElem?_setIfInBounds] at hj
  split at hj
  · split at hj
    · injection hj with hj; subst hj; simp [notU] at hu
    · cases hj
  · exact h j x hj
section
variable {w w' : World} {g : Nat} {t : TypeId} {cs : Array Value}
theorem Wds.set_u {A : Option Addr} {n c : Nat} {xs : List Nat} (h : Wds w A n c xs) (hb : Blk w g t cs) (hcs : NoU cs) (i : Nat) (u : Value) : Wds (w.setCell ⟨g, i, none⟩ u) A n c xs := by
  refine ⟨h.1, h.2.1, h.2.2.1, h.2.2.2.1, fun hn => ?_⟩
  obtain ⟨ad, e, hlt, hc⟩ := h.2.2.2.2 hn
  have hne : ad.block ≠ g := by
    intro hg
    have hx1 : 0 < xs.length := by have := h.1; omega
    have h1 := hc 0 _ (List.getElem?_eq_getElem hx1)
    have h2 : w.heap[(ad.add 0).block]? = some (.cells cs t (0, 0)) := by rw [block_of_add, hg]; exact hb
    unfold World.cell? at h1
    rw [h2] at h1
    simp only at h1
    split at h1
    · cases h1
    · exact hcs _ _ h1
  refine ⟨ad, e, by simpa [World.setCell] using hlt, fun k x hk => ?_⟩
  rw [← hc k x hk]
  exact World.cell?_of_block (Below.heap_setCell w ⟨g, i, none⟩ u _ (by rw [block_of_add]; exact hne))
/-- A ratio's naturals, beside a block of the call's own that is written. -/
structure RatBox (w : World) (g : Nat) (t : TypeId) (cs : Array Value) (A : Option Addr) (l c : Nat) (B : Option Addr) (k d N D : Nat) : Prop where
  rat : RatAt w A l c B k d N D
  blk : Blk w g t cs
  nou : NoU cs
theorem RatBox.set {A : Option Addr} {l c : Nat} {B : Option Addr} {k d N D : Nat} (h : RatBox w g t cs A l c B k d N D) (i : Nat) {u : Value} (hu : notU u = true) : RatBox (w.setCell ⟨g, i, none⟩ u) g t (cs.setIfInBounds i u) A l c B k d N D :=
  ⟨⟨h.rat.1.set_u h.blk h.nou i u, h.rat.2.set_u h.blk h.nou i u⟩, h.blk.set_ i u, h.nou.set i hu⟩
theorem RatBox.set4 {A : Option Addr} {l c : Nat} {B : Option Addr} {k d N D : Nat} (h : RatBox w g t cs A l c B k d N D) {u0 u1 u2 u3 : Value} (h0 : notU u0 = true) (h1 : notU u1 = true) (h2 : notU u2 = true) (h3 : notU u3 = true) :
    RatBox ((((w.setCell ⟨g, 0, none⟩ u0).setCell ⟨g, 1, none⟩ u1).setCell ⟨g, 2, none⟩ u2).setCell ⟨g, 3, none⟩ u3) g t ((((cs.setIfInBounds 0 u0).setIfInBounds 1 u1).setIfInBounds 2 u2).setIfInBounds 3 u3) A l c B k d N D := (((h.set 0 h0).set 1 h1).set 2 h2).set 3 h3
end

/-- What is answered: a bound. -/
def RetEnd (i : Int) (neg : Bool) (N D : Nat) (w : World) (e : Ending) (w' : World) : Prop :=
  ∃ A l c B k d, e = .returned (.agg #[.int .i64 i, .bool neg, .slice A l c, .slice B k d]) ∧ RatAt w' A l c B k d N D ∧ Ext w w'

/-- The bound of a pattern that is no NaN and no -0. -/
def bI (x : Nat) : Int := if x = infR then 1 else if x = minf then -1 else 0
def bNeg (x : Nat) : Bool := if x = infR then false else if x = minf then false else (sg x && decide (mg x ≠ 0))
def bN (x : Nat) : Nat := if x = infR then fracN 0 1 0 else if x = minf then fracN 0 1 0 else fbN x
def bD (x : Nat) : Nat := if x = infR then fracD 0 1 0 else if x = minf then fracD 0 1 0 else fbD x

set_option maxHeartbeats 2000000 in
theorem bound_any (x : Nat) (w : World) (hx : x < 18446744073709551616) (hp : plN x = x) :
    Calls Try.prog 119 #[.int .u64 (x : Int)] w (RetEnd (bI x) (bNeg x) (bN x) (bD x) w) := by
  have hint := fun w => int_any 0 w (by omega)
  have hfb := fun w => frombits_any x w hx
  have hpl := fun w => plain3_any x w hx
  rw [hp] at hpl
  have HINT := Lib.hid hint
  have HPL := Lib.hid hpl
  by_cases h1 : x = infR
  · have e1 : ((x : Int) == 9218868437227405312) = true := by rw [beq_iff_eq, h1, infR_val]; rfl
    rw [show bI x = 1 by unfold bI; rw [if_pos h1], show bNeg x = false by unfold bNeg; rw [if_pos h1], show bN x = fracN 0 1 0 by unfold bN; rw [if_pos h1], show bD x = fracD 0 1 0 by unfold bD; rw [if_pos h1]]
    obtain ⟨N, hN⟩ : ∃ N, N = fracN 0 1 0 := ⟨_, rfl⟩
    obtain ⟨D, hD⟩ : ∃ D, D = fracD 0 1 0 := ⟨_, rfl⟩
    rw [← hN, ← hD]
    have HI2 := Lib.hid (fun w => hN ▸ hD ▸ HINT.out w)
    clear hint hfb hpl hp h1 hN hD HINT HPL hx
    go_enter Try.func119, Try.ntmps119
    go_wp2_with fail
    refine (HI2.out _).mono ?_
    rintro e w2 ⟨A2, n2, c2, A3, n3, c3, rfl, hr1, hr2, hE⟩
    have hblk := (Blk.new w 96 #[.int .i64 0, .bool false, .slice none 0 0, .slice none 0 0]).ext hE
    have hEw := ((Ext.refl w).alloc (.cells #[.int .i64 0, .bool false, .slice none 0 0, .slice none 0 0] 96)).trans hE
    obtain ⟨G, hG⟩ : ∃ G, G = w.heap.size := ⟨_, rfl⟩
    rw [← hG] at hblk
    rw [← hG]
    have hGw : w.heap.size ≤ G := by omega
    have hGl := hblk.lt
    have q0 : w2.cell? ⟨G, 0, none⟩ = some (.int .i64 0) := hblk.cell 0
    have q1 : w2.cell? ⟨G, 1, none⟩ = some (.bool false) := hblk.cell 1
    have q2 : w2.cell? ⟨G, 2, none⟩ = some (.slice none 0 0) := hblk.cell 2
    have q3 : w2.cell? ⟨G, 3, none⟩ = some (.slice none 0 0) := hblk.cell 3
    have f0 := hblk.frozen 0
    have f1 := hblk.frozen 1
    have f2 := hblk.frozen 2
    have f3 := hblk.frozen 3
    have HB := Lib.hid (RatBox.mk (N := N) (D := D) ⟨hr1, hr2⟩ hblk (NoU.of rfl))
    clear hG hr1 hr2 hblk
    go_wp2
    exact bodyPost_ret (v := .agg #[.int .i64 1, .bool false, .slice A2 n2 c2, .slice A3 n3 c3]) (by simp [results, Try.results119, go_sem, hGl, q0, q1, q2, q3]) rfl
      ⟨_, _, _, _, _, _, rfl, (HB.out.set4 rfl rfl rfl rfl).rat, (hEw.set3 hGw _ _ _).setCell (by show w.heap.size ≤ G; omega) _⟩
  · have e1 : ((x : Int) == 9218868437227405312) = false := by rw [beq_eq_false_iff_ne]; rw [infR_val] at h1; omega
    by_cases h2 : x = minf
    · have e2 : ((x : Int) == 18442240474082181120) = true := by rw [beq_iff_eq, h2, minf_val]; rfl
      rw [show bI x = -1 by unfold bI; rw [if_neg h1, if_pos h2], show bNeg x = false by unfold bNeg; rw [if_neg h1, if_pos h2], show bN x = fracN 0 1 0 by unfold bN; rw [if_neg h1, if_pos h2], show bD x = fracD 0 1 0 by unfold bD; rw [if_neg h1, if_pos h2]]
      obtain ⟨N, hN⟩ : ∃ N, N = fracN 0 1 0 := ⟨_, rfl⟩
      obtain ⟨D, hD⟩ : ∃ D, D = fracD 0 1 0 := ⟨_, rfl⟩
      rw [← hN, ← hD]
      have HI2 := Lib.hid (fun w => hN ▸ hD ▸ HINT.out w)
      clear hint hfb hpl hp h1 h2 hN hD HINT HPL hx
      go_enter Try.func119, Try.ntmps119
      go_wp2_with fail
      refine (HI2.out _).mono ?_
      rintro e w2 ⟨A2, n2, c2, A3, n3, c3, rfl, hr1, hr2, hE⟩
      have hblk := (Blk.new w 96 #[.int .i64 0, .bool false, .slice none 0 0, .slice none 0 0]).ext hE
      have hEw := ((Ext.refl w).alloc (.cells #[.int .i64 0, .bool false, .slice none 0 0, .slice none 0 0] 96)).trans hE
      obtain ⟨G, hG⟩ : ∃ G, G = w.heap.size := ⟨_, rfl⟩
      rw [← hG] at hblk
      rw [← hG]
      have hGw : w.heap.size ≤ G := by omega
      have hGl := hblk.lt
      have q0 : w2.cell? ⟨G, 0, none⟩ = some (.int .i64 0) := hblk.cell 0
      have q1 : w2.cell? ⟨G, 1, none⟩ = some (.bool false) := hblk.cell 1
      have q2 : w2.cell? ⟨G, 2, none⟩ = some (.slice none 0 0) := hblk.cell 2
      have q3 : w2.cell? ⟨G, 3, none⟩ = some (.slice none 0 0) := hblk.cell 3
      have f0 := hblk.frozen 0
      have f1 := hblk.frozen 1
      have f2 := hblk.frozen 2
      have f3 := hblk.frozen 3
      have HB := Lib.hid (RatBox.mk (N := N) (D := D) ⟨hr1, hr2⟩ hblk (NoU.of rfl))
      clear hG hr1 hr2 hblk
      go_wp2
      exact bodyPost_ret (v := .agg #[.int .i64 (-1), .bool false, .slice A2 n2 c2, .slice A3 n3 c3]) (by simp [results, Try.results119, go_sem, hGl, q0, q1, q2, q3]) rfl
        ⟨_, _, _, _, _, _, rfl, (HB.out.set4 rfl rfl rfl rfl).rat, (hEw.set3 hGw _ _ _).setCell (by show w.heap.size ≤ G; omega) _⟩
    · have e2 : ((x : Int) == 18442240474082181120) = false := by rw [beq_eq_false_iff_ne]; rw [minf_val] at h2; omega
      rw [show bI x = 0 by unfold bI; rw [if_neg h1, if_neg h2], show bNeg x = (sg x && decide (mg x ≠ 0)) by unfold bNeg; rw [if_neg h1, if_neg h2], show bN x = fbN x by unfold bN; rw [if_neg h1, if_neg h2], show bD x = fbD x by unfold bD; rw [if_neg h1, if_neg h2]]
      obtain ⟨N, hN⟩ : ∃ N, N = fbN x := ⟨_, rfl⟩
      obtain ⟨D, hD⟩ : ∃ D, D = fbD x := ⟨_, rfl⟩
      obtain ⟨z, hz⟩ : ∃ z, z = (sg x && decide (mg x ≠ 0)) := ⟨_, rfl⟩
      rw [← hN, ← hD, ← hz] at hfb ⊢
      have HFB := Lib.hid hfb
      clear hint hfb hpl hp h1 h2 hN hD hz HINT hx
      go_enter Try.func119, Try.ntmps119
      go_wp2_with fail
      refine (HPL.out _).mono ?_
      rintro e w1 ⟨rfl, rfl⟩
      go_wp2_with fail
      refine (HFB.out _).mono ?_
      rintro e w2 ⟨A2, n2, c2, A3, n3, c3, rfl, hr1, hr2, hE⟩
      have hblk := (Blk.new w 96 #[.int .i64 0, .bool false, .slice none 0 0, .slice none 0 0]).ext hE
      have hEw := ((Ext.refl w).alloc (.cells #[.int .i64 0, .bool false, .slice none 0 0, .slice none 0 0] 96)).trans hE
      obtain ⟨G, hG⟩ : ∃ G, G = w.heap.size := ⟨_, rfl⟩
      rw [← hG] at hblk
      rw [← hG]
      have hGw : w.heap.size ≤ G := by omega
      have hGl := hblk.lt
      have q0 : w2.cell? ⟨G, 0, none⟩ = some (.int .i64 0) := hblk.cell 0
      have q1 : w2.cell? ⟨G, 1, none⟩ = some (.bool false) := hblk.cell 1
      have q2 : w2.cell? ⟨G, 2, none⟩ = some (.slice none 0 0) := hblk.cell 2
      have q3 : w2.cell? ⟨G, 3, none⟩ = some (.slice none 0 0) := hblk.cell 3
      have f0 := hblk.frozen 0
      have f1 := hblk.frozen 1
      have f2 := hblk.frozen 2
      have f3 := hblk.frozen 3
      have HB := Lib.hid (RatBox.mk (N := N) (D := D) ⟨hr1, hr2⟩ hblk (NoU.of rfl))
      clear hG hr1 hr2 hblk
      go_wp2
      exact bodyPost_ret (v := .agg #[.int .i64 0, .bool z, .slice A2 n2 c2, .slice A3 n3 c3]) (by simp [results, Try.results119, go_sem, hGl, q0, q1, q2, q3]) rfl
        ⟨_, _, _, _, _, _, rfl, (HB.out.set4 rfl rfl rfl rfl).rat, (hEw.set3 hGw _ _ _).setCell (by show w.heap.size ≤ G; omega) _⟩
end Go.Proofs.Ytmcfflecaklpcaa

/-
  The contracts of the document's bounds, second part: the negative of a bound. Conditions: those that each theorem names.
-/
namespace Go.Proofs.Ytmcfflecaklpcaa
open Go.RowKit Nm Rn
set_option maxRecDepth 100000
set_option linter.unusedVariables false
set_option linter.unusedSimpArgs false

theorem Ext.set4 {w0 w : World} {g : Nat} (h : Ext w0 w) (hg : w0.heap.size ≤ g) (u0 u1 u2 u3 : Value) : Ext w0 ((((w.setCell ⟨g, 0, none⟩ u0).setCell ⟨g, 1, none⟩ u1).setCell ⟨g, 2, none⟩ u2).setCell ⟨g, 3, none⟩ u3) :=
  (h.set3 hg u0 u1 u2).setCell (by show w0.heap.size ≤ g; omega) _

end Go.Proofs.Ytmcfflecaklpcaa
