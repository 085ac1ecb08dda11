/-
  Chapter 7's law package: hull and within. Conditions: those that each theorem names.
-/
import Derived.Test.YtadijoeeaineaaaDoorG25
import Derived.Deep.CutRange
import Derived.Test.YtadijoeeaineaaaDoorG12
import Derived.Test.YtadijoeeaineaaaDoorG13
import Derived.Test.YtadijoeeaineaaaDoorG06
namespace Go.Proofs.YtadijoeeaineaaaDoor
open Go.RowKit Nm Rn
set_option maxRecDepth 100000
set_option linter.unusedVariables false
set_option linter.unusedSimpArgs false

theorem neqI (a b c d : Int) (w : World) : (binOp .neq 53 (.agg #[.int .u64 a, .int .u64 b]) (.agg #[.int .u64 c, .int .u64 d])).run Tryd.prog w = .ok (.bool (!(a == c && b == d))) w := by
  cases h1 : (a == c) <;> cases h2 : (b == d) <;> go_simp <;> simp [h1, h2]
theorem neqI' {a b c d : Int} {E : Bool} (h : (!(a == c && b == d)) = E) (w : World) : (binOp .neq 53 (.agg #[.int .u64 a, .int .u64 b]) (.agg #[.int .u64 c, .int .u64 d])).run Tryd.prog w = .ok (.bool E) w := by rw [neqI, h]
theorem zero_I7 (w : World) : (zeroValue 53).run Tryd.prog w = .ok (.agg #[.int .u64 0, .int .u64 0]) w := by kernel_rfl
theorem agg_I7 (w : World) : (isAgg 53).run Tryd.prog w = .ok true w := by kernel_rfl
theorem size_I7 (w : World) : (sizeOf 53).run Tryd.prog w = .ok 2 w := by kernel_rfl
theorem size_u64 (w : World) : (sizeOf 22).run Tryd.prog w = .ok 1 w := by kernel_rfl

set_option maxHeartbeats 4000000 in
theorem hull_x (x1 x2 y1 y2 a1 a2 b1 b2 e1 e2 : Nat) (w : World) (HR1 : Hid (∀ w, Calls Tryd.prog 32 #[.agg #[.int .u64 (x1 : Int), .int .u64 (x2 : Int)]] w (RetI a1 a2 w))) (HR2 : Hid (∀ w, Calls Tryd.prog 32 #[.agg #[.int .u64 (y1 : Int), .int .u64 (y2 : Int)]] w (RetI b1 b2 w))) (HEM : Hid (∀ w, Calls Tryd.prog 34 #[] w (RetI e1 e2 w))) (q1 : ∀ w, (binOp .eql 53 (.agg #[.int .u64 (a1 : Int), .int .u64 (a2 : Int)]) (.agg #[.int .u64 (e1 : Int), .int .u64 (e2 : Int)])).run Tryd.prog w = .ok (.bool true) w) :
    Calls Tryd.prog 54 #[.agg #[.int .u64 (x1 : Int), .int .u64 (x2 : Int)], .agg #[.int .u64 (y1 : Int), .int .u64 (y2 : Int)]] w (RetI b1 b2 w) := by
  have hO := Own.start w
  have hf : True := trivial
  go_enter Tryd.func54, Tryd.ntmps54
  go_wp2_with (first | ((with_reducible refine at_box ?_); refine own_box (cs := [.int .u64 (x1 : Int), .int .u64 (x2 : Int)]) hO rfl rfl ?_; clear hO; intro gx wa hO; clear hf; have hf := hO.cells; simp only [BC, CC, Nat.zero_add, Nat.reduceAdd, and_true] at hf) | ((with_reducible refine at_box ?_); refine own_box (cs := [.int .u64 (y1 : Int), .int .u64 (y2 : Int)]) hO rfl rfl ?_; clear hO; intro gy wb hO; clear hf; have hf := hO.cells; simp only [BC, CC, Nat.zero_add, Nat.reduceAdd, and_true] at hf) | ((with_reducible refine at_alloc ?_); refine own_alloc hO zero_I7 rfl rfl ?_; clear hO; intro g wc hO; clear hf; have hf := hO.cells; simp only [BC, CC, Nat.zero_add, Nat.reduceAdd, and_true] at hf))
  refine (HR1.out _).mono ?_
  rintro e w3 ⟨rfl, hE1⟩
  have hO := hO.ext hE1
  clear hE1
  clear hf
  have hf := hO.cells
  simp only [BC, CC, Nat.zero_add, Nat.reduceAdd, and_true] at hf
  go_wp2_with ((with_reducible refine at_store (T := 53) ?_); refine own_store (T := 53) hO 2 rfl rfl rfl size_I7 rfl rfl rfl ?_; clear hO; intro w4 hO; simp only [List.set_cons_zero, List.set_cons_succ, spl, List.take_succ_cons, List.take_zero, List.nil_append, List.cons_append, List.length_cons, List.length_nil, List.drop_succ_cons, List.drop_zero, List.drop_nil, Nat.reduceAdd, Nat.zero_add, List.append_nil] at hO; clear hf; have hf := hO.cells; simp only [BC, CC, Nat.zero_add, Nat.reduceAdd, and_true] at hf)
  refine (HR2.out _).mono ?_
  rintro e w5 ⟨rfl, hE1⟩
  have hO := hO.ext hE1
  clear hE1
  clear hf
  have hf := hO.cells
  simp only [BC, CC, Nat.zero_add, Nat.reduceAdd, and_true] at hf
  go_upto_region 3 with ((with_reducible refine at_store (T := 53) ?_); refine own_store (T := 53) hO 1 rfl rfl rfl size_I7 rfl rfl rfl ?_; clear hO; intro w6 hO; simp only [List.set_cons_zero, List.set_cons_succ, spl, List.take_succ_cons, List.take_zero, List.nil_append, List.cons_append, List.length_cons, List.length_nil, List.drop_succ_cons, List.drop_zero, List.drop_nil, Nat.reduceAdd, Nat.zero_add, List.append_nil] at hO; clear hf; have hf := hO.cells; simp only [BC, CC, Nat.zero_add, Nat.reduceAdd, and_true] at hf)
  obtain ⟨S, hS⟩ : ∃ S : World → Prop, S = Own w [⟨g, 53, [.int .u64 (0 : Int), .int .u64 (0 : Int)]⟩, ⟨gy, 53, [.int .u64 (b1 : Int), .int .u64 (b2 : Int)]⟩, ⟨gx, 53, [.int .u64 (a1 : Int), .int .u64 (a2 : Int)]⟩] [] := ⟨_, rfl⟩
  have hSE : ∀ w w', S w → Ext w w' → S w' := fun w w' h1 h2 => by rw [hS] at h1 ⊢; exact h1.ext h2
  have hS1 : S w6.drew := by rw [hS]; exact hO.ext (Ext.refl w6).drew
  have HS := Lib.hid hS
  clear hS hO hf
  obtain ⟨sp, hsp⟩ : ∃ sp : Nat → Sp, sp = ofList [det (.agg #[.int .u64 (a1 : Int), .int .u64 (a2 : Int)]), det (.agg #[.int .u64 (e1 : Int), .int .u64 (e2 : Int)])] := ⟨_, rfl⟩
  have HSP := Lib.hid hsp
  clear hsp
  refine wp_region_loose 2 S sp (by kernel_rfl) (by kernel_rfl) hS1 hSE ?_
  simp only [List.take_succ_cons, List.take_zero, List.drop_succ_cons, List.drop_zero]
  refine wpX_step (fun K hK => ?_)
  go_simp
  refine StepY.det (by rw [HSP.out]; rfl) ?_ ?_
  · intro wz hz hF
    rw [HS.out] at hz
    have hf := hz.cells
    simp only [BC, CC, Nat.zero_add, Nat.reduceAdd, and_true] at hf
    clear hz hF
    go_simp
    exact ⟨rfl, Ext.refl _⟩
  refine hK _ _ ?_
  clear hK K
  refine wpX_step (fun K hK => ?_)
  go_simp
  refine StepY.det (by rw [HSP.out]; rfl) ?_ ?_
  · intro wz hz hF
    clear hz hF
    go_simp
    refine (HEM.out _).mono ?_
    rintro e w2 ⟨rfl, hE1⟩
    exact ⟨_, rfl, rfl, hE1⟩
  refine hK _ _ ?_
  clear hK K
  refine wpX_nil ?_
  intro wq hz hF
  clear hF
  rw [HS.out] at hz
  have hO := hz
  clear hz HS HSP
  have hf := hO.cells
  simp only [BC, CC, Nat.zero_add, Nat.reduceAdd, and_true] at hf
  go_wp2_with ((with_reducible refine at_store (T := 53) ?_); refine own_store (T := 53) hO 0 rfl rfl rfl size_I7 rfl rfl rfl ?_; clear hO; intro w8 hO; simp only [List.set_cons_zero, List.set_cons_succ, spl, List.take_succ_cons, List.take_zero, List.nil_append, List.cons_append, List.length_cons, List.length_nil, List.drop_succ_cons, List.drop_zero, List.drop_nil, Nat.reduceAdd, Nat.zero_add, List.append_nil] at hO; clear hf; have hf := hO.cells; simp only [BC, CC, Nat.zero_add, Nat.reduceAdd, and_true] at hf)
  exact own_ret hO 0 rfl rfl rfl agg_I7 size_I7 rfl ⟨rfl, hO.toExt⟩

set_option maxHeartbeats 4000000 in
theorem hull_y (x1 x2 y1 y2 a1 a2 b1 b2 e1 e2 : Nat) (w : World) (HR1 : Hid (∀ w, Calls Tryd.prog 32 #[.agg #[.int .u64 (x1 : Int), .int .u64 (x2 : Int)]] w (RetI a1 a2 w))) (HR2 : Hid (∀ w, Calls Tryd.prog 32 #[.agg #[.int .u64 (y1 : Int), .int .u64 (y2 : Int)]] w (RetI b1 b2 w))) (HEM : Hid (∀ w, Calls Tryd.prog 34 #[] w (RetI e1 e2 w))) (q1 : ∀ w, (binOp .eql 53 (.agg #[.int .u64 (a1 : Int), .int .u64 (a2 : Int)]) (.agg #[.int .u64 (e1 : Int), .int .u64 (e2 : Int)])).run Tryd.prog w = .ok (.bool false) w) (q2 : ∀ w, (binOp .eql 53 (.agg #[.int .u64 (b1 : Int), .int .u64 (b2 : Int)]) (.agg #[.int .u64 (e1 : Int), .int .u64 (e2 : Int)])).run Tryd.prog w = .ok (.bool true) w) :
    Calls Tryd.prog 54 #[.agg #[.int .u64 (x1 : Int), .int .u64 (x2 : Int)], .agg #[.int .u64 (y1 : Int), .int .u64 (y2 : Int)]] w (RetI a1 a2 w) := by
  have hO := Own.start w
  have hf : True := trivial
  go_enter Tryd.func54, Tryd.ntmps54
  go_wp2_with (first | ((with_reducible refine at_box ?_); refine own_box (cs := [.int .u64 (x1 : Int), .int .u64 (x2 : Int)]) hO rfl rfl ?_; clear hO; intro gx wa hO; clear hf; have hf := hO.cells; simp only [BC, CC, Nat.zero_add, Nat.reduceAdd, and_true] at hf) | ((with_reducible refine at_box ?_); refine own_box (cs := [.int .u64 (y1 : Int), .int .u64 (y2 : Int)]) hO rfl rfl ?_; clear hO; intro gy wb hO; clear hf; have hf := hO.cells; simp only [BC, CC, Nat.zero_add, Nat.reduceAdd, and_true] at hf) | ((with_reducible refine at_alloc ?_); refine own_alloc hO zero_I7 rfl rfl ?_; clear hO; intro g wc hO; clear hf; have hf := hO.cells; simp only [BC, CC, Nat.zero_add, Nat.reduceAdd, and_true] at hf))
  refine (HR1.out _).mono ?_
  rintro e w3 ⟨rfl, hE1⟩
  have hO := hO.ext hE1
  clear hE1
  clear hf
  have hf := hO.cells
  simp only [BC, CC, Nat.zero_add, Nat.reduceAdd, and_true] at hf
  go_wp2_with ((with_reducible refine at_store (T := 53) ?_); refine own_store (T := 53) hO 2 rfl rfl rfl size_I7 rfl rfl rfl ?_; clear hO; intro w4 hO; simp only [List.set_cons_zero, List.set_cons_succ, spl, List.take_succ_cons, List.take_zero, List.nil_append, List.cons_append, List.length_cons, List.length_nil, List.drop_succ_cons, List.drop_zero, List.drop_nil, Nat.reduceAdd, Nat.zero_add, List.append_nil] at hO; clear hf; have hf := hO.cells; simp only [BC, CC, Nat.zero_add, Nat.reduceAdd, and_true] at hf)
  refine (HR2.out _).mono ?_
  rintro e w5 ⟨rfl, hE1⟩
  have hO := hO.ext hE1
  clear hE1
  clear hf
  have hf := hO.cells
  simp only [BC, CC, Nat.zero_add, Nat.reduceAdd, and_true] at hf
  go_upto_region 3 with ((with_reducible refine at_store (T := 53) ?_); refine own_store (T := 53) hO 1 rfl rfl rfl size_I7 rfl rfl rfl ?_; clear hO; intro w6 hO; simp only [List.set_cons_zero, List.set_cons_succ, spl, List.take_succ_cons, List.take_zero, List.nil_append, List.cons_append, List.length_cons, List.length_nil, List.drop_succ_cons, List.drop_zero, List.drop_nil, Nat.reduceAdd, Nat.zero_add, List.append_nil] at hO; clear hf; have hf := hO.cells; simp only [BC, CC, Nat.zero_add, Nat.reduceAdd, and_true] at hf)
  obtain ⟨S, hS⟩ : ∃ S : World → Prop, S = Own w [⟨g, 53, [.int .u64 (0 : Int), .int .u64 (0 : Int)]⟩, ⟨gy, 53, [.int .u64 (b1 : Int), .int .u64 (b2 : Int)]⟩, ⟨gx, 53, [.int .u64 (a1 : Int), .int .u64 (a2 : Int)]⟩] [] := ⟨_, rfl⟩
  have hSE : ∀ w w', S w → Ext w w' → S w' := fun w w' h1 h2 => by rw [hS] at h1 ⊢; exact h1.ext h2
  have hS1 : S w6.drew := by rw [hS]; exact hO.ext (Ext.refl w6).drew
  have HS := Lib.hid hS
  clear hS hO hf
  obtain ⟨sp, hsp⟩ : ∃ sp : Nat → Sp, sp = ofList [det (.agg #[.int .u64 (a1 : Int), .int .u64 (a2 : Int)]), det (.agg #[.int .u64 (e1 : Int), .int .u64 (e2 : Int)])] := ⟨_, rfl⟩
  have HSP := Lib.hid hsp
  clear hsp
  refine wp_region_loose 2 S sp (by kernel_rfl) (by kernel_rfl) hS1 hSE ?_
  simp only [List.take_succ_cons, List.take_zero, List.drop_succ_cons, List.drop_zero]
  refine wpX_step (fun K hK => ?_)
  go_simp
  refine StepY.det (by rw [HSP.out]; rfl) ?_ ?_
  · intro wz hz hF
    rw [HS.out] at hz
    have hf := hz.cells
    simp only [BC, CC, Nat.zero_add, Nat.reduceAdd, and_true] at hf
    clear hz hF
    go_simp
    exact ⟨rfl, Ext.refl _⟩
  refine hK _ _ ?_
  clear hK K
  refine wpX_step (fun K hK => ?_)
  go_simp
  refine StepY.det (by rw [HSP.out]; rfl) ?_ ?_
  · intro wz hz hF
    clear hz hF
    go_simp
    refine (HEM.out _).mono ?_
    rintro e w2 ⟨rfl, hE1⟩
    exact ⟨_, rfl, rfl, hE1⟩
  refine hK _ _ ?_
  clear hK K
  refine wpX_nil ?_
  intro wq hz hF
  clear hF
  rw [HS.out] at hz
  have hO := hz
  clear hz HS HSP
  have hf := hO.cells
  simp only [BC, CC, Nat.zero_add, Nat.reduceAdd, and_true] at hf
  go_upto_region 5 with fail
  obtain ⟨S, hS⟩ : ∃ S : World → Prop, S = Own w [⟨g, 53, [.int .u64 (0 : Int), .int .u64 (0 : Int)]⟩, ⟨gy, 53, [.int .u64 (b1 : Int), .int .u64 (b2 : Int)]⟩, ⟨gx, 53, [.int .u64 (a1 : Int), .int .u64 (a2 : Int)]⟩] [] := ⟨_, rfl⟩
  have hSE : ∀ w w', S w → Ext w w' → S w' := fun w w' h1 h2 => by rw [hS] at h1 ⊢; exact h1.ext h2
  have hS1 : S wq.drew := by rw [hS]; exact hO.ext (Ext.refl wq).drew
  have HS := Lib.hid hS
  clear hS hO hf
  obtain ⟨sp, hsp⟩ : ∃ sp : Nat → Sp, sp = ofList [det (.agg #[.int .u64 (b1 : Int), .int .u64 (b2 : Int)]), det (.agg #[.int .u64 (e1 : Int), .int .u64 (e2 : Int)])] := ⟨_, rfl⟩
  have HSP := Lib.hid hsp
  clear hsp
  refine wp_region_loose 2 S sp (by kernel_rfl) (by kernel_rfl) hS1 hSE ?_
  simp only [List.take_succ_cons, List.take_zero, List.drop_succ_cons, List.drop_zero]
  refine wpX_step (fun K hK => ?_)
  go_simp
  refine StepY.det (by rw [HSP.out]; rfl) ?_ ?_
  · intro wz hz hF
    rw [HS.out] at hz
    have hf := hz.cells
    simp only [BC, CC, Nat.zero_add, Nat.reduceAdd, and_true] at hf
    clear hz hF
    go_simp
    exact ⟨rfl, Ext.refl _⟩
  refine hK _ _ ?_
  clear hK K
  refine wpX_step (fun K hK => ?_)
  go_simp
  refine StepY.det (by rw [HSP.out]; rfl) ?_ ?_
  · intro wz hz hF
    clear hz hF
    go_simp
    refine (HEM.out _).mono ?_
    rintro e w2 ⟨rfl, hE1⟩
    exact ⟨_, rfl, rfl, hE1⟩
  refine hK _ _ ?_
  clear hK K
  refine wpX_nil ?_
  intro wq hz hF
  clear hF
  rw [HS.out] at hz
  have hO := hz
  clear hz HS HSP
  have hf := hO.cells
  simp only [BC, CC, Nat.zero_add, Nat.reduceAdd, and_true] at hf
  go_wp2_with ((with_reducible refine at_store (T := 53) ?_); refine own_store (T := 53) hO 0 rfl rfl rfl size_I7 rfl rfl rfl ?_; clear hO; intro w8 hO; simp only [List.set_cons_zero, List.set_cons_succ, spl, List.take_succ_cons, List.take_zero, List.nil_append, List.cons_append, List.length_cons, List.length_nil, List.drop_succ_cons, List.drop_zero, List.drop_nil, Nat.reduceAdd, Nat.zero_add, List.append_nil] at hO; clear hf; have hf := hO.cells; simp only [BC, CC, Nat.zero_add, Nat.reduceAdd, and_true] at hf)
  exact own_ret hO 0 rfl rfl rfl agg_I7 size_I7 rfl ⟨rfl, hO.toExt⟩

set_option maxHeartbeats 4000000 in
theorem hull_tt (x1 x2 y1 y2 a1 a2 b1 b2 e1 e2 : Nat) (w : World) (HR1 : Hid (∀ w, Calls Tryd.prog 32 #[.agg #[.int .u64 (x1 : Int), .int .u64 (x2 : Int)]] w (RetI a1 a2 w))) (HR2 : Hid (∀ w, Calls Tryd.prog 32 #[.agg #[.int .u64 (y1 : Int), .int .u64 (y2 : Int)]] w (RetI b1 b2 w))) (HEM : Hid (∀ w, Calls Tryd.prog 34 #[] w (RetI e1 e2 w))) (q1 : ∀ w, (binOp .eql 53 (.agg #[.int .u64 (a1 : Int), .int .u64 (a2 : Int)]) (.agg #[.int .u64 (e1 : Int), .int .u64 (e2 : Int)])).run Tryd.prog w = .ok (.bool false) w) (q2 : ∀ w, (binOp .eql 53 (.agg #[.int .u64 (b1 : Int), .int .u64 (b2 : Int)]) (.agg #[.int .u64 (e1 : Int), .int .u64 (e2 : Int)])).run Tryd.prog w = .ok (.bool false) w) (HA1 : Hid (∀ w, Calls Tryd.prog 35 #[.int .u64 (a1 : Int), .int .u64 (b1 : Int)] w fun e w' => e = .returned (.bool true) ∧ w = w')) (HA2 : Hid (∀ w, Calls Tryd.prog 35 #[.int .u64 (b2 : Int), .int .u64 (a2 : Int)] w fun e w' => e = .returned (.bool true) ∧ w = w')) :
    Calls Tryd.prog 54 #[.agg #[.int .u64 (x1 : Int), .int .u64 (x2 : Int)], .agg #[.int .u64 (y1 : Int), .int .u64 (y2 : Int)]] w (RetI b1 b2 w) := by
  have hO := Own.start w
  have hf : True := trivial
  go_enter Tryd.func54, Tryd.ntmps54
  go_wp2_with (first | ((with_reducible refine at_box ?_); refine own_box (cs := [.int .u64 (x1 : Int), .int .u64 (x2 : Int)]) hO rfl rfl ?_; clear hO; intro gx wa hO; clear hf; have hf := hO.cells; simp only [BC, CC, Nat.zero_add, Nat.reduceAdd, and_true] at hf) | ((with_reducible refine at_box ?_); refine own_box (cs := [.int .u64 (y1 : Int), .int .u64 (y2 : Int)]) hO rfl rfl ?_; clear hO; intro gy wb hO; clear hf; have hf := hO.cells; simp only [BC, CC, Nat.zero_add, Nat.reduceAdd, and_true] at hf) | ((with_reducible refine at_alloc ?_); refine own_alloc hO zero_I7 rfl rfl ?_; clear hO; intro g wc hO; clear hf; have hf := hO.cells; simp only [BC, CC, Nat.zero_add, Nat.reduceAdd, and_true] at hf))
  refine (HR1.out _).mono ?_
  rintro e w3 ⟨rfl, hE1⟩
  have hO := hO.ext hE1
  clear hE1
  clear hf
  have hf := hO.cells
  simp only [BC, CC, Nat.zero_add, Nat.reduceAdd, and_true] at hf
  go_wp2_with ((with_reducible refine at_store (T := 53) ?_); refine own_store (T := 53) hO 2 rfl rfl rfl size_I7 rfl rfl rfl ?_; clear hO; intro w4 hO; simp only [List.set_cons_zero, List.set_cons_succ, spl, List.take_succ_cons, List.take_zero, List.nil_append, List.cons_append, List.length_cons, List.length_nil, List.drop_succ_cons, List.drop_zero, List.drop_nil, Nat.reduceAdd, Nat.zero_add, List.append_nil] at hO; clear hf; have hf := hO.cells; simp only [BC, CC, Nat.zero_add, Nat.reduceAdd, and_true] at hf)
  refine (HR2.out _).mono ?_
  rintro e w5 ⟨rfl, hE1⟩
  have hO := hO.ext hE1
  clear hE1
  clear hf
  have hf := hO.cells
  simp only [BC, CC, Nat.zero_add, Nat.reduceAdd, and_true] at hf
  go_upto_region 3 with ((with_reducible refine at_store (T := 53) ?_); refine own_store (T := 53) hO 1 rfl rfl rfl size_I7 rfl rfl rfl ?_; clear hO; intro w6 hO; simp only [List.set_cons_zero, List.set_cons_succ, spl, List.take_succ_cons, List.take_zero, List.nil_append, List.cons_append, List.length_cons, List.length_nil, List.drop_succ_cons, List.drop_zero, List.drop_nil, Nat.reduceAdd, Nat.zero_add, List.append_nil] at hO; clear hf; have hf := hO.cells; simp only [BC, CC, Nat.zero_add, Nat.reduceAdd, and_true] at hf)
  obtain ⟨S, hS⟩ : ∃ S : World → Prop, S = Own w [⟨g, 53, [.int .u64 (0 : Int), .int .u64 (0 : Int)]⟩, ⟨gy, 53, [.int .u64 (b1 : Int), .int .u64 (b2 : Int)]⟩, ⟨gx, 53, [.int .u64 (a1 : Int), .int .u64 (a2 : Int)]⟩] [] := ⟨_, rfl⟩
  have hSE : ∀ w w', S w → Ext w w' → S w' := fun w w' h1 h2 => by rw [hS] at h1 ⊢; exact h1.ext h2
  have hS1 : S w6.drew := by rw [hS]; exact hO.ext (Ext.refl w6).drew
  have HS := Lib.hid hS
  clear hS hO hf
  obtain ⟨sp, hsp⟩ : ∃ sp : Nat → Sp, sp = ofList [det (.agg #[.int .u64 (a1 : Int), .int .u64 (a2 : Int)]), det (.agg #[.int .u64 (e1 : Int), .int .u64 (e2 : Int)])] := ⟨_, rfl⟩
  have HSP := Lib.hid hsp
  clear hsp
  refine wp_region_loose 2 S sp (by kernel_rfl) (by kernel_rfl) hS1 hSE ?_
  simp only [List.take_succ_cons, List.take_zero, List.drop_succ_cons, List.drop_zero]
  refine wpX_step (fun K hK => ?_)
  go_simp
  refine StepY.det (by rw [HSP.out]; rfl) ?_ ?_
  · intro wz hz hF
    rw [HS.out] at hz
    have hf := hz.cells
    simp only [BC, CC, Nat.zero_add, Nat.reduceAdd, and_true] at hf
    clear hz hF
    go_simp
    exact ⟨rfl, Ext.refl _⟩
  refine hK _ _ ?_
  clear hK K
  refine wpX_step (fun K hK => ?_)
  go_simp
  refine StepY.det (by rw [HSP.out]; rfl) ?_ ?_
  · intro wz hz hF
    clear hz hF
    go_simp
    refine (HEM.out _).mono ?_
    rintro e w2 ⟨rfl, hE1⟩
    exact ⟨_, rfl, rfl, hE1⟩
  refine hK _ _ ?_
  clear hK K
  refine wpX_nil ?_
  intro wq hz hF
  clear hF
  rw [HS.out] at hz
  have hO := hz
  clear hz HS HSP
  have hf := hO.cells
  simp only [BC, CC, Nat.zero_add, Nat.reduceAdd, and_true] at hf
  go_upto_region 5 with fail
  obtain ⟨S, hS⟩ : ∃ S : World → Prop, S = Own w [⟨g, 53, [.int .u64 (0 : Int), .int .u64 (0 : Int)]⟩, ⟨gy, 53, [.int .u64 (b1 : Int), .int .u64 (b2 : Int)]⟩, ⟨gx, 53, [.int .u64 (a1 : Int), .int .u64 (a2 : Int)]⟩] [] := ⟨_, rfl⟩
  have hSE : ∀ w w', S w → Ext w w' → S w' := fun w w' h1 h2 => by rw [hS] at h1 ⊢; exact h1.ext h2
  have hS1 : S wq.drew := by rw [hS]; exact hO.ext (Ext.refl wq).drew
  have HS := Lib.hid hS
  clear hS hO hf
  obtain ⟨sp, hsp⟩ : ∃ sp : Nat → Sp, sp = ofList [det (.agg #[.int .u64 (b1 : Int), .int .u64 (b2 : Int)]), det (.agg #[.int .u64 (e1 : Int), .int .u64 (e2 : Int)])] := ⟨_, rfl⟩
  have HSP := Lib.hid hsp
  clear hsp
  refine wp_region_loose 2 S sp (by kernel_rfl) (by kernel_rfl) hS1 hSE ?_
  simp only [List.take_succ_cons, List.take_zero, List.drop_succ_cons, List.drop_zero]
  refine wpX_step (fun K hK => ?_)
  go_simp
  refine StepY.det (by rw [HSP.out]; rfl) ?_ ?_
  · intro wz hz hF
    rw [HS.out] at hz
    have hf := hz.cells
    simp only [BC, CC, Nat.zero_add, Nat.reduceAdd, and_true] at hf
    clear hz hF
    go_simp
    exact ⟨rfl, Ext.refl _⟩
  refine hK _ _ ?_
  clear hK K
  refine wpX_step (fun K hK => ?_)
  go_simp
  refine StepY.det (by rw [HSP.out]; rfl) ?_ ?_
  · intro wz hz hF
    clear hz hF
    go_simp
    refine (HEM.out _).mono ?_
    rintro e w2 ⟨rfl, hE1⟩
    exact ⟨_, rfl, rfl, hE1⟩
  refine hK _ _ ?_
  clear hK K
  refine wpX_nil ?_
  intro wq hz hF
  clear hF
  rw [HS.out] at hz
  have hO := hz
  clear hz HS HSP
  have hf := hO.cells
  simp only [BC, CC, Nat.zero_add, Nat.reduceAdd, and_true] at hf
  go_wp2_with (first | (go_at_call 35; (with_reducible refine (HA1.out _).mono ?_); rintro e w' ⟨rfl, rfl⟩) | (go_at_call 35; (with_reducible refine (HA2.out _).mono ?_); rintro e w' ⟨rfl, rfl⟩) | ((with_reducible refine at_store (T := 22) ?_); refine own_store (vs := [.int .u64 (b1 : Int)]) (T := 22) hO 2 rfl rfl rfl size_u64 rfl rfl rfl ?_; clear hO; intro w9 hO; simp only [List.set_cons_zero, List.set_cons_succ, spl, List.take_succ_cons, List.take_zero, List.nil_append, List.cons_append, List.length_cons, List.length_nil, List.drop_succ_cons, List.drop_zero, List.drop_nil, Nat.reduceAdd, Nat.zero_add, List.append_nil] at hO; clear hf; have hf := hO.cells; simp only [BC, CC, Nat.zero_add, Nat.reduceAdd, and_true] at hf) | ((with_reducible refine at_store (T := 22) ?_); refine own_store (vs := [.int .u64 (b2 : Int)]) (T := 22) hO 2 rfl rfl rfl size_u64 rfl rfl rfl ?_; clear hO; intro wd hO; simp only [List.set_cons_zero, List.set_cons_succ, spl, List.take_succ_cons, List.take_zero, List.nil_append, List.cons_append, List.length_cons, List.length_nil, List.drop_succ_cons, List.drop_zero, List.drop_nil, Nat.reduceAdd, Nat.zero_add, List.append_nil] at hO; clear hf; have hf := hO.cells; simp only [BC, CC, Nat.zero_add, Nat.reduceAdd, and_true] at hf) | ((with_reducible refine at_store (T := 53) ?_); refine own_store (T := 53) hO 0 rfl rfl rfl size_I7 rfl rfl rfl ?_; clear hO; intro w8 hO; simp only [List.set_cons_zero, List.set_cons_succ, spl, List.take_succ_cons, List.take_zero, List.nil_append, List.cons_append, List.length_cons, List.length_nil, List.drop_succ_cons, List.drop_zero, List.drop_nil, Nat.reduceAdd, Nat.zero_add, List.append_nil] at hO; clear hf; have hf := hO.cells; simp only [BC, CC, Nat.zero_add, Nat.reduceAdd, and_true] at hf))
  exact own_ret hO 0 rfl rfl rfl agg_I7 size_I7 rfl ⟨rfl, hO.toExt⟩

set_option maxHeartbeats 4000000 in
theorem hull_tf (x1 x2 y1 y2 a1 a2 b1 b2 e1 e2 : Nat) (w : World) (HR1 : Hid (∀ w, Calls Tryd.prog 32 #[.agg #[.int .u64 (x1 : Int), .int .u64 (x2 : Int)]] w (RetI a1 a2 w))) (HR2 : Hid (∀ w, Calls Tryd.prog 32 #[.agg #[.int .u64 (y1 : Int), .int .u64 (y2 : Int)]] w (RetI b1 b2 w))) (HEM : Hid (∀ w, Calls Tryd.prog 34 #[] w (RetI e1 e2 w))) (q1 : ∀ w, (binOp .eql 53 (.agg #[.int .u64 (a1 : Int), .int .u64 (a2 : Int)]) (.agg #[.int .u64 (e1 : Int), .int .u64 (e2 : Int)])).run Tryd.prog w = .ok (.bool false) w) (q2 : ∀ w, (binOp .eql 53 (.agg #[.int .u64 (b1 : Int), .int .u64 (b2 : Int)]) (.agg #[.int .u64 (e1 : Int), .int .u64 (e2 : Int)])).run Tryd.prog w = .ok (.bool false) w) (HA1 : Hid (∀ w, Calls Tryd.prog 35 #[.int .u64 (a1 : Int), .int .u64 (b1 : Int)] w fun e w' => e = .returned (.bool true) ∧ w = w')) (HA2 : Hid (∀ w, Calls Tryd.prog 35 #[.int .u64 (b2 : Int), .int .u64 (a2 : Int)] w fun e w' => e = .returned (.bool false) ∧ w = w')) :
    Calls Tryd.prog 54 #[.agg #[.int .u64 (x1 : Int), .int .u64 (x2 : Int)], .agg #[.int .u64 (y1 : Int), .int .u64 (y2 : Int)]] w (RetI b1 a2 w) := by
  have hO := Own.start w
  have hf : True := trivial
  go_enter Tryd.func54, Tryd.ntmps54
  go_wp2_with (first | ((with_reducible refine at_box ?_); refine own_box (cs := [.int .u64 (x1 : Int), .int .u64 (x2 : Int)]) hO rfl rfl ?_; clear hO; intro gx wa hO; clear hf; have hf := hO.cells; simp only [BC, CC, Nat.zero_add, Nat.reduceAdd, and_true] at hf) | ((with_reducible refine at_box ?_); refine own_box (cs := [.int .u64 (y1 : Int), .int .u64 (y2 : Int)]) hO rfl rfl ?_; clear hO; intro gy wb hO; clear hf; have hf := hO.cells; simp only [BC, CC, Nat.zero_add, Nat.reduceAdd, and_true] at hf) | ((with_reducible refine at_alloc ?_); refine own_alloc hO zero_I7 rfl rfl ?_; clear hO; intro g wc hO; clear hf; have hf := hO.cells; simp only [BC, CC, Nat.zero_add, Nat.reduceAdd, and_true] at hf))
  refine (HR1.out _).mono ?_
  rintro e w3 ⟨rfl, hE1⟩
  have hO := hO.ext hE1
  clear hE1
  clear hf
  have hf := hO.cells
  simp only [BC, CC, Nat.zero_add, Nat.reduceAdd, and_true] at hf
  go_wp2_with ((with_reducible refine at_store (T := 53) ?_); refine own_store (T := 53) hO 2 rfl rfl rfl size_I7 rfl rfl rfl ?_; clear hO; intro w4 hO; simp only [List.set_cons_zero, List.set_cons_succ, spl, List.take_succ_cons, List.take_zero, List.nil_append, List.cons_append, List.length_cons, List.length_nil, List.drop_succ_cons, List.drop_zero, List.drop_nil, Nat.reduceAdd, Nat.zero_add, List.append_nil] at hO; clear hf; have hf := hO.cells; simp only [BC, CC, Nat.zero_add, Nat.reduceAdd, and_true] at hf)
  refine (HR2.out _).mono ?_
  rintro e w5 ⟨rfl, hE1⟩
  have hO := hO.ext hE1
  clear hE1
  clear hf
  have hf := hO.cells
  simp only [BC, CC, Nat.zero_add, Nat.reduceAdd, and_true] at hf
  go_upto_region 3 with ((with_reducible refine at_store (T := 53) ?_); refine own_store (T := 53) hO 1 rfl rfl rfl size_I7 rfl rfl rfl ?_; clear hO; intro w6 hO; simp only [List.set_cons_zero, List.set_cons_succ, spl, List.take_succ_cons, List.take_zero, List.nil_append, List.cons_append, List.length_cons, List.length_nil, List.drop_succ_cons, List.drop_zero, List.drop_nil, Nat.reduceAdd, Nat.zero_add, List.append_nil] at hO; clear hf; have hf := hO.cells; simp only [BC, CC, Nat.zero_add, Nat.reduceAdd, and_true] at hf)
  obtain ⟨S, hS⟩ : ∃ S : World → Prop, S = Own w [⟨g, 53, [.int .u64 (0 : Int), .int .u64 (0 : Int)]⟩, ⟨gy, 53, [.int .u64 (b1 : Int), .int .u64 (b2 : Int)]⟩, ⟨gx, 53, [.int .u64 (a1 : Int), .int .u64 (a2 : Int)]⟩] [] := ⟨_, rfl⟩
  have hSE : ∀ w w', S w → Ext w w' → S w' := fun w w' h1 h2 => by rw [hS] at h1 ⊢; exact h1.ext h2
  have hS1 : S w6.drew := by rw [hS]; exact hO.ext (Ext.refl w6).drew
  have HS := Lib.hid hS
  clear hS hO hf
  obtain ⟨sp, hsp⟩ : ∃ sp : Nat → Sp, sp = ofList [det (.agg #[.int .u64 (a1 : Int), .int .u64 (a2 : Int)]), det (.agg #[.int .u64 (e1 : Int), .int .u64 (e2 : Int)])] := ⟨_, rfl⟩
  have HSP := Lib.hid hsp
  clear hsp
  refine wp_region_loose 2 S sp (by kernel_rfl) (by kernel_rfl) hS1 hSE ?_
  simp only [List.take_succ_cons, List.take_zero, List.drop_succ_cons, List.drop_zero]
  refine wpX_step (fun K hK => ?_)
  go_simp
  refine StepY.det (by rw [HSP.out]; rfl) ?_ ?_
  · intro wz hz hF
    rw [HS.out] at hz
    have hf := hz.cells
    simp only [BC, CC, Nat.zero_add, Nat.reduceAdd, and_true] at hf
    clear hz hF
    go_simp
    exact ⟨rfl, Ext.refl _⟩
  refine hK _ _ ?_
  clear hK K
  refine wpX_step (fun K hK => ?_)
  go_simp
  refine StepY.det (by rw [HSP.out]; rfl) ?_ ?_
  · intro wz hz hF
    clear hz hF
    go_simp
    refine (HEM.out _).mono ?_
    rintro e w2 ⟨rfl, hE1⟩
    exact ⟨_, rfl, rfl, hE1⟩
  refine hK _ _ ?_
  clear hK K
  refine wpX_nil ?_
  intro wq hz hF
  clear hF
  rw [HS.out] at hz
  have hO := hz
  clear hz HS HSP
  have hf := hO.cells
  simp only [BC, CC, Nat.zero_add, Nat.reduceAdd, and_true] at hf
  go_upto_region 5 with fail
  obtain ⟨S, hS⟩ : ∃ S : World → Prop, S = Own w [⟨g, 53, [.int .u64 (0 : Int), .int .u64 (0 : Int)]⟩, ⟨gy, 53, [.int .u64 (b1 : Int), .int .u64 (b2 : Int)]⟩, ⟨gx, 53, [.int .u64 (a1 : Int), .int .u64 (a2 : Int)]⟩] [] := ⟨_, rfl⟩
  have hSE : ∀ w w', S w → Ext w w' → S w' := fun w w' h1 h2 => by rw [hS] at h1 ⊢; exact h1.ext h2
  have hS1 : S wq.drew := by rw [hS]; exact hO.ext (Ext.refl wq).drew
  have HS := Lib.hid hS
  clear hS hO hf
  obtain ⟨sp, hsp⟩ : ∃ sp : Nat → Sp, sp = ofList [det (.agg #[.int .u64 (b1 : Int), .int .u64 (b2 : Int)]), det (.agg #[.int .u64 (e1 : Int), .int .u64 (e2 : Int)])] := ⟨_, rfl⟩
  have HSP := Lib.hid hsp
  clear hsp
  refine wp_region_loose 2 S sp (by kernel_rfl) (by kernel_rfl) hS1 hSE ?_
  simp only [List.take_succ_cons, List.take_zero, List.drop_succ_cons, List.drop_zero]
  refine wpX_step (fun K hK => ?_)
  go_simp
  refine StepY.det (by rw [HSP.out]; rfl) ?_ ?_
  · intro wz hz hF
    rw [HS.out] at hz
    have hf := hz.cells
    simp only [BC, CC, Nat.zero_add, Nat.reduceAdd, and_true] at hf
    clear hz hF
    go_simp
    exact ⟨rfl, Ext.refl _⟩
  refine hK _ _ ?_
  clear hK K
  refine wpX_step (fun K hK => ?_)
  go_simp
  refine StepY.det (by rw [HSP.out]; rfl) ?_ ?_
  · intro wz hz hF
    clear hz hF
    go_simp
    refine (HEM.out _).mono ?_
    rintro e w2 ⟨rfl, hE1⟩
    exact ⟨_, rfl, rfl, hE1⟩
  refine hK _ _ ?_
  clear hK K
  refine wpX_nil ?_
  intro wq hz hF
  clear hF
  rw [HS.out] at hz
  have hO := hz
  clear hz HS HSP
  have hf := hO.cells
  simp only [BC, CC, Nat.zero_add, Nat.reduceAdd, and_true] at hf
  go_wp2_with (first | (go_at_call 35; (with_reducible refine (HA1.out _).mono ?_); rintro e w' ⟨rfl, rfl⟩) | (go_at_call 35; (with_reducible refine (HA2.out _).mono ?_); rintro e w' ⟨rfl, rfl⟩) | ((with_reducible refine at_store (T := 22) ?_); refine own_store (vs := [.int .u64 (b1 : Int)]) (T := 22) hO 2 rfl rfl rfl size_u64 rfl rfl rfl ?_; clear hO; intro w9 hO; simp only [List.set_cons_zero, List.set_cons_succ, spl, List.take_succ_cons, List.take_zero, List.nil_append, List.cons_append, List.length_cons, List.length_nil, List.drop_succ_cons, List.drop_zero, List.drop_nil, Nat.reduceAdd, Nat.zero_add, List.append_nil] at hO; clear hf; have hf := hO.cells; simp only [BC, CC, Nat.zero_add, Nat.reduceAdd, and_true] at hf) | ((with_reducible refine at_store (T := 22) ?_); refine own_store (vs := [.int .u64 (b2 : Int)]) (T := 22) hO 2 rfl rfl rfl size_u64 rfl rfl rfl ?_; clear hO; intro wd hO; simp only [List.set_cons_zero, List.set_cons_succ, spl, List.take_succ_cons, List.take_zero, List.nil_append, List.cons_append, List.length_cons, List.length_nil, List.drop_succ_cons, List.drop_zero, List.drop_nil, Nat.reduceAdd, Nat.zero_add, List.append_nil] at hO; clear hf; have hf := hO.cells; simp only [BC, CC, Nat.zero_add, Nat.reduceAdd, and_true] at hf) | ((with_reducible refine at_store (T := 53) ?_); refine own_store (T := 53) hO 0 rfl rfl rfl size_I7 rfl rfl rfl ?_; clear hO; intro w8 hO; simp only [List.set_cons_zero, List.set_cons_succ, spl, List.take_succ_cons, List.take_zero, List.nil_append, List.cons_append, List.length_cons, List.length_nil, List.drop_succ_cons, List.drop_zero, List.drop_nil, Nat.reduceAdd, Nat.zero_add, List.append_nil] at hO; clear hf; have hf := hO.cells; simp only [BC, CC, Nat.zero_add, Nat.reduceAdd, and_true] at hf))
  exact own_ret hO 0 rfl rfl rfl agg_I7 size_I7 rfl ⟨rfl, hO.toExt⟩

set_option maxHeartbeats 4000000 in
theorem hull_ft (x1 x2 y1 y2 a1 a2 b1 b2 e1 e2 : Nat) (w : World) (HR1 : Hid (∀ w, Calls Tryd.prog 32 #[.agg #[.int .u64 (x1 : Int), .int .u64 (x2 : Int)]] w (RetI a1 a2 w))) (HR2 : Hid (∀ w, Calls Tryd.prog 32 #[.agg #[.int .u64 (y1 : Int), .int .u64 (y2 : Int)]] w (RetI b1 b2 w))) (HEM : Hid (∀ w, Calls Tryd.prog 34 #[] w (RetI e1 e2 w))) (q1 : ∀ w, (binOp .eql 53 (.agg #[.int .u64 (a1 : Int), .int .u64 (a2 : Int)]) (.agg #[.int .u64 (e1 : Int), .int .u64 (e2 : Int)])).run Tryd.prog w = .ok (.bool false) w) (q2 : ∀ w, (binOp .eql 53 (.agg #[.int .u64 (b1 : Int), .int .u64 (b2 : Int)]) (.agg #[.int .u64 (e1 : Int), .int .u64 (e2 : Int)])).run Tryd.prog w = .ok (.bool false) w) (HA1 : Hid (∀ w, Calls Tryd.prog 35 #[.int .u64 (a1 : Int), .int .u64 (b1 : Int)] w fun e w' => e = .returned (.bool false) ∧ w = w')) (HA2 : Hid (∀ w, Calls Tryd.prog 35 #[.int .u64 (b2 : Int), .int .u64 (a2 : Int)] w fun e w' => e = .returned (.bool true) ∧ w = w')) :
    Calls Tryd.prog 54 #[.agg #[.int .u64 (x1 : Int), .int .u64 (x2 : Int)], .agg #[.int .u64 (y1 : Int), .int .u64 (y2 : Int)]] w (RetI a1 b2 w) := by
  have hO := Own.start w
  have hf : True := trivial
  go_enter Tryd.func54, Tryd.ntmps54
  go_wp2_with (first | ((with_reducible refine at_box ?_); refine own_box (cs := [.int .u64 (x1 : Int), .int .u64 (x2 : Int)]) hO rfl rfl ?_; clear hO; intro gx wa hO; clear hf; have hf := hO.cells; simp only [BC, CC, Nat.zero_add, Nat.reduceAdd, and_true] at hf) | ((with_reducible refine at_box ?_); refine own_box (cs := [.int .u64 (y1 : Int), .int .u64 (y2 : Int)]) hO rfl rfl ?_; clear hO; intro gy wb hO; clear hf; have hf := hO.cells; simp only [BC, CC, Nat.zero_add, Nat.reduceAdd, and_true] at hf) | ((with_reducible refine at_alloc ?_); refine own_alloc hO zero_I7 rfl rfl ?_; clear hO; intro g wc hO; clear hf; have hf := hO.cells; simp only [BC, CC, Nat.zero_add, Nat.reduceAdd, and_true] at hf))
  refine (HR1.out _).mono ?_
  rintro e w3 ⟨rfl, hE1⟩
  have hO := hO.ext hE1
  clear hE1
  clear hf
  have hf := hO.cells
  simp only [BC, CC, Nat.zero_add, Nat.reduceAdd, and_true] at hf
  go_wp2_with ((with_reducible refine at_store (T := 53) ?_); refine own_store (T := 53) hO 2 rfl rfl rfl size_I7 rfl rfl rfl ?_; clear hO; intro w4 hO; simp only [List.set_cons_zero, List.set_cons_succ, spl, List.take_succ_cons, List.take_zero, List.nil_append, List.cons_append, List.length_cons, List.length_nil, List.drop_succ_cons, List.drop_zero, List.drop_nil, Nat.reduceAdd, Nat.zero_add, List.append_nil] at hO; clear hf; have hf := hO.cells; simp only [BC, CC, Nat.zero_add, Nat.reduceAdd, and_true] at hf)
  refine (HR2.out _).mono ?_
  rintro e w5 ⟨rfl, hE1⟩
  have hO := hO.ext hE1
  clear hE1
  clear hf
  have hf := hO.cells
  simp only [BC, CC, Nat.zero_add, Nat.reduceAdd, and_true] at hf
  go_upto_region 3 with ((with_reducible refine at_store (T := 53) ?_); refine own_store (T := 53) hO 1 rfl rfl rfl size_I7 rfl rfl rfl ?_; clear hO; intro w6 hO; simp only [List.set_cons_zero, List.set_cons_succ, spl, List.take_succ_cons, List.take_zero, List.nil_append, List.cons_append, List.length_cons, List.length_nil, List.drop_succ_cons, List.drop_zero, List.drop_nil, Nat.reduceAdd, Nat.zero_add, List.append_nil] at hO; clear hf; have hf := hO.cells; simp only [BC, CC, Nat.zero_add, Nat.reduceAdd, and_true] at hf)
  obtain ⟨S, hS⟩ : ∃ S : World → Prop, S = Own w [⟨g, 53, [.int .u64 (0 : Int), .int .u64 (0 : Int)]⟩, ⟨gy, 53, [.int .u64 (b1 : Int), .int .u64 (b2 : Int)]⟩, ⟨gx, 53, [.int .u64 (a1 : Int), .int .u64 (a2 : Int)]⟩] [] := ⟨_, rfl⟩
  have hSE : ∀ w w', S w → Ext w w' → S w' := fun w w' h1 h2 => by rw [hS] at h1 ⊢; exact h1.ext h2
  have hS1 : S w6.drew := by rw [hS]; exact hO.ext (Ext.refl w6).drew
  have HS := Lib.hid hS
  clear hS hO hf
  obtain ⟨sp, hsp⟩ : ∃ sp : Nat → Sp, sp = ofList [det (.agg #[.int .u64 (a1 : Int), .int .u64 (a2 : Int)]), det (.agg #[.int .u64 (e1 : Int), .int .u64 (e2 : Int)])] := ⟨_, rfl⟩
  have HSP := Lib.hid hsp
  clear hsp
  refine wp_region_loose 2 S sp (by kernel_rfl) (by kernel_rfl) hS1 hSE ?_
  simp only [List.take_succ_cons, List.take_zero, List.drop_succ_cons, List.drop_zero]
  refine wpX_step (fun K hK => ?_)
  go_simp
  refine StepY.det (by rw [HSP.out]; rfl) ?_ ?_
  · intro wz hz hF
    rw [HS.out] at hz
    have hf := hz.cells
    simp only [BC, CC, Nat.zero_add, Nat.reduceAdd, and_true] at hf
    clear hz hF
    go_simp
    exact ⟨rfl, Ext.refl _⟩
  refine hK _ _ ?_
  clear hK K
  refine wpX_step (fun K hK => ?_)
  go_simp
  refine StepY.det (by rw [HSP.out]; rfl) ?_ ?_
  · intro wz hz hF
    clear hz hF
    go_simp
    refine (HEM.out _).mono ?_
    rintro e w2 ⟨rfl, hE1⟩
    exact ⟨_, rfl, rfl, hE1⟩
  refine hK _ _ ?_
  clear hK K
  refine wpX_nil ?_
  intro wq hz hF
  clear hF
  rw [HS.out] at hz
  have hO := hz
  clear hz HS HSP
  have hf := hO.cells
  simp only [BC, CC, Nat.zero_add, Nat.reduceAdd, and_true] at hf
  go_upto_region 5 with fail
  obtain ⟨S, hS⟩ : ∃ S : World → Prop, S = Own w [⟨g, 53, [.int .u64 (0 : Int), .int .u64 (0 : Int)]⟩, ⟨gy, 53, [.int .u64 (b1 : Int), .int .u64 (b2 : Int)]⟩, ⟨gx, 53, [.int .u64 (a1 : Int), .int .u64 (a2 : Int)]⟩] [] := ⟨_, rfl⟩
  have hSE : ∀ w w', S w → Ext w w' → S w' := fun w w' h1 h2 => by rw [hS] at h1 ⊢; exact h1.ext h2
  have hS1 : S wq.drew := by rw [hS]; exact hO.ext (Ext.refl wq).drew
  have HS := Lib.hid hS
  clear hS hO hf
  obtain ⟨sp, hsp⟩ : ∃ sp : Nat → Sp, sp = ofList [det (.agg #[.int .u64 (b1 : Int), .int .u64 (b2 : Int)]), det (.agg #[.int .u64 (e1 : Int), .int .u64 (e2 : Int)])] := ⟨_, rfl⟩
  have HSP := Lib.hid hsp
  clear hsp
  refine wp_region_loose 2 S sp (by kernel_rfl) (by kernel_rfl) hS1 hSE ?_
  simp only [List.take_succ_cons, List.take_zero, List.drop_succ_cons, List.drop_zero]
  refine wpX_step (fun K hK => ?_)
  go_simp
  refine StepY.det (by rw [HSP.out]; rfl) ?_ ?_
  · intro wz hz hF
    rw [HS.out] at hz
    have hf := hz.cells
    simp only [BC, CC, Nat.zero_add, Nat.reduceAdd, and_true] at hf
    clear hz hF
    go_simp
    exact ⟨rfl, Ext.refl _⟩
  refine hK _ _ ?_
  clear hK K
  refine wpX_step (fun K hK => ?_)
  go_simp
  refine StepY.det (by rw [HSP.out]; rfl) ?_ ?_
  · intro wz hz hF
    clear hz hF
    go_simp
    refine (HEM.out _).mono ?_
    rintro e w2 ⟨rfl, hE1⟩
    exact ⟨_, rfl, rfl, hE1⟩
  refine hK _ _ ?_
  clear hK K
  refine wpX_nil ?_
  intro wq hz hF
  clear hF
  rw [HS.out] at hz
  have hO := hz
  clear hz HS HSP
  have hf := hO.cells
  simp only [BC, CC, Nat.zero_add, Nat.reduceAdd, and_true] at hf
  go_wp2_with (first | (go_at_call 35; (with_reducible refine (HA1.out _).mono ?_); rintro e w' ⟨rfl, rfl⟩) | (go_at_call 35; (with_reducible refine (HA2.out _).mono ?_); rintro e w' ⟨rfl, rfl⟩) | ((with_reducible refine at_store (T := 22) ?_); refine own_store (vs := [.int .u64 (b1 : Int)]) (T := 22) hO 2 rfl rfl rfl size_u64 rfl rfl rfl ?_; clear hO; intro w9 hO; simp only [List.set_cons_zero, List.set_cons_succ, spl, List.take_succ_cons, List.take_zero, List.nil_append, List.cons_append, List.length_cons, List.length_nil, List.drop_succ_cons, List.drop_zero, List.drop_nil, Nat.reduceAdd, Nat.zero_add, List.append_nil] at hO; clear hf; have hf := hO.cells; simp only [BC, CC, Nat.zero_add, Nat.reduceAdd, and_true] at hf) | ((with_reducible refine at_store (T := 22) ?_); refine own_store (vs := [.int .u64 (b2 : Int)]) (T := 22) hO 2 rfl rfl rfl size_u64 rfl rfl rfl ?_; clear hO; intro wd hO; simp only [List.set_cons_zero, List.set_cons_succ, spl, List.take_succ_cons, List.take_zero, List.nil_append, List.cons_append, List.length_cons, List.length_nil, List.drop_succ_cons, List.drop_zero, List.drop_nil, Nat.reduceAdd, Nat.zero_add, List.append_nil] at hO; clear hf; have hf := hO.cells; simp only [BC, CC, Nat.zero_add, Nat.reduceAdd, and_true] at hf) | ((with_reducible refine at_store (T := 53) ?_); refine own_store (T := 53) hO 0 rfl rfl rfl size_I7 rfl rfl rfl ?_; clear hO; intro w8 hO; simp only [List.set_cons_zero, List.set_cons_succ, spl, List.take_succ_cons, List.take_zero, List.nil_append, List.cons_append, List.length_cons, List.length_nil, List.drop_succ_cons, List.drop_zero, List.drop_nil, Nat.reduceAdd, Nat.zero_add, List.append_nil] at hO; clear hf; have hf := hO.cells; simp only [BC, CC, Nat.zero_add, Nat.reduceAdd, and_true] at hf))
  exact own_ret hO 0 rfl rfl rfl agg_I7 size_I7 rfl ⟨rfl, hO.toExt⟩

set_option maxHeartbeats 4000000 in
theorem hull_ff (x1 x2 y1 y2 a1 a2 b1 b2 e1 e2 : Nat) (w : World) (HR1 : Hid (∀ w, Calls Tryd.prog 32 #[.agg #[.int .u64 (x1 : Int), .int .u64 (x2 : Int)]] w (RetI a1 a2 w))) (HR2 : Hid (∀ w, Calls Tryd.prog 32 #[.agg #[.int .u64 (y1 : Int), .int .u64 (y2 : Int)]] w (RetI b1 b2 w))) (HEM : Hid (∀ w, Calls Tryd.prog 34 #[] w (RetI e1 e2 w))) (q1 : ∀ w, (binOp .eql 53 (.agg #[.int .u64 (a1 : Int), .int .u64 (a2 : Int)]) (.agg #[.int .u64 (e1 : Int), .int .u64 (e2 : Int)])).run Tryd.prog w = .ok (.bool false) w) (q2 : ∀ w, (binOp .eql 53 (.agg #[.int .u64 (b1 : Int), .int .u64 (b2 : Int)]) (.agg #[.int .u64 (e1 : Int), .int .u64 (e2 : Int)])).run Tryd.prog w = .ok (.bool false) w) (HA1 : Hid (∀ w, Calls Tryd.prog 35 #[.int .u64 (a1 : Int), .int .u64 (b1 : Int)] w fun e w' => e = .returned (.bool false) ∧ w = w')) (HA2 : Hid (∀ w, Calls Tryd.prog 35 #[.int .u64 (b2 : Int), .int .u64 (a2 : Int)] w fun e w' => e = .returned (.bool false) ∧ w = w')) :
    Calls Tryd.prog 54 #[.agg #[.int .u64 (x1 : Int), .int .u64 (x2 : Int)], .agg #[.int .u64 (y1 : Int), .int .u64 (y2 : Int)]] w (RetI a1 a2 w) := by
  have hO := Own.start w
  have hf : True := trivial
  go_enter Tryd.func54, Tryd.ntmps54
  go_wp2_with (first | ((with_reducible refine at_box ?_); refine own_box (cs := [.int .u64 (x1 : Int), .int .u64 (x2 : Int)]) hO rfl rfl ?_; clear hO; intro gx wa hO; clear hf; have hf := hO.cells; simp only [BC, CC, Nat.zero_add, Nat.reduceAdd, and_true] at hf) | ((with_reducible refine at_box ?_); refine own_box (cs := [.int .u64 (y1 : Int), .int .u64 (y2 : Int)]) hO rfl rfl ?_; clear hO; intro gy wb hO; clear hf; have hf := hO.cells; simp only [BC, CC, Nat.zero_add, Nat.reduceAdd, and_true] at hf) | ((with_reducible refine at_alloc ?_); refine own_alloc hO zero_I7 rfl rfl ?_; clear hO; intro g wc hO; clear hf; have hf := hO.cells; simp only [BC, CC, Nat.zero_add, Nat.reduceAdd, and_true] at hf))
  refine (HR1.out _).mono ?_
  rintro e w3 ⟨rfl, hE1⟩
  have hO := hO.ext hE1
  clear hE1
  clear hf
  have hf := hO.cells
  simp only [BC, CC, Nat.zero_add, Nat.reduceAdd, and_true] at hf
  go_wp2_with ((with_reducible refine at_store (T := 53) ?_); refine own_store (T := 53) hO 2 rfl rfl rfl size_I7 rfl rfl rfl ?_; clear hO; intro w4 hO; simp only [List.set_cons_zero, List.set_cons_succ, spl, List.take_succ_cons, List.take_zero, List.nil_append, List.cons_append, List.length_cons, List.length_nil, List.drop_succ_cons, List.drop_zero, List.drop_nil, Nat.reduceAdd, Nat.zero_add, List.append_nil] at hO; clear hf; have hf := hO.cells; simp only [BC, CC, Nat.zero_add, Nat.reduceAdd, and_true] at hf)
  refine (HR2.out _).mono ?_
  rintro e w5 ⟨rfl, hE1⟩
  have hO := hO.ext hE1
  clear hE1
  clear hf
  have hf := hO.cells
  simp only [BC, CC, Nat.zero_add, Nat.reduceAdd, and_true] at hf
  go_upto_region 3 with ((with_reducible refine at_store (T := 53) ?_); refine own_store (T := 53) hO 1 rfl rfl rfl size_I7 rfl rfl rfl ?_; clear hO; intro w6 hO; simp only [List.set_cons_zero, List.set_cons_succ, spl, List.take_succ_cons, List.take_zero, List.nil_append, List.cons_append, List.length_cons, List.length_nil, List.drop_succ_cons, List.drop_zero, List.drop_nil, Nat.reduceAdd, Nat.zero_add, List.append_nil] at hO; clear hf; have hf := hO.cells; simp only [BC, CC, Nat.zero_add, Nat.reduceAdd, and_true] at hf)
  obtain ⟨S, hS⟩ : ∃ S : World → Prop, S = Own w [⟨g, 53, [.int .u64 (0 : Int), .int .u64 (0 : Int)]⟩, ⟨gy, 53, [.int .u64 (b1 : Int), .int .u64 (b2 : Int)]⟩, ⟨gx, 53, [.int .u64 (a1 : Int), .int .u64 (a2 : Int)]⟩] [] := ⟨_, rfl⟩
  have hSE : ∀ w w', S w → Ext w w' → S w' := fun w w' h1 h2 => by rw [hS] at h1 ⊢; exact h1.ext h2
  have hS1 : S w6.drew := by rw [hS]; exact hO.ext (Ext.refl w6).drew
  have HS := Lib.hid hS
  clear hS hO hf
  obtain ⟨sp, hsp⟩ : ∃ sp : Nat → Sp, sp = ofList [det (.agg #[.int .u64 (a1 : Int), .int .u64 (a2 : Int)]), det (.agg #[.int .u64 (e1 : Int), .int .u64 (e2 : Int)])] := ⟨_, rfl⟩
  have HSP := Lib.hid hsp
  clear hsp
  refine wp_region_loose 2 S sp (by kernel_rfl) (by kernel_rfl) hS1 hSE ?_
  simp only [List.take_succ_cons, List.take_zero, List.drop_succ_cons, List.drop_zero]
  refine wpX_step (fun K hK => ?_)
  go_simp
  refine StepY.det (by rw [HSP.out]; rfl) ?_ ?_
  · intro wz hz hF
    rw [HS.out] at hz
    have hf := hz.cells
    simp only [BC, CC, Nat.zero_add, Nat.reduceAdd, and_true] at hf
    clear hz hF
    go_simp
    exact ⟨rfl, Ext.refl _⟩
  refine hK _ _ ?_
  clear hK K
  refine wpX_step (fun K hK => ?_)
  go_simp
  refine StepY.det (by rw [HSP.out]; rfl) ?_ ?_
  · intro wz hz hF
    clear hz hF
    go_simp
    refine (HEM.out _).mono ?_
    rintro e w2 ⟨rfl, hE1⟩
    exact ⟨_, rfl, rfl, hE1⟩
  refine hK _ _ ?_
  clear hK K
  refine wpX_nil ?_
  intro wq hz hF
  clear hF
  rw [HS.out] at hz
  have hO := hz
  clear hz HS HSP
  have hf := hO.cells
  simp only [BC, CC, Nat.zero_add, Nat.reduceAdd, and_true] at hf
  go_upto_region 5 with fail
  obtain ⟨S, hS⟩ : ∃ S : World → Prop, S = Own w [⟨g, 53, [.int .u64 (0 : Int), .int .u64 (0 : Int)]⟩, ⟨gy, 53, [.int .u64 (b1 : Int), .int .u64 (b2 : Int)]⟩, ⟨gx, 53, [.int .u64 (a1 : Int), .int .u64 (a2 : Int)]⟩] [] := ⟨_, rfl⟩
  have hSE : ∀ w w', S w → Ext w w' → S w' := fun w w' h1 h2 => by rw [hS] at h1 ⊢; exact h1.ext h2
  have hS1 : S wq.drew := by rw [hS]; exact hO.ext (Ext.refl wq).drew
  have HS := Lib.hid hS
  clear hS hO hf
  obtain ⟨sp, hsp⟩ : ∃ sp : Nat → Sp, sp = ofList [det (.agg #[.int .u64 (b1 : Int), .int .u64 (b2 : Int)]), det (.agg #[.int .u64 (e1 : Int), .int .u64 (e2 : Int)])] := ⟨_, rfl⟩
  have HSP := Lib.hid hsp
  clear hsp
  refine wp_region_loose 2 S sp (by kernel_rfl) (by kernel_rfl) hS1 hSE ?_
  simp only [List.take_succ_cons, List.take_zero, List.drop_succ_cons, List.drop_zero]
  refine wpX_step (fun K hK => ?_)
  go_simp
  refine StepY.det (by rw [HSP.out]; rfl) ?_ ?_
  · intro wz hz hF
    rw [HS.out] at hz
    have hf := hz.cells
    simp only [BC, CC, Nat.zero_add, Nat.reduceAdd, and_true] at hf
    clear hz hF
    go_simp
    exact ⟨rfl, Ext.refl _⟩
  refine hK _ _ ?_
  clear hK K
  refine wpX_step (fun K hK => ?_)
  go_simp
  refine StepY.det (by rw [HSP.out]; rfl) ?_ ?_
  · intro wz hz hF
    clear hz hF
    go_simp
    refine (HEM.out _).mono ?_
    rintro e w2 ⟨rfl, hE1⟩
    exact ⟨_, rfl, rfl, hE1⟩
  refine hK _ _ ?_
  clear hK K
  refine wpX_nil ?_
  intro wq hz hF
  clear hF
  rw [HS.out] at hz
  have hO := hz
  clear hz HS HSP
  have hf := hO.cells
  simp only [BC, CC, Nat.zero_add, Nat.reduceAdd, and_true] at hf
  go_wp2_with (first | (go_at_call 35; (with_reducible refine (HA1.out _).mono ?_); rintro e w' ⟨rfl, rfl⟩) | (go_at_call 35; (with_reducible refine (HA2.out _).mono ?_); rintro e w' ⟨rfl, rfl⟩) | ((with_reducible refine at_store (T := 22) ?_); refine own_store (vs := [.int .u64 (b1 : Int)]) (T := 22) hO 2 rfl rfl rfl size_u64 rfl rfl rfl ?_; clear hO; intro w9 hO; simp only [List.set_cons_zero, List.set_cons_succ, spl, List.take_succ_cons, List.take_zero, List.nil_append, List.cons_append, List.length_cons, List.length_nil, List.drop_succ_cons, List.drop_zero, List.drop_nil, Nat.reduceAdd, Nat.zero_add, List.append_nil] at hO; clear hf; have hf := hO.cells; simp only [BC, CC, Nat.zero_add, Nat.reduceAdd, and_true] at hf) | ((with_reducible refine at_store (T := 22) ?_); refine own_store (vs := [.int .u64 (b2 : Int)]) (T := 22) hO 2 rfl rfl rfl size_u64 rfl rfl rfl ?_; clear hO; intro wd hO; simp only [List.set_cons_zero, List.set_cons_succ, spl, List.take_succ_cons, List.take_zero, List.nil_append, List.cons_append, List.length_cons, List.length_nil, List.drop_succ_cons, List.drop_zero, List.drop_nil, Nat.reduceAdd, Nat.zero_add, List.append_nil] at hO; clear hf; have hf := hO.cells; simp only [BC, CC, Nat.zero_add, Nat.reduceAdd, and_true] at hf) | ((with_reducible refine at_store (T := 53) ?_); refine own_store (T := 53) hO 0 rfl rfl rfl size_I7 rfl rfl rfl ?_; clear hO; intro w8 hO; simp only [List.set_cons_zero, List.set_cons_succ, spl, List.take_succ_cons, List.take_zero, List.nil_append, List.cons_append, List.length_cons, List.length_nil, List.drop_succ_cons, List.drop_zero, List.drop_nil, Nat.reduceAdd, Nat.zero_add, List.append_nil] at hO; clear hf; have hf := hO.cells; simp only [BC, CC, Nat.zero_add, Nat.reduceAdd, and_true] at hf))
  exact own_ret hO 0 rfl rfl rfl agg_I7 size_I7 rfl ⟨rfl, hO.toExt⟩

set_option maxHeartbeats 8000000 in
theorem within_e (a1 a2 b1 b2 e1 e2 : Nat) (w : World) (HV1 : Hid (∀ w, Calls Tryd.prog 39 #[.agg #[.int .u64 (a1 : Int), .int .u64 (a2 : Int)]] w fun e w' => e = .returned (.bool true) ∧ Ext w w')) (HV2 : Hid (∀ w, Calls Tryd.prog 39 #[.agg #[.int .u64 (b1 : Int), .int .u64 (b2 : Int)]] w fun e w' => e = .returned (.bool true) ∧ Ext w w')) (HEM : Hid (∀ w, Calls Tryd.prog 34 #[] w (RetI e1 e2 w))) (q1 : ∀ w, (binOp .eql 53 (.agg #[.int .u64 (a1 : Int), .int .u64 (a2 : Int)]) (.agg #[.int .u64 (e1 : Int), .int .u64 (e2 : Int)])).run Tryd.prog w = .ok (.bool true) w) :
    Calls Tryd.prog 55 #[.agg #[.float .f64 a1, .float .f64 a2], .agg #[.float .f64 b1, .float .f64 b2]] w fun e w' => e = .returned (.bool true) ∧ Ext w w' := by
  have hO := Own.start w
  have hf : True := trivial
  have HOA := Lib.hid (fun w => out7_any a1 a2 w)
  have HOB := Lib.hid (fun w => out7_any b1 b2 w)
  go_enter Tryd.func55, Tryd.ntmps55
  go_wp2_with (first | ((with_reducible refine at_box ?_); refine own_box (cs := [.float .f64 a1, .float .f64 a2]) hO rfl rfl ?_; clear hO; intro gx wa hO; clear hf; have hf := hO.cells; simp only [BC, CC, Nat.zero_add, Nat.reduceAdd, and_true] at hf) | ((with_reducible refine at_box ?_); refine own_box (cs := [.float .f64 b1, .float .f64 b2]) hO rfl rfl ?_; clear hO; intro gy wb hO; clear hf; have hf := hO.cells; simp only [BC, CC, Nat.zero_add, Nat.reduceAdd, and_true] at hf))
  refine (HOA.out _).mono ?_
  rintro e w3 ⟨rfl, hE1⟩
  have hO := hO.ext hE1
  clear hE1
  clear hf
  have hf := hO.cells
  simp only [BC, CC, Nat.zero_add, Nat.reduceAdd, and_true] at hf
  go_wp2_with (first | ((with_reducible refine at_alloc ?_); refine own_alloc hO zero_I7 rfl rfl ?_; clear hO; intro ha wc hO; clear hf; have hf := hO.cells; simp only [BC, CC, Nat.zero_add, Nat.reduceAdd, and_true] at hf) | ((with_reducible refine at_store (T := 53) ?_); refine own_store (T := 53) hO 0 rfl rfl rfl size_I7 rfl rfl rfl ?_; clear hO; intro w4 hO; simp only [List.set_cons_zero, List.set_cons_succ, spl, List.take_succ_cons, List.take_zero, List.nil_append, List.cons_append, List.length_cons, List.length_nil, List.drop_succ_cons, List.drop_zero, List.drop_nil, Nat.reduceAdd, Nat.zero_add, List.append_nil] at hO; clear hf; have hf := hO.cells; simp only [BC, CC, Nat.zero_add, Nat.reduceAdd, and_true] at hf))
  refine (HOB.out _).mono ?_
  rintro e w5 ⟨rfl, hE1⟩
  have hO := hO.ext hE1
  clear hE1
  clear hf
  have hf := hO.cells
  simp only [BC, CC, Nat.zero_add, Nat.reduceAdd, and_true] at hf
  go_wp2_with (first | ((with_reducible refine at_alloc ?_); refine own_alloc hO zero_I7 rfl rfl ?_; clear hO; intro hb wd hO; clear hf; have hf := hO.cells; simp only [BC, CC, Nat.zero_add, Nat.reduceAdd, and_true] at hf) | ((with_reducible refine at_store (T := 53) ?_); refine own_store (T := 53) hO 0 rfl rfl rfl size_I7 rfl rfl rfl ?_; clear hO; intro w6 hO; simp only [List.set_cons_zero, List.set_cons_succ, spl, List.take_succ_cons, List.take_zero, List.nil_append, List.cons_append, List.length_cons, List.length_nil, List.drop_succ_cons, List.drop_zero, List.drop_nil, Nat.reduceAdd, Nat.zero_add, List.append_nil] at hO; clear hf; have hf := hO.cells; simp only [BC, CC, Nat.zero_add, Nat.reduceAdd, and_true] at hf))
  refine (HV1.out _).mono ?_
  rintro e w7 ⟨rfl, hE1⟩
  have hO := hO.ext hE1
  clear hE1
  clear hf
  have hf := hO.cells
  simp only [BC, CC, Nat.zero_add, Nat.reduceAdd, and_true] at hf
  go_wp2_with fail
  refine (HV2.out _).mono ?_
  rintro e w8 ⟨rfl, hE1⟩
  have hO := hO.ext hE1
  clear hE1
  clear hf
  have hf := hO.cells
  simp only [BC, CC, Nat.zero_add, Nat.reduceAdd, and_true] at hf
  go_upto_region 5 with fail
  obtain ⟨S, hS⟩ : ∃ S : World → Prop, S = Own w [⟨hb, 53, [.int .u64 (b1 : Int), .int .u64 (b2 : Int)]⟩, ⟨ha, 53, [.int .u64 (a1 : Int), .int .u64 (a2 : Int)]⟩, ⟨gy, 61, [.float .f64 b1, .float .f64 b2]⟩, ⟨gx, 61, [.float .f64 a1, .float .f64 a2]⟩] [] := ⟨_, rfl⟩
  have hSE : ∀ w w', S w → Ext w w' → S w' := fun w w' h1 h2 => by rw [hS] at h1 ⊢; exact h1.ext h2
  have hS1 : S w8.drew := by rw [hS]; exact hO.ext (Ext.refl w8).drew
  have HS := Lib.hid hS
  clear hS hO hf
  obtain ⟨sp, hsp⟩ : ∃ sp : Nat → Sp, sp = ofList [det (.agg #[.int .u64 (a1 : Int), .int .u64 (a2 : Int)]), det (.agg #[.int .u64 (e1 : Int), .int .u64 (e2 : Int)]), det (.bool true), det (.bool true), det undef, det undef, det undef, det undef, det undef, det undef, det undef, det undef, det undef, det undef, det undef, det undef, det undef, det undef, det undef, det undef, det undef, det undef, det undef, det (.bool true)] := ⟨_, rfl⟩
  have HSP := Lib.hid hsp
  clear hsp
  refine wp_region_loose 24 S sp (by kernel_rfl) (by kernel_rfl) hS1 hSE ?_
  simp only [List.take_succ_cons, List.take_zero, List.drop_succ_cons, List.drop_zero]
  refine wpX_step (fun K hK => ?_)
  go_simp
  refine StepY.det (by rw [HSP.out]; rfl) ?_ ?_
  · intro wz hz hF
    rw [HS.out] at hz
    have hf := hz.cells
    simp only [BC, CC, Nat.zero_add, Nat.reduceAdd, and_true] at hf
    clear hz hF
    go_simp
    exact ⟨rfl, Ext.refl _⟩
  refine hK _ _ ?_
  clear hK K
  refine wpX_step (fun K hK => ?_)
  go_simp
  refine StepY.det (by rw [HSP.out]; rfl) ?_ ?_
  · intro wz hz hF
    clear hz hF
    go_simp
    refine (HEM.out _).mono ?_
    rintro e w2 ⟨rfl, hE1⟩
    exact ⟨_, rfl, rfl, hE1⟩
  refine hK _ _ ?_
  clear hK K
  refine wpX_step (fun K hK => ?_)
  go_simp
  refine StepY.det (by rw [HSP.out]; rfl) ?_ ?_
  · intro wz hz hF
    clear hz hF
    go_simp
    exact ⟨rfl, Ext.refl _⟩
  refine hK _ _ ?_
  clear hK K
  refine wpX_step (fun K hK => ?_)
  go_simp
  refine StepY.det (by rw [HSP.out]; rfl) ?_ ?_
  · intro wz hz hF
    clear hz hF
    go_simp
    exact ⟨rfl, Ext.refl _⟩
  refine hK _ _ ?_
  clear hK K
  refine wpX_step (fun K hK => ?_)
  go_simp
  refine ⟨by rw [HSP.out]; rfl, hK _ _ ?_⟩
  clear hK K
  refine wpX_step (fun K hK => ?_)
  go_simp
  refine ⟨by rw [HSP.out]; rfl, hK _ _ ?_⟩
  clear hK K
  refine wpX_step (fun K hK => ?_)
  go_simp
  refine ⟨by rw [HSP.out]; rfl, hK _ _ ?_⟩
  clear hK K
  refine wpX_step (fun K hK => ?_)
  go_simp
  refine ⟨by rw [HSP.out]; rfl, hK _ _ ?_⟩
  clear hK K
  refine wpX_step (fun K hK => ?_)
  go_simp
  refine ⟨by rw [HSP.out]; rfl, hK _ _ ?_⟩
  clear hK K
  refine wpX_step (fun K hK => ?_)
  go_simp
  refine ⟨by rw [HSP.out]; rfl, hK _ _ ?_⟩
  clear hK K
  refine wpX_step (fun K hK => ?_)
  go_simp
  refine ⟨by rw [HSP.out]; rfl, hK _ _ ?_⟩
  clear hK K
  refine wpX_step (fun K hK => ?_)
  go_simp
  refine ⟨by rw [HSP.out]; rfl, hK _ _ ?_⟩
  clear hK K
  refine wpX_step (fun K hK => ?_)
  go_simp
  refine ⟨by rw [HSP.out]; rfl, hK _ _ ?_⟩
  clear hK K
  refine wpX_step (fun K hK => ?_)
  go_simp
  refine ⟨by rw [HSP.out]; rfl, hK _ _ ?_⟩
  clear hK K
  refine wpX_step (fun K hK => ?_)
  go_simp
  refine ⟨by rw [HSP.out]; rfl, hK _ _ ?_⟩
  clear hK K
  refine wpX_step (fun K hK => ?_)
  go_simp
  refine ⟨by rw [HSP.out]; rfl, hK _ _ ?_⟩
  clear hK K
  refine wpX_step (fun K hK => ?_)
  go_simp
  refine ⟨by rw [HSP.out]; rfl, hK _ _ ?_⟩
  clear hK K
  refine wpX_step (fun K hK => ?_)
  go_simp
  refine ⟨by rw [HSP.out]; rfl, hK _ _ ?_⟩
  clear hK K
  refine wpX_step (fun K hK => ?_)
  go_simp
  refine ⟨by rw [HSP.out]; rfl, hK _ _ ?_⟩
  clear hK K
  refine wpX_step (fun K hK => ?_)
  go_simp
  refine ⟨by rw [HSP.out]; rfl, hK _ _ ?_⟩
  clear hK K
  refine wpX_step (fun K hK => ?_)
  go_simp
  refine ⟨by rw [HSP.out]; rfl, hK _ _ ?_⟩
  clear hK K
  refine wpX_step (fun K hK => ?_)
  go_simp
  refine ⟨by rw [HSP.out]; rfl, hK _ _ ?_⟩
  clear hK K
  refine wpX_step (fun K hK => ?_)
  go_simp
  refine ⟨by rw [HSP.out]; rfl, hK _ _ ?_⟩
  clear hK K
  refine wpX_step (fun K hK => ?_)
  go_simp
  refine StepY.det (by rw [HSP.out]; rfl) ?_ ?_
  · intro wz hz hF
    clear hz hF
    go_simp
    exact ⟨rfl, Ext.refl _⟩
  refine hK _ _ ?_
  clear hK K
  refine wpX_nil ?_
  intro wq hz hF
  clear hF
  rw [HS.out] at hz
  have hO := hz
  clear hz HS HSP
  have hf := hO.cells
  simp only [BC, CC, Nat.zero_add, Nat.reduceAdd, and_true] at hf
  go_wp2
  go_ret
  exact ⟨rfl, hO.toExt⟩

set_option maxHeartbeats 8000000 in
theorem within_n (a1 a2 b1 b2 e1 e2 : Nat) (w : World) (HV1 : Hid (∀ w, Calls Tryd.prog 39 #[.agg #[.int .u64 (a1 : Int), .int .u64 (a2 : Int)]] w fun e w' => e = .returned (.bool true) ∧ Ext w w')) (HV2 : Hid (∀ w, Calls Tryd.prog 39 #[.agg #[.int .u64 (b1 : Int), .int .u64 (b2 : Int)]] w fun e w' => e = .returned (.bool true) ∧ Ext w w')) (HEM : Hid (∀ w, Calls Tryd.prog 34 #[] w (RetI e1 e2 w))) (q1 : ∀ w, (binOp .eql 53 (.agg #[.int .u64 (a1 : Int), .int .u64 (a2 : Int)]) (.agg #[.int .u64 (e1 : Int), .int .u64 (e2 : Int)])).run Tryd.prog w = .ok (.bool false) w) (q2 : ∀ w, (binOp .neq 53 (.agg #[.int .u64 (b1 : Int), .int .u64 (b2 : Int)]) (.agg #[.int .u64 (e1 : Int), .int .u64 (e2 : Int)])).run Tryd.prog w = .ok (.bool true) w) (HA1 : Hid (∀ w, Calls Tryd.prog 35 #[.int .u64 (b1 : Int), .int .u64 (a1 : Int)] w fun e w' => e = .returned (.bool false) ∧ w = w')) (HA2 : Hid (∀ w, Calls Tryd.prog 35 #[.int .u64 (a2 : Int), .int .u64 (b2 : Int)] w fun e w' => e = .returned (.bool false) ∧ w = w')) :
    Calls Tryd.prog 55 #[.agg #[.float .f64 a1, .float .f64 a2], .agg #[.float .f64 b1, .float .f64 b2]] w fun e w' => e = .returned (.bool true) ∧ Ext w w' := by
  have hO := Own.start w
  have hf : True := trivial
  have HOA := Lib.hid (fun w => out7_any a1 a2 w)
  have HOB := Lib.hid (fun w => out7_any b1 b2 w)
  go_enter Tryd.func55, Tryd.ntmps55
  go_wp2_with (first | ((with_reducible refine at_box ?_); refine own_box (cs := [.float .f64 a1, .float .f64 a2]) hO rfl rfl ?_; clear hO; intro gx wa hO; clear hf; have hf := hO.cells; simp only [BC, CC, Nat.zero_add, Nat.reduceAdd, and_true] at hf) | ((with_reducible refine at_box ?_); refine own_box (cs := [.float .f64 b1, .float .f64 b2]) hO rfl rfl ?_; clear hO; intro gy wb hO; clear hf; have hf := hO.cells; simp only [BC, CC, Nat.zero_add, Nat.reduceAdd, and_true] at hf))
  refine (HOA.out _).mono ?_
  rintro e w3 ⟨rfl, hE1⟩
  have hO := hO.ext hE1
  clear hE1
  clear hf
  have hf := hO.cells
  simp only [BC, CC, Nat.zero_add, Nat.reduceAdd, and_true] at hf
  go_wp2_with (first | ((with_reducible refine at_alloc ?_); refine own_alloc hO zero_I7 rfl rfl ?_; clear hO; intro ha wc hO; clear hf; have hf := hO.cells; simp only [BC, CC, Nat.zero_add, Nat.reduceAdd, and_true] at hf) | ((with_reducible refine at_store (T := 53) ?_); refine own_store (T := 53) hO 0 rfl rfl rfl size_I7 rfl rfl rfl ?_; clear hO; intro w4 hO; simp only [List.set_cons_zero, List.set_cons_succ, spl, List.take_succ_cons, List.take_zero, List.nil_append, List.cons_append, List.length_cons, List.length_nil, List.drop_succ_cons, List.drop_zero, List.drop_nil, Nat.reduceAdd, Nat.zero_add, List.append_nil] at hO; clear hf; have hf := hO.cells; simp only [BC, CC, Nat.zero_add, Nat.reduceAdd, and_true] at hf))
  refine (HOB.out _).mono ?_
  rintro e w5 ⟨rfl, hE1⟩
  have hO := hO.ext hE1
  clear hE1
  clear hf
  have hf := hO.cells
  simp only [BC, CC, Nat.zero_add, Nat.reduceAdd, and_true] at hf
  go_wp2_with (first | ((with_reducible refine at_alloc ?_); refine own_alloc hO zero_I7 rfl rfl ?_; clear hO; intro hb wd hO; clear hf; have hf := hO.cells; simp only [BC, CC, Nat.zero_add, Nat.reduceAdd, and_true] at hf) | ((with_reducible refine at_store (T := 53) ?_); refine own_store (T := 53) hO 0 rfl rfl rfl size_I7 rfl rfl rfl ?_; clear hO; intro w6 hO; simp only [List.set_cons_zero, List.set_cons_succ, spl, List.take_succ_cons, List.take_zero, List.nil_append, List.cons_append, List.length_cons, List.length_nil, List.drop_succ_cons, List.drop_zero, List.drop_nil, Nat.reduceAdd, Nat.zero_add, List.append_nil] at hO; clear hf; have hf := hO.cells; simp only [BC, CC, Nat.zero_add, Nat.reduceAdd, and_true] at hf))
  refine (HV1.out _).mono ?_
  rintro e w7 ⟨rfl, hE1⟩
  have hO := hO.ext hE1
  clear hE1
  clear hf
  have hf := hO.cells
  simp only [BC, CC, Nat.zero_add, Nat.reduceAdd, and_true] at hf
  go_wp2_with fail
  refine (HV2.out _).mono ?_
  rintro e w8 ⟨rfl, hE1⟩
  have hO := hO.ext hE1
  clear hE1
  clear hf
  have hf := hO.cells
  simp only [BC, CC, Nat.zero_add, Nat.reduceAdd, and_true] at hf
  go_upto_region 5 with fail
  obtain ⟨S, hS⟩ : ∃ S : World → Prop, S = Own w [⟨hb, 53, [.int .u64 (b1 : Int), .int .u64 (b2 : Int)]⟩, ⟨ha, 53, [.int .u64 (a1 : Int), .int .u64 (a2 : Int)]⟩, ⟨gy, 61, [.float .f64 b1, .float .f64 b2]⟩, ⟨gx, 61, [.float .f64 a1, .float .f64 a2]⟩] [] := ⟨_, rfl⟩
  have hSE : ∀ w w', S w → Ext w w' → S w' := fun w w' h1 h2 => by rw [hS] at h1 ⊢; exact h1.ext h2
  have hS1 : S w8.drew := by rw [hS]; exact hO.ext (Ext.refl w8).drew
  have HS := Lib.hid hS
  clear hS hO hf
  obtain ⟨sp, hsp⟩ : ∃ sp : Nat → Sp, sp = ofList [det (.agg #[.int .u64 (a1 : Int), .int .u64 (a2 : Int)]), det (.agg #[.int .u64 (e1 : Int), .int .u64 (e2 : Int)]), det (.bool false), det (.bool false), det (.agg #[.int .u64 (b1 : Int), .int .u64 (b2 : Int)]), det (.agg #[.int .u64 (e1 : Int), .int .u64 (e2 : Int)]), det (.bool true), det (.bool true), det (.pointer (some ⟨hb, 0, none⟩)), det (.int .u64 (b1 : Int)), det (.pointer (some ⟨ha, 0, none⟩)), det (.int .u64 (a1 : Int)), det (.bool false), det (.bool true), det (.bool true), det (.bool true), det (.pointer (some ⟨ha, 1, none⟩)), det (.int .u64 (a2 : Int)), det (.pointer (some ⟨hb, 1, none⟩)), det (.int .u64 (b2 : Int)), det (.bool false), det (.bool true), det (.bool true), det (.bool true)] := ⟨_, rfl⟩
  have HSP := Lib.hid hsp
  clear hsp
  refine wp_region_loose 24 S sp (by kernel_rfl) (by kernel_rfl) hS1 hSE ?_
  simp only [List.take_succ_cons, List.take_zero, List.drop_succ_cons, List.drop_zero]
  refine wpX_step (fun K hK => ?_)
  go_simp
  refine StepY.det (by rw [HSP.out]; rfl) ?_ ?_
  · intro wz hz hF
    rw [HS.out] at hz
    have hf := hz.cells
    simp only [BC, CC, Nat.zero_add, Nat.reduceAdd, and_true] at hf
    clear hz hF
    go_simp
    exact ⟨rfl, Ext.refl _⟩
  refine hK _ _ ?_
  clear hK K
  refine wpX_step (fun K hK => ?_)
  go_simp
  refine StepY.det (by rw [HSP.out]; rfl) ?_ ?_
  · intro wz hz hF
    clear hz hF
    go_simp
    refine (HEM.out _).mono ?_
    rintro e w2 ⟨rfl, hE1⟩
    exact ⟨_, rfl, rfl, hE1⟩
  refine hK _ _ ?_
  clear hK K
  refine wpX_step (fun K hK => ?_)
  go_simp
  refine StepY.det (by rw [HSP.out]; rfl) ?_ ?_
  · intro wz hz hF
    clear hz hF
    go_simp
    exact ⟨rfl, Ext.refl _⟩
  refine hK _ _ ?_
  clear hK K
  refine wpX_step (fun K hK => ?_)
  go_simp
  refine StepY.det (by rw [HSP.out]; rfl) ?_ ?_
  · intro wz hz hF
    clear hz hF
    go_simp
    exact ⟨rfl, Ext.refl _⟩
  refine hK _ _ ?_
  clear hK K
  refine wpX_step (fun K hK => ?_)
  go_simp
  refine StepY.det (by rw [HSP.out]; rfl) ?_ ?_
  · intro wz hz hF
    rw [HS.out] at hz
    have hf := hz.cells
    simp only [BC, CC, Nat.zero_add, Nat.reduceAdd, and_true] at hf
    clear hz hF
    go_simp
    exact ⟨rfl, Ext.refl _⟩
  refine hK _ _ ?_
  clear hK K
  refine wpX_step (fun K hK => ?_)
  go_simp
  refine StepY.det (by rw [HSP.out]; rfl) ?_ ?_
  · intro wz hz hF
    clear hz hF
    go_simp
    refine (HEM.out _).mono ?_
    rintro e w2 ⟨rfl, hE1⟩
    exact ⟨_, rfl, rfl, hE1⟩
  refine hK _ _ ?_
  clear hK K
  refine wpX_step (fun K hK => ?_)
  go_simp
  refine StepY.det (by rw [HSP.out]; rfl) ?_ ?_
  · intro wz hz hF
    clear hz hF
    go_simp
    exact ⟨rfl, Ext.refl _⟩
  refine hK _ _ ?_
  clear hK K
  refine wpX_step (fun K hK => ?_)
  go_simp
  refine StepY.det (by rw [HSP.out]; rfl) ?_ ?_
  · intro wz hz hF
    clear hz hF
    go_simp
    exact ⟨rfl, Ext.refl _⟩
  refine hK _ _ ?_
  clear hK K
  refine wpX_step (fun K hK => ?_)
  go_simp
  refine StepY.det (by rw [HSP.out]; rfl) ?_ ?_
  · intro wz hz hF
    clear hz hF
    go_simp
    exact ⟨rfl, Ext.refl _⟩
  refine hK _ _ ?_
  clear hK K
  refine wpX_step (fun K hK => ?_)
  go_simp
  refine StepY.det (by rw [HSP.out]; rfl) ?_ ?_
  · intro wz hz hF
    rw [HS.out] at hz
    have hf := hz.cells
    simp only [BC, CC, Nat.zero_add, Nat.reduceAdd, and_true] at hf
    clear hz hF
    go_simp
    exact ⟨rfl, Ext.refl _⟩
  refine hK _ _ ?_
  clear hK K
  refine wpX_step (fun K hK => ?_)
  go_simp
  refine StepY.det (by rw [HSP.out]; rfl) ?_ ?_
  · intro wz hz hF
    clear hz hF
    go_simp
    exact ⟨rfl, Ext.refl _⟩
  refine hK _ _ ?_
  clear hK K
  refine wpX_step (fun K hK => ?_)
  go_simp
  refine StepY.det (by rw [HSP.out]; rfl) ?_ ?_
  · intro wz hz hF
    rw [HS.out] at hz
    have hf := hz.cells
    simp only [BC, CC, Nat.zero_add, Nat.reduceAdd, and_true] at hf
    clear hz hF
    go_simp
    exact ⟨rfl, Ext.refl _⟩
  refine hK _ _ ?_
  clear hK K
  refine wpX_step (fun K hK => ?_)
  go_simp
  refine StepY.det (by rw [HSP.out]; rfl) ?_ ?_
  · intro wz hz hF
    clear hz hF
    go_simp
    refine (HA1.out _).mono ?_
    rintro e w5 ⟨rfl, rfl⟩
    exact ⟨_, rfl, rfl, Ext.refl _⟩
  refine hK _ _ ?_
  clear hK K
  refine wpX_step (fun K hK => ?_)
  go_simp
  refine StepY.det (by rw [HSP.out]; rfl) ?_ ?_
  · intro wz hz hF
    clear hz hF
    go_simp
    exact ⟨rfl, Ext.refl _⟩
  refine hK _ _ ?_
  clear hK K
  refine wpX_step (fun K hK => ?_)
  go_simp
  refine StepY.det (by rw [HSP.out]; rfl) ?_ ?_
  · intro wz hz hF
    clear hz hF
    go_simp
    exact ⟨rfl, Ext.refl _⟩
  refine hK _ _ ?_
  clear hK K
  refine wpX_step (fun K hK => ?_)
  go_simp
  refine StepY.det (by rw [HSP.out]; rfl) ?_ ?_
  · intro wz hz hF
    clear hz hF
    go_simp
    exact ⟨rfl, Ext.refl _⟩
  refine hK _ _ ?_
  clear hK K
  refine wpX_step (fun K hK => ?_)
  go_simp
  refine StepY.det (by rw [HSP.out]; rfl) ?_ ?_
  · intro wz hz hF
    clear hz hF
    go_simp
    exact ⟨rfl, Ext.refl _⟩
  refine hK _ _ ?_
  clear hK K
  refine wpX_step (fun K hK => ?_)
  go_simp
  refine StepY.det (by rw [HSP.out]; rfl) ?_ ?_
  · intro wz hz hF
    rw [HS.out] at hz
    have hf := hz.cells
    simp only [BC, CC, Nat.zero_add, Nat.reduceAdd, and_true] at hf
    clear hz hF
    go_simp
    exact ⟨rfl, Ext.refl _⟩
  refine hK _ _ ?_
  clear hK K
  refine wpX_step (fun K hK => ?_)
  go_simp
  refine StepY.det (by rw [HSP.out]; rfl) ?_ ?_
  · intro wz hz hF
    clear hz hF
    go_simp
    exact ⟨rfl, Ext.refl _⟩
  refine hK _ _ ?_
  clear hK K
  refine wpX_step (fun K hK => ?_)
  go_simp
  refine StepY.det (by rw [HSP.out]; rfl) ?_ ?_
  · intro wz hz hF
    rw [HS.out] at hz
    have hf := hz.cells
    simp only [BC, CC, Nat.zero_add, Nat.reduceAdd, and_true] at hf
    clear hz hF
    go_simp
    exact ⟨rfl, Ext.refl _⟩
  refine hK _ _ ?_
  clear hK K
  refine wpX_step (fun K hK => ?_)
  go_simp
  refine StepY.det (by rw [HSP.out]; rfl) ?_ ?_
  · intro wz hz hF
    clear hz hF
    go_simp
    refine (HA2.out _).mono ?_
    rintro e w5 ⟨rfl, rfl⟩
    exact ⟨_, rfl, rfl, Ext.refl _⟩
  refine hK _ _ ?_
  clear hK K
  refine wpX_step (fun K hK => ?_)
  go_simp
  refine StepY.det (by rw [HSP.out]; rfl) ?_ ?_
  · intro wz hz hF
    clear hz hF
    go_simp
    exact ⟨rfl, Ext.refl _⟩
  refine hK _ _ ?_
  clear hK K
  refine wpX_step (fun K hK => ?_)
  go_simp
  refine StepY.det (by rw [HSP.out]; rfl) ?_ ?_
  · intro wz hz hF
    clear hz hF
    go_simp
    exact ⟨rfl, Ext.refl _⟩
  refine hK _ _ ?_
  clear hK K
  refine wpX_step (fun K hK => ?_)
  go_simp
  refine StepY.det (by rw [HSP.out]; rfl) ?_ ?_
  · intro wz hz hF
    clear hz hF
    go_simp
    exact ⟨rfl, Ext.refl _⟩
  refine hK _ _ ?_
  clear hK K
  refine wpX_nil ?_
  intro wq hz hF
  clear hF
  rw [HS.out] at hz
  have hO := hz
  clear hz HS HSP
  have hf := hO.cells
  simp only [BC, CC, Nat.zero_add, Nat.reduceAdd, and_true] at hf
  go_wp2
  go_ret
  exact ⟨rfl, hO.toExt⟩

/-- The ends of the interval that holds two. -/
def huLo (x1 x2 y1 y2 : Nat) : Nat := if emp x1 x2 then rdLo y1 y2 else if emp y1 y2 then rdLo x1 x2 else if ltB (rdLo y1 y2) (rdLo x1 x2) = true then rdLo y1 y2 else rdLo x1 x2
def huHi (x1 x2 y1 y2 : Nat) : Nat := if emp x1 x2 then rdHi y1 y2 else if emp y1 y2 then rdHi x1 x2 else if ltB (rdHi x1 x2) (rdHi y1 y2) = true then rdHi y1 y2 else rdHi x1 x2
theorem eqE {p q : Nat} : (((p : Int) == (infR : Int)) && ((q : Int) == (minf : Int))) = decide (p = infR ∧ q = minf) := by
  rw [Bool.eq_iff_iff, Bool.and_eq_true, beq_iff_eq, beq_iff_eq, decide_eq_true_iff]
  omega
theorem hull7_any (x1 x2 y1 y2 : Nat) (w : World) (hx1 : x1 < 18446744073709551616) (hx2 : x2 < 18446744073709551616) (hy1 : y1 < 18446744073709551616) (hy2 : y2 < 18446744073709551616) :
    Calls Tryd.prog 54 #[.agg #[.int .u64 (x1 : Int), .int .u64 (x2 : Int)], .agg #[.int .u64 (y1 : Int), .int .u64 (y2 : Int)]] w (RetI (huLo x1 x2 y1 y2) (huHi x1 x2 y1 y2) w) := by
  have HR1 := Lib.hid (fun w => read6_any x1 x2 w hx1 hx2)
  have HR2 := Lib.hid (fun w => read6_any y1 y2 w hy1 hy2)
  have HEM := Lib.hid (fun w => empty6_any w)
  have l1 := rdLo_lt x1 x2 hx1
  have l2 := rdHi_lt x1 x2 hx2
  have l3 := rdLo_lt y1 y2 hy1
  have l4 := rdHi_lt y1 y2 hy2
  unfold huLo huHi
  by_cases h1 : emp x1 x2
  · rw [if_pos h1, if_pos h1]
    exact hull_x x1 x2 y1 y2 _ _ _ _ _ _ w HR1 HR2 HEM (eqI' (by rw [eqE]; exact decide_eq_true h1))
  · rw [if_neg h1, if_neg h1]
    have q1 := eqI' (E := false) (show (((rdLo x1 x2 : Nat) : Int) == ((infR : Nat) : Int) && ((rdHi x1 x2 : Nat) : Int) == ((minf : Nat) : Int)) = false by rw [eqE]; exact decide_eq_false h1)
    by_cases h2 : emp y1 y2
    · rw [if_pos h2, if_pos h2]
      exact hull_y x1 x2 y1 y2 _ _ _ _ _ _ w HR1 HR2 HEM q1 (eqI' (by rw [eqE]; exact decide_eq_true h2))
    · rw [if_neg h2, if_neg h2]
      have q2 := eqI' (E := false) (show (((rdLo y1 y2 : Nat) : Int) == ((infR : Nat) : Int) && ((rdHi y1 y2 : Nat) : Int) == ((minf : Nat) : Int)) = false by rw [eqE]; exact decide_eq_false h2)
      have HA1 := Lib.hid (fun w => above6_any (rdLo x1 x2) (rdLo y1 y2) w l1 l3)
      have HA2 := Lib.hid (fun w => above6_any (rdHi y1 y2) (rdHi x1 x2) w l4 l2)
      cases g1 : ltB (rdLo y1 y2) (rdLo x1 x2) <;> cases g2 : ltB (rdHi x1 x2) (rdHi y1 y2) <;> rw [g1] at HA1 <;> rw [g2] at HA2
      · exact hull_ff x1 x2 y1 y2 _ _ _ _ _ _ w HR1 HR2 HEM q1 q2 HA1 HA2
      · exact hull_ft x1 x2 y1 y2 _ _ _ _ _ _ w HR1 HR2 HEM q1 q2 HA1 HA2
      · exact hull_tf x1 x2 y1 y2 _ _ _ _ _ _ w HR1 HR2 HEM q1 q2 HA1 HA2
      · exact hull_tt x1 x2 y1 y2 _ _ _ _ _ _ w HR1 HR2 HEM q1 q2 HA1 HA2

/-- One interval lies in another: both are valid. -/
structure Inc (a1 a2 b1 b2 : Nat) : Prop where
  l1 : a1 < 18446744073709551616
  l2 : a2 < 18446744073709551616
  l3 : b1 < 18446744073709551616
  l4 : b2 < 18446744073709551616
  va : vldB a1 a2 = true
  vb : vldB b1 b2 = true
  or_ : (a1 = infR ∧ a2 = minf) ∨ (¬ (b1 = infR ∧ b2 = minf) ∧ ltB a1 b1 = false ∧ ltB b2 a2 = false)
theorem within7_any (a1 a2 b1 b2 : Nat) (w : World) (h : Inc a1 a2 b1 b2) :
    Calls Tryd.prog 55 #[.agg #[.float .f64 a1, .float .f64 a2], .agg #[.float .f64 b1, .float .f64 b2]] w fun e w' => e = .returned (.bool true) ∧ Ext w w' := by
  have HV1 := Lib.hid (fun w => h.va ▸ valid6_any a1 a2 w h.l1 h.l2)
  have HV2 := Lib.hid (fun w => h.vb ▸ valid6_any b1 b2 w h.l3 h.l4)
  have HEM := Lib.hid (fun w => empty6_any w)
  by_cases he : a1 = infR ∧ a2 = minf
  · exact within_e a1 a2 b1 b2 _ _ w HV1 HV2 HEM (eqI' (by rw [eqE]; exact decide_eq_true he))
  · rcases h.or_ with g | ⟨g1, g2, g3⟩
    · exact absurd g he
    · have HA1 := Lib.hid (fun w => g2 ▸ above6_any b1 a1 w h.l3 h.l1)
      have HA2 := Lib.hid (fun w => g3 ▸ above6_any a2 b2 w h.l2 h.l4)
      exact within_n a1 a2 b1 b2 _ _ w HV1 HV2 HEM (eqI' (by rw [eqE]; exact decide_eq_false he)) (neqI' (by rw [eqE, decide_eq_false g1]; rfl)) HA1 HA2
end Go.Proofs.YtadijoeeaineaaaDoor
