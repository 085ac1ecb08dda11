/-
  The contracts of the document's Square and Sqr. Conditions: those that each theorem names.
-/
import Derived.Test.YtllfcklgljdgeaaZ33
import Derived.Test.YtllfcklgljdgeaaZ29
namespace Go.Proofs.Ytllfcklgljdgeaa
open Go.RowKit Nm Rn
set_option maxRecDepth 100000
set_option linter.unusedVariables false
set_option linter.unusedSimpArgs false

set_option maxHeartbeats 8000000 in
theorem square6_z (i : Int) (s : Bool) (A : Option Addr) (l c : Nat) (B : Option Addr) (k d N D : Nat) (j : Int) (r : Bool) (A2 : Option Addr) (l2 c2 : Nat) (B2 : Option Addr) (k2 d2 N2 D2 : Nat) (w : World) (h1 : RatAt w A l c B k d N D) (h2 : RatAt w A2 l2 c2 B2 k2 d2 N2 D2) (u : Int) (uS : Bool) (uN uD : Nat) (v : Int) (vS : Bool) (vN vD : Nat) (x : Int) (xS : Bool) (xN xD : Nat) (y : Int) (yS : Bool) (yN yD : Nat) (HP1 : Hid (∀ w, RatAt w A l c B k d N D → Calls Try.prog 42 #[.agg #[.int .i64 i, .bool s, .slice A l c, .slice B k d], .agg #[.int .i64 i, .bool s, .slice A l c, .slice B k d]] w (RetEnd u uS uN uD w)))
    (HP2 : Hid (∀ w, RatAt w A2 l2 c2 B2 k2 d2 N2 D2 → Calls Try.prog 42 #[.agg #[.int .i64 j, .bool r, .slice A2 l2 c2, .slice B2 k2 d2], .agg #[.int .i64 j, .bool r, .slice A2 l2 c2, .slice B2 k2 d2]] w (RetEnd v vS vN vD w)))
    (HLE : Hid (∀ (A3 : Option Addr) (l3 c3 : Nat) (B3 : Option Addr) (k3 d3 : Nat) (A4 : Option Addr) (l4 c4 : Nat) (B4 : Option Addr) (k4 d4 : Nat) w, RatAt w A3 l3 c3 B3 k3 d3 uN uD → RatAt w A4 l4 c4 B4 k4 d4 vN vD → Calls Try.prog 43 #[.agg #[.int .i64 u, .bool uS, .slice A3 l3 c3, .slice B3 k3 d3], .agg #[.int .i64 v, .bool vS, .slice A4 l4 c4, .slice B4 k4 d4]] w (RetEnd x xS xN xD w))) (HGR : Hid (∀ (A3 : Option Addr) (l3 c3 : Nat) (B3 : Option Addr) (k3 d3 : Nat) (A4 : Option Addr) (l4 c4 : Nat) (B4 : Option Addr) (k4 d4 : Nat) w, RatAt w A3 l3 c3 B3 k3 d3 uN uD → RatAt w A4 l4 c4 B4 k4 d4 vN vD → Calls Try.prog 46 #[.agg #[.int .i64 u, .bool uS, .slice A3 l3 c3, .slice B3 k3 d3], .agg #[.int .i64 v, .bool vS, .slice A4 l4 c4, .slice B4 k4 d4]] w (RetEnd y yS yN yD w)))
    (sa sb : Int) (HS1 : Hid (∀ w, RatAt w A l c B k d N D → Calls Try.prog 44 #[.agg #[.int .i64 i, .bool s, .slice A l c, .slice B k d]] w fun e w' => e = .returned (.int .i64 sa) ∧ Ext w w'))
    (HS2 : Hid (∀ w, RatAt w A2 l2 c2 B2 k2 d2 N2 D2 → Calls Try.prog 44 #[.agg #[.int .i64 j, .bool r, .slice A2 l2 c2, .slice B2 k2 d2]] w fun e w' => e = .returned (.int .i64 sb) ∧ Ext w w')) (ha : decide (sa ≤ 0) = true) (hb : decide (0 ≤ sb) = true) :
    Calls Try.prog 22 #[.agg #[.bool false, .int .i64 i, .bool s, .slice A l c, .slice B k d, .int .i64 j, .bool r, .slice A2 l2 c2, .slice B2 k2 d2]] w (RetSet false 0 false (fracN 0 1 0) (fracD 0 1 0) y yS yN yD w) := by
  have HFI := Lib.hid (fun w => finite_any 0 w (by omega))
  generalize fracN 0 1 0 = zN at HFI ⊢
  generalize fracD 0 1 0 = zD at HFI ⊢
  have hO := ((((Own.start w).add h1.1).add h1.2).add h2.1).add h2.2
  have hf : True := trivial
  clear h1 h2
  go_enter Try.func22, Try.ntmps22
  go_wp2_with (first | ((with_reducible refine at_box ?_); refine own_box (cs := [.bool false, .int .i64 i, .bool s, .slice A l c, .slice B k d, .int .i64 j, .bool r, .slice A2 l2 c2, .slice B2 k2 d2]) hO rfl rfl ?_; clear hO; intro ga wa hO; clear hf; have hf := hO.cells; simp only [BC, CC, Nat.zero_add, Nat.reduceAdd, and_true] at hf) | ((with_reducible refine at_alloc ?_); refine own_alloc hO zero_set rfl rfl ?_; clear hO; intro g w1 hO; clear hf; have hf := hO.cells; simp only [BC, CC, Nat.zero_add, Nat.reduceAdd, and_true] at hf))
  refine (HP1.out _ ⟨hO.wd 3 rfl, hO.wd 2 rfl⟩).mono ?_
  rintro e w2 ⟨pA, pl, pc, pB, pk, pd, rfl, hR1, hE1⟩
  have hO := ((hO.ext hE1).add hR1.1).add hR1.2
  clear hf
  have hf := hO.cells
  simp only [BC, CC, Nat.zero_add, Nat.reduceAdd, and_true] at hf
  clear hR1 hE1
  go_wp2_with (first | ((with_reducible refine at_alloc ?_); refine own_alloc hO zero_end rfl rfl ?_; clear hO; intro gp w1 hO; clear hf; have hf := hO.cells; simp only [BC, CC, Nat.zero_add, Nat.reduceAdd, and_true] at hf) | ((with_reducible refine at_store (T := 47) ?_); refine own_store (T := 47) hO 0 rfl rfl rfl size_end rfl rfl rfl ?_; clear hO; intro w1 hO; simp only [List.set_cons_zero, List.set_cons_succ, spl, List.take_succ_cons, List.take_zero, List.nil_append, List.cons_append, List.length_cons, List.length_nil, List.drop_succ_cons, List.drop_zero, List.drop_nil, Nat.reduceAdd, Nat.zero_add, List.append_nil] at hO; clear hf; have hf := hO.cells; simp only [BC, CC, Nat.zero_add, Nat.reduceAdd, and_true] at hf))
  refine (HP2.out _ ⟨hO.wd 3 rfl, hO.wd 2 rfl⟩).mono ?_
  rintro e w2 ⟨qA, ql, qc, qB, qk, qd, rfl, hR1, hE1⟩
  have hO := ((hO.ext hE1).add hR1.1).add hR1.2
  clear hf
  have hf := hO.cells
  simp only [BC, CC, Nat.zero_add, Nat.reduceAdd, and_true] at hf
  clear hR1 hE1
  go_wp2_with (first | ((with_reducible refine at_alloc ?_); refine own_alloc hO zero_end rfl rfl ?_; clear hO; intro gq w1 hO; clear hf; have hf := hO.cells; simp only [BC, CC, Nat.zero_add, Nat.reduceAdd, and_true] at hf) | ((with_reducible refine at_store (T := 47) ?_); refine own_store (T := 47) hO 0 rfl rfl rfl size_end rfl rfl rfl ?_; clear hO; intro w1 hO; simp only [List.set_cons_zero, List.set_cons_succ, spl, List.take_succ_cons, List.take_zero, List.nil_append, List.cons_append, List.length_cons, List.length_nil, List.drop_succ_cons, List.drop_zero, List.drop_nil, Nat.reduceAdd, Nat.zero_add, List.append_nil] at hO; clear hf; have hf := hO.cells; simp only [BC, CC, Nat.zero_add, Nat.reduceAdd, and_true] at hf))
  refine (HLE.out _ _ _ _ _ _ _ _ _ _ _ _ _ ⟨hO.wd 3 rfl, hO.wd 2 rfl⟩ ⟨hO.wd 1 rfl, hO.wd 0 rfl⟩).mono ?_
  rintro e w2 ⟨mA, ml, mc, mB, mk, md, rfl, hR1, hE1⟩
  have hO := ((hO.ext hE1).add hR1.1).add hR1.2
  clear hf
  have hf := hO.cells
  simp only [BC, CC, Nat.zero_add, Nat.reduceAdd, and_true] at hf
  clear hR1 hE1
  go_wp2_with (first | ((with_reducible refine at_alloc ?_); refine own_alloc hO zero_end rfl rfl ?_; clear hO; intro gm w1 hO; clear hf; have hf := hO.cells; simp only [BC, CC, Nat.zero_add, Nat.reduceAdd, and_true] at hf) | ((with_reducible refine at_store (T := 47) ?_); refine own_store (T := 47) hO 0 rfl rfl rfl size_end rfl rfl rfl ?_; clear hO; intro w1 hO; simp only [List.set_cons_zero, List.set_cons_succ, spl, List.take_succ_cons, List.take_zero, List.nil_append, List.cons_append, List.length_cons, List.length_nil, List.drop_succ_cons, List.drop_zero, List.drop_nil, Nat.reduceAdd, Nat.zero_add, List.append_nil] at hO; clear hf; have hf := hO.cells; simp only [BC, CC, Nat.zero_add, Nat.reduceAdd, and_true] at hf))
  refine (HS1.out _ ⟨hO.wd 9 rfl, hO.wd 8 rfl⟩).mono ?_
  rintro e w2 ⟨rfl, hE1⟩
  have hO := hO.ext hE1
  clear hf
  have hf := hO.cells
  simp only [BC, CC, Nat.zero_add, Nat.reduceAdd, and_true] at hf
  clear hE1
  go_wp2_with fail
  refine (HS2.out _ ⟨hO.wd 7 rfl, hO.wd 6 rfl⟩).mono ?_
  rintro e w2 ⟨rfl, hE1⟩
  have hO := hO.ext hE1
  clear hf
  have hf := hO.cells
  simp only [BC, CC, Nat.zero_add, Nat.reduceAdd, and_true] at hf
  clear hE1
  go_wp2_with fail
  refine (HFI.out _).mono ?_
  rintro e w2 ⟨fA, fl, fc, fB, fk, fd, rfl, hR1, hE1⟩
  have hO := ((hO.ext hE1).add hR1.1).add hR1.2
  clear hf
  have hf := hO.cells
  simp only [BC, CC, Nat.zero_add, Nat.reduceAdd, and_true] at hf
  clear hR1 hE1
  go_wp2_with (first | ((with_reducible refine at_store (T := 47) ?_); refine own_store (T := 47) hO 0 rfl rfl rfl size_end rfl rfl rfl ?_; clear hO; intro w1 hO; simp only [List.set_cons_zero, List.set_cons_succ, spl, List.take_succ_cons, List.take_zero, List.nil_append, List.cons_append, List.length_cons, List.length_nil, List.drop_succ_cons, List.drop_zero, List.drop_nil, Nat.reduceAdd, Nat.zero_add, List.append_nil] at hO; clear hf; have hf := hO.cells; simp only [BC, CC, Nat.zero_add, Nat.reduceAdd, and_true] at hf))
  obtain ⟨S, hS⟩ : ∃ S : World → Prop, S = Own w [⟨gm, 47, [.int .i64 0, .bool false, .slice fA fl fc, .slice fB fk fd]⟩, ⟨gq, 47, [.int .i64 v, .bool vS, .slice qA ql qc, .slice qB qk qd]⟩, ⟨gp, 47, [.int .i64 u, .bool uS, .slice pA pl pc, .slice pB pk pd]⟩, ⟨g, 49, [.bool false, .int .i64 0, .bool false, .slice none 0 0, .slice none 0 0, .int .i64 0, .bool false, .slice none 0 0, .slice none 0 0]⟩, ⟨ga, 49, [.bool false, .int .i64 i, .bool s, .slice A l c, .slice B k d, .int .i64 j, .bool r, .slice A2 l2 c2, .slice B2 k2 d2]⟩] [⟨fB, fk, fd, nd zD⟩, ⟨fA, fl, fc, nd zN⟩, ⟨mB, mk, md, nd xD⟩, ⟨mA, ml, mc, nd xN⟩, ⟨qB, qk, qd, nd vD⟩, ⟨qA, ql, qc, nd vN⟩, ⟨pB, pk, pd, nd uD⟩, ⟨pA, pl, pc, nd uN⟩, ⟨B2, k2, d2, nd D2⟩, ⟨A2, l2, c2, nd N2⟩, ⟨B, k, d, nd D⟩, ⟨A, l, c, nd N⟩] := ⟨_, rfl⟩
  have hSE : ∀ w w', S w → Ext w w' → S w' := fun w w' h1 h2 => by rw [hS] at h1 ⊢; exact h1.ext h2
  have hS1 : S w1.drew := by rw [hS]; exact hO.ext (Ext.refl w1).drew
  have HSX := Lib.hid hS
  clear hS hO hf
  obtain ⟨sp, hsp⟩ : ∃ sp : Nat → Sp, sp = ofList [det (.agg #[.int .i64 0, .bool false, .slice fA fl fc, .slice fB fk fd]), det (.agg #[.int .i64 u, .bool uS, .slice pA pl pc, .slice pB pk pd]), det (.agg #[.int .i64 v, .bool vS, .slice qA ql qc, .slice qB qk qd]), anyOf (fun v wz => ∃ A1 n1 c1 B1 m1 d1, v = .agg #[.int .i64 y, .bool yS, .slice A1 n1 c1, .slice B1 m1 d1] ∧ RatAt wz A1 n1 c1 B1 m1 d1 yN yD), anyOf (fun v wz => ∃ A1 n1 c1 B1 m1 d1, v = .agg #[.bool false, .int .i64 0, .bool false, .slice fA fl fc, .slice fB fk fd, .int .i64 y, .bool yS, .slice A1 n1 c1, .slice B1 m1 d1] ∧ RatAt wz A1 n1 c1 B1 m1 d1 yN yD)] := ⟨_, rfl⟩
  have HSP := Lib.hid hsp
  clear hsp
  refine wp_region_loose 5 S sp (by kernel_rfl) (by kernel_rfl) hS1 hSE ?_
  simp only [List.take_succ_cons, List.take_zero, List.drop_succ_cons, List.drop_zero]
  iterate 3
    refine wpX_step (fun K hK => ?_)
    go_simp
    refine StepY.det (by rw [HSP.out]; rfl) ?_ ?_
    · intro wz hz hF
      rw [HSX.out] at hz
      have hf := hz.facts
      simp only [BF, CF, Nat.zero_add, Nat.reduceAdd, and_true] at hf
      clear hz hF
      go_simp
      exact ⟨rfl, Ext.refl _⟩
    refine hK _ _ ?_
    clear hK K
  refine wpX_step (fun K hK => ?_)
  go_simp
  refine StepY.any (by rw [HSP.out]; rfl) ?_ ?_
  · intro wz hz hF
    rw [HSX.out] at hz
    have q1 : RatAt wz pA pl pc pB pk pd uN uD := ⟨hz.wd 7 rfl, hz.wd 6 rfl⟩
    have q2 : RatAt wz qA ql qc qB qk qd vN vD := ⟨hz.wd 5 rfl, hz.wd 4 rfl⟩
    clear hz hF
    go_simp
    go_at_call 46
    refine (HGR.out _ _ _ _ _ _ _ _ _ _ _ _ _ q1 q2).mono ?_
    rintro e w3 ⟨A1, n1, c1, B1, m1, d1, rfl, hW1, hE1⟩
    exact ⟨_, rfl, ⟨A1, n1, c1, B1, m1, d1, rfl, hW1⟩, hE1⟩
  intro v'
  refine hK _ _ ?_
  clear hK K
  refine wpX_step (fun K hK => ?_)
  go_simp
  refine StepY.any (by rw [HSP.out]; rfl) ?_ ?_
  · intro wz hz hF
    obtain ⟨wa', ea, A5, n5, c5, B5, m5, d5, hv1, hw1⟩ := hF.any 3 (by kernel_rfl) (by rw [HSP.out]; rfl)
    clear hF
    simp only [asFun, List.nil_append, List.cons_append, List.getD_cons_succ, List.getD_cons_zero] at hv1
    subst hv1
    go_simp
    exact ⟨⟨A5, n5, c5, B5, m5, d5, rfl, hw1.ext ea⟩, Ext.refl _⟩
  intro v''
  refine hK _ _ ?_
  clear hK K
  refine wpX_nil ?_
  intro w3 hz hF
  obtain ⟨w0, e0, A5, n5, c5, B5, m5, d5, hv, hw1⟩ := fact_any (hF 4 (by omega)) (by rw [HSP.out]; rfl)
  clear hF
  simp only [asFun, List.nil_append, List.cons_append, List.getD_cons_succ, List.getD_cons_zero] at hv
  subst hv
  rw [HSX.out] at hz
  have hO := (hz.add (hw1.ext e0).1).add (hw1.ext e0).2
  have hf : True := trivial
  clear hz hw1 e0
  go_wp2_with (first | ((with_reducible refine at_store (T := 49) ?_); refine own_store (T := 49) hO 3 rfl rfl rfl size_set rfl rfl rfl ?_; clear hO; intro w1 hO; simp only [List.set_cons_zero, List.set_cons_succ, spl, List.take_succ_cons, List.take_zero, List.nil_append, List.cons_append, List.length_cons, List.length_nil, List.drop_succ_cons, List.drop_zero, List.drop_nil, Nat.reduceAdd, Nat.zero_add, List.append_nil] at hO; clear hf; have hf := hO.cells; simp only [BC, CC, Nat.zero_add, Nat.reduceAdd, and_true] at hf))
  exact own_ret hO 3 rfl rfl rfl agg_set size_set rfl ⟨_, _, _, _, _, _, _, _, _, _, _, _, rfl, ⟨hO.wd 3 rfl, hO.wd 2 rfl⟩, ⟨hO.wd 1 rfl, hO.wd 0 rfl⟩, hO.toExt⟩

set_option maxHeartbeats 8000000 in
theorem square6_n1 (i : Int) (s : Bool) (A : Option Addr) (l c : Nat) (B : Option Addr) (k d N D : Nat) (j : Int) (r : Bool) (A2 : Option Addr) (l2 c2 : Nat) (B2 : Option Addr) (k2 d2 N2 D2 : Nat) (w : World) (h1 : RatAt w A l c B k d N D) (h2 : RatAt w A2 l2 c2 B2 k2 d2 N2 D2) (u : Int) (uS : Bool) (uN uD : Nat) (v : Int) (vS : Bool) (vN vD : Nat) (x : Int) (xS : Bool) (xN xD : Nat) (y : Int) (yS : Bool) (yN yD : Nat) (HP1 : Hid (∀ w, RatAt w A l c B k d N D → Calls Try.prog 42 #[.agg #[.int .i64 i, .bool s, .slice A l c, .slice B k d], .agg #[.int .i64 i, .bool s, .slice A l c, .slice B k d]] w (RetEnd u uS uN uD w)))
    (HP2 : Hid (∀ w, RatAt w A2 l2 c2 B2 k2 d2 N2 D2 → Calls Try.prog 42 #[.agg #[.int .i64 j, .bool r, .slice A2 l2 c2, .slice B2 k2 d2], .agg #[.int .i64 j, .bool r, .slice A2 l2 c2, .slice B2 k2 d2]] w (RetEnd v vS vN vD w)))
    (HLE : Hid (∀ (A3 : Option Addr) (l3 c3 : Nat) (B3 : Option Addr) (k3 d3 : Nat) (A4 : Option Addr) (l4 c4 : Nat) (B4 : Option Addr) (k4 d4 : Nat) w, RatAt w A3 l3 c3 B3 k3 d3 uN uD → RatAt w A4 l4 c4 B4 k4 d4 vN vD → Calls Try.prog 43 #[.agg #[.int .i64 u, .bool uS, .slice A3 l3 c3, .slice B3 k3 d3], .agg #[.int .i64 v, .bool vS, .slice A4 l4 c4, .slice B4 k4 d4]] w (RetEnd x xS xN xD w))) (HGR : Hid (∀ (A3 : Option Addr) (l3 c3 : Nat) (B3 : Option Addr) (k3 d3 : Nat) (A4 : Option Addr) (l4 c4 : Nat) (B4 : Option Addr) (k4 d4 : Nat) w, RatAt w A3 l3 c3 B3 k3 d3 uN uD → RatAt w A4 l4 c4 B4 k4 d4 vN vD → Calls Try.prog 46 #[.agg #[.int .i64 u, .bool uS, .slice A3 l3 c3, .slice B3 k3 d3], .agg #[.int .i64 v, .bool vS, .slice A4 l4 c4, .slice B4 k4 d4]] w (RetEnd y yS yN yD w)))
    (sa sb : Int) (HS1 : Hid (∀ w, RatAt w A l c B k d N D → Calls Try.prog 44 #[.agg #[.int .i64 i, .bool s, .slice A l c, .slice B k d]] w fun e w' => e = .returned (.int .i64 sa) ∧ Ext w w'))
    (HS2 : Hid (∀ w, RatAt w A2 l2 c2 B2 k2 d2 N2 D2 → Calls Try.prog 44 #[.agg #[.int .i64 j, .bool r, .slice A2 l2 c2, .slice B2 k2 d2]] w fun e w' => e = .returned (.int .i64 sb) ∧ Ext w w')) (ha : decide (sa ≤ 0) = false) :
    Calls Try.prog 22 #[.agg #[.bool false, .int .i64 i, .bool s, .slice A l c, .slice B k d, .int .i64 j, .bool r, .slice A2 l2 c2, .slice B2 k2 d2]] w (RetSet false x xS xN xD y yS yN yD w) := by
  have hO := ((((Own.start w).add h1.1).add h1.2).add h2.1).add h2.2
  have hf : True := trivial
  clear h1 h2
  go_enter Try.func22, Try.ntmps22
  go_wp2_with (first | ((with_reducible refine at_box ?_); refine own_box (cs := [.bool false, .int .i64 i, .bool s, .slice A l c, .slice B k d, .int .i64 j, .bool r, .slice A2 l2 c2, .slice B2 k2 d2]) hO rfl rfl ?_; clear hO; intro ga wa hO; clear hf; have hf := hO.cells; simp only [BC, CC, Nat.zero_add, Nat.reduceAdd, and_true] at hf) | ((with_reducible refine at_alloc ?_); refine own_alloc hO zero_set rfl rfl ?_; clear hO; intro g w1 hO; clear hf; have hf := hO.cells; simp only [BC, CC, Nat.zero_add, Nat.reduceAdd, and_true] at hf))
  refine (HP1.out _ ⟨hO.wd 3 rfl, hO.wd 2 rfl⟩).mono ?_
  rintro e w2 ⟨pA, pl, pc, pB, pk, pd, rfl, hR1, hE1⟩
  have hO := ((hO.ext hE1).add hR1.1).add hR1.2
  clear hf
  have hf := hO.cells
  simp only [BC, CC, Nat.zero_add, Nat.reduceAdd, and_true] at hf
  clear hR1 hE1
  go_wp2_with (first | ((with_reducible refine at_alloc ?_); refine own_alloc hO zero_end rfl rfl ?_; clear hO; intro gp w1 hO; clear hf; have hf := hO.cells; simp only [BC, CC, Nat.zero_add, Nat.reduceAdd, and_true] at hf) | ((with_reducible refine at_store (T := 47) ?_); refine own_store (T := 47) hO 0 rfl rfl rfl size_end rfl rfl rfl ?_; clear hO; intro w1 hO; simp only [List.set_cons_zero, List.set_cons_succ, spl, List.take_succ_cons, List.take_zero, List.nil_append, List.cons_append, List.length_cons, List.length_nil, List.drop_succ_cons, List.drop_zero, List.drop_nil, Nat.reduceAdd, Nat.zero_add, List.append_nil] at hO; clear hf; have hf := hO.cells; simp only [BC, CC, Nat.zero_add, Nat.reduceAdd, and_true] at hf))
  refine (HP2.out _ ⟨hO.wd 3 rfl, hO.wd 2 rfl⟩).mono ?_
  rintro e w2 ⟨qA, ql, qc, qB, qk, qd, rfl, hR1, hE1⟩
  have hO := ((hO.ext hE1).add hR1.1).add hR1.2
  clear hf
  have hf := hO.cells
  simp only [BC, CC, Nat.zero_add, Nat.reduceAdd, and_true] at hf
  clear hR1 hE1
  go_wp2_with (first | ((with_reducible refine at_alloc ?_); refine own_alloc hO zero_end rfl rfl ?_; clear hO; intro gq w1 hO; clear hf; have hf := hO.cells; simp only [BC, CC, Nat.zero_add, Nat.reduceAdd, and_true] at hf) | ((with_reducible refine at_store (T := 47) ?_); refine own_store (T := 47) hO 0 rfl rfl rfl size_end rfl rfl rfl ?_; clear hO; intro w1 hO; simp only [List.set_cons_zero, List.set_cons_succ, spl, List.take_succ_cons, List.take_zero, List.nil_append, List.cons_append, List.length_cons, List.length_nil, List.drop_succ_cons, List.drop_zero, List.drop_nil, Nat.reduceAdd, Nat.zero_add, List.append_nil] at hO; clear hf; have hf := hO.cells; simp only [BC, CC, Nat.zero_add, Nat.reduceAdd, and_true] at hf))
  refine (HLE.out _ _ _ _ _ _ _ _ _ _ _ _ _ ⟨hO.wd 3 rfl, hO.wd 2 rfl⟩ ⟨hO.wd 1 rfl, hO.wd 0 rfl⟩).mono ?_
  rintro e w2 ⟨mA, ml, mc, mB, mk, md, rfl, hR1, hE1⟩
  have hO := ((hO.ext hE1).add hR1.1).add hR1.2
  clear hf
  have hf := hO.cells
  simp only [BC, CC, Nat.zero_add, Nat.reduceAdd, and_true] at hf
  clear hR1 hE1
  go_wp2_with (first | ((with_reducible refine at_alloc ?_); refine own_alloc hO zero_end rfl rfl ?_; clear hO; intro gm w1 hO; clear hf; have hf := hO.cells; simp only [BC, CC, Nat.zero_add, Nat.reduceAdd, and_true] at hf) | ((with_reducible refine at_store (T := 47) ?_); refine own_store (T := 47) hO 0 rfl rfl rfl size_end rfl rfl rfl ?_; clear hO; intro w1 hO; simp only [List.set_cons_zero, List.set_cons_succ, spl, List.take_succ_cons, List.take_zero, List.nil_append, List.cons_append, List.length_cons, List.length_nil, List.drop_succ_cons, List.drop_zero, List.drop_nil, Nat.reduceAdd, Nat.zero_add, List.append_nil] at hO; clear hf; have hf := hO.cells; simp only [BC, CC, Nat.zero_add, Nat.reduceAdd, and_true] at hf))
  refine (HS1.out _ ⟨hO.wd 9 rfl, hO.wd 8 rfl⟩).mono ?_
  rintro e w2 ⟨rfl, hE1⟩
  have hO := hO.ext hE1
  clear hf
  have hf := hO.cells
  simp only [BC, CC, Nat.zero_add, Nat.reduceAdd, and_true] at hf
  clear hE1
  go_wp2_with fail
  obtain ⟨S, hS⟩ : ∃ S : World → Prop, S = Own w [⟨gm, 47, [.int .i64 x, .bool xS, .slice mA ml mc, .slice mB mk md]⟩, ⟨gq, 47, [.int .i64 v, .bool vS, .slice qA ql qc, .slice qB qk qd]⟩, ⟨gp, 47, [.int .i64 u, .bool uS, .slice pA pl pc, .slice pB pk pd]⟩, ⟨g, 49, [.bool false, .int .i64 0, .bool false, .slice none 0 0, .slice none 0 0, .int .i64 0, .bool false, .slice none 0 0, .slice none 0 0]⟩, ⟨ga, 49, [.bool false, .int .i64 i, .bool s, .slice A l c, .slice B k d, .int .i64 j, .bool r, .slice A2 l2 c2, .slice B2 k2 d2]⟩] [⟨mB, mk, md, nd xD⟩, ⟨mA, ml, mc, nd xN⟩, ⟨qB, qk, qd, nd vD⟩, ⟨qA, ql, qc, nd vN⟩, ⟨pB, pk, pd, nd uD⟩, ⟨pA, pl, pc, nd uN⟩, ⟨B2, k2, d2, nd D2⟩, ⟨A2, l2, c2, nd N2⟩, ⟨B, k, d, nd D⟩, ⟨A, l, c, nd N⟩] := ⟨_, rfl⟩
  have hSE : ∀ w w', S w → Ext w w' → S w' := fun w w' h1 h2 => by rw [hS] at h1 ⊢; exact h1.ext h2
  have hS1 : S w2.drew := by rw [hS]; exact hO.ext (Ext.refl w2).drew
  have HSX := Lib.hid hS
  clear hS hO hf
  obtain ⟨sp, hsp⟩ : ∃ sp : Nat → Sp, sp = ofList [det (.agg #[.int .i64 x, .bool xS, .slice mA ml mc, .slice mB mk md]), det (.agg #[.int .i64 u, .bool uS, .slice pA pl pc, .slice pB pk pd]), det (.agg #[.int .i64 v, .bool vS, .slice qA ql qc, .slice qB qk qd]), anyOf (fun v wz => ∃ A1 n1 c1 B1 m1 d1, v = .agg #[.int .i64 y, .bool yS, .slice A1 n1 c1, .slice B1 m1 d1] ∧ RatAt wz A1 n1 c1 B1 m1 d1 yN yD), anyOf (fun v wz => ∃ A1 n1 c1 B1 m1 d1, v = .agg #[.bool false, .int .i64 x, .bool xS, .slice mA ml mc, .slice mB mk md, .int .i64 y, .bool yS, .slice A1 n1 c1, .slice B1 m1 d1] ∧ RatAt wz A1 n1 c1 B1 m1 d1 yN yD)] := ⟨_, rfl⟩
  have HSP := Lib.hid hsp
  clear hsp
  refine wp_region_loose 5 S sp (by kernel_rfl) (by kernel_rfl) hS1 hSE ?_
  simp only [List.take_succ_cons, List.take_zero, List.drop_succ_cons, List.drop_zero]
  iterate 3
    refine wpX_step (fun K hK => ?_)
    go_simp
    refine StepY.det (by rw [HSP.out]; rfl) ?_ ?_
    · intro wz hz hF
      rw [HSX.out] at hz
      have hf := hz.facts
      simp only [BF, CF, Nat.zero_add, Nat.reduceAdd, and_true] at hf
      clear hz hF
      go_simp
      exact ⟨rfl, Ext.refl _⟩
    refine hK _ _ ?_
    clear hK K
  refine wpX_step (fun K hK => ?_)
  go_simp
  refine StepY.any (by rw [HSP.out]; rfl) ?_ ?_
  · intro wz hz hF
    rw [HSX.out] at hz
    have q1 : RatAt wz pA pl pc pB pk pd uN uD := ⟨hz.wd 5 rfl, hz.wd 4 rfl⟩
    have q2 : RatAt wz qA ql qc qB qk qd vN vD := ⟨hz.wd 3 rfl, hz.wd 2 rfl⟩
    clear hz hF
    go_simp
    go_at_call 46
    refine (HGR.out _ _ _ _ _ _ _ _ _ _ _ _ _ q1 q2).mono ?_
    rintro e w3 ⟨A1, n1, c1, B1, m1, d1, rfl, hW1, hE1⟩
    exact ⟨_, rfl, ⟨A1, n1, c1, B1, m1, d1, rfl, hW1⟩, hE1⟩
  intro v'
  refine hK _ _ ?_
  clear hK K
  refine wpX_step (fun K hK => ?_)
  go_simp
  refine StepY.any (by rw [HSP.out]; rfl) ?_ ?_
  · intro wz hz hF
    obtain ⟨wa', ea, A5, n5, c5, B5, m5, d5, hv1, hw1⟩ := hF.any 3 (by kernel_rfl) (by rw [HSP.out]; rfl)
    clear hF
    simp only [asFun, List.nil_append, List.cons_append, List.getD_cons_succ, List.getD_cons_zero] at hv1
    subst hv1
    go_simp
    exact ⟨⟨A5, n5, c5, B5, m5, d5, rfl, hw1.ext ea⟩, Ext.refl _⟩
  intro v''
  refine hK _ _ ?_
  clear hK K
  refine wpX_nil ?_
  intro w3 hz hF
  obtain ⟨w0, e0, A5, n5, c5, B5, m5, d5, hv, hw1⟩ := fact_any (hF 4 (by omega)) (by rw [HSP.out]; rfl)
  clear hF
  simp only [asFun, List.nil_append, List.cons_append, List.getD_cons_succ, List.getD_cons_zero] at hv
  subst hv
  rw [HSX.out] at hz
  have hO := (hz.add (hw1.ext e0).1).add (hw1.ext e0).2
  have hf : True := trivial
  clear hz hw1 e0
  go_wp2_with (first | ((with_reducible refine at_store (T := 49) ?_); refine own_store (T := 49) hO 3 rfl rfl rfl size_set rfl rfl rfl ?_; clear hO; intro w1 hO; simp only [List.set_cons_zero, List.set_cons_succ, spl, List.take_succ_cons, List.take_zero, List.nil_append, List.cons_append, List.length_cons, List.length_nil, List.drop_succ_cons, List.drop_zero, List.drop_nil, Nat.reduceAdd, Nat.zero_add, List.append_nil] at hO; clear hf; have hf := hO.cells; simp only [BC, CC, Nat.zero_add, Nat.reduceAdd, and_true] at hf))
  exact own_ret hO 3 rfl rfl rfl agg_set size_set rfl ⟨_, _, _, _, _, _, _, _, _, _, _, _, rfl, ⟨hO.wd 3 rfl, hO.wd 2 rfl⟩, ⟨hO.wd 1 rfl, hO.wd 0 rfl⟩, hO.toExt⟩

set_option maxHeartbeats 8000000 in
theorem square6_n2 (i : Int) (s : Bool) (A : Option Addr) (l c : Nat) (B : Option Addr) (k d N D : Nat) (j : Int) (r : Bool) (A2 : Option Addr) (l2 c2 : Nat) (B2 : Option Addr) (k2 d2 N2 D2 : Nat) (w : World) (h1 : RatAt w A l c B k d N D) (h2 : RatAt w A2 l2 c2 B2 k2 d2 N2 D2) (u : Int) (uS : Bool) (uN uD : Nat) (v : Int) (vS : Bool) (vN vD : Nat) (x : Int) (xS : Bool) (xN xD : Nat) (y : Int) (yS : Bool) (yN yD : Nat) (HP1 : Hid (∀ w, RatAt w A l c B k d N D → Calls Try.prog 42 #[.agg #[.int .i64 i, .bool s, .slice A l c, .slice B k d], .agg #[.int .i64 i, .bool s, .slice A l c, .slice B k d]] w (RetEnd u uS uN uD w)))
    (HP2 : Hid (∀ w, RatAt w A2 l2 c2 B2 k2 d2 N2 D2 → Calls Try.prog 42 #[.agg #[.int .i64 j, .bool r, .slice A2 l2 c2, .slice B2 k2 d2], .agg #[.int .i64 j, .bool r, .slice A2 l2 c2, .slice B2 k2 d2]] w (RetEnd v vS vN vD w)))
    (HLE : Hid (∀ (A3 : Option Addr) (l3 c3 : Nat) (B3 : Option Addr) (k3 d3 : Nat) (A4 : Option Addr) (l4 c4 : Nat) (B4 : Option Addr) (k4 d4 : Nat) w, RatAt w A3 l3 c3 B3 k3 d3 uN uD → RatAt w A4 l4 c4 B4 k4 d4 vN vD → Calls Try.prog 43 #[.agg #[.int .i64 u, .bool uS, .slice A3 l3 c3, .slice B3 k3 d3], .agg #[.int .i64 v, .bool vS, .slice A4 l4 c4, .slice B4 k4 d4]] w (RetEnd x xS xN xD w))) (HGR : Hid (∀ (A3 : Option Addr) (l3 c3 : Nat) (B3 : Option Addr) (k3 d3 : Nat) (A4 : Option Addr) (l4 c4 : Nat) (B4 : Option Addr) (k4 d4 : Nat) w, RatAt w A3 l3 c3 B3 k3 d3 uN uD → RatAt w A4 l4 c4 B4 k4 d4 vN vD → Calls Try.prog 46 #[.agg #[.int .i64 u, .bool uS, .slice A3 l3 c3, .slice B3 k3 d3], .agg #[.int .i64 v, .bool vS, .slice A4 l4 c4, .slice B4 k4 d4]] w (RetEnd y yS yN yD w)))
    (sa sb : Int) (HS1 : Hid (∀ w, RatAt w A l c B k d N D → Calls Try.prog 44 #[.agg #[.int .i64 i, .bool s, .slice A l c, .slice B k d]] w fun e w' => e = .returned (.int .i64 sa) ∧ Ext w w'))
    (HS2 : Hid (∀ w, RatAt w A2 l2 c2 B2 k2 d2 N2 D2 → Calls Try.prog 44 #[.agg #[.int .i64 j, .bool r, .slice A2 l2 c2, .slice B2 k2 d2]] w fun e w' => e = .returned (.int .i64 sb) ∧ Ext w w')) (ha : decide (sa ≤ 0) = true) (hb : decide (0 ≤ sb) = false) :
    Calls Try.prog 22 #[.agg #[.bool false, .int .i64 i, .bool s, .slice A l c, .slice B k d, .int .i64 j, .bool r, .slice A2 l2 c2, .slice B2 k2 d2]] w (RetSet false x xS xN xD y yS yN yD w) := by
  have hO := ((((Own.start w).add h1.1).add h1.2).add h2.1).add h2.2
  have hf : True := trivial
  clear h1 h2
  go_enter Try.func22, Try.ntmps22
  go_wp2_with (first | ((with_reducible refine at_box ?_); refine own_box (cs := [.bool false, .int .i64 i, .bool s, .slice A l c, .slice B k d, .int .i64 j, .bool r, .slice A2 l2 c2, .slice B2 k2 d2]) hO rfl rfl ?_; clear hO; intro ga wa hO; clear hf; have hf := hO.cells; simp only [BC, CC, Nat.zero_add, Nat.reduceAdd, and_true] at hf) | ((with_reducible refine at_alloc ?_); refine own_alloc hO zero_set rfl rfl ?_; clear hO; intro g w1 hO; clear hf; have hf := hO.cells; simp only [BC, CC, Nat.zero_add, Nat.reduceAdd, and_true] at hf))
  refine (HP1.out _ ⟨hO.wd 3 rfl, hO.wd 2 rfl⟩).mono ?_
  rintro e w2 ⟨pA, pl, pc, pB, pk, pd, rfl, hR1, hE1⟩
  have hO := ((hO.ext hE1).add hR1.1).add hR1.2
  clear hf
  have hf := hO.cells
  simp only [BC, CC, Nat.zero_add, Nat.reduceAdd, and_true] at hf
  clear hR1 hE1
  go_wp2_with (first | ((with_reducible refine at_alloc ?_); refine own_alloc hO zero_end rfl rfl ?_; clear hO; intro gp w1 hO; clear hf; have hf := hO.cells; simp only [BC, CC, Nat.zero_add, Nat.reduceAdd, and_true] at hf) | ((with_reducible refine at_store (T := 47) ?_); refine own_store (T := 47) hO 0 rfl rfl rfl size_end rfl rfl rfl ?_; clear hO; intro w1 hO; simp only [List.set_cons_zero, List.set_cons_succ, spl, List.take_succ_cons, List.take_zero, List.nil_append, List.cons_append, List.length_cons, List.length_nil, List.drop_succ_cons, List.drop_zero, List.drop_nil, Nat.reduceAdd, Nat.zero_add, List.append_nil] at hO; clear hf; have hf := hO.cells; simp only [BC, CC, Nat.zero_add, Nat.reduceAdd, and_true] at hf))
  refine (HP2.out _ ⟨hO.wd 3 rfl, hO.wd 2 rfl⟩).mono ?_
  rintro e w2 ⟨qA, ql, qc, qB, qk, qd, rfl, hR1, hE1⟩
  have hO := ((hO.ext hE1).add hR1.1).add hR1.2
  clear hf
  have hf := hO.cells
  simp only [BC, CC, Nat.zero_add, Nat.reduceAdd, and_true] at hf
  clear hR1 hE1
  go_wp2_with (first | ((with_reducible refine at_alloc ?_); refine own_alloc hO zero_end rfl rfl ?_; clear hO; intro gq w1 hO; clear hf; have hf := hO.cells; simp only [BC, CC, Nat.zero_add, Nat.reduceAdd, and_true] at hf) | ((with_reducible refine at_store (T := 47) ?_); refine own_store (T := 47) hO 0 rfl rfl rfl size_end rfl rfl rfl ?_; clear hO; intro w1 hO; simp only [List.set_cons_zero, List.set_cons_succ, spl, List.take_succ_cons, List.take_zero, List.nil_append, List.cons_append, List.length_cons, List.length_nil, List.drop_succ_cons, List.drop_zero, List.drop_nil, Nat.reduceAdd, Nat.zero_add, List.append_nil] at hO; clear hf; have hf := hO.cells; simp only [BC, CC, Nat.zero_add, Nat.reduceAdd, and_true] at hf))
  refine (HLE.out _ _ _ _ _ _ _ _ _ _ _ _ _ ⟨hO.wd 3 rfl, hO.wd 2 rfl⟩ ⟨hO.wd 1 rfl, hO.wd 0 rfl⟩).mono ?_
  rintro e w2 ⟨mA, ml, mc, mB, mk, md, rfl, hR1, hE1⟩
  have hO := ((hO.ext hE1).add hR1.1).add hR1.2
  clear hf
  have hf := hO.cells
  simp only [BC, CC, Nat.zero_add, Nat.reduceAdd, and_true] at hf
  clear hR1 hE1
  go_wp2_with (first | ((with_reducible refine at_alloc ?_); refine own_alloc hO zero_end rfl rfl ?_; clear hO; intro gm w1 hO; clear hf; have hf := hO.cells; simp only [BC, CC, Nat.zero_add, Nat.reduceAdd, and_true] at hf) | ((with_reducible refine at_store (T := 47) ?_); refine own_store (T := 47) hO 0 rfl rfl rfl size_end rfl rfl rfl ?_; clear hO; intro w1 hO; simp only [List.set_cons_zero, List.set_cons_succ, spl, List.take_succ_cons, List.take_zero, List.nil_append, List.cons_append, List.length_cons, List.length_nil, List.drop_succ_cons, List.drop_zero, List.drop_nil, Nat.reduceAdd, Nat.zero_add, List.append_nil] at hO; clear hf; have hf := hO.cells; simp only [BC, CC, Nat.zero_add, Nat.reduceAdd, and_true] at hf))
  refine (HS1.out _ ⟨hO.wd 9 rfl, hO.wd 8 rfl⟩).mono ?_
  rintro e w2 ⟨rfl, hE1⟩
  have hO := hO.ext hE1
  clear hf
  have hf := hO.cells
  simp only [BC, CC, Nat.zero_add, Nat.reduceAdd, and_true] at hf
  clear hE1
  go_wp2_with fail
  refine (HS2.out _ ⟨hO.wd 7 rfl, hO.wd 6 rfl⟩).mono ?_
  rintro e w2 ⟨rfl, hE1⟩
  have hO := hO.ext hE1
  clear hf
  have hf := hO.cells
  simp only [BC, CC, Nat.zero_add, Nat.reduceAdd, and_true] at hf
  clear hE1
  go_wp2_with fail
  obtain ⟨S, hS⟩ : ∃ S : World → Prop, S = Own w [⟨gm, 47, [.int .i64 x, .bool xS, .slice mA ml mc, .slice mB mk md]⟩, ⟨gq, 47, [.int .i64 v, .bool vS, .slice qA ql qc, .slice qB qk qd]⟩, ⟨gp, 47, [.int .i64 u, .bool uS, .slice pA pl pc, .slice pB pk pd]⟩, ⟨g, 49, [.bool false, .int .i64 0, .bool false, .slice none 0 0, .slice none 0 0, .int .i64 0, .bool false, .slice none 0 0, .slice none 0 0]⟩, ⟨ga, 49, [.bool false, .int .i64 i, .bool s, .slice A l c, .slice B k d, .int .i64 j, .bool r, .slice A2 l2 c2, .slice B2 k2 d2]⟩] [⟨mB, mk, md, nd xD⟩, ⟨mA, ml, mc, nd xN⟩, ⟨qB, qk, qd, nd vD⟩, ⟨qA, ql, qc, nd vN⟩, ⟨pB, pk, pd, nd uD⟩, ⟨pA, pl, pc, nd uN⟩, ⟨B2, k2, d2, nd D2⟩, ⟨A2, l2, c2, nd N2⟩, ⟨B, k, d, nd D⟩, ⟨A, l, c, nd N⟩] := ⟨_, rfl⟩
  have hSE : ∀ w w', S w → Ext w w' → S w' := fun w w' h1 h2 => by rw [hS] at h1 ⊢; exact h1.ext h2
  have hS1 : S w2.drew := by rw [hS]; exact hO.ext (Ext.refl w2).drew
  have HSX := Lib.hid hS
  clear hS hO hf
  obtain ⟨sp, hsp⟩ : ∃ sp : Nat → Sp, sp = ofList [det (.agg #[.int .i64 x, .bool xS, .slice mA ml mc, .slice mB mk md]), det (.agg #[.int .i64 u, .bool uS, .slice pA pl pc, .slice pB pk pd]), det (.agg #[.int .i64 v, .bool vS, .slice qA ql qc, .slice qB qk qd]), anyOf (fun v wz => ∃ A1 n1 c1 B1 m1 d1, v = .agg #[.int .i64 y, .bool yS, .slice A1 n1 c1, .slice B1 m1 d1] ∧ RatAt wz A1 n1 c1 B1 m1 d1 yN yD), anyOf (fun v wz => ∃ A1 n1 c1 B1 m1 d1, v = .agg #[.bool false, .int .i64 x, .bool xS, .slice mA ml mc, .slice mB mk md, .int .i64 y, .bool yS, .slice A1 n1 c1, .slice B1 m1 d1] ∧ RatAt wz A1 n1 c1 B1 m1 d1 yN yD)] := ⟨_, rfl⟩
  have HSP := Lib.hid hsp
  clear hsp
  refine wp_region_loose 5 S sp (by kernel_rfl) (by kernel_rfl) hS1 hSE ?_
  simp only [List.take_succ_cons, List.take_zero, List.drop_succ_cons, List.drop_zero]
  iterate 3
    refine wpX_step (fun K hK => ?_)
    go_simp
    refine StepY.det (by rw [HSP.out]; rfl) ?_ ?_
    · intro wz hz hF
      rw [HSX.out] at hz
      have hf := hz.facts
      simp only [BF, CF, Nat.zero_add, Nat.reduceAdd, and_true] at hf
      clear hz hF
      go_simp
      exact ⟨rfl, Ext.refl _⟩
    refine hK _ _ ?_
    clear hK K
  refine wpX_step (fun K hK => ?_)
  go_simp
  refine StepY.any (by rw [HSP.out]; rfl) ?_ ?_
  · intro wz hz hF
    rw [HSX.out] at hz
    have q1 : RatAt wz pA pl pc pB pk pd uN uD := ⟨hz.wd 5 rfl, hz.wd 4 rfl⟩
    have q2 : RatAt wz qA ql qc qB qk qd vN vD := ⟨hz.wd 3 rfl, hz.wd 2 rfl⟩
    clear hz hF
    go_simp
    go_at_call 46
    refine (HGR.out _ _ _ _ _ _ _ _ _ _ _ _ _ q1 q2).mono ?_
    rintro e w3 ⟨A1, n1, c1, B1, m1, d1, rfl, hW1, hE1⟩
    exact ⟨_, rfl, ⟨A1, n1, c1, B1, m1, d1, rfl, hW1⟩, hE1⟩
  intro v'
  refine hK _ _ ?_
  clear hK K
  refine wpX_step (fun K hK => ?_)
  go_simp
  refine StepY.any (by rw [HSP.out]; rfl) ?_ ?_
  · intro wz hz hF
    obtain ⟨wa', ea, A5, n5, c5, B5, m5, d5, hv1, hw1⟩ := hF.any 3 (by kernel_rfl) (by rw [HSP.out]; rfl)
    clear hF
    simp only [asFun, List.nil_append, List.cons_append, List.getD_cons_succ, List.getD_cons_zero] at hv1
    subst hv1
    go_simp
    exact ⟨⟨A5, n5, c5, B5, m5, d5, rfl, hw1.ext ea⟩, Ext.refl _⟩
  intro v''
  refine hK _ _ ?_
  clear hK K
  refine wpX_nil ?_
  intro w3 hz hF
  obtain ⟨w0, e0, A5, n5, c5, B5, m5, d5, hv, hw1⟩ := fact_any (hF 4 (by omega)) (by rw [HSP.out]; rfl)
  clear hF
  simp only [asFun, List.nil_append, List.cons_append, List.getD_cons_succ, List.getD_cons_zero] at hv
  subst hv
  rw [HSX.out] at hz
  have hO := (hz.add (hw1.ext e0).1).add (hw1.ext e0).2
  have hf : True := trivial
  clear hz hw1 e0
  go_wp2_with (first | ((with_reducible refine at_store (T := 49) ?_); refine own_store (T := 49) hO 3 rfl rfl rfl size_set rfl rfl rfl ?_; clear hO; intro w1 hO; simp only [List.set_cons_zero, List.set_cons_succ, spl, List.take_succ_cons, List.take_zero, List.nil_append, List.cons_append, List.length_cons, List.length_nil, List.drop_succ_cons, List.drop_zero, List.drop_nil, Nat.reduceAdd, Nat.zero_add, List.append_nil] at hO; clear hf; have hf := hO.cells; simp only [BC, CC, Nat.zero_add, Nat.reduceAdd, and_true] at hf))
  exact own_ret hO 3 rfl rfl rfl agg_set size_set rfl ⟨_, _, _, _, _, _, _, _, _, _, _, _, rfl, ⟨hO.wd 3 rfl, hO.wd 2 rfl⟩, ⟨hO.wd 1 rfl, hO.wd 0 rfl⟩, hO.toExt⟩

end Go.Proofs.Ytllfcklgljdgeaa
