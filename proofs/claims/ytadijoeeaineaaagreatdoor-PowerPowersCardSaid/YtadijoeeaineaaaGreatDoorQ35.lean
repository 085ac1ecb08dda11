/-
  The contract of the document's magnitudes of a set. Conditions: those that each theorem names.
-/
import Derived.Test.YtadijoeeaineaaaGreatDoorQ06
import Derived.Test.YtadijoeeaineaaaGreatDoorQ34
import Derived.Test.YtadijoeeaineaaaGreatDoorQ15
import Derived.Test.YtadijoeeaineaaaGreatDoorQ17
namespace Go.Proofs.YtadijoeeaineaaaGreatDoor
open Go.RowKit Nm Rn
set_option maxRecDepth 100000
set_option linter.unusedVariables false
set_option linter.unusedSimpArgs false

theorem agg_sety (w : World) : (isAgg 57).run Tryz.prog w = .ok true w := by kernel_rfl

set_option maxHeartbeats 4000000 in
theorem szb_na (i1 : Int) (s1 : Bool) (A1 : Option Addr) (l1 c1 : Nat) (B1 : Option Addr) (k1 d1 N1 D1 : Nat) (i2 : Int) (s2 : Bool) (A2 : Option Addr) (l2 c2 : Nat) (B2 : Option Addr) (k2 d2 N2 D2 : Nat) (i3 : Int) (s3 : Bool) (N3 D3 : Nat) (i4 : Int) (s4 : Bool) (N4 D4 : Nat) (Nz Dz : Nat) (x y1 y2 : Int) (w : World) (h1 : RatAt w A1 l1 c1 B1 k1 d1 N1 D1) (h2 : RatAt w A2 l2 c2 B2 k2 d2 N2 D2)
    (HM1 : Hid (∀ w, RatAt w A1 l1 c1 B1 k1 d1 N1 D1 → Calls Tryz.prog 90 #[.agg #[.int .i64 i1, .bool s1, .slice A1 l1 c1, .slice B1 k1 d1]] w (RetEnd i3 s3 N3 D3 w))) (HM2 : Hid (∀ w, RatAt w A2 l2 c2 B2 k2 d2 N2 D2 → Calls Tryz.prog 90 #[.agg #[.int .i64 i2, .bool s2, .slice A2 l2 c2, .slice B2 k2 d2]] w (RetEnd i4 s4 N4 D4 w)))
    (HC : Hid (∀ (A3 : Option Addr) (l3 c3 : Nat) (B3 : Option Addr) (k3 d3 : Nat) (A4 : Option Addr) (l4 c4 : Nat) (B4 : Option Addr) (k4 d4 : Nat) (w : World), RatAt w A3 l3 c3 B3 k3 d3 N3 D3 → RatAt w A4 l4 c4 B4 k4 d4 N4 D4 → Calls Tryz.prog 91 #[.agg #[.int .i64 i3, .bool s3, .slice A3 l3 c3, .slice B3 k3 d3], .agg #[.int .i64 i4, .bool s4, .slice A4 l4 c4, .slice B4 k4 d4]] w fun e w' => e = .returned (.int .i64 x) ∧ Ext w w'))
    (HSA : Hid (∀ w, RatAt w A1 l1 c1 B1 k1 d1 N1 D1 → Calls Tryz.prog 92 #[.agg #[.int .i64 i1, .bool s1, .slice A1 l1 c1, .slice B1 k1 d1]] w fun e w' => e = .returned (.int .i64 y1) ∧ Ext w w')) (HSB : Hid (∀ w, RatAt w A2 l2 c2 B2 k2 d2 N2 D2 → Calls Tryz.prog 92 #[.agg #[.int .i64 i2, .bool s2, .slice A2 l2 c2, .slice B2 k2 d2]] w fun e w' => e = .returned (.int .i64 y2) ∧ Ext w w')) (HF_ : Hid (∀ w, Calls Tryz.prog 59 #[.int .i64 0] w (RetEnd 0 false Nz Dz w)))
    (x1 : decide (0 < x) = false) (x2 : decide (y1 ≤ 0) = false) :
    Calls Tryz.prog 63 #[.agg #[.bool false, .int .i64 i1, .bool s1, .slice A1 l1 c1, .slice B1 k1 d1, .int .i64 i2, .bool s2, .slice A2 l2 c2, .slice B2 k2 d2]] w (RetSet false i3 s3 N3 D3 i4 s4 N4 D4 w) := by
  have hO := ((((Own.start w).add h1.1).add h1.2).add h2.1).add h2.2
  have hf : True := trivial
  clear h1 h2
  go_enter Tryz.func63, Tryz.ntmps63
  go_wp2_with (first | ((with_reducible refine at_box ?_); refine own_box (cs := [.bool false, .int .i64 i1, .bool s1, .slice A1 l1 c1, .slice B1 k1 d1, .int .i64 i2, .bool s2, .slice A2 l2 c2, .slice B2 k2 d2]) hO rfl rfl ?_; clear hO; intro ga wa hO; clear hf; have hf := hO.cells; simp only [BC, CC, Nat.zero_add, Nat.reduceAdd, and_true] at hf) | ((with_reducible refine at_alloc ?_); refine own_alloc hO zero_seth rfl rfl ?_; clear hO; intro g wc hO; clear hf; have hf := hO.cells; simp only [BC, CC, Nat.zero_add, Nat.reduceAdd, and_true] at hf))
  refine (HM1.out _ ⟨hO.wd 3 rfl, hO.wd 2 rfl⟩).mono ?_
  rintro e w9 ⟨A3, l3, c3, B3, k3, d3, rfl, ⟨hW1, hW2⟩, hE1⟩
  have hO := ((hO.ext hE1).add hW1).add hW2
  clear hW1 hW2 hE1
  clear hf
  have hf := hO.cells
  simp only [BC, CC, Nat.zero_add, Nat.reduceAdd, and_true] at hf
  go_wp2_with (first | ((with_reducible refine at_alloc ?_); refine own_alloc hO zero_endh rfl rfl ?_; clear hO; intro g3 wd hO; clear hf; have hf := hO.cells; simp only [BC, CC, Nat.zero_add, Nat.reduceAdd, and_true] at hf) | ((with_reducible refine at_store (T := 55) ?_); refine own_store (T := 55) hO 0 rfl rfl rfl size_endh rfl rfl rfl ?_; clear hO; intro we hO; simp only [List.set_cons_zero, List.set_cons_succ, spl, List.take_succ_cons, List.take_zero, List.nil_append, List.cons_append, List.length_cons, List.length_nil, List.drop_succ_cons, List.drop_zero, List.drop_nil, Nat.reduceAdd, Nat.zero_add, List.append_nil] at hO; clear hf; have hf := hO.cells; simp only [BC, CC, Nat.zero_add, Nat.reduceAdd, and_true] at hf))
  refine (HM2.out _ ⟨hO.wd 3 rfl, hO.wd 2 rfl⟩).mono ?_
  rintro e w9 ⟨A4, l4, c4, B4, k4, d4, rfl, ⟨hW1, hW2⟩, hE1⟩
  have hO := ((hO.ext hE1).add hW1).add hW2
  clear hW1 hW2 hE1
  clear hf
  have hf := hO.cells
  simp only [BC, CC, Nat.zero_add, Nat.reduceAdd, and_true] at hf
  go_wp2_with (first | ((with_reducible refine at_alloc ?_); refine own_alloc hO zero_endh rfl rfl ?_; clear hO; intro g4 wf hO; clear hf; have hf := hO.cells; simp only [BC, CC, Nat.zero_add, Nat.reduceAdd, and_true] at hf) | ((with_reducible refine at_store (T := 55) ?_); refine own_store (T := 55) hO 0 rfl rfl rfl size_endh rfl rfl rfl ?_; clear hO; intro wg hO; simp only [List.set_cons_zero, List.set_cons_succ, spl, List.take_succ_cons, List.take_zero, List.nil_append, List.cons_append, List.length_cons, List.length_nil, List.drop_succ_cons, List.drop_zero, List.drop_nil, Nat.reduceAdd, Nat.zero_add, List.append_nil] at hO; clear hf; have hf := hO.cells; simp only [BC, CC, Nat.zero_add, Nat.reduceAdd, and_true] at hf))
  refine (HC.out _ _ _ _ _ _ _ _ _ _ _ _ _ ⟨hO.wd 3 rfl, hO.wd 2 rfl⟩ ⟨hO.wd 1 rfl, hO.wd 0 rfl⟩).mono ?_
  rintro e w5 ⟨rfl, hE1⟩
  have hO := hO.ext hE1
  clear hE1
  clear hf
  have hf := hO.cells
  simp only [BC, CC, Nat.zero_add, Nat.reduceAdd, and_true] at hf
  go_wp2_with fail
  refine (HSA.out _ ⟨hO.wd 7 rfl, hO.wd 6 rfl⟩).mono ?_
  rintro e w6 ⟨rfl, hE1⟩
  have hO := hO.ext hE1
  clear hE1
  clear hf
  have hf := hO.cells
  simp only [BC, CC, Nat.zero_add, Nat.reduceAdd, and_true] at hf
  go_wp2_with ((with_reducible refine at_store (T := 57) ?_); refine own_store (T := 57) hO 2 rfl rfl rfl size_seth rfl rfl rfl ?_; clear hO; intro wz hO; simp only [List.set_cons_zero, List.set_cons_succ, spl, List.take_succ_cons, List.take_zero, List.nil_append, List.cons_append, List.length_cons, List.length_nil, List.drop_succ_cons, List.drop_zero, List.drop_nil, Nat.reduceAdd, Nat.zero_add, List.append_nil] at hO; clear hf; have hf := hO.cells; simp only [BC, CC, Nat.zero_add, Nat.reduceAdd, and_true] at hf)
  exact own_ret hO 2 rfl rfl rfl agg_sety size_seth rfl ⟨_, _, _, _, _, _, _, _, _, _, _, _, rfl, ⟨hO.wd 3 rfl, hO.wd 2 rfl⟩, ⟨hO.wd 1 rfl, hO.wd 0 rfl⟩, hO.toExt⟩

set_option maxHeartbeats 4000000 in
theorem szb_nb (i1 : Int) (s1 : Bool) (A1 : Option Addr) (l1 c1 : Nat) (B1 : Option Addr) (k1 d1 N1 D1 : Nat) (i2 : Int) (s2 : Bool) (A2 : Option Addr) (l2 c2 : Nat) (B2 : Option Addr) (k2 d2 N2 D2 : Nat) (i3 : Int) (s3 : Bool) (N3 D3 : Nat) (i4 : Int) (s4 : Bool) (N4 D4 : Nat) (Nz Dz : Nat) (x y1 y2 : Int) (w : World) (h1 : RatAt w A1 l1 c1 B1 k1 d1 N1 D1) (h2 : RatAt w A2 l2 c2 B2 k2 d2 N2 D2)
    (HM1 : Hid (∀ w, RatAt w A1 l1 c1 B1 k1 d1 N1 D1 → Calls Tryz.prog 90 #[.agg #[.int .i64 i1, .bool s1, .slice A1 l1 c1, .slice B1 k1 d1]] w (RetEnd i3 s3 N3 D3 w))) (HM2 : Hid (∀ w, RatAt w A2 l2 c2 B2 k2 d2 N2 D2 → Calls Tryz.prog 90 #[.agg #[.int .i64 i2, .bool s2, .slice A2 l2 c2, .slice B2 k2 d2]] w (RetEnd i4 s4 N4 D4 w)))
    (HC : Hid (∀ (A3 : Option Addr) (l3 c3 : Nat) (B3 : Option Addr) (k3 d3 : Nat) (A4 : Option Addr) (l4 c4 : Nat) (B4 : Option Addr) (k4 d4 : Nat) (w : World), RatAt w A3 l3 c3 B3 k3 d3 N3 D3 → RatAt w A4 l4 c4 B4 k4 d4 N4 D4 → Calls Tryz.prog 91 #[.agg #[.int .i64 i3, .bool s3, .slice A3 l3 c3, .slice B3 k3 d3], .agg #[.int .i64 i4, .bool s4, .slice A4 l4 c4, .slice B4 k4 d4]] w fun e w' => e = .returned (.int .i64 x) ∧ Ext w w'))
    (HSA : Hid (∀ w, RatAt w A1 l1 c1 B1 k1 d1 N1 D1 → Calls Tryz.prog 92 #[.agg #[.int .i64 i1, .bool s1, .slice A1 l1 c1, .slice B1 k1 d1]] w fun e w' => e = .returned (.int .i64 y1) ∧ Ext w w')) (HSB : Hid (∀ w, RatAt w A2 l2 c2 B2 k2 d2 N2 D2 → Calls Tryz.prog 92 #[.agg #[.int .i64 i2, .bool s2, .slice A2 l2 c2, .slice B2 k2 d2]] w fun e w' => e = .returned (.int .i64 y2) ∧ Ext w w')) (HF_ : Hid (∀ w, Calls Tryz.prog 59 #[.int .i64 0] w (RetEnd 0 false Nz Dz w)))
    (x1 : decide (0 < x) = false) (x2 : decide (y1 ≤ 0) = true) (x3 : decide (0 ≤ y2) = false) :
    Calls Tryz.prog 63 #[.agg #[.bool false, .int .i64 i1, .bool s1, .slice A1 l1 c1, .slice B1 k1 d1, .int .i64 i2, .bool s2, .slice A2 l2 c2, .slice B2 k2 d2]] w (RetSet false i3 s3 N3 D3 i4 s4 N4 D4 w) := by
  have hO := ((((Own.start w).add h1.1).add h1.2).add h2.1).add h2.2
  have hf : True := trivial
  clear h1 h2
  go_enter Tryz.func63, Tryz.ntmps63
  go_wp2_with (first | ((with_reducible refine at_box ?_); refine own_box (cs := [.bool false, .int .i64 i1, .bool s1, .slice A1 l1 c1, .slice B1 k1 d1, .int .i64 i2, .bool s2, .slice A2 l2 c2, .slice B2 k2 d2]) hO rfl rfl ?_; clear hO; intro ga wa hO; clear hf; have hf := hO.cells; simp only [BC, CC, Nat.zero_add, Nat.reduceAdd, and_true] at hf) | ((with_reducible refine at_alloc ?_); refine own_alloc hO zero_seth rfl rfl ?_; clear hO; intro g wc hO; clear hf; have hf := hO.cells; simp only [BC, CC, Nat.zero_add, Nat.reduceAdd, and_true] at hf))
  refine (HM1.out _ ⟨hO.wd 3 rfl, hO.wd 2 rfl⟩).mono ?_
  rintro e w9 ⟨A3, l3, c3, B3, k3, d3, rfl, ⟨hW1, hW2⟩, hE1⟩
  have hO := ((hO.ext hE1).add hW1).add hW2
  clear hW1 hW2 hE1
  clear hf
  have hf := hO.cells
  simp only [BC, CC, Nat.zero_add, Nat.reduceAdd, and_true] at hf
  go_wp2_with (first | ((with_reducible refine at_alloc ?_); refine own_alloc hO zero_endh rfl rfl ?_; clear hO; intro g3 wd hO; clear hf; have hf := hO.cells; simp only [BC, CC, Nat.zero_add, Nat.reduceAdd, and_true] at hf) | ((with_reducible refine at_store (T := 55) ?_); refine own_store (T := 55) hO 0 rfl rfl rfl size_endh rfl rfl rfl ?_; clear hO; intro we hO; simp only [List.set_cons_zero, List.set_cons_succ, spl, List.take_succ_cons, List.take_zero, List.nil_append, List.cons_append, List.length_cons, List.length_nil, List.drop_succ_cons, List.drop_zero, List.drop_nil, Nat.reduceAdd, Nat.zero_add, List.append_nil] at hO; clear hf; have hf := hO.cells; simp only [BC, CC, Nat.zero_add, Nat.reduceAdd, and_true] at hf))
  refine (HM2.out _ ⟨hO.wd 3 rfl, hO.wd 2 rfl⟩).mono ?_
  rintro e w9 ⟨A4, l4, c4, B4, k4, d4, rfl, ⟨hW1, hW2⟩, hE1⟩
  have hO := ((hO.ext hE1).add hW1).add hW2
  clear hW1 hW2 hE1
  clear hf
  have hf := hO.cells
  simp only [BC, CC, Nat.zero_add, Nat.reduceAdd, and_true] at hf
  go_wp2_with (first | ((with_reducible refine at_alloc ?_); refine own_alloc hO zero_endh rfl rfl ?_; clear hO; intro g4 wf hO; clear hf; have hf := hO.cells; simp only [BC, CC, Nat.zero_add, Nat.reduceAdd, and_true] at hf) | ((with_reducible refine at_store (T := 55) ?_); refine own_store (T := 55) hO 0 rfl rfl rfl size_endh rfl rfl rfl ?_; clear hO; intro wg hO; simp only [List.set_cons_zero, List.set_cons_succ, spl, List.take_succ_cons, List.take_zero, List.nil_append, List.cons_append, List.length_cons, List.length_nil, List.drop_succ_cons, List.drop_zero, List.drop_nil, Nat.reduceAdd, Nat.zero_add, List.append_nil] at hO; clear hf; have hf := hO.cells; simp only [BC, CC, Nat.zero_add, Nat.reduceAdd, and_true] at hf))
  refine (HC.out _ _ _ _ _ _ _ _ _ _ _ _ _ ⟨hO.wd 3 rfl, hO.wd 2 rfl⟩ ⟨hO.wd 1 rfl, hO.wd 0 rfl⟩).mono ?_
  rintro e w5 ⟨rfl, hE1⟩
  have hO := hO.ext hE1
  clear hE1
  clear hf
  have hf := hO.cells
  simp only [BC, CC, Nat.zero_add, Nat.reduceAdd, and_true] at hf
  go_wp2_with fail
  refine (HSA.out _ ⟨hO.wd 7 rfl, hO.wd 6 rfl⟩).mono ?_
  rintro e w6 ⟨rfl, hE1⟩
  have hO := hO.ext hE1
  clear hE1
  clear hf
  have hf := hO.cells
  simp only [BC, CC, Nat.zero_add, Nat.reduceAdd, and_true] at hf
  go_wp2_with fail
  refine (HSB.out _ ⟨hO.wd 5 rfl, hO.wd 4 rfl⟩).mono ?_
  rintro e w7 ⟨rfl, hE1⟩
  have hO := hO.ext hE1
  clear hE1
  clear hf
  have hf := hO.cells
  simp only [BC, CC, Nat.zero_add, Nat.reduceAdd, and_true] at hf
  go_wp2_with ((with_reducible refine at_store (T := 57) ?_); refine own_store (T := 57) hO 2 rfl rfl rfl size_seth rfl rfl rfl ?_; clear hO; intro wz hO; simp only [List.set_cons_zero, List.set_cons_succ, spl, List.take_succ_cons, List.take_zero, List.nil_append, List.cons_append, List.length_cons, List.length_nil, List.drop_succ_cons, List.drop_zero, List.drop_nil, Nat.reduceAdd, Nat.zero_add, List.append_nil] at hO; clear hf; have hf := hO.cells; simp only [BC, CC, Nat.zero_add, Nat.reduceAdd, and_true] at hf)
  exact own_ret hO 2 rfl rfl rfl agg_sety size_seth rfl ⟨_, _, _, _, _, _, _, _, _, _, _, _, rfl, ⟨hO.wd 3 rfl, hO.wd 2 rfl⟩, ⟨hO.wd 1 rfl, hO.wd 0 rfl⟩, hO.toExt⟩

set_option maxHeartbeats 4000000 in
theorem szb_nc (i1 : Int) (s1 : Bool) (A1 : Option Addr) (l1 c1 : Nat) (B1 : Option Addr) (k1 d1 N1 D1 : Nat) (i2 : Int) (s2 : Bool) (A2 : Option Addr) (l2 c2 : Nat) (B2 : Option Addr) (k2 d2 N2 D2 : Nat) (i3 : Int) (s3 : Bool) (N3 D3 : Nat) (i4 : Int) (s4 : Bool) (N4 D4 : Nat) (Nz Dz : Nat) (x y1 y2 : Int) (w : World) (h1 : RatAt w A1 l1 c1 B1 k1 d1 N1 D1) (h2 : RatAt w A2 l2 c2 B2 k2 d2 N2 D2)
    (HM1 : Hid (∀ w, RatAt w A1 l1 c1 B1 k1 d1 N1 D1 → Calls Tryz.prog 90 #[.agg #[.int .i64 i1, .bool s1, .slice A1 l1 c1, .slice B1 k1 d1]] w (RetEnd i3 s3 N3 D3 w))) (HM2 : Hid (∀ w, RatAt w A2 l2 c2 B2 k2 d2 N2 D2 → Calls Tryz.prog 90 #[.agg #[.int .i64 i2, .bool s2, .slice A2 l2 c2, .slice B2 k2 d2]] w (RetEnd i4 s4 N4 D4 w)))
    (HC : Hid (∀ (A3 : Option Addr) (l3 c3 : Nat) (B3 : Option Addr) (k3 d3 : Nat) (A4 : Option Addr) (l4 c4 : Nat) (B4 : Option Addr) (k4 d4 : Nat) (w : World), RatAt w A3 l3 c3 B3 k3 d3 N3 D3 → RatAt w A4 l4 c4 B4 k4 d4 N4 D4 → Calls Tryz.prog 91 #[.agg #[.int .i64 i3, .bool s3, .slice A3 l3 c3, .slice B3 k3 d3], .agg #[.int .i64 i4, .bool s4, .slice A4 l4 c4, .slice B4 k4 d4]] w fun e w' => e = .returned (.int .i64 x) ∧ Ext w w'))
    (HSA : Hid (∀ w, RatAt w A1 l1 c1 B1 k1 d1 N1 D1 → Calls Tryz.prog 92 #[.agg #[.int .i64 i1, .bool s1, .slice A1 l1 c1, .slice B1 k1 d1]] w fun e w' => e = .returned (.int .i64 y1) ∧ Ext w w')) (HSB : Hid (∀ w, RatAt w A2 l2 c2 B2 k2 d2 N2 D2 → Calls Tryz.prog 92 #[.agg #[.int .i64 i2, .bool s2, .slice A2 l2 c2, .slice B2 k2 d2]] w fun e w' => e = .returned (.int .i64 y2) ∧ Ext w w')) (HF_ : Hid (∀ w, Calls Tryz.prog 59 #[.int .i64 0] w (RetEnd 0 false Nz Dz w)))
    (x1 : decide (0 < x) = false) (x2 : decide (y1 ≤ 0) = true) (x3 : decide (0 ≤ y2) = true) :
    Calls Tryz.prog 63 #[.agg #[.bool false, .int .i64 i1, .bool s1, .slice A1 l1 c1, .slice B1 k1 d1, .int .i64 i2, .bool s2, .slice A2 l2 c2, .slice B2 k2 d2]] w (RetSet false 0 false Nz Dz i4 s4 N4 D4 w) := by
  have hO := ((((Own.start w).add h1.1).add h1.2).add h2.1).add h2.2
  have hf : True := trivial
  clear h1 h2
  go_enter Tryz.func63, Tryz.ntmps63
  go_wp2_with (first | ((with_reducible refine at_box ?_); refine own_box (cs := [.bool false, .int .i64 i1, .bool s1, .slice A1 l1 c1, .slice B1 k1 d1, .int .i64 i2, .bool s2, .slice A2 l2 c2, .slice B2 k2 d2]) hO rfl rfl ?_; clear hO; intro ga wa hO; clear hf; have hf := hO.cells; simp only [BC, CC, Nat.zero_add, Nat.reduceAdd, and_true] at hf) | ((with_reducible refine at_alloc ?_); refine own_alloc hO zero_seth rfl rfl ?_; clear hO; intro g wc hO; clear hf; have hf := hO.cells; simp only [BC, CC, Nat.zero_add, Nat.reduceAdd, and_true] at hf))
  refine (HM1.out _ ⟨hO.wd 3 rfl, hO.wd 2 rfl⟩).mono ?_
  rintro e w9 ⟨A3, l3, c3, B3, k3, d3, rfl, ⟨hW1, hW2⟩, hE1⟩
  have hO := ((hO.ext hE1).add hW1).add hW2
  clear hW1 hW2 hE1
  clear hf
  have hf := hO.cells
  simp only [BC, CC, Nat.zero_add, Nat.reduceAdd, and_true] at hf
  go_wp2_with (first | ((with_reducible refine at_alloc ?_); refine own_alloc hO zero_endh rfl rfl ?_; clear hO; intro g3 wd hO; clear hf; have hf := hO.cells; simp only [BC, CC, Nat.zero_add, Nat.reduceAdd, and_true] at hf) | ((with_reducible refine at_store (T := 55) ?_); refine own_store (T := 55) hO 0 rfl rfl rfl size_endh rfl rfl rfl ?_; clear hO; intro we hO; simp only [List.set_cons_zero, List.set_cons_succ, spl, List.take_succ_cons, List.take_zero, List.nil_append, List.cons_append, List.length_cons, List.length_nil, List.drop_succ_cons, List.drop_zero, List.drop_nil, Nat.reduceAdd, Nat.zero_add, List.append_nil] at hO; clear hf; have hf := hO.cells; simp only [BC, CC, Nat.zero_add, Nat.reduceAdd, and_true] at hf))
  refine (HM2.out _ ⟨hO.wd 3 rfl, hO.wd 2 rfl⟩).mono ?_
  rintro e w9 ⟨A4, l4, c4, B4, k4, d4, rfl, ⟨hW1, hW2⟩, hE1⟩
  have hO := ((hO.ext hE1).add hW1).add hW2
  clear hW1 hW2 hE1
  clear hf
  have hf := hO.cells
  simp only [BC, CC, Nat.zero_add, Nat.reduceAdd, and_true] at hf
  go_wp2_with (first | ((with_reducible refine at_alloc ?_); refine own_alloc hO zero_endh rfl rfl ?_; clear hO; intro g4 wf hO; clear hf; have hf := hO.cells; simp only [BC, CC, Nat.zero_add, Nat.reduceAdd, and_true] at hf) | ((with_reducible refine at_store (T := 55) ?_); refine own_store (T := 55) hO 0 rfl rfl rfl size_endh rfl rfl rfl ?_; clear hO; intro wg hO; simp only [List.set_cons_zero, List.set_cons_succ, spl, List.take_succ_cons, List.take_zero, List.nil_append, List.cons_append, List.length_cons, List.length_nil, List.drop_succ_cons, List.drop_zero, List.drop_nil, Nat.reduceAdd, Nat.zero_add, List.append_nil] at hO; clear hf; have hf := hO.cells; simp only [BC, CC, Nat.zero_add, Nat.reduceAdd, and_true] at hf))
  refine (HC.out _ _ _ _ _ _ _ _ _ _ _ _ _ ⟨hO.wd 3 rfl, hO.wd 2 rfl⟩ ⟨hO.wd 1 rfl, hO.wd 0 rfl⟩).mono ?_
  rintro e w5 ⟨rfl, hE1⟩
  have hO := hO.ext hE1
  clear hE1
  clear hf
  have hf := hO.cells
  simp only [BC, CC, Nat.zero_add, Nat.reduceAdd, and_true] at hf
  go_wp2_with fail
  refine (HSA.out _ ⟨hO.wd 7 rfl, hO.wd 6 rfl⟩).mono ?_
  rintro e w6 ⟨rfl, hE1⟩
  have hO := hO.ext hE1
  clear hE1
  clear hf
  have hf := hO.cells
  simp only [BC, CC, Nat.zero_add, Nat.reduceAdd, and_true] at hf
  go_wp2_with fail
  refine (HSB.out _ ⟨hO.wd 5 rfl, hO.wd 4 rfl⟩).mono ?_
  rintro e w7 ⟨rfl, hE1⟩
  have hO := hO.ext hE1
  clear hE1
  clear hf
  have hf := hO.cells
  simp only [BC, CC, Nat.zero_add, Nat.reduceAdd, and_true] at hf
  go_wp2_with fail
  refine (HF_.out _).mono ?_
  rintro e w9 ⟨Az, lz, cz, Bz, kz, dz, rfl, ⟨hW1, hW2⟩, hE1⟩
  have hO := ((hO.ext hE1).add hW1).add hW2
  clear hW1 hW2 hE1
  clear hf
  have hf := hO.cells
  simp only [BC, CC, Nat.zero_add, Nat.reduceAdd, and_true] at hf
  go_wp2_with (first | ((with_reducible refine at_store (T := 55) ?_); refine own_store (T := 55) hO 1 rfl rfl rfl size_endh rfl rfl rfl ?_; clear hO; intro wl hO; simp only [List.set_cons_zero, List.set_cons_succ, spl, List.take_succ_cons, List.take_zero, List.nil_append, List.cons_append, List.length_cons, List.length_nil, List.drop_succ_cons, List.drop_zero, List.drop_nil, Nat.reduceAdd, Nat.zero_add, List.append_nil] at hO; clear hf; have hf := hO.cells; simp only [BC, CC, Nat.zero_add, Nat.reduceAdd, and_true] at hf) | ((with_reducible refine at_store (T := 57) ?_); refine own_store (T := 57) hO 2 rfl rfl rfl size_seth rfl rfl rfl ?_; clear hO; intro wz hO; simp only [List.set_cons_zero, List.set_cons_succ, spl, List.take_succ_cons, List.take_zero, List.nil_append, List.cons_append, List.length_cons, List.length_nil, List.drop_succ_cons, List.drop_zero, List.drop_nil, Nat.reduceAdd, Nat.zero_add, List.append_nil] at hO; clear hf; have hf := hO.cells; simp only [BC, CC, Nat.zero_add, Nat.reduceAdd, and_true] at hf))
  exact own_ret hO 2 rfl rfl rfl agg_sety size_seth rfl ⟨_, _, _, _, _, _, _, _, _, _, _, _, rfl, ⟨hO.wd 1 rfl, hO.wd 0 rfl⟩, ⟨hO.wd 3 rfl, hO.wd 2 rfl⟩, hO.toExt⟩

set_option maxHeartbeats 4000000 in
theorem szb_ya (i1 : Int) (s1 : Bool) (A1 : Option Addr) (l1 c1 : Nat) (B1 : Option Addr) (k1 d1 N1 D1 : Nat) (i2 : Int) (s2 : Bool) (A2 : Option Addr) (l2 c2 : Nat) (B2 : Option Addr) (k2 d2 N2 D2 : Nat) (i3 : Int) (s3 : Bool) (N3 D3 : Nat) (i4 : Int) (s4 : Bool) (N4 D4 : Nat) (Nz Dz : Nat) (x y1 y2 : Int) (w : World) (h1 : RatAt w A1 l1 c1 B1 k1 d1 N1 D1) (h2 : RatAt w A2 l2 c2 B2 k2 d2 N2 D2)
    (HM1 : Hid (∀ w, RatAt w A1 l1 c1 B1 k1 d1 N1 D1 → Calls Tryz.prog 90 #[.agg #[.int .i64 i1, .bool s1, .slice A1 l1 c1, .slice B1 k1 d1]] w (RetEnd i3 s3 N3 D3 w))) (HM2 : Hid (∀ w, RatAt w A2 l2 c2 B2 k2 d2 N2 D2 → Calls Tryz.prog 90 #[.agg #[.int .i64 i2, .bool s2, .slice A2 l2 c2, .slice B2 k2 d2]] w (RetEnd i4 s4 N4 D4 w)))
    (HC : Hid (∀ (A3 : Option Addr) (l3 c3 : Nat) (B3 : Option Addr) (k3 d3 : Nat) (A4 : Option Addr) (l4 c4 : Nat) (B4 : Option Addr) (k4 d4 : Nat) (w : World), RatAt w A3 l3 c3 B3 k3 d3 N3 D3 → RatAt w A4 l4 c4 B4 k4 d4 N4 D4 → Calls Tryz.prog 91 #[.agg #[.int .i64 i3, .bool s3, .slice A3 l3 c3, .slice B3 k3 d3], .agg #[.int .i64 i4, .bool s4, .slice A4 l4 c4, .slice B4 k4 d4]] w fun e w' => e = .returned (.int .i64 x) ∧ Ext w w'))
    (HSA : Hid (∀ w, RatAt w A1 l1 c1 B1 k1 d1 N1 D1 → Calls Tryz.prog 92 #[.agg #[.int .i64 i1, .bool s1, .slice A1 l1 c1, .slice B1 k1 d1]] w fun e w' => e = .returned (.int .i64 y1) ∧ Ext w w')) (HSB : Hid (∀ w, RatAt w A2 l2 c2 B2 k2 d2 N2 D2 → Calls Tryz.prog 92 #[.agg #[.int .i64 i2, .bool s2, .slice A2 l2 c2, .slice B2 k2 d2]] w fun e w' => e = .returned (.int .i64 y2) ∧ Ext w w')) (HF_ : Hid (∀ w, Calls Tryz.prog 59 #[.int .i64 0] w (RetEnd 0 false Nz Dz w)))
    (x1 : decide (0 < x) = true) (x2 : decide (y1 ≤ 0) = false) :
    Calls Tryz.prog 63 #[.agg #[.bool false, .int .i64 i1, .bool s1, .slice A1 l1 c1, .slice B1 k1 d1, .int .i64 i2, .bool s2, .slice A2 l2 c2, .slice B2 k2 d2]] w (RetSet false i4 s4 N4 D4 i3 s3 N3 D3 w) := by
  have hO := ((((Own.start w).add h1.1).add h1.2).add h2.1).add h2.2
  have hf : True := trivial
  clear h1 h2
  go_enter Tryz.func63, Tryz.ntmps63
  go_wp2_with (first | ((with_reducible refine at_box ?_); refine own_box (cs := [.bool false, .int .i64 i1, .bool s1, .slice A1 l1 c1, .slice B1 k1 d1, .int .i64 i2, .bool s2, .slice A2 l2 c2, .slice B2 k2 d2]) hO rfl rfl ?_; clear hO; intro ga wa hO; clear hf; have hf := hO.cells; simp only [BC, CC, Nat.zero_add, Nat.reduceAdd, and_true] at hf) | ((with_reducible refine at_alloc ?_); refine own_alloc hO zero_seth rfl rfl ?_; clear hO; intro g wc hO; clear hf; have hf := hO.cells; simp only [BC, CC, Nat.zero_add, Nat.reduceAdd, and_true] at hf))
  refine (HM1.out _ ⟨hO.wd 3 rfl, hO.wd 2 rfl⟩).mono ?_
  rintro e w9 ⟨A3, l3, c3, B3, k3, d3, rfl, ⟨hW1, hW2⟩, hE1⟩
  have hO := ((hO.ext hE1).add hW1).add hW2
  clear hW1 hW2 hE1
  clear hf
  have hf := hO.cells
  simp only [BC, CC, Nat.zero_add, Nat.reduceAdd, and_true] at hf
  go_wp2_with (first | ((with_reducible refine at_alloc ?_); refine own_alloc hO zero_endh rfl rfl ?_; clear hO; intro g3 wd hO; clear hf; have hf := hO.cells; simp only [BC, CC, Nat.zero_add, Nat.reduceAdd, and_true] at hf) | ((with_reducible refine at_store (T := 55) ?_); refine own_store (T := 55) hO 0 rfl rfl rfl size_endh rfl rfl rfl ?_; clear hO; intro we hO; simp only [List.set_cons_zero, List.set_cons_succ, spl, List.take_succ_cons, List.take_zero, List.nil_append, List.cons_append, List.length_cons, List.length_nil, List.drop_succ_cons, List.drop_zero, List.drop_nil, Nat.reduceAdd, Nat.zero_add, List.append_nil] at hO; clear hf; have hf := hO.cells; simp only [BC, CC, Nat.zero_add, Nat.reduceAdd, and_true] at hf))
  refine (HM2.out _ ⟨hO.wd 3 rfl, hO.wd 2 rfl⟩).mono ?_
  rintro e w9 ⟨A4, l4, c4, B4, k4, d4, rfl, ⟨hW1, hW2⟩, hE1⟩
  have hO := ((hO.ext hE1).add hW1).add hW2
  clear hW1 hW2 hE1
  clear hf
  have hf := hO.cells
  simp only [BC, CC, Nat.zero_add, Nat.reduceAdd, and_true] at hf
  go_wp2_with (first | ((with_reducible refine at_alloc ?_); refine own_alloc hO zero_endh rfl rfl ?_; clear hO; intro g4 wf hO; clear hf; have hf := hO.cells; simp only [BC, CC, Nat.zero_add, Nat.reduceAdd, and_true] at hf) | ((with_reducible refine at_store (T := 55) ?_); refine own_store (T := 55) hO 0 rfl rfl rfl size_endh rfl rfl rfl ?_; clear hO; intro wg hO; simp only [List.set_cons_zero, List.set_cons_succ, spl, List.take_succ_cons, List.take_zero, List.nil_append, List.cons_append, List.length_cons, List.length_nil, List.drop_succ_cons, List.drop_zero, List.drop_nil, Nat.reduceAdd, Nat.zero_add, List.append_nil] at hO; clear hf; have hf := hO.cells; simp only [BC, CC, Nat.zero_add, Nat.reduceAdd, and_true] at hf))
  refine (HC.out _ _ _ _ _ _ _ _ _ _ _ _ _ ⟨hO.wd 3 rfl, hO.wd 2 rfl⟩ ⟨hO.wd 1 rfl, hO.wd 0 rfl⟩).mono ?_
  rintro e w5 ⟨rfl, hE1⟩
  have hO := hO.ext hE1
  clear hE1
  clear hf
  have hf := hO.cells
  simp only [BC, CC, Nat.zero_add, Nat.reduceAdd, and_true] at hf
  go_wp2_with (first | ((with_reducible refine at_alloc ?_); refine own_alloc hO zero_endh rfl rfl ?_; clear hO; intro g5 wh hO; clear hf; have hf := hO.cells; simp only [BC, CC, Nat.zero_add, Nat.reduceAdd, and_true] at hf) | ((with_reducible refine at_store (T := 55) ?_); refine own_store (T := 55) hO 0 rfl rfl rfl size_endh rfl rfl rfl ?_; clear hO; intro wi hO; simp only [List.set_cons_zero, List.set_cons_succ, spl, List.take_succ_cons, List.take_zero, List.nil_append, List.cons_append, List.length_cons, List.length_nil, List.drop_succ_cons, List.drop_zero, List.drop_nil, Nat.reduceAdd, Nat.zero_add, List.append_nil] at hO; clear hf; have hf := hO.cells; simp only [BC, CC, Nat.zero_add, Nat.reduceAdd, and_true] at hf) | ((with_reducible refine at_store (T := 55) ?_); refine own_store (T := 55) hO 2 rfl rfl rfl size_endh rfl rfl rfl ?_; clear hO; intro wj hO; simp only [List.set_cons_zero, List.set_cons_succ, spl, List.take_succ_cons, List.take_zero, List.nil_append, List.cons_append, List.length_cons, List.length_nil, List.drop_succ_cons, List.drop_zero, List.drop_nil, Nat.reduceAdd, Nat.zero_add, List.append_nil] at hO; clear hf; have hf := hO.cells; simp only [BC, CC, Nat.zero_add, Nat.reduceAdd, and_true] at hf) | ((with_reducible refine at_store (T := 55) ?_); refine own_store (T := 55) hO 1 rfl rfl rfl size_endh rfl rfl rfl ?_; clear hO; intro wk hO; simp only [List.set_cons_zero, List.set_cons_succ, spl, List.take_succ_cons, List.take_zero, List.nil_append, List.cons_append, List.length_cons, List.length_nil, List.drop_succ_cons, List.drop_zero, List.drop_nil, Nat.reduceAdd, Nat.zero_add, List.append_nil] at hO; clear hf; have hf := hO.cells; simp only [BC, CC, Nat.zero_add, Nat.reduceAdd, and_true] at hf))
  refine (HSA.out _ ⟨hO.wd 7 rfl, hO.wd 6 rfl⟩).mono ?_
  rintro e w6 ⟨rfl, hE1⟩
  have hO := hO.ext hE1
  clear hE1
  clear hf
  have hf := hO.cells
  simp only [BC, CC, Nat.zero_add, Nat.reduceAdd, and_true] at hf
  go_wp2_with ((with_reducible refine at_store (T := 57) ?_); refine own_store (T := 57) hO 3 rfl rfl rfl size_seth rfl rfl rfl ?_; clear hO; intro wz hO; simp only [List.set_cons_zero, List.set_cons_succ, spl, List.take_succ_cons, List.take_zero, List.nil_append, List.cons_append, List.length_cons, List.length_nil, List.drop_succ_cons, List.drop_zero, List.drop_nil, Nat.reduceAdd, Nat.zero_add, List.append_nil] at hO; clear hf; have hf := hO.cells; simp only [BC, CC, Nat.zero_add, Nat.reduceAdd, and_true] at hf)
  exact own_ret hO 3 rfl rfl rfl agg_sety size_seth rfl ⟨_, _, _, _, _, _, _, _, _, _, _, _, rfl, ⟨hO.wd 1 rfl, hO.wd 0 rfl⟩, ⟨hO.wd 3 rfl, hO.wd 2 rfl⟩, hO.toExt⟩

set_option maxHeartbeats 4000000 in
theorem szb_yb (i1 : Int) (s1 : Bool) (A1 : Option Addr) (l1 c1 : Nat) (B1 : Option Addr) (k1 d1 N1 D1 : Nat) (i2 : Int) (s2 : Bool) (A2 : Option Addr) (l2 c2 : Nat) (B2 : Option Addr) (k2 d2 N2 D2 : Nat) (i3 : Int) (s3 : Bool) (N3 D3 : Nat) (i4 : Int) (s4 : Bool) (N4 D4 : Nat) (Nz Dz : Nat) (x y1 y2 : Int) (w : World) (h1 : RatAt w A1 l1 c1 B1 k1 d1 N1 D1) (h2 : RatAt w A2 l2 c2 B2 k2 d2 N2 D2)
    (HM1 : Hid (∀ w, RatAt w A1 l1 c1 B1 k1 d1 N1 D1 → Calls Tryz.prog 90 #[.agg #[.int .i64 i1, .bool s1, .slice A1 l1 c1, .slice B1 k1 d1]] w (RetEnd i3 s3 N3 D3 w))) (HM2 : Hid (∀ w, RatAt w A2 l2 c2 B2 k2 d2 N2 D2 → Calls Tryz.prog 90 #[.agg #[.int .i64 i2, .bool s2, .slice A2 l2 c2, .slice B2 k2 d2]] w (RetEnd i4 s4 N4 D4 w)))
    (HC : Hid (∀ (A3 : Option Addr) (l3 c3 : Nat) (B3 : Option Addr) (k3 d3 : Nat) (A4 : Option Addr) (l4 c4 : Nat) (B4 : Option Addr) (k4 d4 : Nat) (w : World), RatAt w A3 l3 c3 B3 k3 d3 N3 D3 → RatAt w A4 l4 c4 B4 k4 d4 N4 D4 → Calls Tryz.prog 91 #[.agg #[.int .i64 i3, .bool s3, .slice A3 l3 c3, .slice B3 k3 d3], .agg #[.int .i64 i4, .bool s4, .slice A4 l4 c4, .slice B4 k4 d4]] w fun e w' => e = .returned (.int .i64 x) ∧ Ext w w'))
    (HSA : Hid (∀ w, RatAt w A1 l1 c1 B1 k1 d1 N1 D1 → Calls Tryz.prog 92 #[.agg #[.int .i64 i1, .bool s1, .slice A1 l1 c1, .slice B1 k1 d1]] w fun e w' => e = .returned (.int .i64 y1) ∧ Ext w w')) (HSB : Hid (∀ w, RatAt w A2 l2 c2 B2 k2 d2 N2 D2 → Calls Tryz.prog 92 #[.agg #[.int .i64 i2, .bool s2, .slice A2 l2 c2, .slice B2 k2 d2]] w fun e w' => e = .returned (.int .i64 y2) ∧ Ext w w')) (HF_ : Hid (∀ w, Calls Tryz.prog 59 #[.int .i64 0] w (RetEnd 0 false Nz Dz w)))
    (x1 : decide (0 < x) = true) (x2 : decide (y1 ≤ 0) = true) (x3 : decide (0 ≤ y2) = false) :
    Calls Tryz.prog 63 #[.agg #[.bool false, .int .i64 i1, .bool s1, .slice A1 l1 c1, .slice B1 k1 d1, .int .i64 i2, .bool s2, .slice A2 l2 c2, .slice B2 k2 d2]] w (RetSet false i4 s4 N4 D4 i3 s3 N3 D3 w) := by
  have hO := ((((Own.start w).add h1.1).add h1.2).add h2.1).add h2.2
  have hf : True := trivial
  clear h1 h2
  go_enter Tryz.func63, Tryz.ntmps63
  go_wp2_with (first | ((with_reducible refine at_box ?_); refine own_box (cs := [.bool false, .int .i64 i1, .bool s1, .slice A1 l1 c1, .slice B1 k1 d1, .int .i64 i2, .bool s2, .slice A2 l2 c2, .slice B2 k2 d2]) hO rfl rfl ?_; clear hO; intro ga wa hO; clear hf; have hf := hO.cells; simp only [BC, CC, Nat.zero_add, Nat.reduceAdd, and_true] at hf) | ((with_reducible refine at_alloc ?_); refine own_alloc hO zero_seth rfl rfl ?_; clear hO; intro g wc hO; clear hf; have hf := hO.cells; simp only [BC, CC, Nat.zero_add, Nat.reduceAdd, and_true] at hf))
  refine (HM1.out _ ⟨hO.wd 3 rfl, hO.wd 2 rfl⟩).mono ?_
  rintro e w9 ⟨A3, l3, c3, B3, k3, d3, rfl, ⟨hW1, hW2⟩, hE1⟩
  have hO := ((hO.ext hE1).add hW1).add hW2
  clear hW1 hW2 hE1
  clear hf
  have hf := hO.cells
  simp only [BC, CC, Nat.zero_add, Nat.reduceAdd, and_true] at hf
  go_wp2_with (first | ((with_reducible refine at_alloc ?_); refine own_alloc hO zero_endh rfl rfl ?_; clear hO; intro g3 wd hO; clear hf; have hf := hO.cells; simp only [BC, CC, Nat.zero_add, Nat.reduceAdd, and_true] at hf) | ((with_reducible refine at_store (T := 55) ?_); refine own_store (T := 55) hO 0 rfl rfl rfl size_endh rfl rfl rfl ?_; clear hO; intro we hO; simp only [List.set_cons_zero, List.set_cons_succ, spl, List.take_succ_cons, List.take_zero, List.nil_append, List.cons_append, List.length_cons, List.length_nil, List.drop_succ_cons, List.drop_zero, List.drop_nil, Nat.reduceAdd, Nat.zero_add, List.append_nil] at hO; clear hf; have hf := hO.cells; simp only [BC, CC, Nat.zero_add, Nat.reduceAdd, and_true] at hf))
  refine (HM2.out _ ⟨hO.wd 3 rfl, hO.wd 2 rfl⟩).mono ?_
  rintro e w9 ⟨A4, l4, c4, B4, k4, d4, rfl, ⟨hW1, hW2⟩, hE1⟩
  have hO := ((hO.ext hE1).add hW1).add hW2
  clear hW1 hW2 hE1
  clear hf
  have hf := hO.cells
  simp only [BC, CC, Nat.zero_add, Nat.reduceAdd, and_true] at hf
  go_wp2_with (first | ((with_reducible refine at_alloc ?_); refine own_alloc hO zero_endh rfl rfl ?_; clear hO; intro g4 wf hO; clear hf; have hf := hO.cells; simp only [BC, CC, Nat.zero_add, Nat.reduceAdd, and_true] at hf) | ((with_reducible refine at_store (T := 55) ?_); refine own_store (T := 55) hO 0 rfl rfl rfl size_endh rfl rfl rfl ?_; clear hO; intro wg hO; simp only [List.set_cons_zero, List.set_cons_succ, spl, List.take_succ_cons, List.take_zero, List.nil_append, List.cons_append, List.length_cons, List.length_nil, List.drop_succ_cons, List.drop_zero, List.drop_nil, Nat.reduceAdd, Nat.zero_add, List.append_nil] at hO; clear hf; have hf := hO.cells; simp only [BC, CC, Nat.zero_add, Nat.reduceAdd, and_true] at hf))
  refine (HC.out _ _ _ _ _ _ _ _ _ _ _ _ _ ⟨hO.wd 3 rfl, hO.wd 2 rfl⟩ ⟨hO.wd 1 rfl, hO.wd 0 rfl⟩).mono ?_
  rintro e w5 ⟨rfl, hE1⟩
  have hO := hO.ext hE1
  clear hE1
  clear hf
  have hf := hO.cells
  simp only [BC, CC, Nat.zero_add, Nat.reduceAdd, and_true] at hf
  go_wp2_with (first | ((with_reducible refine at_alloc ?_); refine own_alloc hO zero_endh rfl rfl ?_; clear hO; intro g5 wh hO; clear hf; have hf := hO.cells; simp only [BC, CC, Nat.zero_add, Nat.reduceAdd, and_true] at hf) | ((with_reducible refine at_store (T := 55) ?_); refine own_store (T := 55) hO 0 rfl rfl rfl size_endh rfl rfl rfl ?_; clear hO; intro wi hO; simp only [List.set_cons_zero, List.set_cons_succ, spl, List.take_succ_cons, List.take_zero, List.nil_append, List.cons_append, List.length_cons, List.length_nil, List.drop_succ_cons, List.drop_zero, List.drop_nil, Nat.reduceAdd, Nat.zero_add, List.append_nil] at hO; clear hf; have hf := hO.cells; simp only [BC, CC, Nat.zero_add, Nat.reduceAdd, and_true] at hf) | ((with_reducible refine at_store (T := 55) ?_); refine own_store (T := 55) hO 2 rfl rfl rfl size_endh rfl rfl rfl ?_; clear hO; intro wj hO; simp only [List.set_cons_zero, List.set_cons_succ, spl, List.take_succ_cons, List.take_zero, List.nil_append, List.cons_append, List.length_cons, List.length_nil, List.drop_succ_cons, List.drop_zero, List.drop_nil, Nat.reduceAdd, Nat.zero_add, List.append_nil] at hO; clear hf; have hf := hO.cells; simp only [BC, CC, Nat.zero_add, Nat.reduceAdd, and_true] at hf) | ((with_reducible refine at_store (T := 55) ?_); refine own_store (T := 55) hO 1 rfl rfl rfl size_endh rfl rfl rfl ?_; clear hO; intro wk hO; simp only [List.set_cons_zero, List.set_cons_succ, spl, List.take_succ_cons, List.take_zero, List.nil_append, List.cons_append, List.length_cons, List.length_nil, List.drop_succ_cons, List.drop_zero, List.drop_nil, Nat.reduceAdd, Nat.zero_add, List.append_nil] at hO; clear hf; have hf := hO.cells; simp only [BC, CC, Nat.zero_add, Nat.reduceAdd, and_true] at hf))
  refine (HSA.out _ ⟨hO.wd 7 rfl, hO.wd 6 rfl⟩).mono ?_
  rintro e w6 ⟨rfl, hE1⟩
  have hO := hO.ext hE1
  clear hE1
  clear hf
  have hf := hO.cells
  simp only [BC, CC, Nat.zero_add, Nat.reduceAdd, and_true] at hf
  go_wp2_with fail
  refine (HSB.out _ ⟨hO.wd 5 rfl, hO.wd 4 rfl⟩).mono ?_
  rintro e w7 ⟨rfl, hE1⟩
  have hO := hO.ext hE1
  clear hE1
  clear hf
  have hf := hO.cells
  simp only [BC, CC, Nat.zero_add, Nat.reduceAdd, and_true] at hf
  go_wp2_with ((with_reducible refine at_store (T := 57) ?_); refine own_store (T := 57) hO 3 rfl rfl rfl size_seth rfl rfl rfl ?_; clear hO; intro wz hO; simp only [List.set_cons_zero, List.set_cons_succ, spl, List.take_succ_cons, List.take_zero, List.nil_append, List.cons_append, List.length_cons, List.length_nil, List.drop_succ_cons, List.drop_zero, List.drop_nil, Nat.reduceAdd, Nat.zero_add, List.append_nil] at hO; clear hf; have hf := hO.cells; simp only [BC, CC, Nat.zero_add, Nat.reduceAdd, and_true] at hf)
  exact own_ret hO 3 rfl rfl rfl agg_sety size_seth rfl ⟨_, _, _, _, _, _, _, _, _, _, _, _, rfl, ⟨hO.wd 1 rfl, hO.wd 0 rfl⟩, ⟨hO.wd 3 rfl, hO.wd 2 rfl⟩, hO.toExt⟩

set_option maxHeartbeats 4000000 in
theorem szb_yc (i1 : Int) (s1 : Bool) (A1 : Option Addr) (l1 c1 : Nat) (B1 : Option Addr) (k1 d1 N1 D1 : Nat) (i2 : Int) (s2 : Bool) (A2 : Option Addr) (l2 c2 : Nat) (B2 : Option Addr) (k2 d2 N2 D2 : Nat) (i3 : Int) (s3 : Bool) (N3 D3 : Nat) (i4 : Int) (s4 : Bool) (N4 D4 : Nat) (Nz Dz : Nat) (x y1 y2 : Int) (w : World) (h1 : RatAt w A1 l1 c1 B1 k1 d1 N1 D1) (h2 : RatAt w A2 l2 c2 B2 k2 d2 N2 D2)
    (HM1 : Hid (∀ w, RatAt w A1 l1 c1 B1 k1 d1 N1 D1 → Calls Tryz.prog 90 #[.agg #[.int .i64 i1, .bool s1, .slice A1 l1 c1, .slice B1 k1 d1]] w (RetEnd i3 s3 N3 D3 w))) (HM2 : Hid (∀ w, RatAt w A2 l2 c2 B2 k2 d2 N2 D2 → Calls Tryz.prog 90 #[.agg #[.int .i64 i2, .bool s2, .slice A2 l2 c2, .slice B2 k2 d2]] w (RetEnd i4 s4 N4 D4 w)))
    (HC : Hid (∀ (A3 : Option Addr) (l3 c3 : Nat) (B3 : Option Addr) (k3 d3 : Nat) (A4 : Option Addr) (l4 c4 : Nat) (B4 : Option Addr) (k4 d4 : Nat) (w : World), RatAt w A3 l3 c3 B3 k3 d3 N3 D3 → RatAt w A4 l4 c4 B4 k4 d4 N4 D4 → Calls Tryz.prog 91 #[.agg #[.int .i64 i3, .bool s3, .slice A3 l3 c3, .slice B3 k3 d3], .agg #[.int .i64 i4, .bool s4, .slice A4 l4 c4, .slice B4 k4 d4]] w fun e w' => e = .returned (.int .i64 x) ∧ Ext w w'))
    (HSA : Hid (∀ w, RatAt w A1 l1 c1 B1 k1 d1 N1 D1 → Calls Tryz.prog 92 #[.agg #[.int .i64 i1, .bool s1, .slice A1 l1 c1, .slice B1 k1 d1]] w fun e w' => e = .returned (.int .i64 y1) ∧ Ext w w')) (HSB : Hid (∀ w, RatAt w A2 l2 c2 B2 k2 d2 N2 D2 → Calls Tryz.prog 92 #[.agg #[.int .i64 i2, .bool s2, .slice A2 l2 c2, .slice B2 k2 d2]] w fun e w' => e = .returned (.int .i64 y2) ∧ Ext w w')) (HF_ : Hid (∀ w, Calls Tryz.prog 59 #[.int .i64 0] w (RetEnd 0 false Nz Dz w)))
    (x1 : decide (0 < x) = true) (x2 : decide (y1 ≤ 0) = true) (x3 : decide (0 ≤ y2) = true) :
    Calls Tryz.prog 63 #[.agg #[.bool false, .int .i64 i1, .bool s1, .slice A1 l1 c1, .slice B1 k1 d1, .int .i64 i2, .bool s2, .slice A2 l2 c2, .slice B2 k2 d2]] w (RetSet false 0 false Nz Dz i3 s3 N3 D3 w) := by
  have hO := ((((Own.start w).add h1.1).add h1.2).add h2.1).add h2.2
  have hf : True := trivial
  clear h1 h2
  go_enter Tryz.func63, Tryz.ntmps63
  go_wp2_with (first | ((with_reducible refine at_box ?_); refine own_box (cs := [.bool false, .int .i64 i1, .bool s1, .slice A1 l1 c1, .slice B1 k1 d1, .int .i64 i2, .bool s2, .slice A2 l2 c2, .slice B2 k2 d2]) hO rfl rfl ?_; clear hO; intro ga wa hO; clear hf; have hf := hO.cells; simp only [BC, CC, Nat.zero_add, Nat.reduceAdd, and_true] at hf) | ((with_reducible refine at_alloc ?_); refine own_alloc hO zero_seth rfl rfl ?_; clear hO; intro g wc hO; clear hf; have hf := hO.cells; simp only [BC, CC, Nat.zero_add, Nat.reduceAdd, and_true] at hf))
  refine (HM1.out _ ⟨hO.wd 3 rfl, hO.wd 2 rfl⟩).mono ?_
  rintro e w9 ⟨A3, l3, c3, B3, k3, d3, rfl, ⟨hW1, hW2⟩, hE1⟩
  have hO := ((hO.ext hE1).add hW1).add hW2
  clear hW1 hW2 hE1
  clear hf
  have hf := hO.cells
  simp only [BC, CC, Nat.zero_add, Nat.reduceAdd, and_true] at hf
  go_wp2_with (first | ((with_reducible refine at_alloc ?_); refine own_alloc hO zero_endh rfl rfl ?_; clear hO; intro g3 wd hO; clear hf; have hf := hO.cells; simp only [BC, CC, Nat.zero_add, Nat.reduceAdd, and_true] at hf) | ((with_reducible refine at_store (T := 55) ?_); refine own_store (T := 55) hO 0 rfl rfl rfl size_endh rfl rfl rfl ?_; clear hO; intro we hO; simp only [List.set_cons_zero, List.set_cons_succ, spl, List.take_succ_cons, List.take_zero, List.nil_append, List.cons_append, List.length_cons, List.length_nil, List.drop_succ_cons, List.drop_zero, List.drop_nil, Nat.reduceAdd, Nat.zero_add, List.append_nil] at hO; clear hf; have hf := hO.cells; simp only [BC, CC, Nat.zero_add, Nat.reduceAdd, and_true] at hf))
  refine (HM2.out _ ⟨hO.wd 3 rfl, hO.wd 2 rfl⟩).mono ?_
  rintro e w9 ⟨A4, l4, c4, B4, k4, d4, rfl, ⟨hW1, hW2⟩, hE1⟩
  have hO := ((hO.ext hE1).add hW1).add hW2
  clear hW1 hW2 hE1
  clear hf
  have hf := hO.cells
  simp only [BC, CC, Nat.zero_add, Nat.reduceAdd, and_true] at hf
  go_wp2_with (first | ((with_reducible refine at_alloc ?_); refine own_alloc hO zero_endh rfl rfl ?_; clear hO; intro g4 wf hO; clear hf; have hf := hO.cells; simp only [BC, CC, Nat.zero_add, Nat.reduceAdd, and_true] at hf) | ((with_reducible refine at_store (T := 55) ?_); refine own_store (T := 55) hO 0 rfl rfl rfl size_endh rfl rfl rfl ?_; clear hO; intro wg hO; simp only [List.set_cons_zero, List.set_cons_succ, spl, List.take_succ_cons, List.take_zero, List.nil_append, List.cons_append, List.length_cons, List.length_nil, List.drop_succ_cons, List.drop_zero, List.drop_nil, Nat.reduceAdd, Nat.zero_add, List.append_nil] at hO; clear hf; have hf := hO.cells; simp only [BC, CC, Nat.zero_add, Nat.reduceAdd, and_true] at hf))
  refine (HC.out _ _ _ _ _ _ _ _ _ _ _ _ _ ⟨hO.wd 3 rfl, hO.wd 2 rfl⟩ ⟨hO.wd 1 rfl, hO.wd 0 rfl⟩).mono ?_
  rintro e w5 ⟨rfl, hE1⟩
  have hO := hO.ext hE1
  clear hE1
  clear hf
  have hf := hO.cells
  simp only [BC, CC, Nat.zero_add, Nat.reduceAdd, and_true] at hf
  go_wp2_with (first | ((with_reducible refine at_alloc ?_); refine own_alloc hO zero_endh rfl rfl ?_; clear hO; intro g5 wh hO; clear hf; have hf := hO.cells; simp only [BC, CC, Nat.zero_add, Nat.reduceAdd, and_true] at hf) | ((with_reducible refine at_store (T := 55) ?_); refine own_store (T := 55) hO 0 rfl rfl rfl size_endh rfl rfl rfl ?_; clear hO; intro wi hO; simp only [List.set_cons_zero, List.set_cons_succ, spl, List.take_succ_cons, List.take_zero, List.nil_append, List.cons_append, List.length_cons, List.length_nil, List.drop_succ_cons, List.drop_zero, List.drop_nil, Nat.reduceAdd, Nat.zero_add, List.append_nil] at hO; clear hf; have hf := hO.cells; simp only [BC, CC, Nat.zero_add, Nat.reduceAdd, and_true] at hf) | ((with_reducible refine at_store (T := 55) ?_); refine own_store (T := 55) hO 2 rfl rfl rfl size_endh rfl rfl rfl ?_; clear hO; intro wj hO; simp only [List.set_cons_zero, List.set_cons_succ, spl, List.take_succ_cons, List.take_zero, List.nil_append, List.cons_append, List.length_cons, List.length_nil, List.drop_succ_cons, List.drop_zero, List.drop_nil, Nat.reduceAdd, Nat.zero_add, List.append_nil] at hO; clear hf; have hf := hO.cells; simp only [BC, CC, Nat.zero_add, Nat.reduceAdd, and_true] at hf) | ((with_reducible refine at_store (T := 55) ?_); refine own_store (T := 55) hO 1 rfl rfl rfl size_endh rfl rfl rfl ?_; clear hO; intro wk hO; simp only [List.set_cons_zero, List.set_cons_succ, spl, List.take_succ_cons, List.take_zero, List.nil_append, List.cons_append, List.length_cons, List.length_nil, List.drop_succ_cons, List.drop_zero, List.drop_nil, Nat.reduceAdd, Nat.zero_add, List.append_nil] at hO; clear hf; have hf := hO.cells; simp only [BC, CC, Nat.zero_add, Nat.reduceAdd, and_true] at hf))
  refine (HSA.out _ ⟨hO.wd 7 rfl, hO.wd 6 rfl⟩).mono ?_
  rintro e w6 ⟨rfl, hE1⟩
  have hO := hO.ext hE1
  clear hE1
  clear hf
  have hf := hO.cells
  simp only [BC, CC, Nat.zero_add, Nat.reduceAdd, and_true] at hf
  go_wp2_with fail
  refine (HSB.out _ ⟨hO.wd 5 rfl, hO.wd 4 rfl⟩).mono ?_
  rintro e w7 ⟨rfl, hE1⟩
  have hO := hO.ext hE1
  clear hE1
  clear hf
  have hf := hO.cells
  simp only [BC, CC, Nat.zero_add, Nat.reduceAdd, and_true] at hf
  go_wp2_with fail
  refine (HF_.out _).mono ?_
  rintro e w9 ⟨Az, lz, cz, Bz, kz, dz, rfl, ⟨hW1, hW2⟩, hE1⟩
  have hO := ((hO.ext hE1).add hW1).add hW2
  clear hW1 hW2 hE1
  clear hf
  have hf := hO.cells
  simp only [BC, CC, Nat.zero_add, Nat.reduceAdd, and_true] at hf
  go_wp2_with (first | ((with_reducible refine at_store (T := 55) ?_); refine own_store (T := 55) hO 2 rfl rfl rfl size_endh rfl rfl rfl ?_; clear hO; intro wl hO; simp only [List.set_cons_zero, List.set_cons_succ, spl, List.take_succ_cons, List.take_zero, List.nil_append, List.cons_append, List.length_cons, List.length_nil, List.drop_succ_cons, List.drop_zero, List.drop_nil, Nat.reduceAdd, Nat.zero_add, List.append_nil] at hO; clear hf; have hf := hO.cells; simp only [BC, CC, Nat.zero_add, Nat.reduceAdd, and_true] at hf) | ((with_reducible refine at_store (T := 57) ?_); refine own_store (T := 57) hO 3 rfl rfl rfl size_seth rfl rfl rfl ?_; clear hO; intro wz hO; simp only [List.set_cons_zero, List.set_cons_succ, spl, List.take_succ_cons, List.take_zero, List.nil_append, List.cons_append, List.length_cons, List.length_nil, List.drop_succ_cons, List.drop_zero, List.drop_nil, Nat.reduceAdd, Nat.zero_add, List.append_nil] at hO; clear hf; have hf := hO.cells; simp only [BC, CC, Nat.zero_add, Nat.reduceAdd, and_true] at hf))
  exact own_ret hO 3 rfl rfl rfl agg_sety size_seth rfl ⟨_, _, _, _, _, _, _, _, _, _, _, _, rfl, ⟨hO.wd 1 rfl, hO.wd 0 rfl⟩, ⟨hO.wd 5 rfl, hO.wd 4 rfl⟩, hO.toExt⟩

theorem cmpI_ltb {a b : Int} : decide (0 < cmpI a b) = decide (b < a) := by
  refine decide_eq_decide.2 ?_
  unfold cmpI; repeat' split
  all_goals omega
theorem cmpI_leb {a b : Int} : decide (cmpI a b ≤ 0) = decide (a ≤ b) := by
  refine decide_eq_decide.2 ?_
  unfold cmpI; repeat' split
  all_goals omega
theorem cmpI_geb {a b : Int} : decide (0 ≤ cmpI a b) = decide (b ≤ a) := by
  refine decide_eq_decide.2 ?_
  unfold cmpI; repeat' split
  all_goals omega
/-- The ends of the magnitudes between two patterns. -/
theorem sizeb_full (p q : Nat) (A1 : Option Addr) (l1 c1 : Nat) (B1 : Option Addr) (k1 d1 : Nat) (A2 : Option Addr) (l2 c2 : Nat) (B2 : Option Addr) (k2 d2 : Nat) (w : World)
    (hp : p < 18446744073709551616) (hq : q < 18446744073709551616) (np : isNaN p = false) (nq : isNaN q = false) (h1 : RatAt w A1 l1 c1 B1 k1 d1 (bN p) (bD p)) (h2 : RatAt w A2 l2 c2 B2 k2 d2 (bN q) (bD q)) :
    Calls Tryz.prog 63 #[.agg #[.bool false, .int .i64 (bI p), .bool (bNeg p), .slice A1 l1 c1, .slice B1 k1 d1, .int .i64 (bI q), .bool (bNeg q), .slice A2 l2 c2, .slice B2 k2 d2]] w
      (RetSet false (bI (szLo p q)) (bNeg (szLo p q)) (bN (szLo p q)) (bD (szLo p q)) (bI (szHi p q)) (bNeg (szHi p q)) (bN (szHi p q)) (bD (szHi p q)) w) := by
  have HM1 := Lib.hid (fun w h => magn_any p A1 l1 c1 B1 k1 d1 w hp np h)
  have HM2 := Lib.hid (fun w h => magn_any q A2 l2 c2 B2 k2 d2 w hq nq h)
  have hP := mx_lt hp
  have hQ := mx_lt hq
  have nP := mx_nan np
  have nQ := mx_nan nq
  have HC := Lib.hid (fun A3 l3 c3 B3 k3 d3 A4 l4 c4 B4 k4 d4 w h3 h4 => cmp6_any (bI (mx p)) (bNeg (mx p)) A3 l3 c3 B3 k3 d3 (bN (mx p)) (bD (mx p)) (bI (mx q)) (bNeg (mx q)) A4 l4 c4 B4 k4 d4 (bN (mx q)) (bD (mx q)) w h3 h4 (bN_sz _) (bD_sz _) (bN_sz _) (bD_sz _) (bD_ne _) (bD_ne _))
  have HSA := Lib.hid (fun w h => sign6_any (bI p) (bNeg p) A1 l1 c1 B1 k1 d1 (bN p) (bD p) w h (bN_sz p))
  have HSB := Lib.hid (fun w h => sign6_any (bI q) (bNeg q) A2 l2 c2 B2 k2 d2 (bN q) (bD q) w h (bN_sz q))
  rw [eC_bits hP hQ nP nQ] at HC
  rw [eS_bits hp np] at HSA
  rw [eS_bits hq nq] at HSB
  have HF : Hid (∀ w, Calls Tryz.prog 59 #[.int .i64 0] w (RetEnd 0 false (fracN 0 1 0) (fracD 0 1 0) w)) := Lib.hid (fun w => finite_any 0 w (by omega))
  have eHi : szHi p q = if key (mx q) < key (mx p) then mx p else mx q := rfl
  have eLo : szLo p q = if key p ≤ 0 ∧ 0 ≤ key q then 0 else if key (mx q) < key (mx p) then mx q else mx p := rfl
  obtain ⟨b1, b2, b3, b4⟩ := b_zero
  by_cases g1 : key (mx q) < key (mx p)
  · have x1 : decide (0 < cmpI (key (mx p)) (key (mx q))) = true := by rw [cmpI_ltb]; exact decide_eq_true g1
    rw [eHi, if_pos g1]
    by_cases g2 : key p ≤ 0
    · have x2 : decide (cmpI (key p) 0 ≤ 0) = true := by rw [cmpI_leb]; exact decide_eq_true g2
      by_cases g3 : 0 ≤ key q
      · have x3 : decide (0 ≤ cmpI (key q) 0) = true := by rw [cmpI_geb]; exact decide_eq_true g3
        rw [eLo, if_pos ⟨g2, g3⟩, b1, b2, b3, b4]
        exact szb_yc (h1 := h1) (h2 := h2) (HM1 := HM1) (HM2 := HM2) (HC := HC) (HSA := HSA) (HSB := HSB) (HF_ := HF) (x1 := x1) (x2 := x2) (x3 := x3)
      · have x3 : decide (0 ≤ cmpI (key q) 0) = false := by rw [cmpI_geb]; exact decide_eq_false g3
        rw [eLo, if_neg (fun h => g3 h.2), if_pos g1]
        exact szb_yb (h1 := h1) (h2 := h2) (HM1 := HM1) (HM2 := HM2) (HC := HC) (HSA := HSA) (HSB := HSB) (HF_ := HF) (x1 := x1) (x2 := x2) (x3 := x3)
    · have x2 : decide (cmpI (key p) 0 ≤ 0) = false := by rw [cmpI_leb]; exact decide_eq_false g2
      rw [eLo, if_neg (fun h => g2 h.1), if_pos g1]
      exact szb_ya (h1 := h1) (h2 := h2) (HM1 := HM1) (HM2 := HM2) (HC := HC) (HSA := HSA) (HSB := HSB) (HF_ := HF) (x1 := x1) (x2 := x2)
  · have x1 : decide (0 < cmpI (key (mx p)) (key (mx q))) = false := by rw [cmpI_ltb]; exact decide_eq_false g1
    rw [eHi, if_neg g1]
    by_cases g2 : key p ≤ 0
    · have x2 : decide (cmpI (key p) 0 ≤ 0) = true := by rw [cmpI_leb]; exact decide_eq_true g2
      by_cases g3 : 0 ≤ key q
      · have x3 : decide (0 ≤ cmpI (key q) 0) = true := by rw [cmpI_geb]; exact decide_eq_true g3
        rw [eLo, if_pos ⟨g2, g3⟩, b1, b2, b3, b4]
        exact szb_nc (h1 := h1) (h2 := h2) (HM1 := HM1) (HM2 := HM2) (HC := HC) (HSA := HSA) (HSB := HSB) (HF_ := HF) (x1 := x1) (x2 := x2) (x3 := x3)
      · have x3 : decide (0 ≤ cmpI (key q) 0) = false := by rw [cmpI_geb]; exact decide_eq_false g3
        rw [eLo, if_neg (fun h => g3 h.2), if_neg g1]
        exact szb_nb (h1 := h1) (h2 := h2) (HM1 := HM1) (HM2 := HM2) (HC := HC) (HSA := HSA) (HSB := HSB) (HF_ := HF) (x1 := x1) (x2 := x2) (x3 := x3)
    · have x2 : decide (cmpI (key p) 0 ≤ 0) = false := by rw [cmpI_leb]; exact decide_eq_false g2
      rw [eLo, if_neg (fun h => g2 h.1), if_neg g1]
      exact szb_na (h1 := h1) (h2 := h2) (HM1 := HM1) (HM2 := HM2) (HC := HC) (HSA := HSA) (HSB := HSB) (HF_ := HF) (x1 := x1) (x2 := x2)

end Go.Proofs.YtadijoeeaineaaaGreatDoor
