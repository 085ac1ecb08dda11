/-
  The contracts of the document's bounds and sets: the lesser, inverses, halves, hulls; powers of sets. Conditions: those that each theorem names.
-/
import Derived.Test.YtadijoeeaineaaaGreatDoorQ15
import Derived.Test.YtadijoeeaineaaaGreatDoorQ16
import Derived.Test.YtadijoeeaineaaaGreatDoorQ17
import Derived.Test.YtadijoeeaineaaaGreatDoorQ12
import Derived.Deep.CutRange
namespace Go.Proofs.YtadijoeeaineaaaGreatDoor
open Go.RowKit Nm Rn
set_option maxRecDepth 100000
set_option linter.unusedVariables false
set_option linter.unusedSimpArgs false

theorem agg_endi (w : World) : (isAgg 55).run Tryz.prog w = .ok true w := by kernel_rfl
theorem agg_seti (w : World) : (isAgg 57).run Tryz.prog w = .ok true w := by kernel_rfl

set_option maxHeartbeats 4000000 in
theorem lesser_t (i1 : Int) (s1 : Bool) (A1 : Option Addr) (l1 c1 : Nat) (B1 : Option Addr) (k1 d1 N1 D1 : Nat) (i2 : Int) (s2 : Bool) (A2 : Option Addr) (l2 c2 : Nat) (B2 : Option Addr) (k2 d2 N2 D2 : Nat) (w : World) (h1 : RatAt w A1 l1 c1 B1 k1 d1 N1 D1) (h2 : RatAt w A2 l2 c2 B2 k2 d2 N2 D2) (v : Int) (hv : decide (v < 0) = true) (HC : Hid (∀ w, RatAt w A2 l2 c2 B2 k2 d2 N2 D2 → RatAt w A1 l1 c1 B1 k1 d1 N1 D1 → Calls Tryz.prog 91 #[.agg #[.int .i64 i2, .bool s2, .slice A2 l2 c2, .slice B2 k2 d2], .agg #[.int .i64 i1, .bool s1, .slice A1 l1 c1, .slice B1 k1 d1]] w fun e w' => e = .returned (.int .i64 v) ∧ Ext w w')) :
    Calls Tryz.prog 124 #[.agg #[.int .i64 i1, .bool s1, .slice A1 l1 c1, .slice B1 k1 d1], .agg #[.int .i64 i2, .bool s2, .slice A2 l2 c2, .slice B2 k2 d2]] w (RetEnd i2 s2 N2 D2 w) := by
  have hO := ((((Own.start w).add h1.1).add h1.2).add h2.1).add h2.2
  have hf : True := trivial
  clear h1 h2
  go_enter Tryz.func124, Tryz.ntmps124
  go_wp2_with (first | ((with_reducible refine at_box ?_); refine own_box (cs := [.int .i64 i1, .bool s1, .slice A1 l1 c1, .slice B1 k1 d1]) hO rfl rfl ?_; clear hO; intro ga wa hO; clear hf; have hf := hO.cells; simp only [BC, CC, Nat.zero_add, Nat.reduceAdd, and_true] at hf) | ((with_reducible refine at_box ?_); refine own_box (cs := [.int .i64 i2, .bool s2, .slice A2 l2 c2, .slice B2 k2 d2]) hO rfl rfl ?_; clear hO; intro gb wb hO; clear hf; have hf := hO.cells; simp only [BC, CC, Nat.zero_add, Nat.reduceAdd, and_true] at hf) | ((with_reducible refine at_alloc ?_); refine own_alloc hO zero_endh rfl rfl ?_; clear hO; intro g wc hO; clear hf; have hf := hO.cells; simp only [BC, CC, Nat.zero_add, Nat.reduceAdd, and_true] at hf))
  refine (HC.out _ ⟨hO.wd 1 rfl, hO.wd 0 rfl⟩ ⟨hO.wd 3 rfl, hO.wd 2 rfl⟩).mono ?_
  rintro e w3 ⟨rfl, hE1⟩
  have hO := hO.ext hE1
  clear hE1
  clear hf
  have hf := hO.cells
  simp only [BC, CC, Nat.zero_add, Nat.reduceAdd, and_true] at hf
  go_wp2_with ((with_reducible refine at_store (T := 55) ?_); refine own_store (T := 55) hO 0 rfl rfl rfl size_endh rfl rfl rfl ?_; clear hO; intro w4 hO; simp only [List.set_cons_zero, List.set_cons_succ, spl, List.take_succ_cons, List.take_zero, List.nil_append, List.cons_append, List.length_cons, List.length_nil, List.drop_succ_cons, List.drop_zero, List.drop_nil, Nat.reduceAdd, Nat.zero_add, List.append_nil] at hO; clear hf; have hf := hO.cells; simp only [BC, CC, Nat.zero_add, Nat.reduceAdd, and_true] at hf)
  exact own_ret hO 0 rfl rfl rfl agg_endi size_endh rfl ⟨_, _, _, _, _, _, rfl, ⟨hO.wd 1 rfl, hO.wd 0 rfl⟩, hO.toExt⟩

set_option maxHeartbeats 4000000 in
theorem lesser_f (i1 : Int) (s1 : Bool) (A1 : Option Addr) (l1 c1 : Nat) (B1 : Option Addr) (k1 d1 N1 D1 : Nat) (i2 : Int) (s2 : Bool) (A2 : Option Addr) (l2 c2 : Nat) (B2 : Option Addr) (k2 d2 N2 D2 : Nat) (w : World) (h1 : RatAt w A1 l1 c1 B1 k1 d1 N1 D1) (h2 : RatAt w A2 l2 c2 B2 k2 d2 N2 D2) (v : Int) (hv : decide (v < 0) = false) (HC : Hid (∀ w, RatAt w A2 l2 c2 B2 k2 d2 N2 D2 → RatAt w A1 l1 c1 B1 k1 d1 N1 D1 → Calls Tryz.prog 91 #[.agg #[.int .i64 i2, .bool s2, .slice A2 l2 c2, .slice B2 k2 d2], .agg #[.int .i64 i1, .bool s1, .slice A1 l1 c1, .slice B1 k1 d1]] w fun e w' => e = .returned (.int .i64 v) ∧ Ext w w')) :
    Calls Tryz.prog 124 #[.agg #[.int .i64 i1, .bool s1, .slice A1 l1 c1, .slice B1 k1 d1], .agg #[.int .i64 i2, .bool s2, .slice A2 l2 c2, .slice B2 k2 d2]] w (RetEnd i1 s1 N1 D1 w) := by
  have hO := ((((Own.start w).add h1.1).add h1.2).add h2.1).add h2.2
  have hf : True := trivial
  clear h1 h2
  go_enter Tryz.func124, Tryz.ntmps124
  go_wp2_with (first | ((with_reducible refine at_box ?_); refine own_box (cs := [.int .i64 i1, .bool s1, .slice A1 l1 c1, .slice B1 k1 d1]) hO rfl rfl ?_; clear hO; intro ga wa hO; clear hf; have hf := hO.cells; simp only [BC, CC, Nat.zero_add, Nat.reduceAdd, and_true] at hf) | ((with_reducible refine at_box ?_); refine own_box (cs := [.int .i64 i2, .bool s2, .slice A2 l2 c2, .slice B2 k2 d2]) hO rfl rfl ?_; clear hO; intro gb wb hO; clear hf; have hf := hO.cells; simp only [BC, CC, Nat.zero_add, Nat.reduceAdd, and_true] at hf) | ((with_reducible refine at_alloc ?_); refine own_alloc hO zero_endh rfl rfl ?_; clear hO; intro g wc hO; clear hf; have hf := hO.cells; simp only [BC, CC, Nat.zero_add, Nat.reduceAdd, and_true] at hf))
  refine (HC.out _ ⟨hO.wd 1 rfl, hO.wd 0 rfl⟩ ⟨hO.wd 3 rfl, hO.wd 2 rfl⟩).mono ?_
  rintro e w3 ⟨rfl, hE1⟩
  have hO := hO.ext hE1
  clear hE1
  clear hf
  have hf := hO.cells
  simp only [BC, CC, Nat.zero_add, Nat.reduceAdd, and_true] at hf
  go_wp2_with ((with_reducible refine at_store (T := 55) ?_); refine own_store (T := 55) hO 0 rfl rfl rfl size_endh rfl rfl rfl ?_; clear hO; intro w4 hO; simp only [List.set_cons_zero, List.set_cons_succ, spl, List.take_succ_cons, List.take_zero, List.nil_append, List.cons_append, List.length_cons, List.length_nil, List.drop_succ_cons, List.drop_zero, List.drop_nil, Nat.reduceAdd, Nat.zero_add, List.append_nil] at hO; clear hf; have hf := hO.cells; simp only [BC, CC, Nat.zero_add, Nat.reduceAdd, and_true] at hf)
  exact own_ret hO 0 rfl rfl rfl agg_endi size_endh rfl ⟨_, _, _, _, _, _, rfl, ⟨hO.wd 3 rfl, hO.wd 2 rfl⟩, hO.toExt⟩

set_option maxHeartbeats 4000000 in
theorem greater_t (i1 : Int) (s1 : Bool) (A1 : Option Addr) (l1 c1 : Nat) (B1 : Option Addr) (k1 d1 N1 D1 : Nat) (i2 : Int) (s2 : Bool) (A2 : Option Addr) (l2 c2 : Nat) (B2 : Option Addr) (k2 d2 N2 D2 : Nat) (w : World) (h1 : RatAt w A1 l1 c1 B1 k1 d1 N1 D1) (h2 : RatAt w A2 l2 c2 B2 k2 d2 N2 D2) (v : Int) (hv : decide (0 < v) = true) (HC : Hid (∀ w, RatAt w A2 l2 c2 B2 k2 d2 N2 D2 → RatAt w A1 l1 c1 B1 k1 d1 N1 D1 → Calls Tryz.prog 91 #[.agg #[.int .i64 i2, .bool s2, .slice A2 l2 c2, .slice B2 k2 d2], .agg #[.int .i64 i1, .bool s1, .slice A1 l1 c1, .slice B1 k1 d1]] w fun e w' => e = .returned (.int .i64 v) ∧ Ext w w')) :
    Calls Tryz.prog 125 #[.agg #[.int .i64 i1, .bool s1, .slice A1 l1 c1, .slice B1 k1 d1], .agg #[.int .i64 i2, .bool s2, .slice A2 l2 c2, .slice B2 k2 d2]] w (RetEnd i2 s2 N2 D2 w) := by
  have hO := ((((Own.start w).add h1.1).add h1.2).add h2.1).add h2.2
  have hf : True := trivial
  clear h1 h2
  go_enter Tryz.func125, Tryz.ntmps125
  go_wp2_with (first | ((with_reducible refine at_box ?_); refine own_box (cs := [.int .i64 i1, .bool s1, .slice A1 l1 c1, .slice B1 k1 d1]) hO rfl rfl ?_; clear hO; intro ga wa hO; clear hf; have hf := hO.cells; simp only [BC, CC, Nat.zero_add, Nat.reduceAdd, and_true] at hf) | ((with_reducible refine at_box ?_); refine own_box (cs := [.int .i64 i2, .bool s2, .slice A2 l2 c2, .slice B2 k2 d2]) hO rfl rfl ?_; clear hO; intro gb wb hO; clear hf; have hf := hO.cells; simp only [BC, CC, Nat.zero_add, Nat.reduceAdd, and_true] at hf) | ((with_reducible refine at_alloc ?_); refine own_alloc hO zero_endh rfl rfl ?_; clear hO; intro g wc hO; clear hf; have hf := hO.cells; simp only [BC, CC, Nat.zero_add, Nat.reduceAdd, and_true] at hf))
  refine (HC.out _ ⟨hO.wd 1 rfl, hO.wd 0 rfl⟩ ⟨hO.wd 3 rfl, hO.wd 2 rfl⟩).mono ?_
  rintro e w3 ⟨rfl, hE1⟩
  have hO := hO.ext hE1
  clear hE1
  clear hf
  have hf := hO.cells
  simp only [BC, CC, Nat.zero_add, Nat.reduceAdd, and_true] at hf
  go_wp2_with ((with_reducible refine at_store (T := 55) ?_); refine own_store (T := 55) hO 0 rfl rfl rfl size_endh rfl rfl rfl ?_; clear hO; intro w4 hO; simp only [List.set_cons_zero, List.set_cons_succ, spl, List.take_succ_cons, List.take_zero, List.nil_append, List.cons_append, List.length_cons, List.length_nil, List.drop_succ_cons, List.drop_zero, List.drop_nil, Nat.reduceAdd, Nat.zero_add, List.append_nil] at hO; clear hf; have hf := hO.cells; simp only [BC, CC, Nat.zero_add, Nat.reduceAdd, and_true] at hf)
  exact own_ret hO 0 rfl rfl rfl agg_endi size_endh rfl ⟨_, _, _, _, _, _, rfl, ⟨hO.wd 1 rfl, hO.wd 0 rfl⟩, hO.toExt⟩

set_option maxHeartbeats 4000000 in
theorem greater_f (i1 : Int) (s1 : Bool) (A1 : Option Addr) (l1 c1 : Nat) (B1 : Option Addr) (k1 d1 N1 D1 : Nat) (i2 : Int) (s2 : Bool) (A2 : Option Addr) (l2 c2 : Nat) (B2 : Option Addr) (k2 d2 N2 D2 : Nat) (w : World) (h1 : RatAt w A1 l1 c1 B1 k1 d1 N1 D1) (h2 : RatAt w A2 l2 c2 B2 k2 d2 N2 D2) (v : Int) (hv : decide (0 < v) = false) (HC : Hid (∀ w, RatAt w A2 l2 c2 B2 k2 d2 N2 D2 → RatAt w A1 l1 c1 B1 k1 d1 N1 D1 → Calls Tryz.prog 91 #[.agg #[.int .i64 i2, .bool s2, .slice A2 l2 c2, .slice B2 k2 d2], .agg #[.int .i64 i1, .bool s1, .slice A1 l1 c1, .slice B1 k1 d1]] w fun e w' => e = .returned (.int .i64 v) ∧ Ext w w')) :
    Calls Tryz.prog 125 #[.agg #[.int .i64 i1, .bool s1, .slice A1 l1 c1, .slice B1 k1 d1], .agg #[.int .i64 i2, .bool s2, .slice A2 l2 c2, .slice B2 k2 d2]] w (RetEnd i1 s1 N1 D1 w) := by
  have hO := ((((Own.start w).add h1.1).add h1.2).add h2.1).add h2.2
  have hf : True := trivial
  clear h1 h2
  go_enter Tryz.func125, Tryz.ntmps125
  go_wp2_with (first | ((with_reducible refine at_box ?_); refine own_box (cs := [.int .i64 i1, .bool s1, .slice A1 l1 c1, .slice B1 k1 d1]) hO rfl rfl ?_; clear hO; intro ga wa hO; clear hf; have hf := hO.cells; simp only [BC, CC, Nat.zero_add, Nat.reduceAdd, and_true] at hf) | ((with_reducible refine at_box ?_); refine own_box (cs := [.int .i64 i2, .bool s2, .slice A2 l2 c2, .slice B2 k2 d2]) hO rfl rfl ?_; clear hO; intro gb wb hO; clear hf; have hf := hO.cells; simp only [BC, CC, Nat.zero_add, Nat.reduceAdd, and_true] at hf) | ((with_reducible refine at_alloc ?_); refine own_alloc hO zero_endh rfl rfl ?_; clear hO; intro g wc hO; clear hf; have hf := hO.cells; simp only [BC, CC, Nat.zero_add, Nat.reduceAdd, and_true] at hf))
  refine (HC.out _ ⟨hO.wd 1 rfl, hO.wd 0 rfl⟩ ⟨hO.wd 3 rfl, hO.wd 2 rfl⟩).mono ?_
  rintro e w3 ⟨rfl, hE1⟩
  have hO := hO.ext hE1
  clear hE1
  clear hf
  have hf := hO.cells
  simp only [BC, CC, Nat.zero_add, Nat.reduceAdd, and_true] at hf
  go_wp2_with ((with_reducible refine at_store (T := 55) ?_); refine own_store (T := 55) hO 0 rfl rfl rfl size_endh rfl rfl rfl ?_; clear hO; intro w4 hO; simp only [List.set_cons_zero, List.set_cons_succ, spl, List.take_succ_cons, List.take_zero, List.nil_append, List.cons_append, List.length_cons, List.length_nil, List.drop_succ_cons, List.drop_zero, List.drop_nil, Nat.reduceAdd, Nat.zero_add, List.append_nil] at hO; clear hf; have hf := hO.cells; simp only [BC, CC, Nat.zero_add, Nat.reduceAdd, and_true] at hf)
  exact own_ret hO 0 rfl rfl rfl agg_endi size_endh rfl ⟨_, _, _, _, _, _, rfl, ⟨hO.wd 3 rfl, hO.wd 2 rfl⟩, hO.toExt⟩

set_option maxHeartbeats 4000000 in
theorem inverse_i (i1 : Int) (s1 : Bool) (A1 : Option Addr) (l1 c1 : Nat) (B1 : Option Addr) (k1 d1 N1 D1 : Nat) (iz : Int) (sz : Bool) (Nz Dz : Nat) (w : World) (h1 : RatAt w A1 l1 c1 B1 k1 d1 N1 D1) (hi : (i1 != 0) = true) (HFI : Hid (∀ w, Calls Tryz.prog 59 #[.int .i64 0] w (RetEnd iz sz Nz Dz w))) :
    Calls Tryz.prog 126 #[.agg #[.int .i64 i1, .bool s1, .slice A1 l1 c1, .slice B1 k1 d1]] w (RetEnd iz sz Nz Dz w) := by
  have hO := ((Own.start w).add h1.1).add h1.2
  have hf : True := trivial
  clear h1
  go_enter Tryz.func126, Tryz.ntmps126
  go_wp2_with (first | ((with_reducible refine at_box ?_); refine own_box (cs := [.int .i64 i1, .bool s1, .slice A1 l1 c1, .slice B1 k1 d1]) hO rfl rfl ?_; clear hO; intro ga wa hO; clear hf; have hf := hO.cells; simp only [BC, CC, Nat.zero_add, Nat.reduceAdd, and_true] at hf) | ((with_reducible refine at_alloc ?_); refine own_alloc hO zero_endh rfl rfl ?_; clear hO; intro g wc hO; clear hf; have hf := hO.cells; simp only [BC, CC, Nat.zero_add, Nat.reduceAdd, and_true] at hf))
  refine (HFI.out _).mono ?_
  rintro e w3 ⟨A2, l2, c2, B2, k2, d2, rfl, ⟨hW1, hW2⟩, hE1⟩
  have hO := ((hO.ext hE1).add hW1).add hW2
  clear hW1 hW2 hE1
  clear hf
  have hf := hO.cells
  simp only [BC, CC, Nat.zero_add, Nat.reduceAdd, and_true] at hf
  go_wp2_with ((with_reducible refine at_store (T := 55) ?_); refine own_store (T := 55) hO 0 rfl rfl rfl size_endh rfl rfl rfl ?_; clear hO; intro w4 hO; simp only [List.set_cons_zero, List.set_cons_succ, spl, List.take_succ_cons, List.take_zero, List.nil_append, List.cons_append, List.length_cons, List.length_nil, List.drop_succ_cons, List.drop_zero, List.drop_nil, Nat.reduceAdd, Nat.zero_add, List.append_nil] at hO; clear hf; have hf := hO.cells; simp only [BC, CC, Nat.zero_add, Nat.reduceAdd, and_true] at hf)
  exact own_ret hO 0 rfl rfl rfl agg_endi size_endh rfl ⟨_, _, _, _, _, _, rfl, ⟨hO.wd 1 rfl, hO.wd 0 rfl⟩, hO.toExt⟩

set_option maxHeartbeats 4000000 in
theorem inverse_q (i1 : Int) (s1 : Bool) (A1 : Option Addr) (l1 c1 : Nat) (B1 : Option Addr) (k1 d1 N1 D1 : Nat) (N0 D0 : Nat) (sq : Bool) (Nq Dq : Nat) (w : World) (h1 : RatAt w A1 l1 c1 B1 k1 d1 N1 D1) (hi : (i1 != 0) = false) (HI : Hid (∀ w, Calls Tryz.prog 19 #[.int .i64 1] w (RetR false N0 D0 w))) (HQ : Hid (∀ (A0 : Option Addr) (l0 c0 : Nat) (B0 : Option Addr) (k0 d0 : Nat) (w : World), RatAt w A0 l0 c0 B0 k0 d0 N0 D0 → RatAt w A1 l1 c1 B1 k1 d1 N1 D1 → Calls Tryz.prog 147 #[.agg #[.bool false, .slice A0 l0 c0, .slice B0 k0 d0], .agg #[.bool s1, .slice A1 l1 c1, .slice B1 k1 d1]] w (RetR sq Nq Dq w))) :
    Calls Tryz.prog 126 #[.agg #[.int .i64 i1, .bool s1, .slice A1 l1 c1, .slice B1 k1 d1]] w (RetEnd 0 sq Nq Dq w) := by
  have hO := ((Own.start w).add h1.1).add h1.2
  have hf : True := trivial
  clear h1
  go_enter Tryz.func126, Tryz.ntmps126
  go_upto_region 3 with (first | ((with_reducible refine at_box ?_); refine own_box (cs := [.int .i64 i1, .bool s1, .slice A1 l1 c1, .slice B1 k1 d1]) hO rfl rfl ?_; clear hO; intro ga wa hO; clear hf; have hf := hO.cells; simp only [BC, CC, Nat.zero_add, Nat.reduceAdd, and_true] at hf) | ((with_reducible refine at_alloc ?_); refine own_alloc hO zero_endh rfl rfl ?_; clear hO; intro g wc hO; clear hf; have hf := hO.cells; simp only [BC, CC, Nat.zero_add, Nat.reduceAdd, and_true] at hf))
  obtain ⟨S, hS⟩ : ∃ S : World → Prop, S = Own w [⟨g, 55, [.int .i64 0, .bool false, .slice none 0 0, .slice none 0 0]⟩, ⟨ga, 55, [.int .i64 i1, .bool s1, .slice A1 l1 c1, .slice B1 k1 d1]⟩] [⟨B1, k1, d1, nd D1⟩, ⟨A1, l1, c1, nd N1⟩] := ⟨_, rfl⟩
  have hSE : ∀ w w', S w → Ext w w' → S w' := fun w w' h1 h2 => by rw [hS] at h1 ⊢; exact h1.ext h2
  have hS1 : S wc.drew := by rw [hS]; exact hO.ext (Ext.refl wc).drew
  have HS := Lib.hid hS
  clear hS hO hf
  obtain ⟨sp, hsp⟩ : ∃ sp : Nat → Sp, sp = ofList [anyOf (fun v wz => ∃ A l c B k d, v = .agg #[.bool false, .slice A l c, .slice B k d] ∧ RatAt wz A l c B k d N0 D0), det (.pointer (some ⟨ga, 1, none⟩)), det (.agg #[.bool s1, .slice A1 l1 c1, .slice B1 k1 d1]), anyOf (fun v wz => ∃ A l c B k d, v = .agg #[.bool sq, .slice A l c, .slice B k d] ∧ RatAt wz A l c B k d Nq Dq), anyOf (fun v wz => ∃ A l c B k d, v = .agg #[.int .i64 0, .bool sq, .slice A l c, .slice B k d] ∧ RatAt wz A l c B k d Nq Dq)] := ⟨_, rfl⟩
  have HSP := Lib.hid hsp
  clear hsp
  refine wp_region_loose 5 S sp (by kernel_rfl) (by kernel_rfl) hS1 hSE ?_
  simp only [List.take_succ_cons, List.take_zero, List.drop_succ_cons, List.drop_zero]
  refine wpX_step (fun K hK => ?_)
  go_simp
  refine StepY.any (by rw [HSP.out]; rfl) ?_ ?_
  · intro wz hz hF
    clear hz hF
    go_simp
    refine (HI.out _).mono ?_
    rintro e w2 ⟨A3, n3, c3, A4, n4, c4, rfl, hW1, hW2, hE1⟩
    exact ⟨_, rfl, ⟨A3, n3, c3, A4, n4, c4, rfl, hW1, hW2⟩, hE1⟩
  intro v1
  refine hK _ _ ?_
  clear hK K
  refine wpX_step (fun K hK => ?_)
  go_simp
  refine StepY.det (by rw [HSP.out]; rfl) ?_ ?_
  · intro wz hz hF
    clear hz hF
    go_simp
    exact ⟨rfl, Ext.refl _⟩
  refine hK _ _ ?_
  clear hK K
  refine wpX_step (fun K hK => ?_)
  go_simp
  refine StepY.det (by rw [HSP.out]; rfl) ?_ ?_
  · intro wz hz hF
    rw [HS.out] at hz
    have hf := hz.cells
    simp only [BC, CC, Nat.zero_add, Nat.reduceAdd, and_true] at hf
    clear hz hF
    go_simp
    exact ⟨rfl, Ext.refl _⟩
  refine hK _ _ ?_
  clear hK K
  refine wpX_step (fun K hK => ?_)
  go_simp
  refine StepY.any (by rw [HSP.out]; rfl) ?_ ?_
  · intro wz hz hF
    obtain ⟨wa', ea, A5, n5, c5, A6, n6, c6, hv1, hw1⟩ := hF.any 0 (by kernel_rfl) (by rw [HSP.out]; rfl)
    rw [HS.out] at hz
    have hR : RatAt wz _ _ _ _ _ _ _ _ := ⟨hz.wd 1 rfl, hz.wd 0 rfl⟩
    clear hz hF
    simp only [asFun, List.nil_append, List.cons_append, List.getD_cons_succ, List.getD_cons_zero] at hv1
    subst hv1
    go_simp
    refine (HQ.out _ _ _ _ _ _ _ (hw1.ext ea) hR).mono ?_
    rintro e w2 ⟨A3, n3, c3, A4, n4, c4, rfl, hW1, hW2, hE1⟩
    exact ⟨_, rfl, ⟨A3, n3, c3, A4, n4, c4, rfl, hW1, hW2⟩, hE1⟩
  intro v2
  refine hK _ _ ?_
  clear hK K
  refine wpX_step (fun K hK => ?_)
  go_simp
  refine StepY.any (by rw [HSP.out]; rfl) ?_ ?_
  · intro wz hz hF
    obtain ⟨wa', ea, A5, n5, c5, A6, n6, c6, hv1, hw1⟩ := hF.any 3 (by kernel_rfl) (by rw [HSP.out]; rfl)
    clear hz hF
    simp only [asFun, List.nil_append, List.cons_append, List.getD_cons_succ, List.getD_cons_zero] at hv1
    subst hv1
    go_simp
    exact ⟨⟨A5, n5, c5, A6, n6, c6, rfl, hw1.ext ea⟩, Ext.refl _⟩
  intro v3
  refine hK _ _ ?_
  clear hK K
  refine wpX_nil ?_
  intro wq hz hF
  obtain ⟨wa', ea, A5, n5, c5, A6, n6, c6, hv1, hw1⟩ := fact_any (hF 4 (by omega)) (by rw [HSP.out]; rfl)
  clear hF
  simp only [asFun, List.nil_append, List.cons_append, List.getD_cons_succ, List.getD_cons_zero] at hv1
  subst hv1
  rw [HS.out] at hz
  have hO := hz
  clear hz HS HSP
  have hf := hO.cells
  simp only [BC, CC, Nat.zero_add, Nat.reduceAdd, and_true] at hf
  have hw1 := hw1.ext ea
  have hO := (hO.add hw1.1).add hw1.2
  clear hw1 ea hf
  have hf := hO.cells
  simp only [BC, CC, Nat.zero_add, Nat.reduceAdd, and_true] at hf
  go_wp2_with ((with_reducible refine at_store (T := 55) ?_); refine own_store (T := 55) hO 0 rfl rfl rfl size_endh rfl rfl rfl ?_; clear hO; intro w4 hO; simp only [List.set_cons_zero, List.set_cons_succ, spl, List.take_succ_cons, List.take_zero, List.nil_append, List.cons_append, List.length_cons, List.length_nil, List.drop_succ_cons, List.drop_zero, List.drop_nil, Nat.reduceAdd, Nat.zero_add, List.append_nil] at hO; clear hf; have hf := hO.cells; simp only [BC, CC, Nat.zero_add, Nat.reduceAdd, and_true] at hf)
  exact own_ret hO 0 rfl rfl rfl agg_endi size_endh rfl ⟨_, _, _, _, _, _, rfl, ⟨hO.wd 1 rfl, hO.wd 0 rfl⟩, hO.toExt⟩

set_option maxHeartbeats 4000000 in
theorem none6_w (iz : Int) (sz : Bool) (Nz Dz : Nat) (w : World) (HFI : Hid (∀ w, Calls Tryz.prog 59 #[.int .i64 0] w (RetEnd iz sz Nz Dz w))) :
    Calls Tryz.prog 127 #[] w (RetSet true iz sz Nz Dz iz sz Nz Dz w) := by
  have hO := Own.start w
  have hf : True := trivial
  go_enter Tryz.func127, Tryz.ntmps127
  go_wp2_with ((with_reducible refine at_alloc ?_); refine own_alloc hO zero_seth rfl rfl ?_; clear hO; intro g wc hO; clear hf; have hf := hO.cells; simp only [BC, CC, Nat.zero_add, Nat.reduceAdd, and_true] at hf)
  refine (HFI.out _).mono ?_
  rintro e w3 ⟨A1, l1, c1, B1, k1, d1, rfl, ⟨hW1, hW2⟩, hE1⟩
  have hO := ((hO.ext hE1).add hW1).add hW2
  clear hW1 hW2 hE1
  clear hf
  have hf := hO.cells
  simp only [BC, CC, Nat.zero_add, Nat.reduceAdd, and_true] at hf
  go_wp2_with fail
  refine (HFI.out _).mono ?_
  rintro e w4 ⟨A2, l2, c2, B2, k2, d2, rfl, ⟨hW1, hW2⟩, hE1⟩
  have hO := ((hO.ext hE1).add hW1).add hW2
  clear hW1 hW2 hE1
  clear hf
  have hf := hO.cells
  simp only [BC, CC, Nat.zero_add, Nat.reduceAdd, and_true] at hf
  go_wp2_with ((with_reducible refine at_store (T := 57) ?_); refine own_store (T := 57) hO 0 rfl rfl rfl size_seth rfl rfl rfl ?_; clear hO; intro w5 hO; simp only [List.set_cons_zero, List.set_cons_succ, spl, List.take_succ_cons, List.take_zero, List.nil_append, List.cons_append, List.length_cons, List.length_nil, List.drop_succ_cons, List.drop_zero, List.drop_nil, Nat.reduceAdd, Nat.zero_add, List.append_nil] at hO; clear hf; have hf := hO.cells; simp only [BC, CC, Nat.zero_add, Nat.reduceAdd, and_true] at hf)
  exact own_ret hO 0 rfl rfl rfl agg_seti size_seth rfl ⟨_, _, _, _, _, _, _, _, _, _, _, _, rfl, ⟨hO.wd 3 rfl, hO.wd 2 rfl⟩, ⟨hO.wd 1 rfl, hO.wd 0 rfl⟩, hO.toExt⟩

set_option maxHeartbeats 4000000 in
theorem single6_w (s1 : Bool) (A1 : Option Addr) (l1 c1 : Nat) (B1 : Option Addr) (k1 d1 : Nat) (N1 D1 : Nat) (w : World) (h1 : RatAt w A1 l1 c1 B1 k1 d1 N1 D1) :
    Calls Tryz.prog 62 #[.agg #[.bool s1, .slice A1 l1 c1, .slice B1 k1 d1]] w (RetSet false 0 s1 N1 D1 0 s1 N1 D1 w) := by
  have hO := ((Own.start w).add h1.1).add h1.2
  have hf : True := trivial
  clear h1
  go_enter Tryz.func62, Tryz.ntmps62
  go_wp2_with (first | ((with_reducible refine at_box ?_); refine own_box (cs := [.bool s1, .slice A1 l1 c1, .slice B1 k1 d1]) hO rfl rfl ?_; clear hO; intro ga wa hO; clear hf; have hf := hO.cells; simp only [BC, CC, Nat.zero_add, Nat.reduceAdd, and_true] at hf) | ((with_reducible refine at_alloc ?_); refine own_alloc hO zero_seth rfl rfl ?_; clear hO; intro g wc hO; clear hf; have hf := hO.cells; simp only [BC, CC, Nat.zero_add, Nat.reduceAdd, and_true] at hf) | ((with_reducible refine at_store (T := 57) ?_); refine own_store (T := 57) hO 0 rfl rfl rfl size_seth rfl rfl rfl ?_; clear hO; intro w5 hO; simp only [List.set_cons_zero, List.set_cons_succ, spl, List.take_succ_cons, List.take_zero, List.nil_append, List.cons_append, List.length_cons, List.length_nil, List.drop_succ_cons, List.drop_zero, List.drop_nil, Nat.reduceAdd, Nat.zero_add, List.append_nil] at hO; clear hf; have hf := hO.cells; simp only [BC, CC, Nat.zero_add, Nat.reduceAdd, and_true] at hf))
  exact own_ret hO 0 rfl rfl rfl agg_seti size_seth rfl ⟨_, _, _, _, _, _, _, _, _, _, _, _, rfl, ⟨hO.wd 1 rfl, hO.wd 0 rfl⟩, ⟨hO.wd 1 rfl, hO.wd 0 rfl⟩, hO.toExt⟩

set_option maxHeartbeats 4000000 in
theorem upper_n (i1 : Int) (s1 : Bool) (A1 : Option Addr) (l1 c1 : Nat) (B1 : Option Addr) (k1 d1 N1 D1 : Nat) (i2 : Int) (s2 : Bool) (A2 : Option Addr) (l2 c2 : Nat) (B2 : Option Addr) (k2 d2 N2 D2 : Nat) (iz : Int) (sz : Bool) (Nz Dz : Nat) (w : World) (h1 : RatAt w A1 l1 c1 B1 k1 d1 N1 D1) (h2 : RatAt w A2 l2 c2 B2 k2 d2 N2 D2) (HNO : Hid (∀ w, Calls Tryz.prog 127 #[] w (RetSet true iz sz Nz Dz iz sz Nz Dz w))) :
    Calls Tryz.prog 96 #[.agg #[.bool true, .int .i64 i1, .bool s1, .slice A1 l1 c1, .slice B1 k1 d1, .int .i64 i2, .bool s2, .slice A2 l2 c2, .slice B2 k2 d2]] w (RetSet true iz sz Nz Dz iz sz Nz Dz w) := by
  have hO := ((((Own.start w).add h1.1).add h1.2).add h2.1).add h2.2
  have hf : True := trivial
  clear h1 h2
  go_enter Tryz.func96, Tryz.ntmps96
  go_wp2_with (first | ((with_reducible refine at_box ?_); refine own_box (cs := [.bool true, .int .i64 i1, .bool s1, .slice A1 l1 c1, .slice B1 k1 d1, .int .i64 i2, .bool s2, .slice A2 l2 c2, .slice B2 k2 d2]) hO rfl rfl ?_; clear hO; intro ga wa hO; clear hf; have hf := hO.cells; simp only [BC, CC, Nat.zero_add, Nat.reduceAdd, and_true] at hf) | ((with_reducible refine at_alloc ?_); refine own_alloc hO zero_seth rfl rfl ?_; clear hO; intro g wc hO; clear hf; have hf := hO.cells; simp only [BC, CC, Nat.zero_add, Nat.reduceAdd, and_true] at hf))
  refine (HNO.out _).mono ?_
  rintro e w9 ⟨A3, l3, c3, B3, k3, d3, A4, l4, c4, B4, k4, d4, rfl, ⟨hW1, hW2⟩, ⟨hW3, hW4⟩, hE1⟩
  have hO := ((((hO.ext hE1).add hW1).add hW2).add hW3).add hW4
  clear hW1 hW2 hW3 hW4 hE1
  clear hf
  have hf := hO.cells
  simp only [BC, CC, Nat.zero_add, Nat.reduceAdd, and_true] at hf
  go_wp2_with ((with_reducible refine at_store (T := 57) ?_); refine own_store (T := 57) hO 0 rfl rfl rfl size_seth rfl rfl rfl ?_; clear hO; intro w5 hO; simp only [List.set_cons_zero, List.set_cons_succ, spl, List.take_succ_cons, List.take_zero, List.nil_append, List.cons_append, List.length_cons, List.length_nil, List.drop_succ_cons, List.drop_zero, List.drop_nil, Nat.reduceAdd, Nat.zero_add, List.append_nil] at hO; clear hf; have hf := hO.cells; simp only [BC, CC, Nat.zero_add, Nat.reduceAdd, and_true] at hf)
  exact own_ret hO 0 rfl rfl rfl agg_seti size_seth rfl ⟨_, _, _, _, _, _, _, _, _, _, _, _, rfl, ⟨hO.wd 3 rfl, hO.wd 2 rfl⟩, ⟨hO.wd 1 rfl, hO.wd 0 rfl⟩, hO.toExt⟩

set_option maxHeartbeats 4000000 in
theorem upper_z (i1 : Int) (s1 : Bool) (A1 : Option Addr) (l1 c1 : Nat) (B1 : Option Addr) (k1 d1 N1 D1 : Nat) (i2 : Int) (s2 : Bool) (A2 : Option Addr) (l2 c2 : Nat) (B2 : Option Addr) (k2 d2 N2 D2 : Nat) (iz : Int) (sz : Bool) (Nz Dz : Nat) (w : World) (h1 : RatAt w A1 l1 c1 B1 k1 d1 N1 D1) (h2 : RatAt w A2 l2 c2 B2 k2 d2 N2 D2) (v : Int) (hv : decide (v ≤ 0) = true) (HSG : Hid (∀ w, RatAt w A2 l2 c2 B2 k2 d2 N2 D2 → Calls Tryz.prog 92 #[.agg #[.int .i64 i2, .bool s2, .slice A2 l2 c2, .slice B2 k2 d2]] w fun e w' => e = .returned (.int .i64 v) ∧ Ext w w')) (HNO : Hid (∀ w, Calls Tryz.prog 127 #[] w (RetSet true iz sz Nz Dz iz sz Nz Dz w))) :
    Calls Tryz.prog 96 #[.agg #[.bool false, .int .i64 i1, .bool s1, .slice A1 l1 c1, .slice B1 k1 d1, .int .i64 i2, .bool s2, .slice A2 l2 c2, .slice B2 k2 d2]] w (RetSet true iz sz Nz Dz iz sz Nz Dz w) := by
  have hO := ((((Own.start w).add h1.1).add h1.2).add h2.1).add h2.2
  have hf : True := trivial
  clear h1 h2
  go_enter Tryz.func96, Tryz.ntmps96
  go_wp2_with (first | ((with_reducible refine at_box ?_); refine own_box (cs := [.bool false, .int .i64 i1, .bool s1, .slice A1 l1 c1, .slice B1 k1 d1, .int .i64 i2, .bool s2, .slice A2 l2 c2, .slice B2 k2 d2]) hO rfl rfl ?_; clear hO; intro ga wa hO; clear hf; have hf := hO.cells; simp only [BC, CC, Nat.zero_add, Nat.reduceAdd, and_true] at hf) | ((with_reducible refine at_alloc ?_); refine own_alloc hO zero_seth rfl rfl ?_; clear hO; intro g wc hO; clear hf; have hf := hO.cells; simp only [BC, CC, Nat.zero_add, Nat.reduceAdd, and_true] at hf))
  refine (HSG.out _ ⟨hO.wd 1 rfl, hO.wd 0 rfl⟩).mono ?_
  rintro e w3 ⟨rfl, hE1⟩
  have hO := hO.ext hE1
  clear hE1
  clear hf
  have hf := hO.cells
  simp only [BC, CC, Nat.zero_add, Nat.reduceAdd, and_true] at hf
  go_wp2_with fail
  refine (HNO.out _).mono ?_
  rintro e w9 ⟨A3, l3, c3, B3, k3, d3, A4, l4, c4, B4, k4, d4, rfl, ⟨hW1, hW2⟩, ⟨hW3, hW4⟩, hE1⟩
  have hO := ((((hO.ext hE1).add hW1).add hW2).add hW3).add hW4
  clear hW1 hW2 hW3 hW4 hE1
  clear hf
  have hf := hO.cells
  simp only [BC, CC, Nat.zero_add, Nat.reduceAdd, and_true] at hf
  go_wp2_with ((with_reducible refine at_store (T := 57) ?_); refine own_store (T := 57) hO 0 rfl rfl rfl size_seth rfl rfl rfl ?_; clear hO; intro w5 hO; simp only [List.set_cons_zero, List.set_cons_succ, spl, List.take_succ_cons, List.take_zero, List.nil_append, List.cons_append, List.length_cons, List.length_nil, List.drop_succ_cons, List.drop_zero, List.drop_nil, Nat.reduceAdd, Nat.zero_add, List.append_nil] at hO; clear hf; have hf := hO.cells; simp only [BC, CC, Nat.zero_add, Nat.reduceAdd, and_true] at hf)
  exact own_ret hO 0 rfl rfl rfl agg_seti size_seth rfl ⟨_, _, _, _, _, _, _, _, _, _, _, _, rfl, ⟨hO.wd 3 rfl, hO.wd 2 rfl⟩, ⟨hO.wd 1 rfl, hO.wd 0 rfl⟩, hO.toExt⟩

set_option maxHeartbeats 4000000 in
theorem upper_p (i1 : Int) (s1 : Bool) (A1 : Option Addr) (l1 c1 : Nat) (B1 : Option Addr) (k1 d1 N1 D1 : Nat) (i2 : Int) (s2 : Bool) (A2 : Option Addr) (l2 c2 : Nat) (B2 : Option Addr) (k2 d2 N2 D2 : Nat) (iz : Int) (sz : Bool) (Nz Dz : Nat) (ig : Int) (sg : Bool) (Ng Dg : Nat) (w : World) (h1 : RatAt w A1 l1 c1 B1 k1 d1 N1 D1) (h2 : RatAt w A2 l2 c2 B2 k2 d2 N2 D2) (v : Int) (hv : decide (v ≤ 0) = false) (HSG : Hid (∀ w, RatAt w A2 l2 c2 B2 k2 d2 N2 D2 → Calls Tryz.prog 92 #[.agg #[.int .i64 i2, .bool s2, .slice A2 l2 c2, .slice B2 k2 d2]] w fun e w' => e = .returned (.int .i64 v) ∧ Ext w w')) (HFI : Hid (∀ w, Calls Tryz.prog 59 #[.int .i64 0] w (RetEnd iz sz Nz Dz w))) (HGR : Hid (∀ (Az : Option Addr) (lz cz : Nat) (Bz : Option Addr) (kz dz : Nat) (w : World), RatAt w A1 l1 c1 B1 k1 d1 N1 D1 → RatAt w Az lz cz Bz kz dz Nz Dz → Calls Tryz.prog 125 #[.agg #[.int .i64 i1, .bool s1, .slice A1 l1 c1, .slice B1 k1 d1], .agg #[.int .i64 iz, .bool sz, .slice Az lz cz, .slice Bz kz dz]] w (RetEnd ig sg Ng Dg w))) :
    Calls Tryz.prog 96 #[.agg #[.bool false, .int .i64 i1, .bool s1, .slice A1 l1 c1, .slice B1 k1 d1, .int .i64 i2, .bool s2, .slice A2 l2 c2, .slice B2 k2 d2]] w (RetSet false ig sg Ng Dg i2 s2 N2 D2 w) := by
  have hO := ((((Own.start w).add h1.1).add h1.2).add h2.1).add h2.2
  have hf : True := trivial
  clear h1 h2
  go_enter Tryz.func96, Tryz.ntmps96
  go_wp2_with (first | ((with_reducible refine at_box ?_); refine own_box (cs := [.bool false, .int .i64 i1, .bool s1, .slice A1 l1 c1, .slice B1 k1 d1, .int .i64 i2, .bool s2, .slice A2 l2 c2, .slice B2 k2 d2]) hO rfl rfl ?_; clear hO; intro ga wa hO; clear hf; have hf := hO.cells; simp only [BC, CC, Nat.zero_add, Nat.reduceAdd, and_true] at hf) | ((with_reducible refine at_alloc ?_); refine own_alloc hO zero_seth rfl rfl ?_; clear hO; intro g wc hO; clear hf; have hf := hO.cells; simp only [BC, CC, Nat.zero_add, Nat.reduceAdd, and_true] at hf))
  refine (HSG.out _ ⟨hO.wd 1 rfl, hO.wd 0 rfl⟩).mono ?_
  rintro e w3 ⟨rfl, hE1⟩
  have hO := hO.ext hE1
  clear hE1
  clear hf
  have hf := hO.cells
  simp only [BC, CC, Nat.zero_add, Nat.reduceAdd, and_true] at hf
  go_upto_region 3 with fail
  obtain ⟨S, hS⟩ : ∃ S : World → Prop, S = Own w [⟨g, 57, [.bool false, .int .i64 0, .bool false, .slice none 0 0, .slice none 0 0, .int .i64 0, .bool false, .slice none 0 0, .slice none 0 0]⟩, ⟨ga, 57, [.bool false, .int .i64 i1, .bool s1, .slice A1 l1 c1, .slice B1 k1 d1, .int .i64 i2, .bool s2, .slice A2 l2 c2, .slice B2 k2 d2]⟩] [⟨B2, k2, d2, nd D2⟩, ⟨A2, l2, c2, nd N2⟩, ⟨B1, k1, d1, nd D1⟩, ⟨A1, l1, c1, nd N1⟩] := ⟨_, rfl⟩
  have hSE : ∀ w w', S w → Ext w w' → S w' := fun w w' h1 h2 => by rw [hS] at h1 ⊢; exact h1.ext h2
  have hS1 : S w3.drew := by rw [hS]; exact hO.ext (Ext.refl w3).drew
  have HS := Lib.hid hS
  clear hS hO hf
  obtain ⟨sp, hsp⟩ : ∃ sp : Nat → Sp, sp = ofList [det (.pointer (some ⟨ga, 1, none⟩)), det (.agg #[.int .i64 i1, .bool s1, .slice A1 l1 c1, .slice B1 k1 d1]), anyOf (fun v wz => ∃ A l c B k d, v = .agg #[.int .i64 iz, .bool sz, .slice A l c, .slice B k d] ∧ RatAt wz A l c B k d Nz Dz), anyOf (fun v wz => ∃ A l c B k d, v = .agg #[.int .i64 ig, .bool sg, .slice A l c, .slice B k d] ∧ RatAt wz A l c B k d Ng Dg), det (.pointer (some ⟨ga, 5, none⟩)), det (.agg #[.int .i64 i2, .bool s2, .slice A2 l2 c2, .slice B2 k2 d2]), anyOf (fun v wz => ∃ A l c B k d, v = .agg #[.bool false, .int .i64 ig, .bool sg, .slice A l c, .slice B k d, .int .i64 i2, .bool s2, .slice A2 l2 c2, .slice B2 k2 d2] ∧ RatAt wz A l c B k d Ng Dg)] := ⟨_, rfl⟩
  have HSP := Lib.hid hsp
  clear hsp
  refine wp_region_loose 7 S sp (by kernel_rfl) (by kernel_rfl) hS1 hSE ?_
  simp only [List.take_succ_cons, List.take_zero, List.drop_succ_cons, List.drop_zero]
  refine wpX_step (fun K hK => ?_)
  go_simp
  refine StepY.det (by rw [HSP.out]; rfl) ?_ ?_
  · intro wz hz hF
    clear hz hF
    go_simp
    exact ⟨rfl, Ext.refl _⟩
  refine hK _ _ ?_
  clear hK K
  refine wpX_step (fun K hK => ?_)
  go_simp
  refine StepY.det (by rw [HSP.out]; rfl) ?_ ?_
  · intro wz hz hF
    rw [HS.out] at hz
    have hf := hz.cells
    simp only [BC, CC, Nat.zero_add, Nat.reduceAdd, and_true] at hf
    clear hz hF
    go_simp
    exact ⟨rfl, Ext.refl _⟩
  refine hK _ _ ?_
  clear hK K
  refine wpX_step (fun K hK => ?_)
  go_simp
  refine StepY.any (by rw [HSP.out]; rfl) ?_ ?_
  · intro wz hz hF
    clear hz hF
    go_simp
    refine (HFI.out _).mono ?_
    rintro e w2 ⟨A3, n3, c3, A4, n4, c4, rfl, hW1, hE1⟩
    exact ⟨_, rfl, ⟨A3, n3, c3, A4, n4, c4, rfl, hW1⟩, hE1⟩
  intro v1
  refine hK _ _ ?_
  clear hK K
  refine wpX_step (fun K hK => ?_)
  go_simp
  refine StepY.any (by rw [HSP.out]; rfl) ?_ ?_
  · intro wz hz hF
    obtain ⟨wa', ea, A5, n5, c5, A6, n6, c6, hv1, hw1⟩ := hF.any 2 (by kernel_rfl) (by rw [HSP.out]; rfl)
    rw [HS.out] at hz
    have hR : RatAt wz _ _ _ _ _ _ _ _ := ⟨hz.wd 3 rfl, hz.wd 2 rfl⟩
    clear hz hF
    simp only [asFun, List.nil_append, List.cons_append, List.getD_cons_succ, List.getD_cons_zero] at hv1
    subst hv1
    go_simp
    refine (HGR.out _ _ _ _ _ _ _ hR (hw1.ext ea)).mono ?_
    rintro e w2 ⟨A3, n3, c3, A4, n4, c4, rfl, hW1, hE1⟩
    exact ⟨_, rfl, ⟨A3, n3, c3, A4, n4, c4, rfl, hW1⟩, hE1⟩
  intro v2
  refine hK _ _ ?_
  clear hK K
  refine wpX_step (fun K hK => ?_)
  go_simp
  refine StepY.det (by rw [HSP.out]; rfl) ?_ ?_
  · intro wz hz hF
    clear hz hF
    go_simp
    exact ⟨rfl, Ext.refl _⟩
  refine hK _ _ ?_
  clear hK K
  refine wpX_step (fun K hK => ?_)
  go_simp
  refine StepY.det (by rw [HSP.out]; rfl) ?_ ?_
  · intro wz hz hF
    rw [HS.out] at hz
    have hf := hz.cells
    simp only [BC, CC, Nat.zero_add, Nat.reduceAdd, and_true] at hf
    clear hz hF
    go_simp
    exact ⟨rfl, Ext.refl _⟩
  refine hK _ _ ?_
  clear hK K
  refine wpX_step (fun K hK => ?_)
  go_simp
  refine StepY.any (by rw [HSP.out]; rfl) ?_ ?_
  · intro wz hz hF
    obtain ⟨wa', ea, A5, n5, c5, A6, n6, c6, hv1, hw1⟩ := hF.any 3 (by kernel_rfl) (by rw [HSP.out]; rfl)
    clear hz hF
    simp only [asFun, List.nil_append, List.cons_append, List.getD_cons_succ, List.getD_cons_zero] at hv1
    subst hv1
    go_simp
    exact ⟨⟨A5, n5, c5, A6, n6, c6, rfl, hw1.ext ea⟩, Ext.refl _⟩
  intro v3
  refine hK _ _ ?_
  clear hK K
  refine wpX_nil ?_
  intro wq hz hF
  obtain ⟨wa', ea, A5, n5, c5, A6, n6, c6, hv1, hw1⟩ := fact_any (hF 6 (by omega)) (by rw [HSP.out]; rfl)
  clear hF
  simp only [asFun, List.nil_append, List.cons_append, List.getD_cons_succ, List.getD_cons_zero] at hv1
  subst hv1
  rw [HS.out] at hz
  have hO := hz
  clear hz HS HSP
  have hf := hO.cells
  simp only [BC, CC, Nat.zero_add, Nat.reduceAdd, and_true] at hf
  have hw1 := hw1.ext ea
  have hO := (hO.add hw1.1).add hw1.2
  clear hw1 ea hf
  have hf := hO.cells
  simp only [BC, CC, Nat.zero_add, Nat.reduceAdd, and_true] at hf
  go_wp2_with ((with_reducible refine at_store (T := 57) ?_); refine own_store (T := 57) hO 0 rfl rfl rfl size_seth rfl rfl rfl ?_; clear hO; intro w4 hO; simp only [List.set_cons_zero, List.set_cons_succ, spl, List.take_succ_cons, List.take_zero, List.nil_append, List.cons_append, List.length_cons, List.length_nil, List.drop_succ_cons, List.drop_zero, List.drop_nil, Nat.reduceAdd, Nat.zero_add, List.append_nil] at hO; clear hf; have hf := hO.cells; simp only [BC, CC, Nat.zero_add, Nat.reduceAdd, and_true] at hf)
  exact own_ret hO 0 rfl rfl rfl agg_seti size_seth rfl ⟨_, _, _, _, _, _, _, _, _, _, _, _, rfl, ⟨hO.wd 1 rfl, hO.wd 0 rfl⟩, ⟨hO.wd 3 rfl, hO.wd 2 rfl⟩, hO.toExt⟩

set_option maxHeartbeats 4000000 in
theorem over_n (i1 : Int) (s1 : Bool) (A1 : Option Addr) (l1 c1 : Nat) (B1 : Option Addr) (k1 d1 N1 D1 : Nat) (i2 : Int) (s2 : Bool) (A2 : Option Addr) (l2 c2 : Nat) (B2 : Option Addr) (k2 d2 N2 D2 : Nat) (w : World) (h1 : RatAt w A1 l1 c1 B1 k1 d1 N1 D1) (h2 : RatAt w A2 l2 c2 B2 k2 d2 N2 D2) :
    Calls Tryz.prog 95 #[.agg #[.bool true, .int .i64 i1, .bool s1, .slice A1 l1 c1, .slice B1 k1 d1, .int .i64 i2, .bool s2, .slice A2 l2 c2, .slice B2 k2 d2]] w (RetSet true i1 s1 N1 D1 i2 s2 N2 D2 w) := by
  have hO := ((((Own.start w).add h1.1).add h1.2).add h2.1).add h2.2
  have hf : True := trivial
  clear h1 h2
  go_enter Tryz.func95, Tryz.ntmps95
  go_wp2_with (first | ((with_reducible refine at_box ?_); refine own_box (cs := [.bool true, .int .i64 i1, .bool s1, .slice A1 l1 c1, .slice B1 k1 d1, .int .i64 i2, .bool s2, .slice A2 l2 c2, .slice B2 k2 d2]) hO rfl rfl ?_; clear hO; intro ga wa hO; clear hf; have hf := hO.cells; simp only [BC, CC, Nat.zero_add, Nat.reduceAdd, and_true] at hf) | ((with_reducible refine at_alloc ?_); refine own_alloc hO zero_seth rfl rfl ?_; clear hO; intro g wc hO; clear hf; have hf := hO.cells; simp only [BC, CC, Nat.zero_add, Nat.reduceAdd, and_true] at hf) | ((with_reducible refine at_store (T := 57) ?_); refine own_store (T := 57) hO 0 rfl rfl rfl size_seth rfl rfl rfl ?_; clear hO; intro w5 hO; simp only [List.set_cons_zero, List.set_cons_succ, spl, List.take_succ_cons, List.take_zero, List.nil_append, List.cons_append, List.length_cons, List.length_nil, List.drop_succ_cons, List.drop_zero, List.drop_nil, Nat.reduceAdd, Nat.zero_add, List.append_nil] at hO; clear hf; have hf := hO.cells; simp only [BC, CC, Nat.zero_add, Nat.reduceAdd, and_true] at hf))
  exact own_ret hO 0 rfl rfl rfl agg_seti size_seth rfl ⟨_, _, _, _, _, _, _, _, _, _, _, _, rfl, ⟨hO.wd 3 rfl, hO.wd 2 rfl⟩, ⟨hO.wd 1 rfl, hO.wd 0 rfl⟩, hO.toExt⟩

set_option maxHeartbeats 4000000 in
theorem over_t (i1 : Int) (s1 : Bool) (A1 : Option Addr) (l1 c1 : Nat) (B1 : Option Addr) (k1 d1 N1 D1 : Nat) (i2 : Int) (s2 : Bool) (A2 : Option Addr) (l2 c2 : Nat) (B2 : Option Addr) (k2 d2 N2 D2 : Nat) (s0 : Bool) (N0 D0 : Nat) (ig : Int) (sg : Bool) (Ng Dg : Nat) (ih : Int) (sh : Bool) (Nh Dh : Nat) (w : World) (h1 : RatAt w A1 l1 c1 B1 k1 d1 N1 D1) (h2 : RatAt w A2 l2 c2 B2 k2 d2 N2 D2) (v : Int) (hv : decide (0 < v) = true) (HI0 : Hid (∀ w, Calls Tryz.prog 19 #[.int .i64 0] w (RetR s0 N0 D0 w))) (HSG : Hid (∀ w, RatAt w A1 l1 c1 B1 k1 d1 N1 D1 → Calls Tryz.prog 92 #[.agg #[.int .i64 i1, .bool s1, .slice A1 l1 c1, .slice B1 k1 d1]] w fun e w' => e = .returned (.int .i64 v) ∧ Ext w w')) (HV1 : Hid (∀ w, RatAt w A1 l1 c1 B1 k1 d1 N1 D1 → Calls Tryz.prog 126 #[.agg #[.int .i64 i1, .bool s1, .slice A1 l1 c1, .slice B1 k1 d1]] w (RetEnd ih sh Nh Dh w))) (HV2 : Hid (∀ w, RatAt w A2 l2 c2 B2 k2 d2 N2 D2 → Calls Tryz.prog 126 #[.agg #[.int .i64 i2, .bool s2, .slice A2 l2 c2, .slice B2 k2 d2]] w (RetEnd ig sg Ng Dg w))) :
    Calls Tryz.prog 95 #[.agg #[.bool false, .int .i64 i1, .bool s1, .slice A1 l1 c1, .slice B1 k1 d1, .int .i64 i2, .bool s2, .slice A2 l2 c2, .slice B2 k2 d2]] w (RetSet false ig sg Ng Dg ih sh Nh Dh w) := by
  have hO := ((((Own.start w).add h1.1).add h1.2).add h2.1).add h2.2
  have hf : True := trivial
  clear h1 h2
  go_enter Tryz.func95, Tryz.ntmps95
  go_wp2_with (first | ((with_reducible refine at_box ?_); refine own_box (cs := [.bool false, .int .i64 i1, .bool s1, .slice A1 l1 c1, .slice B1 k1 d1, .int .i64 i2, .bool s2, .slice A2 l2 c2, .slice B2 k2 d2]) hO rfl rfl ?_; clear hO; intro ga wa hO; clear hf; have hf := hO.cells; simp only [BC, CC, Nat.zero_add, Nat.reduceAdd, and_true] at hf) | ((with_reducible refine at_alloc ?_); refine own_alloc hO zero_seth rfl rfl ?_; clear hO; intro g wc hO; clear hf; have hf := hO.cells; simp only [BC, CC, Nat.zero_add, Nat.reduceAdd, and_true] at hf))
  refine (HI0.out _).mono ?_
  rintro e w2 ⟨A0, l0, c0, B0, k0, d0, rfl, hW1, hW2, hE1⟩
  have hO := ((hO.ext hE1).add hW1).add hW2
  clear hW1 hW2 hE1
  clear hf
  have hf := hO.cells
  simp only [BC, CC, Nat.zero_add, Nat.reduceAdd, and_true] at hf
  go_wp2_with (first | ((with_reducible refine at_alloc ?_); refine own_alloc hO zero_endh rfl rfl ?_; clear hO; intro gt wd hO; clear hf; have hf := hO.cells; simp only [BC, CC, Nat.zero_add, Nat.reduceAdd, and_true] at hf) | ((with_reducible refine at_store (T := 55) ?_); refine own_store (T := 55) hO 0 rfl rfl rfl size_endh rfl rfl rfl ?_; clear hO; intro we hO; simp only [List.set_cons_zero, List.set_cons_succ, spl, List.take_succ_cons, List.take_zero, List.nil_append, List.cons_append, List.length_cons, List.length_nil, List.drop_succ_cons, List.drop_zero, List.drop_nil, Nat.reduceAdd, Nat.zero_add, List.append_nil] at hO; clear hf; have hf := hO.cells; simp only [BC, CC, Nat.zero_add, Nat.reduceAdd, and_true] at hf))
  refine (HSG.out _ ⟨hO.wd 5 rfl, hO.wd 4 rfl⟩).mono ?_
  rintro e w3 ⟨rfl, hE1⟩
  have hO := hO.ext hE1
  clear hE1
  clear hf
  have hf := hO.cells
  simp only [BC, CC, Nat.zero_add, Nat.reduceAdd, and_true] at hf
  go_wp2_with fail
  refine (HV1.out _ ⟨hO.wd 5 rfl, hO.wd 4 rfl⟩).mono ?_
  rintro e w4 ⟨Ah, lh, ch, Bh, kh, dh, rfl, ⟨hW1, hW2⟩, hE1⟩
  have hO := ((hO.ext hE1).add hW1).add hW2
  clear hW1 hW2 hE1
  clear hf
  have hf := hO.cells
  simp only [BC, CC, Nat.zero_add, Nat.reduceAdd, and_true] at hf
  go_upto_region 6 with ((with_reducible refine at_store (T := 55) ?_); refine own_store (T := 55) hO 0 rfl rfl rfl size_endh rfl rfl rfl ?_; clear hO; intro wf hO; simp only [List.set_cons_zero, List.set_cons_succ, spl, List.take_succ_cons, List.take_zero, List.nil_append, List.cons_append, List.length_cons, List.length_nil, List.drop_succ_cons, List.drop_zero, List.drop_nil, Nat.reduceAdd, Nat.zero_add, List.append_nil] at hO; clear hf; have hf := hO.cells; simp only [BC, CC, Nat.zero_add, Nat.reduceAdd, and_true] at hf)
  obtain ⟨S, hS⟩ : ∃ S : World → Prop, S = Own w [⟨gt, 55, [.int .i64 ih, .bool sh, .slice Ah lh ch, .slice Bh kh dh]⟩, ⟨g, 57, [.bool false, .int .i64 0, .bool false, .slice none 0 0, .slice none 0 0, .int .i64 0, .bool false, .slice none 0 0, .slice none 0 0]⟩, ⟨ga, 57, [.bool false, .int .i64 i1, .bool s1, .slice A1 l1 c1, .slice B1 k1 d1, .int .i64 i2, .bool s2, .slice A2 l2 c2, .slice B2 k2 d2]⟩] [⟨Bh, kh, dh, nd Dh⟩, ⟨Ah, lh, ch, nd Nh⟩, ⟨B0, k0, d0, nd D0⟩, ⟨A0, l0, c0, nd N0⟩, ⟨B2, k2, d2, nd D2⟩, ⟨A2, l2, c2, nd N2⟩, ⟨B1, k1, d1, nd D1⟩, ⟨A1, l1, c1, nd N1⟩] := ⟨_, rfl⟩
  have hSE : ∀ w w', S w → Ext w w' → S w' := fun w w' h1 h2 => by rw [hS] at h1 ⊢; exact h1.ext h2
  have hS1 : S wf.drew := by rw [hS]; exact hO.ext (Ext.refl wf).drew
  have HS := Lib.hid hS
  clear hS hO hf
  obtain ⟨sp, hsp⟩ : ∃ sp : Nat → Sp, sp = ofList [det (.pointer (some ⟨ga, 5, none⟩)), det (.agg #[.int .i64 i2, .bool s2, .slice A2 l2 c2, .slice B2 k2 d2]), anyOf (fun v wz => ∃ A l c B k d, v = .agg #[.int .i64 ig, .bool sg, .slice A l c, .slice B k d] ∧ RatAt wz A l c B k d Ng Dg), det (.agg #[.int .i64 ih, .bool sh, .slice Ah lh ch, .slice Bh kh dh]), anyOf (fun v wz => ∃ A l c B k d, v = .agg #[.bool false, .int .i64 ig, .bool sg, .slice A l c, .slice B k d, .int .i64 ih, .bool sh, .slice Ah lh ch, .slice Bh kh dh] ∧ RatAt wz A l c B k d Ng Dg)] := ⟨_, rfl⟩
  have HSP := Lib.hid hsp
  clear hsp
  refine wp_region_loose 5 S sp (by kernel_rfl) (by kernel_rfl) hS1 hSE ?_
  simp only [List.take_succ_cons, List.take_zero, List.drop_succ_cons, List.drop_zero]
  refine wpX_step (fun K hK => ?_)
  go_simp
  refine StepY.det (by rw [HSP.out]; rfl) ?_ ?_
  · intro wz hz hF
    clear hz hF
    go_simp
    exact ⟨rfl, Ext.refl _⟩
  refine hK _ _ ?_
  clear hK K
  refine wpX_step (fun K hK => ?_)
  go_simp
  refine StepY.det (by rw [HSP.out]; rfl) ?_ ?_
  · intro wz hz hF
    rw [HS.out] at hz
    have hf := hz.cells
    simp only [BC, CC, Nat.zero_add, Nat.reduceAdd, and_true] at hf
    clear hz hF
    go_simp
    exact ⟨rfl, Ext.refl _⟩
  refine hK _ _ ?_
  clear hK K
  refine wpX_step (fun K hK => ?_)
  go_simp
  refine StepY.any (by rw [HSP.out]; rfl) ?_ ?_
  · intro wz hz hF
    rw [HS.out] at hz
    have hR : RatAt wz _ _ _ _ _ _ _ _ := ⟨hz.wd 5 rfl, hz.wd 4 rfl⟩
    clear hz hF
    go_simp
    refine (HV2.out _ hR).mono ?_
    rintro e w2 ⟨A3, n3, c3, A4, n4, c4, rfl, hW1, hE1⟩
    exact ⟨_, rfl, ⟨A3, n3, c3, A4, n4, c4, rfl, hW1⟩, hE1⟩
  intro v1
  refine hK _ _ ?_
  clear hK K
  refine wpX_step (fun K hK => ?_)
  go_simp
  refine StepY.det (by rw [HSP.out]; rfl) ?_ ?_
  · intro wz hz hF
    rw [HS.out] at hz
    have hf := hz.cells
    simp only [BC, CC, Nat.zero_add, Nat.reduceAdd, and_true] at hf
    clear hz hF
    go_simp
    exact ⟨rfl, Ext.refl _⟩
  refine hK _ _ ?_
  clear hK K
  refine wpX_step (fun K hK => ?_)
  go_simp
  refine StepY.any (by rw [HSP.out]; rfl) ?_ ?_
  · intro wz hz hF
    obtain ⟨wa', ea, A5, n5, c5, A6, n6, c6, hv1, hw1⟩ := hF.any 2 (by kernel_rfl) (by rw [HSP.out]; rfl)
    clear hz hF
    simp only [asFun, List.nil_append, List.cons_append, List.getD_cons_succ, List.getD_cons_zero] at hv1
    subst hv1
    go_simp
    exact ⟨⟨A5, n5, c5, A6, n6, c6, rfl, hw1.ext ea⟩, Ext.refl _⟩
  intro v2
  refine hK _ _ ?_
  clear hK K
  refine wpX_nil ?_
  intro wq hz hF
  obtain ⟨wa', ea, A5, n5, c5, A6, n6, c6, hv1, hw1⟩ := fact_any (hF 4 (by omega)) (by rw [HSP.out]; rfl)
  clear hF
  simp only [asFun, List.nil_append, List.cons_append, List.getD_cons_succ, List.getD_cons_zero] at hv1
  subst hv1
  rw [HS.out] at hz
  have hO := hz
  clear hz HS HSP
  have hf := hO.cells
  simp only [BC, CC, Nat.zero_add, Nat.reduceAdd, and_true] at hf
  have hw1 := hw1.ext ea
  have hO := (hO.add hw1.1).add hw1.2
  clear hw1 ea hf
  have hf := hO.cells
  simp only [BC, CC, Nat.zero_add, Nat.reduceAdd, and_true] at hf
  go_wp2_with ((with_reducible refine at_store (T := 57) ?_); refine own_store (T := 57) hO 1 rfl rfl rfl size_seth rfl rfl rfl ?_; clear hO; intro w6 hO; simp only [List.set_cons_zero, List.set_cons_succ, spl, List.take_succ_cons, List.take_zero, List.nil_append, List.cons_append, List.length_cons, List.length_nil, List.drop_succ_cons, List.drop_zero, List.drop_nil, Nat.reduceAdd, Nat.zero_add, List.append_nil] at hO; clear hf; have hf := hO.cells; simp only [BC, CC, Nat.zero_add, Nat.reduceAdd, and_true] at hf)
  exact own_ret hO 1 rfl rfl rfl agg_seti size_seth rfl ⟨_, _, _, _, _, _, _, _, _, _, _, _, rfl, ⟨hO.wd 1 rfl, hO.wd 0 rfl⟩, ⟨hO.wd 3 rfl, hO.wd 2 rfl⟩, hO.toExt⟩

set_option maxHeartbeats 4000000 in
theorem over_f (i1 : Int) (s1 : Bool) (A1 : Option Addr) (l1 c1 : Nat) (B1 : Option Addr) (k1 d1 N1 D1 : Nat) (i2 : Int) (s2 : Bool) (A2 : Option Addr) (l2 c2 : Nat) (B2 : Option Addr) (k2 d2 N2 D2 : Nat) (s0 : Bool) (N0 D0 : Nat) (ig : Int) (sg : Bool) (Ng Dg : Nat) (w : World) (h1 : RatAt w A1 l1 c1 B1 k1 d1 N1 D1) (h2 : RatAt w A2 l2 c2 B2 k2 d2 N2 D2) (v : Int) (hv : decide (0 < v) = false) (HI0 : Hid (∀ w, Calls Tryz.prog 19 #[.int .i64 0] w (RetR s0 N0 D0 w))) (HSG : Hid (∀ w, RatAt w A1 l1 c1 B1 k1 d1 N1 D1 → Calls Tryz.prog 92 #[.agg #[.int .i64 i1, .bool s1, .slice A1 l1 c1, .slice B1 k1 d1]] w fun e w' => e = .returned (.int .i64 v) ∧ Ext w w')) (HV2 : Hid (∀ w, RatAt w A2 l2 c2 B2 k2 d2 N2 D2 → Calls Tryz.prog 126 #[.agg #[.int .i64 i2, .bool s2, .slice A2 l2 c2, .slice B2 k2 d2]] w (RetEnd ig sg Ng Dg w))) :
    Calls Tryz.prog 95 #[.agg #[.bool false, .int .i64 i1, .bool s1, .slice A1 l1 c1, .slice B1 k1 d1, .int .i64 i2, .bool s2, .slice A2 l2 c2, .slice B2 k2 d2]] w (RetSet false ig sg Ng Dg 1 s0 N0 D0 w) := by
  have hO := ((((Own.start w).add h1.1).add h1.2).add h2.1).add h2.2
  have hf : True := trivial
  clear h1 h2
  go_enter Tryz.func95, Tryz.ntmps95
  go_wp2_with (first | ((with_reducible refine at_box ?_); refine own_box (cs := [.bool false, .int .i64 i1, .bool s1, .slice A1 l1 c1, .slice B1 k1 d1, .int .i64 i2, .bool s2, .slice A2 l2 c2, .slice B2 k2 d2]) hO rfl rfl ?_; clear hO; intro ga wa hO; clear hf; have hf := hO.cells; simp only [BC, CC, Nat.zero_add, Nat.reduceAdd, and_true] at hf) | ((with_reducible refine at_alloc ?_); refine own_alloc hO zero_seth rfl rfl ?_; clear hO; intro g wc hO; clear hf; have hf := hO.cells; simp only [BC, CC, Nat.zero_add, Nat.reduceAdd, and_true] at hf))
  refine (HI0.out _).mono ?_
  rintro e w2 ⟨A0, l0, c0, B0, k0, d0, rfl, hW1, hW2, hE1⟩
  have hO := ((hO.ext hE1).add hW1).add hW2
  clear hW1 hW2 hE1
  clear hf
  have hf := hO.cells
  simp only [BC, CC, Nat.zero_add, Nat.reduceAdd, and_true] at hf
  go_wp2_with (first | ((with_reducible refine at_alloc ?_); refine own_alloc hO zero_endh rfl rfl ?_; clear hO; intro gt wd hO; clear hf; have hf := hO.cells; simp only [BC, CC, Nat.zero_add, Nat.reduceAdd, and_true] at hf) | ((with_reducible refine at_store (T := 55) ?_); refine own_store (T := 55) hO 0 rfl rfl rfl size_endh rfl rfl rfl ?_; clear hO; intro we hO; simp only [List.set_cons_zero, List.set_cons_succ, spl, List.take_succ_cons, List.take_zero, List.nil_append, List.cons_append, List.length_cons, List.length_nil, List.drop_succ_cons, List.drop_zero, List.drop_nil, Nat.reduceAdd, Nat.zero_add, List.append_nil] at hO; clear hf; have hf := hO.cells; simp only [BC, CC, Nat.zero_add, Nat.reduceAdd, and_true] at hf))
  refine (HSG.out _ ⟨hO.wd 5 rfl, hO.wd 4 rfl⟩).mono ?_
  rintro e w3 ⟨rfl, hE1⟩
  have hO := hO.ext hE1
  clear hE1
  clear hf
  have hf := hO.cells
  simp only [BC, CC, Nat.zero_add, Nat.reduceAdd, and_true] at hf
  go_upto_region 6 with fail
  obtain ⟨S, hS⟩ : ∃ S : World → Prop, S = Own w [⟨gt, 55, [.int .i64 1, .bool s0, .slice A0 l0 c0, .slice B0 k0 d0]⟩, ⟨g, 57, [.bool false, .int .i64 0, .bool false, .slice none 0 0, .slice none 0 0, .int .i64 0, .bool false, .slice none 0 0, .slice none 0 0]⟩, ⟨ga, 57, [.bool false, .int .i64 i1, .bool s1, .slice A1 l1 c1, .slice B1 k1 d1, .int .i64 i2, .bool s2, .slice A2 l2 c2, .slice B2 k2 d2]⟩] [⟨B0, k0, d0, nd D0⟩, ⟨A0, l0, c0, nd N0⟩, ⟨B2, k2, d2, nd D2⟩, ⟨A2, l2, c2, nd N2⟩, ⟨B1, k1, d1, nd D1⟩, ⟨A1, l1, c1, nd N1⟩] := ⟨_, rfl⟩
  have hSE : ∀ w w', S w → Ext w w' → S w' := fun w w' h1 h2 => by rw [hS] at h1 ⊢; exact h1.ext h2
  have hS1 : S w3.drew := by rw [hS]; exact hO.ext (Ext.refl w3).drew
  have HS := Lib.hid hS
  clear hS hO hf
  obtain ⟨sp, hsp⟩ : ∃ sp : Nat → Sp, sp = ofList [det (.pointer (some ⟨ga, 5, none⟩)), det (.agg #[.int .i64 i2, .bool s2, .slice A2 l2 c2, .slice B2 k2 d2]), anyOf (fun v wz => ∃ A l c B k d, v = .agg #[.int .i64 ig, .bool sg, .slice A l c, .slice B k d] ∧ RatAt wz A l c B k d Ng Dg), det (.agg #[.int .i64 1, .bool s0, .slice A0 l0 c0, .slice B0 k0 d0]), anyOf (fun v wz => ∃ A l c B k d, v = .agg #[.bool false, .int .i64 ig, .bool sg, .slice A l c, .slice B k d, .int .i64 1, .bool s0, .slice A0 l0 c0, .slice B0 k0 d0] ∧ RatAt wz A l c B k d Ng Dg)] := ⟨_, rfl⟩
  have HSP := Lib.hid hsp
  clear hsp
  refine wp_region_loose 5 S sp (by kernel_rfl) (by kernel_rfl) hS1 hSE ?_
  simp only [List.take_succ_cons, List.take_zero, List.drop_succ_cons, List.drop_zero]
  refine wpX_step (fun K hK => ?_)
  go_simp
  refine StepY.det (by rw [HSP.out]; rfl) ?_ ?_
  · intro wz hz hF
    clear hz hF
    go_simp
    exact ⟨rfl, Ext.refl _⟩
  refine hK _ _ ?_
  clear hK K
  refine wpX_step (fun K hK => ?_)
  go_simp
  refine StepY.det (by rw [HSP.out]; rfl) ?_ ?_
  · intro wz hz hF
    rw [HS.out] at hz
    have hf := hz.cells
    simp only [BC, CC, Nat.zero_add, Nat.reduceAdd, and_true] at hf
    clear hz hF
    go_simp
    exact ⟨rfl, Ext.refl _⟩
  refine hK _ _ ?_
  clear hK K
  refine wpX_step (fun K hK => ?_)
  go_simp
  refine StepY.any (by rw [HSP.out]; rfl) ?_ ?_
  · intro wz hz hF
    rw [HS.out] at hz
    have hR : RatAt wz _ _ _ _ _ _ _ _ := ⟨hz.wd 3 rfl, hz.wd 2 rfl⟩
    clear hz hF
    go_simp
    refine (HV2.out _ hR).mono ?_
    rintro e w2 ⟨A3, n3, c3, A4, n4, c4, rfl, hW1, hE1⟩
    exact ⟨_, rfl, ⟨A3, n3, c3, A4, n4, c4, rfl, hW1⟩, hE1⟩
  intro v1
  refine hK _ _ ?_
  clear hK K
  refine wpX_step (fun K hK => ?_)
  go_simp
  refine StepY.det (by rw [HSP.out]; rfl) ?_ ?_
  · intro wz hz hF
    rw [HS.out] at hz
    have hf := hz.cells
    simp only [BC, CC, Nat.zero_add, Nat.reduceAdd, and_true] at hf
    clear hz hF
    go_simp
    exact ⟨rfl, Ext.refl _⟩
  refine hK _ _ ?_
  clear hK K
  refine wpX_step (fun K hK => ?_)
  go_simp
  refine StepY.any (by rw [HSP.out]; rfl) ?_ ?_
  · intro wz hz hF
    obtain ⟨wa', ea, A5, n5, c5, A6, n6, c6, hv1, hw1⟩ := hF.any 2 (by kernel_rfl) (by rw [HSP.out]; rfl)
    clear hz hF
    simp only [asFun, List.nil_append, List.cons_append, List.getD_cons_succ, List.getD_cons_zero] at hv1
    subst hv1
    go_simp
    exact ⟨⟨A5, n5, c5, A6, n6, c6, rfl, hw1.ext ea⟩, Ext.refl _⟩
  intro v2
  refine hK _ _ ?_
  clear hK K
  refine wpX_nil ?_
  intro wq hz hF
  obtain ⟨wa', ea, A5, n5, c5, A6, n6, c6, hv1, hw1⟩ := fact_any (hF 4 (by omega)) (by rw [HSP.out]; rfl)
  clear hF
  simp only [asFun, List.nil_append, List.cons_append, List.getD_cons_succ, List.getD_cons_zero] at hv1
  subst hv1
  rw [HS.out] at hz
  have hO := hz
  clear hz HS HSP
  have hf := hO.cells
  simp only [BC, CC, Nat.zero_add, Nat.reduceAdd, and_true] at hf
  have hw1 := hw1.ext ea
  have hO := (hO.add hw1.1).add hw1.2
  clear hw1 ea hf
  have hf := hO.cells
  simp only [BC, CC, Nat.zero_add, Nat.reduceAdd, and_true] at hf
  go_wp2_with ((with_reducible refine at_store (T := 57) ?_); refine own_store (T := 57) hO 1 rfl rfl rfl size_seth rfl rfl rfl ?_; clear hO; intro w6 hO; simp only [List.set_cons_zero, List.set_cons_succ, spl, List.take_succ_cons, List.take_zero, List.nil_append, List.cons_append, List.length_cons, List.length_nil, List.drop_succ_cons, List.drop_zero, List.drop_nil, Nat.reduceAdd, Nat.zero_add, List.append_nil] at hO; clear hf; have hf := hO.cells; simp only [BC, CC, Nat.zero_add, Nat.reduceAdd, and_true] at hf)
  exact own_ret hO 1 rfl rfl rfl agg_seti size_seth rfl ⟨_, _, _, _, _, _, _, _, _, _, _, _, rfl, ⟨hO.wd 1 rfl, hO.wd 0 rfl⟩, ⟨hO.wd 3 rfl, hO.wd 2 rfl⟩, hO.toExt⟩

set_option maxHeartbeats 4000000 in
theorem hull6_s (i1 : Int) (s1 : Bool) (A1 : Option Addr) (l1 c1 : Nat) (B1 : Option Addr) (k1 d1 N1 D1 : Nat) (i2 : Int) (s2 : Bool) (A2 : Option Addr) (l2 c2 : Nat) (B2 : Option Addr) (k2 d2 N2 D2 : Nat) (i3 : Int) (s3 : Bool) (A3 : Option Addr) (l3 c3 : Nat) (B3 : Option Addr) (k3 d3 N3 D3 : Nat) (i4 : Int) (s4 : Bool) (A4 : Option Addr) (l4 c4 : Nat) (B4 : Option Addr) (k4 d4 N4 D4 : Nat) (nb : Bool) (w : World) (h1 : RatAt w A1 l1 c1 B1 k1 d1 N1 D1) (h2 : RatAt w A2 l2 c2 B2 k2 d2 N2 D2) (h3 : RatAt w A3 l3 c3 B3 k3 d3 N3 D3) (h4 : RatAt w A4 l4 c4 B4 k4 d4 N4 D4) :
    Calls Tryz.prog 94 #[.agg #[.bool true, .int .i64 i1, .bool s1, .slice A1 l1 c1, .slice B1 k1 d1, .int .i64 i2, .bool s2, .slice A2 l2 c2, .slice B2 k2 d2], .agg #[.bool nb, .int .i64 i3, .bool s3, .slice A3 l3 c3, .slice B3 k3 d3, .int .i64 i4, .bool s4, .slice A4 l4 c4, .slice B4 k4 d4]] w (RetSet nb i3 s3 N3 D3 i4 s4 N4 D4 w) := by
  have hO := ((((((((Own.start w).add h1.1).add h1.2).add h2.1).add h2.2).add h3.1).add h3.2).add h4.1).add h4.2
  have hf : True := trivial
  clear h1 h2 h3 h4
  go_enter Tryz.func94, Tryz.ntmps94
  go_wp2_with (first | ((with_reducible refine at_box ?_); refine own_box (cs := [.bool true, .int .i64 i1, .bool s1, .slice A1 l1 c1, .slice B1 k1 d1, .int .i64 i2, .bool s2, .slice A2 l2 c2, .slice B2 k2 d2]) hO rfl rfl ?_; clear hO; intro ga wa hO; clear hf; have hf := hO.cells; simp only [BC, CC, Nat.zero_add, Nat.reduceAdd, and_true] at hf) | ((with_reducible refine at_box ?_); refine own_box (cs := [.bool nb, .int .i64 i3, .bool s3, .slice A3 l3 c3, .slice B3 k3 d3, .int .i64 i4, .bool s4, .slice A4 l4 c4, .slice B4 k4 d4]) hO rfl rfl ?_; clear hO; intro gb wb hO; clear hf; have hf := hO.cells; simp only [BC, CC, Nat.zero_add, Nat.reduceAdd, and_true] at hf) | ((with_reducible refine at_alloc ?_); refine own_alloc hO zero_seth rfl rfl ?_; clear hO; intro g wc hO; clear hf; have hf := hO.cells; simp only [BC, CC, Nat.zero_add, Nat.reduceAdd, and_true] at hf) | ((with_reducible refine at_store (T := 57) ?_); refine own_store (T := 57) hO 0 rfl rfl rfl size_seth rfl rfl rfl ?_; clear hO; intro w5 hO; simp only [List.set_cons_zero, List.set_cons_succ, spl, List.take_succ_cons, List.take_zero, List.nil_append, List.cons_append, List.length_cons, List.length_nil, List.drop_succ_cons, List.drop_zero, List.drop_nil, Nat.reduceAdd, Nat.zero_add, List.append_nil] at hO; clear hf; have hf := hO.cells; simp only [BC, CC, Nat.zero_add, Nat.reduceAdd, and_true] at hf))
  exact own_ret hO 0 rfl rfl rfl agg_seti size_seth rfl ⟨_, _, _, _, _, _, _, _, _, _, _, _, rfl, ⟨hO.wd 3 rfl, hO.wd 2 rfl⟩, ⟨hO.wd 1 rfl, hO.wd 0 rfl⟩, hO.toExt⟩

set_option maxHeartbeats 4000000 in
theorem hull6_t (i1 : Int) (s1 : Bool) (A1 : Option Addr) (l1 c1 : Nat) (B1 : Option Addr) (k1 d1 N1 D1 : Nat) (i2 : Int) (s2 : Bool) (A2 : Option Addr) (l2 c2 : Nat) (B2 : Option Addr) (k2 d2 N2 D2 : Nat) (i3 : Int) (s3 : Bool) (A3 : Option Addr) (l3 c3 : Nat) (B3 : Option Addr) (k3 d3 N3 D3 : Nat) (i4 : Int) (s4 : Bool) (A4 : Option Addr) (l4 c4 : Nat) (B4 : Option Addr) (k4 d4 N4 D4 : Nat) (w : World) (h1 : RatAt w A1 l1 c1 B1 k1 d1 N1 D1) (h2 : RatAt w A2 l2 c2 B2 k2 d2 N2 D2) (h3 : RatAt w A3 l3 c3 B3 k3 d3 N3 D3) (h4 : RatAt w A4 l4 c4 B4 k4 d4 N4 D4) :
    Calls Tryz.prog 94 #[.agg #[.bool false, .int .i64 i1, .bool s1, .slice A1 l1 c1, .slice B1 k1 d1, .int .i64 i2, .bool s2, .slice A2 l2 c2, .slice B2 k2 d2], .agg #[.bool true, .int .i64 i3, .bool s3, .slice A3 l3 c3, .slice B3 k3 d3, .int .i64 i4, .bool s4, .slice A4 l4 c4, .slice B4 k4 d4]] w (RetSet false i1 s1 N1 D1 i2 s2 N2 D2 w) := by
  have hO := ((((((((Own.start w).add h1.1).add h1.2).add h2.1).add h2.2).add h3.1).add h3.2).add h4.1).add h4.2
  have hf : True := trivial
  clear h1 h2 h3 h4
  go_enter Tryz.func94, Tryz.ntmps94
  go_wp2_with (first | ((with_reducible refine at_box ?_); refine own_box (cs := [.bool false, .int .i64 i1, .bool s1, .slice A1 l1 c1, .slice B1 k1 d1, .int .i64 i2, .bool s2, .slice A2 l2 c2, .slice B2 k2 d2]) hO rfl rfl ?_; clear hO; intro ga wa hO; clear hf; have hf := hO.cells; simp only [BC, CC, Nat.zero_add, Nat.reduceAdd, and_true] at hf) | ((with_reducible refine at_box ?_); refine own_box (cs := [.bool true, .int .i64 i3, .bool s3, .slice A3 l3 c3, .slice B3 k3 d3, .int .i64 i4, .bool s4, .slice A4 l4 c4, .slice B4 k4 d4]) hO rfl rfl ?_; clear hO; intro gb wb hO; clear hf; have hf := hO.cells; simp only [BC, CC, Nat.zero_add, Nat.reduceAdd, and_true] at hf) | ((with_reducible refine at_alloc ?_); refine own_alloc hO zero_seth rfl rfl ?_; clear hO; intro g wc hO; clear hf; have hf := hO.cells; simp only [BC, CC, Nat.zero_add, Nat.reduceAdd, and_true] at hf) | ((with_reducible refine at_store (T := 57) ?_); refine own_store (T := 57) hO 0 rfl rfl rfl size_seth rfl rfl rfl ?_; clear hO; intro w5 hO; simp only [List.set_cons_zero, List.set_cons_succ, spl, List.take_succ_cons, List.take_zero, List.nil_append, List.cons_append, List.length_cons, List.length_nil, List.drop_succ_cons, List.drop_zero, List.drop_nil, Nat.reduceAdd, Nat.zero_add, List.append_nil] at hO; clear hf; have hf := hO.cells; simp only [BC, CC, Nat.zero_add, Nat.reduceAdd, and_true] at hf))
  exact own_ret hO 0 rfl rfl rfl agg_seti size_seth rfl ⟨_, _, _, _, _, _, _, _, _, _, _, _, rfl, ⟨hO.wd 7 rfl, hO.wd 6 rfl⟩, ⟨hO.wd 5 rfl, hO.wd 4 rfl⟩, hO.toExt⟩

set_option maxHeartbeats 4000000 in
theorem hull6_b (i1 : Int) (s1 : Bool) (A1 : Option Addr) (l1 c1 : Nat) (B1 : Option Addr) (k1 d1 N1 D1 : Nat) (i2 : Int) (s2 : Bool) (A2 : Option Addr) (l2 c2 : Nat) (B2 : Option Addr) (k2 d2 N2 D2 : Nat) (i3 : Int) (s3 : Bool) (A3 : Option Addr) (l3 c3 : Nat) (B3 : Option Addr) (k3 d3 N3 D3 : Nat) (i4 : Int) (s4 : Bool) (A4 : Option Addr) (l4 c4 : Nat) (B4 : Option Addr) (k4 d4 N4 D4 : Nat) (ig : Int) (sg : Bool) (Ng Dg : Nat) (ih : Int) (sh : Bool) (Nh Dh : Nat) (w : World) (h1 : RatAt w A1 l1 c1 B1 k1 d1 N1 D1) (h2 : RatAt w A2 l2 c2 B2 k2 d2 N2 D2) (h3 : RatAt w A3 l3 c3 B3 k3 d3 N3 D3) (h4 : RatAt w A4 l4 c4 B4 k4 d4 N4 D4) (HLE : Hid (∀ w, RatAt w A1 l1 c1 B1 k1 d1 N1 D1 → RatAt w A3 l3 c3 B3 k3 d3 N3 D3 → Calls Tryz.prog 124 #[.agg #[.int .i64 i1, .bool s1, .slice A1 l1 c1, .slice B1 k1 d1], .agg #[.int .i64 i3, .bool s3, .slice A3 l3 c3, .slice B3 k3 d3]] w (RetEnd ig sg Ng Dg w))) (HGR : Hid (∀ w, RatAt w A2 l2 c2 B2 k2 d2 N2 D2 → RatAt w A4 l4 c4 B4 k4 d4 N4 D4 → Calls Tryz.prog 125 #[.agg #[.int .i64 i2, .bool s2, .slice A2 l2 c2, .slice B2 k2 d2], .agg #[.int .i64 i4, .bool s4, .slice A4 l4 c4, .slice B4 k4 d4]] w (RetEnd ih sh Nh Dh w))) :
    Calls Tryz.prog 94 #[.agg #[.bool false, .int .i64 i1, .bool s1, .slice A1 l1 c1, .slice B1 k1 d1, .int .i64 i2, .bool s2, .slice A2 l2 c2, .slice B2 k2 d2], .agg #[.bool false, .int .i64 i3, .bool s3, .slice A3 l3 c3, .slice B3 k3 d3, .int .i64 i4, .bool s4, .slice A4 l4 c4, .slice B4 k4 d4]] w (RetSet false ig sg Ng Dg ih sh Nh Dh w) := by
  have hO := ((((((((Own.start w).add h1.1).add h1.2).add h2.1).add h2.2).add h3.1).add h3.2).add h4.1).add h4.2
  have hf : True := trivial
  clear h1 h2 h3 h4
  go_enter Tryz.func94, Tryz.ntmps94
  go_upto_region 5 with (first | ((with_reducible refine at_box ?_); refine own_box (cs := [.bool false, .int .i64 i1, .bool s1, .slice A1 l1 c1, .slice B1 k1 d1, .int .i64 i2, .bool s2, .slice A2 l2 c2, .slice B2 k2 d2]) hO rfl rfl ?_; clear hO; intro ga wa hO; clear hf; have hf := hO.cells; simp only [BC, CC, Nat.zero_add, Nat.reduceAdd, and_true] at hf) | ((with_reducible refine at_box ?_); refine own_box (cs := [.bool false, .int .i64 i3, .bool s3, .slice A3 l3 c3, .slice B3 k3 d3, .int .i64 i4, .bool s4, .slice A4 l4 c4, .slice B4 k4 d4]) hO rfl rfl ?_; clear hO; intro gb wb hO; clear hf; have hf := hO.cells; simp only [BC, CC, Nat.zero_add, Nat.reduceAdd, and_true] at hf) | ((with_reducible refine at_alloc ?_); refine own_alloc hO zero_seth rfl rfl ?_; clear hO; intro g wc hO; clear hf; have hf := hO.cells; simp only [BC, CC, Nat.zero_add, Nat.reduceAdd, and_true] at hf) | ((with_reducible refine at_store (T := 57) ?_); refine own_store (T := 57) hO 0 rfl rfl rfl size_seth rfl rfl rfl ?_; clear hO; intro w5 hO; simp only [List.set_cons_zero, List.set_cons_succ, spl, List.take_succ_cons, List.take_zero, List.nil_append, List.cons_append, List.length_cons, List.length_nil, List.drop_succ_cons, List.drop_zero, List.drop_nil, Nat.reduceAdd, Nat.zero_add, List.append_nil] at hO; clear hf; have hf := hO.cells; simp only [BC, CC, Nat.zero_add, Nat.reduceAdd, and_true] at hf))
  obtain ⟨S, hS⟩ : ∃ S : World → Prop, S = Own w [⟨g, 57, [.bool false, .int .i64 0, .bool false, .slice none 0 0, .slice none 0 0, .int .i64 0, .bool false, .slice none 0 0, .slice none 0 0]⟩, ⟨gb, 57, [.bool false, .int .i64 i3, .bool s3, .slice A3 l3 c3, .slice B3 k3 d3, .int .i64 i4, .bool s4, .slice A4 l4 c4, .slice B4 k4 d4]⟩, ⟨ga, 57, [.bool false, .int .i64 i1, .bool s1, .slice A1 l1 c1, .slice B1 k1 d1, .int .i64 i2, .bool s2, .slice A2 l2 c2, .slice B2 k2 d2]⟩] [⟨B4, k4, d4, nd D4⟩, ⟨A4, l4, c4, nd N4⟩, ⟨B3, k3, d3, nd D3⟩, ⟨A3, l3, c3, nd N3⟩, ⟨B2, k2, d2, nd D2⟩, ⟨A2, l2, c2, nd N2⟩, ⟨B1, k1, d1, nd D1⟩, ⟨A1, l1, c1, nd N1⟩] := ⟨_, rfl⟩
  have hSE : ∀ w w', S w → Ext w w' → S w' := fun w w' h1 h2 => by rw [hS] at h1 ⊢; exact h1.ext h2
  have hS1 : S wc.drew := by rw [hS]; exact hO.ext (Ext.refl wc).drew
  have HS := Lib.hid hS
  clear hS hO hf
  obtain ⟨sp, hsp⟩ : ∃ sp : Nat → Sp, sp = ofList [det (.pointer (some ⟨ga, 1, none⟩)), det (.agg #[.int .i64 i1, .bool s1, .slice A1 l1 c1, .slice B1 k1 d1]), det (.pointer (some ⟨gb, 1, none⟩)), det (.agg #[.int .i64 i3, .bool s3, .slice A3 l3 c3, .slice B3 k3 d3]), anyOf (fun v wz => ∃ A l c B k d, v = .agg #[.int .i64 ig, .bool sg, .slice A l c, .slice B k d] ∧ RatAt wz A l c B k d Ng Dg), det (.pointer (some ⟨ga, 5, none⟩)), det (.agg #[.int .i64 i2, .bool s2, .slice A2 l2 c2, .slice B2 k2 d2]), det (.pointer (some ⟨gb, 5, none⟩)), det (.agg #[.int .i64 i4, .bool s4, .slice A4 l4 c4, .slice B4 k4 d4]), anyOf (fun v wz => ∃ A l c B k d, v = .agg #[.int .i64 ih, .bool sh, .slice A l c, .slice B k d] ∧ RatAt wz A l c B k d Nh Dh), anyOf (fun v wz => ∃ A l c B k d A' l' c' B' k' d', v = .agg #[.bool false, .int .i64 ig, .bool sg, .slice A l c, .slice B k d, .int .i64 ih, .bool sh, .slice A' l' c', .slice B' k' d'] ∧ RatAt wz A l c B k d Ng Dg ∧ RatAt wz A' l' c' B' k' d' Nh Dh)] := ⟨_, rfl⟩
  have HSP := Lib.hid hsp
  clear hsp
  refine wp_region_loose 11 S sp (by kernel_rfl) (by kernel_rfl) hS1 hSE ?_
  simp only [List.take_succ_cons, List.take_zero, List.drop_succ_cons, List.drop_zero]
  refine wpX_step (fun K hK => ?_)
  go_simp
  refine StepY.det (by rw [HSP.out]; rfl) ?_ ?_
  · intro wz hz hF
    clear hz hF
    go_simp
    exact ⟨rfl, Ext.refl _⟩
  refine hK _ _ ?_
  clear hK K
  refine wpX_step (fun K hK => ?_)
  go_simp
  refine StepY.det (by rw [HSP.out]; rfl) ?_ ?_
  · intro wz hz hF
    rw [HS.out] at hz
    have hf := hz.cells
    simp only [BC, CC, Nat.zero_add, Nat.reduceAdd, and_true] at hf
    clear hz hF
    go_simp
    exact ⟨rfl, Ext.refl _⟩
  refine hK _ _ ?_
  clear hK K
  refine wpX_step (fun K hK => ?_)
  go_simp
  refine StepY.det (by rw [HSP.out]; rfl) ?_ ?_
  · intro wz hz hF
    clear hz hF
    go_simp
    exact ⟨rfl, Ext.refl _⟩
  refine hK _ _ ?_
  clear hK K
  refine wpX_step (fun K hK => ?_)
  go_simp
  refine StepY.det (by rw [HSP.out]; rfl) ?_ ?_
  · intro wz hz hF
    rw [HS.out] at hz
    have hf := hz.cells
    simp only [BC, CC, Nat.zero_add, Nat.reduceAdd, and_true] at hf
    clear hz hF
    go_simp
    exact ⟨rfl, Ext.refl _⟩
  refine hK _ _ ?_
  clear hK K
  refine wpX_step (fun K hK => ?_)
  go_simp
  refine StepY.any (by rw [HSP.out]; rfl) ?_ ?_
  · intro wz hz hF
    rw [HS.out] at hz
    have hR : RatAt wz _ _ _ _ _ _ _ _ := ⟨hz.wd 7 rfl, hz.wd 6 rfl⟩
    have hQ : RatAt wz _ _ _ _ _ _ _ _ := ⟨hz.wd 3 rfl, hz.wd 2 rfl⟩
    clear hz hF
    go_simp
    refine (HLE.out _ hR hQ).mono ?_
    rintro e w2 ⟨A3, n3, c3, A4, n4, c4, rfl, hW1, hE1⟩
    exact ⟨_, rfl, ⟨A3, n3, c3, A4, n4, c4, rfl, hW1⟩, hE1⟩
  intro v1
  refine hK _ _ ?_
  clear hK K
  refine wpX_step (fun K hK => ?_)
  go_simp
  refine StepY.det (by rw [HSP.out]; rfl) ?_ ?_
  · intro wz hz hF
    clear hz hF
    go_simp
    exact ⟨rfl, Ext.refl _⟩
  refine hK _ _ ?_
  clear hK K
  refine wpX_step (fun K hK => ?_)
  go_simp
  refine StepY.det (by rw [HSP.out]; rfl) ?_ ?_
  · intro wz hz hF
    rw [HS.out] at hz
    have hf := hz.cells
    simp only [BC, CC, Nat.zero_add, Nat.reduceAdd, and_true] at hf
    clear hz hF
    go_simp
    exact ⟨rfl, Ext.refl _⟩
  refine hK _ _ ?_
  clear hK K
  refine wpX_step (fun K hK => ?_)
  go_simp
  refine StepY.det (by rw [HSP.out]; rfl) ?_ ?_
  · intro wz hz hF
    clear hz hF
    go_simp
    exact ⟨rfl, Ext.refl _⟩
  refine hK _ _ ?_
  clear hK K
  refine wpX_step (fun K hK => ?_)
  go_simp
  refine StepY.det (by rw [HSP.out]; rfl) ?_ ?_
  · intro wz hz hF
    rw [HS.out] at hz
    have hf := hz.cells
    simp only [BC, CC, Nat.zero_add, Nat.reduceAdd, and_true] at hf
    clear hz hF
    go_simp
    exact ⟨rfl, Ext.refl _⟩
  refine hK _ _ ?_
  clear hK K
  refine wpX_step (fun K hK => ?_)
  go_simp
  refine StepY.any (by rw [HSP.out]; rfl) ?_ ?_
  · intro wz hz hF
    rw [HS.out] at hz
    have hR : RatAt wz _ _ _ _ _ _ _ _ := ⟨hz.wd 5 rfl, hz.wd 4 rfl⟩
    have hQ : RatAt wz _ _ _ _ _ _ _ _ := ⟨hz.wd 1 rfl, hz.wd 0 rfl⟩
    clear hz hF
    go_simp
    refine (HGR.out _ hR hQ).mono ?_
    rintro e w2 ⟨A3, n3, c3, A4, n4, c4, rfl, hW1, hE1⟩
    exact ⟨_, rfl, ⟨A3, n3, c3, A4, n4, c4, rfl, hW1⟩, hE1⟩
  intro v2
  refine hK _ _ ?_
  clear hK K
  refine wpX_step (fun K hK => ?_)
  go_simp
  refine StepY.any (by rw [HSP.out]; rfl) ?_ ?_
  · intro wz hz hF
    obtain ⟨wa', ea, A5, n5, c5, A6, n6, c6, hv1, hw1⟩ := hF.any 4 (by kernel_rfl) (by rw [HSP.out]; rfl)
    obtain ⟨wb', eb, A7, n7, c7, A8, n8, c8, hv2, hw2⟩ := hF.any 9 (by kernel_rfl) (by rw [HSP.out]; rfl)
    clear hz hF
    simp only [asFun, List.nil_append, List.cons_append, List.getD_cons_succ, List.getD_cons_zero] at hv1 hv2
    subst hv1 hv2
    go_simp
    exact ⟨⟨A5, n5, c5, A6, n6, c6, A7, n7, c7, A8, n8, c8, rfl, hw1.ext ea, hw2.ext eb⟩, Ext.refl _⟩
  intro v3
  refine hK _ _ ?_
  clear hK K
  refine wpX_nil ?_
  intro wq hz hF
  obtain ⟨wa', ea, A5, n5, c5, A6, n6, c6, A7, n7, c7, A8, n8, c8, hv1, hw1, hw2⟩ := fact_any (hF 10 (by omega)) (by rw [HSP.out]; rfl)
  clear hF
  simp only [asFun, List.nil_append, List.cons_append, List.getD_cons_succ, List.getD_cons_zero] at hv1
  subst hv1
  rw [HS.out] at hz
  have hO := hz
  clear hz HS HSP
  have hf := hO.cells
  simp only [BC, CC, Nat.zero_add, Nat.reduceAdd, and_true] at hf
  have hw1 := hw1.ext ea
  have hw2 := hw2.ext ea
  have hO := (((hO.add hw1.1).add hw1.2).add hw2.1).add hw2.2
  clear hw1 hw2 ea hf
  have hf := hO.cells
  simp only [BC, CC, Nat.zero_add, Nat.reduceAdd, and_true] at hf
  go_wp2_with ((with_reducible refine at_store (T := 57) ?_); refine own_store (T := 57) hO 0 rfl rfl rfl size_seth rfl rfl rfl ?_; clear hO; intro w6 hO; simp only [List.set_cons_zero, List.set_cons_succ, spl, List.take_succ_cons, List.take_zero, List.nil_append, List.cons_append, List.length_cons, List.length_nil, List.drop_succ_cons, List.drop_zero, List.drop_nil, Nat.reduceAdd, Nat.zero_add, List.append_nil] at hO; clear hf; have hf := hO.cells; simp only [BC, CC, Nat.zero_add, Nat.reduceAdd, and_true] at hf)
  exact own_ret hO 0 rfl rfl rfl agg_seti size_seth rfl ⟨_, _, _, _, _, _, _, _, _, _, _, _, rfl, ⟨hO.wd 3 rfl, hO.wd 2 rfl⟩, ⟨hO.wd 1 rfl, hO.wd 0 rfl⟩, hO.toExt⟩

end Go.Proofs.YtadijoeeaineaaaGreatDoor
