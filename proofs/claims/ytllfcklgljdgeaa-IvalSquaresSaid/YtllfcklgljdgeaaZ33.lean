/-
  The contracts of the document's product of a bound with itself, of the lesser and the greater of two. Conditions: those that each theorem names.
-/
import Derived.Test.YtllfcklgljdgeaaZ27
import Derived.Test.YtllfcklgljdgeaaZ32
import Derived.Test.YtllfcklgljdgeaaZ24
namespace Go.Proofs.Ytllfcklgljdgeaa
open Go.RowKit Nm Rn
set_option maxRecDepth 100000
set_option linter.unusedVariables false
set_option linter.unusedSimpArgs false

set_option maxHeartbeats 1000000 in
theorem lesser6_a (i : Int) (s : Bool) (A : Option Addr) (l c : Nat) (B : Option Addr) (k d N D : Nat) (j : Int) (r : Bool) (A2 : Option Addr) (l2 c2 : Nat) (B2 : Option Addr) (k2 d2 N2 D2 : Nat) (w : World) (h1 : RatAt w A l c B k d N D) (h2 : RatAt w A2 l2 c2 B2 k2 d2 N2 D2) (cc : Int) (HC : Hid (∀ w, RatAt w A l c B k d N D → RatAt w A2 l2 c2 B2 k2 d2 N2 D2 → Calls Try.prog 65 #[.agg #[.int .i64 j, .bool r, .slice A2 l2 c2, .slice B2 k2 d2], .agg #[.int .i64 i, .bool s, .slice A l c, .slice B k d]] w fun e w' => e = .returned (.int .i64 cc) ∧ Ext w w')) (hc : cc < 0) :
    Calls Try.prog 43 #[.agg #[.int .i64 i, .bool s, .slice A l c, .slice B k d], .agg #[.int .i64 j, .bool r, .slice A2 l2 c2, .slice B2 k2 d2]] w (RetEnd j r N2 D2 w) := by
  have hO := ((((Own.start w).add h1.1).add h1.2).add h2.1).add h2.2
  have hf : True := trivial
  have hdc : decide (cc < 0) = true := decide_eq_true hc
  clear h1 h2
  go_enter Try.func43, Try.ntmps43
  go_wp2_with (first | ((with_reducible refine at_box ?_); refine own_box (cs := [.int .i64 i, .bool s, .slice A l c, .slice B k d]) hO rfl rfl ?_; clear hO; intro ga wa hO; clear hf; have hf := hO.cells; simp only [BC, CC, Nat.zero_add, Nat.reduceAdd, and_true] at hf) | ((with_reducible refine at_box ?_); refine own_box (cs := [.int .i64 j, .bool r, .slice A2 l2 c2, .slice B2 k2 d2]) hO rfl rfl ?_; clear hO; intro gb wa hO; clear hf; have hf := hO.cells; simp only [BC, CC, Nat.zero_add, Nat.reduceAdd, and_true] at hf) | ((with_reducible refine at_alloc ?_); refine own_alloc hO zero_end rfl rfl ?_; clear hO; intro g w1 hO; clear hf; have hf := hO.cells; simp only [BC, CC, Nat.zero_add, Nat.reduceAdd, and_true] at hf) | ((with_reducible refine at_store (T := 47) ?_); refine own_store (T := 47) hO 0 rfl rfl rfl size_end rfl rfl rfl ?_; clear hO; intro w1 hO; simp only [List.set_cons_zero, List.set_cons_succ, spl, List.take_succ_cons, List.take_zero, List.nil_append, List.cons_append, List.length_cons, List.length_nil, List.drop_succ_cons, List.drop_zero, List.drop_nil, Nat.reduceAdd, Nat.zero_add, List.append_nil] at hO; clear hf; have hf := hO.cells; simp only [BC, CC, Nat.zero_add, Nat.reduceAdd, and_true] at hf))
  refine (HC.out _ ⟨hO.wd 3 rfl, hO.wd 2 rfl⟩ ⟨hO.wd 1 rfl, hO.wd 0 rfl⟩).mono ?_
  rintro e w2 ⟨rfl, hE1⟩
  have hO := hO.ext hE1
  clear hf
  have hf := hO.cells
  simp only [BC, CC, Nat.zero_add, Nat.reduceAdd, and_true] at hf
  clear hE1
  go_wp2_with (first | ((with_reducible refine at_store (T := 47) ?_); refine own_store (T := 47) hO 0 rfl rfl rfl size_end rfl rfl rfl ?_; clear hO; intro w1 hO; simp only [List.set_cons_zero, List.set_cons_succ, spl, List.take_succ_cons, List.take_zero, List.nil_append, List.cons_append, List.length_cons, List.length_nil, List.drop_succ_cons, List.drop_zero, List.drop_nil, Nat.reduceAdd, Nat.zero_add, List.append_nil] at hO; clear hf; have hf := hO.cells; simp only [BC, CC, Nat.zero_add, Nat.reduceAdd, and_true] at hf))
  exact own_ret hO 0 rfl rfl rfl agg_end size_end rfl ⟨_, _, _, _, _, _, rfl, ⟨hO.wd 1 rfl, hO.wd 0 rfl⟩, hO.toExt⟩

set_option maxHeartbeats 1000000 in
theorem lesser6_b (i : Int) (s : Bool) (A : Option Addr) (l c : Nat) (B : Option Addr) (k d N D : Nat) (j : Int) (r : Bool) (A2 : Option Addr) (l2 c2 : Nat) (B2 : Option Addr) (k2 d2 N2 D2 : Nat) (w : World) (h1 : RatAt w A l c B k d N D) (h2 : RatAt w A2 l2 c2 B2 k2 d2 N2 D2) (cc : Int) (HC : Hid (∀ w, RatAt w A l c B k d N D → RatAt w A2 l2 c2 B2 k2 d2 N2 D2 → Calls Try.prog 65 #[.agg #[.int .i64 j, .bool r, .slice A2 l2 c2, .slice B2 k2 d2], .agg #[.int .i64 i, .bool s, .slice A l c, .slice B k d]] w fun e w' => e = .returned (.int .i64 cc) ∧ Ext w w')) (hc : ¬ cc < 0) :
    Calls Try.prog 43 #[.agg #[.int .i64 i, .bool s, .slice A l c, .slice B k d], .agg #[.int .i64 j, .bool r, .slice A2 l2 c2, .slice B2 k2 d2]] w (RetEnd i s N D w) := by
  have hO := ((((Own.start w).add h1.1).add h1.2).add h2.1).add h2.2
  have hf : True := trivial
  have hdc : decide (cc < 0) = false := decide_eq_false hc
  clear h1 h2
  go_enter Try.func43, Try.ntmps43
  go_wp2_with (first | ((with_reducible refine at_box ?_); refine own_box (cs := [.int .i64 i, .bool s, .slice A l c, .slice B k d]) hO rfl rfl ?_; clear hO; intro ga wa hO; clear hf; have hf := hO.cells; simp only [BC, CC, Nat.zero_add, Nat.reduceAdd, and_true] at hf) | ((with_reducible refine at_box ?_); refine own_box (cs := [.int .i64 j, .bool r, .slice A2 l2 c2, .slice B2 k2 d2]) hO rfl rfl ?_; clear hO; intro gb wa hO; clear hf; have hf := hO.cells; simp only [BC, CC, Nat.zero_add, Nat.reduceAdd, and_true] at hf) | ((with_reducible refine at_alloc ?_); refine own_alloc hO zero_end rfl rfl ?_; clear hO; intro g w1 hO; clear hf; have hf := hO.cells; simp only [BC, CC, Nat.zero_add, Nat.reduceAdd, and_true] at hf) | ((with_reducible refine at_store (T := 47) ?_); refine own_store (T := 47) hO 0 rfl rfl rfl size_end rfl rfl rfl ?_; clear hO; intro w1 hO; simp only [List.set_cons_zero, List.set_cons_succ, spl, List.take_succ_cons, List.take_zero, List.nil_append, List.cons_append, List.length_cons, List.length_nil, List.drop_succ_cons, List.drop_zero, List.drop_nil, Nat.reduceAdd, Nat.zero_add, List.append_nil] at hO; clear hf; have hf := hO.cells; simp only [BC, CC, Nat.zero_add, Nat.reduceAdd, and_true] at hf))
  refine (HC.out _ ⟨hO.wd 3 rfl, hO.wd 2 rfl⟩ ⟨hO.wd 1 rfl, hO.wd 0 rfl⟩).mono ?_
  rintro e w2 ⟨rfl, hE1⟩
  have hO := hO.ext hE1
  clear hf
  have hf := hO.cells
  simp only [BC, CC, Nat.zero_add, Nat.reduceAdd, and_true] at hf
  clear hE1
  go_wp2_with (first | ((with_reducible refine at_store (T := 47) ?_); refine own_store (T := 47) hO 0 rfl rfl rfl size_end rfl rfl rfl ?_; clear hO; intro w1 hO; simp only [List.set_cons_zero, List.set_cons_succ, spl, List.take_succ_cons, List.take_zero, List.nil_append, List.cons_append, List.length_cons, List.length_nil, List.drop_succ_cons, List.drop_zero, List.drop_nil, Nat.reduceAdd, Nat.zero_add, List.append_nil] at hO; clear hf; have hf := hO.cells; simp only [BC, CC, Nat.zero_add, Nat.reduceAdd, and_true] at hf))
  exact own_ret hO 0 rfl rfl rfl agg_end size_end rfl ⟨_, _, _, _, _, _, rfl, ⟨hO.wd 3 rfl, hO.wd 2 rfl⟩, hO.toExt⟩

set_option maxHeartbeats 1000000 in
theorem greater6_a (i : Int) (s : Bool) (A : Option Addr) (l c : Nat) (B : Option Addr) (k d N D : Nat) (j : Int) (r : Bool) (A2 : Option Addr) (l2 c2 : Nat) (B2 : Option Addr) (k2 d2 N2 D2 : Nat) (w : World) (h1 : RatAt w A l c B k d N D) (h2 : RatAt w A2 l2 c2 B2 k2 d2 N2 D2) (cc : Int) (HC : Hid (∀ w, RatAt w A l c B k d N D → RatAt w A2 l2 c2 B2 k2 d2 N2 D2 → Calls Try.prog 65 #[.agg #[.int .i64 j, .bool r, .slice A2 l2 c2, .slice B2 k2 d2], .agg #[.int .i64 i, .bool s, .slice A l c, .slice B k d]] w fun e w' => e = .returned (.int .i64 cc) ∧ Ext w w')) (hc : 0 < cc) :
    Calls Try.prog 46 #[.agg #[.int .i64 i, .bool s, .slice A l c, .slice B k d], .agg #[.int .i64 j, .bool r, .slice A2 l2 c2, .slice B2 k2 d2]] w (RetEnd j r N2 D2 w) := by
  have hO := ((((Own.start w).add h1.1).add h1.2).add h2.1).add h2.2
  have hf : True := trivial
  have hdc : decide (0 < cc) = true := decide_eq_true hc
  clear h1 h2
  go_enter Try.func46, Try.ntmps46
  go_wp2_with (first | ((with_reducible refine at_box ?_); refine own_box (cs := [.int .i64 i, .bool s, .slice A l c, .slice B k d]) hO rfl rfl ?_; clear hO; intro ga wa hO; clear hf; have hf := hO.cells; simp only [BC, CC, Nat.zero_add, Nat.reduceAdd, and_true] at hf) | ((with_reducible refine at_box ?_); refine own_box (cs := [.int .i64 j, .bool r, .slice A2 l2 c2, .slice B2 k2 d2]) hO rfl rfl ?_; clear hO; intro gb wa hO; clear hf; have hf := hO.cells; simp only [BC, CC, Nat.zero_add, Nat.reduceAdd, and_true] at hf) | ((with_reducible refine at_alloc ?_); refine own_alloc hO zero_end rfl rfl ?_; clear hO; intro g w1 hO; clear hf; have hf := hO.cells; simp only [BC, CC, Nat.zero_add, Nat.reduceAdd, and_true] at hf) | ((with_reducible refine at_store (T := 47) ?_); refine own_store (T := 47) hO 0 rfl rfl rfl size_end rfl rfl rfl ?_; clear hO; intro w1 hO; simp only [List.set_cons_zero, List.set_cons_succ, spl, List.take_succ_cons, List.take_zero, List.nil_append, List.cons_append, List.length_cons, List.length_nil, List.drop_succ_cons, List.drop_zero, List.drop_nil, Nat.reduceAdd, Nat.zero_add, List.append_nil] at hO; clear hf; have hf := hO.cells; simp only [BC, CC, Nat.zero_add, Nat.reduceAdd, and_true] at hf))
  refine (HC.out _ ⟨hO.wd 3 rfl, hO.wd 2 rfl⟩ ⟨hO.wd 1 rfl, hO.wd 0 rfl⟩).mono ?_
  rintro e w2 ⟨rfl, hE1⟩
  have hO := hO.ext hE1
  clear hf
  have hf := hO.cells
  simp only [BC, CC, Nat.zero_add, Nat.reduceAdd, and_true] at hf
  clear hE1
  go_wp2_with (first | ((with_reducible refine at_store (T := 47) ?_); refine own_store (T := 47) hO 0 rfl rfl rfl size_end rfl rfl rfl ?_; clear hO; intro w1 hO; simp only [List.set_cons_zero, List.set_cons_succ, spl, List.take_succ_cons, List.take_zero, List.nil_append, List.cons_append, List.length_cons, List.length_nil, List.drop_succ_cons, List.drop_zero, List.drop_nil, Nat.reduceAdd, Nat.zero_add, List.append_nil] at hO; clear hf; have hf := hO.cells; simp only [BC, CC, Nat.zero_add, Nat.reduceAdd, and_true] at hf))
  exact own_ret hO 0 rfl rfl rfl agg_end size_end rfl ⟨_, _, _, _, _, _, rfl, ⟨hO.wd 1 rfl, hO.wd 0 rfl⟩, hO.toExt⟩

set_option maxHeartbeats 1000000 in
theorem greater6_b (i : Int) (s : Bool) (A : Option Addr) (l c : Nat) (B : Option Addr) (k d N D : Nat) (j : Int) (r : Bool) (A2 : Option Addr) (l2 c2 : Nat) (B2 : Option Addr) (k2 d2 N2 D2 : Nat) (w : World) (h1 : RatAt w A l c B k d N D) (h2 : RatAt w A2 l2 c2 B2 k2 d2 N2 D2) (cc : Int) (HC : Hid (∀ w, RatAt w A l c B k d N D → RatAt w A2 l2 c2 B2 k2 d2 N2 D2 → Calls Try.prog 65 #[.agg #[.int .i64 j, .bool r, .slice A2 l2 c2, .slice B2 k2 d2], .agg #[.int .i64 i, .bool s, .slice A l c, .slice B k d]] w fun e w' => e = .returned (.int .i64 cc) ∧ Ext w w')) (hc : ¬ 0 < cc) :
    Calls Try.prog 46 #[.agg #[.int .i64 i, .bool s, .slice A l c, .slice B k d], .agg #[.int .i64 j, .bool r, .slice A2 l2 c2, .slice B2 k2 d2]] w (RetEnd i s N D w) := by
  have hO := ((((Own.start w).add h1.1).add h1.2).add h2.1).add h2.2
  have hf : True := trivial
  have hdc : decide (0 < cc) = false := decide_eq_false hc
  clear h1 h2
  go_enter Try.func46, Try.ntmps46
  go_wp2_with (first | ((with_reducible refine at_box ?_); refine own_box (cs := [.int .i64 i, .bool s, .slice A l c, .slice B k d]) hO rfl rfl ?_; clear hO; intro ga wa hO; clear hf; have hf := hO.cells; simp only [BC, CC, Nat.zero_add, Nat.reduceAdd, and_true] at hf) | ((with_reducible refine at_box ?_); refine own_box (cs := [.int .i64 j, .bool r, .slice A2 l2 c2, .slice B2 k2 d2]) hO rfl rfl ?_; clear hO; intro gb wa hO; clear hf; have hf := hO.cells; simp only [BC, CC, Nat.zero_add, Nat.reduceAdd, and_true] at hf) | ((with_reducible refine at_alloc ?_); refine own_alloc hO zero_end rfl rfl ?_; clear hO; intro g w1 hO; clear hf; have hf := hO.cells; simp only [BC, CC, Nat.zero_add, Nat.reduceAdd, and_true] at hf) | ((with_reducible refine at_store (T := 47) ?_); refine own_store (T := 47) hO 0 rfl rfl rfl size_end rfl rfl rfl ?_; clear hO; intro w1 hO; simp only [List.set_cons_zero, List.set_cons_succ, spl, List.take_succ_cons, List.take_zero, List.nil_append, List.cons_append, List.length_cons, List.length_nil, List.drop_succ_cons, List.drop_zero, List.drop_nil, Nat.reduceAdd, Nat.zero_add, List.append_nil] at hO; clear hf; have hf := hO.cells; simp only [BC, CC, Nat.zero_add, Nat.reduceAdd, and_true] at hf))
  refine (HC.out _ ⟨hO.wd 3 rfl, hO.wd 2 rfl⟩ ⟨hO.wd 1 rfl, hO.wd 0 rfl⟩).mono ?_
  rintro e w2 ⟨rfl, hE1⟩
  have hO := hO.ext hE1
  clear hf
  have hf := hO.cells
  simp only [BC, CC, Nat.zero_add, Nat.reduceAdd, and_true] at hf
  clear hE1
  go_wp2_with (first | ((with_reducible refine at_store (T := 47) ?_); refine own_store (T := 47) hO 0 rfl rfl rfl size_end rfl rfl rfl ?_; clear hO; intro w1 hO; simp only [List.set_cons_zero, List.set_cons_succ, spl, List.take_succ_cons, List.take_zero, List.nil_append, List.cons_append, List.length_cons, List.length_nil, List.drop_succ_cons, List.drop_zero, List.drop_nil, Nat.reduceAdd, Nat.zero_add, List.append_nil] at hO; clear hf; have hf := hO.cells; simp only [BC, CC, Nat.zero_add, Nat.reduceAdd, and_true] at hf))
  exact own_ret hO 0 rfl rfl rfl agg_end size_end rfl ⟨_, _, _, _, _, _, rfl, ⟨hO.wd 3 rfl, hO.wd 2 rfl⟩, hO.toExt⟩

set_option maxHeartbeats 1000000 in
theorem prod6_z (i : Int) (n : Bool) (A : Option Addr) (l c : Nat) (B : Option Addr) (k d N D : Nat) (w : World) (h1 : RatAt w A l c B k d N D) (HS : Hid (∀ w, RatAt w A l c B k d N D → Calls Try.prog 44 #[.agg #[.int .i64 i, .bool n, .slice A l c, .slice B k d]] w fun e w' => e = .returned (.int .i64 0) ∧ Ext w w')) :
    Calls Try.prog 42 #[.agg #[.int .i64 i, .bool n, .slice A l c, .slice B k d], .agg #[.int .i64 i, .bool n, .slice A l c, .slice B k d]] w (RetEnd 0 false (fracN 0 1 0) (fracD 0 1 0) w) := by
  have HFI := Lib.hid (fun w => finite_any 0 w (by omega))
  generalize fracN 0 1 0 = N' at HFI ⊢
  generalize fracD 0 1 0 = D' at HFI ⊢
  have hO := ((Own.start w).add h1.1).add h1.2
  have hf : True := trivial
  clear h1
  go_enter Try.func42, Try.ntmps42
  go_wp2_with (first | ((with_reducible refine at_box ?_); refine own_box (cs := [.int .i64 i, .bool n, .slice A l c, .slice B k d]) hO rfl rfl ?_; clear hO; intro ga wa hO; clear hf; have hf := hO.cells; simp only [BC, CC, Nat.zero_add, Nat.reduceAdd, and_true] at hf) | ((with_reducible refine at_alloc ?_); refine own_alloc hO zero_end rfl rfl ?_; clear hO; intro g w1 hO; clear hf; have hf := hO.cells; simp only [BC, CC, Nat.zero_add, Nat.reduceAdd, and_true] at hf))
  refine (HS.out _ ⟨hO.wd 1 rfl, hO.wd 0 rfl⟩).mono ?_
  rintro e w2 ⟨rfl, hE1⟩
  have hO := hO.ext hE1
  clear hf
  have hf := hO.cells
  simp only [BC, CC, Nat.zero_add, Nat.reduceAdd, and_true] at hf
  clear hE1
  go_wp2_with fail
  refine (HFI.out _).mono ?_
  rintro e w2 ⟨A1, n1, c1, A2, n2, c2, rfl, hR1, hE1⟩
  have hO := ((hO.ext hE1).add hR1.1).add hR1.2
  clear hf
  have hf := hO.cells
  simp only [BC, CC, Nat.zero_add, Nat.reduceAdd, and_true] at hf
  clear hR1 hE1
  go_wp2_with (first | ((with_reducible refine at_store (T := 47) ?_); refine own_store (T := 47) hO 0 rfl rfl rfl size_end rfl rfl rfl ?_; clear hO; intro w1 hO; simp only [List.set_cons_zero, List.set_cons_succ, spl, List.take_succ_cons, List.take_zero, List.nil_append, List.cons_append, List.length_cons, List.length_nil, List.drop_succ_cons, List.drop_zero, List.drop_nil, Nat.reduceAdd, Nat.zero_add, List.append_nil] at hO; clear hf; have hf := hO.cells; simp only [BC, CC, Nat.zero_add, Nat.reduceAdd, and_true] at hf))
  exact own_ret hO 0 rfl rfl rfl agg_end size_end rfl ⟨_, _, _, _, _, _, rfl, ⟨hO.wd 1 rfl, hO.wd 0 rfl⟩, hO.toExt⟩

set_option maxHeartbeats 2000000 in
theorem prod6_ip (n : Bool) (A : Option Addr) (l c : Nat) (B : Option Addr) (k d N D : Nat) (w : World) (h1 : RatAt w A l c B k d N D) (HS : Hid (∀ w, RatAt w A l c B k d N D → Calls Try.prog 44 #[.agg #[.int .i64 1, .bool n, .slice A l c, .slice B k d]] w fun e w' => e = .returned (.int .i64 1) ∧ Ext w w')) :
    Calls Try.prog 42 #[.agg #[.int .i64 1, .bool n, .slice A l c, .slice B k d], .agg #[.int .i64 1, .bool n, .slice A l c, .slice B k d]] w (RetEnd 1 false (fracN 0 1 0) (fracD 0 1 0) w) := by
  have HII := Lib.hid (fun w => int_any 0 w (by omega))
  generalize fracN 0 1 0 = N' at HII ⊢
  generalize fracD 0 1 0 = D' at HII ⊢
  have hO := ((Own.start w).add h1.1).add h1.2
  have hf : True := trivial
  clear h1
  go_enter Try.func42, Try.ntmps42
  go_wp2_with (first | ((with_reducible refine at_box ?_); refine own_box (cs := [.int .i64 1, .bool n, .slice A l c, .slice B k d]) (L := []) hO rfl rfl ?_; clear hO; intro ga wa hO; clear hf; have hf := hO.cells; simp only [BC, CC, Nat.zero_add, Nat.reduceAdd, and_true] at hf) | ((with_reducible refine at_box ?_); refine own_box (cs := [.int .i64 1, .bool n, .slice A l c, .slice B k d]) hO rfl rfl ?_; clear hO; intro gb wa hO; clear hf; have hf := hO.cells; simp only [BC, CC, Nat.zero_add, Nat.reduceAdd, and_true] at hf) | ((with_reducible refine at_alloc ?_); refine own_alloc hO zero_end rfl rfl ?_; clear hO; intro g w1 hO; clear hf; have hf := hO.cells; simp only [BC, CC, Nat.zero_add, Nat.reduceAdd, and_true] at hf))
  refine (HS.out _ ⟨hO.wd 1 rfl, hO.wd 0 rfl⟩).mono ?_
  rintro e w2 ⟨rfl, hE1⟩
  have hO := hO.ext hE1
  clear hf
  have hf := hO.cells
  simp only [BC, CC, Nat.zero_add, Nat.reduceAdd, and_true] at hf
  clear hE1
  go_wp2_with fail
  refine (HS.out _ ⟨hO.wd 1 rfl, hO.wd 0 rfl⟩).mono ?_
  rintro e w2 ⟨rfl, hE1⟩
  have hO := hO.ext hE1
  clear hf
  have hf := hO.cells
  simp only [BC, CC, Nat.zero_add, Nat.reduceAdd, and_true] at hf
  clear hE1
  go_wp2_with fail
  obtain ⟨S, hS⟩ : ∃ S : World → Prop, S = Own w [⟨g, 47, [.int .i64 0, .bool false, .slice none 0 0, .slice none 0 0]⟩, ⟨gb, 47, [.int .i64 1, .bool n, .slice A l c, .slice B k d]⟩, ⟨ga, 47, [.int .i64 1, .bool n, .slice A l c, .slice B k d]⟩] [⟨B, k, d, nd D⟩, ⟨A, l, c, nd N⟩] := ⟨_, rfl⟩
  have hSE : ∀ w w', S w → Ext w w' → S w' := fun w w' h1 h2 => by rw [hS] at h1 ⊢; exact h1.ext h2
  have hS1 : S w2.drew := by rw [hS]; exact hO.ext (Ext.refl w2).drew
  have HSX := Lib.hid hS
  clear hS hO hf
  obtain ⟨sp, hsp⟩ : ∃ sp : Nat → Sp, sp = ofList [det (.agg #[.int .i64 1, .bool n, .slice A l c, .slice B k d]), det (.int .i64 1), det (.agg #[.int .i64 1, .bool n, .slice A l c, .slice B k d]), det (.int .i64 1), det (.int .i64 1), anyOf (fun v wz => ∃ A1 n1 c1 B1 m1 d1, v = .agg #[.bool false, .slice A1 n1 c1, .slice B1 m1 d1] ∧ RatAt wz A1 n1 c1 B1 m1 d1 N' D'), anyOf (fun v wz => ∃ A1 n1 c1 B1 m1 d1, v = .agg #[.int .i64 1, .bool false, .slice A1 n1 c1, .slice B1 m1 d1] ∧ RatAt wz A1 n1 c1 B1 m1 d1 N' D')] := ⟨_, rfl⟩
  have HSP := Lib.hid hsp
  clear hsp
  refine wp_region_loose 7 S sp (by kernel_rfl) (by kernel_rfl) hS1 hSE ?_
  simp only [List.take_succ_cons, List.take_zero, List.drop_succ_cons, List.drop_zero]
  iterate 6
    refine wpX_step (fun K hK => ?_)
    go_simp
    first
    | (refine ⟨by rw [HSP.out]; rfl, hK _ _ ?_⟩
       clear hK K)
    | (refine StepY.det (by rw [HSP.out]; rfl) ?_ ?_
       · intro wz hz hF
         rw [HSX.out] at hz
         have hf := hz.facts
         have q1 : RatAt wz A l c B k d N D := ⟨hz.wd 1 rfl, hz.wd 0 rfl⟩
         simp only [BF, CF, Nat.zero_add, Nat.reduceAdd, and_true] at hf
         clear hz hF
         go_simp
         first
         | exact ⟨rfl, Ext.refl _⟩
         | (go_at_call 44
            refine (HS.out _ q1).mono ?_
            rintro e w3 ⟨rfl, hE1⟩
            exact ⟨_, rfl, rfl, hE1⟩)
       refine hK _ _ ?_
       clear hK K)
    | (refine StepY.any (by rw [HSP.out]; rfl) ?_ ?_
       · intro wz hz hF
         clear hz hF
         go_simp
         go_at_call 63
         refine (HII.out _).mono ?_
         rintro e w3 ⟨A1, n1, c1, B1, m1, d1, rfl, hW1, hW2, hE1⟩
         exact ⟨_, rfl, ⟨A1, n1, c1, B1, m1, d1, rfl, hW1, hW2⟩, hE1⟩
       intro v
       refine hK _ _ ?_
       clear hK K)
  refine wpX_step (fun K hK => ?_)
  go_simp
  refine StepY.any (by rw [HSP.out]; rfl) ?_ ?_
  · intro wz hz hF
    obtain ⟨wa', ea, A5, n5, c5, B5, m5, d5, hv1, hw1⟩ := hF.any 5 (by kernel_rfl) (by rw [HSP.out]; rfl)
    clear hF
    simp only [asFun, List.nil_append, List.cons_append, List.getD_cons_succ, List.getD_cons_zero] at hv1
    subst hv1
    go_simp
    exact ⟨⟨A5, n5, c5, B5, m5, d5, rfl, hw1.ext ea⟩, Ext.refl _⟩
  intro v
  refine hK _ _ ?_
  clear hK K
  refine wpX_nil ?_
  intro w3 hz hF
  obtain ⟨w0, e0, A5, n5, c5, B5, m5, d5, hv, hw1⟩ := fact_any (hF 6 (by omega)) (by rw [HSP.out]; rfl)
  clear hF
  simp only [asFun, List.nil_append, List.cons_append, List.getD_cons_succ, List.getD_cons_zero] at hv
  subst hv
  rw [HSX.out] at hz
  have hO := (hz.add (hw1.ext e0).1).add (hw1.ext e0).2
  have hf : True := trivial
  clear hz hw1 e0
  go_wp2_with (first | ((with_reducible refine at_store (T := 47) ?_); refine own_store (T := 47) hO 0 rfl rfl rfl size_end rfl rfl rfl ?_; clear hO; intro w1 hO; simp only [List.set_cons_zero, List.set_cons_succ, spl, List.take_succ_cons, List.take_zero, List.nil_append, List.cons_append, List.length_cons, List.length_nil, List.drop_succ_cons, List.drop_zero, List.drop_nil, Nat.reduceAdd, Nat.zero_add, List.append_nil] at hO; clear hf; have hf := hO.cells; simp only [BC, CC, Nat.zero_add, Nat.reduceAdd, and_true] at hf))
  exact own_ret hO 0 rfl rfl rfl agg_end size_end rfl ⟨_, _, _, _, _, _, rfl, ⟨hO.wd 1 rfl, hO.wd 0 rfl⟩, hO.toExt⟩

set_option maxHeartbeats 2000000 in
theorem prod6_im (n : Bool) (A : Option Addr) (l c : Nat) (B : Option Addr) (k d N D : Nat) (w : World) (h1 : RatAt w A l c B k d N D) (HS : Hid (∀ w, RatAt w A l c B k d N D → Calls Try.prog 44 #[.agg #[.int .i64 (-1), .bool n, .slice A l c, .slice B k d]] w fun e w' => e = .returned (.int .i64 (-1)) ∧ Ext w w')) :
    Calls Try.prog 42 #[.agg #[.int .i64 (-1), .bool n, .slice A l c, .slice B k d], .agg #[.int .i64 (-1), .bool n, .slice A l c, .slice B k d]] w (RetEnd 1 false (fracN 0 1 0) (fracD 0 1 0) w) := by
  have HII := Lib.hid (fun w => int_any 0 w (by omega))
  generalize fracN 0 1 0 = N' at HII ⊢
  generalize fracD 0 1 0 = D' at HII ⊢
  have hO := ((Own.start w).add h1.1).add h1.2
  have hf : True := trivial
  clear h1
  go_enter Try.func42, Try.ntmps42
  go_wp2_with (first | ((with_reducible refine at_box ?_); refine own_box (cs := [.int .i64 (-1), .bool n, .slice A l c, .slice B k d]) (L := []) hO rfl rfl ?_; clear hO; intro ga wa hO; clear hf; have hf := hO.cells; simp only [BC, CC, Nat.zero_add, Nat.reduceAdd, and_true] at hf) | ((with_reducible refine at_box ?_); refine own_box (cs := [.int .i64 (-1), .bool n, .slice A l c, .slice B k d]) hO rfl rfl ?_; clear hO; intro gb wa hO; clear hf; have hf := hO.cells; simp only [BC, CC, Nat.zero_add, Nat.reduceAdd, and_true] at hf) | ((with_reducible refine at_alloc ?_); refine own_alloc hO zero_end rfl rfl ?_; clear hO; intro g w1 hO; clear hf; have hf := hO.cells; simp only [BC, CC, Nat.zero_add, Nat.reduceAdd, and_true] at hf))
  refine (HS.out _ ⟨hO.wd 1 rfl, hO.wd 0 rfl⟩).mono ?_
  rintro e w2 ⟨rfl, hE1⟩
  have hO := hO.ext hE1
  clear hf
  have hf := hO.cells
  simp only [BC, CC, Nat.zero_add, Nat.reduceAdd, and_true] at hf
  clear hE1
  go_wp2_with fail
  refine (HS.out _ ⟨hO.wd 1 rfl, hO.wd 0 rfl⟩).mono ?_
  rintro e w2 ⟨rfl, hE1⟩
  have hO := hO.ext hE1
  clear hf
  have hf := hO.cells
  simp only [BC, CC, Nat.zero_add, Nat.reduceAdd, and_true] at hf
  clear hE1
  go_wp2_with fail
  obtain ⟨S, hS⟩ : ∃ S : World → Prop, S = Own w [⟨g, 47, [.int .i64 0, .bool false, .slice none 0 0, .slice none 0 0]⟩, ⟨gb, 47, [.int .i64 (-1), .bool n, .slice A l c, .slice B k d]⟩, ⟨ga, 47, [.int .i64 (-1), .bool n, .slice A l c, .slice B k d]⟩] [⟨B, k, d, nd D⟩, ⟨A, l, c, nd N⟩] := ⟨_, rfl⟩
  have hSE : ∀ w w', S w → Ext w w' → S w' := fun w w' h1 h2 => by rw [hS] at h1 ⊢; exact h1.ext h2
  have hS1 : S w2.drew := by rw [hS]; exact hO.ext (Ext.refl w2).drew
  have HSX := Lib.hid hS
  clear hS hO hf
  obtain ⟨sp, hsp⟩ : ∃ sp : Nat → Sp, sp = ofList [det (.agg #[.int .i64 (-1), .bool n, .slice A l c, .slice B k d]), det (.int .i64 (-1)), det (.agg #[.int .i64 (-1), .bool n, .slice A l c, .slice B k d]), det (.int .i64 (-1)), det (.int .i64 1), anyOf (fun v wz => ∃ A1 n1 c1 B1 m1 d1, v = .agg #[.bool false, .slice A1 n1 c1, .slice B1 m1 d1] ∧ RatAt wz A1 n1 c1 B1 m1 d1 N' D'), anyOf (fun v wz => ∃ A1 n1 c1 B1 m1 d1, v = .agg #[.int .i64 1, .bool false, .slice A1 n1 c1, .slice B1 m1 d1] ∧ RatAt wz A1 n1 c1 B1 m1 d1 N' D')] := ⟨_, rfl⟩
  have HSP := Lib.hid hsp
  clear hsp
  refine wp_region_loose 7 S sp (by kernel_rfl) (by kernel_rfl) hS1 hSE ?_
  simp only [List.take_succ_cons, List.take_zero, List.drop_succ_cons, List.drop_zero]
  iterate 6
    refine wpX_step (fun K hK => ?_)
    go_simp
    first
    | (refine ⟨by rw [HSP.out]; rfl, hK _ _ ?_⟩
       clear hK K)
    | (refine StepY.det (by rw [HSP.out]; rfl) ?_ ?_
       · intro wz hz hF
         rw [HSX.out] at hz
         have hf := hz.facts
         have q1 : RatAt wz A l c B k d N D := ⟨hz.wd 1 rfl, hz.wd 0 rfl⟩
         simp only [BF, CF, Nat.zero_add, Nat.reduceAdd, and_true] at hf
         clear hz hF
         go_simp
         first
         | exact ⟨rfl, Ext.refl _⟩
         | (go_at_call 44
            refine (HS.out _ q1).mono ?_
            rintro e w3 ⟨rfl, hE1⟩
            exact ⟨_, rfl, rfl, hE1⟩)
       refine hK _ _ ?_
       clear hK K)
    | (refine StepY.any (by rw [HSP.out]; rfl) ?_ ?_
       · intro wz hz hF
         clear hz hF
         go_simp
         go_at_call 63
         refine (HII.out _).mono ?_
         rintro e w3 ⟨A1, n1, c1, B1, m1, d1, rfl, hW1, hW2, hE1⟩
         exact ⟨_, rfl, ⟨A1, n1, c1, B1, m1, d1, rfl, hW1, hW2⟩, hE1⟩
       intro v
       refine hK _ _ ?_
       clear hK K)
  refine wpX_step (fun K hK => ?_)
  go_simp
  refine StepY.any (by rw [HSP.out]; rfl) ?_ ?_
  · intro wz hz hF
    obtain ⟨wa', ea, A5, n5, c5, B5, m5, d5, hv1, hw1⟩ := hF.any 5 (by kernel_rfl) (by rw [HSP.out]; rfl)
    clear hF
    simp only [asFun, List.nil_append, List.cons_append, List.getD_cons_succ, List.getD_cons_zero] at hv1
    subst hv1
    go_simp
    exact ⟨⟨A5, n5, c5, B5, m5, d5, rfl, hw1.ext ea⟩, Ext.refl _⟩
  intro v
  refine hK _ _ ?_
  clear hK K
  refine wpX_nil ?_
  intro w3 hz hF
  obtain ⟨w0, e0, A5, n5, c5, B5, m5, d5, hv, hw1⟩ := fact_any (hF 6 (by omega)) (by rw [HSP.out]; rfl)
  clear hF
  simp only [asFun, List.nil_append, List.cons_append, List.getD_cons_succ, List.getD_cons_zero] at hv
  subst hv
  rw [HSX.out] at hz
  have hO := (hz.add (hw1.ext e0).1).add (hw1.ext e0).2
  have hf : True := trivial
  clear hz hw1 e0
  go_wp2_with (first | ((with_reducible refine at_store (T := 47) ?_); refine own_store (T := 47) hO 0 rfl rfl rfl size_end rfl rfl rfl ?_; clear hO; intro w1 hO; simp only [List.set_cons_zero, List.set_cons_succ, spl, List.take_succ_cons, List.take_zero, List.nil_append, List.cons_append, List.length_cons, List.length_nil, List.drop_succ_cons, List.drop_zero, List.drop_nil, Nat.reduceAdd, Nat.zero_add, List.append_nil] at hO; clear hf; have hf := hO.cells; simp only [BC, CC, Nat.zero_add, Nat.reduceAdd, and_true] at hf))
  exact own_ret hO 0 rfl rfl rfl agg_end size_end rfl ⟨_, _, _, _, _, _, rfl, ⟨hO.wd 1 rfl, hO.wd 0 rfl⟩, hO.toExt⟩

set_option maxHeartbeats 2000000 in
theorem prod6_f (sg' : Int) (n : Bool) (A : Option Addr) (l c : Nat) (B : Option Addr) (k d N D : Nat) (w : World) (h1 : RatAt w A l c B k d N D) (HS : Hid (∀ w, RatAt w A l c B k d N D → Calls Try.prog 44 #[.agg #[.int .i64 0, .bool n, .slice A l c, .slice B k d]] w fun e w' => e = .returned (.int .i64 sg') ∧ Ext w w')) (h0 : (sg' == 0) = false) (hN : nw N ≤ 1073741824) (hD : nw D ≤ 1073741824) (hp : 0 < D * D) :
    Calls Try.prog 42 #[.agg #[.int .i64 0, .bool n, .slice A l c, .slice B k d], .agg #[.int .i64 0, .bool n, .slice A l c, .slice B k d]] w (RetEnd 0 false (fracN (N * N) (D * D) 0) (fracD (N * N) (D * D) 0) w) := by
  have HR := Lib.hid (fun w h => rmulq_any n n A l c B k d N D A l c B k d N D w h h hN hD hN hD hp)
  rw [show ((n != n) && decide (N * N ≠ 0)) = false by cases n <;> rfl] at HR
  generalize fracN (N * N) (D * D) 0 = N' at HR ⊢
  generalize fracD (N * N) (D * D) 0 = D' at HR ⊢
  have hO := ((Own.start w).add h1.1).add h1.2
  have hf : True := trivial
  clear h1
  clear hN hD hp
  go_enter Try.func42, Try.ntmps42
  go_wp2_with (first | ((with_reducible refine at_box ?_); refine own_box (cs := [.int .i64 0, .bool n, .slice A l c, .slice B k d]) hO rfl rfl ?_; clear hO; intro ga wa hO; clear hf; have hf := hO.cells; simp only [BC, CC, Nat.zero_add, Nat.reduceAdd, and_true] at hf) | ((with_reducible refine at_alloc ?_); refine own_alloc hO zero_end rfl rfl ?_; clear hO; intro g w1 hO; clear hf; have hf := hO.cells; simp only [BC, CC, Nat.zero_add, Nat.reduceAdd, and_true] at hf))
  refine (HS.out _ ⟨hO.wd 1 rfl, hO.wd 0 rfl⟩).mono ?_
  rintro e w2 ⟨rfl, hE1⟩
  have hO := hO.ext hE1
  clear hf
  have hf := hO.cells
  simp only [BC, CC, Nat.zero_add, Nat.reduceAdd, and_true] at hf
  clear hE1
  go_wp2_with fail
  refine (HS.out _ ⟨hO.wd 1 rfl, hO.wd 0 rfl⟩).mono ?_
  rintro e w2 ⟨rfl, hE1⟩
  have hO := hO.ext hE1
  clear hf
  have hf := hO.cells
  simp only [BC, CC, Nat.zero_add, Nat.reduceAdd, and_true] at hf
  clear hE1
  go_wp2_with fail
  refine (HR.out _ ⟨hO.wd 1 rfl, hO.wd 0 rfl⟩).mono ?_
  rintro e w2 ⟨A1, n1, c1, A2, n2, c2, rfl, hR1, hR2, hE1⟩
  have hO := ((hO.ext hE1).add hR1).add hR2
  clear hf
  have hf := hO.cells
  simp only [BC, CC, Nat.zero_add, Nat.reduceAdd, and_true] at hf
  clear hR1 hR2 hE1
  go_wp2_with (first | ((with_reducible refine at_store (T := 47) ?_); refine own_store (T := 47) hO 0 rfl rfl rfl size_end rfl rfl rfl ?_; clear hO; intro w1 hO; simp only [List.set_cons_zero, List.set_cons_succ, spl, List.take_succ_cons, List.take_zero, List.nil_append, List.cons_append, List.length_cons, List.length_nil, List.drop_succ_cons, List.drop_zero, List.drop_nil, Nat.reduceAdd, Nat.zero_add, List.append_nil] at hO; clear hf; have hf := hO.cells; simp only [BC, CC, Nat.zero_add, Nat.reduceAdd, and_true] at hf))
  exact own_ret hO 0 rfl rfl rfl agg_end size_end rfl ⟨_, _, _, _, _, _, rfl, ⟨hO.wd 1 rfl, hO.wd 0 rfl⟩, hO.toExt⟩
end Go.Proofs.Ytllfcklgljdgeaa
