/-
  The contracts of the law's step, asked and exactly. Conditions: those that each theorem names.
-/
import Derived.Test.YtmcfflecaklpcaaZ07
import Derived.Test.YtmcfflecaklpcaaZ33
import Derived.Test.YtmcfflecaklpcaaZ34
import Derived.Test.YtmcfflecaklpcaaZ43
import Derived.Test.YtmcfflecaklpcaaZ44
import Derived.Test.YtmcfflecaklpcaaZ22
namespace Go.Proofs.Ytmcfflecaklpcaa
open Go.RowKit Nm Rn
set_option maxRecDepth 100000
set_option linter.unusedVariables false
set_option linter.unusedSimpArgs false

set_option maxHeartbeats 1000000 in
theorem lstep_any (b : Nat) (w : World) (h : b < 18446744073709551616) : Calls Try.prog 68 #[.int .u64 (b : Int)] w fun e w' => e = .returned (.int .u64 (stepP b : Nat)) ∧ w = w' := by
  by_cases h1 : b = 9223372036854775809 ∨ b = 9223372036854775808
  · have e : stepP b = 0 := if_pos h1
    rw [e]
    rcases h1 with rfl | rfl
    · clear h e
      go_enter Try.func68, Try.ntmps68
      go_wp2
      go_ret
      exact ⟨rfl, rfl⟩
    · clear h e
      go_enter Try.func68, Try.ntmps68
      go_wp2
      go_ret
      exact ⟨rfl, rfl⟩
  · have n1 : ((b : Int) == 9223372036854775809) = false := by rw [beq_eq_false_iff_ne]; omega
    have n2 : ((b : Int) == 9223372036854775808) = false := by rw [beq_eq_false_iff_ne]; omega
    by_cases h2 : 9223372036854775808 < b
    · have e : stepP b = b - 1 := by unfold stepP; rw [if_neg h1, if_pos h2]
      have HF := Lib.hid (show ((b : Int) - 1) = ((b - 1 : Nat) : Int) by omega)
      rw [e]
      clear h1 e
      go_enter Try.func68, Try.ntmps68
      go_wp2
      go_ret
      exact ⟨ret_int HF.out, rfl⟩
    · have e : stepP b = b + 1 := by unfold stepP; rw [if_neg h1, if_neg h2]
      have HF := Lib.hid (show ((b : Int) + 1) = ((b + 1 : Nat) : Int) by omega)
      rw [e]
      clear h1 e
      go_enter Try.func68, Try.ntmps68
      go_wp2
      go_ret
      exact ⟨ret_int HF.out, rfl⟩

set_option maxHeartbeats 1000000 in
theorem asked_0 (d : Int) (x y z V : Nat) (w : World) (HA : Hid (∀ w, Calls Try.prog 21 #[.int .i64 d, .float .f64 x, .float .f64 y] w (RetFl V w))) :
    Calls Try.prog 23 #[.int .i64 0, .int .i64 d, .float .f64 x, .float .f64 y, .float .f64 z] w fun e w' => e = .returned (.int .u64 (V : Nat)) ∧ Ext w w' := by
  have HL := Lib.hid (fun r w h => lbits_any r w h)
  go_enter Try.func23, Try.ntmps23
  go_wp2_with fail
  refine (HA.out _).mono ?_
  rintro e w1 ⟨r, rfl, hr, hc, hE⟩
  go_wp2_with fail
  refine (HL.out r _ hr).mono ?_
  rintro e w2 ⟨rfl, rfl⟩
  rw [hc]
  clear hc hr
  go_wp2
  go_ret
  exact ⟨rfl, hE⟩

set_option maxHeartbeats 1000000 in
theorem asked_1 (d : Int) (x y z V : Nat) (w : World) (HA : Hid (∀ w, Calls Try.prog 66 #[.int .i64 d, .float .f64 x, .float .f64 y] w (RetFl V w))) :
    Calls Try.prog 23 #[.int .i64 1, .int .i64 d, .float .f64 x, .float .f64 y, .float .f64 z] w fun e w' => e = .returned (.int .u64 (V : Nat)) ∧ Ext w w' := by
  have HL := Lib.hid (fun r w h => lbits_any r w h)
  go_enter Try.func23, Try.ntmps23
  go_wp2_with fail
  refine (HA.out _).mono ?_
  rintro e w1 ⟨r, rfl, hr, hc, hE⟩
  go_wp2_with fail
  refine (HL.out r _ hr).mono ?_
  rintro e w2 ⟨rfl, rfl⟩
  rw [hc]
  clear hc hr
  go_wp2
  go_ret
  exact ⟨rfl, hE⟩

set_option maxHeartbeats 1000000 in
theorem asked_2 (d : Int) (x y z V : Nat) (w : World) (HA : Hid (∀ w, Calls Try.prog 61 #[.int .i64 d, .float .f64 x, .float .f64 y] w (RetFl V w))) :
    Calls Try.prog 23 #[.int .i64 2, .int .i64 d, .float .f64 x, .float .f64 y, .float .f64 z] w fun e w' => e = .returned (.int .u64 (V : Nat)) ∧ Ext w w' := by
  have HL := Lib.hid (fun r w h => lbits_any r w h)
  go_enter Try.func23, Try.ntmps23
  go_wp2_with fail
  refine (HA.out _).mono ?_
  rintro e w1 ⟨r, rfl, hr, hc, hE⟩
  go_wp2_with fail
  refine (HL.out r _ hr).mono ?_
  rintro e w2 ⟨rfl, rfl⟩
  rw [hc]
  clear hc hr
  go_wp2
  go_ret
  exact ⟨rfl, hE⟩

set_option maxHeartbeats 1000000 in
theorem asked_3 (d : Int) (x y z V : Nat) (w : World) (HA : Hid (∀ w, Calls Try.prog 60 #[.int .i64 d, .float .f64 x, .float .f64 y] w (RetFl V w))) :
    Calls Try.prog 23 #[.int .i64 3, .int .i64 d, .float .f64 x, .float .f64 y, .float .f64 z] w fun e w' => e = .returned (.int .u64 (V : Nat)) ∧ Ext w w' := by
  have HL := Lib.hid (fun r w h => lbits_any r w h)
  go_enter Try.func23, Try.ntmps23
  go_wp2_with fail
  refine (HA.out _).mono ?_
  rintro e w1 ⟨r, rfl, hr, hc, hE⟩
  go_wp2_with fail
  refine (HL.out r _ hr).mono ?_
  rintro e w2 ⟨rfl, rfl⟩
  rw [hc]
  clear hc hr
  go_wp2
  go_ret
  exact ⟨rfl, hE⟩

set_option maxHeartbeats 1000000 in
theorem asked_4 (d : Int) (x y z V : Nat) (w : World) (HA : Hid (∀ w, Calls Try.prog 67 #[.int .i64 d, .float .f64 x, .float .f64 y, .float .f64 z] w (RetFl V w))) :
    Calls Try.prog 23 #[.int .i64 4, .int .i64 d, .float .f64 x, .float .f64 y, .float .f64 z] w fun e w' => e = .returned (.int .u64 (V : Nat)) ∧ Ext w w' := by
  have HL := Lib.hid (fun r w h => lbits_any r w h)
  go_enter Try.func23, Try.ntmps23
  go_wp2_with fail
  refine (HA.out _).mono ?_
  rintro e w1 ⟨r, rfl, hr, hc, hE⟩
  go_wp2_with fail
  refine (HL.out r _ hr).mono ?_
  rintro e w2 ⟨rfl, rfl⟩
  rw [hc]
  clear hc hr
  go_wp2
  go_ret
  exact ⟨rfl, hE⟩

set_option maxHeartbeats 2000000 in
theorem exactly_0 (s1 : Bool) (A1 : Option Addr) (l1 c1 : Nat) (B1 : Option Addr) (k1 d1 N1 D1 : Nat) (s2 : Bool) (A2 : Option Addr) (l2 c2 : Nat) (B2 : Option Addr) (k2 d2 N2 D2 : Nat) (s3 : Bool) (A3 : Option Addr) (l3 c3 : Nat) (B3 : Option Addr) (k3 d3 N3 D3 : Nat) (s : Bool) (N D : Nat) (w : World) (h1 : RatAt w A1 l1 c1 B1 k1 d1 N1 D1) (h2 : RatAt w A2 l2 c2 B2 k2 d2 N2 D2) (h3 : RatAt w A3 l3 c3 B3 k3 d3 N3 D3)
    (HX : Hid (∀ w, RatAt w A1 l1 c1 B1 k1 d1 N1 D1 → RatAt w A2 l2 c2 B2 k2 d2 N2 D2 → Calls Try.prog 70 #[.agg #[.bool s1, .slice A1 l1 c1, .slice B1 k1 d1], .agg #[.bool s2, .slice A2 l2 c2, .slice B2 k2 d2]] w (RetR s N D w))) :
    Calls Try.prog 25 #[.int .i64 0, .agg #[.bool s1, .slice A1 l1 c1, .slice B1 k1 d1], .agg #[.bool s2, .slice A2 l2 c2, .slice B2 k2 d2], .agg #[.bool s3, .slice A3 l3 c3, .slice B3 k3 d3]] w (RetR s N D w) := by
  have hO := ((((((Own.start w).add h1.1).add h1.2).add h2.1).add h2.2).add h3.1).add h3.2
  have hf : True := trivial
  clear h1 h2 h3
  go_enter Try.func25, Try.ntmps25
  go_wp2_with (first | ((with_reducible refine at_box ?_); refine own_box (cs := [.bool s1, .slice A1 l1 c1, .slice B1 k1 d1]) hO rfl rfl ?_; clear hO; intro g1 wa hO; clear hf; have hf := hO.cells; simp only [BC, CC, Nat.zero_add, Nat.reduceAdd, and_true] at hf) | ((with_reducible refine at_box ?_); refine own_box (cs := [.bool s2, .slice A2 l2 c2, .slice B2 k2 d2]) hO rfl rfl ?_; clear hO; intro g2 wb hO; clear hf; have hf := hO.cells; simp only [BC, CC, Nat.zero_add, Nat.reduceAdd, and_true] at hf) | ((with_reducible refine at_box ?_); refine own_box (cs := [.bool s3, .slice A3 l3 c3, .slice B3 k3 d3]) hO rfl rfl ?_; clear hO; intro g3 wc hO; clear hf; have hf := hO.cells; simp only [BC, CC, Nat.zero_add, Nat.reduceAdd, and_true] at hf) | ((with_reducible refine at_alloc ?_); refine own_alloc hO zero_rat rfl rfl ?_; clear hO; intro g w1 hO; clear hf; have hf := hO.cells; simp only [BC, CC, Nat.zero_add, Nat.reduceAdd, and_true] at hf))
  refine (HX.out _ ⟨hO.wd 5 rfl, hO.wd 4 rfl⟩ ⟨hO.wd 3 rfl, hO.wd 2 rfl⟩).mono ?_
  rintro e w2 ⟨A4, n4, c4, A5, n5, c5, rfl, hW1, hW2, hE1⟩
  have hO := ((hO.ext hE1).add hW1).add hW2
  clear hf hW1 hW2 hE1
  go_wp2_with ((with_reducible refine at_store (T := 35) ?_); refine own_store (T := 35) hO 0 rfl rfl rfl size_rat rfl rfl rfl ?_; clear hO; intro w1 hO)
  exact own_ret hO 0 rfl rfl rfl agg_rat size_rat rfl ⟨_, _, _, _, _, _, rfl, hO.wd 1 rfl, hO.wd 0 rfl, hO.toExt⟩

set_option maxHeartbeats 2000000 in
theorem exactly_1 (s1 : Bool) (A1 : Option Addr) (l1 c1 : Nat) (B1 : Option Addr) (k1 d1 N1 D1 : Nat) (s2 : Bool) (A2 : Option Addr) (l2 c2 : Nat) (B2 : Option Addr) (k2 d2 N2 D2 : Nat) (s3 : Bool) (A3 : Option Addr) (l3 c3 : Nat) (B3 : Option Addr) (k3 d3 N3 D3 : Nat) (s : Bool) (N D : Nat) (w : World) (h1 : RatAt w A1 l1 c1 B1 k1 d1 N1 D1) (h2 : RatAt w A2 l2 c2 B2 k2 d2 N2 D2) (h3 : RatAt w A3 l3 c3 B3 k3 d3 N3 D3)
    (HX : Hid (∀ w, RatAt w A1 l1 c1 B1 k1 d1 N1 D1 → RatAt w A2 l2 c2 B2 k2 d2 N2 D2 → Calls Try.prog 69 #[.agg #[.bool s1, .slice A1 l1 c1, .slice B1 k1 d1], .agg #[.bool s2, .slice A2 l2 c2, .slice B2 k2 d2]] w (RetR s N D w))) :
    Calls Try.prog 25 #[.int .i64 1, .agg #[.bool s1, .slice A1 l1 c1, .slice B1 k1 d1], .agg #[.bool s2, .slice A2 l2 c2, .slice B2 k2 d2], .agg #[.bool s3, .slice A3 l3 c3, .slice B3 k3 d3]] w (RetR s N D w) := by
  have hO := ((((((Own.start w).add h1.1).add h1.2).add h2.1).add h2.2).add h3.1).add h3.2
  have hf : True := trivial
  clear h1 h2 h3
  go_enter Try.func25, Try.ntmps25
  go_wp2_with (first | ((with_reducible refine at_box ?_); refine own_box (cs := [.bool s1, .slice A1 l1 c1, .slice B1 k1 d1]) hO rfl rfl ?_; clear hO; intro g1 wa hO; clear hf; have hf := hO.cells; simp only [BC, CC, Nat.zero_add, Nat.reduceAdd, and_true] at hf) | ((with_reducible refine at_box ?_); refine own_box (cs := [.bool s2, .slice A2 l2 c2, .slice B2 k2 d2]) hO rfl rfl ?_; clear hO; intro g2 wb hO; clear hf; have hf := hO.cells; simp only [BC, CC, Nat.zero_add, Nat.reduceAdd, and_true] at hf) | ((with_reducible refine at_box ?_); refine own_box (cs := [.bool s3, .slice A3 l3 c3, .slice B3 k3 d3]) hO rfl rfl ?_; clear hO; intro g3 wc hO; clear hf; have hf := hO.cells; simp only [BC, CC, Nat.zero_add, Nat.reduceAdd, and_true] at hf) | ((with_reducible refine at_alloc ?_); refine own_alloc hO zero_rat rfl rfl ?_; clear hO; intro g w1 hO; clear hf; have hf := hO.cells; simp only [BC, CC, Nat.zero_add, Nat.reduceAdd, and_true] at hf))
  refine (HX.out _ ⟨hO.wd 5 rfl, hO.wd 4 rfl⟩ ⟨hO.wd 3 rfl, hO.wd 2 rfl⟩).mono ?_
  rintro e w2 ⟨A4, n4, c4, A5, n5, c5, rfl, hW1, hW2, hE1⟩
  have hO := ((hO.ext hE1).add hW1).add hW2
  clear hf hW1 hW2 hE1
  go_wp2_with ((with_reducible refine at_store (T := 35) ?_); refine own_store (T := 35) hO 0 rfl rfl rfl size_rat rfl rfl rfl ?_; clear hO; intro w1 hO)
  exact own_ret hO 0 rfl rfl rfl agg_rat size_rat rfl ⟨_, _, _, _, _, _, rfl, hO.wd 1 rfl, hO.wd 0 rfl, hO.toExt⟩

set_option maxHeartbeats 2000000 in
theorem exactly_2 (s1 : Bool) (A1 : Option Addr) (l1 c1 : Nat) (B1 : Option Addr) (k1 d1 N1 D1 : Nat) (s2 : Bool) (A2 : Option Addr) (l2 c2 : Nat) (B2 : Option Addr) (k2 d2 N2 D2 : Nat) (s3 : Bool) (A3 : Option Addr) (l3 c3 : Nat) (B3 : Option Addr) (k3 d3 N3 D3 : Nat) (s : Bool) (N D : Nat) (w : World) (h1 : RatAt w A1 l1 c1 B1 k1 d1 N1 D1) (h2 : RatAt w A2 l2 c2 B2 k2 d2 N2 D2) (h3 : RatAt w A3 l3 c3 B3 k3 d3 N3 D3)
    (HX : Hid (∀ w, RatAt w A1 l1 c1 B1 k1 d1 N1 D1 → RatAt w A2 l2 c2 B2 k2 d2 N2 D2 → Calls Try.prog 33 #[.agg #[.bool s1, .slice A1 l1 c1, .slice B1 k1 d1], .agg #[.bool s2, .slice A2 l2 c2, .slice B2 k2 d2]] w (RetR s N D w))) :
    Calls Try.prog 25 #[.int .i64 2, .agg #[.bool s1, .slice A1 l1 c1, .slice B1 k1 d1], .agg #[.bool s2, .slice A2 l2 c2, .slice B2 k2 d2], .agg #[.bool s3, .slice A3 l3 c3, .slice B3 k3 d3]] w (RetR s N D w) := by
  have hO := ((((((Own.start w).add h1.1).add h1.2).add h2.1).add h2.2).add h3.1).add h3.2
  have hf : True := trivial
  clear h1 h2 h3
  go_enter Try.func25, Try.ntmps25
  go_wp2_with (first | ((with_reducible refine at_box ?_); refine own_box (cs := [.bool s1, .slice A1 l1 c1, .slice B1 k1 d1]) hO rfl rfl ?_; clear hO; intro g1 wa hO; clear hf; have hf := hO.cells; simp only [BC, CC, Nat.zero_add, Nat.reduceAdd, and_true] at hf) | ((with_reducible refine at_box ?_); refine own_box (cs := [.bool s2, .slice A2 l2 c2, .slice B2 k2 d2]) hO rfl rfl ?_; clear hO; intro g2 wb hO; clear hf; have hf := hO.cells; simp only [BC, CC, Nat.zero_add, Nat.reduceAdd, and_true] at hf) | ((with_reducible refine at_box ?_); refine own_box (cs := [.bool s3, .slice A3 l3 c3, .slice B3 k3 d3]) hO rfl rfl ?_; clear hO; intro g3 wc hO; clear hf; have hf := hO.cells; simp only [BC, CC, Nat.zero_add, Nat.reduceAdd, and_true] at hf) | ((with_reducible refine at_alloc ?_); refine own_alloc hO zero_rat rfl rfl ?_; clear hO; intro g w1 hO; clear hf; have hf := hO.cells; simp only [BC, CC, Nat.zero_add, Nat.reduceAdd, and_true] at hf))
  refine (HX.out _ ⟨hO.wd 5 rfl, hO.wd 4 rfl⟩ ⟨hO.wd 3 rfl, hO.wd 2 rfl⟩).mono ?_
  rintro e w2 ⟨A4, n4, c4, A5, n5, c5, rfl, hW1, hW2, hE1⟩
  have hO := ((hO.ext hE1).add hW1).add hW2
  clear hf hW1 hW2 hE1
  go_wp2_with ((with_reducible refine at_store (T := 35) ?_); refine own_store (T := 35) hO 0 rfl rfl rfl size_rat rfl rfl rfl ?_; clear hO; intro w1 hO)
  exact own_ret hO 0 rfl rfl rfl agg_rat size_rat rfl ⟨_, _, _, _, _, _, rfl, hO.wd 1 rfl, hO.wd 0 rfl, hO.toExt⟩

set_option maxHeartbeats 2000000 in
theorem exactly_3 (s1 : Bool) (A1 : Option Addr) (l1 c1 : Nat) (B1 : Option Addr) (k1 d1 N1 D1 : Nat) (s2 : Bool) (A2 : Option Addr) (l2 c2 : Nat) (B2 : Option Addr) (k2 d2 N2 D2 : Nat) (s3 : Bool) (A3 : Option Addr) (l3 c3 : Nat) (B3 : Option Addr) (k3 d3 N3 D3 : Nat) (s : Bool) (N D : Nat) (w : World) (h1 : RatAt w A1 l1 c1 B1 k1 d1 N1 D1) (h2 : RatAt w A2 l2 c2 B2 k2 d2 N2 D2) (h3 : RatAt w A3 l3 c3 B3 k3 d3 N3 D3)
    (HX : Hid (∀ w, RatAt w A1 l1 c1 B1 k1 d1 N1 D1 → RatAt w A2 l2 c2 B2 k2 d2 N2 D2 → Calls Try.prog 71 #[.agg #[.bool s1, .slice A1 l1 c1, .slice B1 k1 d1], .agg #[.bool s2, .slice A2 l2 c2, .slice B2 k2 d2]] w (RetR s N D w))) :
    Calls Try.prog 25 #[.int .i64 3, .agg #[.bool s1, .slice A1 l1 c1, .slice B1 k1 d1], .agg #[.bool s2, .slice A2 l2 c2, .slice B2 k2 d2], .agg #[.bool s3, .slice A3 l3 c3, .slice B3 k3 d3]] w (RetR s N D w) := by
  have hO := ((((((Own.start w).add h1.1).add h1.2).add h2.1).add h2.2).add h3.1).add h3.2
  have hf : True := trivial
  clear h1 h2 h3
  go_enter Try.func25, Try.ntmps25
  go_wp2_with (first | ((with_reducible refine at_box ?_); refine own_box (cs := [.bool s1, .slice A1 l1 c1, .slice B1 k1 d1]) hO rfl rfl ?_; clear hO; intro g1 wa hO; clear hf; have hf := hO.cells; simp only [BC, CC, Nat.zero_add, Nat.reduceAdd, and_true] at hf) | ((with_reducible refine at_box ?_); refine own_box (cs := [.bool s2, .slice A2 l2 c2, .slice B2 k2 d2]) hO rfl rfl ?_; clear hO; intro g2 wb hO; clear hf; have hf := hO.cells; simp only [BC, CC, Nat.zero_add, Nat.reduceAdd, and_true] at hf) | ((with_reducible refine at_box ?_); refine own_box (cs := [.bool s3, .slice A3 l3 c3, .slice B3 k3 d3]) hO rfl rfl ?_; clear hO; intro g3 wc hO; clear hf; have hf := hO.cells; simp only [BC, CC, Nat.zero_add, Nat.reduceAdd, and_true] at hf) | ((with_reducible refine at_alloc ?_); refine own_alloc hO zero_rat rfl rfl ?_; clear hO; intro g w1 hO; clear hf; have hf := hO.cells; simp only [BC, CC, Nat.zero_add, Nat.reduceAdd, and_true] at hf))
  refine (HX.out _ ⟨hO.wd 5 rfl, hO.wd 4 rfl⟩ ⟨hO.wd 3 rfl, hO.wd 2 rfl⟩).mono ?_
  rintro e w2 ⟨A4, n4, c4, A5, n5, c5, rfl, hW1, hW2, hE1⟩
  have hO := ((hO.ext hE1).add hW1).add hW2
  clear hf hW1 hW2 hE1
  go_wp2_with ((with_reducible refine at_store (T := 35) ?_); refine own_store (T := 35) hO 0 rfl rfl rfl size_rat rfl rfl rfl ?_; clear hO; intro w1 hO)
  exact own_ret hO 0 rfl rfl rfl agg_rat size_rat rfl ⟨_, _, _, _, _, _, rfl, hO.wd 1 rfl, hO.wd 0 rfl, hO.toExt⟩

set_option maxHeartbeats 2000000 in
theorem exactly_4 (s1 : Bool) (A1 : Option Addr) (l1 c1 : Nat) (B1 : Option Addr) (k1 d1 N1 D1 : Nat) (s2 : Bool) (A2 : Option Addr) (l2 c2 : Nat) (B2 : Option Addr) (k2 d2 N2 D2 : Nat) (s3 : Bool) (A3 : Option Addr) (l3 c3 : Nat) (B3 : Option Addr) (k3 d3 N3 D3 : Nat) (s : Bool) (N D : Nat) (w : World) (h1 : RatAt w A1 l1 c1 B1 k1 d1 N1 D1) (h2 : RatAt w A2 l2 c2 B2 k2 d2 N2 D2) (h3 : RatAt w A3 l3 c3 B3 k3 d3 N3 D3)
    (p : Bool) (PN PD : Nat) (HM : Hid (∀ w, RatAt w A1 l1 c1 B1 k1 d1 N1 D1 → RatAt w A2 l2 c2 B2 k2 d2 N2 D2 → Calls Try.prog 33 #[.agg #[.bool s1, .slice A1 l1 c1, .slice B1 k1 d1], .agg #[.bool s2, .slice A2 l2 c2, .slice B2 k2 d2]] w (RetR p PN PD w)))
    (HX : Hid (∀ (A : Option Addr) (l c : Nat) (B : Option Addr) (k d : Nat) w, RatAt w A l c B k d PN PD → RatAt w A3 l3 c3 B3 k3 d3 N3 D3 → Calls Try.prog 70 #[.agg #[.bool p, .slice A l c, .slice B k d], .agg #[.bool s3, .slice A3 l3 c3, .slice B3 k3 d3]] w (RetR s N D w))) :
    Calls Try.prog 25 #[.int .i64 4, .agg #[.bool s1, .slice A1 l1 c1, .slice B1 k1 d1], .agg #[.bool s2, .slice A2 l2 c2, .slice B2 k2 d2], .agg #[.bool s3, .slice A3 l3 c3, .slice B3 k3 d3]] w (RetR s N D w) := by
  have hO := ((((((Own.start w).add h1.1).add h1.2).add h2.1).add h2.2).add h3.1).add h3.2
  have hf : True := trivial
  clear h1 h2 h3
  go_enter Try.func25, Try.ntmps25
  go_wp2_with (first | ((with_reducible refine at_box ?_); refine own_box (cs := [.bool s1, .slice A1 l1 c1, .slice B1 k1 d1]) hO rfl rfl ?_; clear hO; intro g1 wa hO; clear hf; have hf := hO.cells; simp only [BC, CC, Nat.zero_add, Nat.reduceAdd, and_true] at hf) | ((with_reducible refine at_box ?_); refine own_box (cs := [.bool s2, .slice A2 l2 c2, .slice B2 k2 d2]) hO rfl rfl ?_; clear hO; intro g2 wb hO; clear hf; have hf := hO.cells; simp only [BC, CC, Nat.zero_add, Nat.reduceAdd, and_true] at hf) | ((with_reducible refine at_box ?_); refine own_box (cs := [.bool s3, .slice A3 l3 c3, .slice B3 k3 d3]) hO rfl rfl ?_; clear hO; intro g3 wc hO; clear hf; have hf := hO.cells; simp only [BC, CC, Nat.zero_add, Nat.reduceAdd, and_true] at hf) | ((with_reducible refine at_alloc ?_); refine own_alloc hO zero_rat rfl rfl ?_; clear hO; intro g w1 hO; clear hf; have hf := hO.cells; simp only [BC, CC, Nat.zero_add, Nat.reduceAdd, and_true] at hf))
  obtain ⟨S, hS⟩ : ∃ S : World → Prop, S = Own w [⟨g, 35, [.bool false, .slice none 0 0, .slice none 0 0]⟩, ⟨g3, 35, [.bool s3, .slice A3 l3 c3, .slice B3 k3 d3]⟩, ⟨g2, 35, [.bool s2, .slice A2 l2 c2, .slice B2 k2 d2]⟩, ⟨g1, 35, [.bool s1, .slice A1 l1 c1, .slice B1 k1 d1]⟩] [⟨B3, k3, d3, nd D3⟩, ⟨A3, l3, c3, nd N3⟩, ⟨B2, k2, d2, nd D2⟩, ⟨A2, l2, c2, nd N2⟩, ⟨B1, k1, d1, nd D1⟩, ⟨A1, l1, c1, nd N1⟩] := ⟨_, rfl⟩
  have hSE : ∀ w w', S w → Ext w w' → S w' := fun w w' h1 h2 => by rw [hS] at h1 ⊢; exact h1.ext h2
  have hS1 : S w1.drew := by rw [hS]; exact hO.ext (Ext.refl w1).drew
  have HS := Lib.hid hS
  clear hS hO hf
  obtain ⟨sp, hsp⟩ : ∃ sp : Nat → Sp, sp = ofList [det (.agg #[.bool s1, .slice A1 l1 c1, .slice B1 k1 d1]), det (.agg #[.bool s2, .slice A2 l2 c2, .slice B2 k2 d2]),
    anyOf (fun v wz => ∃ A1 n1 c1 A2 n2 c2, v = .agg #[.bool p, .slice A1 n1 c1, .slice A2 n2 c2] ∧ RatAt wz A1 n1 c1 A2 n2 c2 PN PD), det (.agg #[.bool s3, .slice A3 l3 c3, .slice B3 k3 d3]),
    anyOf (fun v wz => ∃ A1 n1 c1 A2 n2 c2, v = .agg #[.bool s, .slice A1 n1 c1, .slice A2 n2 c2] ∧ RatAt wz A1 n1 c1 A2 n2 c2 N D)] := ⟨_, rfl⟩
  have HSP := Lib.hid hsp
  clear hsp
  refine wp_region_loose 5 S sp (by kernel_rfl) (by kernel_rfl) hS1 hSE ?_
  simp only [List.take_succ_cons, List.take_zero, List.drop_succ_cons, List.drop_zero]
  refine wpX_step (fun K hK => ?_)
  go_simp
  refine StepY.det (by rw [HSP.out]; rfl) ?_ ?_
  · intro wz hz hF
    rw [HS.out] at hz
    have hf := hz.facts
    simp only [BF, CF, Nat.zero_add, Nat.reduceAdd, and_true] at hf
    clear hz hF
    go_simp
    exact ⟨rfl, Ext.refl _⟩
  refine hK _ _ ?_
  clear hK K
  refine wpX_step (fun K hK => ?_)
  go_simp
  refine StepY.det (by rw [HSP.out]; rfl) ?_ ?_
  · intro wz hz hF
    rw [HS.out] at hz
    have hf := hz.facts
    simp only [BF, CF, Nat.zero_add, Nat.reduceAdd, and_true] at hf
    clear hz hF
    go_simp
    exact ⟨rfl, Ext.refl _⟩
  refine hK _ _ ?_
  clear hK K
  refine wpX_step (fun K hK => ?_)
  go_simp
  refine StepY.any (by rw [HSP.out]; rfl) ?_ ?_
  · intro wz hz hF
    rw [HS.out] at hz
    have h1 := hz.wd 5 rfl
    have h2 := hz.wd 4 rfl
    have h3 := hz.wd 3 rfl
    have h4 := hz.wd 2 rfl
    clear hz hF
    go_simp
    go_at_call 33
    refine (HM.out _ ⟨h1, h2⟩ ⟨h3, h4⟩).mono ?_
    rintro e w2 ⟨A3, n3, c3, A4, n4, c4, rfl, hW1, hW2, hE1⟩
    exact ⟨_, rfl, ⟨A3, n3, c3, A4, n4, c4, rfl, hW1, hW2⟩, hE1⟩
  intro v
  refine hK _ _ ?_
  clear hK K
  refine wpX_step (fun K hK => ?_)
  go_simp
  refine StepY.det (by rw [HSP.out]; rfl) ?_ ?_
  · intro wz hz hF
    rw [HS.out] at hz
    have hf := hz.facts
    simp only [BF, CF, Nat.zero_add, Nat.reduceAdd, and_true] at hf
    clear hz hF
    go_simp
    exact ⟨rfl, Ext.refl _⟩
  refine hK _ _ ?_
  clear hK K
  refine wpX_step (fun K hK => ?_)
  go_simp
  refine StepY.any (by rw [HSP.out]; rfl) ?_ ?_
  · intro wz hz hF
    rw [HS.out] at hz
    have h1 := hz.wd 1 rfl
    have h2 := hz.wd 0 rfl
    clear hz
    obtain ⟨wb', eb, A2, n2, c2, B2, k2, d2, hv2, hw2⟩ := hF.any 2 (by kernel_rfl) (by rw [HSP.out]; rfl)
    clear hF
    simp only [asFun, List.nil_append, List.cons_append, List.getD_cons_succ, List.getD_cons_zero] at hv2
    subst hv2
    go_simp
    go_at_call 70
    refine (HX.out _ _ _ _ _ _ _ (hw2.ext eb) ⟨h1, h2⟩).mono ?_
    rintro e w2 ⟨A3, n3, c3, A4, n4, c4, rfl, hW1, hW2, hE1⟩
    exact ⟨_, rfl, ⟨A3, n3, c3, A4, n4, c4, rfl, hW1, hW2⟩, hE1⟩
  intro v
  refine hK _ _ ?_
  clear hK K
  refine wpX_nil ?_
  intro w3 hz hF
  obtain ⟨w0, e0, A4, n4, c4, A5, n5, c5, hv, hw0⟩ := fact_any (hF 4 (by omega)) (by rw [HSP.out]; rfl)
  clear hF
  simp only [asFun, List.nil_append, List.cons_append, List.getD_cons_succ, List.getD_cons_zero] at hv
  subst hv
  rw [HS.out] at hz
  have hO := (hz.add (hw0.ext e0).1).add (hw0.ext e0).2
  clear hz hw0 e0
  go_wp2_with ((with_reducible refine at_store (T := 35) ?_); refine own_store (T := 35) hO 0 rfl rfl rfl size_rat rfl rfl rfl ?_; clear hO; intro w1 hO)
  exact own_ret hO 0 rfl rfl rfl agg_rat size_rat rfl ⟨_, _, _, _, _, _, rfl, hO.wd 1 rfl, hO.wd 0 rfl, hO.toExt⟩

end Go.Proofs.Ytmcfflecaklpcaa
