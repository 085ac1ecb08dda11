/-
  The contract of the document's Holds: does an interval hold a ratio? Conditions: those that each theorem names.
-/
import Derived.Test.YtmcfflecaklpcaaY21
import Derived.Test.YtmcfflecaklpcaaY12
import Derived.Test.YtmcfflecaklpcaaY20
namespace Go.Proofs.Ytmcfflecaklpcaa
open Go.RowKit Nm Rn
set_option maxRecDepth 100000
set_option linter.unusedVariables false
set_option linter.unusedSimpArgs false

theorem zero_seth (w : World) : (zeroValue 98).run Try.prog w = .ok (.agg #[.bool false, .int .i64 0, .bool false, .slice none 0 0, .slice none 0 0, .int .i64 0, .bool false, .slice none 0 0, .slice none 0 0]) w := by kernel_rfl
theorem size_seth (w : World) : (sizeOf 98).run Try.prog w = .ok 9 w := by kernel_rfl
theorem zero_endh (w : World) : (zeroValue 96).run Try.prog w = .ok (.agg #[.int .i64 0, .bool false, .slice none 0 0, .slice none 0 0]) w := by kernel_rfl
theorem size_endh (w : World) : (sizeOf 96).run Try.prog w = .ok 4 w := by kernel_rfl

/-- Is the lower end not above the ratio; is the upper one not below it? -/
def hlL (a : Nat) (s : Bool) (N D : Nat) : Bool := decide (eC (bI a) (bNeg a) (bN a) (bD a) 0 s N D ≤ 0)
def hlH (b : Nat) (s : Bool) (N D : Nat) : Bool := decide (eC 0 s N D (bI b) (bNeg b) (bN b) (bD b) ≤ 0)
/-- What Holds answers. -/
def hldB (lo hi : Nat) (s : Bool) (N D : Nat) : Bool := if emp lo hi then false else hlL (rdLo lo hi) s N D && hlH (rdHi lo hi) s N D
instance (lo hi : Nat) : Decidable (emp lo hi) := by unfold emp; infer_instance

theorem bD_nz (x : Nat) : bD x ≠ 0 := by
  unfold bD
  split
  · exact Nat.ne_of_gt (fracD_pos _ (by omega))
  · split
    · exact Nat.ne_of_gt (fracD_pos _ (by omega))
    · exact Nat.ne_of_gt (fbD_pos x)
theorem b_nwh (x : Nat) : nw (bN x) ≤ 1073741824 ∧ nw (bD x) ≤ 1073741824 := by
  have h1 := fbN_bits x
  have h2 := fbD_bits x
  have h3 : nw (fracN 0 1 0) ≤ 1073741824 := by decide
  have h4 : nw (fracD 0 1 0) ≤ 1073741824 := by decide
  unfold bN bD
  constructor
  · split
    · exact h3
    · split
      · exact h3
      · omega
  · split
    · exact h4
    · split
      · exact h4
      · omega

set_option maxHeartbeats 4000000 in
theorem holds_n (lo hi : Nat) (s : Bool) (A : Option Addr) (l c : Nat) (B : Option Addr) (k d N D : Nat) (w : World) (h : RatAt w A l c B k d N D)
    (i1 : Int) (s1 : Bool) (N1 D1 : Nat) (i2 : Int) (s2 : Bool) (N2 D2 : Nat) (HOF : Hid (∀ w, Calls Try.prog 80 #[.agg #[.int .u64 (lo : Int), .int .u64 (hi : Int)]] w (RetSet true i1 s1 N1 D1 i2 s2 N2 D2 w))) :
    Calls Try.prog 32 #[.agg #[.int .u64 (lo : Int), .int .u64 (hi : Int)], .agg #[.bool s, .slice A l c, .slice B k d]] w fun e w' => e = .returned (.bool false) ∧ Ext w w' := by
  have hO := ((Own.start w).add h.1).add h.2
  have hf : True := trivial
  clear h
  go_enter Try.func32, Try.ntmps32
  go_wp2_with (first | ((with_reducible refine at_box ?_); refine own_box (cs := [.int .u64 (lo : Int), .int .u64 (hi : Int)]) hO rfl rfl ?_; clear hO; intro ga wa hO; clear hf; have hf := hO.cells; simp only [BC, CC, Nat.zero_add, Nat.reduceAdd, and_true] at hf) | ((with_reducible refine at_box ?_); refine own_box (cs := [.bool s, .slice A l c, .slice B k d]) hO rfl rfl ?_; clear hO; intro gb wb hO; clear hf; have hf := hO.cells; simp only [BC, CC, Nat.zero_add, Nat.reduceAdd, and_true] at hf))
  refine (HOF.out _).mono ?_
  rintro e w2 ⟨A1, l1, c1, B1, k1, d1, A2, l2, c2, B2, k2, d2, rfl, hW1, hW2, hE1⟩
  have hO := ((((hO.ext hE1).add hW1.1).add hW1.2).add hW2.1).add hW2.2
  clear hW1 hW2 hE1
  clear hf
  have hf := hO.cells
  simp only [BC, CC, Nat.zero_add, Nat.reduceAdd, and_true] at hf
  go_wp2_with (first | ((with_reducible refine at_alloc ?_); refine own_alloc hO zero_seth rfl rfl ?_; clear hO; intro gs w3 hO; clear hf; have hf := hO.cells; simp only [BC, CC, Nat.zero_add, Nat.reduceAdd, and_true] at hf) | ((with_reducible refine at_store (T := 98) ?_); refine own_store (T := 98) hO 0 rfl rfl rfl size_seth rfl rfl rfl ?_; clear hO; intro w4 hO; simp only [List.set_cons_zero, List.set_cons_succ, spl, List.take_succ_cons, List.take_zero, List.nil_append, List.cons_append, List.length_cons, List.length_nil, List.drop_succ_cons, List.drop_zero, List.drop_nil, Nat.reduceAdd, Nat.zero_add, List.append_nil] at hO; clear hf; have hf := hO.cells; simp only [BC, CC, Nat.zero_add, Nat.reduceAdd, and_true] at hf) | ((with_reducible refine at_alloc ?_); refine own_alloc hO zero_endh rfl rfl ?_; clear hO; intro ge w5 hO; clear hf; have hf := hO.cells; simp only [BC, CC, Nat.zero_add, Nat.reduceAdd, and_true] at hf) | ((with_reducible refine at_store (T := 96) ?_); refine own_store (T := 96) hO 0 rfl rfl rfl size_endh rfl rfl rfl ?_; clear hO; intro w6 hO; simp only [List.set_cons_zero, List.set_cons_succ, spl, List.take_succ_cons, List.take_zero, List.nil_append, List.cons_append, List.length_cons, List.length_nil, List.drop_succ_cons, List.drop_zero, List.drop_nil, Nat.reduceAdd, Nat.zero_add, List.append_nil] at hO; clear hf; have hf := hO.cells; simp only [BC, CC, Nat.zero_add, Nat.reduceAdd, and_true] at hf))
  go_ret
  exact ⟨by first | rfl | simp, hO.toExt⟩

set_option maxHeartbeats 4000000 in
theorem holds_1 (lo hi : Nat) (s : Bool) (A : Option Addr) (l c : Nat) (B : Option Addr) (k d N D : Nat) (w : World) (h : RatAt w A l c B k d N D)
    (i1 : Int) (s1 : Bool) (N1 D1 : Nat) (i2 : Int) (s2 : Bool) (N2 D2 : Nat) (v1 v2 : Int) (hv1 : decide (v1 ≤ 0) = false) (HOF : Hid (∀ w, Calls Try.prog 80 #[.agg #[.int .u64 (lo : Int), .int .u64 (hi : Int)]] w (RetSet false i1 s1 N1 D1 i2 s2 N2 D2 w)))
    (HC1 : Hid (∀ (A1 : Option Addr) (l1 c1 : Nat) (B1 : Option Addr) (k1 d1 : Nat) (w : World), RatAt w A1 l1 c1 B1 k1 d1 N1 D1 → RatAt w A l c B k d N D → Calls Try.prog 81 #[.agg #[.int .i64 i1, .bool s1, .slice A1 l1 c1, .slice B1 k1 d1], .agg #[.int .i64 0, .bool s, .slice A l c, .slice B k d]] w fun e w' => e = .returned (.int .i64 v1) ∧ Ext w w'))
    (HC2 : Hid (∀ (A1 : Option Addr) (l1 c1 : Nat) (B1 : Option Addr) (k1 d1 : Nat) (w : World), RatAt w A l c B k d N D → RatAt w A1 l1 c1 B1 k1 d1 N2 D2 → Calls Try.prog 81 #[.agg #[.int .i64 0, .bool s, .slice A l c, .slice B k d], .agg #[.int .i64 i2, .bool s2, .slice A1 l1 c1, .slice B1 k1 d1]] w fun e w' => e = .returned (.int .i64 v2) ∧ Ext w w')) :
    Calls Try.prog 32 #[.agg #[.int .u64 (lo : Int), .int .u64 (hi : Int)], .agg #[.bool s, .slice A l c, .slice B k d]] w fun e w' => e = .returned (.bool false) ∧ Ext w w' := by
  have hO := ((Own.start w).add h.1).add h.2
  have hf : True := trivial
  clear h
  go_enter Try.func32, Try.ntmps32
  go_wp2_with (first | ((with_reducible refine at_box ?_); refine own_box (cs := [.int .u64 (lo : Int), .int .u64 (hi : Int)]) hO rfl rfl ?_; clear hO; intro ga wa hO; clear hf; have hf := hO.cells; simp only [BC, CC, Nat.zero_add, Nat.reduceAdd, and_true] at hf) | ((with_reducible refine at_box ?_); refine own_box (cs := [.bool s, .slice A l c, .slice B k d]) hO rfl rfl ?_; clear hO; intro gb wb hO; clear hf; have hf := hO.cells; simp only [BC, CC, Nat.zero_add, Nat.reduceAdd, and_true] at hf))
  refine (HOF.out _).mono ?_
  rintro e w2 ⟨A1, l1, c1, B1, k1, d1, A2, l2, c2, B2, k2, d2, rfl, hW1, hW2, hE1⟩
  have hO := ((((hO.ext hE1).add hW1.1).add hW1.2).add hW2.1).add hW2.2
  clear hW1 hW2 hE1
  clear hf
  have hf := hO.cells
  simp only [BC, CC, Nat.zero_add, Nat.reduceAdd, and_true] at hf
  go_wp2_with (first | ((with_reducible refine at_alloc ?_); refine own_alloc hO zero_seth rfl rfl ?_; clear hO; intro gs w3 hO; clear hf; have hf := hO.cells; simp only [BC, CC, Nat.zero_add, Nat.reduceAdd, and_true] at hf) | ((with_reducible refine at_store (T := 98) ?_); refine own_store (T := 98) hO 0 rfl rfl rfl size_seth rfl rfl rfl ?_; clear hO; intro w4 hO; simp only [List.set_cons_zero, List.set_cons_succ, spl, List.take_succ_cons, List.take_zero, List.nil_append, List.cons_append, List.length_cons, List.length_nil, List.drop_succ_cons, List.drop_zero, List.drop_nil, Nat.reduceAdd, Nat.zero_add, List.append_nil] at hO; clear hf; have hf := hO.cells; simp only [BC, CC, Nat.zero_add, Nat.reduceAdd, and_true] at hf) | ((with_reducible refine at_alloc ?_); refine own_alloc hO zero_endh rfl rfl ?_; clear hO; intro ge w5 hO; clear hf; have hf := hO.cells; simp only [BC, CC, Nat.zero_add, Nat.reduceAdd, and_true] at hf) | ((with_reducible refine at_store (T := 96) ?_); refine own_store (T := 96) hO 0 rfl rfl rfl size_endh rfl rfl rfl ?_; clear hO; intro w6 hO; simp only [List.set_cons_zero, List.set_cons_succ, spl, List.take_succ_cons, List.take_zero, List.nil_append, List.cons_append, List.length_cons, List.length_nil, List.drop_succ_cons, List.drop_zero, List.drop_nil, Nat.reduceAdd, Nat.zero_add, List.append_nil] at hO; clear hf; have hf := hO.cells; simp only [BC, CC, Nat.zero_add, Nat.reduceAdd, and_true] at hf))
  refine (HC1.out _ _ _ _ _ _ _ ⟨hO.wd 3 rfl, hO.wd 2 rfl⟩ ⟨hO.wd 5 rfl, hO.wd 4 rfl⟩).mono ?_
  rintro e w7 ⟨rfl, hE1⟩
  have hO := hO.ext hE1
  clear hE1
  clear hf
  have hf := hO.cells
  simp only [BC, CC, Nat.zero_add, Nat.reduceAdd, and_true] at hf
  go_wp2
  go_ret
  exact ⟨by first | rfl | simp, hO.toExt⟩

set_option maxHeartbeats 4000000 in
theorem holds_2 (lo hi : Nat) (s : Bool) (A : Option Addr) (l c : Nat) (B : Option Addr) (k d N D : Nat) (w : World) (h : RatAt w A l c B k d N D)
    (i1 : Int) (s1 : Bool) (N1 D1 : Nat) (i2 : Int) (s2 : Bool) (N2 D2 : Nat) (v1 v2 : Int) (hv1 : decide (v1 ≤ 0) = true) (HOF : Hid (∀ w, Calls Try.prog 80 #[.agg #[.int .u64 (lo : Int), .int .u64 (hi : Int)]] w (RetSet false i1 s1 N1 D1 i2 s2 N2 D2 w)))
    (HC1 : Hid (∀ (A1 : Option Addr) (l1 c1 : Nat) (B1 : Option Addr) (k1 d1 : Nat) (w : World), RatAt w A1 l1 c1 B1 k1 d1 N1 D1 → RatAt w A l c B k d N D → Calls Try.prog 81 #[.agg #[.int .i64 i1, .bool s1, .slice A1 l1 c1, .slice B1 k1 d1], .agg #[.int .i64 0, .bool s, .slice A l c, .slice B k d]] w fun e w' => e = .returned (.int .i64 v1) ∧ Ext w w'))
    (HC2 : Hid (∀ (A1 : Option Addr) (l1 c1 : Nat) (B1 : Option Addr) (k1 d1 : Nat) (w : World), RatAt w A l c B k d N D → RatAt w A1 l1 c1 B1 k1 d1 N2 D2 → Calls Try.prog 81 #[.agg #[.int .i64 0, .bool s, .slice A l c, .slice B k d], .agg #[.int .i64 i2, .bool s2, .slice A1 l1 c1, .slice B1 k1 d1]] w fun e w' => e = .returned (.int .i64 v2) ∧ Ext w w')) :
    Calls Try.prog 32 #[.agg #[.int .u64 (lo : Int), .int .u64 (hi : Int)], .agg #[.bool s, .slice A l c, .slice B k d]] w fun e w' => e = .returned (.bool (decide (v2 ≤ 0))) ∧ Ext w w' := by
  have hO := ((Own.start w).add h.1).add h.2
  have hf : True := trivial
  clear h
  go_enter Try.func32, Try.ntmps32
  go_wp2_with (first | ((with_reducible refine at_box ?_); refine own_box (cs := [.int .u64 (lo : Int), .int .u64 (hi : Int)]) hO rfl rfl ?_; clear hO; intro ga wa hO; clear hf; have hf := hO.cells; simp only [BC, CC, Nat.zero_add, Nat.reduceAdd, and_true] at hf) | ((with_reducible refine at_box ?_); refine own_box (cs := [.bool s, .slice A l c, .slice B k d]) hO rfl rfl ?_; clear hO; intro gb wb hO; clear hf; have hf := hO.cells; simp only [BC, CC, Nat.zero_add, Nat.reduceAdd, and_true] at hf))
  refine (HOF.out _).mono ?_
  rintro e w2 ⟨A1, l1, c1, B1, k1, d1, A2, l2, c2, B2, k2, d2, rfl, hW1, hW2, hE1⟩
  have hO := ((((hO.ext hE1).add hW1.1).add hW1.2).add hW2.1).add hW2.2
  clear hW1 hW2 hE1
  clear hf
  have hf := hO.cells
  simp only [BC, CC, Nat.zero_add, Nat.reduceAdd, and_true] at hf
  go_wp2_with (first | ((with_reducible refine at_alloc ?_); refine own_alloc hO zero_seth rfl rfl ?_; clear hO; intro gs w3 hO; clear hf; have hf := hO.cells; simp only [BC, CC, Nat.zero_add, Nat.reduceAdd, and_true] at hf) | ((with_reducible refine at_store (T := 98) ?_); refine own_store (T := 98) hO 0 rfl rfl rfl size_seth rfl rfl rfl ?_; clear hO; intro w4 hO; simp only [List.set_cons_zero, List.set_cons_succ, spl, List.take_succ_cons, List.take_zero, List.nil_append, List.cons_append, List.length_cons, List.length_nil, List.drop_succ_cons, List.drop_zero, List.drop_nil, Nat.reduceAdd, Nat.zero_add, List.append_nil] at hO; clear hf; have hf := hO.cells; simp only [BC, CC, Nat.zero_add, Nat.reduceAdd, and_true] at hf) | ((with_reducible refine at_alloc ?_); refine own_alloc hO zero_endh rfl rfl ?_; clear hO; intro ge w5 hO; clear hf; have hf := hO.cells; simp only [BC, CC, Nat.zero_add, Nat.reduceAdd, and_true] at hf) | ((with_reducible refine at_store (T := 96) ?_); refine own_store (T := 96) hO 0 rfl rfl rfl size_endh rfl rfl rfl ?_; clear hO; intro w6 hO; simp only [List.set_cons_zero, List.set_cons_succ, spl, List.take_succ_cons, List.take_zero, List.nil_append, List.cons_append, List.length_cons, List.length_nil, List.drop_succ_cons, List.drop_zero, List.drop_nil, Nat.reduceAdd, Nat.zero_add, List.append_nil] at hO; clear hf; have hf := hO.cells; simp only [BC, CC, Nat.zero_add, Nat.reduceAdd, and_true] at hf))
  refine (HC1.out _ _ _ _ _ _ _ ⟨hO.wd 3 rfl, hO.wd 2 rfl⟩ ⟨hO.wd 5 rfl, hO.wd 4 rfl⟩).mono ?_
  rintro e w7 ⟨rfl, hE1⟩
  have hO := hO.ext hE1
  clear hE1
  clear hf
  have hf := hO.cells
  simp only [BC, CC, Nat.zero_add, Nat.reduceAdd, and_true] at hf
  go_wp2_with fail
  refine (HC2.out _ _ _ _ _ _ _ ⟨hO.wd 5 rfl, hO.wd 4 rfl⟩ ⟨hO.wd 1 rfl, hO.wd 0 rfl⟩).mono ?_
  rintro e w8 ⟨rfl, hE1⟩
  have hO := hO.ext hE1
  clear hE1
  clear hf
  have hf := hO.cells
  simp only [BC, CC, Nat.zero_add, Nat.reduceAdd, and_true] at hf
  go_wp2
  go_ret
  exact ⟨by first | rfl | simp, hO.toExt⟩

theorem holds_any (lo hi : Nat) (s : Bool) (A : Option Addr) (l c : Nat) (B : Option Addr) (k d N D : Nat) (w : World) (h : RatAt w A l c B k d N D) (hl : lo < 18446744073709551616) (hh : hi < 18446744073709551616) (hN : nw N ≤ 1073741824) (hD : nw D ≤ 1073741824) (hp : D ≠ 0) :
    Calls Try.prog 32 #[.agg #[.int .u64 (lo : Int), .int .u64 (hi : Int)], .agg #[.bool s, .slice A l c, .slice B k d]] w fun e w' => e = .returned (.bool (hldB lo hi s N D)) ∧ Ext w w' := by
  by_cases he : emp lo hi
  · have e : hldB lo hi s N D = false := if_pos he
    rw [e]
    exact holds_n lo hi s A l c B k d N D w h _ _ _ _ _ _ _ _ (Lib.hid fun w => of6_none lo hi w hl hh he)
  · have hof := Lib.hid (fun w => of6_full lo hi w hl hh he)
    have h1 := b_nwh (rdLo lo hi)
    have h2 := b_nwh (rdHi lo hi)
    have e : hldB lo hi s N D = (hlL (rdLo lo hi) s N D && hlH (rdHi lo hi) s N D) := if_neg he
    rw [e]
    by_cases g : eC (bI (rdLo lo hi)) (bNeg (rdLo lo hi)) (bN (rdLo lo hi)) (bD (rdLo lo hi)) 0 s N D ≤ 0
    · rw [show hlL (rdLo lo hi) s N D = true from decide_eq_true g, Bool.true_and]
      exact holds_2 lo hi s A l c B k d N D w h _ _ _ _ _ _ _ _ _ _ (decide_eq_true g) hof
        (Lib.hid fun A1 l1 c1 B1 k1 d1 w g1 g2 => cmp6_any _ _ A1 l1 c1 B1 k1 d1 _ _ 0 s A l c B k d N D w g1 g2 h1.1 h1.2 hN hD (bD_nz _) hp)
        (Lib.hid fun A1 l1 c1 B1 k1 d1 w g1 g2 => cmp6_any 0 s A l c B k d N D _ _ A1 l1 c1 B1 k1 d1 _ _ w g1 g2 hN hD h2.1 h2.2 hp (bD_nz _))
    · rw [show hlL (rdLo lo hi) s N D = false from decide_eq_false g, Bool.false_and]
      exact holds_1 lo hi s A l c B k d N D w h _ _ _ _ _ _ _ _ _ _ (decide_eq_false g) hof
        (Lib.hid fun A1 l1 c1 B1 k1 d1 w g1 g2 => cmp6_any _ _ A1 l1 c1 B1 k1 d1 _ _ 0 s A l c B k d N D w g1 g2 h1.1 h1.2 hN hD (bD_nz _) hp)
        (Lib.hid fun A1 l1 c1 B1 k1 d1 w g1 g2 => cmp6_any 0 s A l c B k d N D _ _ A1 l1 c1 B1 k1 d1 _ _ w g1 g2 hN hD h2.1 h2.2 hp (bD_nz _))
end Go.Proofs.Ytmcfflecaklpcaa
