/-
  The contract of the document's Neg. Conditions: those that each theorem names.
-/
import Derived.Test.YtmcfflecaklpcaaY23
import Derived.Test.YtmcfflecaklpcaaY14
import Derived.Test.YtmcfflecaklpcaaY21
import Derived.Test.YtmcfflecaklpcaaY20
import Derived.Test.YtmcfflecaklpcaaY22
namespace Go.Proofs.Ytmcfflecaklpcaa
open Go.RowKit Nm Rn
set_option maxRecDepth 100000
set_option linter.unusedVariables false
set_option linter.unusedSimpArgs false

theorem bI_rng (x : Nat) : -1 ≤ bI x ∧ bI x ≤ 1 := by unfold bI; split <;> (try split) <;> omega
theorem bN_sz (x : Nat) : nw (bN x) ≤ 1073741824 := by
  have h0 : nw (fracN 0 1 0) ≤ 1073741824 := by
    have : fracN 0 1 0 = 0 := fracN_zero 1 0
    rw [this]
    exact Nat.le_trans ((nw_le_iff 0 0).2 (by omega)) (by omega)
  unfold bN
  split
  · exact h0
  · split
    · exact h0
    · exact Nat.le_trans (fbN_bits x) (by omega)
theorem bD_sz (x : Nat) : nw (bD x) ≤ 1073741824 := by
  have h0 : nw (fracD 0 1 0) ≤ 1073741824 := by
    have : fracD 0 1 0 = 1 := rfl
    rw [this]
    exact Nat.le_trans ((nw_le_iff 1 1).2 (by omega)) (by omega)
  unfold bD
  split
  · exact h0
  · split
    · exact h0
    · exact Nat.le_trans (fbD_bits x) (by omega)
theorem bD_ne (x : Nat) : bD x ≠ 0 := by
  have h0 : fracD 0 1 0 ≠ 0 := by have := fracD_pos (n := 0) (d := 1) 0 (by omega); omega
  unfold bD
  split
  · exact h0
  · split
    · exact h0
    · have := fbD_pos x; omega

theorem ls_ng {x : Nat} (h : x < 18446744073709551616) (hn : isNaN x = false) :
    (x ≠ minf → lsLo (-(bI x)) (!bNeg x && decide (bN x ≠ 0)) (bN x) (bD x) = pl (ng x)) ∧ (x ≠ infR → lsHi (-(bI x)) (!bNeg x && decide (bN x ≠ 0)) (bN x) (bD x) = pl (ng x)) := by
  by_cases h1 : x = infR
  · subst h1
    refine ⟨fun _ => ?_, fun h => absurd rfl h⟩
    unfold lsLo bI
    rw [if_pos rfl, if_neg (by omega)]
    rfl
  · by_cases h2 : x = minf
    · subst h2
      refine ⟨fun h => absurd rfl h, fun _ => ?_⟩
      unfold lsHi bI
      rw [if_neg h1, if_pos rfl, if_neg (by omega)]
      rfl
    · have e1 : bI x = 0 := by unfold bI; rw [if_neg h1, if_neg h2]
      have e2 : bNeg x = (sg x && decide (mg x ≠ 0)) := by unfold bNeg; rw [if_neg h1, if_neg h2]
      have e3 : bN x = fbN x := by unfold bN; rw [if_neg h1, if_neg h2]
      have e4 : bD x = fbD x := by unfold bD; rw [if_neg h1, if_neg h2]
      rw [e1, e2, e3, e4]
      unfold lsLo lsHi
      rw [if_pos (by omega), if_pos (by omega)]
      have hf := mg_fin h hn h1 h2
      exact ⟨fun _ => rnd_ng (-1) h hf, fun _ => rnd_ng 1 h hf⟩

end Go.Proofs.Ytmcfflecaklpcaa

/-
  Plain: the bounds of patterns: how they stand to each other, signs, magnitudes, the least interval between two. Conditions: those that each theorem names.
-/
namespace Go.Proofs.Ytmcfflecaklpcaa
open Go.RowKit Nm Rn
set_option linter.unusedVariables false
set_option linter.unusedSimpArgs false

theorem key_fin {x : Nat} (h : mg x < infR) : -9218868437227405312 < key x ∧ key x < 9218868437227405312 := by
  have e := infR_val
  unfold key
  split <;> omega
theorem bnd_cases {x : Nat} (hx : x < 18446744073709551616) (hn : isNaN x = false) :
    (x = infR ∧ bI x = 1 ∧ key x = 9218868437227405312) ∨ (x = minf ∧ bI x = -1 ∧ key x = -9218868437227405312) ∨
    (bI x = 0 ∧ bNeg x = (sg x && decide (mg x ≠ 0)) ∧ bN x = fbN x ∧ bD x = fbD x ∧ -9218868437227405312 < key x ∧ key x < 9218868437227405312 ∧ mg x < infR ∧ x ≠ infR ∧ x ≠ minf) := by
  by_cases h1 : x = infR
  · subst h1; left; exact ⟨rfl, by unfold bI; rw [if_pos rfl], key_inf⟩
  · by_cases h2 : x = minf
    · subst h2; right; left; exact ⟨rfl, by unfold bI; rw [if_neg h1, if_pos rfl], key_minf⟩
    · right; right
      have hf := mg_fin hx hn h1 h2
      have hk := key_fin hf
      exact ⟨by unfold bI; rw [if_neg h1, if_neg h2], by unfold bNeg; rw [if_neg h1, if_neg h2], by unfold bN; rw [if_neg h1, if_neg h2], by unfold bD; rw [if_neg h1, if_neg h2], hk.1, hk.2, hf, h1, h2⟩

theorem eC_bits {x y : Nat} (hx : x < 18446744073709551616) (hy : y < 18446744073709551616) (nx : isNaN x = false) (ny : isNaN y = false) :
    eC (bI x) (bNeg x) (bN x) (bD x) (bI y) (bNeg y) (bN y) (bD y) = cmpI (key x) (key y) := by
  have hc := rc_bits x y
  unfold eC
  rcases bnd_cases hx nx with h | h | h <;> rcases bnd_cases hy ny with g | g | g
  case inr.inr.inr.inr =>
    rw [h.1, g.1, if_neg (by omega), if_neg (by omega), if_pos rfl, h.2.1, h.2.2.1, h.2.2.2.1, g.2.1, g.2.2.1, g.2.2.2.1, hc]
  all_goals
    unfold cmpI
    repeat' split
    all_goals omega

theorem eS_bits {x : Nat} (hx : x < 18446744073709551616) (nx : isNaN x = false) : eS (bI x) (bNeg x) (bN x) = cmpI (key x) 0 := by
  unfold eS
  rcases bnd_cases hx nx with h | h | h
  · rw [h.2.1, h.2.2]; rfl
  · rw [h.2.1, h.2.2]; rfl
  · rw [h.1, if_pos rfl, h.2.1, h.2.2.1]
    unfold sgnZ
    by_cases h0 : mg x = 0
    · rw [if_pos ((fbN_zero x).2 h0)]
      have : key x = 0 := by unfold key; rw [h0]; split <;> rfl
      rw [this]; rfl
    · rw [if_neg (fun e => h0 ((fbN_zero x).1 e)), decide_eq_true h0, Bool.and_true]
      cases hs : sg x
      · have hk : key x = (mg x : Int) := by unfold key; rw [hs]; rfl
        rw [hk]; unfold cmpI
        show (1 : Int) = _
        rw [if_neg (by omega), if_pos (by omega)]
      · have hk : key x = -(mg x : Int) := by unfold key; rw [hs]; rfl
        rw [hk]; unfold cmpI
        show (-1 : Int) = _
        rw [if_pos (by omega)]

/-- A pattern's magnitude. -/
def mx (x : Nat) : Nat := if key x < 0 then mg x else x
theorem mx_neg {x : Nat} (hx : x < 18446744073709551616) (nx : isNaN x = false) (hk : key x < 0) :
    bI (mg x) = -(bI x) ∧ bNeg (mg x) = (!bNeg x && decide (bN x ≠ 0)) ∧ bN (mg x) = bN x ∧ bD (mg x) = bD x := by
  have i1 := infR_val
  have i2 := minf_val
  rcases bnd_cases hx nx with h | h | h
  · exfalso; omega
  · have e : mg x = infR := by rw [h.1]; rfl
    rw [e, h.1]
    have n1 : minf ≠ infR := by omega
    refine ⟨?_, ?_, ?_, ?_⟩
    · unfold bI; rw [if_pos rfl, if_neg n1, if_pos rfl]; rfl
    · have : bN minf = 0 := by unfold bN; rw [if_neg n1, if_pos rfl]; exact fracN_zero 1 0
      rw [this]
      unfold bNeg; rw [if_pos rfl, if_neg n1, if_pos rfl]; rfl
    · unfold bN; rw [if_pos rfl, if_neg n1, if_pos rfl]
    · unfold bD; rw [if_pos rfl, if_neg n1, if_pos rfl]
  · obtain ⟨h1, h2, h3, h4, _, _, hf, _, _⟩ := h
    have hm : mg x < 9223372036854775808 := by unfold mg; omega
    have hs : sg x = true := by
      revert hk; unfold key; cases sg x
      · intro hk; rw [if_neg (by simp)] at hk; omega
      · intro _; rfl
    have h0 : mg x ≠ 0 := by
      intro h0; revert hk; unfold key; rw [h0]; split <;> omega
    have e2 : mg (mg x) = mg x := by unfold mg; omega
    have e3 : sg (mg x) = false := decide_eq_false (by omega)
    have eN : fbN (mg x) = fbN x ∧ fbD (mg x) = fbD x := by
      have e1 : mg x % 4503599627370496 = x % 4503599627370496 := by unfold mg; omega
      have e2 : mg x / 4503599627370496 % 2048 = x / 4503599627370496 % 2048 := by unfold mg; omega
      unfold fbN fbD fbSig fbExp
      rw [e1, e2]
      exact ⟨rfl, rfl⟩
    have n1 : mg x ≠ infR := by omega
    have n2 : mg x ≠ minf := by omega
    rw [h1, h2, h3, h4]
    refine ⟨?_, ?_, ?_, ?_⟩
    · unfold bI; rw [if_neg n1, if_neg n2]; rfl
    · unfold bNeg; rw [if_neg n1, if_neg n2, e3, hs, decide_eq_true h0]; rfl
    · unfold bN; rw [if_neg n1, if_neg n2]; exact eN.1
    · unfold bD; rw [if_neg n1, if_neg n2]; exact eN.2

theorem mx_lt {x : Nat} (hx : x < 18446744073709551616) : mx x < 18446744073709551616 := by unfold mx mg; split <;> omega
theorem mx_nan {x : Nat} (hx : isNaN x = false) : isNaN (mx x) = false := by
  unfold mx; split
  · have : mg (mg x) = mg x := by unfold mg; omega
    unfold isNaN at hx ⊢; rw [this]; exact hx
  · exact hx
theorem mx_key {x : Nat} : key (mx x) = if key x < 0 then -key x else key x := by
  unfold mx
  split
  · rename_i h
    have hm : mg x < 9223372036854775808 := by unfold mg; omega
    have e2 : mg (mg x) = mg x := by unfold mg; omega
    have e3 : sg (mg x) = false := decide_eq_false (by omega)
    unfold key at h ⊢
    rw [e2, e3]
    revert h
    cases sg x
    · intro h; rw [if_neg (by simp)] at h; omega
    · intro _; simp
  · rfl

theorem b_zero : bI 0 = 0 ∧ bNeg 0 = false ∧ bN 0 = fracN 0 1 0 ∧ bD 0 = fracD 0 1 0 := ⟨rfl, rfl, rfl, rfl⟩

/-- The least interval between the bounds of two patterns. -/
theorem ls_lo {x : Nat} (hx : x < 18446744073709551616) (nx : isNaN x = false) (h : x ≠ infR) : lsLo (bI x) (bNeg x) (bN x) (bD x) = pl x := by
  unfold lsLo
  rcases bnd_cases hx nx with g | g | g
  · exact absurd g.1 h
  · rw [g.2.1, if_neg (by omega), g.1]; rfl
  · rw [g.1, if_pos rfl, g.2.1, g.2.2.1, g.2.2.2.1]; exact rnd_bits (-1) hx g.2.2.2.2.2.2.1
theorem ls_hi {x : Nat} (hx : x < 18446744073709551616) (nx : isNaN x = false) (h : x ≠ minf) : lsHi (bI x) (bNeg x) (bN x) (bD x) = pl x := by
  unfold lsHi
  rcases bnd_cases hx nx with g | g | g
  · rw [g.2.1, if_neg (by omega), g.1]; rfl
  · exact absurd g.1 h
  · rw [g.1, if_pos rfl, g.2.1, g.2.2.1, g.2.2.2.1]; exact rnd_bits 1 hx g.2.2.2.2.2.2.1
end Go.Proofs.Ytmcfflecaklpcaa

/-
  The contracts of the document's stepped bounds and Steps. Conditions: those that each theorem names.
-/
namespace Go.Proofs.Ytmcfflecaklpcaa
open Go.RowKit Nm Rn
set_option maxRecDepth 100000
set_option linter.unusedVariables false
set_option linter.unusedSimpArgs false

theorem agg_endh (w : World) : (isAgg 96).run Try.prog w = .ok true w := by kernel_rfl
theorem zero_Ih (w : World) : (zeroValue 49).run Try.prog w = .ok (.agg #[.int .u64 0, .int .u64 0]) w := by kernel_rfl
theorem agg_Ih (w : World) : (isAgg 49).run Try.prog w = .ok true w := by kernel_rfl
theorem size_Ih (w : World) : (sizeOf 49).run Try.prog w = .ok 2 w := by kernel_rfl

set_option maxHeartbeats 1000000 in
theorem finm1_any (w : World) : Calls Try.prog 118 #[.int .i64 (-1)] w (RetEnd 0 true 1 1 w) := by
  have HI := Lib.hid (fun w => intm1_any w)
  have hO := Own.start w
  have hf : True := trivial
  go_enter Try.func118, Try.ntmps118
  go_wp2_with ((with_reducible refine at_alloc ?_); refine own_alloc hO zero_endh rfl rfl ?_; clear hO; intro g wb hO; clear hf; have hf := hO.cells; simp only [BC, CC, Nat.zero_add, Nat.reduceAdd, and_true] at hf)
  refine (HI.out _).mono ?_
  rintro e w2 ⟨A1, n1, c1, B1, m1, e1, rfl, hW1, hW2, hE1⟩
  have hO := ((hO.ext hE1).add hW1).add hW2
  clear hW1 hW2 hE1
  clear hf
  have hf := hO.cells
  simp only [BC, CC, Nat.zero_add, Nat.reduceAdd, and_true] at hf
  go_wp2_with ((with_reducible refine at_store (T := 96) ?_); refine own_store (T := 96) hO 0 rfl rfl rfl size_endh rfl rfl rfl ?_; clear hO; intro w4 hO; simp only [List.set_cons_zero, List.set_cons_succ, spl, List.take_succ_cons, List.take_zero, List.nil_append, List.cons_append, List.length_cons, List.length_nil, List.drop_succ_cons, List.drop_zero, List.drop_nil, Nat.reduceAdd, Nat.zero_add, List.append_nil] at hO; clear hf; have hf := hO.cells; simp only [BC, CC, Nat.zero_add, Nat.reduceAdd, and_true] at hf)
  exact own_ret hO 0 rfl rfl rfl agg_endh size_endh rfl ⟨_, _, _, _, _, _, rfl, ⟨hO.wd 1 rfl, hO.wd 0 rfl⟩, hO.toExt⟩

set_option maxHeartbeats 2000000 in
theorem stepped_s (k i : Int) (s : Bool) (A : Option Addr) (l c : Nat) (B : Option Addr) (kk d N D : Nat) (w : World) (h : RatAt w A l c B kk d N D) (t : Bool) (M E : Nat) (hi : (i != 0) = true) (hk : (k == 0) = true) (HFI : Hid (∀ w, Calls Try.prog 118 #[.int .i64 i] w (RetEnd 0 t M E w))) :
    Calls Try.prog 89 #[.int .i64 k, .agg #[.int .i64 i, .bool s, .slice A l c, .slice B kk d]] w (RetEnd 0 t M E w) := by
  have hO := ((Own.start w).add h.1).add h.2
  have hf : True := trivial
  clear h
  go_enter Try.func89, Try.ntmps89
  go_wp2_with (first | ((with_reducible refine at_box ?_); refine own_box (cs := [.int .i64 i, .bool s, .slice A l c, .slice B kk d]) hO rfl rfl ?_; clear hO; intro ga wa hO; clear hf; have hf := hO.cells; simp only [BC, CC, Nat.zero_add, Nat.reduceAdd, and_true] at hf) | ((with_reducible refine at_alloc ?_); refine own_alloc hO zero_endh rfl rfl ?_; clear hO; intro g wb hO; clear hf; have hf := hO.cells; simp only [BC, CC, Nat.zero_add, Nat.reduceAdd, and_true] at hf))
  refine (HFI.out _).mono ?_
  rintro e w2 ⟨A1, n1, c1, B1, m1, e1, rfl, ⟨hW1, hW2⟩, hE1⟩
  have hO := ((hO.ext hE1).add hW1).add hW2
  clear hW1 hW2 hE1
  clear hf
  have hf := hO.cells
  simp only [BC, CC, Nat.zero_add, Nat.reduceAdd, and_true] at hf
  go_wp2_with ((with_reducible refine at_store (T := 96) ?_); refine own_store (T := 96) hO 0 rfl rfl rfl size_endh rfl rfl rfl ?_; clear hO; intro w4 hO; simp only [List.set_cons_zero, List.set_cons_succ, spl, List.take_succ_cons, List.take_zero, List.nil_append, List.cons_append, List.length_cons, List.length_nil, List.drop_succ_cons, List.drop_zero, List.drop_nil, Nat.reduceAdd, Nat.zero_add, List.append_nil] at hO; clear hf; have hf := hO.cells; simp only [BC, CC, Nat.zero_add, Nat.reduceAdd, and_true] at hf)
  exact own_ret hO 0 rfl rfl rfl agg_endh size_endh rfl ⟨_, _, _, _, _, _, rfl, ⟨hO.wd 1 rfl, hO.wd 0 rfl⟩, hO.toExt⟩

set_option maxHeartbeats 2000000 in
theorem stepped_i (k i : Int) (s : Bool) (A : Option Addr) (l c : Nat) (B : Option Addr) (kk d N D : Nat) (w : World) (h : RatAt w A l c B kk d N D) (hi : (i != 0) = true) (hk : (k == 0) = false) :
    Calls Try.prog 89 #[.int .i64 k, .agg #[.int .i64 i, .bool s, .slice A l c, .slice B kk d]] w (RetEnd i s N D w) := by
  have hO := ((Own.start w).add h.1).add h.2
  have hf : True := trivial
  clear h
  go_enter Try.func89, Try.ntmps89
  go_wp2_with (first | ((with_reducible refine at_box ?_); refine own_box (cs := [.int .i64 i, .bool s, .slice A l c, .slice B kk d]) hO rfl rfl ?_; clear hO; intro ga wa hO; clear hf; have hf := hO.cells; simp only [BC, CC, Nat.zero_add, Nat.reduceAdd, and_true] at hf) | ((with_reducible refine at_alloc ?_); refine own_alloc hO zero_endh rfl rfl ?_; clear hO; intro g wb hO; clear hf; have hf := hO.cells; simp only [BC, CC, Nat.zero_add, Nat.reduceAdd, and_true] at hf) | ((with_reducible refine at_store (T := 96) ?_); refine own_store (T := 96) hO 0 rfl rfl rfl size_endh rfl rfl rfl ?_; clear hO; intro w4 hO; simp only [List.set_cons_zero, List.set_cons_succ, spl, List.take_succ_cons, List.take_zero, List.nil_append, List.cons_append, List.length_cons, List.length_nil, List.drop_succ_cons, List.drop_zero, List.drop_nil, Nat.reduceAdd, Nat.zero_add, List.append_nil] at hO; clear hf; have hf := hO.cells; simp only [BC, CC, Nat.zero_add, Nat.reduceAdd, and_true] at hf))
  exact own_ret hO 0 rfl rfl rfl agg_endh size_endh rfl ⟨_, _, _, _, _, _, rfl, ⟨hO.wd 1 rfl, hO.wd 0 rfl⟩, hO.toExt⟩

set_option maxHeartbeats 2000000 in
theorem stepped_f (k i : Int) (s : Bool) (A : Option Addr) (l c : Nat) (B : Option Addr) (kk d N D : Nat) (w : World) (h : RatAt w A l c B kk d N D) (t : Bool) (M E : Nat) (hi : (i != 0) = false) (HST : Hid (∀ w, RatAt w A l c B kk d N D → Calls Try.prog 128 #[.int .i64 k, .agg #[.bool s, .slice A l c, .slice B kk d]] w (RetR t M E w))) :
    Calls Try.prog 89 #[.int .i64 k, .agg #[.int .i64 i, .bool s, .slice A l c, .slice B kk d]] w (RetEnd 0 t M E w) := by
  have hO := ((Own.start w).add h.1).add h.2
  have hf : True := trivial
  clear h
  go_enter Try.func89, Try.ntmps89
  go_wp2_with (first | ((with_reducible refine at_box ?_); refine own_box (cs := [.int .i64 i, .bool s, .slice A l c, .slice B kk d]) hO rfl rfl ?_; clear hO; intro ga wa hO; clear hf; have hf := hO.cells; simp only [BC, CC, Nat.zero_add, Nat.reduceAdd, and_true] at hf) | ((with_reducible refine at_alloc ?_); refine own_alloc hO zero_endh rfl rfl ?_; clear hO; intro g wb hO; clear hf; have hf := hO.cells; simp only [BC, CC, Nat.zero_add, Nat.reduceAdd, and_true] at hf))
  refine (HST.out _ ⟨hO.wd 1 rfl, hO.wd 0 rfl⟩).mono ?_
  rintro e w2 ⟨A1, n1, c1, B1, m1, e1, rfl, hW1, hW2, hE1⟩
  have hO := ((hO.ext hE1).add hW1).add hW2
  clear hW1 hW2 hE1
  clear hf
  have hf := hO.cells
  simp only [BC, CC, Nat.zero_add, Nat.reduceAdd, and_true] at hf
  go_wp2_with ((with_reducible refine at_store (T := 96) ?_); refine own_store (T := 96) hO 0 rfl rfl rfl size_endh rfl rfl rfl ?_; clear hO; intro w4 hO; simp only [List.set_cons_zero, List.set_cons_succ, spl, List.take_succ_cons, List.take_zero, List.nil_append, List.cons_append, List.length_cons, List.length_nil, List.drop_succ_cons, List.drop_zero, List.drop_nil, Nat.reduceAdd, Nat.zero_add, List.append_nil] at hO; clear hf; have hf := hO.cells; simp only [BC, CC, Nat.zero_add, Nat.reduceAdd, and_true] at hf)
  exact own_ret hO 0 rfl rfl rfl agg_endh size_endh rfl ⟨_, _, _, _, _, _, rfl, ⟨hO.wd 1 rfl, hO.wd 0 rfl⟩, hO.toExt⟩

/-- What becomes of a bound. -/
def teI (k : Nat) (x : Nat) : Int := if bI x = 0 then 0 else if k = 0 then 0 else bI x
def teS (k : Nat) (x : Nat) : Bool := if bI x = 0 then bNeg x && decide (stZ k (bNeg x) (bN x) (bD x) ≠ 0) else if k = 0 then decide (bI x < 0) else bNeg x
def teN (k : Nat) (x : Nat) : Nat := if bI x = 0 then stZ k (bNeg x) (bN x) (bD x) else if k = 0 then 1 else bN x
def teD (k : Nat) (x : Nat) : Nat := if bI x = 0 then 1 else if k = 0 then 1 else bD x

theorem bI_cases (x : Nat) : bI x = 0 ∨ bI x = 1 ∨ bI x = -1 := by
  unfold bI
  split
  · exact .inr (.inl rfl)
  · split
    · exact .inr (.inr rfl)
    · exact .inl rfl
theorem bN_small (x : Nat) : nw (bN x) ≤ 40 ∧ nw (bD x) ≤ 40 := by
  have h1 := fbN_bits x
  have h2 := fbD_bits x
  have h3 : nw (fracN 0 1 0) ≤ 40 := by decide
  have h4 : nw (fracD 0 1 0) ≤ 40 := by decide
  unfold bN bD
  constructor
  · split
    · exact h3
    · split
      · exact h3
      · exact h1
  · split
    · exact h4
    · split
      · exact h4
      · exact h2
theorem bNeg_zero (x : Nat) : bN x = 0 → bNeg x = false := by
  unfold bN bNeg
  split
  · intro _; rfl
  · split
    · intro _; rfl
    · intro h
      rw [(fbN_zero x).1 h]
      simp
theorem stepped7_any (k x : Nat) (A : Option Addr) (l c : Nat) (B : Option Addr) (kk d : Nat) (w : World) (hk : k < 6) (h : RatAt w A l c B kk d (bN x) (bD x)) :
    Calls Try.prog 89 #[.int .i64 (k : Int), .agg #[.int .i64 (bI x), .bool (bNeg x), .slice A l c, .slice B kk d]] w (RetEnd (teI k x) (teS k x) (teN k x) (teD k x) w) := by
  by_cases h0 : bI x = 0
  · have e1 : teI k x = 0 := by unfold teI; rw [if_pos h0]
    have e2 : teS k x = (bNeg x && decide (stZ k (bNeg x) (bN x) (bD x) ≠ 0)) := by unfold teS; rw [if_pos h0]
    have e3 : teN k x = stZ k (bNeg x) (bN x) (bD x) := by unfold teN; rw [if_pos h0]
    have e4 : teD k x = 1 := by unfold teD; rw [if_pos h0]
    obtain ⟨b1, b2⟩ := bN_small x
    rw [e1, e2, e3, e4]
    exact stepped_f (k : Int) (bI x) (bNeg x) A l c B kk d (bN x) (bD x) w h _ _ _ (by rw [h0]; rfl) (Lib.hid fun w g => step7_any k (bNeg x) A l c B kk d (bN x) (bD x) w hk g (Nat.pos_of_ne_zero (bD_nz x)) (bNeg_zero x) (by omega) (by omega))
  · have hin : (bI x != 0) = true := by rw [bne_iff_ne]; exact h0
    by_cases hk0 : k = 0
    · subst hk0
      have e1 : teI 0 x = 0 := by unfold teI; rw [if_neg h0, if_pos rfl]
      have e2 : teS 0 x = decide (bI x < 0) := by unfold teS; rw [if_neg h0, if_pos rfl]
      have e3 : teN 0 x = 1 := by unfold teN; rw [if_neg h0, if_pos rfl]
      have e4 : teD 0 x = 1 := by unfold teD; rw [if_neg h0, if_pos rfl]
      rw [e1, e2, e3, e4]
      have HFI : Hid (∀ w, Calls Try.prog 118 #[.int .i64 (bI x)] w (RetEnd 0 (decide (bI x < 0)) 1 1 w)) := Lib.hid (fun w => by
        rcases bI_cases x with e | e | e
        · exact absurd e h0
        · rw [e]
          have := finite_any 1 w (by omega)
          rwa [(fr_one 1).1, (fr_one 1).2] at this
        · rw [e]
          exact finm1_any w)
      exact stepped_s ((0 : Nat) : Int) (bI x) (bNeg x) A l c B kk d (bN x) (bD x) w h _ _ _ hin rfl HFI
    · have e1 : teI k x = bI x := by unfold teI; rw [if_neg h0, if_neg hk0]
      have e2 : teS k x = bNeg x := by unfold teS; rw [if_neg h0, if_neg hk0]
      have e3 : teN k x = bN x := by unfold teN; rw [if_neg h0, if_neg hk0]
      have e4 : teD k x = bD x := by unfold teD; rw [if_neg h0, if_neg hk0]
      rw [e1, e2, e3, e4]
      exact stepped_i (k : Int) (bI x) (bNeg x) A l c B kk d (bN x) (bD x) w h hin (by rw [beq_eq_false_iff_ne]; omega)

set_option maxHeartbeats 4000000 in
theorem steps_n (k : Int) (lo hi : Nat) (w : World) (i1 : Int) (s1 : Bool) (N1 D1 : Nat) (i2 : Int) (s2 : Bool) (N2 D2 r1 r2 : Nat) (HOF : Hid (∀ w, Calls Try.prog 80 #[.agg #[.int .u64 (lo : Int), .int .u64 (hi : Int)]] w (RetSet true i1 s1 N1 D1 i2 s2 N2 D2 w)))
    (HEM : Hid (∀ w, Calls Try.prog 76 #[] w (RetI r1 r2 w))) :
    Calls Try.prog 37 #[.int .i64 k, .agg #[.int .u64 (lo : Int), .int .u64 (hi : Int)]] w (RetI r1 r2 w) := by
  have hO := Own.start w
  have hf : True := trivial
  go_enter Try.func37, Try.ntmps37
  go_wp2_with (first | ((with_reducible refine at_box ?_); refine own_box (cs := [.int .u64 (lo : Int), .int .u64 (hi : Int)]) hO rfl rfl ?_; clear hO; intro ga wa hO; clear hf; have hf := hO.cells; simp only [BC, CC, Nat.zero_add, Nat.reduceAdd, and_true] at hf) | ((with_reducible refine at_alloc ?_); refine own_alloc hO zero_Ih rfl rfl ?_; clear hO; intro g wb hO; clear hf; have hf := hO.cells; simp only [BC, CC, Nat.zero_add, Nat.reduceAdd, and_true] at hf))
  refine (HOF.out _).mono ?_
  rintro e w2 ⟨A1, l1, c1, B1, k1, d1, A2, l2, c2, B2, k2, d2, rfl, hW1, hW2, hE1⟩
  have hO := ((((hO.ext hE1).add hW1.1).add hW1.2).add hW2.1).add hW2.2
  clear hW1 hW2 hE1
  clear hf
  have hf := hO.cells
  simp only [BC, CC, Nat.zero_add, Nat.reduceAdd, and_true] at hf
  go_wp2_with (first | ((with_reducible refine at_alloc ?_); refine own_alloc hO zero_seth rfl rfl ?_; clear hO; intro gs w3 hO; clear hf; have hf := hO.cells; simp only [BC, CC, Nat.zero_add, Nat.reduceAdd, and_true] at hf) | ((with_reducible refine at_store (T := 98) ?_); refine own_store (T := 98) hO 0 rfl rfl rfl size_seth rfl rfl rfl ?_; clear hO; intro w4 hO; simp only [List.set_cons_zero, List.set_cons_succ, spl, List.take_succ_cons, List.take_zero, List.nil_append, List.cons_append, List.length_cons, List.length_nil, List.drop_succ_cons, List.drop_zero, List.drop_nil, Nat.reduceAdd, Nat.zero_add, List.append_nil] at hO; clear hf; have hf := hO.cells; simp only [BC, CC, Nat.zero_add, Nat.reduceAdd, and_true] at hf))
  refine (HEM.out _).mono ?_
  rintro e w5 ⟨rfl, hE1⟩
  have hO := hO.ext hE1
  clear hE1
  clear hf
  have hf := hO.cells
  simp only [BC, CC, Nat.zero_add, Nat.reduceAdd, and_true] at hf
  go_wp2_with ((with_reducible refine at_store (T := 49) ?_); refine own_store (T := 49) hO 1 rfl rfl rfl size_Ih rfl rfl rfl ?_; clear hO; intro w6 hO; simp only [List.set_cons_zero, List.set_cons_succ, spl, List.take_succ_cons, List.take_zero, List.nil_append, List.cons_append, List.length_cons, List.length_nil, List.drop_succ_cons, List.drop_zero, List.drop_nil, Nat.reduceAdd, Nat.zero_add, List.append_nil] at hO; clear hf; have hf := hO.cells; simp only [BC, CC, Nat.zero_add, Nat.reduceAdd, and_true] at hf)
  exact own_ret hO 1 rfl rfl rfl agg_Ih size_Ih rfl ⟨rfl, hO.toExt⟩

set_option maxHeartbeats 8000000 in
theorem steps_f (k : Int) (lo hi : Nat) (w : World) (i1 : Int) (s1 : Bool) (N1 D1 : Nat) (i2 : Int) (s2 : Bool) (N2 D2 : Nat) (j1 : Int) (t1 : Bool) (M1 E1 : Nat) (j2 : Int) (t2 : Bool) (M2 E2 r1 r2 : Nat) (HOF : Hid (∀ w, Calls Try.prog 80 #[.agg #[.int .u64 (lo : Int), .int .u64 (hi : Int)]] w (RetSet false i1 s1 N1 D1 i2 s2 N2 D2 w)))
    (HS1 : Hid (∀ (A : Option Addr) (l c : Nat) (B : Option Addr) (kk d : Nat) w, RatAt w A l c B kk d N1 D1 → Calls Try.prog 89 #[.int .i64 k, .agg #[.int .i64 i1, .bool s1, .slice A l c, .slice B kk d]] w (RetEnd j1 t1 M1 E1 w)))
    (HS2 : Hid (∀ (A : Option Addr) (l c : Nat) (B : Option Addr) (kk d : Nat) w, RatAt w A l c B kk d N2 D2 → Calls Try.prog 89 #[.int .i64 k, .agg #[.int .i64 i2, .bool s2, .slice A l c, .slice B kk d]] w (RetEnd j2 t2 M2 E2 w)))
    (HLE : Hid (∀ (A1 : Option Addr) (l1 c1 : Nat) (B1 : Option Addr) (k1 d1 : Nat) (A2 : Option Addr) (l2 c2 : Nat) (B2 : Option Addr) (k2 d2 : Nat) w, RatAt w A1 l1 c1 B1 k1 d1 M1 E1 → RatAt w A2 l2 c2 B2 k2 d2 M2 E2 → Calls Try.prog 88 #[.agg #[.bool false, .int .i64 j1, .bool t1, .slice A1 l1 c1, .slice B1 k1 d1, .int .i64 j2, .bool t2, .slice A2 l2 c2, .slice B2 k2 d2]] w (RetI r1 r2 w))) :
    Calls Try.prog 37 #[.int .i64 k, .agg #[.int .u64 (lo : Int), .int .u64 (hi : Int)]] w (RetI r1 r2 w) := by
  have hO := Own.start w
  have hf : True := trivial
  go_enter Try.func37, Try.ntmps37
  go_wp2_with (first | ((with_reducible refine at_box ?_); refine own_box (cs := [.int .u64 (lo : Int), .int .u64 (hi : Int)]) hO rfl rfl ?_; clear hO; intro ga wa hO; clear hf; have hf := hO.cells; simp only [BC, CC, Nat.zero_add, Nat.reduceAdd, and_true] at hf) | ((with_reducible refine at_alloc ?_); refine own_alloc hO zero_Ih rfl rfl ?_; clear hO; intro g wb hO; clear hf; have hf := hO.cells; simp only [BC, CC, Nat.zero_add, Nat.reduceAdd, and_true] at hf))
  refine (HOF.out _).mono ?_
  rintro e w2 ⟨A1, l1, c1, B1, k1, d1, A2, l2, c2, B2, k2, d2, rfl, hW1, hW2, hE1⟩
  have hO := ((((hO.ext hE1).add hW1.1).add hW1.2).add hW2.1).add hW2.2
  clear hW1 hW2 hE1
  clear hf
  have hf := hO.cells
  simp only [BC, CC, Nat.zero_add, Nat.reduceAdd, and_true] at hf
  go_wp2_with (first | ((with_reducible refine at_alloc ?_); refine own_alloc hO zero_seth rfl rfl ?_; clear hO; intro gs w3 hO; clear hf; have hf := hO.cells; simp only [BC, CC, Nat.zero_add, Nat.reduceAdd, and_true] at hf) | ((with_reducible refine at_store (T := 98) ?_); refine own_store (T := 98) hO 0 rfl rfl rfl size_seth rfl rfl rfl ?_; clear hO; intro w4 hO; simp only [List.set_cons_zero, List.set_cons_succ, spl, List.take_succ_cons, List.take_zero, List.nil_append, List.cons_append, List.length_cons, List.length_nil, List.drop_succ_cons, List.drop_zero, List.drop_nil, Nat.reduceAdd, Nat.zero_add, List.append_nil] at hO; clear hf; have hf := hO.cells; simp only [BC, CC, Nat.zero_add, Nat.reduceAdd, and_true] at hf))
  obtain ⟨S, hS⟩ : ∃ S : World → Prop, S = Own w [⟨gs, 98, [.bool false, .int .i64 i1, .bool s1, .slice A1 l1 c1, .slice B1 k1 d1, .int .i64 i2, .bool s2, .slice A2 l2 c2, .slice B2 k2 d2]⟩, ⟨g, 49, [.int .u64 0, .int .u64 0]⟩, ⟨ga, 49, [.int .u64 (lo : Int), .int .u64 (hi : Int)]⟩] [⟨B2, k2, d2, nd D2⟩, ⟨A2, l2, c2, nd N2⟩, ⟨B1, k1, d1, nd D1⟩, ⟨A1, l1, c1, nd N1⟩] := ⟨_, rfl⟩
  have hSE : ∀ w w', S w → Ext w w' → S w' := fun w w' h1 h2 => by rw [hS] at h1 ⊢; exact h1.ext h2
  have hS1 : S w4.drew := by rw [hS]; exact hO.ext (Ext.refl w4).drew
  have HS := Lib.hid hS
  clear hS hO hf
  obtain ⟨sp, hsp⟩ : ∃ sp : Nat → Sp, sp = ofList [det (.int .i64 k), det (.pointer (some ⟨gs, 1, none⟩)), det (.agg #[.int .i64 i1, .bool s1, .slice A1 l1 c1, .slice B1 k1 d1]),
    anyOf (fun v wz => ∃ A1 n1 c1 A2 n2 c2, v = .agg #[.int .i64 j1, .bool t1, .slice A1 n1 c1, .slice A2 n2 c2] ∧ RatAt wz A1 n1 c1 A2 n2 c2 M1 E1), det (.int .i64 k), det (.pointer (some ⟨gs, 5, none⟩)), det (.agg #[.int .i64 i2, .bool s2, .slice A2 l2 c2, .slice B2 k2 d2]),
    anyOf (fun v wz => ∃ A1 n1 c1 A2 n2 c2, v = .agg #[.int .i64 j2, .bool t2, .slice A1 n1 c1, .slice A2 n2 c2] ∧ RatAt wz A1 n1 c1 A2 n2 c2 M2 E2),
    anyOf (fun v wz => ∃ A1 l1 c1 B1 k1 d1 A2 l2 c2 B2 k2 d2, v = .agg #[.bool false, .int .i64 j1, .bool t1, .slice A1 l1 c1, .slice B1 k1 d1, .int .i64 j2, .bool t2, .slice A2 l2 c2, .slice B2 k2 d2] ∧ RatAt wz A1 l1 c1 B1 k1 d1 M1 E1 ∧ RatAt wz A2 l2 c2 B2 k2 d2 M2 E2),
    det (.agg #[.int .u64 (r1 : Int), .int .u64 (r2 : Int)])] := ⟨_, rfl⟩
  have HSP := Lib.hid hsp
  clear hsp
  refine wp_region_loose 10 S sp (by kernel_rfl) (by kernel_rfl) hS1 hSE ?_
  simp only [List.take_succ_cons, List.take_zero, List.drop_succ_cons, List.drop_zero]
  refine wpX_step (fun K hK => ?_)
  go_simp
  refine StepY.det (by rw [HSP.out]; rfl) ?_ ?_
  · intro wz hz hF
    rw [HS.out] at hz
    have hf := hz.cells
    simp only [BC, CC, Nat.zero_add, Nat.reduceAdd, and_true] at hf
    clear hz hF
    go_simp
    exact ⟨rfl, Ext.refl _⟩
  refine hK _ _ ?_
  clear hK K
  refine wpX_step (fun K hK => ?_)
  go_simp
  refine StepY.det (by rw [HSP.out]; rfl) ?_ ?_
  · intro wz hz hF
    rw [HS.out] at hz
    have hf := hz.cells
    simp only [BC, CC, Nat.zero_add, Nat.reduceAdd, and_true] at hf
    clear hz hF
    go_simp
    exact ⟨rfl, Ext.refl _⟩
  refine hK _ _ ?_
  clear hK K
  refine wpX_step (fun K hK => ?_)
  go_simp
  refine StepY.det (by rw [HSP.out]; rfl) ?_ ?_
  · intro wz hz hF
    rw [HS.out] at hz
    have hf := hz.cells
    simp only [BC, CC, Nat.zero_add, Nat.reduceAdd, and_true] at hf
    clear hz hF
    go_simp
    exact ⟨rfl, Ext.refl _⟩
  refine hK _ _ ?_
  clear hK K
  refine wpX_step (fun K hK => ?_)
  go_simp
  refine StepY.any (by rw [HSP.out]; rfl) ?_ ?_
  · intro wz hz hF
    clear hF
    rw [HS.out] at hz
    have hR : RatAt wz _ _ _ _ _ _ _ _ := ⟨hz.wd 3 rfl, hz.wd 2 rfl⟩
    clear hz
    go_simp
    refine (HS1.out _ _ _ _ _ _ _ hR).mono ?_
    rintro e w2 ⟨A3, n3, c3, A4, n4, c4, rfl, hW1, hE1⟩
    exact ⟨_, rfl, ⟨A3, n3, c3, A4, n4, c4, rfl, hW1⟩, hE1⟩
  intro v1
  refine hK _ _ ?_
  clear hK K
  refine wpX_step (fun K hK => ?_)
  go_simp
  refine StepY.det (by rw [HSP.out]; rfl) ?_ ?_
  · intro wz hz hF
    rw [HS.out] at hz
    have hf := hz.cells
    simp only [BC, CC, Nat.zero_add, Nat.reduceAdd, and_true] at hf
    clear hz hF
    go_simp
    exact ⟨rfl, Ext.refl _⟩
  refine hK _ _ ?_
  clear hK K
  refine wpX_step (fun K hK => ?_)
  go_simp
  refine StepY.det (by rw [HSP.out]; rfl) ?_ ?_
  · intro wz hz hF
    rw [HS.out] at hz
    have hf := hz.cells
    simp only [BC, CC, Nat.zero_add, Nat.reduceAdd, and_true] at hf
    clear hz hF
    go_simp
    exact ⟨rfl, Ext.refl _⟩
  refine hK _ _ ?_
  clear hK K
  refine wpX_step (fun K hK => ?_)
  go_simp
  refine StepY.det (by rw [HSP.out]; rfl) ?_ ?_
  · intro wz hz hF
    rw [HS.out] at hz
    have hf := hz.cells
    simp only [BC, CC, Nat.zero_add, Nat.reduceAdd, and_true] at hf
    clear hz hF
    go_simp
    exact ⟨rfl, Ext.refl _⟩
  refine hK _ _ ?_
  clear hK K
  refine wpX_step (fun K hK => ?_)
  go_simp
  refine StepY.any (by rw [HSP.out]; rfl) ?_ ?_
  · intro wz hz hF
    clear hF
    rw [HS.out] at hz
    have hR : RatAt wz _ _ _ _ _ _ _ _ := ⟨hz.wd 1 rfl, hz.wd 0 rfl⟩
    clear hz
    go_simp
    refine (HS2.out _ _ _ _ _ _ _ hR).mono ?_
    rintro e w2 ⟨A3, n3, c3, A4, n4, c4, rfl, hW1, hE1⟩
    exact ⟨_, rfl, ⟨A3, n3, c3, A4, n4, c4, rfl, hW1⟩, hE1⟩
  intro v2
  refine hK _ _ ?_
  clear hK K
  refine wpX_step (fun K hK => ?_)
  go_simp
  refine StepY.any (by rw [HSP.out]; rfl) ?_ ?_
  · intro wz hz hF
    obtain ⟨wa', ea, A5, n5, c5, A6, n6, c6, hv1, hw1⟩ := hF.any 3 (by kernel_rfl) (by rw [HSP.out]; rfl)
    obtain ⟨wb', eb, A7, n7, c7, A8, n8, c8, hv2, hw2⟩ := hF.any 7 (by kernel_rfl) (by rw [HSP.out]; rfl)
    clear hF hz
    simp only [asFun, List.nil_append, List.cons_append, List.getD_cons_succ, List.getD_cons_zero] at hv1 hv2
    subst hv1 hv2
    go_simp
    exact ⟨⟨A5, n5, c5, A6, n6, c6, A7, n7, c7, A8, n8, c8, rfl, hw1.ext ea, hw2.ext eb⟩, Ext.refl _⟩
  intro v3
  refine hK _ _ ?_
  clear hK K
  refine wpX_step (fun K hK => ?_)
  go_simp
  refine StepY.det (by rw [HSP.out]; rfl) ?_ ?_
  · intro wz hz hF
    obtain ⟨wa', ea, A5, n5, c5, A6, n6, c6, A7, n7, c7, A8, n8, c8, hv1, hw1, hw2⟩ := hF.any 8 (by kernel_rfl) (by rw [HSP.out]; rfl)
    clear hF hz
    simp only [asFun, List.nil_append, List.cons_append, List.getD_cons_succ, List.getD_cons_zero] at hv1
    subst hv1
    go_simp
    refine (HLE.out _ _ _ _ _ _ _ _ _ _ _ _ _ (hw1.ext ea) (hw2.ext ea)).mono ?_
    rintro e w2 ⟨rfl, hE1⟩
    exact ⟨_, rfl, rfl, hE1⟩
  refine hK _ _ ?_
  clear hK K
  refine wpX_nil ?_
  intro w14 hz hF
  clear hF
  rw [HS.out] at hz
  have hO := hz
  have hf := hO.cells
  simp only [BC, CC, Nat.zero_add, Nat.reduceAdd, and_true] at hf
  clear hz
  go_wp2_with ((with_reducible refine at_store (T := 49) ?_); refine own_store (T := 49) hO 1 rfl rfl rfl size_Ih rfl rfl rfl ?_; clear hO; intro w6 hO; simp only [List.set_cons_zero, List.set_cons_succ, spl, List.take_succ_cons, List.take_zero, List.nil_append, List.cons_append, List.length_cons, List.length_nil, List.drop_succ_cons, List.drop_zero, List.drop_nil, Nat.reduceAdd, Nat.zero_add, List.append_nil] at hO; clear hf; have hf := hO.cells; simp only [BC, CC, Nat.zero_add, Nat.reduceAdd, and_true] at hf)
  exact own_ret hO 1 rfl rfl rfl agg_Ih size_Ih rfl ⟨rfl, hO.toExt⟩

/-- What Steps answers. -/
def toLo (k x1 x2 : Nat) : Nat := if emp x1 x2 then infR else lsLo (teI k (rdLo x1 x2)) (teS k (rdLo x1 x2)) (teN k (rdLo x1 x2)) (teD k (rdLo x1 x2))
def toHi (k x1 x2 : Nat) : Nat := if emp x1 x2 then minf else lsHi (teI k (rdHi x1 x2)) (teS k (rdHi x1 x2)) (teN k (rdHi x1 x2)) (teD k (rdHi x1 x2))
theorem te_sz (k x : Nat) : nw (teN k x) ≤ 1073741824 ∧ nw (teD k x) ≤ 1073741824 ∧ teD k x ≠ 0 := by
  obtain ⟨b1, b2⟩ := bN_small x
  have h1 : nw 1 ≤ 1073741824 := by decide
  have hz : stZ k (bNeg x) (bN x) (bD x) ≤ bN x + 1 := by
    unfold stZ
    split
    · split <;> omega
    · unfold stQ
      have := Bool.toNat_le (stMo k (bNeg x) (bN x) (bD x))
      have := Nat.div_le_self (bN x) (bD x)
      omega
  have hzn : nw (stZ k (bNeg x) (bN x) (bD x)) ≤ 41 := by
    refine Nat.le_trans (nw_mono hz) ((nw_le_iff _ _).2 ?_)
    have h2 := lt_pow_nw (bN x)
    have h3 : 4294967296 ^ nw (bN x) ≤ 4294967296 ^ 40 := Nat.pow_le_pow_right (by omega) b1
    rw [show (41 : Nat) = 40 + 1 from rfl, Nat.pow_succ]
    omega
  unfold teN teD
  refine ⟨?_, ?_, ?_⟩
  · split
    · omega
    · split
      · exact h1
      · omega
  · split
    · exact h1
    · split
      · exact h1
      · omega
  · split
    · omega
    · split
      · omega
      · exact bD_nz x
theorem steps7_any (k x1 x2 : Nat) (w : World) (hk : k < 6) (hx1 : x1 < 18446744073709551616) (hx2 : x2 < 18446744073709551616) :
    Calls Try.prog 37 #[.int .i64 (k : Int), .agg #[.int .u64 (x1 : Int), .int .u64 (x2 : Int)]] w (RetI (toLo k x1 x2) (toHi k x1 x2) w) := by
  by_cases he : emp x1 x2
  · have e1 : toLo k x1 x2 = infR := if_pos he
    have e2 : toHi k x1 x2 = minf := if_pos he
    rw [e1, e2]
    exact steps_n (k : Int) x1 x2 w _ _ _ _ _ _ _ _ infR minf (Lib.hid fun w => of6_none x1 x2 w hx1 hx2 he) (Lib.hid fun w => empty6_any w)
  · have e1 : toLo k x1 x2 = lsLo (teI k (rdLo x1 x2)) (teS k (rdLo x1 x2)) (teN k (rdLo x1 x2)) (teD k (rdLo x1 x2)) := if_neg he
    have e2 : toHi k x1 x2 = lsHi (teI k (rdHi x1 x2)) (teS k (rdHi x1 x2)) (teN k (rdHi x1 x2)) (teD k (rdHi x1 x2)) := if_neg he
    rw [e1, e2]
    obtain ⟨z1, z2, z3⟩ := te_sz k (rdLo x1 x2)
    obtain ⟨y1, y2, y3⟩ := te_sz k (rdHi x1 x2)
    exact steps_f (k : Int) x1 x2 w _ _ _ _ _ _ _ _ _ _ _ _ _ _ _ _ _ _ (Lib.hid fun w => of6_full x1 x2 w hx1 hx2 he)
      (Lib.hid fun A l c B kk d w g => stepped7_any k (rdLo x1 x2) A l c B kk d w hk g) (Lib.hid fun A l c B kk d w g => stepped7_any k (rdHi x1 x2) A l c B kk d w hk g)
      (Lib.hid fun A1 l1 c1 B1 k1 d1 A2 l2 c2 B2 k2 d2 w g1 g2 => least6_full _ _ A1 l1 c1 B1 k1 d1 _ _ _ _ A2 l2 c2 B2 k2 d2 _ _ w g1 g2 z1 z2 y1 y2 z3 y3)
end Go.Proofs.Ytmcfflecaklpcaa

/-
  Plain: the bound of a pattern that is a number. Conditions: those that each theorem names.
-/
set_option linter.unusedVariables false
set_option linter.unusedSimpArgs false
namespace Go.Proofs.Ytmcfflecaklpcaa
open Nm Rn

theorem b_fin {y : Nat} (h : mg y < infR) : bI y = 0 ∧ bNeg y = (sg y && decide (mg y ≠ 0)) ∧ bN y = fbN y ∧ bD y = fbD y := by
  have hi := infR_val
  have hm := minf_val
  have h1 : y ≠ infR := fun e => by rw [e] at h; exact absurd h (by decide)
  have h2 : y ≠ minf := fun e => by rw [e] at h; exact absurd h (by decide)
  unfold bI bNeg bN bD
  exact ⟨by rw [if_neg h1, if_neg h2], by rw [if_neg h1, if_neg h2], by rw [if_neg h1, if_neg h2], by rw [if_neg h1, if_neg h2]⟩
end Go.Proofs.Ytmcfflecaklpcaa
