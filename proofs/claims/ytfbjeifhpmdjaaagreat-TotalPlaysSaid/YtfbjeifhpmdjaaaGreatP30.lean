/-
  The contract of the document's Mul. Conditions: those that each theorem names.
-/
import Derived.Test.YtfbjeifhpmdjaaaGreatP14
import Derived.Test.YtfbjeifhpmdjaaaGreatP11
import Derived.Test.YtfbjeifhpmdjaaaGreatP16
import Derived.Test.YtfbjeifhpmdjaaaGreatP06
import Derived.Test.YtfbjeifhpmdjaaaGreatP15
import Derived.Test.YtfbjeifhpmdjaaaGreatP29
import Derived.Test.YtfbjeifhpmdjaaaGreatP13
namespace Go.Proofs.YtfbjeifhpmdjaaaGreat
open Go.RowKit Nm Rn
set_option maxRecDepth 100000
set_option linter.unusedVariables false
set_option linter.unusedSimpArgs false

def zB (b : Nat) : Bool := decide (mg b = 0)
set_option maxHeartbeats 400000 in
theorem zero3_any (b : Nat) (w : World) (h : b < 18446744073709551616) :
    Calls Tryz.prog 86 #[.int .u64 (b : Int)] w fun e w' => e = .returned (.bool (zB b)) ∧ w = w' := by
  have g := andNot_top b h
  have HF : Hid (((mg b : Int) == 0) = zB b) := Lib.hid (by unfold zB; rw [Bool.eq_iff_iff, beq_iff_eq, decide_eq_true_iff]; omega)
  clear h
  go_enter Tryz.func86, Tryz.ntmps86
  go_wp2
  go_ret
  exact ⟨ret_bool HF.out, rfl⟩
theorem neg_sg {b : Nat} (h : mg b ≠ 0) : decide (9223372036854775808 < b) = sg b := by
  unfold mg at h
  unfold sg
  exact decide_eq_decide.2 (by omega)
theorem pat_infP (s : Bool) : pat s infR = infP s := by cases s <;> rfl
theorem fracN_le0 (n d : Nat) : fracN n d 0 ≤ n := by
  unfold fracN
  split
  · omega
  · have h1 : ((0 : Int) + tz n - tz d).toNat ≤ tz n := by omega
    have h2 := Nat.pow_le_pow_right (n := 2) (by omega) h1
    have h3 := Nat.mul_le_mul_left (n / 2 ^ tz n) h2
    rwa [tz_div] at h3
theorem fracD_le0 {n d : Nat} (hd : d ≠ 0) : fracD n d 0 ≤ d := by
  unfold fracD
  split
  · omega
  · have h1 : (-((0 : Int) + tz n - tz d)).toNat ≤ tz d := by omega
    have h2 := Nat.pow_le_pow_right (n := 2) (by omega) h1
    have h3 := Nat.mul_le_mul_left (d / 2 ^ tz d) h2
    rwa [tz_div] at h3
theorem nw_le_of {a b k : Nat} (h : a ≤ b) (hb : nw b ≤ k) : nw a ≤ k := (nw_le_iff _ _).2 (Nat.lt_of_le_of_lt h ((nw_le_iff _ _).1 hb))

set_option maxHeartbeats 2000000 in
theorem mul3_any (d : Int) (x y : Nat) (w : World) (hx : x < 18446744073709551616) (hy : y < 18446744073709551616) :
    Calls Tryz.prog 61 #[.int .i64 d, .int .u64 (x : Int), .int .u64 (y : Int)] w fun e w' => e = .returned (.int .u64 (mulR d x y : Nat)) ∧ Ext w w' := by
  have HNX := Lib.hid (fun w => isnan_any x w hx)
  have HNY := Lib.hid (fun w => isnan_any y w hy)
  have HIX := Lib.hid (fun w => isinf3_any x w hx)
  have HIY := Lib.hid (fun w => isinf3_any y w hy)
  have HZX := Lib.hid (fun w => zero3_any x w hx)
  have HZY := Lib.hid (fun w => zero3_any y w hy)
  have hV : mulR d x y = if isNaN x || isNaN y then NaNc else if isInf x || isInf y then (if zB x || zB y then NaNc else infP (sg x != sg y)) else rT d (sv x * sv y) := by
    unfold mulR zB
    congr 2
    simp
  obtain ⟨V, hVV⟩ : ∃ V, V = mulR d x y := ⟨_, rfl⟩
  rw [← hVV] at hV ⊢
  clear hVV
  have hk : isNaN x = false → isNaN y = false → isInf x = false → isInf y = false → True := fun _ _ _ _ => trivial
  obtain ⟨n1, h1⟩ : ∃ b, b = isNaN x := ⟨_, rfl⟩
  obtain ⟨n2, h2⟩ : ∃ b, b = isNaN y := ⟨_, rfl⟩
  obtain ⟨i1, h3⟩ : ∃ b, b = isInf x := ⟨_, rfl⟩
  obtain ⟨i2, h4⟩ : ∃ b, b = isInf y := ⟨_, rfl⟩
  rw [← h1] at HNX hV
  rw [← h2] at HNY hV
  rw [← h3] at HIX hV
  rw [← h4] at HIY hV
  clear h1 h2 h3 h4 hk
  by_cases hn : (n1 || n2) = true
  · rw [if_pos hn] at hV
    have HV : Hid (9221120237041090561 = (V : Int)) := Lib.hid (by rw [hV, NaNc_val]; rfl)
    clear hV HIX HIY HZX HZY hx hy
    cases n1
    · cases n2
      · cases hn
      · go_enter Tryz.func61, Tryz.ntmps61
        go_wp2_with (first | (go_at_call 53; ((with_reducible refine (HNX.out _).mono ?_); rintro e w' ⟨rfl, rfl⟩)) | (go_at_call 53; ((with_reducible refine (HNY.out _).mono ?_); rintro e w' ⟨rfl, rfl⟩)))
        go_ret
        exact ⟨ret_int HV.out, Ext.refl _⟩
    · go_enter Tryz.func61, Tryz.ntmps61
      go_wp2_with (first | (go_at_call 53; ((with_reducible refine (HNX.out _).mono ?_); rintro e w' ⟨rfl, rfl⟩)) | (go_at_call 53; ((with_reducible refine (HNY.out _).mono ?_); rintro e w' ⟨rfl, rfl⟩)))
      go_ret
      exact ⟨ret_int HV.out, Ext.refl _⟩
  · rw [if_neg hn] at hV
    obtain ⟨rfl, rfl⟩ : n1 = false ∧ n2 = false := by cases n1 <;> cases n2 <;> simp_all
    clear hn
    by_cases hi : (i1 || i2) = true
    · rw [if_pos hi] at hV
      have hz1 : zB x = false → decide (9223372036854775808 < x) = sg x := fun h => neg_sg (by unfold zB at h; simpa using h)
      have hz2 : zB y = false → decide (9223372036854775808 < y) = sg y := fun h => neg_sg (by unfold zB at h; simpa using h)
      obtain ⟨z1, h5⟩ : ∃ b, b = zB x := ⟨_, rfl⟩
      obtain ⟨z2, h6⟩ : ∃ b, b = zB y := ⟨_, rfl⟩
      rw [← h5] at HZX hV hz1
      rw [← h6] at HZY hV hz2
      clear h5 h6
      by_cases hz : (z1 || z2) = true
      · rw [if_pos hz] at hV
        have HV : Hid (9221120237041090561 = (V : Int)) := Lib.hid (by rw [hV, NaNc_val]; rfl)
        have hc : (i1 = true ∨ i1 = false ∧ i2 = true) ∧ (z1 = true ∨ z1 = false ∧ z2 = true) := by
          constructor
          · cases i1 <;> cases i2 <;> simp_all
          · cases z1 <;> cases z2 <;> simp_all
        clear hV hx hy hz1 hz2 hi hz
        obtain ⟨ha | ⟨ha, ha2⟩, hb | ⟨hb, hb2⟩⟩ := hc
        all_goals
          subst_vars
          go_enter Tryz.func61, Tryz.ntmps61
          go_wp2_with (first | (go_at_call 53; ((with_reducible refine (HNX.out _).mono ?_); rintro e w' ⟨rfl, rfl⟩)) | (go_at_call 53; ((with_reducible refine (HNY.out _).mono ?_); rintro e w' ⟨rfl, rfl⟩)) | (go_at_call 54; ((with_reducible refine (HIX.out _).mono ?_); rintro e w' ⟨rfl, rfl⟩)) | (go_at_call 54; ((with_reducible refine (HIY.out _).mono ?_); rintro e w' ⟨rfl, rfl⟩)) | (go_at_call 86; ((with_reducible refine (HZX.out _).mono ?_); rintro e w' ⟨rfl, rfl⟩)) | (go_at_call 86; ((with_reducible refine (HZY.out _).mono ?_); rintro e w' ⟨rfl, rfl⟩)))
          go_ret
          exact ⟨ret_int HV.out, Ext.refl _⟩
      · rw [if_neg hz] at hV
        obtain ⟨rfl, rfl⟩ : z1 = false ∧ z2 = false := by cases z1 <;> cases z2 <;> simp_all
        have hs1 := hz1 rfl
        have hs2 := hz2 rfl
        have HSX := Lib.hid (fun w => neg3_any x w)
        have HSY := Lib.hid (fun w => neg3_any y w)
        rw [hs1] at HSX
        rw [hs2] at HSY
        have HINF := Lib.hid (fun w => infinite_any (!(sg x == sg y)) w)
        rw [pat_infP, show infP (!(sg x == sg y)) = V from hV.symm] at HINF
        generalize sg x = s1 at *
        generalize sg y = s2 at *
        have hc : i1 = true ∨ i1 = false ∧ i2 = true := by cases i1 <;> cases i2 <;> simp_all
        clear hV hx hy hz1 hz2 hi hz hs1 hs2
        obtain ha | ⟨ha, ha2⟩ := hc
        all_goals
          subst_vars
          go_enter Tryz.func61, Tryz.ntmps61
          go_wp2_with (first | (go_at_call 53; ((with_reducible refine (HNX.out _).mono ?_); rintro e w' ⟨rfl, rfl⟩)) | (go_at_call 53; ((with_reducible refine (HNY.out _).mono ?_); rintro e w' ⟨rfl, rfl⟩)) | (go_at_call 54; ((with_reducible refine (HIX.out _).mono ?_); rintro e w' ⟨rfl, rfl⟩)) | (go_at_call 54; ((with_reducible refine (HIY.out _).mono ?_); rintro e w' ⟨rfl, rfl⟩)) | (go_at_call 86; ((with_reducible refine (HZX.out _).mono ?_); rintro e w' ⟨rfl, rfl⟩)) | (go_at_call 86; ((with_reducible refine (HZY.out _).mono ?_); rintro e w' ⟨rfl, rfl⟩)) | (go_at_call 55; ((with_reducible refine (HSX.out _).mono ?_); rintro e w' ⟨rfl, rfl⟩)) | (go_at_call 55; ((with_reducible refine (HSY.out _).mono ?_); rintro e w' ⟨rfl, rfl⟩)) | (go_at_call 87; ((with_reducible refine (HINF.out _).mono ?_); rintro e w' ⟨rfl, rfl⟩)))
          go_ret
          exact ⟨rfl, Ext.refl _⟩
    · rw [if_neg hi] at hV
      obtain ⟨rfl, rfl⟩ : i1 = false ∧ i2 = false := by cases i1 <;> cases i2 <;> simp_all
      clear hi
      obtain ⟨n, hn⟩ : ∃ n, n = (sg x && decide (mg x ≠ 0)) := ⟨_, rfl⟩
      obtain ⟨m, hm⟩ : ∃ m, m = (sg y && decide (mg y ≠ 0)) := ⟨_, rfl⟩
      have hf := mul_ref d x y hn hm
      rw [← hV] at hf
      have hF1 := fun w => frombits_any x w hx
      have hF2 := fun w => frombits_any y w hy
      rw [← hn] at hF1
      rw [← hm] at hF2
      have b1 := fbN_bits x
      have b2 := fbD_bits x
      have b3 := fbN_bits y
      have b4 := fbD_bits y
      have p1 := fbD_pos x
      have p2 := fbD_pos y
      have HM := Lib.hid (fun A l c B k e A' l' c' B' k' e' w h h' => rmulq_any n m A l c B k e (fbN x) (fbD x) A' l' c' B' k' e' (fbN y) (fbD y) w h h' (by omega) (by omega) (by omega) (by omega) (Nat.mul_pos p1 p2))
      have hQ := Nat.mul_pos p1 p2
      have c1 := nw_mul2 (fbN x) (fbN y)
      have c2 := nw_mul2 (fbD x) (fbD y)
      have c3 := nw_le_of (fracN_le0 (fbN x * fbN y) (fbD x * fbD y)) (Nat.le_refl _)
      have c4 := nw_le_of (fracD_le0 (n := fbN x * fbN y) (d := fbD x * fbD y) (by omega)) (Nat.le_refl _)
      have HB := Lib.hid (fun A l c B k e w h => bits3_any d ((n != m) && decide (fbN x * fbN y ≠ 0)) A l c B k e (fracN (fbN x * fbN y) (fbD x * fbD y) 0) (fracD (fbN x * fbN y) (fbD x * fbD y) 0) w h (by omega) (by omega) (Nat.ne_of_gt (fracD_pos _ (by omega))))
      rw [hf] at HB
      generalize ((n != m) && decide (fbN x * fbN y ≠ 0)) = zz at HM HB
      have HF1 := Lib.hid hF1
      have HF2 := Lib.hid hF2
      clear hf hF1 hF2 hV hx hy b1 b2 b3 b4 p1 p2 hQ c1 c2 c3 c4 hn hm
      go_enter Tryz.func61, Tryz.ntmps61
      go_wp2_with (first | (go_at_call 53; ((with_reducible refine (HNX.out _).mono ?_); rintro e w' ⟨rfl, rfl⟩)) | (go_at_call 53; ((with_reducible refine (HNY.out _).mono ?_); rintro e w' ⟨rfl, rfl⟩)) | (go_at_call 54; ((with_reducible refine (HIX.out _).mono ?_); rintro e w' ⟨rfl, rfl⟩)) | (go_at_call 54; ((with_reducible refine (HIY.out _).mono ?_); rintro e w' ⟨rfl, rfl⟩)))
      refine (HF1.out _).mono ?_
      rintro e w2 ⟨A1, n1, c1, B1, k1, d1, rfl, hA1, hB1, hE1⟩
      go_wp2_with fail
      refine (HF2.out _).mono ?_
      rintro e w3 ⟨A2, n2, c2, B2, k2, d2, rfl, hA2, hB2, hE2⟩
      go_wp2_with fail
      refine (HM.out _ _ _ _ _ _ _ _ _ _ _ _ _ ⟨hA1.ext hE2, hB1.ext hE2⟩ ⟨hA2, hB2⟩).mono ?_
      rintro e w4 ⟨A3, n3, c3, B3, k3, d3, rfl, hA3, hB3, hE3⟩
      go_wp2_with fail
      refine (HB.out _ _ _ _ _ _ _ ⟨hA3, hB3⟩).mono ?_
      rintro e w5 ⟨rfl, hE4⟩
      go_wp2
      go_ret
      exact ⟨rfl, ((hE1.trans hE2).trans hE3).trans hE4⟩
end Go.Proofs.YtfbjeifhpmdjaaaGreat

/-
  The contracts of the document's sums, first part: more, New, Add. Conditions: those that each theorem names.
-/
namespace Go.Proofs.YtfbjeifhpmdjaaaGreat
open Go.RowKit Nm Rn
set_option maxRecDepth 100000
set_option linter.unusedVariables false
set_option linter.unusedSimpArgs false

theorem size_u64d (w : World) : (sizeOf 24).run Tryz.prog w = .ok 1 w := by kernel_rfl
theorem size_boold (w : World) : (sizeOf 4).run Tryz.prog w = .ok 1 w := by kernel_rfl
theorem size_ds (w : World) : (sizeOf 40).run Tryz.prog w = .ok 7 w := by kernel_rfl
theorem agg_ds (w : World) : (isAgg 40).run Tryz.prog w = .ok true w := by kernel_rfl
theorem zero_ds (w : World) : (zeroValue 40).run Tryz.prog w = .ok (.agg #[.bool false, .slice none 0 0, .slice none 0 0, .bool false, .bool false, .bool false, .int .u64 0]) w := by kernel_rfl
/-- The document's sum, as a value. -/
abbrev dsV (s : Bool) (A : Option Addr) (l c : Nat) (B : Option Addr) (k d : Nat) (p m n : Bool) (t : Nat) : Value := .agg #[.bool s, .slice A l c, .slice B k d, .bool p, .bool m, .bool n, .int .u64 (t : Int)]
def RetDS (Z : Sm) (w : World) (e : Ending) (w' : World) : Prop :=
  ∃ s N D A l c B k d, e = .returned (dsV s A l c B k d Z.p Z.m Z.n Z.t) ∧ Hid (DR Z.T s N D) ∧ RatAt w' A l c B k d N D ∧ Ext w w'
section
variable {w : World} {A B : Option Addr} {l c k d N D t : Nat} {s p m n : Bool}
set_option maxHeartbeats 4000000 in
theorem dmore_any (j : Nat) (ht : t ≤ 4611686018427387904) (hj : j ≤ 4611686018427387904) :
    Calls Tryz.prog 52 #[dsV s A l c B k d p m n t, .int .u64 (j : Int)] w fun e w' => e = .returned (dsV s A l c B k d p m (cntN n t j) (cnt t j)) ∧ Ext w w' := by
  obtain ⟨tn, htn⟩ : ∃ tn, tn = t + j := ⟨_, rfl⟩
  have e1 : (t : Int) + (j : Int) = (tn : Int) := by omega
  have hb1 : tn < 18446744073709551616 := by omega
  have hwr : IntKind.u64.wrap ((t : Int) + (j : Int)) = (tn : Int) := by simp [IntKind.wrap, IntKind.bits, IntKind.signed]; omega
  have HC : Hid (cnt t j = if 4611686018427387904 < tn then 4611686018427387904 else tn) := Lib.hid (by rw [htn]; rfl)
  have HN : Hid (cntN n t j = (n || decide (4611686018427387904 < tn))) := Lib.hid (by rw [htn]; rfl)
  clear htn ht hj
  have hO := Own.start w
  have hf : True := trivial
  by_cases hd : 4611686018427387904 < tn
  · have g1 : decide ((4611686018427387904 : Int) < (tn : Int)) = true := decide_eq_true (by omega)
    have HD := Lib.hid hd
    clear hd
    rw [HC.out, HN.out, if_pos HD.out, decide_eq_true HD.out, Bool.or_true]
    go_enter Tryz.func52, Tryz.ntmps52
    go_wp2_with (first | ((with_reducible refine at_box ?_); refine own_box (cs := [.bool s, .slice A l c, .slice B k d, .bool p, .bool m, .bool n, .int .u64 (t : Int)]) hO rfl rfl ?_; clear hO; intro g wa hO; clear hf; have hf := hO.cells; simp only [BC, CC, Nat.zero_add, Nat.reduceAdd, and_true] at hf) | ((with_reducible refine at_alloc ?_); refine own_alloc hO zero_ds rfl rfl ?_; clear hO; intro gr wb hO; clear hf; have hf := hO.cells; simp only [BC, CC, Nat.zero_add, Nat.reduceAdd, and_true] at hf) | ((with_reducible refine at_store (T := 24) ?_); refine own_store (vs := [.int .u64 (tn : Int)]) (T := 24) hO 1 rfl rfl rfl size_u64d rfl rfl rfl ?_; clear hO; intro w1 hO; simp only [List.set_cons_zero, List.set_cons_succ, spl, List.take_succ_cons, List.take_zero, List.nil_append, List.cons_append, List.length_cons, List.length_nil, List.drop_succ_cons, List.drop_zero, List.drop_nil, Nat.reduceAdd, Nat.zero_add, List.append_nil] at hO; clear hf; have hf := hO.cells; simp only [BC, CC, Nat.zero_add, Nat.reduceAdd, and_true] at hf) | ((with_reducible refine at_store (T := 4) ?_); refine own_store (vs := [.bool true]) (T := 4) hO 1 rfl rfl rfl size_boold rfl rfl rfl ?_; clear hO; intro w2 hO; simp only [List.set_cons_zero, List.set_cons_succ, spl, List.take_succ_cons, List.take_zero, List.nil_append, List.cons_append, List.length_cons, List.length_nil, List.drop_succ_cons, List.drop_zero, List.drop_nil, Nat.reduceAdd, Nat.zero_add, List.append_nil] at hO; clear hf; have hf := hO.cells; simp only [BC, CC, Nat.zero_add, Nat.reduceAdd, and_true] at hf) | ((with_reducible refine at_store (T := 24) ?_); refine own_store (vs := [.int .u64 4611686018427387904]) (T := 24) hO 1 rfl rfl rfl size_u64d rfl rfl rfl ?_; clear hO; intro w3 hO; simp only [List.set_cons_zero, List.set_cons_succ, spl, List.take_succ_cons, List.take_zero, List.nil_append, List.cons_append, List.length_cons, List.length_nil, List.drop_succ_cons, List.drop_zero, List.drop_nil, Nat.reduceAdd, Nat.zero_add, List.append_nil] at hO; clear hf; have hf := hO.cells; simp only [BC, CC, Nat.zero_add, Nat.reduceAdd, and_true] at hf) | ((with_reducible refine at_store (T := 40) ?_); refine own_store (vs := [.bool s, .slice A l c, .slice B k d, .bool p, .bool m, .bool true, .int .u64 4611686018427387904]) (T := 40) hO 0 rfl rfl rfl size_ds rfl rfl rfl ?_; clear hO; intro w4 hO; simp only [List.set_cons_zero, List.set_cons_succ, spl, List.take_succ_cons, List.take_zero, List.nil_append, List.cons_append, List.length_cons, List.length_nil, List.drop_succ_cons, List.drop_zero, List.drop_nil, Nat.reduceAdd, Nat.zero_add, List.append_nil] at hO; clear hf; have hf := hO.cells; simp only [BC, CC, Nat.zero_add, Nat.reduceAdd, and_true] at hf))
    exact own_ret hO 0 rfl rfl rfl agg_ds size_ds rfl ⟨rfl, hO.toExt⟩
  · have g1 : decide ((4611686018427387904 : Int) < (tn : Int)) = false := decide_eq_false (by omega)
    have HD := Lib.hid hd
    clear hd
    rw [HC.out, HN.out, if_neg HD.out, decide_eq_false HD.out, Bool.or_false]
    go_enter Tryz.func52, Tryz.ntmps52
    go_wp2_with (first | ((with_reducible refine at_box ?_); refine own_box (cs := [.bool s, .slice A l c, .slice B k d, .bool p, .bool m, .bool n, .int .u64 (t : Int)]) hO rfl rfl ?_; clear hO; intro g wa hO; clear hf; have hf := hO.cells; simp only [BC, CC, Nat.zero_add, Nat.reduceAdd, and_true] at hf) | ((with_reducible refine at_alloc ?_); refine own_alloc hO zero_ds rfl rfl ?_; clear hO; intro gr wb hO; clear hf; have hf := hO.cells; simp only [BC, CC, Nat.zero_add, Nat.reduceAdd, and_true] at hf) | ((with_reducible refine at_store (T := 24) ?_); refine own_store (vs := [.int .u64 (tn : Int)]) (T := 24) hO 1 rfl rfl rfl size_u64d rfl rfl rfl ?_; clear hO; intro w1 hO; simp only [List.set_cons_zero, List.set_cons_succ, spl, List.take_succ_cons, List.take_zero, List.nil_append, List.cons_append, List.length_cons, List.length_nil, List.drop_succ_cons, List.drop_zero, List.drop_nil, Nat.reduceAdd, Nat.zero_add, List.append_nil] at hO; clear hf; have hf := hO.cells; simp only [BC, CC, Nat.zero_add, Nat.reduceAdd, and_true] at hf) | ((with_reducible refine at_store (T := 4) ?_); refine own_store (vs := [.bool true]) (T := 4) hO 1 rfl rfl rfl size_boold rfl rfl rfl ?_; clear hO; intro w2 hO; simp only [List.set_cons_zero, List.set_cons_succ, spl, List.take_succ_cons, List.take_zero, List.nil_append, List.cons_append, List.length_cons, List.length_nil, List.drop_succ_cons, List.drop_zero, List.drop_nil, Nat.reduceAdd, Nat.zero_add, List.append_nil] at hO; clear hf; have hf := hO.cells; simp only [BC, CC, Nat.zero_add, Nat.reduceAdd, and_true] at hf) | ((with_reducible refine at_store (T := 24) ?_); refine own_store (vs := [.int .u64 4611686018427387904]) (T := 24) hO 1 rfl rfl rfl size_u64d rfl rfl rfl ?_; clear hO; intro w3 hO; simp only [List.set_cons_zero, List.set_cons_succ, spl, List.take_succ_cons, List.take_zero, List.nil_append, List.cons_append, List.length_cons, List.length_nil, List.drop_succ_cons, List.drop_zero, List.drop_nil, Nat.reduceAdd, Nat.zero_add, List.append_nil] at hO; clear hf; have hf := hO.cells; simp only [BC, CC, Nat.zero_add, Nat.reduceAdd, and_true] at hf) | ((with_reducible refine at_store (T := 40) ?_); refine own_store (vs := [.bool s, .slice A l c, .slice B k d, .bool p, .bool m, .bool n, .int .u64 (tn : Int)]) (T := 40) hO 0 rfl rfl rfl size_ds rfl rfl rfl ?_; clear hO; intro w4 hO; simp only [List.set_cons_zero, List.set_cons_succ, spl, List.take_succ_cons, List.take_zero, List.nil_append, List.cons_append, List.length_cons, List.length_nil, List.drop_succ_cons, List.drop_zero, List.drop_nil, Nat.reduceAdd, Nat.zero_add, List.append_nil] at hO; clear hf; have hf := hO.cells; simp only [BC, CC, Nat.zero_add, Nat.reduceAdd, and_true] at hf))
    exact own_ret hO 0 rfl rfl rfl agg_ds size_ds rfl ⟨rfl, hO.toExt⟩
set_option maxHeartbeats 2000000 in
theorem dnew_any : Calls Tryz.prog 17 #[] w (RetDS Sm.nil w) := by
  have HI0 : Hid (∀ w, Calls Tryz.prog 45 #[.int .i64 0] w (RetR false 0 1 w)) := Lib.hid (fun w => int_any 0 w (by omega))
  have hO := Own.start w
  have hf : True := trivial
  go_enter Tryz.func17, Tryz.ntmps17
  go_wp2_with (first | ((with_reducible refine at_alloc ?_); refine own_alloc hO zero_ds rfl rfl ?_; clear hO; intro gr wb hO; clear hf; have hf := hO.cells; simp only [BC, CC, Nat.zero_add, Nat.reduceAdd, and_true] at hf) | (go_at_call 45; (with_reducible refine (HI0.out _).mono ?_); rintro e w3 ⟨A0, l0, c0, B0, k0, d0, rfl, hA0, hB0, hE⟩; have hO := ((hO.ext hE).add hA0).add hB0; clear hE hA0 hB0; clear hf; have hf := hO.cells; simp only [BC, CC, Nat.zero_add, Nat.reduceAdd, and_true] at hf) | ((with_reducible refine at_store (T := 40) ?_); refine own_store (vs := [.bool false, .slice A0 l0 c0, .slice B0 k0 d0, .bool false, .bool false, .bool false, .int .u64 0]) (T := 40) hO 0 rfl rfl rfl size_ds rfl rfl rfl ?_; clear hO; intro w4 hO; simp only [List.set_cons_zero, List.set_cons_succ, spl, List.take_succ_cons, List.take_zero, List.nil_append, List.cons_append, List.length_cons, List.length_nil, List.drop_succ_cons, List.drop_zero, List.drop_nil, Nat.reduceAdd, Nat.zero_add, List.append_nil] at hO; clear hf; have hf := hO.cells; simp only [BC, CC, Nat.zero_add, Nat.reduceAdd, and_true] at hf))
  exact own_ret hO 0 rfl rfl rfl agg_ds size_ds rfl ⟨_, _, _, _, _, _, _, _, _, rfl, Lib.hid DR.nil, ⟨hO.wd 1 rfl, hO.wd 0 rfl⟩, hO.toExt⟩
end
end Go.Proofs.YtfbjeifhpmdjaaaGreat

/-
  The contracts of the document's sums, second part: Add, Mul, State, Round. Conditions: those that each theorem names.
-/
namespace Go.Proofs.YtfbjeifhpmdjaaaGreat
open Go.RowKit Nm Rn
set_option maxRecDepth 100000
set_option linter.unusedVariables false
set_option linter.unusedSimpArgs false

section
variable {w : World} {A B : Option Addr} {l c k d N D : Nat} {s : Bool}
set_option maxHeartbeats 4000000 in
theorem dadd_any (Z : Sm) (x : Nat) (hx : x < 18446744073709551616) (ht : Z.t ≤ 4611686018427387904) (hT : nw Z.T.natAbs ≤ 1000) (h : DR Z.T s N D) (hr : RatAt w A l c B k d N D) :
    Calls Tryz.prog 21 #[dsV s A l c B k d Z.p Z.m Z.n Z.t, .int .u64 (x : Int)] w (RetDS (Z.add x) w) := by
  have HM : Hid (∀ w, Calls Tryz.prog 52 #[dsV s A l c B k d Z.p Z.m Z.n Z.t, .int .u64 1] w fun e w' => e = .returned (dsV s A l c B k d Z.p Z.m (cntN Z.n Z.t 1) (cnt Z.t 1)) ∧ Ext w w') := Lib.hid (fun w => dmore_any 1 ht (by omega))
  have hO := ((Own.start w).add hr.1).add hr.2
  have hf : True := trivial
  have HNX := Lib.hid (fun w => isnan_any x w hx)
  have HIX := Lib.hid (fun w => isinf3_any x w hx)
  have HSX := Lib.hid (fun w => neg3_any x w)
  have HDR := Lib.hid h
  obtain ⟨t1, ht1⟩ : ∃ t1, t1 = cnt Z.t 1 := ⟨_, rfl⟩
  obtain ⟨n1, hn1⟩ : ∃ n1, n1 = cntN Z.n Z.t 1 := ⟨_, rfl⟩
  rw [← ht1, ← hn1] at HM
  by_cases hn : isNaN x = true
  · have e : Z.add x = ⟨Z.T, Z.p, Z.m, true, t1⟩ := by unfold Sm.add; rw [if_pos hn, ht1]
    rw [e]
    rw [hn] at HNX
    clear e hn ht1 hn1 h hr hT ht hx
    go_enter Tryz.func21, Tryz.ntmps21
    go_wp2_with (first | ((with_reducible refine at_box ?_); refine own_box (cs := [.bool s, .slice A l c, .slice B k d, .bool Z.p, .bool Z.m, .bool Z.n, .int .u64 (Z.t : Int)]) hO rfl rfl ?_; clear hO; intro g wa hO; clear hf; have hf := hO.cells; simp only [BC, CC, Nat.zero_add, Nat.reduceAdd, and_true] at hf) | ((with_reducible refine at_alloc ?_); refine own_alloc hO zero_ds rfl rfl ?_; clear hO; intro gr wb hO; clear hf; have hf := hO.cells; simp only [BC, CC, Nat.zero_add, Nat.reduceAdd, and_true] at hf) | (go_at_call 52; (with_reducible refine (HM.out _).mono ?_); rintro e w3 ⟨rfl, hE⟩; have hO := hO.ext hE; clear hE; clear hf; have hf := hO.cells; simp only [BC, CC, Nat.zero_add, Nat.reduceAdd, and_true] at hf) | ((with_reducible refine at_store (T := 40) ?_); refine own_store (vs := [.bool s, .slice A l c, .slice B k d, .bool Z.p, .bool Z.m, .bool n1, .int .u64 (t1 : Int)]) (T := 40) hO 1 rfl rfl rfl size_ds rfl rfl rfl ?_; clear hO; intro w4 hO; simp only [List.set_cons_zero, List.set_cons_succ, spl, List.take_succ_cons, List.take_zero, List.nil_append, List.cons_append, List.length_cons, List.length_nil, List.drop_succ_cons, List.drop_zero, List.drop_nil, Nat.reduceAdd, Nat.zero_add, List.append_nil] at hO; clear hf; have hf := hO.cells; simp only [BC, CC, Nat.zero_add, Nat.reduceAdd, and_true] at hf) | (go_at_call 53; (with_reducible refine (HNX.out _).mono ?_); rintro e w5 ⟨rfl, rfl⟩) | (go_at_call 54; (with_reducible refine (HIX.out _).mono ?_); rintro e w5 ⟨rfl, rfl⟩) | (go_at_call 55; (with_reducible refine (HSX.out _).mono ?_); rintro e w5 ⟨rfl, rfl⟩) | ((with_reducible refine at_store (T := 4) ?_); refine own_store (vs := [.bool true]) (T := 4) hO 1 rfl rfl rfl size_boold rfl rfl rfl ?_; clear hO; intro w6 hO; simp only [List.set_cons_zero, List.set_cons_succ, spl, List.take_succ_cons, List.take_zero, List.nil_append, List.cons_append, List.length_cons, List.length_nil, List.drop_succ_cons, List.drop_zero, List.drop_nil, Nat.reduceAdd, Nat.zero_add, List.append_nil] at hO; clear hf; have hf := hO.cells; simp only [BC, CC, Nat.zero_add, Nat.reduceAdd, and_true] at hf) | ((with_reducible refine at_store (T := 40) ?_); refine own_store (vs := [.bool s, .slice A l c, .slice B k d, .bool Z.p, .bool Z.m, .bool true, .int .u64 (t1 : Int)]) (T := 40) hO 0 rfl rfl rfl size_ds rfl rfl rfl ?_; clear hO; intro w7 hO; simp only [List.set_cons_zero, List.set_cons_succ, spl, List.take_succ_cons, List.take_zero, List.nil_append, List.cons_append, List.length_cons, List.length_nil, List.drop_succ_cons, List.drop_zero, List.drop_nil, Nat.reduceAdd, Nat.zero_add, List.append_nil] at hO; clear hf; have hf := hO.cells; simp only [BC, CC, Nat.zero_add, Nat.reduceAdd, and_true] at hf))
    exact own_ret hO 0 rfl rfl rfl agg_ds size_ds rfl ⟨s, N, D, A, l, c, B, k, d, rfl, HDR, ⟨hO.wd 1 rfl, hO.wd 0 rfl⟩, hO.toExt⟩
  · have hnf : isNaN x = false := by simpa using hn
    rw [hnf] at HNX
    by_cases hi : isInf x = true
    · rw [hi] at HIX
      have hm0 : mg x ≠ 0 := by
        have h1 := infR_val
        unfold isInf at hi
        have := of_decide_eq_true hi
        omega
      rw [neg_sg hm0] at HSX
      by_cases hs : sg x = true
      · have e : Z.add x = ⟨Z.T, Z.p, true, n1, t1⟩ := by unfold Sm.add; rw [if_neg hn, if_pos hi, if_pos hs, ht1, hn1]
        rw [e]
        rw [hs] at HSX
        clear e hn hnf hi hm0 hs ht1 hn1 h hr hT ht hx
        go_enter Tryz.func21, Tryz.ntmps21
        go_wp2_with (first | ((with_reducible refine at_box ?_); refine own_box (cs := [.bool s, .slice A l c, .slice B k d, .bool Z.p, .bool Z.m, .bool Z.n, .int .u64 (Z.t : Int)]) hO rfl rfl ?_; clear hO; intro g wa hO; clear hf; have hf := hO.cells; simp only [BC, CC, Nat.zero_add, Nat.reduceAdd, and_true] at hf) | ((with_reducible refine at_alloc ?_); refine own_alloc hO zero_ds rfl rfl ?_; clear hO; intro gr wb hO; clear hf; have hf := hO.cells; simp only [BC, CC, Nat.zero_add, Nat.reduceAdd, and_true] at hf) | (go_at_call 52; (with_reducible refine (HM.out _).mono ?_); rintro e w3 ⟨rfl, hE⟩; have hO := hO.ext hE; clear hE; clear hf; have hf := hO.cells; simp only [BC, CC, Nat.zero_add, Nat.reduceAdd, and_true] at hf) | ((with_reducible refine at_store (T := 40) ?_); refine own_store (vs := [.bool s, .slice A l c, .slice B k d, .bool Z.p, .bool Z.m, .bool n1, .int .u64 (t1 : Int)]) (T := 40) hO 1 rfl rfl rfl size_ds rfl rfl rfl ?_; clear hO; intro w4 hO; simp only [List.set_cons_zero, List.set_cons_succ, spl, List.take_succ_cons, List.take_zero, List.nil_append, List.cons_append, List.length_cons, List.length_nil, List.drop_succ_cons, List.drop_zero, List.drop_nil, Nat.reduceAdd, Nat.zero_add, List.append_nil] at hO; clear hf; have hf := hO.cells; simp only [BC, CC, Nat.zero_add, Nat.reduceAdd, and_true] at hf) | (go_at_call 53; (with_reducible refine (HNX.out _).mono ?_); rintro e w5 ⟨rfl, rfl⟩) | (go_at_call 54; (with_reducible refine (HIX.out _).mono ?_); rintro e w5 ⟨rfl, rfl⟩) | (go_at_call 55; (with_reducible refine (HSX.out _).mono ?_); rintro e w5 ⟨rfl, rfl⟩) | ((with_reducible refine at_store (T := 4) ?_); refine own_store (vs := [.bool true]) (T := 4) hO 1 rfl rfl rfl size_boold rfl rfl rfl ?_; clear hO; intro w6 hO; simp only [List.set_cons_zero, List.set_cons_succ, spl, List.take_succ_cons, List.take_zero, List.nil_append, List.cons_append, List.length_cons, List.length_nil, List.drop_succ_cons, List.drop_zero, List.drop_nil, Nat.reduceAdd, Nat.zero_add, List.append_nil] at hO; clear hf; have hf := hO.cells; simp only [BC, CC, Nat.zero_add, Nat.reduceAdd, and_true] at hf) | ((with_reducible refine at_store (T := 40) ?_); refine own_store (vs := [.bool s, .slice A l c, .slice B k d, .bool Z.p, .bool true, .bool n1, .int .u64 (t1 : Int)]) (T := 40) hO 0 rfl rfl rfl size_ds rfl rfl rfl ?_; clear hO; intro w7 hO; simp only [List.set_cons_zero, List.set_cons_succ, spl, List.take_succ_cons, List.take_zero, List.nil_append, List.cons_append, List.length_cons, List.length_nil, List.drop_succ_cons, List.drop_zero, List.drop_nil, Nat.reduceAdd, Nat.zero_add, List.append_nil] at hO; clear hf; have hf := hO.cells; simp only [BC, CC, Nat.zero_add, Nat.reduceAdd, and_true] at hf))
        exact own_ret hO 0 rfl rfl rfl agg_ds size_ds rfl ⟨s, N, D, A, l, c, B, k, d, rfl, HDR, ⟨hO.wd 1 rfl, hO.wd 0 rfl⟩, hO.toExt⟩
      · have e : Z.add x = ⟨Z.T, true, Z.m, n1, t1⟩ := by unfold Sm.add; rw [if_neg hn, if_pos hi, if_neg hs, ht1, hn1]
        rw [e]
        have hsf : sg x = false := by simpa using hs
        rw [hsf] at HSX
        clear e hn hnf hi hm0 hs hsf ht1 hn1 h hr hT ht hx
        go_enter Tryz.func21, Tryz.ntmps21
        go_wp2_with (first | ((with_reducible refine at_box ?_); refine own_box (cs := [.bool s, .slice A l c, .slice B k d, .bool Z.p, .bool Z.m, .bool Z.n, .int .u64 (Z.t : Int)]) hO rfl rfl ?_; clear hO; intro g wa hO; clear hf; have hf := hO.cells; simp only [BC, CC, Nat.zero_add, Nat.reduceAdd, and_true] at hf) | ((with_reducible refine at_alloc ?_); refine own_alloc hO zero_ds rfl rfl ?_; clear hO; intro gr wb hO; clear hf; have hf := hO.cells; simp only [BC, CC, Nat.zero_add, Nat.reduceAdd, and_true] at hf) | (go_at_call 52; (with_reducible refine (HM.out _).mono ?_); rintro e w3 ⟨rfl, hE⟩; have hO := hO.ext hE; clear hE; clear hf; have hf := hO.cells; simp only [BC, CC, Nat.zero_add, Nat.reduceAdd, and_true] at hf) | ((with_reducible refine at_store (T := 40) ?_); refine own_store (vs := [.bool s, .slice A l c, .slice B k d, .bool Z.p, .bool Z.m, .bool n1, .int .u64 (t1 : Int)]) (T := 40) hO 1 rfl rfl rfl size_ds rfl rfl rfl ?_; clear hO; intro w4 hO; simp only [List.set_cons_zero, List.set_cons_succ, spl, List.take_succ_cons, List.take_zero, List.nil_append, List.cons_append, List.length_cons, List.length_nil, List.drop_succ_cons, List.drop_zero, List.drop_nil, Nat.reduceAdd, Nat.zero_add, List.append_nil] at hO; clear hf; have hf := hO.cells; simp only [BC, CC, Nat.zero_add, Nat.reduceAdd, and_true] at hf) | (go_at_call 53; (with_reducible refine (HNX.out _).mono ?_); rintro e w5 ⟨rfl, rfl⟩) | (go_at_call 54; (with_reducible refine (HIX.out _).mono ?_); rintro e w5 ⟨rfl, rfl⟩) | (go_at_call 55; (with_reducible refine (HSX.out _).mono ?_); rintro e w5 ⟨rfl, rfl⟩) | ((with_reducible refine at_store (T := 4) ?_); refine own_store (vs := [.bool true]) (T := 4) hO 1 rfl rfl rfl size_boold rfl rfl rfl ?_; clear hO; intro w6 hO; simp only [List.set_cons_zero, List.set_cons_succ, spl, List.take_succ_cons, List.take_zero, List.nil_append, List.cons_append, List.length_cons, List.length_nil, List.drop_succ_cons, List.drop_zero, List.drop_nil, Nat.reduceAdd, Nat.zero_add, List.append_nil] at hO; clear hf; have hf := hO.cells; simp only [BC, CC, Nat.zero_add, Nat.reduceAdd, and_true] at hf) | ((with_reducible refine at_store (T := 40) ?_); refine own_store (vs := [.bool s, .slice A l c, .slice B k d, .bool true, .bool Z.m, .bool n1, .int .u64 (t1 : Int)]) (T := 40) hO 0 rfl rfl rfl size_ds rfl rfl rfl ?_; clear hO; intro w7 hO; simp only [List.set_cons_zero, List.set_cons_succ, spl, List.take_succ_cons, List.take_zero, List.nil_append, List.cons_append, List.length_cons, List.length_nil, List.drop_succ_cons, List.drop_zero, List.drop_nil, Nat.reduceAdd, Nat.zero_add, List.append_nil] at hO; clear hf; have hf := hO.cells; simp only [BC, CC, Nat.zero_add, Nat.reduceAdd, and_true] at hf))
        exact own_ret hO 0 rfl rfl rfl agg_ds size_ds rfl ⟨s, N, D, A, l, c, B, k, d, rfl, HDR, ⟨hO.wd 1 rfl, hO.wd 0 rfl⟩, hO.toExt⟩
    · have hif : isInf x = false := by simpa using hi
      rw [hif] at HIX
      have e : Z.add x = ⟨Z.T + sv x * (K74 : Int), Z.p, Z.m, n1, t1⟩ := by unfold Sm.add; rw [if_neg hn, if_neg hi, ht1, hn1]; rfl
      rw [e]
      have hfx : mg x < infR := by
        unfold isNaN at hnf; unfold isInf at hif
        have h1 := of_decide_eq_false hnf
        have h2 := of_decide_eq_false hif
        omega
      have hV : nw (sv x * (K74 : Int)).natAbs ≤ 1000000 := by
        have := nw_sum (T := sv x * (K74 : Int)) (Nat.lt_of_le_of_lt (Nat.mul_le_mul_left 2 (Nat.le_trans (one_le hfx) (Nat.le_mul_of_pos_left BG (show 0 < 4611686018427387904 by omega)))) BG_mm)
        omega
      obtain ⟨sx, hsx⟩ : ∃ sx, sx = (sg x && decide (mg x ≠ 0)) := ⟨_, rfl⟩
      have HFX := Lib.hid (fun w => frombits_any x w hx)
      rw [← hsx] at HFX
      have HD1 := DR.one x
      rw [← hsx] at HD1
      have HRA := Lib.hid (fun w1 C l' c' F k' d' (h1 : RatAt w1 A l c B k d N D) (h2 : RatAt w1 C l' c' F k' d' (fbN x) (fbD x)) => radd_dr4 (w := w1) h HD1 (by omega) hV h1 h2)
      clear e hn hnf hi hif hfx hV hsx HD1 ht1 hn1 h hr hT ht hx
      go_enter Tryz.func21, Tryz.ntmps21
      go_upto_region 10 with (first | ((with_reducible refine at_box ?_); refine own_box (cs := [.bool s, .slice A l c, .slice B k d, .bool Z.p, .bool Z.m, .bool Z.n, .int .u64 (Z.t : Int)]) hO rfl rfl ?_; clear hO; intro g wa hO; clear hf; have hf := hO.cells; simp only [BC, CC, Nat.zero_add, Nat.reduceAdd, and_true] at hf) | ((with_reducible refine at_alloc ?_); refine own_alloc hO zero_ds rfl rfl ?_; clear hO; intro gr wb hO; clear hf; have hf := hO.cells; simp only [BC, CC, Nat.zero_add, Nat.reduceAdd, and_true] at hf) | (go_at_call 52; (with_reducible refine (HM.out _).mono ?_); rintro e w3 ⟨rfl, hE⟩; have hO := hO.ext hE; clear hE; clear hf; have hf := hO.cells; simp only [BC, CC, Nat.zero_add, Nat.reduceAdd, and_true] at hf) | ((with_reducible refine at_store (T := 40) ?_); refine own_store (vs := [.bool s, .slice A l c, .slice B k d, .bool Z.p, .bool Z.m, .bool n1, .int .u64 (t1 : Int)]) (T := 40) hO 1 rfl rfl rfl size_ds rfl rfl rfl ?_; clear hO; intro w4 hO; simp only [List.set_cons_zero, List.set_cons_succ, spl, List.take_succ_cons, List.take_zero, List.nil_append, List.cons_append, List.length_cons, List.length_nil, List.drop_succ_cons, List.drop_zero, List.drop_nil, Nat.reduceAdd, Nat.zero_add, List.append_nil] at hO; clear hf; have hf := hO.cells; simp only [BC, CC, Nat.zero_add, Nat.reduceAdd, and_true] at hf) | (go_at_call 53; (with_reducible refine (HNX.out _).mono ?_); rintro e w5 ⟨rfl, rfl⟩) | (go_at_call 54; (with_reducible refine (HIX.out _).mono ?_); rintro e w5 ⟨rfl, rfl⟩) | (go_at_call 55; (with_reducible refine (HSX.out _).mono ?_); rintro e w5 ⟨rfl, rfl⟩))
      obtain ⟨S, hS⟩ : ∃ S : World → Prop, S = Own w [⟨gr, 40, [.bool false, .slice none 0 0, .slice none 0 0, .bool false, .bool false, .bool false, .int .u64 0]⟩, ⟨g, 40, [.bool s, .slice A l c, .slice B k d, .bool Z.p, .bool Z.m, .bool n1, .int .u64 (t1 : Int)]⟩] [⟨B, k, d, nd D⟩, ⟨A, l, c, nd N⟩] := ⟨_, rfl⟩
      have hSE : ∀ w w', S w → Ext w w' → S w' := fun w w' h1 h2 => by rw [hS] at h1 ⊢; exact h1.ext h2
      have hS1 : S w4.drew := by rw [hS]; exact hO.ext (Ext.refl w4).drew
      have HS := Lib.hid hS
      clear hS hO hf
      obtain ⟨sp, hsp⟩ : ∃ sp : Nat → Sp, sp = ofList [det (.pointer (some ⟨g, 0, none⟩)), det (.agg #[.bool s, .slice A l c, .slice B k d]), det (.int .u64 (x : Int)), anyOf (fun v wz => ∃ A l c B k d, v = .agg #[.bool sx, .slice A l c, .slice B k d] ∧ RatAt wz A l c B k d (fbN x) (fbD x))] := ⟨_, rfl⟩
      have HSP := Lib.hid hsp
      clear hsp
      refine wp_region_loose 4 S sp (by kernel_rfl) (by kernel_rfl) hS1 hSE ?_
      simp only [List.take_succ_cons, List.take_zero, List.drop_succ_cons, List.drop_zero]
      iterate 3
        refine wpX_step (fun K hK => ?_)
        go_simp
        refine StepY.det (by rw [HSP.out]; rfl) ?_ ?_
        · intro wz hz hF
          rw [HS.out] at hz
          have hf := hz.cells
          simp only [BC, CC, Nat.zero_add, Nat.reduceAdd, and_true] at hf
          clear hz hF
          go_simp
          exact ⟨rfl, Ext.refl _⟩
        refine hK _ _ ?_
        clear hK K
      refine wpX_step (fun K hK => ?_)
      go_simp
      refine StepY.any (by rw [HSP.out]; rfl) ?_ ?_
      · intro wz hz hF
        clear hz hF
        go_simp
        refine (HFX.out _).mono ?_
        rintro e w2 ⟨A2, n2, c2, B2, k2, d2, rfl, hA2, hB2, hE2⟩
        exact ⟨_, rfl, ⟨A2, n2, c2, B2, k2, d2, rfl, hA2, hB2⟩, hE2⟩
      intro v1
      refine hK _ _ ?_
      clear hK K
      refine wpX_nil ?_
      intro wq hz hF
      obtain ⟨wa', ea, A2, l2, c2, B2, k2, d2, hv3, hR2⟩ := fact_any (hF 3 (by omega)) (by rw [HSP.out]; rfl)
      clear hF
      simp only [asFun, List.nil_append, List.cons_append, List.getD_cons_succ, List.getD_cons_zero] at hv3
      subst hv3
      rw [HS.out] at hz
      have hO := hz
      clear hz HS HSP
      have hf := hO.cells
      simp only [BC, CC, Nat.zero_add, Nat.reduceAdd, and_true] at hf
      go_wp2_with fail
      refine (HRA.out _ _ _ _ _ _ _ ⟨hO.wd 1 rfl, hO.wd 0 rfl⟩ (hR2.ext ea)).mono ?_
      rintro e w9 ⟨s9, N9, D9, A9, l9, c9, B9, k9, d9, rfl, HD9, hR9, hE9⟩
      have hO := ((hO.ext hE9).add hR9.1).add hR9.2
      clear hR9 hE9 hR2 ea
      clear hf
      have hf := hO.cells
      simp only [BC, CC, Nat.zero_add, Nat.reduceAdd, and_true] at hf
      go_wp2_with (first | ((with_reducible refine at_store (T := 38) ?_); refine own_store (vs := [.bool s9, .slice A9 l9 c9, .slice B9 k9 d9]) (T := 38) hO 1 rfl rfl rfl size_rat rfl rfl rfl ?_; clear hO; intro w10 hO; simp only [List.set_cons_zero, List.set_cons_succ, spl, List.take_succ_cons, List.take_zero, List.nil_append, List.cons_append, List.length_cons, List.length_nil, List.drop_succ_cons, List.drop_zero, List.drop_nil, Nat.reduceAdd, Nat.zero_add, List.append_nil] at hO; clear hf; have hf := hO.cells; simp only [BC, CC, Nat.zero_add, Nat.reduceAdd, and_true] at hf) | ((with_reducible refine at_store (T := 40) ?_); refine own_store (vs := [.bool s9, .slice A9 l9 c9, .slice B9 k9 d9, .bool Z.p, .bool Z.m, .bool n1, .int .u64 (t1 : Int)]) (T := 40) hO 0 rfl rfl rfl size_ds rfl rfl rfl ?_; clear hO; intro w11 hO; simp only [List.set_cons_zero, List.set_cons_succ, spl, List.take_succ_cons, List.take_zero, List.nil_append, List.cons_append, List.length_cons, List.length_nil, List.drop_succ_cons, List.drop_zero, List.drop_nil, Nat.reduceAdd, Nat.zero_add, List.append_nil] at hO; clear hf; have hf := hO.cells; simp only [BC, CC, Nat.zero_add, Nat.reduceAdd, and_true] at hf))
      exact own_ret hO 0 rfl rfl rfl agg_ds size_ds rfl ⟨s9, N9, D9, A9, l9, c9, B9, k9, d9, rfl, HD9, ⟨hO.wd 1 rfl, hO.wd 0 rfl⟩, hO.toExt⟩
end
end Go.Proofs.YtfbjeifhpmdjaaaGreat
