/-
  The contract of the program's Sqrt of intervals. Conditions: those that each theorem names.
-/
import Derived.Test.YtmcfflecaklpcaaZ39
import Derived.Test.YtmcfflecaklpcaaZ35
import Derived.Test.YtmcfflecaklpcaaZ22
import Derived.Test.YtmcfflecaklpcaaZ12
import Derived.Deep.RegionWith
import Derived.Outline
import Derived.Deep.DeepCutAuto
import Derived.Deep.RegionHeld3
namespace Go.Proofs.Ytmcfflecaklpcaa
open Go.RowKit Nm Rn
set_option maxRecDepth 100000
set_option linter.unusedVariables false
set_option linter.unusedSimpArgs false

/-- What Sqrt of an interval answers. -/
def nn (a : Nat) : Nat := if key a < 0 then 0 else a
noncomputable def irLo (x1 x2 : Nat) : Nat := if emp x1 x2 ∨ key (rdHi x1 x2) < 0 then infR else sqrtR (-1) (nn (rdLo x1 x2))
noncomputable def irHi (x1 x2 : Nat) : Nat := if emp x1 x2 ∨ key (rdHi x1 x2) < 0 then minf else sqrtR 1 (rdHi x1 x2)
theorem ngP_key {a : Nat} : ngP a = decide (key a < 0) := by
  unfold ngP key
  cases sg a
  · simp
  · simp
    by_cases h : mg a = 0
    · simp [h]
    · rw [show decide (mg a = 0) = false from decide_eq_false h]
      symm
      simp
      omega
theorem sqrtR_num {d : Int} {m : Nat} (hn : isNaN m = false) (h : ¬ key m < 0) : isNaN (sqrtR d m) = false := by
  unfold sqrtR
  rw [hn, ngP_key, decide_eq_false h, Bool.or_false, if_neg (by simp)]
  split
  · exact hn
  · split
    · decide
    · exact (rootV_ok _ _ _ _ _).2
theorem rdLo_ne (x1 x2 : Nat) : rdLo x1 x2 ≠ 9223372036854775808 ∧ rdHi x1 x2 ≠ 9223372036854775808 := by
  have h1 := infR_val
  have h2 := minf_val
  have hp : ∀ b, pl b ≠ 9223372036854775808 := fun b => by unfold pl; split <;> omega
  unfold rdLo rdHi
  constructor
  · split
    · exact hp _
    · omega
  · split
    · exact hp _
    · omega

set_option maxHeartbeats 2000000 in
theorem isqrt_e (x1 x2 a b : Nat) (w : World) (HX : Hid (∀ w, Calls Try.prog 72 #[.agg #[.float .f64 x1, .float .f64 x2]] w (RetF a b w)))
    (HE : Hid (∀ w, Calls Try.prog 73 #[.agg #[.float .f64 a, .float .f64 b]] w fun e w' => e = .returned (.bool true) ∧ Ext w w')) :
    Calls Try.prog 27 #[.agg #[.float .f64 x1, .float .f64 x2]] w (RetF infR minf w) := by
  have hO := Own.start w
  have hf : True := trivial
  go_enter Try.func27, Try.ntmps27
  go_wp2_with (first | ((with_reducible refine at_box ?_); refine own_box (cs := [.float .f64 x1, .float .f64 x2]) hO rfl rfl ?_; clear hO; intro ga wa hO; clear hf; have hf := hO.cells; simp only [BC, CC, Nat.zero_add, Nat.reduceAdd, and_true] at hf) | ((with_reducible refine at_alloc ?_); refine own_alloc hO zero_iv rfl rfl ?_; clear hO; intro g w1 hO; clear hf; have hf := hO.cells; simp only [BC, CC, Nat.zero_add, Nat.reduceAdd, and_true] at hf))
  refine (HX.out _).mono ?_
  rintro e w2 ⟨rfl, hE1⟩
  have hO := hO.ext hE1
  clear hf
  have hf := hO.cells
  simp only [BC, CC, Nat.zero_add, Nat.reduceAdd, and_true] at hf
  clear hE1
  go_wp2_with (first | ((with_reducible refine at_store (T := 52) ?_); refine own_store (T := 52) hO 1 rfl rfl rfl size_iv rfl rfl rfl ?_; clear hO; intro w1 hO; simp only [List.set_cons_zero, List.set_cons_succ, spl, List.take_succ_cons, List.take_zero, List.nil_append, List.cons_append, List.length_cons, List.length_nil, List.drop_succ_cons, List.drop_zero, List.drop_nil, Nat.reduceAdd, Nat.zero_add, List.append_nil] at hO; clear hf; have hf := hO.cells; simp only [BC, CC, Nat.zero_add, Nat.reduceAdd, and_true] at hf))
  refine (HE.out _).mono ?_
  rintro e w2 ⟨rfl, hE1⟩
  have hO := hO.ext hE1
  clear hf
  have hf := hO.cells
  simp only [BC, CC, Nat.zero_add, Nat.reduceAdd, and_true] at hf
  clear hE1
  go_wp2_with fail
  refine (iempty_any _).mono ?_
  rintro e w3 ⟨rfl, hE1⟩
  have hO := hO.ext hE1
  clear hf
  have hf := hO.cells
  simp only [BC, CC, Nat.zero_add, Nat.reduceAdd, and_true] at hf
  clear hE1
  go_wp2_with (first | ((with_reducible refine at_store (T := 52) ?_); refine own_store (T := 52) hO 0 rfl rfl rfl size_iv rfl rfl rfl ?_; clear hO; intro w1 hO; simp only [List.set_cons_zero, List.set_cons_succ, spl, List.take_succ_cons, List.take_zero, List.nil_append, List.cons_append, List.length_cons, List.length_nil, List.drop_succ_cons, List.drop_zero, List.drop_nil, Nat.reduceAdd, Nat.zero_add, List.append_nil] at hO; clear hf; have hf := hO.cells; simp only [BC, CC, Nat.zero_add, Nat.reduceAdd, and_true] at hf))
  exact own_ret hO 0 rfl rfl rfl agg_iv size_iv rfl ⟨rfl, hO.toExt⟩

set_option maxHeartbeats 2000000 in
theorem isqrt_n (x1 x2 a b : Nat) (w : World) (HX : Hid (∀ w, Calls Try.prog 72 #[.agg #[.float .f64 x1, .float .f64 x2]] w (RetF a b w)))
    (HE : Hid (∀ w, Calls Try.prog 73 #[.agg #[.float .f64 a, .float .f64 b]] w fun e w' => e = .returned (.bool false) ∧ Ext w w')) (q1 : (FloatKind.f64.format.order b 0 == some .lt) = true) :
    Calls Try.prog 27 #[.agg #[.float .f64 x1, .float .f64 x2]] w (RetF infR minf w) := by
  have hO := Own.start w
  have hf : True := trivial
  go_enter Try.func27, Try.ntmps27
  go_wp2_with (first | ((with_reducible refine at_box ?_); refine own_box (cs := [.float .f64 x1, .float .f64 x2]) hO rfl rfl ?_; clear hO; intro ga wa hO; clear hf; have hf := hO.cells; simp only [BC, CC, Nat.zero_add, Nat.reduceAdd, and_true] at hf) | ((with_reducible refine at_alloc ?_); refine own_alloc hO zero_iv rfl rfl ?_; clear hO; intro g w1 hO; clear hf; have hf := hO.cells; simp only [BC, CC, Nat.zero_add, Nat.reduceAdd, and_true] at hf))
  refine (HX.out _).mono ?_
  rintro e w2 ⟨rfl, hE1⟩
  have hO := hO.ext hE1
  clear hf
  have hf := hO.cells
  simp only [BC, CC, Nat.zero_add, Nat.reduceAdd, and_true] at hf
  clear hE1
  go_wp2_with (first | ((with_reducible refine at_store (T := 52) ?_); refine own_store (T := 52) hO 1 rfl rfl rfl size_iv rfl rfl rfl ?_; clear hO; intro w1 hO; simp only [List.set_cons_zero, List.set_cons_succ, spl, List.take_succ_cons, List.take_zero, List.nil_append, List.cons_append, List.length_cons, List.length_nil, List.drop_succ_cons, List.drop_zero, List.drop_nil, Nat.reduceAdd, Nat.zero_add, List.append_nil] at hO; clear hf; have hf := hO.cells; simp only [BC, CC, Nat.zero_add, Nat.reduceAdd, and_true] at hf))
  refine (HE.out _).mono ?_
  rintro e w2 ⟨rfl, hE1⟩
  have hO := hO.ext hE1
  clear hf
  have hf := hO.cells
  simp only [BC, CC, Nat.zero_add, Nat.reduceAdd, and_true] at hf
  clear hE1
  go_wp2_with fail
  refine (iempty_any _).mono ?_
  rintro e w3 ⟨rfl, hE1⟩
  have hO := hO.ext hE1
  clear hf
  have hf := hO.cells
  simp only [BC, CC, Nat.zero_add, Nat.reduceAdd, and_true] at hf
  clear hE1
  go_wp2_with (first | ((with_reducible refine at_store (T := 52) ?_); refine own_store (T := 52) hO 0 rfl rfl rfl size_iv rfl rfl rfl ?_; clear hO; intro w1 hO; simp only [List.set_cons_zero, List.set_cons_succ, spl, List.take_succ_cons, List.take_zero, List.nil_append, List.cons_append, List.length_cons, List.length_nil, List.drop_succ_cons, List.drop_zero, List.drop_nil, Nat.reduceAdd, Nat.zero_add, List.append_nil] at hO; clear hf; have hf := hO.cells; simp only [BC, CC, Nat.zero_add, Nat.reduceAdd, and_true] at hf))
  exact own_ret hO 0 rfl rfl rfl agg_iv size_iv rfl ⟨rfl, hO.toExt⟩

set_option maxHeartbeats 2000000 in
theorem isqrt_f (x1 x2 a b m r1 r2 : Nat) (w : World) (HX : Hid (∀ w, Calls Try.prog 72 #[.agg #[.float .f64 x1, .float .f64 x2]] w (RetF a b w)))
    (HE : Hid (∀ w, Calls Try.prog 73 #[.agg #[.float .f64 a, .float .f64 b]] w fun e w' => e = .returned (.bool false) ∧ Ext w w'))  (q1 : (FloatKind.f64.format.order b 0 == some .lt) = false)
    (hmx : ∀ ats ty w, (Builtin.max_ ats ty #[.float .f64 a, .float .f64 0]).run Try.prog w = .ok (.float .f64 m) w)
    (HS1 : Hid (∀ w, Calls Try.prog 14 #[.int .i64 (-1), .float .f64 m] w fun e w' => e = .returned (.float .f64 r1) ∧ Ext w w'))
    (HS2 : Hid (∀ w, Calls Try.prog 14 #[.int .i64 1, .float .f64 b] w fun e w' => e = .returned (.float .f64 r2) ∧ Ext w w')) :
    Calls Try.prog 27 #[.agg #[.float .f64 x1, .float .f64 x2]] w (RetF r1 r2 w) := by
  have hO := Own.start w
  have hf : True := trivial
  go_enter Try.func27, Try.ntmps27
  go_wp2_with (first | ((with_reducible refine at_box ?_); refine own_box (cs := [.float .f64 x1, .float .f64 x2]) hO rfl rfl ?_; clear hO; intro ga wa hO; clear hf; have hf := hO.cells; simp only [BC, CC, Nat.zero_add, Nat.reduceAdd, and_true] at hf) | ((with_reducible refine at_alloc ?_); refine own_alloc hO zero_iv rfl rfl ?_; clear hO; intro g w1 hO; clear hf; have hf := hO.cells; simp only [BC, CC, Nat.zero_add, Nat.reduceAdd, and_true] at hf))
  refine (HX.out _).mono ?_
  rintro e w2 ⟨rfl, hE1⟩
  have hO := hO.ext hE1
  clear hf
  have hf := hO.cells
  simp only [BC, CC, Nat.zero_add, Nat.reduceAdd, and_true] at hf
  clear hE1
  go_wp2_with (first | ((with_reducible refine at_store (T := 52) ?_); refine own_store (T := 52) hO 1 rfl rfl rfl size_iv rfl rfl rfl ?_; clear hO; intro w1 hO; simp only [List.set_cons_zero, List.set_cons_succ, spl, List.take_succ_cons, List.take_zero, List.nil_append, List.cons_append, List.length_cons, List.length_nil, List.drop_succ_cons, List.drop_zero, List.drop_nil, Nat.reduceAdd, Nat.zero_add, List.append_nil] at hO; clear hf; have hf := hO.cells; simp only [BC, CC, Nat.zero_add, Nat.reduceAdd, and_true] at hf))
  refine (HE.out _).mono ?_
  rintro e w2 ⟨rfl, hE1⟩
  have hO := hO.ext hE1
  clear hf
  have hf := hO.cells
  simp only [BC, CC, Nat.zero_add, Nat.reduceAdd, and_true] at hf
  clear hE1
  go_wp2_with fail
  obtain ⟨S, hS⟩ : ∃ S : World → Prop, S = Own w [⟨g, 52, [.float .f64 0, .float .f64 0]⟩, ⟨ga, 52, [.float .f64 a, .float .f64 b]⟩] [] := ⟨_, rfl⟩
  have hS1 : S w2.drew := by rw [hS]; exact hO.ext (Ext.refl w2).drew
  have HSS := Lib.hid hS
  clear hS hO hf
  refine wp_region_loose 8 S (ofList [det (.pointer (some ⟨ga, 0, none⟩)), det (.float .f64 a), det (.float .f64 m), det (.float .f64 r1), det (.pointer (some ⟨ga, 1, none⟩)), det (.float .f64 b), det (.float .f64 r2), det (.agg #[.float .f64 r1, .float .f64 r2])]) (by kernel_rfl) (by kernel_rfl) hS1 (fun w w' h1 h2 => by rw [HSS.out] at h1 ⊢; exact h1.ext h2) ?_
  simp only [List.take_succ_cons, List.take_zero, List.drop_succ_cons, List.drop_zero]
  iterate 8
    refine wpX_step (fun K hK => ?_)
    go_simp
    refine StepY.det rfl ?_ ?_
    · intro wz hz hF
      rw [HSS.out] at hz
      have hf := hz.cells
      simp only [BC, CC, Nat.zero_add, Nat.reduceAdd, and_true] at hf
      clear hz hF
      go_simp
      first
      | exact ⟨rfl, Ext.refl _⟩
      | (go_at_call 14
         first
         | (with_reducible refine (HS1.out _).mono ?_)
         | (with_reducible refine (HS2.out _).mono ?_)
         rintro e w2 ⟨rfl, hE1⟩
         exact ⟨_, rfl, rfl, hE1⟩)
    refine hK _ _ ?_
    clear hK K
  refine wpX_nil ?_
  intro w1 hz hF
  clear hF hS1
  rw [HSS.out] at hz
  have hO := hz
  have hf : True := trivial
  clear hz HSS S
  go_wp2_with (first | ((with_reducible refine at_store (T := 52) ?_); refine own_store (T := 52) hO 0 rfl rfl rfl size_iv rfl rfl rfl ?_; clear hO; intro w1 hO; simp only [List.set_cons_zero, List.set_cons_succ, spl, List.take_succ_cons, List.take_zero, List.nil_append, List.cons_append, List.length_cons, List.length_nil, List.drop_succ_cons, List.drop_zero, List.drop_nil, Nat.reduceAdd, Nat.zero_add, List.append_nil] at hO; clear hf; have hf := hO.cells; simp only [BC, CC, Nat.zero_add, Nat.reduceAdd, and_true] at hf))
  exact own_ret hO 0 rfl rfl rfl agg_iv size_iv rfl ⟨rfl, hO.toExt⟩

theorem isqrt_any (x1 x2 : Nat) (w : World) (hx1 : x1 < 18446744073709551616) (hx2 : x2 < 18446744073709551616) :
    Calls Try.prog 27 #[.agg #[.float .f64 x1, .float .f64 x2]] w (RetF (irLo x1 x2) (irHi x1 x2) w) := by
  have HX := Lib.hid (fun w => iread_any x1 x2 w hx1 hx2)
  have HE := Lib.hid (fun w => iemp_any (rdLo x1 x2) (rdHi x1 x2) w (rdLo_lt x1 x2 hx1) (rdHi_lt x1 x2 hx2))
  rw [emp_lt hx1 hx2] at HE
  unfold irLo irHi
  by_cases ex : emp x1 x2
  · rw [if_pos (.inl ex), if_pos (.inl ex)]
    rw [decide_eq_true ex] at HE
    exact isqrt_e x1 x2 _ _ w HX HE
  · rw [decide_eq_false ex] at HE
    obtain ⟨g1, g2, g3, g4, g5, g6, _, _⟩ := rd_ends hx1 hx2 ex
    have hne := rdLo_ne x1 x2
    obtain ⟨p, hp⟩ : ∃ p, p = rdLo x1 x2 := ⟨_, rfl⟩
    obtain ⟨q, hq⟩ : ∃ q, q = rdHi x1 x2 := ⟨_, rfl⟩
    rw [← hp] at g1 g3 g5 HX HE hne ⊢
    rw [← hq] at g2 g4 g6 HX HE hne ⊢
    have q1 := fo_lt g2 (show 0 < 18446744073709551616 by omega)
    rw [ltB_zero g4, ngP_key] at q1
    by_cases hn : key q < 0
    · rw [if_pos (.inr hn), if_pos (.inr hn)]
      rw [decide_eq_true hn] at q1
      exact isqrt_n x1 x2 _ _ w HX HE q1
    · have hno : ¬ (emp x1 x2 ∨ key q < 0) := by rintro (h | h); exact ex h; exact hn h
      rw [if_neg hno, if_neg hno]
      rw [decide_eq_false hn] at q1
      have k0 : key 0 = 0 := rfl
      have hmx := fun ats ty w => max_run g1 (show 0 < 18446744073709551616 by omega) g3 (show isNaN 0 = false by decide) (fun h => by
        rw [k0] at h
        have : mg p = 0 := by unfold key at h; split at h <;> omega
        unfold mg at this
        omega) Try.prog w ats ty
      rw [k0] at hmx
      have hm : nn p < 18446744073709551616 ∧ isNaN (nn p) = false ∧ ¬ key (nn p) < 0 := by
        unfold nn
        split
        · exact ⟨by omega, by decide, by rw [k0]; omega⟩
        · exact ⟨g1, g3, by assumption⟩
      refine isqrt_f x1 x2 p q (nn p) _ _ w HX HE q1 hmx ?_ ?_
      · exact Lib.hid fun w => (rsqrt_any (-1) (nn p) w hm.1).mono fun e w' ⟨r, h1, _, h3, h4⟩ => ⟨by rw [h1, cn_eq h3 (sqrtR_num hm.2.1 hm.2.2)], h4⟩
      · exact Lib.hid fun w => (rsqrt_any 1 q w g2).mono fun e w' ⟨r, h1, _, h3, h4⟩ => ⟨by rw [h1, cn_eq h3 (sqrtR_num g4 hn)], h4⟩
end Go.Proofs.Ytmcfflecaklpcaa

/-
  The contracts of the document's own intervals, second part: whether two ends are valid, what is made of them. Conditions: those that each theorem names.
-/
namespace Go.Proofs.Ytmcfflecaklpcaa
open Go.RowKit Nm Rn
set_option maxRecDepth 100000
set_option linter.unusedVariables false
set_option linter.unusedSimpArgs false

/-- What New answers. -/
def newLo (lo hi : Nat) : Nat := if sndB lo hi then pl lo else 0
def newHi (lo hi : Nat) : Nat := if sndB lo hi then pl hi else 0

end Go.Proofs.Ytmcfflecaklpcaa

/-
  The contracts of the document's own intervals, third part: validity. Conditions: those that each theorem names.
-/
namespace Go.Proofs.Ytmcfflecaklpcaa
open Go.RowKit Nm Rn
set_option maxRecDepth 100000
set_option linter.unusedVariables false
set_option linter.unusedSimpArgs false

/-- Two pairs of patterns are one. -/
theorem eqI (a b c d : Int) (w : World) : (binOp .eql 49 (.agg #[.int .u64 a, .int .u64 b]) (.agg #[.int .u64 c, .int .u64 d])).run Try.prog w = .ok (.bool (a == c && b == d)) w := by
  cases h1 : (a == c) <;> cases h2 : (b == d) <;> go_simp <;> simp [h1, h2]
theorem eqI' {a b c d : Int} {E : Bool} (h : (a == c && b == d) = E) (w : World) : (binOp .eql 49 (.agg #[.int .u64 a, .int .u64 b]) (.agg #[.int .u64 c, .int .u64 d])).run Try.prog w = .ok (.bool E) w := by rw [eqI, h]

end Go.Proofs.Ytmcfflecaklpcaa

/-
  The contract of the document's Sqrt of intervals. Conditions: those that each theorem names.
-/
namespace Go.Proofs.Ytmcfflecaklpcaa
open Go.RowKit Nm Rn
set_option maxRecDepth 100000
set_option linter.unusedVariables false
set_option linter.unusedSimpArgs false

theorem zero_I_ (w : World) : (zeroValue 49).run Try.prog w = .ok (.agg #[.int .u64 0, .int .u64 0]) w := by kernel_rfl
theorem agg_I_ (w : World) : (isAgg 49).run Try.prog w = .ok true w := by kernel_rfl
theorem size_I_ (w : World) : (sizeOf 49).run Try.prog w = .ok 2 w := by kernel_rfl

set_option maxHeartbeats 2000000 in
theorem sqrt6_e (x1 x2 a b : Nat) (w : World) (HX : Hid (∀ w, Calls Try.prog 75 #[.agg #[.int .u64 (x1 : Int), .int .u64 (x2 : Int)]] w (RetI a b w))) (he : ((a : Int) == (infR : Int) && (b : Int) == (minf : Int)) = true) :
    Calls Try.prog 29 #[.agg #[.int .u64 (x1 : Int), .int .u64 (x2 : Int)]] w (RetI infR minf w) := by
  have hO := Own.start w
  have hf : True := trivial
  go_enter Try.func29, Try.ntmps29
  have heq := eqI' he
  go_wp2_with (first | ((with_reducible refine at_box ?_); refine own_box (cs := [.int .u64 (x1 : Int), .int .u64 (x2 : Int)]) hO rfl rfl ?_; clear hO; intro ga wa hO; clear hf; have hf := hO.cells; simp only [BC, CC, Nat.zero_add, Nat.reduceAdd, and_true] at hf) | ((with_reducible refine at_alloc ?_); refine own_alloc hO zero_I_ rfl rfl ?_; clear hO; intro g w1 hO; clear hf; have hf := hO.cells; simp only [BC, CC, Nat.zero_add, Nat.reduceAdd, and_true] at hf))
  refine (HX.out _).mono ?_
  rintro e w2 ⟨rfl, hE1⟩
  have hO := hO.ext hE1
  clear hf
  have hf := hO.cells
  simp only [BC, CC, Nat.zero_add, Nat.reduceAdd, and_true] at hf
  clear hE1
  go_wp2_with (first | ((with_reducible refine at_alloc ?_); refine own_alloc hO zero_I_ rfl rfl ?_; clear hO; intro g3 w1 hO; clear hf; have hf := hO.cells; simp only [BC, CC, Nat.zero_add, Nat.reduceAdd, and_true] at hf) | ((with_reducible refine at_store (T := 49) ?_); refine own_store (T := 49) hO 0 rfl rfl rfl size_I_ rfl rfl rfl ?_; clear hO; intro w1 hO; simp only [List.set_cons_zero, List.set_cons_succ, spl, List.take_succ_cons, List.take_zero, List.nil_append, List.cons_append, List.length_cons, List.length_nil, List.drop_succ_cons, List.drop_zero, List.drop_nil, Nat.reduceAdd, Nat.zero_add, List.append_nil] at hO; clear hf; have hf := hO.cells; simp only [BC, CC, Nat.zero_add, Nat.reduceAdd, and_true] at hf))
  obtain ⟨S, hS⟩ : ∃ S : World → Prop, S = Own w [⟨g3, 49, [.int .u64 (a : Int), .int .u64 (b : Int)]⟩, ⟨g, 49, [.int .u64 0, .int .u64 0]⟩, ⟨ga, 49, [.int .u64 (x1 : Int), .int .u64 (x2 : Int)]⟩] [] := ⟨_, rfl⟩
  have hS1 : S w1.drew := by rw [hS]; exact hO.ext (Ext.refl w1).drew
  have HSS := Lib.hid hS
  clear hS hO hf
  clear he
  refine wp_region_steady S (by kernel_rfl) (by kernel_rfl) hS1 ?_
  repeat (refine wpG_step (fun K hK => ?_)
          go_simp
          first
          | (refine hK _ ?_
             clear hK K)
          | (apply StepG.mk
             intro wz hz
             have hz' := hz
             rw [HSS.out] at hz'
             have hf := hz'.cells
             simp only [BC, CC, Nat.zero_add, Nat.reduceAdd, and_true] at hf
             have hk : ∀ w5, Ext wz w5 → S w5 := fun w5 h5 => by rw [HSS.out]; exact hz'.ext h5
             have HK := Lib.hid hk
             clear hk hz'
             go_simp
             first
             | exact ⟨rfl, hz⟩
             | (go_at_call 76; exact (empty6_any _).mono fun e w5 h5 => ⟨h5.1, HK.out _ h5.2⟩)
            
             refine hK _ ?_
             clear hK K))
  refine wpG_nil ?_
  intro w5 hw5
  rw [HSS.out] at hw5
  have hO := hw5
  have hf := hO.cells
  simp only [BC, CC, Nat.zero_add, Nat.reduceAdd, and_true] at hf
  clear hw5 hS1 HSS S
  go_wp2_with fail
  refine (empty6_any _).mono ?_
  rintro e w3 ⟨rfl, hE1⟩
  have hO := hO.ext hE1
  clear hf
  have hf := hO.cells
  simp only [BC, CC, Nat.zero_add, Nat.reduceAdd, and_true] at hf
  clear hE1
  go_wp2_with (first | ((with_reducible refine at_store (T := 49) ?_); refine own_store (T := 49) hO 1 rfl rfl rfl size_I_ rfl rfl rfl ?_; clear hO; intro w1 hO; simp only [List.set_cons_zero, List.set_cons_succ, spl, List.take_succ_cons, List.take_zero, List.nil_append, List.cons_append, List.length_cons, List.length_nil, List.drop_succ_cons, List.drop_zero, List.drop_nil, Nat.reduceAdd, Nat.zero_add, List.append_nil] at hO; clear hf; have hf := hO.cells; simp only [BC, CC, Nat.zero_add, Nat.reduceAdd, and_true] at hf))
  exact own_ret hO 1 rfl rfl rfl agg_I_ size_I_ rfl ⟨rfl, hO.toExt⟩

set_option maxHeartbeats 2000000 in
theorem sqrt6_n (x1 x2 a b : Nat) (w : World) (HX : Hid (∀ w, Calls Try.prog 75 #[.agg #[.int .u64 (x1 : Int), .int .u64 (x2 : Int)]] w (RetI a b w))) (he : ((a : Int) == (infR : Int) && (b : Int) == (minf : Int)) = false) (HN : Hid (∀ w, Calls Try.prog 46 #[.int .u64 (b : Int)] w fun e w' => e = .returned (.bool true) ∧ w = w')) :
    Calls Try.prog 29 #[.agg #[.int .u64 (x1 : Int), .int .u64 (x2 : Int)]] w (RetI infR minf w) := by
  have hO := Own.start w
  have hf : True := trivial
  go_enter Try.func29, Try.ntmps29
  have heq := eqI' he
  go_wp2_with (first | ((with_reducible refine at_box ?_); refine own_box (cs := [.int .u64 (x1 : Int), .int .u64 (x2 : Int)]) hO rfl rfl ?_; clear hO; intro ga wa hO; clear hf; have hf := hO.cells; simp only [BC, CC, Nat.zero_add, Nat.reduceAdd, and_true] at hf) | ((with_reducible refine at_alloc ?_); refine own_alloc hO zero_I_ rfl rfl ?_; clear hO; intro g w1 hO; clear hf; have hf := hO.cells; simp only [BC, CC, Nat.zero_add, Nat.reduceAdd, and_true] at hf))
  refine (HX.out _).mono ?_
  rintro e w2 ⟨rfl, hE1⟩
  have hO := hO.ext hE1
  clear hf
  have hf := hO.cells
  simp only [BC, CC, Nat.zero_add, Nat.reduceAdd, and_true] at hf
  clear hE1
  go_wp2_with (first | ((with_reducible refine at_alloc ?_); refine own_alloc hO zero_I_ rfl rfl ?_; clear hO; intro g3 w1 hO; clear hf; have hf := hO.cells; simp only [BC, CC, Nat.zero_add, Nat.reduceAdd, and_true] at hf) | ((with_reducible refine at_store (T := 49) ?_); refine own_store (T := 49) hO 0 rfl rfl rfl size_I_ rfl rfl rfl ?_; clear hO; intro w1 hO; simp only [List.set_cons_zero, List.set_cons_succ, spl, List.take_succ_cons, List.take_zero, List.nil_append, List.cons_append, List.length_cons, List.length_nil, List.drop_succ_cons, List.drop_zero, List.drop_nil, Nat.reduceAdd, Nat.zero_add, List.append_nil] at hO; clear hf; have hf := hO.cells; simp only [BC, CC, Nat.zero_add, Nat.reduceAdd, and_true] at hf))
  obtain ⟨S, hS⟩ : ∃ S : World → Prop, S = Own w [⟨g3, 49, [.int .u64 (a : Int), .int .u64 (b : Int)]⟩, ⟨g, 49, [.int .u64 0, .int .u64 0]⟩, ⟨ga, 49, [.int .u64 (x1 : Int), .int .u64 (x2 : Int)]⟩] [] := ⟨_, rfl⟩
  have hS1 : S w1.drew := by rw [hS]; exact hO.ext (Ext.refl w1).drew
  have HSS := Lib.hid hS
  clear hS hO hf
  clear he
  refine wp_region_steady S (by kernel_rfl) (by kernel_rfl) hS1 ?_
  repeat (refine wpG_step (fun K hK => ?_)
          go_simp
          first
          | (refine hK _ ?_
             clear hK K)
          | (apply StepG.mk
             intro wz hz
             have hz' := hz
             rw [HSS.out] at hz'
             have hf := hz'.cells
             simp only [BC, CC, Nat.zero_add, Nat.reduceAdd, and_true] at hf
             have hk : ∀ w5, Ext wz w5 → S w5 := fun w5 h5 => by rw [HSS.out]; exact hz'.ext h5
             have HK := Lib.hid hk
             clear hk hz'
             go_simp
             first
             | exact ⟨rfl, hz⟩
             | (go_at_call 76; exact (empty6_any _).mono fun e w5 h5 => ⟨h5.1, HK.out _ h5.2⟩)
             | (go_at_call 46; exact (HN.out _).mono fun e w5 h5 => ⟨h5.1, by rw [← h5.2]; exact hz⟩)
             refine hK _ ?_
             clear hK K))
  refine wpG_nil ?_
  intro w5 hw5
  rw [HSS.out] at hw5
  have hO := hw5
  have hf := hO.cells
  simp only [BC, CC, Nat.zero_add, Nat.reduceAdd, and_true] at hf
  clear hw5 hS1 HSS S
  go_wp2_with fail
  refine (empty6_any _).mono ?_
  rintro e w3 ⟨rfl, hE1⟩
  have hO := hO.ext hE1
  clear hf
  have hf := hO.cells
  simp only [BC, CC, Nat.zero_add, Nat.reduceAdd, and_true] at hf
  clear hE1
  go_wp2_with (first | ((with_reducible refine at_store (T := 49) ?_); refine own_store (T := 49) hO 1 rfl rfl rfl size_I_ rfl rfl rfl ?_; clear hO; intro w1 hO; simp only [List.set_cons_zero, List.set_cons_succ, spl, List.take_succ_cons, List.take_zero, List.nil_append, List.cons_append, List.length_cons, List.length_nil, List.drop_succ_cons, List.drop_zero, List.drop_nil, Nat.reduceAdd, Nat.zero_add, List.append_nil] at hO; clear hf; have hf := hO.cells; simp only [BC, CC, Nat.zero_add, Nat.reduceAdd, and_true] at hf))
  exact own_ret hO 1 rfl rfl rfl agg_I_ size_I_ rfl ⟨rfl, hO.toExt⟩

set_option maxHeartbeats 2000000 in
theorem sqrt6_p (x1 x2 a b r1 r2 : Nat) (w : World) (HX : Hid (∀ w, Calls Try.prog 75 #[.agg #[.int .u64 (x1 : Int), .int .u64 (x2 : Int)]] w (RetI a b w))) (he : ((a : Int) == (infR : Int) && (b : Int) == (minf : Int)) = false) (HN : Hid (∀ w, Calls Try.prog 46 #[.int .u64 (b : Int)] w fun e w' => e = .returned (.bool false) ∧ w = w')) (HL : Hid (∀ w, Calls Try.prog 46 #[.int .u64 (a : Int)] w fun e w' => e = .returned (.bool false) ∧ w = w'))
    (HS1 : Hid (∀ w, Calls Try.prog 15 #[.int .i64 (-1), .int .u64 (a : Int)] w fun e w' => e = .returned (.int .u64 (r1 : Nat)) ∧ Ext w w'))
    (HS2 : Hid (∀ w, Calls Try.prog 15 #[.int .i64 1, .int .u64 (b : Int)] w fun e w' => e = .returned (.int .u64 (r2 : Nat)) ∧ Ext w w')) :
    Calls Try.prog 29 #[.agg #[.int .u64 (x1 : Int), .int .u64 (x2 : Int)]] w (RetI r1 r2 w) := by
  have hO := Own.start w
  have hf : True := trivial
  go_enter Try.func29, Try.ntmps29
  have heq := eqI' he
  go_wp2_with (first | ((with_reducible refine at_box ?_); refine own_box (cs := [.int .u64 (x1 : Int), .int .u64 (x2 : Int)]) hO rfl rfl ?_; clear hO; intro ga wa hO; clear hf; have hf := hO.cells; simp only [BC, CC, Nat.zero_add, Nat.reduceAdd, and_true] at hf) | ((with_reducible refine at_alloc ?_); refine own_alloc hO zero_I_ rfl rfl ?_; clear hO; intro g w1 hO; clear hf; have hf := hO.cells; simp only [BC, CC, Nat.zero_add, Nat.reduceAdd, and_true] at hf))
  refine (HX.out _).mono ?_
  rintro e w2 ⟨rfl, hE1⟩
  have hO := hO.ext hE1
  clear hf
  have hf := hO.cells
  simp only [BC, CC, Nat.zero_add, Nat.reduceAdd, and_true] at hf
  clear hE1
  go_wp2_with (first | ((with_reducible refine at_alloc ?_); refine own_alloc hO zero_I_ rfl rfl ?_; clear hO; intro g3 w1 hO; clear hf; have hf := hO.cells; simp only [BC, CC, Nat.zero_add, Nat.reduceAdd, and_true] at hf) | ((with_reducible refine at_store (T := 49) ?_); refine own_store (T := 49) hO 0 rfl rfl rfl size_I_ rfl rfl rfl ?_; clear hO; intro w1 hO; simp only [List.set_cons_zero, List.set_cons_succ, spl, List.take_succ_cons, List.take_zero, List.nil_append, List.cons_append, List.length_cons, List.length_nil, List.drop_succ_cons, List.drop_zero, List.drop_nil, Nat.reduceAdd, Nat.zero_add, List.append_nil] at hO; clear hf; have hf := hO.cells; simp only [BC, CC, Nat.zero_add, Nat.reduceAdd, and_true] at hf))
  obtain ⟨S, hS⟩ : ∃ S : World → Prop, S = Own w [⟨g3, 49, [.int .u64 (a : Int), .int .u64 (b : Int)]⟩, ⟨g, 49, [.int .u64 0, .int .u64 0]⟩, ⟨ga, 49, [.int .u64 (x1 : Int), .int .u64 (x2 : Int)]⟩] [] := ⟨_, rfl⟩
  have hS1 : S w1.drew := by rw [hS]; exact hO.ext (Ext.refl w1).drew
  have HSS := Lib.hid hS
  clear hS hO hf
  clear he
  refine wp_region_steady S (by kernel_rfl) (by kernel_rfl) hS1 ?_
  repeat (refine wpG_step (fun K hK => ?_)
          go_simp
          first
          | (refine hK _ ?_
             clear hK K)
          | (apply StepG.mk
             intro wz hz
             have hz' := hz
             rw [HSS.out] at hz'
             have hf := hz'.cells
             simp only [BC, CC, Nat.zero_add, Nat.reduceAdd, and_true] at hf
             have hk : ∀ w5, Ext wz w5 → S w5 := fun w5 h5 => by rw [HSS.out]; exact hz'.ext h5
             have HK := Lib.hid hk
             clear hk hz'
             go_simp
             first
             | exact ⟨rfl, hz⟩
             | (go_at_call 76; exact (empty6_any _).mono fun e w5 h5 => ⟨h5.1, HK.out _ h5.2⟩)
             | (go_at_call 46; exact (HN.out _).mono fun e w5 h5 => ⟨h5.1, by rw [← h5.2]; exact hz⟩)
             refine hK _ ?_
             clear hK K))
  refine wpG_nil ?_
  intro w5 hw5
  rw [HSS.out] at hw5
  have hO := hw5
  have hf := hO.cells
  simp only [BC, CC, Nat.zero_add, Nat.reduceAdd, and_true] at hf
  clear hw5 hS1 HSS S
  go_wp2_with fail
  refine (HL.out _).mono ?_
  rintro e w' ⟨rfl, rfl⟩
  go_wp2_with fail
  obtain ⟨S, hS⟩ : ∃ S : World → Prop, S = Own w [⟨g3, 49, [.int .u64 (a : Int), .int .u64 (b : Int)]⟩, ⟨g, 49, [.int .u64 0, .int .u64 0]⟩, ⟨ga, 49, [.int .u64 (x1 : Int), .int .u64 (x2 : Int)]⟩] [] := ⟨_, rfl⟩
  have hS1 : S w5.drew := by rw [hS]; exact hO.ext (Ext.refl w5).drew
  have HSS := Lib.hid hS
  clear hS hO hf
  refine wp_region_loose 6 S (ofList [det (.int .u64 (a : Int)), det (.int .u64 (r1 : Int)), det (.pointer (some ⟨g3, 1, none⟩)), det (.int .u64 (b : Int)), det (.int .u64 (r2 : Int)), det (.agg #[.int .u64 (r1 : Int), .int .u64 (r2 : Int)])]) (by kernel_rfl) (by kernel_rfl) hS1 (fun w w' h1 h2 => by rw [HSS.out] at h1 ⊢; exact h1.ext h2) ?_
  simp only [List.take_succ_cons, List.take_zero, List.drop_succ_cons, List.drop_zero]
  iterate 6
    refine wpX_step (fun K hK => ?_)
    go_simp
    refine StepY.det rfl ?_ ?_
    · intro wz hz hF
      rw [HSS.out] at hz
      have hf := hz.cells
      simp only [BC, CC, Nat.zero_add, Nat.reduceAdd, and_true] at hf
      clear hz hF
      go_simp
      first
      | exact ⟨rfl, Ext.refl _⟩
      | (go_at_call 15
         first
         | (with_reducible refine (HS1.out _).mono ?_)
         | (with_reducible refine (HS2.out _).mono ?_)
         rintro e w2 ⟨rfl, hE1⟩
         exact ⟨_, rfl, rfl, hE1⟩)
    refine hK _ _ ?_
    clear hK K
  refine wpX_nil ?_
  intro w1 hz hF
  clear hF hS1
  rw [HSS.out] at hz
  have hO := hz
  have hf : True := trivial
  clear hz HSS S
  go_wp2_with (first | ((with_reducible refine at_store (T := 49) ?_); refine own_store (T := 49) hO 1 rfl rfl rfl size_I_ rfl rfl rfl ?_; clear hO; intro w1 hO; simp only [List.set_cons_zero, List.set_cons_succ, spl, List.take_succ_cons, List.take_zero, List.nil_append, List.cons_append, List.length_cons, List.length_nil, List.drop_succ_cons, List.drop_zero, List.drop_nil, Nat.reduceAdd, Nat.zero_add, List.append_nil] at hO; clear hf; have hf := hO.cells; simp only [BC, CC, Nat.zero_add, Nat.reduceAdd, and_true] at hf))
  exact own_ret hO 1 rfl rfl rfl agg_I_ size_I_ rfl ⟨rfl, hO.toExt⟩

set_option maxHeartbeats 2000000 in
theorem sqrt6_z (x1 x2 a b r1 r2 : Nat) (w : World) (HX : Hid (∀ w, Calls Try.prog 75 #[.agg #[.int .u64 (x1 : Int), .int .u64 (x2 : Int)]] w (RetI a b w))) (he : ((a : Int) == (infR : Int) && (b : Int) == (minf : Int)) = false) (HN : Hid (∀ w, Calls Try.prog 46 #[.int .u64 (b : Int)] w fun e w' => e = .returned (.bool false) ∧ w = w')) (HL : Hid (∀ w, Calls Try.prog 46 #[.int .u64 (a : Int)] w fun e w' => e = .returned (.bool true) ∧ w = w'))
    (HS1 : Hid (∀ w, Calls Try.prog 15 #[.int .i64 (-1), .int .u64 0] w fun e w' => e = .returned (.int .u64 (r1 : Nat)) ∧ Ext w w'))
    (HS2 : Hid (∀ w, Calls Try.prog 15 #[.int .i64 1, .int .u64 (b : Int)] w fun e w' => e = .returned (.int .u64 (r2 : Nat)) ∧ Ext w w')) :
    Calls Try.prog 29 #[.agg #[.int .u64 (x1 : Int), .int .u64 (x2 : Int)]] w (RetI r1 r2 w) := by
  have hO := Own.start w
  have hf : True := trivial
  go_enter Try.func29, Try.ntmps29
  have heq := eqI' he
  go_wp2_with (first | ((with_reducible refine at_box ?_); refine own_box (cs := [.int .u64 (x1 : Int), .int .u64 (x2 : Int)]) hO rfl rfl ?_; clear hO; intro ga wa hO; clear hf; have hf := hO.cells; simp only [BC, CC, Nat.zero_add, Nat.reduceAdd, and_true] at hf) | ((with_reducible refine at_alloc ?_); refine own_alloc hO zero_I_ rfl rfl ?_; clear hO; intro g w1 hO; clear hf; have hf := hO.cells; simp only [BC, CC, Nat.zero_add, Nat.reduceAdd, and_true] at hf))
  refine (HX.out _).mono ?_
  rintro e w2 ⟨rfl, hE1⟩
  have hO := hO.ext hE1
  clear hf
  have hf := hO.cells
  simp only [BC, CC, Nat.zero_add, Nat.reduceAdd, and_true] at hf
  clear hE1
  go_wp2_with (first | ((with_reducible refine at_alloc ?_); refine own_alloc hO zero_I_ rfl rfl ?_; clear hO; intro g3 w1 hO; clear hf; have hf := hO.cells; simp only [BC, CC, Nat.zero_add, Nat.reduceAdd, and_true] at hf) | ((with_reducible refine at_store (T := 49) ?_); refine own_store (T := 49) hO 0 rfl rfl rfl size_I_ rfl rfl rfl ?_; clear hO; intro w1 hO; simp only [List.set_cons_zero, List.set_cons_succ, spl, List.take_succ_cons, List.take_zero, List.nil_append, List.cons_append, List.length_cons, List.length_nil, List.drop_succ_cons, List.drop_zero, List.drop_nil, Nat.reduceAdd, Nat.zero_add, List.append_nil] at hO; clear hf; have hf := hO.cells; simp only [BC, CC, Nat.zero_add, Nat.reduceAdd, and_true] at hf))
  obtain ⟨S, hS⟩ : ∃ S : World → Prop, S = Own w [⟨g3, 49, [.int .u64 (a : Int), .int .u64 (b : Int)]⟩, ⟨g, 49, [.int .u64 0, .int .u64 0]⟩, ⟨ga, 49, [.int .u64 (x1 : Int), .int .u64 (x2 : Int)]⟩] [] := ⟨_, rfl⟩
  have hS1 : S w1.drew := by rw [hS]; exact hO.ext (Ext.refl w1).drew
  have HSS := Lib.hid hS
  clear hS hO hf
  clear he
  refine wp_region_steady S (by kernel_rfl) (by kernel_rfl) hS1 ?_
  repeat (refine wpG_step (fun K hK => ?_)
          go_simp
          first
          | (refine hK _ ?_
             clear hK K)
          | (apply StepG.mk
             intro wz hz
             have hz' := hz
             rw [HSS.out] at hz'
             have hf := hz'.cells
             simp only [BC, CC, Nat.zero_add, Nat.reduceAdd, and_true] at hf
             have hk : ∀ w5, Ext wz w5 → S w5 := fun w5 h5 => by rw [HSS.out]; exact hz'.ext h5
             have HK := Lib.hid hk
             clear hk hz'
             go_simp
             first
             | exact ⟨rfl, hz⟩
             | (go_at_call 76; exact (empty6_any _).mono fun e w5 h5 => ⟨h5.1, HK.out _ h5.2⟩)
             | (go_at_call 46; exact (HN.out _).mono fun e w5 h5 => ⟨h5.1, by rw [← h5.2]; exact hz⟩)
             refine hK _ ?_
             clear hK K))
  refine wpG_nil ?_
  intro w5 hw5
  rw [HSS.out] at hw5
  have hO := hw5
  have hf := hO.cells
  simp only [BC, CC, Nat.zero_add, Nat.reduceAdd, and_true] at hf
  clear hw5 hS1 HSS S
  go_wp2_with fail
  refine (HL.out _).mono ?_
  rintro e w' ⟨rfl, rfl⟩
  go_wp2_with fail
  obtain ⟨S, hS⟩ : ∃ S : World → Prop, S = Own w [⟨g3, 49, [.int .u64 (a : Int), .int .u64 (b : Int)]⟩, ⟨g, 49, [.int .u64 0, .int .u64 0]⟩, ⟨ga, 49, [.int .u64 (x1 : Int), .int .u64 (x2 : Int)]⟩] [] := ⟨_, rfl⟩
  have hS1 : S w5.drew := by rw [hS]; exact hO.ext (Ext.refl w5).drew
  have HSS := Lib.hid hS
  clear hS hO hf
  refine wp_region_loose 6 S (ofList [det (.int .u64 0), det (.int .u64 (r1 : Int)), det (.pointer (some ⟨g3, 1, none⟩)), det (.int .u64 (b : Int)), det (.int .u64 (r2 : Int)), det (.agg #[.int .u64 (r1 : Int), .int .u64 (r2 : Int)])]) (by kernel_rfl) (by kernel_rfl) hS1 (fun w w' h1 h2 => by rw [HSS.out] at h1 ⊢; exact h1.ext h2) ?_
  simp only [List.take_succ_cons, List.take_zero, List.drop_succ_cons, List.drop_zero]
  iterate 6
    refine wpX_step (fun K hK => ?_)
    go_simp
    refine StepY.det rfl ?_ ?_
    · intro wz hz hF
      rw [HSS.out] at hz
      have hf := hz.cells
      simp only [BC, CC, Nat.zero_add, Nat.reduceAdd, and_true] at hf
      clear hz hF
      go_simp
      first
      | exact ⟨rfl, Ext.refl _⟩
      | (go_at_call 15
         first
         | (with_reducible refine (HS1.out _).mono ?_)
         | (with_reducible refine (HS2.out _).mono ?_)
         rintro e w2 ⟨rfl, hE1⟩
         exact ⟨_, rfl, rfl, hE1⟩)
    refine hK _ _ ?_
    clear hK K
  refine wpX_nil ?_
  intro w1 hz hF
  clear hF hS1
  rw [HSS.out] at hz
  have hO := hz
  have hf : True := trivial
  clear hz HSS S
  go_wp2_with (first | ((with_reducible refine at_store (T := 49) ?_); refine own_store (T := 49) hO 1 rfl rfl rfl size_I_ rfl rfl rfl ?_; clear hO; intro w1 hO; simp only [List.set_cons_zero, List.set_cons_succ, spl, List.take_succ_cons, List.take_zero, List.nil_append, List.cons_append, List.length_cons, List.length_nil, List.drop_succ_cons, List.drop_zero, List.drop_nil, Nat.reduceAdd, Nat.zero_add, List.append_nil] at hO; clear hf; have hf := hO.cells; simp only [BC, CC, Nat.zero_add, Nat.reduceAdd, and_true] at hf))
  exact own_ret hO 1 rfl rfl rfl agg_I_ size_I_ rfl ⟨rfl, hO.toExt⟩

theorem ngB_key {a : Nat} : ngB a = decide (key a < 0) := ngP_key
theorem sqrt6_any (x1 x2 : Nat) (w : World) (hx1 : x1 < 18446744073709551616) (hx2 : x2 < 18446744073709551616) :
    Calls Try.prog 29 #[.agg #[.int .u64 (x1 : Int), .int .u64 (x2 : Int)]] w (RetI (irLo x1 x2) (irHi x1 x2) w) := by
  have HX := Lib.hid (fun w => read6_any x1 x2 w hx1 hx2)
  unfold irLo irHi
  by_cases ex : emp x1 x2
  · rw [if_pos (.inl ex), if_pos (.inl ex)]
    exact sqrt6_e x1 x2 _ _ w HX (by rw [ex.1, ex.2]; decide)
  · have he : ((rdLo x1 x2 : Int) == (infR : Int) && (rdHi x1 x2 : Int) == (minf : Int)) = false := by
      rw [Bool.and_eq_false_iff, beq_eq_false_iff_ne, beq_eq_false_iff_ne]
      by_cases h : rdLo x1 x2 = infR
      · right; intro h2; exact ex ⟨h, by omega⟩
      · left; intro h2; exact h (by omega)
    obtain ⟨g1, g2, g3, g4, g5, g6, _, _⟩ := rd_ends hx1 hx2 ex
    obtain ⟨p, hp⟩ : ∃ p, p = rdLo x1 x2 := ⟨_, rfl⟩
    obtain ⟨q, hq⟩ : ∃ q, q = rdHi x1 x2 := ⟨_, rfl⟩
    rw [← hp] at g1 HX he ⊢
    rw [← hq] at g2 HX he ⊢
    have HN := Lib.hid (fun w => neg3_ngB q w g2)
    have HL := Lib.hid (fun w => neg3_ngB p w g1)
    rw [ngB_key] at HN HL
    by_cases hn : key q < 0
    · rw [if_pos (.inr hn), if_pos (.inr hn)]
      rw [decide_eq_true hn] at HN
      exact sqrt6_n x1 x2 _ _ w HX he HN
    · have hno : ¬ (emp x1 x2 ∨ key q < 0) := by rintro (h | h); exact ex h; exact hn h
      rw [if_neg hno, if_neg hno]
      rw [decide_eq_false hn] at HN
      have HS2 := Lib.hid (fun w => sqrt3_any 1 q w g2)
      by_cases hl : key p < 0
      · rw [decide_eq_true hl] at HL
        have hz : nn p = 0 := if_pos hl
        rw [hz]
        have HS1 := Lib.hid (fun w => sqrt3_any (-1) 0 w (by omega))
        exact sqrt6_z x1 x2 _ _ _ _ w HX he HN HL HS1 HS2
      · rw [decide_eq_false hl] at HL
        have hz : nn p = p := if_neg hl
        rw [hz]
        have HS1 := Lib.hid (fun w => sqrt3_any (-1) p w g1)
        exact sqrt6_p x1 x2 _ _ _ _ w HX he HN HL HS1 HS2
end Go.Proofs.Ytmcfflecaklpcaa

/-
  Pairs of patterns against themselves. Conditions: those that each theorem names.
-/
namespace Go.Proofs.Ytmcfflecaklpcaa
open Go.RowKit Nm Rn
set_option maxRecDepth 100000
set_option linter.unusedVariables false
set_option linter.unusedSimpArgs false

theorem neqI_self (a b : Int) (w : World) : (binOp .neq 49 (.agg #[.int .u64 a, .int .u64 b]) (.agg #[.int .u64 a, .int .u64 b])).run Try.prog w = .ok (.bool false) w := by
  go_simp <;> simp
theorem eqI_self (a b : Int) (w : World) : (binOp .eql 49 (.agg #[.int .u64 a, .int .u64 b]) (.agg #[.int .u64 a, .int .u64 b])).run Try.prog w = .ok (.bool true) w := by
  rw [eqI]; simp
end Go.Proofs.Ytmcfflecaklpcaa
