/-
  What the document's Sqr of intervals answers. Conditions: those that each theorem names.
-/
import Derived.Test.YtllfcklgljdgeaaZ34
import Derived.Test.YtllfcklgljdgeaaZ06
import Derived.Test.YtllfcklgljdgeaaZ30
import Derived.Test.YtllfcklgljdgeaaZ18
import Derived.Test.YtllfcklgljdgeaaZ14
namespace Go.Proofs.Ytllfcklgljdgeaa
open Go.RowKit Nm Rn
set_option maxRecDepth 100000
set_option linter.unusedVariables false
set_option linter.unusedSimpArgs false

set_option maxHeartbeats 1000000 in
theorem square6_none (i : Int) (s : Bool) (A : Option Addr) (l c : Nat) (B : Option Addr) (k d N D : Nat) (j : Int) (r : Bool) (A2 : Option Addr) (l2 c2 : Nat) (B2 : Option Addr) (k2 d2 N2 D2 : Nat) (w : World) (h1 : RatAt w A l c B k d N D) (h2 : RatAt w A2 l2 c2 B2 k2 d2 N2 D2) : Calls Try.prog 22 #[.agg #[.bool true, .int .i64 i, .bool s, .slice A l c, .slice B k d, .int .i64 j, .bool r, .slice A2 l2 c2, .slice B2 k2 d2]] w (RetSet true i s N D j r N2 D2 w) := by
  have hO := ((((Own.start w).add h1.1).add h1.2).add h2.1).add h2.2
  have hf : True := trivial
  clear h1 h2
  go_enter Try.func22, Try.ntmps22
  go_wp2_with (first | ((with_reducible refine at_box ?_); refine own_box (cs := [.bool true, .int .i64 i, .bool s, .slice A l c, .slice B k d, .int .i64 j, .bool r, .slice A2 l2 c2, .slice B2 k2 d2]) hO rfl rfl ?_; clear hO; intro ga wa hO; clear hf; have hf := hO.cells; simp only [BC, CC, Nat.zero_add, Nat.reduceAdd, and_true] at hf) | ((with_reducible refine at_alloc ?_); refine own_alloc hO zero_set rfl rfl ?_; clear hO; intro g w1 hO; clear hf; have hf := hO.cells; simp only [BC, CC, Nat.zero_add, Nat.reduceAdd, and_true] at hf) | ((with_reducible refine at_store (T := 49) ?_); refine own_store (T := 49) hO 0 rfl rfl rfl size_set rfl rfl rfl ?_; clear hO; intro w1 hO; simp only [List.set_cons_zero, List.set_cons_succ, spl, List.take_succ_cons, List.take_zero, List.nil_append, List.cons_append, List.length_cons, List.length_nil, List.drop_succ_cons, List.drop_zero, List.drop_nil, Nat.reduceAdd, Nat.zero_add, List.append_nil] at hO; clear hf; have hf := hO.cells; simp only [BC, CC, Nat.zero_add, Nat.reduceAdd, and_true] at hf))
  exact own_ret hO 0 rfl rfl rfl agg_set size_set rfl ⟨_, _, _, _, _, _, _, _, _, _, _, _, rfl, ⟨hO.wd 3 rfl, hO.wd 2 rfl⟩, ⟨hO.wd 1 rfl, hO.wd 0 rfl⟩, hO.toExt⟩

/-- The square of the bound of a pattern. -/
theorem prod6_sq (p : Nat) (A : Option Addr) (l c : Nat) (B : Option Addr) (k d : Nat) (w : World) (hp : p < 18446744073709551616) (np : isNaN p = false) (h1 : RatAt w A l c B k d (bN p) (bD p)) :
    Calls Try.prog 42 #[.agg #[.int .i64 (bI p), .bool (bNeg p), .slice A l c, .slice B k d], .agg #[.int .i64 (bI p), .bool (bNeg p), .slice A l c, .slice B k d]] w (RetEnd (qI p) false (qN p) (qD p) w) := by
  have HS := Lib.hid (fun w h => sign6_any (bI p) (bNeg p) A l c B k d (bN p) (bD p) w h (bN_sz p))
  have hes := eS_bits hp np
  unfold qI qN qD
  by_cases h0 : key p = 0
  · rw [if_pos h0, if_pos h0, if_pos h0]
    rw [hes, h0, show cmpI (0 : Int) 0 = 0 from rfl] at HS
    exact prod6_z (bI p) (bNeg p) A l c B k d (bN p) (bD p) w h1 HS
  · rw [if_neg h0, if_neg h0, if_neg h0]
    have hr := bI_rng p
    have hc : bI p = 0 ∨ bI p = 1 ∨ bI p = -1 := by omega
    rcases hc with hc | hc | hc
    · rw [if_neg (by omega), if_neg (by omega), if_neg (by omega)]
      have hne : (cmpI (key p) 0 == 0) = false := by
        rw [beq_eq_false_iff_ne]
        unfold cmpI
        split
        · omega
        · split <;> omega
      rw [hes] at HS
      rw [hc] at HS ⊢
      exact prod6_f _ (bNeg p) A l c B k d (bN p) (bD p) w h1 HS hne (bN_sz p) (bD_sz p) (Nat.mul_pos (by have := bD_ne p; omega) (by have := bD_ne p; omega))
    · rw [if_pos (by omega), if_pos (by omega), if_pos (by omega)]
      rw [hc] at HS ⊢
      exact prod6_ip (bNeg p) A l c B k d (bN p) (bD p) w h1 HS
    · rw [if_pos (by omega), if_pos (by omega), if_pos (by omega)]
      rw [hc] at HS ⊢
      exact prod6_im (bNeg p) A l c B k d (bN p) (bD p) w h1 HS

/-- Of two patterns the one nearer to nought, the one farther from it. -/
def nearP (p q : Nat) : Nat := if mg q < mg p then q else p
def farP (p q : Nat) : Nat := if mg p < mg q then q else p
theorem cmpI_lt {a b : Int} : cmpI a b < 0 ↔ a < b := by unfold cmpI; split; omega; split <;> omega
theorem cmpI_gt {a b : Int} : 0 < cmpI a b ↔ b < a := by unfold cmpI; split; omega; split <;> omega
theorem sq_cmp (p q : Nat) (A : Option Addr) (l c : Nat) (B : Option Addr) (k d : Nat) (A2 : Option Addr) (l2 c2 : Nat) (B2 : Option Addr) (k2 d2 : Nat) (hp : p < 18446744073709551616) (np : isNaN p = false) (hq : q < 18446744073709551616) (nq : isNaN q = false) :
    Hid (∀ w, RatAt w A l c B k d (qN p) (qD p) → RatAt w A2 l2 c2 B2 k2 d2 (qN q) (qD q) → Calls Try.prog 65 #[.agg #[.int .i64 (qI q), .bool false, .slice A2 l2 c2, .slice B2 k2 d2], .agg #[.int .i64 (qI p), .bool false, .slice A l c, .slice B k d]] w fun e w' => e = .returned (.int .i64 (cmpI (mg q : Int) (mg p : Int))) ∧ Ext w w') := by
  refine Lib.hid fun w h1 h2 => ?_
  have s1 := sq_sz p
  have s2 := sq_sz q
  have h := cmp6_any (qI q) false A2 l2 c2 B2 k2 d2 (qN q) (qD q) (qI p) false A l c B k d (qN p) (qD p) w h2 h1 (by omega) (by omega) (by omega) (by omega) s2.2.2 s1.2.2
  rw [cmp_sq hp np hq nq] at h
  exact h
theorem lesser_sq (p q : Nat) (A : Option Addr) (l c : Nat) (B : Option Addr) (k d : Nat) (A2 : Option Addr) (l2 c2 : Nat) (B2 : Option Addr) (k2 d2 : Nat) (w : World) (hp : p < 18446744073709551616) (np : isNaN p = false) (hq : q < 18446744073709551616) (nq : isNaN q = false)
    (h1 : RatAt w A l c B k d (qN p) (qD p)) (h2 : RatAt w A2 l2 c2 B2 k2 d2 (qN q) (qD q)) :
    Calls Try.prog 43 #[.agg #[.int .i64 (qI p), .bool false, .slice A l c, .slice B k d], .agg #[.int .i64 (qI q), .bool false, .slice A2 l2 c2, .slice B2 k2 d2]] w (RetEnd (qI (nearP p q)) false (qN (nearP p q)) (qD (nearP p q)) w) := by
  have HC := sq_cmp p q A l c B k d A2 l2 c2 B2 k2 d2 hp np hq nq
  by_cases h : mg q < mg p
  · have e : nearP p q = q := if_pos h
    rw [e]
    exact lesser6_a _ _ _ _ _ _ _ _ _ _ _ _ _ _ _ _ _ _ _ _ w h1 h2 _ HC (cmpI_lt.2 (by omega))
  · have e : nearP p q = p := if_neg h
    rw [e]
    exact lesser6_b _ _ _ _ _ _ _ _ _ _ _ _ _ _ _ _ _ _ _ _ w h1 h2 _ HC (by rw [cmpI_lt]; omega)
theorem greater_sq (p q : Nat) (A : Option Addr) (l c : Nat) (B : Option Addr) (k d : Nat) (A2 : Option Addr) (l2 c2 : Nat) (B2 : Option Addr) (k2 d2 : Nat) (w : World) (hp : p < 18446744073709551616) (np : isNaN p = false) (hq : q < 18446744073709551616) (nq : isNaN q = false)
    (h1 : RatAt w A l c B k d (qN p) (qD p)) (h2 : RatAt w A2 l2 c2 B2 k2 d2 (qN q) (qD q)) :
    Calls Try.prog 46 #[.agg #[.int .i64 (qI p), .bool false, .slice A l c, .slice B k d], .agg #[.int .i64 (qI q), .bool false, .slice A2 l2 c2, .slice B2 k2 d2]] w (RetEnd (qI (farP p q)) false (qN (farP p q)) (qD (farP p q)) w) := by
  have HC := sq_cmp p q A l c B k d A2 l2 c2 B2 k2 d2 hp np hq nq
  by_cases h : mg p < mg q
  · have e : farP p q = q := if_pos h
    rw [e]
    exact greater6_a _ _ _ _ _ _ _ _ _ _ _ _ _ _ _ _ _ _ _ _ w h1 h2 _ HC (cmpI_gt.2 (by omega))
  · have e : farP p q = p := if_neg h
    rw [e]
    exact greater6_b _ _ _ _ _ _ _ _ _ _ _ _ _ _ _ _ _ _ _ _ w h1 h2 _ HC (by rw [cmpI_gt]; omega)

set_option maxHeartbeats 2000000 in
theorem sqr6_gen (x1 x2 : Nat) (xaf : Bool) (xai : Int) (xas : Bool) (xaN xaD : Nat) (xaj : Int) (xar : Bool) (xaM xaE : Nat) (xuf : Bool) (xui : Int) (xus : Bool) (xuN xuD : Nat) (xuj : Int) (xur : Bool) (xuM xuE : Nat) (r1 r2 : Nat) (w : World)
    (HA : Hid (∀ w, Calls Try.prog 23 #[.agg #[.int .u64 (x1 : Int), .int .u64 (x2 : Int)]] w (RetSet xaf xai xas xaN xaD xaj xar xaM xaE w)))
    (HQ : Hid (∀ A l c B k d A2 l2 c2 B2 k2 d2 w, RatAt w A l c B k d xaN xaD → RatAt w A2 l2 c2 B2 k2 d2 xaM xaE → Calls Try.prog 22 #[.agg #[.bool xaf, .int .i64 xai, .bool xas, .slice A l c, .slice B k d, .int .i64 xaj, .bool xar, .slice A2 l2 c2, .slice B2 k2 d2]] w (RetSet xuf xui xus xuN xuD xuj xur xuM xuE w)))
    (HL : Hid (∀ A l c B k d A2 l2 c2 B2 k2 d2 w, RatAt w A l c B k d xuN xuD → RatAt w A2 l2 c2 B2 k2 d2 xuM xuE → Calls Try.prog 21 #[.agg #[.bool xuf, .int .i64 xui, .bool xus, .slice A l c, .slice B k d, .int .i64 xuj, .bool xur, .slice A2 l2 c2, .slice B2 k2 d2]] w (RetI r1 r2 w))) :
    Calls Try.prog 9 #[.agg #[.int .u64 (x1 : Int), .int .u64 (x2 : Int)]] w (RetI r1 r2 w) := by
  have hO := Own.start w
  have hf : True := trivial
  go_enter Try.func9, Try.ntmps9
  go_wp2_with (first | ((with_reducible refine at_box ?_); refine own_box (cs := [.int .u64 (x1 : Int), .int .u64 (x2 : Int)]) hO rfl rfl ?_; clear hO; intro ga wa hO; clear hf; have hf := hO.cells; simp only [BC, CC, Nat.zero_add, Nat.reduceAdd, and_true] at hf) | ((with_reducible refine at_alloc ?_); refine own_alloc hO zero_I rfl rfl ?_; clear hO; intro g w1 hO; clear hf; have hf := hO.cells; simp only [BC, CC, Nat.zero_add, Nat.reduceAdd, and_true] at hf))
  refine (HA.out _).mono ?_
  rintro e w2 ⟨A1, l1, c1, B1, k1, d1, A2, l2, c2, B2, k2, d2, rfl, h1, h2, hE1⟩
  have hO := hO.ext hE1
  clear hf
  have hf := hO.cells
  simp only [BC, CC, Nat.zero_add, Nat.reduceAdd, and_true] at hf
  clear hE1
  go_wp2_with fail
  refine (HQ.out _ _ _ _ _ _ _ _ _ _ _ _ _ h1 h2).mono ?_
  rintro e w3 ⟨A3, l3, c3, B3, k3, d3, A4, l4, c4, B4, k4, d4, rfl, h3, h4, hE1⟩
  have hO := hO.ext hE1
  clear hf
  have hf := hO.cells
  simp only [BC, CC, Nat.zero_add, Nat.reduceAdd, and_true] at hf
  clear hE1
  go_wp2_with fail
  refine (HL.out _ _ _ _ _ _ _ _ _ _ _ _ _ h3 h4).mono ?_
  rintro e w4 ⟨rfl, hE1⟩
  have hO := hO.ext hE1
  clear hf
  have hf := hO.cells
  simp only [BC, CC, Nat.zero_add, Nat.reduceAdd, and_true] at hf
  clear hE1 h1 h2 h3 h4
  go_wp2_with (first | ((with_reducible refine at_store (T := 24) ?_); refine own_store (T := 24) hO 0 rfl rfl rfl size_I rfl rfl rfl ?_; clear hO; intro w1 hO; simp only [List.set_cons_zero, List.set_cons_succ, spl, List.take_succ_cons, List.take_zero, List.nil_append, List.cons_append, List.length_cons, List.length_nil, List.drop_succ_cons, List.drop_zero, List.drop_nil, Nat.reduceAdd, Nat.zero_add, List.append_nil] at hO; clear hf; have hf := hO.cells; simp only [BC, CC, Nat.zero_add, Nat.reduceAdd, and_true] at hf))
  exact own_ret hO 0 rfl rfl rfl agg_I size_I rfl ⟨rfl, hO.toExt⟩

/-- What Sqr answers. -/
def iqLo (x1 x2 : Nat) : Nat := if emp x1 x2 then infR else if key (rdLo x1 x2) ≤ 0 ∧ 0 ≤ key (rdHi x1 x2) then 0 else mulR (-1) (mg (nearP (rdLo x1 x2) (rdHi x1 x2))) (mg (nearP (rdLo x1 x2) (rdHi x1 x2)))
def iqHi (x1 x2 : Nat) : Nat := if emp x1 x2 then minf else mulR 1 (mg (farP (rdLo x1 x2) (rdHi x1 x2))) (mg (farP (rdLo x1 x2) (rdHi x1 x2)))
theorem key_mgf {p : Nat} (hp : p < 18446744073709551616) (np : isNaN p = false) (h1 : p ≠ infR) (h2 : p ≠ minf) : mg p < infR := mg_fin hp np h1 h2
theorem near_fin {p q : Nat} (hp : p < 18446744073709551616) (np : isNaN p = false) (hq : q < 18446744073709551616) (nq : isNaN q = false) (ip : p ≠ infR) (iq : q ≠ minf) (h : 0 < key p ∨ key q < 0) : mg (nearP p q) < infR := by
  have q1 : key infR = 9218868437227405312 := rfl
  have q2 : key minf = -9218868437227405312 := rfl
  unfold nearP
  rcases h with h | h
  · have := mg_fin hp np ip (by intro e; rw [e, q2] at h; omega)
    split <;> omega
  · have := mg_fin hq nq (by intro e; rw [e, q1] at h; omega) iq
    split <;> omega

theorem sqr6_any (x1 x2 : Nat) (w : World) (hx1 : x1 < 18446744073709551616) (hx2 : x2 < 18446744073709551616) :
    Calls Try.prog 9 #[.agg #[.int .u64 (x1 : Int), .int .u64 (x2 : Int)]] w (RetI (iqLo x1 x2) (iqHi x1 x2) w) := by
  unfold iqLo iqHi
  by_cases ex : emp x1 x2
  · rw [if_pos ex, if_pos ex]
    exact sqr6_gen x1 x2 _ _ _ _ _ _ _ _ _ _ _ _ _ _ _ _ _ _ infR minf w (Lib.hid fun w => of6_none x1 x2 w hx1 hx2 ex)
      (Lib.hid fun A l c B k d A2 l2 c2 B2 k2 d2 w h1 h2 => square6_none 0 false A l c B k d _ _ 0 false A2 l2 c2 B2 k2 d2 _ _ w h1 h2)
      (Lib.hid fun A l c B k d A2 l2 c2 B2 k2 d2 w h1 h2 => least6_none 0 false A l c B k d _ _ 0 false A2 l2 c2 B2 k2 d2 _ _ w h1 h2)
  · rw [if_neg ex, if_neg ex]
    obtain ⟨g1, g2, g3, g4, g5, g6, _, _⟩ := rd_ends hx1 hx2 ex
    have HOF := Lib.hid (fun w => of6_full x1 x2 w hx1 hx2 ex)
    obtain ⟨p, hp⟩ : ∃ p, p = rdLo x1 x2 := ⟨_, rfl⟩
    obtain ⟨q, hq⟩ : ∃ q, q = rdHi x1 x2 := ⟨_, rfl⟩
    rw [← hp] at g1 g3 g5 HOF ⊢
    rw [← hq] at g2 g4 g6 HOF ⊢
    have HP1 := fun (A : Option Addr) (l c : Nat) (B : Option Addr) (k d : Nat) => Lib.hid (fun w h => prod6_sq p A l c B k d w g1 g3 h)
    have HP2 := fun (A : Option Addr) (l c : Nat) (B : Option Addr) (k d : Nat) => Lib.hid (fun w h => prod6_sq q A l c B k d w g2 g4 h)
    have HLE := Lib.hid (fun A l c B k d A2 l2 c2 B2 k2 d2 w h1 h2 => lesser_sq p q A l c B k d A2 l2 c2 B2 k2 d2 w g1 g3 g2 g4 h1 h2)
    have HGR := Lib.hid (fun A l c B k d A2 l2 c2 B2 k2 d2 w h1 h2 => greater_sq p q A l c B k d A2 l2 c2 B2 k2 d2 w g1 g3 g2 g4 h1 h2)
    have HS1 := fun (A : Option Addr) (l c : Nat) (B : Option Addr) (k d : Nat) => Lib.hid (fun w h => sign6_any (bI p) (bNeg p) A l c B k d (bN p) (bD p) w h (bN_sz p))
    have HS2 := fun (A : Option Addr) (l c : Nat) (B : Option Addr) (k d : Nat) => Lib.hid (fun w h => sign6_any (bI q) (bNeg q) A l c B k d (bN q) (bD q) w h (bN_sz q))
    have ep := eS_bits g1 g3
    have eq' := eS_bits g2 g4
    have s1 := sq_sz (nearP p q)
    have s2 := sq_sz (farP p q)
    have hf := sq_hi (p := farP p q) (by unfold farP; split; exact g2; exact g1) (by unfold farP; split; exact g4; exact g3)
    have hn1 : nearP p q < 18446744073709551616 := by unfold nearP; split; exact g2; exact g1
    have hn2 : isNaN (nearP p q) = false := by unfold nearP; split; exact g4; exact g3
    have ca : ∀ {k : Int}, cmpI k 0 ≤ 0 ↔ k ≤ 0 := fun {k} => by unfold cmpI; split; omega; split <;> omega
    have cb : ∀ {k : Int}, 0 ≤ cmpI k 0 ↔ 0 ≤ k := fun {k} => by unfold cmpI; split; omega; split <;> omega
    rw [← hf]
    by_cases hz : key p ≤ 0 ∧ 0 ≤ key q
    · rw [if_pos hz]
      have h0 : lsLo 0 false (fracN 0 1 0) (fracD 0 1 0) = 0 := by unfold lsLo; rw [if_pos rfl, f0N, zr_zero, rnd_zero]
      rw [← h0]
      exact sqr6_gen x1 x2 _ _ _ _ _ _ _ _ _ _ _ _ _ _ _ _ _ _ _ _ w HOF
        (Lib.hid fun A l c B k d A2 l2 c2 B2 k2 d2 w h1 h2 => square6_z (bI p) (bNeg p) A l c B k d (bN p) (bD p) (bI q) (bNeg q) A2 l2 c2 B2 k2 d2 (bN q) (bD q) w h1 h2 _ _ _ _ _ _ _ _ _ _ _ _ _ _ _ _ (HP1 A l c B k d) (HP2 A2 l2 c2 B2 k2 d2) HLE HGR _ _ (HS1 A l c B k d) (HS2 A2 l2 c2 B2 k2 d2) (by rw [ep]; exact decide_eq_true (ca.2 hz.1)) (by rw [eq']; exact decide_eq_true (cb.2 hz.2)))
        (Lib.hid fun A l c B k d A2 l2 c2 B2 k2 d2 w h1 h2 => least6_full 0 false A l c B k d (fracN 0 1 0) (fracD 0 1 0) (qI (farP p q)) false A2 l2 c2 B2 k2 d2 (qN (farP p q)) (qD (farP p q)) w h1 h2 (by rw [f0N]; decide) (by rw [f0D]; decide) (by omega) (by omega) (by rw [f0D]; decide) s2.2.2)
    · rw [if_neg hz]
      have hor : 0 < key p ∨ key q < 0 := by omega
      have hlo := sq_lo hn1 hn2 (near_fin g1 g3 g2 g4 g5 g6 hor)
      rw [← hlo]
      have HL := Lib.hid (fun (A : Option Addr) (l c : Nat) (B : Option Addr) (k d : Nat) (A2 : Option Addr) (l2 c2 : Nat) (B2 : Option Addr) (k2 d2 : Nat) (w : World) h1 h2 => least6_full (qI (nearP p q)) false A l c B k d (qN (nearP p q)) (qD (nearP p q)) (qI (farP p q)) false A2 l2 c2 B2 k2 d2 (qN (farP p q)) (qD (farP p q)) w h1 h2 (by omega) (by omega) (by omega) (by omega) s1.2.2 s2.2.2)
      by_cases hp0 : 0 < key p
      · exact sqr6_gen x1 x2 _ _ _ _ _ _ _ _ _ _ _ _ _ _ _ _ _ _ _ _ w HOF
          (Lib.hid fun A l c B k d A2 l2 c2 B2 k2 d2 w h1 h2 => square6_n1 (bI p) (bNeg p) A l c B k d (bN p) (bD p) (bI q) (bNeg q) A2 l2 c2 B2 k2 d2 (bN q) (bD q) w h1 h2 _ _ _ _ _ _ _ _ _ _ _ _ _ _ _ _ (HP1 A l c B k d) (HP2 A2 l2 c2 B2 k2 d2) HLE HGR _ _ (HS1 A l c B k d) (HS2 A2 l2 c2 B2 k2 d2) (by rw [ep]; exact decide_eq_false (by rw [ca]; omega)))
          HL
      · exact sqr6_gen x1 x2 _ _ _ _ _ _ _ _ _ _ _ _ _ _ _ _ _ _ _ _ w HOF
          (Lib.hid fun A l c B k d A2 l2 c2 B2 k2 d2 w h1 h2 => square6_n2 (bI p) (bNeg p) A l c B k d (bN p) (bD p) (bI q) (bNeg q) A2 l2 c2 B2 k2 d2 (bN q) (bD q) w h1 h2 _ _ _ _ _ _ _ _ _ _ _ _ _ _ _ _ (HP1 A l c B k d) (HP2 A2 l2 c2 B2 k2 d2) HLE HGR _ _ (HS1 A l c B k d) (HS2 A2 l2 c2 B2 k2 d2) (by rw [ep]; exact decide_eq_true (ca.2 (by omega))) (by rw [eq']; exact decide_eq_false (by rw [cb]; omega)))
          HL
end Go.Proofs.Ytllfcklgljdgeaa

/-
  The contracts of the program's side and Sqr of intervals; the walk of IvalSquares. Conditions: those that each theorem names.
-/
namespace Go.Proofs.Ytllfcklgljdgeaa
open Go.RowKit Nm Rn
set_option maxRecDepth 100000
set_option linter.unusedVariables false
set_option linter.unusedSimpArgs false

set_option maxHeartbeats 1000000 in
theorem iside_any (lo hi : Nat) (w : World) (z : Int) (hl : lo < 18446744073709551616) (hh : hi < 18446744073709551616) (hz : (leB 0 lo = true ∧ z = 1) ∨ (leB 0 lo = false ∧ leB hi 0 = true ∧ z = 0) ∨ (leB 0 lo = false ∧ leB hi 0 = false ∧ z = 2)) :
    Calls Try.prog 18 #[.agg #[.float .f64 lo, .float .f64 hi]] w fun e w' => e = .returned (.int .i64 z) ∧ Ext w w' := by
  have q1 := fo_ge hl (show 0 < 18446744073709551616 by omega)
  have q2 := fo_le hh (show 0 < 18446744073709551616 by omega)
  have hO := Own.start w
  have hf : True := trivial
  rcases hz with ⟨h1, rfl⟩ | ⟨h1, h2, rfl⟩ | ⟨h1, h2, rfl⟩
  · rw [h1] at q1
    clear q2 h1 hl hh
    go_enter Try.func18, Try.ntmps18
    go_wp2_with (first | ((with_reducible refine at_box ?_); refine own_box (cs := [.float .f64 lo, .float .f64 hi]) hO rfl rfl ?_; clear hO; intro ga wa hO; clear hf; have hf := hO.cells; simp only [BC, CC, Nat.zero_add, Nat.reduceAdd, and_true] at hf))
    go_ret
    exact ⟨rfl, hO.toExt⟩
  · rw [h1] at q1
    rw [h2] at q2
    clear h1 h2 hl hh
    go_enter Try.func18, Try.ntmps18
    go_wp2_with (first | ((with_reducible refine at_box ?_); refine own_box (cs := [.float .f64 lo, .float .f64 hi]) hO rfl rfl ?_; clear hO; intro ga wa hO; clear hf; have hf := hO.cells; simp only [BC, CC, Nat.zero_add, Nat.reduceAdd, and_true] at hf))
    go_ret
    exact ⟨rfl, hO.toExt⟩
  · rw [h1] at q1
    rw [h2] at q2
    clear h1 h2 hl hh
    go_enter Try.func18, Try.ntmps18
    go_wp2_with (first | ((with_reducible refine at_box ?_); refine own_box (cs := [.float .f64 lo, .float .f64 hi]) hO rfl rfl ?_; clear hO; intro ga wa hO; clear hf; have hf := hO.cells; simp only [BC, CC, Nat.zero_add, Nat.reduceAdd, and_true] at hf))
    go_ret
    exact ⟨rfl, hO.toExt⟩

set_option maxHeartbeats 2000000 in
theorem isqr_e (x1 x2 a b : Nat) (w : World) (HX : Hid (∀ w, Calls Try.prog 15 #[.agg #[.float .f64 x1, .float .f64 x2]] w (RetF a b w))) (HE : Hid (∀ w, Calls Try.prog 16 #[.agg #[.float .f64 a, .float .f64 b]] w fun e w' => e = .returned (.bool true) ∧ Ext w w')) : Calls Try.prog 7 #[.agg #[.float .f64 x1, .float .f64 x2]] w (RetF a b w) := by
  have hO := Own.start w
  have hf : True := trivial
  go_enter Try.func7, Try.ntmps7
  go_wp2_with (first | ((with_reducible refine at_box ?_); refine own_box (cs := [.float .f64 x1, .float .f64 x2]) hO rfl rfl ?_; clear hO; intro ga wa hO; clear hf; have hf := hO.cells; simp only [BC, CC, Nat.zero_add, Nat.reduceAdd, and_true] at hf) | ((with_reducible refine at_alloc ?_); refine own_alloc hO zero_iv rfl rfl ?_; clear hO; intro g w1 hO; clear hf; have hf := hO.cells; simp only [BC, CC, Nat.zero_add, Nat.reduceAdd, and_true] at hf))
  refine (HX.out _).mono ?_
  rintro e w2 ⟨rfl, hE1⟩
  have hO := hO.ext hE1
  clear hf
  have hf := hO.cells
  simp only [BC, CC, Nat.zero_add, Nat.reduceAdd, and_true] at hf
  clear hE1
  go_wp2_with (first | ((with_reducible refine at_store (T := 28) ?_); refine own_store (T := 28) hO 1 rfl rfl rfl size_iv rfl rfl rfl ?_; clear hO; intro w1 hO; simp only [List.set_cons_zero, List.set_cons_succ, spl, List.take_succ_cons, List.take_zero, List.nil_append, List.cons_append, List.length_cons, List.length_nil, List.drop_succ_cons, List.drop_zero, List.drop_nil, Nat.reduceAdd, Nat.zero_add, List.append_nil] at hO; clear hf; have hf := hO.cells; simp only [BC, CC, Nat.zero_add, Nat.reduceAdd, and_true] at hf))
  refine (HE.out _).mono ?_
  rintro e w2 ⟨rfl, hE1⟩
  have hO := hO.ext hE1
  clear hf
  have hf := hO.cells
  simp only [BC, CC, Nat.zero_add, Nat.reduceAdd, and_true] at hf
  clear hE1
  go_wp2_with (first | ((with_reducible refine at_store (T := 28) ?_); refine own_store (T := 28) hO 0 rfl rfl rfl size_iv rfl rfl rfl ?_; clear hO; intro w1 hO; simp only [List.set_cons_zero, List.set_cons_succ, spl, List.take_succ_cons, List.take_zero, List.nil_append, List.cons_append, List.length_cons, List.length_nil, List.drop_succ_cons, List.drop_zero, List.drop_nil, Nat.reduceAdd, Nat.zero_add, List.append_nil] at hO; clear hf; have hf := hO.cells; simp only [BC, CC, Nat.zero_add, Nat.reduceAdd, and_true] at hf))
  exact own_ret hO 0 rfl rfl rfl agg_iv size_iv rfl ⟨rfl, hO.toExt⟩

set_option maxHeartbeats 8000000 in
theorem isqr_f (x1 x2 a b r1 r2 m1 m2 : Nat) (sw : Bool) (z : Int) (w : World) (HX : Hid (∀ w, Calls Try.prog 15 #[.agg #[.float .f64 x1, .float .f64 x2]] w (RetF a b w))) (HE : Hid (∀ w, Calls Try.prog 16 #[.agg #[.float .f64 a, .float .f64 b]] w fun e w' => e = .returned (.bool false) ∧ Ext w w')) (ha : a < 18446744073709551616) (hb : b < 18446744073709551616)
    (HS : Hid (∀ w, Calls Try.prog 18 #[.agg #[.float .f64 a, .float .f64 b]] w fun e w' => e = .returned (.int .i64 z) ∧ Ext w w'))
    (HM1 : Hid (∀ w, Calls Try.prog 19 #[.int .i64 (-1), .float .f64 m1, .float .f64 m1] w fun e w' => e = .returned (.float .f64 r1) ∧ Ext w w'))
    (HM2 : Hid (∀ w, Calls Try.prog 19 #[.int .i64 1, .float .f64 m2, .float .f64 m2] w fun e w' => e = .returned (.float .f64 r2) ∧ Ext w w'))
    (hq : (FloatKind.f64.format.order (mg a) (mg b) == some .gt) = sw)
    (hm : (sw = true ∧ m2 = mg a ∧ z = 2 ∧ m1 = 0) ∨ (sw = true ∧ m2 = mg a ∧ z = 1 ∧ m1 = mg b) ∨ (sw = true ∧ m2 = mg a ∧ z = 0 ∧ m1 = mg b) ∨ (sw = false ∧ m2 = mg b ∧ z = 2 ∧ m1 = 0) ∨ (sw = false ∧ m2 = mg b ∧ z = 1 ∧ m1 = mg a) ∨ (sw = false ∧ m2 = mg b ∧ z = 0 ∧ m1 = mg a)) : Calls Try.prog 7 #[.agg #[.float .f64 x1, .float .f64 x2]] w (RetF r1 r2 w) := by
  have HA1 := Lib.hid (fun w => mabs_any a w ha)
  have HA2 := Lib.hid (fun w => mabs_any b w hb)
  clear ha hb
  obtain ⟨ma, hma⟩ : ∃ m, m = mg a := ⟨_, rfl⟩
  obtain ⟨mb, hmb⟩ : ∃ m, m = mg b := ⟨_, rfl⟩
  rw [← hma, ← hmb] at hq hm
  rw [← hma] at HA1
  rw [← hmb] at HA2
  clear hma hmb
  have hm' := Lib.hid hm
  clear hm
  have hO := Own.start w
  have hf : True := trivial
  go_enter Try.func7, Try.ntmps7
  go_wp2_with (first | ((with_reducible refine at_box ?_); refine own_box (cs := [.float .f64 x1, .float .f64 x2]) hO rfl rfl ?_; clear hO; intro ga wa hO; clear hf; have hf := hO.cells; simp only [BC, CC, Nat.zero_add, Nat.reduceAdd, and_true] at hf) | ((with_reducible refine at_alloc ?_); refine own_alloc hO zero_iv rfl rfl ?_; clear hO; intro g w1 hO; clear hf; have hf := hO.cells; simp only [BC, CC, Nat.zero_add, Nat.reduceAdd, and_true] at hf))
  refine (HX.out _).mono ?_
  rintro e w2 ⟨rfl, hE1⟩
  have hO := hO.ext hE1
  clear hf
  have hf := hO.cells
  simp only [BC, CC, Nat.zero_add, Nat.reduceAdd, and_true] at hf
  clear hE1
  go_wp2_with (first | ((with_reducible refine at_store (T := 28) ?_); refine own_store (T := 28) hO 1 rfl rfl rfl size_iv rfl rfl rfl ?_; clear hO; intro w1 hO; simp only [List.set_cons_zero, List.set_cons_succ, spl, List.take_succ_cons, List.take_zero, List.nil_append, List.cons_append, List.length_cons, List.length_nil, List.drop_succ_cons, List.drop_zero, List.drop_nil, Nat.reduceAdd, Nat.zero_add, List.append_nil] at hO; clear hf; have hf := hO.cells; simp only [BC, CC, Nat.zero_add, Nat.reduceAdd, and_true] at hf))
  refine (HE.out _).mono ?_
  rintro e w2 ⟨rfl, hE1⟩
  have hO := hO.ext hE1
  clear hf
  have hf := hO.cells
  simp only [BC, CC, Nat.zero_add, Nat.reduceAdd, and_true] at hf
  clear hE1
  go_wp2_with fail
  obtain ⟨S, hS⟩ : ∃ S : World → Prop, S = Own w [⟨g, 28, [.float .f64 0, .float .f64 0]⟩, ⟨ga, 28, [.float .f64 a, .float .f64 b]⟩] [] := ⟨_, rfl⟩
  have hS1 : S w2.drew := by rw [hS]; exact hO.ext (Ext.refl w2).drew
  have HSS := Lib.hid hS
  clear hS hO hf
  refine wp_region_steady S (by kernel_rfl) (by kernel_rfl) hS1 ?_
  repeat (refine wpG_step (fun K hK => ?_)
          go_simp
          first
          | (refine hK _ ?_
             clear hK K)
          | (apply StepG.mk
             intro wz hz
             have hz' := hz
             rw [HSS.out] at hz'
             have hf := hz'.facts
             simp only [BF, CF, Nat.zero_add, Nat.reduceAdd, and_true] at hf
             clear hz'
             go_simp
             first
             | exact ⟨rfl, hz⟩
             | (go_at_call 17
                first
                | (with_reducible refine (HA1.out _).mono ?_)
                | (with_reducible refine (HA2.out _).mono ?_)
                rintro e w5 ⟨rfl, rfl⟩
                exact ⟨rfl, hz⟩)
             refine hK _ ?_
             clear hK K))
  refine wpG_nil ?_
  intro w5 hw5
  rw [HSS.out] at hw5
  have hO := hw5
  have hf := hO.cells
  simp only [BC, CC, Nat.zero_add, Nat.reduceAdd, and_true] at hf
  clear hw5 hS1 HSS S
  have hm := hm'.out
  clear hm'
  rcases hm with ⟨rfl, rfl, rfl, rfl⟩ | ⟨rfl, rfl, rfl, rfl⟩ | ⟨rfl, rfl, rfl, rfl⟩ | ⟨rfl, rfl, rfl, rfl⟩ | ⟨rfl, rfl, rfl, rfl⟩ | ⟨rfl, rfl, rfl, rfl⟩
  all_goals
    go_wp2_with fail
    refine (HS.out _).mono ?_
    rintro e w2 ⟨rfl, hE1⟩
    have hO := hO.ext hE1
    clear hf
    have hf := hO.cells
    simp only [BC, CC, Nat.zero_add, Nat.reduceAdd, and_true] at hf
    clear hE1
    go_wp2_with fail
    refine (HM1.out _).mono ?_
    rintro e w2 ⟨rfl, hE1⟩
    have hO := hO.ext hE1
    clear hf
    have hf := hO.cells
    simp only [BC, CC, Nat.zero_add, Nat.reduceAdd, and_true] at hf
    clear hE1
    go_wp2_with fail
    refine (HM2.out _).mono ?_
    rintro e w2 ⟨rfl, hE1⟩
    have hO := hO.ext hE1
    clear hf
    have hf := hO.cells
    simp only [BC, CC, Nat.zero_add, Nat.reduceAdd, and_true] at hf
    clear hE1
    go_wp2_with (first | ((with_reducible refine at_store (T := 28) ?_); refine own_store (T := 28) hO 0 rfl rfl rfl size_iv rfl rfl rfl ?_; clear hO; intro w1 hO; simp only [List.set_cons_zero, List.set_cons_succ, spl, List.take_succ_cons, List.take_zero, List.nil_append, List.cons_append, List.length_cons, List.length_nil, List.drop_succ_cons, List.drop_zero, List.drop_nil, Nat.reduceAdd, Nat.zero_add, List.append_nil] at hO; clear hf; have hf := hO.cells; simp only [BC, CC, Nat.zero_add, Nat.reduceAdd, and_true] at hf))
    exact own_ret hO 0 rfl rfl rfl agg_iv size_iv rfl ⟨rfl, hO.toExt⟩

theorem mulR_num {d : Int} {m : Nat} (hn : isNaN m = false) : isNaN (mulR d m m) = false := by
  unfold mulR
  rw [hn]
  cases h : isInf m
  · exact (rnd_ok _ _ _).2
  · have := (isInf_iff m).1 h
    have h0 : ¬ (mg m = 0 ∨ mg m = 0) := by rw [this, infR_val]; omega
    simp only [Bool.or_self, Bool.false_eq_true, if_false, if_true]
    rw [if_neg h0]
    cases (sg m != sg m) <;> rfl
theorem leB_key {a : Nat} (h : isNaN a = false) : leB 0 a = decide (0 ≤ key a) ∧ leB a 0 = decide (key a ≤ 0) := by
  have h0 : isNaN 0 = false := rfl
  have k0 : key 0 = 0 := rfl
  unfold leB
  rw [h, h0, k0]
  simp
theorem isqr_any (x1 x2 : Nat) (w : World) (hx1 : x1 < 18446744073709551616) (hx2 : x2 < 18446744073709551616) :
    Calls Try.prog 7 #[.agg #[.float .f64 x1, .float .f64 x2]] w (RetF (iqLo x1 x2) (iqHi x1 x2) w) := by
  have HX := Lib.hid (fun w => iread_any x1 x2 w hx1 hx2)
  have HE := Lib.hid (fun w => iemp_any (rdLo x1 x2) (rdHi x1 x2) w (rdLo_lt x1 x2 hx1) (rdHi_lt x1 x2 hx2))
  rw [emp_lt hx1 hx2] at HE
  unfold iqLo iqHi
  by_cases ex : emp x1 x2
  · rw [if_pos ex, if_pos ex]
    rw [decide_eq_true ex] at HE
    have h := isqr_e x1 x2 _ _ w HX HE
    rw [ex.1, ex.2] at h
    exact h
  · rw [if_neg ex, if_neg ex]
    rw [decide_eq_false ex] at HE
    obtain ⟨g1, g2, g3, g4, g5, g6, _, _⟩ := rd_ends hx1 hx2 ex
    obtain ⟨p, hp⟩ : ∃ p, p = rdLo x1 x2 := ⟨_, rfl⟩
    obtain ⟨q, hq⟩ : ∃ q, q = rdHi x1 x2 := ⟨_, rfl⟩
    rw [← hp] at g1 g3 g5 HX HE ⊢
    rw [← hq] at g2 g4 g6 HX HE ⊢
    have nm : ∀ x, isNaN x = false → isNaN (mg x) = false := fun x h => by rw [nan_mg]; exact h
    have le : ∀ x, isNaN x = false → mg x ≤ infR := fun x h => by
      have := of_decide_eq_false (show decide (infR < mg x) = false from h)
      omega
    obtain ⟨l1, l2⟩ := leB_key g3
    obtain ⟨l3, l4⟩ := leB_key g4
    obtain ⟨z, hz⟩ : ∃ z : Int, z = if 0 ≤ key p then 1 else if key q ≤ 0 then 0 else 2 := ⟨_, rfl⟩
    have HS := Lib.hid (fun w => iside_any p q w z g1 g2 (by
      rw [l1, l4]
      by_cases a1 : 0 ≤ key p
      · left; exact ⟨decide_eq_true a1, by rw [hz, if_pos a1]⟩
      · by_cases a2 : key q ≤ 0
        · right; left; exact ⟨decide_eq_false a1, decide_eq_true a2, by rw [hz, if_neg a1, if_pos a2]⟩
        · right; right; exact ⟨decide_eq_false a1, decide_eq_false a2, by rw [hz, if_neg a1, if_neg a2]⟩))
    obtain ⟨m1, hm1⟩ : ∃ m, m = if z = 2 then 0 else mg (nearP p q) := ⟨_, rfl⟩
    have hn1 : isNaN m1 = false := by
      rw [hm1]
      split
      · rfl
      · refine nm _ ?_
        unfold nearP; split; exact g4; exact g3
    have hl1 : m1 < 18446744073709551616 := by
      rw [hm1]
      split
      · omega
      · exact mg_lt64 _
    have hn2 : isNaN (mg (farP p q)) = false := by
      refine nm _ ?_
      unfold farP; split; exact g4; exact g3
    have hlow : (if key p ≤ 0 ∧ 0 ≤ key q then 0 else mulR (-1) (mg (nearP p q)) (mg (nearP p q))) = mulR (-1) m1 m1 := by
      have h00 : mulR (-1) 0 0 = 0 := by decide +kernel
      have hk0 : ∀ x, key x = 0 → mg x = 0 := fun x h => key_zero.1 h
      by_cases hc : key p ≤ 0 ∧ 0 ≤ key q
      · rw [if_pos hc]
        have : m1 = 0 := by
          rw [hm1]
          split
          · rfl
          · rename_i hz2
            have hor : key p = 0 ∨ key q = 0 := by
              rw [hz] at hz2
              by_cases a1 : 0 ≤ key p
              · left; omega
              · by_cases a2 : key q ≤ 0
                · right; omega
                · rw [if_neg a1, if_neg a2] at hz2; omega
            unfold nearP
            rcases hor with h | h
            · have := hk0 _ h
              split <;> omega
            · have := hk0 _ h
              split <;> omega
        rw [this, h00]
      · rw [if_neg hc]
        have hz2 : z ≠ 2 := by
          rw [hz]
          by_cases a1 : 0 ≤ key p
          · rw [if_pos a1]; omega
          · have a2 : key q ≤ 0 := by omega
            rw [if_neg a1, if_pos a2]; omega
        rw [hm1, if_neg hz2]
    rw [hlow]
    have hgt := fo_gt (mg_lt64 p) (mg_lt64 q)
    rw [ltB_pos (le q g4) (le p g3)] at hgt
    refine isqr_f x1 x2 p q _ _ m1 (mg (farP p q)) (decide (mg q < mg p)) z w HX HE g1 g2 HS
      (Lib.hid fun w => (rmul_any (-1) m1 m1 w hl1 hl1).mono fun e w' ⟨r, h1, _, h3, h4⟩ => ⟨by rw [h1, cn_eq h3 (mulR_num hn1)], h4⟩)
      (Lib.hid fun w => (rmul_any 1 _ _ w (mg_lt64 _) (mg_lt64 _)).mono fun e w' ⟨r, h1, _, h3, h4⟩ => ⟨by rw [h1, cn_eq h3 (mulR_num hn2)], h4⟩) hgt ?_
    have hzc : z = 2 ∨ z = 1 ∨ z = 0 := by rw [hz]; split; right; left; rfl; split; right; right; rfl; left; rfl
    by_cases hs : mg q < mg p
    · have f1 : farP p q = p := if_neg (by omega)
      have f2 : nearP p q = q := if_pos hs
      rw [decide_eq_true hs, f1]
      rw [f2] at hm1
      rcases hzc with h | h | h
      · left; exact ⟨rfl, rfl, h, by rw [hm1, if_pos h]⟩
      · right; left; exact ⟨rfl, rfl, h, by rw [hm1, if_neg (by omega)]⟩
      · right; right; left; exact ⟨rfl, rfl, h, by rw [hm1, if_neg (by omega)]⟩
    · have f1 : mg (farP p q) = mg q := by unfold farP; split; rfl; omega
      have f2 : nearP p q = p := if_neg hs
      rw [decide_eq_false hs, f1]
      rw [f2] at hm1
      rcases hzc with h | h | h
      · right; right; right; left; exact ⟨rfl, rfl, h, by rw [hm1, if_pos h]⟩
      · right; right; right; right; left; exact ⟨rfl, rfl, h, by rw [hm1, if_neg (by omega)]⟩
      · right; right; right; right; right; exact ⟨rfl, rfl, h, by rw [hm1, if_neg (by omega)]⟩

set_option maxHeartbeats 4000000 in
theorem squares_walk (x1 x2 : Nat) (w : World) (hx1 : x1 < 18446744073709551616) (hx2 : x2 < 18446744073709551616) :
    Calls Try.prog 3 #[.agg #[.int .u64 (x1 : Int), .int .u64 (x2 : Int)]] w fun e w' => e = .returned (.bool true) ∧ Ext w w' := by
  have h3 := fun w => isqr_any x1 x2 w hx1 hx2
  have h4 := fun w => sqr6_any x1 x2 w hx1 hx2
  obtain ⟨a, ha⟩ : ∃ a, a = iqLo x1 x2 := ⟨_, rfl⟩
  obtain ⟨b, hb⟩ : ∃ b, b = iqHi x1 x2 := ⟨_, rfl⟩
  rw [← ha, ← hb] at h3 h4
  have H3 := Lib.hid h3
  have H4 := Lib.hid h4
  have he1 := eqI_self (a : Int) b
  clear ha hb h3 h4 hx1 hx2
  have hO := Own.start w
  have hf : True := trivial
  go_enter Try.func3, Try.ntmps3
  go_wp2_with (first | ((with_reducible refine at_box ?_); refine own_box (cs := [.int .u64 (x1 : Int), .int .u64 (x2 : Int)]) hO rfl rfl ?_; clear hO; intro ga wa hO; clear hf; have hf := hO.cells; simp only [BC, CC, Nat.zero_add, Nat.reduceAdd, and_true] at hf))
  obtain ⟨S, hS⟩ : ∃ S : World → Prop, S = Own w [⟨ga, 24, [.int .u64 (x1 : Int), .int .u64 (x2 : Int)]⟩] [] := ⟨_, rfl⟩
  have hS1 : S wa.drew := by rw [hS]; exact hO.ext (Ext.refl wa).drew
  have HSS := Lib.hid hS
  clear hS hO hf
  refine wp_region_steady S (by kernel_rfl) (by kernel_rfl) hS1 ?_
  repeat (refine wpG_step (fun K hK => ?_)
          go_simp
          first
          | (refine hK _ ?_
             clear hK K)
          | (apply StepG.mk
             intro wz hz
             have hz' := hz
             rw [HSS.out] at hz'
             have hf := hz'.facts
             simp only [BF, CF, Nat.zero_add, Nat.reduceAdd, and_true] at hf
             have hk : ∀ w5, Ext wz w5 → S w5 := fun w5 h5 => by rw [HSS.out]; exact hz'.ext h5
             have HK := Lib.hid hk
             clear hk hz'
             go_simp
             first
             | exact ⟨rfl, hz⟩
             | (go_at_call 8; exact (in6_any _ _ _).mono fun e w5 h5 => ⟨h5.1, HK.out _ h5.2⟩)
             | (go_at_call 6; exact (out6_any _ _ _).mono fun e w5 h5 => ⟨h5.1, HK.out _ h5.2⟩)
             | (go_at_call 7; exact (H3.out _).mono fun e w5 h5 => ⟨h5.1, HK.out _ h5.2⟩)
             | (go_at_call 9; exact (H4.out _).mono fun e w5 h5 => ⟨h5.1, HK.out _ h5.2⟩)
             refine hK _ ?_
             clear hK K))
  refine wpG_nil ?_
  intro w5 hw5
  rw [HSS.out] at hw5
  have HE5 := Lib.hid hw5.toExt
  clear hw5 hS1
  go_wp2
  go_ret
  exact ⟨rfl, HE5.out⟩
end Go.Proofs.Ytllfcklgljdgeaa
