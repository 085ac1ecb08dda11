/-
  Plain: the bounds of a negative; a negative read again. Conditions: those that each theorem names.
-/
import Derived.Test.YtllfcklgljdgeaaZ29
import Derived.Test.YtllfcklgljdgeaaZ30
import Derived.Test.YtllfcklgljdgeaaZ14
namespace Go.Proofs.Ytllfcklgljdgeaa
open Go.RowKit Nm Rn
set_option linter.unusedVariables false
set_option linter.unusedSimpArgs false

theorem ngt {x : Nat} (h : sg x = true) : ng x = x - 9223372036854775808 := by unfold ng; rw [h]; exact if_pos rfl
theorem ngf {x : Nat} (h : sg x = false) : ng x = x + 9223372036854775808 := by unfold ng; rw [h]; exact if_neg (by decide)
theorem ng_top {x : Nat} (hx : x < 18446744073709551616) (h : ng x = 9223372036854775808) : x = 0 := by
  have hs : sg x = decide (9223372036854775808 ≤ x) := rfl
  cases h1 : sg x
  · rw [ngf h1] at h; omega
  · rw [ngt h1] at h; omega
theorem key_ng6 {x : Nat} (hx : x < 18446744073709551616) : key (ng x) = -key x := by
  unfold key
  rw [sg_ng hx, mg_ng hx]
  cases sg x <;> simp
theorem key_pl6 (b : Nat) : key (pl b) = key b := by
  unfold pl
  split
  · rename_i hb; subst hb; rfl
  · rfl
theorem nan_ng6 {x : Nat} (hx : x < 18446744073709551616) : isNaN (pl (ng x)) = isNaN x := by
  have e : isNaN (ng x) = isNaN x := by unfold isNaN; rw [mg_ng hx]
  unfold pl
  split
  · rename_i hb
    have := ng_top hx hb
    subst this; rfl
  · exact e
theorem bnd_ng {x : Nat} (hx : x < 18446744073709551616) (hn : isNaN x = false) :
    bI (pl (ng x)) = -(bI x) ∧ bNeg (pl (ng x)) = (!bNeg x && decide (bN x ≠ 0)) ∧ bN (pl (ng x)) = bN x ∧ bD (pl (ng x)) = bD x := by
  rcases bnd3 hx hn with ⟨e, -⟩ | ⟨e, -⟩ | ⟨a1, a2, a3, a4, a5, a6⟩
  · subst e; decide +kernel
  · subst e; decide +kernel
  · by_cases ht : ng x = 9223372036854775808
    · have h0 := ng_top hx ht
      subst h0
      decide +kernel
    · have hp : pl (ng x) = ng x := by unfold pl; rw [if_neg ht]
      rw [hp]
      have hm := mg_ng hx
      have hnn : isNaN (ng x) = false := by unfold isNaN; rw [hm]; exact hn
      rcases bnd3 (ng_lt hx) hnn with ⟨e, -⟩ | ⟨e, -⟩ | ⟨b1, b2, b3, b4, b5, b6⟩
      · rw [e] at hm; rw [← hm, show mg infR = infR by rw [infR_val]; rfl] at a5; omega
      · rw [e] at hm; rw [← hm, show mg minf = infR by rw [infR_val, minf_val]; rfl] at a5; omega
      · refine ⟨by rw [a1, b1]; rfl, ?_, by rw [a3, b3, (fb_ng hx).1], by rw [a4, b4, (fb_ng hx).2]⟩
        rw [b2, a2, a3, sg_ng hx, hm]
        have e : decide (fbN x ≠ 0) = decide (mg x ≠ 0) := decide_eq_decide.2 (not_congr (fbN_zero x))
        rw [e]
        cases sg x <;> cases decide (mg x ≠ 0) <;> rfl
theorem rd_ng {lo hi : Nat} (hl : lo < 18446744073709551616) (hh : hi < 18446744073709551616) (h : ¬ (rdLo lo hi = infR ∧ rdHi lo hi = minf)) :
    rdLo (ngLo lo hi) (ngHi lo hi) = pl (ng (rdHi lo hi)) ∧ rdHi (ngLo lo hi) (ngHi lo hi) = pl (ng (rdLo lo hi)) ∧ pl (ng (rdHi lo hi)) ≠ infR ∧ pl (ng (rdLo lo hi)) ≠ minf := by
  obtain ⟨g1, g2, g3, g4, g5, g6, g7, g8⟩ := rd_ends hl hh h
  have e1 : ngLo lo hi = pl (ng (rdHi lo hi)) := if_neg h
  have e2 : ngHi lo hi = pl (ng (rdLo lo hi)) := if_neg h
  have k1 : key (pl (ng (rdHi lo hi))) = -key (rdHi lo hi) := by rw [key_pl6, key_ng6 g2]
  have k2 : key (pl (ng (rdLo lo hi))) = -key (rdLo lo hi) := by rw [key_pl6, key_ng6 g1]
  have n1 : isNaN (pl (ng (rdHi lo hi))) = false := by rw [nan_ng6 g2]; exact g4
  have n2 : isNaN (pl (ng (rdLo lo hi))) = false := by rw [nan_ng6 g1]; exact g3
  have q1 : key infR = 9218868437227405312 := rfl
  have q2 : key minf = -9218868437227405312 := rfl
  have m1 : -9218868437227405312 < key (rdHi lo hi) := by
    rcases bnd3 g2 g4 with ⟨e, -⟩ | ⟨e, -⟩ | ⟨a1, a2, a3, a4, a5, a6⟩
    · rw [e, q1]; omega
    · exact absurd e g6
    · rw [infR_val] at a5; unfold key; split <;> omega
  have m2 : key (rdLo lo hi) < 9218868437227405312 := by
    rcases bnd3 g1 g3 with ⟨e, -⟩ | ⟨e, -⟩ | ⟨a1, a2, a3, a4, a5, a6⟩
    · exact absurd e g5
    · rw [e, q2]; omega
    · rw [infR_val] at a5; unfold key; split <;> omega
  have hs : sndB (pl (ng (rdHi lo hi))) (pl (ng (rdLo lo hi))) = true := by
    unfold sndB leB ltB
    rw [n1, n2, k1, k2, q1, q2, show isNaN infR = false from rfl, show isNaN minf = false from rfl]
    simp
    omega
  have pp : ∀ b, pl (pl b) = pl b := by
    intro b
    unfold pl
    split
    · rfl
    · rfl
  have rl : ∀ a b, sndB a b = true → rdLo a b = pl a ∧ rdHi a b = pl b := fun a b hab => by unfold rdLo rdHi; rw [hab]; exact ⟨rfl, rfl⟩
  refine ⟨?_, ?_, ?_, ?_⟩
  · rw [e1, e2, (rl _ _ hs).1]; exact pp _
  · rw [e1, e2, (rl _ _ hs).2]; exact pp _
  · intro e; rw [e, q1] at k1; omega
  · intro e; rw [e, q2] at k2; omega
theorem rd_ng_emp {lo hi : Nat} (h : rdLo lo hi = infR ∧ rdHi lo hi = minf) : rdLo (ngLo lo hi) (ngHi lo hi) = infR ∧ rdHi (ngLo lo hi) (ngHi lo hi) = minf := by
  have e1 : ngLo lo hi = infR := if_pos h
  have e2 : ngHi lo hi = minf := if_pos h
  rw [e1, e2]
  decide +kernel
end Go.Proofs.Ytllfcklgljdgeaa

/-
  The contract of the document's Sub of intervals. Conditions: those that each theorem names.
-/
namespace Go.Proofs.Ytllfcklgljdgeaa
open Go.RowKit Nm Rn
set_option maxRecDepth 100000
set_option linter.unusedVariables false
set_option linter.unusedSimpArgs false

set_option maxHeartbeats 4000000 in
theorem sub6_gen (x1 x2 y1 y2 : Nat) (xaf : Bool) (xai : Int) (xas : Bool) (xaN xaD : Nat) (xaj : Int) (xar : Bool) (xaM xaE : Nat) (xbf : Bool) (xbi : Int) (xbs : Bool) (xbN xbD : Nat) (xbj : Int) (xbr : Bool) (xbM xbE : Nat) (xcf : Bool) (xci : Int) (xcs : Bool) (xcN xcD : Nat) (xcj : Int) (xcr : Bool) (xcM xcE : Nat) (xuf : Bool) (xui : Int) (xus : Bool) (xuN xuD : Nat) (xuj : Int) (xur : Bool) (xuM xuE : Nat) (r1 r2 : Nat) (w : World)
    (HA : Hid (∀ w, Calls Try.prog 23 #[.agg #[.int .u64 (x1 : Int), .int .u64 (x2 : Int)]] w (RetSet xaf xai xas xaN xaD xaj xar xaM xaE w)))
    (HB : Hid (∀ w, Calls Try.prog 23 #[.agg #[.int .u64 (y1 : Int), .int .u64 (y2 : Int)]] w (RetSet xbf xbi xbs xbN xbD xbj xbr xbM xbE w)))
    (HM : Hid (∀ A l c B k d A2 l2 c2 B2 k2 d2 w, RatAt w A l c B k d xbN xbD → RatAt w A2 l2 c2 B2 k2 d2 xbM xbE → Calls Try.prog 28 #[.agg #[.bool xbf, .int .i64 xbi, .bool xbs, .slice A l c, .slice B k d, .int .i64 xbj, .bool xbr, .slice A2 l2 c2, .slice B2 k2 d2]] w (RetSet xcf xci xcs xcN xcD xcj xcr xcM xcE w)))
    (HP : Hid (∀ A l c B k d A2 l2 c2 B2 k2 d2 Ax lx cx Bx kx dx A2x l2x c2x B2x k2x d2x w, RatAt w A l c B k d xaN xaD → RatAt w A2 l2 c2 B2 k2 d2 xaM xaE → RatAt w Ax lx cx Bx kx dx xcN xcD → RatAt w A2x l2x c2x B2x k2x d2x xcM xcE → Calls Try.prog 26 #[.agg #[.bool xaf, .int .i64 xai, .bool xas, .slice A l c, .slice B k d, .int .i64 xaj, .bool xar, .slice A2 l2 c2, .slice B2 k2 d2], .agg #[.bool xcf, .int .i64 xci, .bool xcs, .slice Ax lx cx, .slice Bx kx dx, .int .i64 xcj, .bool xcr, .slice A2x l2x c2x, .slice B2x k2x d2x]] w (RetSet xuf xui xus xuN xuD xuj xur xuM xuE w)))
    (HL : Hid (∀ A l c B k d A2 l2 c2 B2 k2 d2 w, RatAt w A l c B k d xuN xuD → RatAt w A2 l2 c2 B2 k2 d2 xuM xuE → Calls Try.prog 21 #[.agg #[.bool xuf, .int .i64 xui, .bool xus, .slice A l c, .slice B k d, .int .i64 xuj, .bool xur, .slice A2 l2 c2, .slice B2 k2 d2]] w (RetI r1 r2 w))) :
    Calls Try.prog 13 #[.agg #[.int .u64 (x1 : Int), .int .u64 (x2 : Int)], .agg #[.int .u64 (y1 : Int), .int .u64 (y2 : Int)]] w (RetI r1 r2 w) := by
  have hO := Own.start w
  have hf : True := trivial
  go_enter Try.func13, Try.ntmps13
  go_wp2_with (first | ((with_reducible refine at_box ?_); refine own_box (cs := [.int .u64 (x1 : Int), .int .u64 (x2 : Int)]) hO rfl rfl ?_; clear hO; intro ga wa hO; clear hf; have hf := hO.cells; simp only [BC, CC, Nat.zero_add, Nat.reduceAdd, and_true] at hf) | ((with_reducible refine at_box ?_); refine own_box (cs := [.int .u64 (y1 : Int), .int .u64 (y2 : Int)]) hO rfl rfl ?_; clear hO; intro gb wa hO; clear hf; have hf := hO.cells; simp only [BC, CC, Nat.zero_add, Nat.reduceAdd, and_true] at hf) | ((with_reducible refine at_alloc ?_); refine own_alloc hO zero_I rfl rfl ?_; clear hO; intro g w1 hO; clear hf; have hf := hO.cells; simp only [BC, CC, Nat.zero_add, Nat.reduceAdd, and_true] at hf))
  obtain ⟨S, hS⟩ : ∃ S : World → Prop, S = Own w [⟨g, 24, [.int .u64 0, .int .u64 0]⟩, ⟨gb, 24, [.int .u64 (y1 : Int), .int .u64 (y2 : Int)]⟩, ⟨ga, 24, [.int .u64 (x1 : Int), .int .u64 (x2 : Int)]⟩] [] := ⟨_, rfl⟩
  have hSE : ∀ w w', S w → Ext w w' → S w' := fun w w' h1 h2 => by rw [hS] at h1 ⊢; exact h1.ext h2
  have hS1 : S w1.drew := by rw [hS]; exact hO.ext (Ext.refl w1).drew
  have HS := Lib.hid hS
  clear hS hO hf
  obtain ⟨sp, hsp⟩ : ∃ sp : Nat → Sp, sp = ofList [det (.agg #[.int .u64 (x1 : Int), .int .u64 (x2 : Int)]), anyOf (fun v wz => ∃ A1 n1 c1 B1 m1 d1 A2 n2 c2 B2 m2 d2, v = .agg #[.bool xaf, .int .i64 xai, .bool xas, .slice A1 n1 c1, .slice B1 m1 d1, .int .i64 xaj, .bool xar, .slice A2 n2 c2, .slice B2 m2 d2] ∧ RatAt wz A1 n1 c1 B1 m1 d1 xaN xaD ∧ RatAt wz A2 n2 c2 B2 m2 d2 xaM xaE), det (.agg #[.int .u64 (y1 : Int), .int .u64 (y2 : Int)]), anyOf (fun v wz => ∃ A1 n1 c1 B1 m1 d1 A2 n2 c2 B2 m2 d2, v = .agg #[.bool xbf, .int .i64 xbi, .bool xbs, .slice A1 n1 c1, .slice B1 m1 d1, .int .i64 xbj, .bool xbr, .slice A2 n2 c2, .slice B2 m2 d2] ∧ RatAt wz A1 n1 c1 B1 m1 d1 xbN xbD ∧ RatAt wz A2 n2 c2 B2 m2 d2 xbM xbE), anyOf (fun v wz => ∃ A1 n1 c1 B1 m1 d1 A2 n2 c2 B2 m2 d2, v = .agg #[.bool xcf, .int .i64 xci, .bool xcs, .slice A1 n1 c1, .slice B1 m1 d1, .int .i64 xcj, .bool xcr, .slice A2 n2 c2, .slice B2 m2 d2] ∧ RatAt wz A1 n1 c1 B1 m1 d1 xcN xcD ∧ RatAt wz A2 n2 c2 B2 m2 d2 xcM xcE), anyOf (fun v wz => ∃ A1 n1 c1 B1 m1 d1 A2 n2 c2 B2 m2 d2, v = .agg #[.bool xuf, .int .i64 xui, .bool xus, .slice A1 n1 c1, .slice B1 m1 d1, .int .i64 xuj, .bool xur, .slice A2 n2 c2, .slice B2 m2 d2] ∧ RatAt wz A1 n1 c1 B1 m1 d1 xuN xuD ∧ RatAt wz A2 n2 c2 B2 m2 d2 xuM xuE), det (.agg #[.int .u64 (r1 : Int), .int .u64 (r2 : Int)])] := ⟨_, rfl⟩
  have HSP := Lib.hid hsp
  clear hsp
  refine wp_region_loose 7 S sp (by kernel_rfl) (by kernel_rfl) hS1 hSE ?_
  simp only [List.take_succ_cons, List.take_zero, List.drop_succ_cons, List.drop_zero]
  refine wpX_step (fun K hK => ?_)
  go_simp
  refine StepY.det (by rw [HSP.out]; rfl) ?_ ?_
  · intro wz hz hF
    rw [HS.out] at hz
    have hf := hz.facts
    simp only [BF, CF, Nat.zero_add, Nat.reduceAdd, and_true] at hf
    clear hz hF
    go_simp
    exact ⟨rfl, Ext.refl _⟩
  refine hK _ _ ?_
  clear hK K
  refine wpX_step (fun K hK => ?_)
  go_simp
  refine StepY.any (by rw [HSP.out]; rfl) ?_ ?_
  · intro wz hz hF
    clear hz hF
    go_simp
    go_at_call 23
    refine (HA.out _).mono ?_
    rintro e w2 ⟨A1, n1, c1, B1, m1, d1, A2, n2, c2, B2, m2, d2, rfl, hq, hr, hE1⟩
    exact ⟨_, rfl, ⟨A1, n1, c1, B1, m1, d1, A2, n2, c2, B2, m2, d2, rfl, hq, hr⟩, hE1⟩
  intro v
  refine hK _ _ ?_
  clear hK K
  refine wpX_step (fun K hK => ?_)
  go_simp
  refine StepY.det (by rw [HSP.out]; rfl) ?_ ?_
  · intro wz hz hF
    rw [HS.out] at hz
    have hf := hz.facts
    simp only [BF, CF, Nat.zero_add, Nat.reduceAdd, and_true] at hf
    clear hz hF
    go_simp
    exact ⟨rfl, Ext.refl _⟩
  refine hK _ _ ?_
  clear hK K
  refine wpX_step (fun K hK => ?_)
  go_simp
  refine StepY.any (by rw [HSP.out]; rfl) ?_ ?_
  · intro wz hz hF
    clear hz hF
    go_simp
    go_at_call 23
    refine (HB.out _).mono ?_
    rintro e w2 ⟨A1, n1, c1, B1, m1, d1, A2, n2, c2, B2, m2, d2, rfl, hq, hr, hE1⟩
    exact ⟨_, rfl, ⟨A1, n1, c1, B1, m1, d1, A2, n2, c2, B2, m2, d2, rfl, hq, hr⟩, hE1⟩
  intro v
  refine hK _ _ ?_
  clear hK K
  refine wpX_step (fun K hK => ?_)
  go_simp
  refine StepY.any (by rw [HSP.out]; rfl) ?_ ?_
  · intro wz hz hF
    obtain ⟨wp, ep, A1p, n1p, c1p, B1p, m1p, d1p, A2p, n2p, c2p, B2p, m2p, d2p, hvp, hqp, hrp⟩ := hF.any 3 (by kernel_rfl) (by rw [HSP.out]; rfl)
    clear hz hF
    simp only [asFun, List.nil_append, List.cons_append, List.getD_cons_succ, List.getD_cons_zero] at hvp
    subst hvp
    go_simp
    go_at_call 28
    refine (HM.out _ _ _ _ _ _ _ _ _ _ _ _ _ (hqp.ext ep) (hrp.ext ep)).mono ?_
    rintro e w2 ⟨A1, n1, c1, B1, m1, d1, A2, n2, c2, B2, m2, d2, rfl, hq, hr, hE1⟩
    exact ⟨_, rfl, ⟨A1, n1, c1, B1, m1, d1, A2, n2, c2, B2, m2, d2, rfl, hq, hr⟩, hE1⟩
  intro v
  refine hK _ _ ?_
  clear hK K
  refine wpX_step (fun K hK => ?_)
  go_simp
  refine StepY.any (by rw [HSP.out]; rfl) ?_ ?_
  · intro wz hz hF
    obtain ⟨wp, ep, A1p, n1p, c1p, B1p, m1p, d1p, A2p, n2p, c2p, B2p, m2p, d2p, hvp, hqp, hrp⟩ := hF.any 1 (by kernel_rfl) (by rw [HSP.out]; rfl)
    obtain ⟨wq, eq, A1q, n1q, c1q, B1q, m1q, d1q, A2q, n2q, c2q, B2q, m2q, d2q, hvq, hqq, hrq⟩ := hF.any 4 (by kernel_rfl) (by rw [HSP.out]; rfl)
    clear hz hF
    simp only [asFun, List.nil_append, List.cons_append, List.getD_cons_succ, List.getD_cons_zero] at hvp hvq
    subst hvp hvq
    go_simp
    go_at_call 26
    refine (HP.out _ _ _ _ _ _ _ _ _ _ _ _ _ _ _ _ _ _ _ _ _ _ _ _ _ (hqp.ext ep) (hrp.ext ep) (hqq.ext eq) (hrq.ext eq)).mono ?_
    rintro e w2 ⟨A1, n1, c1, B1, m1, d1, A2, n2, c2, B2, m2, d2, rfl, hq, hr, hE1⟩
    exact ⟨_, rfl, ⟨A1, n1, c1, B1, m1, d1, A2, n2, c2, B2, m2, d2, rfl, hq, hr⟩, hE1⟩
  intro v
  refine hK _ _ ?_
  clear hK K
  refine wpX_step (fun K hK => ?_)
  go_simp
  refine StepY.det (by rw [HSP.out]; rfl) ?_ ?_
  · intro wz hz hF
    obtain ⟨wp, ep, A1p, n1p, c1p, B1p, m1p, d1p, A2p, n2p, c2p, B2p, m2p, d2p, hvp, hqp, hrp⟩ := hF.any 5 (by kernel_rfl) (by rw [HSP.out]; rfl)
    clear hz hF
    simp only [asFun, List.nil_append, List.cons_append, List.getD_cons_succ, List.getD_cons_zero] at hvp
    subst hvp
    go_simp
    go_at_call 21
    refine (HL.out _ _ _ _ _ _ _ _ _ _ _ _ _ (hqp.ext ep) (hrp.ext ep)).mono ?_
    rintro e w2 ⟨rfl, hE1⟩
    exact ⟨_, rfl, rfl, hE1⟩
  refine hK _ _ ?_
  clear hK K
  refine wpX_nil ?_
  intro w3 hz hF
  clear hF
  rw [HS.out] at hz
  have hO := hz
  have hf : True := trivial
  clear hz
  go_wp2_with (first | ((with_reducible refine at_store (T := 24) ?_); refine own_store (T := 24) hO 0 rfl rfl rfl size_I rfl rfl rfl ?_; clear hO; intro w1 hO; simp only [List.set_cons_zero, List.set_cons_succ, spl, List.take_succ_cons, List.take_zero, List.nil_append, List.cons_append, List.length_cons, List.length_nil, List.drop_succ_cons, List.drop_zero, List.drop_nil, Nat.reduceAdd, Nat.zero_add, List.append_nil] at hO; clear hf; have hf := hO.cells; simp only [BC, CC, Nat.zero_add, Nat.reduceAdd, and_true] at hf))
  exact own_ret hO 0 rfl rfl rfl agg_I size_I rfl ⟨rfl, hO.toExt⟩

theorem sub6_any (x1 x2 y1 y2 : Nat) (w : World) (hx1 : x1 < 18446744073709551616) (hx2 : x2 < 18446744073709551616) (hy1 : y1 < 18446744073709551616) (hy2 : y2 < 18446744073709551616) :
    Calls Try.prog 13 #[.agg #[.int .u64 (x1 : Int), .int .u64 (x2 : Int)], .agg #[.int .u64 (y1 : Int), .int .u64 (y2 : Int)]] w (RetI (iaLo x1 x2 (ngLo y1 y2) (ngHi y1 y2)) (iaHi x1 x2 (ngLo y1 y2) (ngHi y1 y2)) w) := by
  by_cases ey : emp y1 y2
  · have e1 : iaLo x1 x2 (ngLo y1 y2) (ngHi y1 y2) = infR := if_pos (.inr (rd_ng_emp ey))
    have e2 : iaHi x1 x2 (ngLo y1 y2) (ngHi y1 y2) = minf := if_pos (.inr (rd_ng_emp ey))
    rw [e1, e2]
    by_cases ex : emp x1 x2
    · exact sub6_gen x1 x2 y1 y2 _ _ _ _ _ _ _ _ _ _ _ _ _ _ _ _ _ _ _ _ _ _ _ _ _ _ _ _ _ _ _ _ _ _ _ _ infR minf w (Lib.hid fun w => of6_none x1 x2 w hx1 hx2 ex) (Lib.hid fun w => of6_none y1 y2 w hy1 hy2 ey)
        (Lib.hid fun A l c B k d A2 l2 c2 B2 k2 d2 w h1 h2 => minus6_none 0 false A l c B k d _ _ 0 false A2 l2 c2 B2 k2 d2 _ _ w h1 h2)
        (Lib.hid fun A l c B k d A2 l2 c2 B2 k2 d2 A3 l3 c3 B3 k3 d3 A4 l4 c4 B4 k4 d4 w h1 h2 h3 h4 => plus6_none1 0 false A l c B k d 0 0 0 false A2 l2 c2 B2 k2 d2 0 0 true 0 false A3 l3 c3 B3 k3 d3 0 0 0 false A4 l4 c4 B4 k4 d4 0 0 w)
        (Lib.hid fun A l c B k d A2 l2 c2 B2 k2 d2 w h1 h2 => least6_none 0 false A l c B k d _ _ 0 false A2 l2 c2 B2 k2 d2 _ _ w h1 h2)
    · exact sub6_gen x1 x2 y1 y2 _ _ _ _ _ _ _ _ _ _ _ _ _ _ _ _ _ _ _ _ _ _ _ _ _ _ _ _ _ _ _ _ _ _ _ _ infR minf w (Lib.hid fun w => of6_full x1 x2 w hx1 hx2 ex) (Lib.hid fun w => of6_none y1 y2 w hy1 hy2 ey)
        (Lib.hid fun A l c B k d A2 l2 c2 B2 k2 d2 w h1 h2 => minus6_none 0 false A l c B k d _ _ 0 false A2 l2 c2 B2 k2 d2 _ _ w h1 h2)
        (Lib.hid fun A l c B k d A2 l2 c2 B2 k2 d2 A3 l3 c3 B3 k3 d3 A4 l4 c4 B4 k4 d4 w h1 h2 h3 h4 => plus6_none2 (bI (rdLo x1 x2)) (bNeg (rdLo x1 x2)) A l c B k d 0 0 (bI (rdHi x1 x2)) (bNeg (rdHi x1 x2)) A2 l2 c2 B2 k2 d2 0 0 true 0 false A3 l3 c3 B3 k3 d3 0 0 0 false A4 l4 c4 B4 k4 d4 0 0 w)
        (Lib.hid fun A l c B k d A2 l2 c2 B2 k2 d2 w h1 h2 => least6_none 0 false A l c B k d _ _ 0 false A2 l2 c2 B2 k2 d2 _ _ w h1 h2)
  · obtain ⟨k1, k2, k3, k4, k5, k6, _, _⟩ := rd_ends hy1 hy2 ey
    obtain ⟨p1, p2, p3, p4⟩ := rd_ng hy1 hy2 ey
    have q1 : pl (ng (rdHi y1 y2)) < 18446744073709551616 := pl_lt (ng_lt k2)
    have q2 : pl (ng (rdLo y1 y2)) < 18446744073709551616 := pl_lt (ng_lt k1)
    have n1 : isNaN (pl (ng (rdHi y1 y2))) = false := by rw [nan_ng6 k2]; exact k4
    have n2 : isNaN (pl (ng (rdLo y1 y2))) = false := by rw [nan_ng6 k1]; exact k3
    obtain ⟨b1, b2, b3, b4⟩ := bnd_ng k2 k4
    obtain ⟨c1, c2, c3, c4⟩ := bnd_ng k1 k3
    have HM := Lib.hid (fun (A : Option Addr) (l c : Nat) (B : Option Addr) (k d : Nat) (A2 : Option Addr) (l2 c2 : Nat) (B2 : Option Addr) (k2 d2 : Nat) (w : World) h1 h2 => minus6_full (bI (rdLo y1 y2)) (bNeg (rdLo y1 y2)) A l c B k d (bN (rdLo y1 y2)) (bD (rdLo y1 y2)) (bI (rdHi y1 y2)) (bNeg (rdHi y1 y2)) A2 l2 c2 B2 k2 d2 (bN (rdHi y1 y2)) (bD (rdHi y1 y2)) w h1 h2 (bI_rng _) (bI_rng _) (bN_sz _) (bD_sz _) (bN_sz _) (bD_sz _))
    rw [← b1, ← b2, ← c1, ← c2] at HM
    have HM2 : Hid (∀ (A : Option Addr) (l c : Nat) (B : Option Addr) (k d : Nat) (A2 : Option Addr) (l2 c2 : Nat) (B2 : Option Addr) (k2 d2 : Nat) (w : World), RatAt w A l c B k d (bN (rdLo y1 y2)) (bD (rdLo y1 y2)) → RatAt w A2 l2 c2 B2 k2 d2 (bN (rdHi y1 y2)) (bD (rdHi y1 y2)) → Calls Try.prog 28 #[.agg #[.bool false, .int .i64 (bI (rdLo y1 y2)), .bool (bNeg (rdLo y1 y2)), .slice A l c, .slice B k d, .int .i64 (bI (rdHi y1 y2)), .bool (bNeg (rdHi y1 y2)), .slice A2 l2 c2, .slice B2 k2 d2]] w (RetSet false (bI (pl (ng (rdHi y1 y2)))) (bNeg (pl (ng (rdHi y1 y2)))) (bN (pl (ng (rdHi y1 y2)))) (bD (pl (ng (rdHi y1 y2)))) (bI (pl (ng (rdLo y1 y2)))) (bNeg (pl (ng (rdLo y1 y2)))) (bN (pl (ng (rdLo y1 y2)))) (bD (pl (ng (rdLo y1 y2)))) w)) := Lib.hid (fun A l c B k d A2 l2 c2' B2 k2 d2 w h1 h2 => by
      rw [b3, b4, c3, c4]
      exact HM.out A l c B k d A2 l2 c2' B2 k2 d2 w h1 h2)
    obtain ⟨z1, hz1⟩ : ∃ z, z = pl (ng (rdHi y1 y2)) := ⟨_, rfl⟩
    obtain ⟨z2, hz2⟩ : ∃ z, z = pl (ng (rdLo y1 y2)) := ⟨_, rfl⟩
    rw [← hz1] at p1 p3 q1 n1 HM2
    rw [← hz2] at p2 p4 q2 n2 HM2
    have eny : ¬ emp (ngLo y1 y2) (ngHi y1 y2) := fun h => p3 (p1.symm.trans h.1)
    by_cases ex : emp x1 x2
    · have e1 : iaLo x1 x2 (ngLo y1 y2) (ngHi y1 y2) = infR := if_pos (.inl ex)
      have e2 : iaHi x1 x2 (ngLo y1 y2) (ngHi y1 y2) = minf := if_pos (.inl ex)
      rw [e1, e2]
      exact sub6_gen x1 x2 y1 y2 _ _ _ _ _ _ _ _ _ _ _ _ _ _ _ _ _ _ _ _ _ _ _ _ _ _ _ _ _ _ _ _ _ _ _ _ infR minf w (Lib.hid fun w => of6_none x1 x2 w hx1 hx2 ex) (Lib.hid fun w => of6_full y1 y2 w hy1 hy2 ey) HM2
        (Lib.hid fun A l c B k d A2 l2 c2 B2 k2 d2 A3 l3 c3 B3 k3 d3 A4 l4 c4 B4 k4 d4 w h1 h2 h3 h4 => plus6_none1 0 false A l c B k d 0 0 0 false A2 l2 c2 B2 k2 d2 0 0 false (bI z1) (bNeg z1) A3 l3 c3 B3 k3 d3 0 0 (bI z2) (bNeg z2) A4 l4 c4 B4 k4 d4 0 0 w)
        (Lib.hid fun A l c B k d A2 l2 c2 B2 k2 d2 w h1 h2 => least6_none 0 false A l c B k d _ _ 0 false A2 l2 c2 B2 k2 d2 _ _ w h1 h2)
    · have e1 : iaLo x1 x2 (ngLo y1 y2) (ngHi y1 y2) = addR (-1) (rdLo x1 x2) z1 := by
        unfold iaLo; rw [if_neg (by intro h; rcases h with h | h; exact ex h; exact eny h), p1]
      have e2 : iaHi x1 x2 (ngLo y1 y2) (ngHi y1 y2) = addR 1 (rdHi x1 x2) z2 := by
        unfold iaHi; rw [if_neg (by intro h; rcases h with h | h; exact ex h; exact eny h), p2]
      obtain ⟨g1, g2, g3, g4, g5, g6, _, _⟩ := rd_ends hx1 hx2 ex
      rw [e1, e2, ← sum_lo g1 q1 g3 n1 g5 p3, ← sum_hi g2 q2 g4 n2 g6 p4]
      obtain ⟨s1, s2, s3⟩ := sum_sz (rdLo x1 x2) z1
      obtain ⟨t1, t2, t3⟩ := sum_sz (rdHi x1 x2) z2
      exact sub6_gen x1 x2 y1 y2 _ _ _ _ _ _ _ _ _ _ _ _ _ _ _ _ _ _ _ _ _ _ _ _ _ _ _ _ _ _ _ _ _ _ _ _ _ _ w (Lib.hid fun w => of6_full x1 x2 w hx1 hx2 ex) (Lib.hid fun w => of6_full y1 y2 w hy1 hy2 ey) HM2
        (Lib.hid fun A l c B k d A2 l2 c2 B2 k2 d2 A3 l3 c3 B3 k3 d3 A4 l4 c4 B4 k4 d4 w h1 h2 h3 h4 => plus6_full (bI (rdLo x1 x2)) (bNeg (rdLo x1 x2)) A l c B k d (bN (rdLo x1 x2)) (bD (rdLo x1 x2)) (bI (rdHi x1 x2)) (bNeg (rdHi x1 x2)) A2 l2 c2 B2 k2 d2 (bN (rdHi x1 x2)) (bD (rdHi x1 x2)) (bI z1) (bNeg z1) A3 l3 c3 B3 k3 d3 (bN z1) (bD z1) (bI z2) (bNeg z2) A4 l4 c4 B4 k4 d4 (bN z2) (bD z2) w h1 h2 h3 h4
          (sI (rdLo x1 x2) z1) (sS (rdLo x1 x2) z1) (sN (rdLo x1 x2) z1) (sD (rdLo x1 x2) z1) (sI (rdHi x1 x2) z2) (sS (rdHi x1 x2) z2) (sN (rdHi x1 x2) z2) (sD (rdHi x1 x2) z2)
          (Lib.hid fun w a b => sum6_b (rdLo x1 x2) z1 A l c B k d A3 l3 c3 B3 k3 d3 w a b) (Lib.hid fun w a b => sum6_b (rdHi x1 x2) z2 A2 l2 c2 B2 k2 d2 A4 l4 c4 B4 k4 d4 w a b))
        (Lib.hid fun A l c B k d A2 l2 c2 B2 k2 d2 w h1 h2 => least6_full (sI (rdLo x1 x2) z1) (sS (rdLo x1 x2) z1) A l c B k d (sN (rdLo x1 x2) z1) (sD (rdLo x1 x2) z1) (sI (rdHi x1 x2) z2) (sS (rdHi x1 x2) z2) A2 l2 c2 B2 k2 d2 (sN (rdHi x1 x2) z2) (sD (rdHi x1 x2) z2) w h1 h2 s1 s2 t1 t2 s3 t3)
end Go.Proofs.Ytllfcklgljdgeaa

/-
  The contract of the program's Sub of intervals. Conditions: those that each theorem names.
-/
namespace Go.Proofs.Ytllfcklgljdgeaa
open Go.RowKit Nm Rn
set_option maxRecDepth 100000
set_option linter.unusedVariables false
set_option linter.unusedSimpArgs false

set_option maxHeartbeats 4000000 in
theorem isub_gen (x1 x2 y1 y2 n1 n2 r1 r2 : Nat) (w : World)
    (HN : Hid (∀ w, Calls Try.prog 27 #[.agg #[.float .f64 y1, .float .f64 y2]] w (RetF n1 n2 w)))
    (HA : Hid (∀ w, Calls Try.prog 10 #[.agg #[.float .f64 x1, .float .f64 x2], .agg #[.float .f64 n1, .float .f64 n2]] w (RetF r1 r2 w))) :
    Calls Try.prog 12 #[.agg #[.float .f64 x1, .float .f64 x2], .agg #[.float .f64 y1, .float .f64 y2]] w (RetF r1 r2 w) := by
  have hO := Own.start w
  have hf : True := trivial
  go_enter Try.func12, Try.ntmps12
  go_wp2_with (first | ((with_reducible refine at_box ?_); refine own_box (cs := [.float .f64 x1, .float .f64 x2]) hO rfl rfl ?_; clear hO; intro ga wa hO; clear hf; have hf := hO.cells; simp only [BC, CC, Nat.zero_add, Nat.reduceAdd, and_true] at hf) | ((with_reducible refine at_box ?_); refine own_box (cs := [.float .f64 y1, .float .f64 y2]) hO rfl rfl ?_; clear hO; intro gb wa hO; clear hf; have hf := hO.cells; simp only [BC, CC, Nat.zero_add, Nat.reduceAdd, and_true] at hf) | ((with_reducible refine at_alloc ?_); refine own_alloc hO zero_iv rfl rfl ?_; clear hO; intro g w1 hO; clear hf; have hf := hO.cells; simp only [BC, CC, Nat.zero_add, Nat.reduceAdd, and_true] at hf))
  obtain ⟨S, hS⟩ : ∃ S : World → Prop, S = Own w [⟨g, 28, [.float .f64 0, .float .f64 0]⟩, ⟨gb, 28, [.float .f64 y1, .float .f64 y2]⟩, ⟨ga, 28, [.float .f64 x1, .float .f64 x2]⟩] [] := ⟨_, rfl⟩
  have hSE : ∀ w w', S w → Ext w w' → S w' := fun w w' h1 h2 => by rw [hS] at h1 ⊢; exact h1.ext h2
  have hS1 : S w1.drew := by rw [hS]; exact hO.ext (Ext.refl w1).drew
  have HS := Lib.hid hS
  clear hS hO hf
  obtain ⟨sp, hsp⟩ : ∃ sp : Nat → Sp, sp = ofList [det (.agg #[.float .f64 x1, .float .f64 x2]), det (.agg #[.float .f64 y1, .float .f64 y2]), det (.agg #[.float .f64 n1, .float .f64 n2]), det (.agg #[.float .f64 r1, .float .f64 r2])] := ⟨_, rfl⟩
  have HSP := Lib.hid hsp
  clear hsp
  refine wp_region_loose 4 S sp (by kernel_rfl) (by kernel_rfl) hS1 hSE ?_
  simp only [List.take_succ_cons, List.take_zero, List.drop_succ_cons, List.drop_zero]
  refine wpX_step (fun K hK => ?_)
  go_simp
  refine StepY.det (by rw [HSP.out]; rfl) ?_ ?_
  · intro wz hz hF
    rw [HS.out] at hz
    have hf := hz.facts
    simp only [BF, CF, Nat.zero_add, Nat.reduceAdd, and_true] at hf
    clear hz hF
    go_simp
    exact ⟨rfl, Ext.refl _⟩
  refine hK _ _ ?_
  clear hK K
  refine wpX_step (fun K hK => ?_)
  go_simp
  refine StepY.det (by rw [HSP.out]; rfl) ?_ ?_
  · intro wz hz hF
    rw [HS.out] at hz
    have hf := hz.facts
    simp only [BF, CF, Nat.zero_add, Nat.reduceAdd, and_true] at hf
    clear hz hF
    go_simp
    exact ⟨rfl, Ext.refl _⟩
  refine hK _ _ ?_
  clear hK K
  refine wpX_step (fun K hK => ?_)
  go_simp
  refine StepY.det (by rw [HSP.out]; rfl) ?_ ?_
  · intro wz hz hF
    clear hz hF
    go_simp
    go_at_call 27
    refine (HN.out _).mono ?_
    rintro e w2 ⟨rfl, hE1⟩
    exact ⟨_, rfl, rfl, hE1⟩
  refine hK _ _ ?_
  clear hK K
  refine wpX_step (fun K hK => ?_)
  go_simp
  refine StepY.det (by rw [HSP.out]; rfl) ?_ ?_
  · intro wz hz hF
    clear hz hF
    go_simp
    go_at_call 10
    refine (HA.out _).mono ?_
    rintro e w2 ⟨rfl, hE1⟩
    exact ⟨_, rfl, rfl, hE1⟩
  refine hK _ _ ?_
  clear hK K
  refine wpX_nil ?_
  intro w1 hz hF
  clear hF hS1
  rw [HS.out] at hz
  have hO := hz
  have hf : True := trivial
  clear hz hSE HS HSP S sp
  go_wp2_with (first | ((with_reducible refine at_store (T := 28) ?_); refine own_store (T := 28) hO 0 rfl rfl rfl size_iv rfl rfl rfl ?_; clear hO; intro w1 hO; simp only [List.set_cons_zero, List.set_cons_succ, spl, List.take_succ_cons, List.take_zero, List.nil_append, List.cons_append, List.length_cons, List.length_nil, List.drop_succ_cons, List.drop_zero, List.drop_nil, Nat.reduceAdd, Nat.zero_add, List.append_nil] at hO; clear hf; have hf := hO.cells; simp only [BC, CC, Nat.zero_add, Nat.reduceAdd, and_true] at hf))
  exact own_ret hO 0 rfl rfl rfl agg_iv size_iv rfl ⟨rfl, hO.toExt⟩

/-- What Sub answers. -/
def isLo (x1 x2 y1 y2 : Nat) : Nat := iaLo x1 x2 (ngLo y1 y2) (ngHi y1 y2)
def isHi (x1 x2 y1 y2 : Nat) : Nat := iaHi x1 x2 (ngLo y1 y2) (ngHi y1 y2)
theorem ng_lts {y1 y2 : Nat} (hy1 : y1 < 18446744073709551616) (hy2 : y2 < 18446744073709551616) : ngLo y1 y2 < 18446744073709551616 ∧ ngHi y1 y2 < 18446744073709551616 := by
  unfold ngLo ngHi
  split
  · exact ⟨infR_lt, minf_lt⟩
  · exact ⟨pl_lt (ng_lt (rdHi_lt y1 y2 hy2)), pl_lt (ng_lt (rdLo_lt y1 y2 hy1))⟩
theorem isub_any (x1 x2 y1 y2 : Nat) (w : World) (hx1 : x1 < 18446744073709551616) (hx2 : x2 < 18446744073709551616) (hy1 : y1 < 18446744073709551616) (hy2 : y2 < 18446744073709551616) :
    Calls Try.prog 12 #[.agg #[.float .f64 x1, .float .f64 x2], .agg #[.float .f64 y1, .float .f64 y2]] w (RetF (isLo x1 x2 y1 y2) (isHi x1 x2 y1 y2) w) :=
  isub_gen x1 x2 y1 y2 (ngLo y1 y2) (ngHi y1 y2) _ _ w (Lib.hid fun w => ineg_any y1 y2 w hy1 hy2) (Lib.hid fun w => iadd_any x1 x2 (ngLo y1 y2) (ngHi y1 y2) w hx1 hx2 (ng_lts hy1 hy2).1 (ng_lts hy1 hy2).2)
theorem sub6_is (x1 x2 y1 y2 : Nat) (w : World) (hx1 : x1 < 18446744073709551616) (hx2 : x2 < 18446744073709551616) (hy1 : y1 < 18446744073709551616) (hy2 : y2 < 18446744073709551616) :
    Calls Try.prog 13 #[.agg #[.int .u64 (x1 : Int), .int .u64 (x2 : Int)], .agg #[.int .u64 (y1 : Int), .int .u64 (y2 : Int)]] w (RetI (isLo x1 x2 y1 y2) (isHi x1 x2 y1 y2) w) := sub6_any x1 x2 y1 y2 w hx1 hx2 hy1 hy2
end Go.Proofs.Ytllfcklgljdgeaa

/-
  The walk of the law IvalSubtracts: it answers true. Conditions: those that each theorem names.
-/
namespace Go.Proofs.Ytllfcklgljdgeaa
open Go.RowKit Nm Rn
set_option maxRecDepth 100000
set_option linter.unusedVariables false
set_option linter.unusedSimpArgs false

set_option maxHeartbeats 4000000 in
theorem subs_walk (x1 x2 y1 y2 : Nat) (w : World) (hx1 : x1 < 18446744073709551616) (hx2 : x2 < 18446744073709551616) (hy1 : y1 < 18446744073709551616) (hy2 : y2 < 18446744073709551616) :
    Calls Try.prog 5 #[.agg #[.int .u64 (x1 : Int), .int .u64 (x2 : Int)], .agg #[.int .u64 (y1 : Int), .int .u64 (y2 : Int)]] w fun e w' => e = .returned (.bool true) ∧ Ext w w' := by
  have h3 := fun w => isub_any x1 x2 y1 y2 w hx1 hx2 hy1 hy2
  have h4 := fun w => sub6_is x1 x2 y1 y2 w hx1 hx2 hy1 hy2
  obtain ⟨a, ha⟩ : ∃ a, a = isLo x1 x2 y1 y2 := ⟨_, rfl⟩
  obtain ⟨b, hb⟩ : ∃ b, b = isHi x1 x2 y1 y2 := ⟨_, rfl⟩
  rw [← ha, ← hb] at h3 h4
  have H3 := Lib.hid h3
  have H4 := Lib.hid h4
  have he1 := eqI_self (a : Int) b
  clear ha hb h3 h4 hx1 hx2 hy1 hy2
  have hO := Own.start w
  have hf : True := trivial
  go_enter Try.func5, Try.ntmps5
  go_wp2_with (first | ((with_reducible refine at_box ?_); refine own_box (cs := [.int .u64 (x1 : Int), .int .u64 (x2 : Int)]) hO rfl rfl ?_; clear hO; intro ga wa hO; clear hf; have hf := hO.cells; simp only [BC, CC, Nat.zero_add, Nat.reduceAdd, and_true] at hf) | ((with_reducible refine at_box ?_); refine own_box (cs := [.int .u64 (y1 : Int), .int .u64 (y2 : Int)]) hO rfl rfl ?_; clear hO; intro gb wa hO; clear hf; have hf := hO.cells; simp only [BC, CC, Nat.zero_add, Nat.reduceAdd, and_true] at hf))
  obtain ⟨S, hS⟩ : ∃ S : World → Prop, S = Own w [⟨gb, 24, [.int .u64 (y1 : Int), .int .u64 (y2 : Int)]⟩, ⟨ga, 24, [.int .u64 (x1 : Int), .int .u64 (x2 : Int)]⟩] [] := ⟨_, rfl⟩
  have hS1 : S wa.drew := by rw [hS]; exact hO.ext (Ext.refl wa).drew
  have HSS := Lib.hid hS
  clear hS hO hf
  refine wp_region_steady S (by kernel_rfl) (by kernel_rfl) hS1 ?_
  repeat (refine wpG_step (fun K hK => ?_)
          go_simp
          first
          | (refine hK _ ?_
             clear hK K)
          | (apply StepG.mk
             intro wz hz
             have hz' := hz
             rw [HSS.out] at hz'
             have hf := hz'.facts
             simp only [BF, CF, Nat.zero_add, Nat.reduceAdd, and_true] at hf
             have hk : ∀ w5, Ext wz w5 → S w5 := fun w5 h5 => by rw [HSS.out]; exact hz'.ext h5
             have HK := Lib.hid hk
             clear hk hz'
             go_simp
             first
             | exact ⟨rfl, hz⟩
             | (go_at_call 8; exact (in6_any _ _ _).mono fun e w5 h5 => ⟨h5.1, HK.out _ h5.2⟩)
             | (go_at_call 6; exact (out6_any _ _ _).mono fun e w5 h5 => ⟨h5.1, HK.out _ h5.2⟩)
             | (go_at_call 12; exact (H3.out _).mono fun e w5 h5 => ⟨h5.1, HK.out _ h5.2⟩)
             | (go_at_call 13; exact (H4.out _).mono fun e w5 h5 => ⟨h5.1, HK.out _ h5.2⟩)
             refine hK _ ?_
             clear hK K))
  refine wpG_nil ?_
  intro w5 hw5
  rw [HSS.out] at hw5
  have HE5 := Lib.hid hw5.toExt
  clear hw5 hS1
  go_wp2
  go_ret
  exact ⟨rfl, HE5.out⟩
end Go.Proofs.Ytllfcklgljdgeaa
