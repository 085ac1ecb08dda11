/-
  The contract of the document's Power. Conditions: those that each theorem names.
-/
import Derived.Test.YtadijoeeaineaaaGreatDoorQ08
import Derived.Test.YtadijoeeaineaaaGreatDoorQ13
import Derived.Test.YtadijoeeaineaaaGreatDoorQ09
import Derived.Test.YtadijoeeaineaaaGreatDoorQ12
import Derived.Test.YtadijoeeaineaaaGreatDoorQ17
import Derived.Test.YtadijoeeaineaaaGreatDoorQ07
import Derived.BigQuiet
namespace Go.Proofs.YtadijoeeaineaaaGreatDoor
open Go.RowKit Nm
set_option maxRecDepth 100000
set_option linter.unusedVariables false
set_option linter.unusedSimpArgs false

theorem nd_one_p : nd 1 = [1] := by rw [nd_pos (by omega)]; simp [nd_zero]
theorem unit_list (w : World) : Wds (w.alloc (.cells #[.int .u32 1] 65)) (some ⟨w.heap.size, 0, none⟩) 1 1 (nd 1) := by
  rw [nd_one_p]
  refine ⟨rfl, by omega, by unfold maxLen; omega, by intro x hx; simp at hx; omega, fun _ => ⟨_, rfl, by simp, fun k x hk => ?_⟩⟩
  match k, hk with
  | 0, hk => simp at hk; subst hk; simp [Addr.add]
  | k + 1, hk => simp at hk

/-- How far it is: p x^n is the power. -/
structure PowRel (V N M p x n : Nat) : Prop where
  val : p * x ^ n = V ^ N
  lep : p * (x + 1) ^ n ≤ M
  lex : (x + 1) ^ n ≤ M
theorem PowRel.start (V N : Nat) : PowRel V N ((V + 1) ^ N) 1 V N := ⟨by rw [Nat.one_mul], by rw [Nat.one_mul]; exact Nat.le_refl _, Nat.le_refl _⟩
theorem sq_succ (x : Nat) : x * x + 1 ≤ (x + 1) ^ 2 := by
  rw [Nat.pow_succ, Nat.pow_one, Nat.add_mul, Nat.mul_add, Nat.one_mul]; omega
theorem PowRel.even {V N M p x m : Nat} (h : PowRel V N M p x (2 * m)) : PowRel V N M p (x * x) m := by
  have e : (x * x) ^ m = x ^ (2 * m) := by rw [Nat.pow_mul, Nat.pow_succ, Nat.pow_one]
  have l : (x * x + 1) ^ m ≤ (x + 1) ^ (2 * m) := by rw [Nat.pow_mul]; exact Nat.pow_le_pow_left (sq_succ x) m
  exact ⟨by rw [e]; exact h.val, Nat.le_trans (Nat.mul_le_mul_left p l) h.lep, Nat.le_trans l h.lex⟩
theorem PowRel.odd0 {V N M p x m : Nat} (h : PowRel V N M p x (2 * m + 1)) : PowRel V N M (p * x) x (2 * m) := by
  have hp : 0 < (x + 1) ^ (2 * m) := Nat.pow_pos (by omega)
  refine ⟨by rw [Nat.mul_assoc, ← Nat.pow_succ']; exact h.val, ?_, ?_⟩
  · refine Nat.le_trans ?_ h.lep
    rw [Nat.pow_succ', Nat.mul_assoc]
    exact Nat.mul_le_mul_left p (Nat.mul_le_mul_right _ (by omega))
  · refine Nat.le_trans ?_ h.lex
    rw [Nat.pow_succ']
    exact Nat.le_mul_of_pos_left _ (by omega)
theorem PowRel.odd {V N M p x m : Nat} (h : PowRel V N M p x (2 * m + 1)) : PowRel V N M (p * x) (x * x) m := h.odd0.even
theorem PowRel.p_le {V N M p x n : Nat} (h : PowRel V N M p x n) : p ≤ M := Nat.le_trans (Nat.le_mul_of_pos_right p (Nat.pow_pos (by omega))) h.lep
theorem PowRel.x_le {V N M p x n : Nat} (h : PowRel V N M p x n) (hn : 0 < n) : x ≤ M := by
  refine Nat.le_trans ?_ h.lex
  have := Nat.pow_le_pow_right (show 0 < x + 1 by omega) (show 1 ≤ n from hn)
  rw [Nat.pow_one] at this
  omega
theorem PowRel.done {V N M p x : Nat} (h : PowRel V N M p x 0) : p = V ^ N := by have := h.val; rwa [Nat.pow_zero, Nat.mul_one] at this

set_option maxHeartbeats 2000000 in
theorem power_any (A : Option Addr) (n c : Nat) (xs : List Nat) (N : Nat) (w : World) (h : Wds w A n c xs) (hn : n ≤ 35184372088000) (hN : N ≤ 1000000) (hM : nw ((nv xs + 1) ^ N) ≤ 1000000) :
    Calls Tryz.prog 123 #[.slice A n c, .int .i64 (N : Int)] w (RetW (nv xs ^ N) w) := by
  have HN1 := Lib.hid (fun w h => norm_any A n c xs w h hn)
  obtain ⟨V, hV⟩ : ∃ V, V = nv xs := ⟨_, rfl⟩
  rw [← hV] at HN1 hM ⊢
  obtain ⟨M, hMe⟩ : ∃ M, M = (V + 1) ^ N := ⟨_, rfl⟩
  rw [← hMe] at hM
  have HS : Hid (PowRel V N M 1 V N) := Lib.hid (by rw [hMe]; exact PowRel.start V N)
  have HM := Lib.hid hM
  have HT := Lib.hid (fun (A1 : Option Addr) (n1 c1 : Nat) (p : Nat) (A2 : Option Addr) (n2 c2 : Nat) (x : Nat) (w : World) (h1 : Wds w A1 n1 c1 (nd p)) (h2 : Wds w A2 n2 c2 (nd x)) (hp : p ≤ M) (hx : x ≤ M) => times_any A1 n1 c1 (nd p) A2 n2 c2 (nd x) w h1 (by have := h1.len; rw [nd_length] at this; have := nw_mono hp; omega) h2 (by have := h2.len; rw [nd_length] at this; have := nw_mono hx; omega))
  simp only [nv_nd] at HT
  have hU := unit_list w
  have hE0 : Ext w (w.alloc (.cells #[.int .u32 1] 65)) := (Ext.refl w).alloc _
  have h0 := h.ext hE0
  clear hV hMe hM h
  go_enter Tryz.func123, Tryz.ntmps123
  go_wp2_with fail
  generalize w.heap.size = g0 at hU ⊢
  generalize w.alloc _ = w0 at hU hE0 h0 ⊢
  refine (HN1.out _ h0).mono ?_
  rintro e w1 ⟨A1, n1, c1, rfl, hW1, hE1⟩
  have hU1 := hU.ext hE1
  have hE := hE0.trans hE1
  clear HN1 h0 hE0 hU hE1
  go_wp2
  go_loopw [1, 5, 6] (fun nv' pv xv wr => ∃ (k p x : Nat) (A1 : Option Addr) (n1 c1 : Nat) (A2 : Option Addr) (n2 c2 : Nat), k ≤ 1000000 ∧ nv' = .int .i64 (k : Int) ∧ pv = .slice A1 n1 c1 ∧ xv = .slice A2 n2 c2 ∧ Wds wr A1 n1 c1 (nd p) ∧ Wds wr A2 n2 c2 (nd x) ∧ Hid (PowRel V N M p x k) ∧ Ext w wr) (fun nv' _ _ _ => (intOf nv').toNat)
  case atStart => exact ⟨N, 1, V, _, _, _, _, _, _, hN, rfl, rfl, rfl, hU1, hW1, HS, hE⟩
  case round =>
    obtain ⟨k, p, x, A3, n3, c3, A4, n4, c4, hk, rfl, rfl, rfl, hWp, hWx, hrel, hEr⟩ := hrel
    clear hE hU1 hW1 HS
    by_cases hz : k = 0
    · subst hz
      have HD := Lib.hid hrel.out.done
      go_wp2
      go_ret
      exact ⟨_, _, _, rfl, by rw [← HD.out]; exact hWp, hEr⟩
    · have HP := Lib.hid hrel.out.p_le
      have HX := Lib.hid (hrel.out.x_le (by omega))
      rcases Nat.mod_two_eq_zero_or_one k with hpar | hpar
      · obtain ⟨m, hm⟩ : ∃ m, k = 2 * m := ⟨k / 2, by omega⟩
        have g1 : (k : Int) % 2 = 0 := by omega
        have g2 : (k : Int) / 2 = (m : Int) := by omega
        have hmp : 0 < m := by omega
        have hmk : m < k := by omega
        rw [hm] at hrel
        have HR := Lib.hid hrel.out.even
        clear hrel hpar hm
        go_wp2_with fail
        refine (HT.out _ _ _ _ _ _ _ _ _ hWx hWx HX.out HX.out).mono ?_
        rintro e w2 ⟨A5, n5, c5, rfl, hW5, hE5⟩
        go_wp2
        go_roundw
        case rel => exact ⟨m, p, x * x, _, _, _, _, _, _, by omega, rfl, rfl, rfl, hWp.ext hE5, hW5, HR, hEr.trans hE5⟩
        case measure => simp [intOf]; omega
      · obtain ⟨m, hm⟩ : ∃ m, k = 2 * m + 1 := ⟨k / 2, by omega⟩
        have g1 : (k : Int) % 2 = 1 := by omega
        have g2 : (k : Int) / 2 = (m : Int) := by omega
        have hmk : m < k := by omega
        rw [hm] at hrel
        have HR := Lib.hid hrel.out.odd
        have HR0 : m = 0 → Hid (PowRel V N M (p * x) x 0) := fun e => Lib.hid (by have := hrel.out.odd0; rwa [e] at this)
        clear hrel hpar hm
        by_cases hm0 : m = 0
        · subst hm0
          have HR1 := HR0 rfl
          go_wp2_with fail
          refine (HT.out _ _ _ _ _ _ _ _ _ hWp hWx HP.out HX.out).mono ?_
          rintro e w2 ⟨A5, n5, c5, rfl, hW5, hE5⟩
          go_wp2
          go_roundw
          case rel => exact ⟨0, p * x, x, _, _, _, _, _, _, by omega, rfl, rfl, rfl, hW5, hWx.ext hE5, HR1, hEr.trans hE5⟩
          case measure => simp [intOf]; omega
        · have hmp : 0 < m := by omega
          clear hm0 HR0
          go_wp2_with fail
          refine (HT.out _ _ _ _ _ _ _ _ _ hWp hWx HP.out HX.out).mono ?_
          rintro e w2 ⟨A5, n5, c5, rfl, hW5, hE5⟩
          have hWx2 := hWx.ext hE5
          go_wp2_with fail
          refine (HT.out _ _ _ _ _ _ _ _ _ hWx2 hWx2 HX.out HX.out).mono ?_
          rintro e w3 ⟨A6, n6, c6, rfl, hW6, hE6⟩
          go_wp2
          go_roundw
          case rel => exact ⟨m, p * x, x * x, _, _, _, _, _, _, by omega, rfl, rfl, rfl, hW5.ext hE6, hW6, HR, (hEr.trans hE5).trans hE6⟩
          case measure => simp [intOf]; omega
theorem nw_pow_le {t n b : Nat} (h : t ≤ 2 ^ b) : nw (t ^ n) ≤ b * n / 32 + 1 := by
  have h1 : t ^ n ≤ 2 ^ (b * n) := by rw [Nat.pow_mul]; exact Nat.pow_le_pow_left h n
  have h2 : nw (2 ^ (b * n)) ≤ b * n / 32 + 1 := by
    rw [nw_bl, bl_eq_of (k := b * n) (Nat.le_refl _) (Nat.pow_lt_pow_right (by omega) (by omega))]
    omega
  exact Nat.le_trans (nw_mono h1) h2
end Go.Proofs.YtadijoeeaineaaaGreatDoor

/-
  The contracts of the document's powers of ratios that are not below 0, and of Finite. Conditions: those that each theorem names.
-/
namespace Go.Proofs.YtadijoeeaineaaaGreatDoor
open Go.RowKit Nm Rn
set_option maxRecDepth 100000
set_option linter.unusedVariables false
set_option linter.unusedSimpArgs false

set_option maxHeartbeats 2000000 in
theorem rpow_any (A : Option Addr) (l c : Nat) (B : Option Addr) (k d N D e : Nat) (w : World) (h : RatAt w A l c B k d N D) (he : e ≤ 1024) (bN : bl N ≤ 3000) (bD : bl D ≤ 3000) (hD : 0 < D) :
    Calls Tryz.prog 93 #[.agg #[.bool false, .slice A l c, .slice B k d], .int .i64 (e : Int)] w (RetR false (fracN (N ^ e) (D ^ e) 0) (fracD (N ^ e) (D ^ e) 0) w) := by
  have hl := h.lenN
  have hk := h.lenD
  have hO := ((Own.start w).add h.1).add h.2
  have hsz : ∀ V, bl V ≤ 3000 → nw V ≤ 100 ∧ nw ((V + 1) ^ e) ≤ 1000000 ∧ nw (V ^ e) ≤ 1000000 := fun V hV => by
    have h1 := nw_bl V
    obtain ⟨T, hT⟩ : ∃ T, T = 3001 := ⟨_, rfl⟩
    have h2 : (V + 1) ≤ 2 ^ T := by
      have h3 := lt_pow_bl V
      have h4 : 2 ^ bl V ≤ 2 ^ T := Nat.pow_le_pow_right (by omega) (by omega)
      omega
    have h5 := nw_pow_le (n := e) h2
    have h6 : nw (V ^ e) ≤ nw ((V + 1) ^ e) := nw_mono (Nat.pow_le_pow_left (by omega) e)
    rw [hT] at h5
    omega
  obtain ⟨s1, s2, s3⟩ := hsz N bN
  obtain ⟨t1, t2, t3⟩ := hsz D bD
  have hT1 := fun w h => power_any A l c (nd N) e w h (by omega) (by omega) (by rw [nv_nd]; exact s2)
  have hT2 := fun w h => power_any B k d (nd D) e w h (by omega) (by omega) (by rw [nv_nd]; exact t2)
  have hp : 0 < D ^ e := Nat.pow_pos hD
  have hFR := fun A n1 c B n2 d w (h : Wds w A n1 c (nd (N ^ e))) (k : Wds w B n2 d (nd (D ^ e))) => frac_any false A n1 c (nd (N ^ e)) B n2 d (nd (D ^ e)) 0 w h (by have := h.len; rw [nd_length] at this; omega) k (by have := k.len; rw [nd_length] at this; omega) (by omega) (by omega) (by rw [nv_nd]; exact hp)
  simp only [nv_nd, Bool.false_and] at hT1 hT2 hFR
  obtain ⟨P, hP⟩ : ∃ P, P = N ^ e := ⟨_, rfl⟩
  obtain ⟨Q, hQ⟩ : ∃ Q, Q = D ^ e := ⟨_, rfl⟩
  rw [← hP] at hT1 hFR ⊢
  rw [← hQ] at hT2 hFR ⊢
  have HT1 := Lib.hid hT1
  have HT2 := Lib.hid hT2
  have HFR := Lib.hid hFR
  clear hT1 hT2 hFR hP hQ h hl hk hsz s1 s2 s3 t1 t2 t3 bN bD hD hp
  go_enter Tryz.func93, Tryz.ntmps93
  go_wp2_with (first
    | (refine own_box (cs := [.bool false, .slice A l c, .slice B k d]) hO rfl rfl ?_; clear hO; intro ga wa hO)
    | (refine own_alloc hO zero_rat rfl rfl ?_; clear hO; intro g w1 hO))
  obtain ⟨S, hS⟩ : ∃ S : World → Prop, S = Own w [⟨g, 40, [.bool false, .slice none 0 0, .slice none 0 0]⟩, ⟨ga, 40, [.bool false, .slice A l c, .slice B k d]⟩] [⟨B, k, d, nd D⟩, ⟨A, l, c, nd N⟩] := ⟨_, rfl⟩
  have hSE : ∀ w w', S w → Ext w w' → S w' := fun w w' h1 h2 => by rw [hS] at h1 ⊢; exact h1.ext h2
  have hS1 : S w1.drew := by rw [hS]; exact hO.ext (Ext.refl w1).drew
  have HS := Lib.hid hS
  clear hS hO
  obtain ⟨sp, hsp⟩ : ∃ sp : Nat → Sp, sp = ofList [det (.pointer (some ⟨ga, 0, none⟩)), det (.bool false), det (.bool false), det undef, det undef, det undef, det (.bool false),
    det (.pointer (some ⟨ga, 1, none⟩)), det (.slice A l c), det (.int .i64 (e : Int)), anyOf (fun v wz => ∃ A1 n1 c1, v = .slice A1 n1 c1 ∧ Wds wz A1 n1 c1 (nd P)),
    det (.pointer (some ⟨ga, 2, none⟩)), det (.slice B k d), det (.int .i64 (e : Int)), anyOf (fun v wz => ∃ A1 n1 c1, v = .slice A1 n1 c1 ∧ Wds wz A1 n1 c1 (nd Q)),
    anyOf (fun v wz => ∃ A1 n1 c1 A2 n2 c2, v = .agg #[.bool false, .slice A1 n1 c1, .slice A2 n2 c2] ∧ RatAt wz A1 n1 c1 A2 n2 c2 (fracN P Q 0) (fracD P Q 0))] := ⟨_, rfl⟩
  have HSP := Lib.hid hsp
  clear hsp
  refine wp_region_loose 16 S sp (by kernel_rfl) (by kernel_rfl) hS1 hSE ?_
  simp only [List.take_succ_cons, List.take_zero, List.drop_succ_cons, List.drop_zero]
  iterate 15
    refine wpX_step (fun K hK => ?_)
    go_simp
    first
    | (refine ⟨by rw [HSP.out]; rfl, hK _ _ ?_⟩
       clear hK K)
    | (refine StepY.det (by rw [HSP.out]; rfl) ?_ ?_
       · intro wz hz hF
         rw [HS.out] at hz
         have hf := hz.facts
         simp only [BF, CF, Nat.zero_add, Nat.reduceAdd, and_true] at hf
         clear hz hF
         go_simp
         exact ⟨rfl, Ext.refl _⟩
       refine hK _ _ ?_
       clear hK K)
    | (refine StepY.any (by rw [HSP.out]; rfl) ?_ ?_
       · intro wz hz hF
         rw [HS.out] at hz
         have h1 := hz.wd 1 rfl
         have h2 := hz.wd 0 rfl
         clear hz
         go_simp
         go_at_call 123
         first
         | (with_reducible refine (HT1.out _ h1).mono ?_)
         | (with_reducible refine (HT2.out _ h2).mono ?_)
         rintro e w2 ⟨A1, n1, c1, rfl, hW1, hE1⟩
         exact ⟨_, rfl, ⟨A1, n1, c1, rfl, hW1⟩, hE1⟩
       intro v
       refine hK _ _ ?_
       clear hK K)
  refine wpX_step (fun K hK => ?_)
  go_simp
  refine StepY.any (by rw [HSP.out]; rfl) ?_ ?_
  · intro wz hz hF
    obtain ⟨wa', ea, A1, n1, c1, hv1, hw1⟩ := hF.any 10 (by kernel_rfl) (by rw [HSP.out]; rfl)
    obtain ⟨wb', eb, A2, n2, c2, hv2, hw2⟩ := hF.any 14 (by kernel_rfl) (by rw [HSP.out]; rfl)
    clear hF
    simp only [asFun, List.nil_append, List.cons_append, List.getD_cons_succ, List.getD_cons_zero] at hv1 hv2
    subst hv1 hv2
    go_simp
    go_at_call 41
    refine (HFR.out _ _ _ _ _ _ _ (hw1.ext ea) (hw2.ext eb)).mono ?_
    rintro e w2 ⟨A3, n3, c3, A4, n4, c4, rfl, hW1, hW2, hE1⟩
    exact ⟨_, rfl, ⟨A3, n3, c3, A4, n4, c4, rfl, hW1, hW2⟩, hE1⟩
  intro v
  refine hK _ _ ?_
  clear hK K
  refine wpX_nil ?_
  intro w3 hz hF
  obtain ⟨w0, e0, A3, n3, c3, A4, n4, c4, hv, hw0⟩ := fact_any (hF 15 (by omega)) (by rw [HSP.out]; rfl)
  clear hF
  simp only [asFun, List.nil_append, List.cons_append, List.getD_cons_succ, List.getD_cons_zero] at hv
  subst hv
  rw [HS.out] at hz
  have hO := (hz.add (hw0.ext e0).1).add (hw0.ext e0).2
  clear hz hw0 e0
  go_wp2_with (refine own_store hO 0 rfl rfl rfl size_rat rfl rfl rfl ?_; clear hO; intro w4 hO)
  exact own_ret hO 0 rfl rfl rfl agg_rat size_rat rfl ⟨_, _, _, _, _, _, rfl, hO.wd 1 rfl, hO.wd 0 rfl, hO.toExt⟩

set_option maxHeartbeats 400000 in
theorem finite2_any (b : Nat) (w : World) (h : b < 18446744073709551616) :
    Calls Tryz.prog 14 #[.int .u64 (b : Int)] w fun e w' => e = .returned (.bool (decide (mg b < infR))) ∧ w = w' := by
  obtain ⟨E, hE⟩ : ∃ E, E = b / 4503599627370496 % 2048 := ⟨_, rfl⟩
  have g1 : bits .and .u64 ((b : Int) / 4503599627370496) 2047 = (E : Int) := by
    rw [show (2047 : Int) = ((2047 : Nat) : Int) from rfl, show (b : Int) / 4503599627370496 = ((b / 4503599627370496 : Nat) : Int) from rfl, u64_and_nat _ _ (by omega) (by omega), hE]
    congr 1
    exact Nat.and_two_pow_sub_one_eq_mod (b / 4503599627370496) 11
  have HF : Hid ((!((E : Int) == 2047)) = decide (mg b < infR)) := Lib.hid (by
    unfold mg
    rw [infR_val]
    rw [Bool.eq_iff_iff, Bool.not_eq_true', beq_eq_false_iff_ne, decide_eq_true_iff]
    omega)
  clear h hE
  go_enter Tryz.func14, Tryz.ntmps14
  go_wp2
  go_ret
  exact ⟨ret_bool HF.out, rfl⟩
end Go.Proofs.YtadijoeeaineaaaGreatDoor

/-
  The contracts of the document's products of ratios. Conditions: those that each theorem names.
-/
namespace Go.Proofs.YtadijoeeaineaaaGreatDoor
open Go.RowKit Nm Rn
set_option maxRecDepth 100000
set_option linter.unusedVariables false
set_option linter.unusedSimpArgs false

end Go.Proofs.YtadijoeeaineaaaGreatDoor

/-
  The contract of the document's quotient of ratios. Conditions: those that each theorem names.
-/
namespace Go.Proofs.YtadijoeeaineaaaGreatDoor
open Go.RowKit Nm Rn
set_option maxRecDepth 100000
set_option linter.unusedVariables false
set_option linter.unusedSimpArgs false

set_option maxHeartbeats 2000000 in
theorem rquoq_any (n m : Bool) (A : Option Addr) (l c : Nat) (B : Option Addr) (k d N D : Nat) (A' : Option Addr) (l' c' : Nat) (B' : Option Addr) (k' d' N' D' : Nat) (w : World)
    (h : RatAt w A l c B k d N D) (h' : RatAt w A' l' c' B' k' d' N' D') (hN : nw N ≤ 1073741824) (hD : nw D ≤ 1073741824) (hN' : nw N' ≤ 1073741824) (hD' : nw D' ≤ 1073741824) (hp : 0 < D * N') :
    Calls Tryz.prog 147 #[.agg #[.bool n, .slice A l c, .slice B k d], .agg #[.bool m, .slice A' l' c', .slice B' k' d']] w (RetR ((n != m) && decide (N * D' ≠ 0)) (fracN (N * D') (D * N') 0) (fracD (N * D') (D * N') 0) w) := by
  have hl := h.lenN
  have hk := h.lenD
  have hl' := h'.lenN
  have hk' := h'.lenD
  have hO := ((((Own.start w).add h.1).add h.2).add h'.1).add h'.2
  have hT1 := fun w h h' => times_any A l c (nd N) B' k' d' (nd D') w h (by omega) h' (by omega)
  have hT2 := fun w h h' => times_any B k d (nd D) A' l' c' (nd N') w h (by omega) h' (by omega)
  have e1 := nw_mul2 N D'
  have e2 := nw_mul2 D N'
  have hFR := fun A n1 c B n2 d w (h : Wds w A n1 c (nd (N * D'))) (k : Wds w B n2 d (nd (D * N'))) => frac_any (n != m) A n1 c (nd (N * D')) B n2 d (nd (D * N')) 0 w h (by have := h.len; rw [nd_length] at this; omega) k (by have := k.len; rw [nd_length] at this; omega) (by omega) (by omega) (by rw [nv_nd]; exact hp)
  simp only [nv_nd] at hT1 hT2 hFR
  obtain ⟨P, hP⟩ : ∃ P, P = N * D' := ⟨_, rfl⟩
  obtain ⟨Q, hQ⟩ : ∃ Q, Q = D * N' := ⟨_, rfl⟩
  rw [← hP] at hT1 hFR ⊢
  rw [← hQ] at hT2 hFR ⊢
  obtain ⟨r, hr⟩ : ∃ r, r = (n != m) := ⟨_, rfl⟩
  rw [← hr] at hFR ⊢
  obtain ⟨zz, hzz⟩ : ∃ zz, zz = (r && decide (P ≠ 0)) := ⟨_, rfl⟩
  rw [← hzz] at hFR ⊢
  clear hzz
  have HR := Lib.hid hr.symm
  have HT1 := Lib.hid hT1
  have HT2 := Lib.hid hT2
  have HFR := Lib.hid hFR
  clear hT1 hT2 hFR hP hQ hr h h' hl hk hl' hk' hN hD hN' hD' hp e1 e2
  go_enter Tryz.func147, Tryz.ntmps147
  go_wp2_with (first
    | (refine own_box (cs := [.bool n, .slice A l c, .slice B k d]) hO rfl rfl ?_; clear hO; intro ga wa hO)
    | (refine own_box (cs := [.bool m, .slice A' l' c', .slice B' k' d']) hO rfl rfl ?_; clear hO; intro gb wb hO)
    | (refine own_alloc hO zero_rat rfl rfl ?_; clear hO; intro g w1 hO))
  obtain ⟨S, hS⟩ : ∃ S : World → Prop, S = Own w [⟨g, 40, [.bool false, .slice none 0 0, .slice none 0 0]⟩, ⟨gb, 40, [.bool m, .slice A' l' c', .slice B' k' d']⟩, ⟨ga, 40, [.bool n, .slice A l c, .slice B k d]⟩] [⟨B', k', d', nd D'⟩, ⟨A', l', c', nd N'⟩, ⟨B, k, d, nd D⟩, ⟨A, l, c, nd N⟩] := ⟨_, rfl⟩
  have hSE : ∀ w w', S w → Ext w w' → S w' := fun w w' h1 h2 => by rw [hS] at h1 ⊢; exact h1.ext h2
  have hS1 : S w1.drew := by rw [hS]; exact hO.ext (Ext.refl w1).drew
  have HS := Lib.hid hS
  clear hS hO
  obtain ⟨sp, hsp⟩ : ∃ sp : Nat → Sp, sp = ofList [det (.pointer (some ⟨ga, 0, none⟩)), det (.bool n), det (.pointer (some ⟨gb, 0, none⟩)), det (.bool m), det (.bool r),
    det (.pointer (some ⟨ga, 1, none⟩)), det (.slice A l c), det (.pointer (some ⟨gb, 2, none⟩)), det (.slice B' k' d'), anyOf (fun v wz => ∃ A1 n1 c1, v = .slice A1 n1 c1 ∧ Wds wz A1 n1 c1 (nd P)),
    det (.pointer (some ⟨ga, 2, none⟩)), det (.slice B k d), det (.pointer (some ⟨gb, 1, none⟩)), det (.slice A' l' c'), anyOf (fun v wz => ∃ A1 n1 c1, v = .slice A1 n1 c1 ∧ Wds wz A1 n1 c1 (nd Q)),
    anyOf (fun v wz => ∃ A1 n1 c1 A2 n2 c2, v = .agg #[.bool zz, .slice A1 n1 c1, .slice A2 n2 c2] ∧ RatAt wz A1 n1 c1 A2 n2 c2 (fracN P Q 0) (fracD P Q 0))] := ⟨_, rfl⟩
  have HSP := Lib.hid hsp
  clear hsp
  refine wp_region_loose 16 S sp (by kernel_rfl) (by kernel_rfl) hS1 hSE ?_
  simp only [List.take_succ_cons, List.take_zero, List.drop_succ_cons, List.drop_zero]
  iterate 15
    refine wpX_step (fun K hK => ?_)
    go_simp
    first
    | (refine ⟨by rw [HSP.out]; rfl, hK _ _ ?_⟩
       clear hK K)
    | (refine StepY.det (by rw [HSP.out]; rfl) ?_ ?_
       · intro wz hz hF
         rw [HS.out] at hz
         have hf := hz.facts
         simp only [BF, CF, Nat.zero_add, Nat.reduceAdd, and_true] at hf
         have hr := HR.out
         clear hz hF
         go_simp
         first
         | exact ⟨rfl, Ext.refl _⟩
         | exact ⟨by rw [← hr]; rfl, Ext.refl _⟩
       refine hK _ _ ?_
       clear hK K)
    | (refine StepY.any (by rw [HSP.out]; rfl) ?_ ?_
       · intro wz hz hF
         rw [HS.out] at hz
         have h1 := hz.wd 3 rfl
         have h2 := hz.wd 2 rfl
         have h3 := hz.wd 1 rfl
         have h4 := hz.wd 0 rfl
         clear hz
         go_simp
         go_at_call 46
         first
         | (with_reducible refine (HT1.out _ h1 h4).mono ?_)
         | (with_reducible refine (HT2.out _ h2 h3).mono ?_)
         rintro e w2 ⟨A1, n1, c1, rfl, hW1, hE1⟩
         exact ⟨_, rfl, ⟨A1, n1, c1, rfl, hW1⟩, hE1⟩
       intro v
       refine hK _ _ ?_
       clear hK K)
  refine wpX_step (fun K hK => ?_)
  go_simp
  refine StepY.any (by rw [HSP.out]; rfl) ?_ ?_
  · intro wz hz hF
    obtain ⟨wa', ea, A1, n1, c1, hv1, hw1⟩ := hF.any 9 (by kernel_rfl) (by rw [HSP.out]; rfl)
    obtain ⟨wb', eb, A2, n2, c2, hv2, hw2⟩ := hF.any 14 (by kernel_rfl) (by rw [HSP.out]; rfl)
    clear hF
    simp only [asFun, List.nil_append, List.cons_append, List.getD_cons_succ, List.getD_cons_zero] at hv1 hv2
    subst hv1 hv2
    go_simp
    go_at_call 41
    refine (HFR.out _ _ _ _ _ _ _ (hw1.ext ea) (hw2.ext eb)).mono ?_
    rintro e w2 ⟨A3, n3, c3, A4, n4, c4, rfl, hW1, hW2, hE1⟩
    exact ⟨_, rfl, ⟨A3, n3, c3, A4, n4, c4, rfl, hW1, hW2⟩, hE1⟩
  intro v
  refine hK _ _ ?_
  clear hK K
  refine wpX_nil ?_
  intro w3 hz hF
  obtain ⟨w0, e0, A3, n3, c3, A4, n4, c4, hv, hw0⟩ := fact_any (hF 15 (by omega)) (by rw [HSP.out]; rfl)
  clear hF
  simp only [asFun, List.nil_append, List.cons_append, List.getD_cons_succ, List.getD_cons_zero] at hv
  subst hv
  rw [HS.out] at hz
  have hO := (hz.add (hw0.ext e0).1).add (hw0.ext e0).2
  clear hz hw0 e0
  go_wp2_with (refine own_store hO 0 rfl rfl rfl size_rat rfl rfl rfl ?_; clear hO; intro w4 hO)
  exact own_ret hO 0 rfl rfl rfl agg_rat size_rat rfl ⟨_, _, _, _, _, _, rfl, hO.wd 1 rfl, hO.wd 0 rfl, hO.toExt⟩
end Go.Proofs.YtadijoeeaineaaaGreatDoor

/-
  The contracts of the program's own naturals, first part: words, cut, Small. Conditions: those that each theorem names.
-/
namespace Go.Proofs.YtadijoeeaineaaaGreatDoor
open Go.RowKit Nm
set_option maxRecDepth 100000
set_option linter.unusedVariables false
set_option linter.unusedSimpArgs false

set_option maxHeartbeats 400000 in
theorem nwords_any (A : Option Addr) (n c : Nat) (xs : List Nat) (w : World) (h : Wds w A n c xs) (hn : n ≤ 35184372088832) :
    Calls Tryz.prog 131 #[.slice A n c] w fun e w' => e = .returned (.int .i64 (nw (nv xs) : Int)) ∧ w = w' := by
  have hlen := h.len
  go_enter Tryz.func131, Tryz.ntmps131
  go_wp2
  go_loop [3] (fun i => ∃ k : Nat, k ≤ n ∧ i = .int .i64 k ∧ ∀ j, (hj : j < xs.length) → k ≤ j → xs[j] = 0) (fun i => (intOf i).toNat)
  case atStart => exact ⟨n, Nat.le_refl _, rfl, fun j hj hk => by omega⟩
  case round =>
    obtain ⟨k, hk, rfl, hz⟩ := hrel
    have HZ := Lib.hid hz
    clear hz
    by_cases h0 : k = 0
    · subst h0
      go_wp2
      go_ret
      exact ⟨ret_int (by rw [(take_trim h.ws (Nat.zero_le _) HZ.out (fun k hk e => by omega)).2.1]; rfl), rfl⟩
    · obtain ⟨ad, hx, rfl, hb, hc⟩ := h.at_ (k := k - 1) (by omega)
      by_cases hx0 : xs[k - 1] = 0
      · go_wp2
        go_round
        case rel => exact ⟨k - 1, by omega, by go_num, fun j hj hkj => by
          by_cases e : j = k - 1
          · subst e; exact hx0
          · exact HZ.out j hj (by omega)⟩
        case measure => simp [intOf]; omega
      · go_wp2
        go_ret
        exact ⟨ret_int (by rw [(take_trim h.ws (by omega) HZ.out (fun j hj e => by
          have e : j = k - 1 := by omega
          subst e; exact hx0)).2.1]), rfl⟩


theorem nd_take {xs : List Nat} (h : Ws xs) : nd (nv xs) = xs.take (nw (nv xs)) := by
  obtain ⟨n, hn, hz, ht⟩ : ∃ n, n ≤ xs.length ∧ (∀ k, (hk : k < xs.length) → n ≤ k → xs[k] = 0) ∧ (∀ k, (hk : k < xs.length) → k + 1 = n → xs[k] ≠ 0) := by
    have : ∀ m, m ≤ xs.length → (∀ k, (hk : k < xs.length) → m ≤ k → xs[k] = 0) → ∃ n, n ≤ xs.length ∧ (∀ k, (hk : k < xs.length) → n ≤ k → xs[k] = 0) ∧ (∀ k, (hk : k < xs.length) → k + 1 = n → xs[k] ≠ 0) := by
      intro m
      induction m with
      | zero => intro h1 h2; exact ⟨0, by omega, h2, fun k hk e => by omega⟩
      | succ m ih =>
        intro h1 h2
        by_cases h3 : xs[m]'(by omega) = 0
        · exact ih (by omega) (fun k hk hm => by
            by_cases e : k = m
            · subst e; exact h3
            · exact h2 k hk (by omega))
        · exact ⟨m + 1, h1, h2, fun k hk e => by
            have : k = m := by omega
            subst this; exact h3⟩
    exact this xs.length (Nat.le_refl _) (fun k hk h => by omega)
  have := take_trim h hn hz ht
  rw [this.1, this.2.1]

theorem Wds.cut {w : World} {A : Option Addr} {n c : Nat} {xs : List Nat} (h : Wds w A n c xs) : Wds w A (nw (nv xs)) (nw (nv xs)) (nd (nv xs)) := by
  have hle : nw (nv xs) ≤ n := by have := nw_nv_le h.ws; have := h.len; omega
  have hc1 := h.lec
  have hc2 := h.cmax
  refine ⟨nd_length _, Nat.le_refl _, by omega, Ws.nd _, fun h0 => ?_⟩
  obtain ⟨ad, e, hlt, hc⟩ := h.2.2.2.2 (by omega)
  refine ⟨ad, e, hlt, fun k x hk => hc k x ?_⟩
  rw [nd_take h.ws, List.getElem?_take] at hk
  split at hk
  · exact hk
  · cases hk

set_option maxHeartbeats 1000000 in
theorem ncut_any (A : Option Addr) (n c : Nat) (xs : List Nat) (w : World) (h : Wds w A n c xs) (hn : n ≤ 35184372088832) :
    Calls Tryz.prog 111 #[.slice A n c] w (RetW (nv xs) w) := by
  have hw := fun w (h : Wds w A n c xs) => nwords_any A n c xs w h hn
  have hle : nw (nv xs) ≤ n := by have := nw_nv_le h.ws; have := h.len; omega
  have hlc := h.lec
  have hcut := h.cut
  obtain ⟨m, hm⟩ : ∃ m, m = nw (nv xs) := ⟨_, rfl⟩
  rw [← hm] at hw hle
  have HW := Lib.hid hw
  have HM := Lib.hid hm
  clear hw hm
  go_enter Tryz.func111, Tryz.ntmps111
  go_wp2_with fail
  refine (HW.out _ h).mono ?_
  rintro e w1 ⟨rfl, hw1⟩
  subst hw1
  go_wp2_with fail
  refine (HW.out _ h).mono ?_
  rintro e w1 ⟨rfl, hw1⟩
  subst hw1
  cases A with
  | none =>
    have hn0 : n = 0 := by
      rcases Nat.eq_zero_or_pos n with e | e
      · exact e
      · obtain ⟨ad, e', _⟩ := h.2.2.2.2 e; cases e'
    have hm0 : m = 0 := by omega
    have HH := Lib.hid hcut
    clear hcut h
    go_wp2
    go_ret
    exact ⟨none, 0, 0, rfl, by have h1 := HH.out; rw [← HM.out, hm0] at h1; exact h1, Ext.refl w⟩
  | some ad =>
    have HH := Lib.hid hcut
    clear hcut h
    go_wp2
    go_ret
    exact ⟨some ad, m, m, rfl, by have h1 := HH.out; rw [← HM.out] at h1; exact h1, Ext.refl w⟩

set_option maxHeartbeats 1000000 in
theorem nsmall_any (n : Nat) (w : World) (h1 : n < 18446744073709551616) :
    Calls Tryz.prog 88 #[.int .u64 (n : Int)] w (RetW n w) := by
  have hmod : (n : Int) % 4294967296 = ((n % 4294967296 : Nat) : Int) := by omega
  have hdiv : (n : Int) / 4294967296 = ((n / 4294967296 : Nat) : Int) := by omega
  have hdm : ((n / 4294967296 : Nat) : Int) % 4294967296 = ((n / 4294967296 : Nat) : Int) := by omega
  have H2 := Lib.hid hmod
  have H3 := Lib.hid hdiv
  have H4 := Lib.hid hdm
  clear hmod hdiv hdm
  go_enter Tryz.func88, Tryz.ntmps88
  go_wp2_with fail
  rw [H2.out, H3.out]
  try rw [H4.out]
  have hW : Wds (w.alloc (Obj.cells #[Value.int IntKind.u32 ((n % 4294967296 : Nat) : Int), Value.int IntKind.u32 ((n / 4294967296 : Nat) : Int)] 65)) (some ⟨w.heap.size, 0, none⟩) 2 2 [n % 4294967296, n / 4294967296] := by
    refine ⟨rfl, Nat.le_refl _, by unfold maxLen; omega, Ws.cons (by omega) (Ws.cons (by omega) Ws.nil), fun _ => ⟨_, rfl, by simp, fun k x hk => ?_⟩⟩
    match k, hk with
    | 0, hk => simp at hk; subst hk; simp [World.cell?_alloc_new, Addr.add]
    | 1, hk => simp at hk; subst hk; simp [World.cell?_alloc_new, Addr.add]
    | k + 2, hk => simp at hk
  refine (ncut_any _ _ _ _ _ hW (by omega)).mono ?_
  rintro e w1 ⟨A, m, c, rfl, hR, hb⟩
  rw [two_words n (by omega)] at hR
  go_wp2
  go_ret
  exact ⟨A, m, c, rfl, hR, ((Ext.refl w).alloc _).trans hb⟩
end Go.Proofs.YtadijoeeaineaaaGreatDoor

/-
  The contracts of the program's own naturals, second part: Cmp. Conditions: those that each theorem names.
-/
namespace Go.Proofs.YtadijoeeaineaaaGreatDoor
open Go.RowKit Nm
set_option maxRecDepth 100000
set_option linter.unusedVariables false
set_option linter.unusedSimpArgs false

set_option maxHeartbeats 1000000 in
theorem ncmp_any (A : Option Addr) (n c : Nat) (xs : List Nat) (B : Option Addr) (m d : Nat) (ys : List Nat) (w : World) (h : Wds w A n c xs) (hn : n ≤ 35184372088832) (k : Wds w B m d ys) (hm : m ≤ 35184372088832) :
    Calls Tryz.prog 138 #[.slice A n c, .slice B m d] w fun e w' => e = .returned (.int .i64 (cmpN (nv xs) (nv ys))) ∧ ∃ q, w' = w.drewN q := by
  have hxl : nw (nv xs) ≤ xs.length := nw_nv_le h.ws
  have hyl : nw (nv ys) ≤ ys.length := nw_nv_le k.ws
  have hlx := h.len
  have hly := k.len
  rcases Nat.lt_trichotomy (nw (nv xs)) (nw (nv ys)) with hlt | heq | hgt
  · go_enter Tryz.func138, Tryz.ntmps138
    go_wp2_with (first | (go_at_call 131; ((with_reducible refine (nwords_any A _ _ _ _ h hn).mono ?_); rintro e w' ⟨rfl, rfl⟩)) | (go_at_call 131; ((with_reducible refine (nwords_any B _ _ _ _ k hm).mono ?_); rintro e w' ⟨rfl, rfl⟩)))
    go_ret
    exact ⟨ret_int (cmpN_lt (lt_of_nw hlt)).symm, 0, rfl⟩
  · have HS := Lib.hid heq
    have hle : nw (nv xs) ≤ nw (nv ys) := by omega
    have hge : nw (nv ys) ≤ nw (nv xs) := by omega
    clear heq
    go_enter Tryz.func138, Tryz.ntmps138
    go_wp2_with (first | (go_at_call 131; ((with_reducible refine (nwords_any A _ _ _ _ h hn).mono ?_); rintro e w' ⟨rfl, rfl⟩)) | (go_at_call 131; ((with_reducible refine (nwords_any B _ _ _ _ k hm).mono ?_); rintro e w' ⟨rfl, rfl⟩)))
    go_loopw [21] (fun i wr => ∃ t : Nat, t ≤ nw (nv xs) ∧ i = .int .i64 ((nw (nv xs) - t : Nat) : Int) ∧ Same xs ys (nw (nv xs)) t ∧ ∃ q, wr = w.drewN q) (fun i _ => nw (nv xs) - (intOf i).toNat)
    case atStart => exact ⟨_, Nat.le_refl _, by simp, fun j a b c => by rw [List.length_take] at a; omega, 0, rfl⟩
    case round =>
      obtain ⟨t, ht, rfl, hs, q, rfl⟩ := hrel
      by_cases h0 : t = 0
      · subst h0
        have hfin := Lib.hid (hs.all h.ws k.ws HS.out)
        clear hs
        go_wp2
        go_ret
        exact ⟨ret_int (cmpN_eq hfin.out).symm, q, rfl⟩
      · obtain ⟨ad, hx, rfl, hb, hc⟩ := h.at_ (k := t - 1) (by omega)
        obtain ⟨bd, hy, rfl, hb', hc'⟩ := k.at_ (k := t - 1) (by omega)
        have hs' := hs
        rw [show t = t - 1 + 1 by omega] at hs'
        have hax := Lib.hid (fun hh => Same.lt h.ws k.ws HS.out (show t - 1 < nw (nv xs) by omega) hx hy hs' hh)
        have hay := Lib.hid (fun hh => Same.lt k.ws h.ws HS.out.symm (show t - 1 < nw (nv ys) by omega) hy hx (by rw [← HS.out]; exact hs'.symm) hh)
        have hae := Lib.hid (fun hh => hs'.step hx hy hh)
        clear hs hs'
        have hpos : 0 < t := by omega
        have b0 : (nw (nv xs) : Int) - 1 - ((nw (nv xs) - t : Nat) : Int) = ((t - 1 : Nat) : Int) := by omega
        have b4 : (nw (nv xs) : Int) - 1 = ((nw (nv xs) - 1 : Nat) : Int) := by omega
        have b5 : ((nw (nv xs) - 1 : Nat) : Int) - ((nw (nv xs) - t : Nat) : Int) = ((t - 1 : Nat) : Int) := by omega
        have b1 : (0 : Int) ≤ ((t - 1 : Nat) : Int) := by omega
        have b2 : ((t - 1 : Nat) : Int) < (n : Int) := by omega
        have b3 : ((t - 1 : Nat) : Int) < (m : Int) := by omega
        generalize hX : xs[t - 1] = X at *
        generalize hY : ys[t - 1] = Y at *
        have HX := Lib.hid hX
        have HY := Lib.hid hY
        clear hX hY
        rcases Nat.lt_trichotomy X Y with hlt | he | hgt
        · go_wp2
          go_quiet (fail)
          go_wp2
          go_ret
          exact ⟨ret_int (cmpN_lt (hax.out hlt)).symm, by (try simp only [World.drewN_drewN]); exact ⟨_, rfl⟩⟩
        · have hng : ¬ X < Y := by omega
          have hng' : ¬ Y < X := by omega
          have HE := Lib.hid he
          clear he
          go_wp2
          go_quiet (fail)
          go_wp2
          go_roundw
          case rel => exact ⟨t - 1, by omega, val_int (by omega), hae.out HE.out, by (try simp only [World.drewN_drewN]); exact ⟨_, rfl⟩⟩
          case measure => simp [intOf]; omega
        · have hng : ¬ X < Y := by omega
          go_wp2
          go_quiet (fail)
          go_wp2
          go_ret
          exact ⟨ret_int (cmpN_gt (hay.out hgt)).symm, by (try simp only [World.drewN_drewN]); exact ⟨_, rfl⟩⟩
  · go_enter Tryz.func138, Tryz.ntmps138
    go_wp2_with (first | (go_at_call 131; ((with_reducible refine (nwords_any A _ _ _ _ h hn).mono ?_); rintro e w' ⟨rfl, rfl⟩)) | (go_at_call 131; ((with_reducible refine (nwords_any B _ _ _ _ k hm).mono ?_); rintro e w' ⟨rfl, rfl⟩)))
    go_ret
    exact ⟨ret_int (cmpN_gt (lt_of_nw hgt)).symm, 0, rfl⟩
end Go.Proofs.YtadijoeeaineaaaGreatDoor

/-
  The contracts of the program's own naturals, third part: the length of a word, Len. Conditions: those that each theorem names.
-/
namespace Go.Proofs.YtadijoeeaineaaaGreatDoor
open Go.RowKit Nm
set_option maxRecDepth 100000
set_option linter.unusedVariables false
set_option linter.unusedSimpArgs false

set_option maxHeartbeats 1000000 in
theorem len32_small (x : Nat) (w : World) (h : x < 256) :
    Calls Tryz.prog 133 #[.int .u32 (x : Int)] w fun e w' => e = .returned (.int .i64 (bl x : Int)) ∧ w = w' := by
  have g1 : decide ((65536 : Int) ≤ (x : Int)) = false := decide_eq_false (by omega)
  have g2 : decide ((256 : Int) ≤ (x : Int)) = false := decide_eq_false (by omega)
  have g3 : (x : Int) % 256 = (x : Int) := by omega
  go_enter Tryz.func133, Tryz.ntmps133
  go_wp2
  go_ret
  refine ⟨ret_int ?_, rfl⟩
  clear g1 g2 g3
  rename_i h2
  have h3 : x < 256 := h
  clear h
  revert h2
  revert h3
  revert x
  decide +kernel

theorem bl_shift (k x : Nat) (h : 2 ^ k ≤ x) : bl x = k + bl (x / 2 ^ k) := by
  have hp : 0 < 2 ^ k := Nat.two_pow_pos k
  apply Nat.le_antisymm
  · rw [bl_le_iff, Nat.pow_add, Nat.mul_comm]
    exact (Nat.div_lt_iff_lt_mul hp).1 ((bl_le_iff _ _).1 (Nat.le_refl _))
  · have hx := (bl_le_iff x (bl x)).1 (Nat.le_refl _)
    have hk : k ≤ bl x := by
      rcases Nat.lt_or_ge (bl x) k with e | e
      · have := Nat.pow_le_pow_right (n := 2) (by omega) (Nat.le_of_lt e); omega
      · exact e
    have : bl (x / 2 ^ k) ≤ bl x - k := by
      rw [bl_le_iff, Nat.div_lt_iff_lt_mul hp, ← Nat.pow_add, Nat.sub_add_cancel hk]
      exact hx
    omega


set_option maxHeartbeats 1000000 in
theorem len32_big (x : Nat) (w : World) (h : x < 4294967296) (c1 : 65536 ≤ x) :
    Calls Tryz.prog 133 #[.int .u32 (x : Int)] w fun e w' => e = .returned (.int .i64 (bl x : Int)) ∧ w = w' := by
  have g1 : decide ((65536 : Int) ≤ (x : Int)) = true := decide_eq_true (by omega)
  have hb := bl_shift 16 x (by omega)
  rw [show 2 ^ 16 = 65536 from rfl] at hb
  have HB := Lib.hid hb
  have HX := Lib.hid h
  clear h c1 hb
  go_enter Tryz.func133, Tryz.ntmps133
  go_wp2
  all_goals
    go_ret
    refine ⟨ret_int ?_, rfl⟩
  · have hy : x / 65536 / 256 < 256 := by have := HX.out; omega
    have hb2 := bl_shift 8 (x / 65536) (by omega)
    rw [show 2 ^ 8 = 256 from rfl] at hb2
    rw [HB.out, hb2, ← getElem!_pos]
    clear HB HX g1 hb2
    rename_i h1 h2
    clear h1 h2
    rw [Nat.mod_eq_of_lt hy]
    revert hy
    generalize x / 65536 / 256 = y
    revert y
    decide +kernel
  · have hy : x / 65536 < 256 := by omega
    rw [HB.out, ← getElem!_pos]
    clear HB HX g1
    rename_i h1 h2
    clear h1 h2
    revert hy
    generalize x / 65536 = y
    revert y
    decide +kernel

set_option maxHeartbeats 1000000 in
theorem len32_mid (x : Nat) (w : World) (c1 : x < 65536) (c2 : 256 ≤ x) :
    Calls Tryz.prog 133 #[.int .u32 (x : Int)] w fun e w' => e = .returned (.int .i64 (bl x : Int)) ∧ w = w' := by
  have g1 : decide ((65536 : Int) ≤ (x : Int)) = false := decide_eq_false (by omega)
  have g2 : decide ((256 : Int) ≤ (x : Int)) = true := decide_eq_true (by omega)
  have hb := bl_shift 8 x (by omega)
  rw [show 2 ^ 8 = 256 from rfl] at hb
  have HB := Lib.hid hb
  have HX := Lib.hid c1
  clear c1 c2 hb
  go_enter Tryz.func133, Tryz.ntmps133
  go_wp2
  go_ret
  refine ⟨ret_int ?_, rfl⟩
  have hy : x / 256 < 256 := by have := HX.out; omega
  rw [HB.out, ← getElem!_pos, Nat.mod_eq_of_lt hy]
  clear HB HX g1 g2
  rename_i h1
  clear h1
  revert hy
  generalize x / 256 = y
  revert y
  decide +kernel
theorem len32_any (x : Nat) (w : World) (h : x < 4294967296) :
    Calls Tryz.prog 133 #[.int .u32 (x : Int)] w fun e w' => e = .returned (.int .i64 (bl x : Int)) ∧ w = w' := by
  by_cases c1 : 65536 ≤ x
  · exact len32_big x w h c1
  · by_cases c2 : 256 ≤ x
    · exact len32_mid x w (by omega) c2
    · exact len32_small x w (by omega)
end Go.Proofs.YtadijoeeaineaaaGreatDoor

/-
  The contracts of the program's own naturals, fourth part: Len. Conditions: those that each theorem names.
-/
namespace Go.Proofs.YtadijoeeaineaaaGreatDoor
open Go.RowKit Nm
set_option maxRecDepth 100000
set_option linter.unusedVariables false
set_option linter.unusedSimpArgs false

set_option maxHeartbeats 1000000 in
theorem nlen_any (A : Option Addr) (n c : Nat) (xs : List Nat) (w : World) (h : Wds w A n c xs) (hn : n ≤ 35184372088832) :
    Calls Tryz.prog 110 #[.slice A n c] w fun e w' => e = .returned (.int .i64 (bl (nv xs) : Int)) ∧ w = w' := by
  have hxl : nw (nv xs) ≤ xs.length := nw_nv_le h.ws
  have hlen := h.len
  by_cases h0 : nv xs = 0
  · have hz : nw (nv xs) ≤ 0 := by rw [h0, nw_zero]; omega
    have hf : (0 : Int) = (bl (nv xs) : Int) := by rw [h0]; rfl
    have HF := Lib.hid hf
    clear hf h0
    go_enter Tryz.func110, Tryz.ntmps110
    go_wp2_with (go_at_call 131; refine (nwords_any _ _ _ _ _ h hn).mono ?_; rintro e w' ⟨rfl, rfl⟩)
    go_ret
    exact ⟨ret_int HF.out, rfl⟩
  · obtain ⟨hk, ht, htop⟩ := top_word h.ws h0
    have hnp : 0 < nw (nv xs) := by
      rcases Nat.eq_zero_or_pos (nw (nv xs)) with e | e
      · exact absurd (nw_eq_zero.1 e) h0
      · exact e
    clear h0
    obtain ⟨ad, hx, rfl, hb, hc⟩ := h.at_ (k := nw (nv xs) - 1) (by omega)
    have hX := h.ws.get hx
    have HT := Lib.hid htop
    clear htop
    generalize hXe : xs[nw (nv xs) - 1] = X at *
    have HX := Lib.hid hXe
    clear hXe
    have HL := Lib.hid (fun w => len32_any X w hX)
    go_enter Tryz.func110, Tryz.ntmps110
    go_wp2_with (first | (go_at_call 131; refine (nwords_any _ _ _ _ _ h hn).mono ?_; rintro e w' ⟨rfl, rfl⟩) | (go_at_call 133; refine (HL.out _).mono ?_; rintro e w' ⟨rfl, rfl⟩))
    go_ret
    exact ⟨ret_int (by have h1 := HT.out; have h2 : bl X ≤ 32 := (bl_le_iff X 32).2 hX; unfold wrap64; omega), rfl⟩
end Go.Proofs.YtadijoeeaineaaaGreatDoor
