/-
  The contracts of the document's sums, third part: Mul. Conditions: those that each theorem names.
-/
import Derived.Test.YtfbjeifhpmdjaaaGreatP30
import Derived.Test.YtfbjeifhpmdjaaaGreatP14
namespace Go.Proofs.YtfbjeifhpmdjaaaGreat
open Go.RowKit Nm Rn
set_option maxRecDepth 100000
set_option linter.unusedVariables false
set_option linter.unusedSimpArgs false

set_option maxHeartbeats 400000 in
theorem dfin_raw (b : Nat) (w : World) (hb : b < 18446744073709551616) :
    Calls Tryz.prog 59 #[.int .u64 (b : Int)] w fun e w' => e = .returned (.bool (!decide (b / 4503599627370496 % 2048 = 2047))) ∧ w = w' := by
  obtain ⟨E, hE⟩ : ∃ E, E = b / 4503599627370496 % 2048 := ⟨_, rfl⟩
  have g1 : bits .and .u64 ((b : Int) / 4503599627370496) 2047 = (E : Int) := by
    rw [show (b : Int) / 4503599627370496 = ((b / 4503599627370496 : Nat) : Int) by omega, show (2047 : Int) = ((2047 : Nat) : Int) from rfl, u64_and_nat _ _ (by omega) (by omega), nat_mask11, hE]
  have HF : Hid ((!((E : Int) == 2047)) = (!decide (b / 4503599627370496 % 2048 = 2047))) := Lib.hid (by
    rw [← hE]
    congr 1
    rw [Bool.eq_iff_iff, beq_iff_eq, decide_eq_true_iff]
    omega)
  clear hE hb
  go_enter Tryz.func59, Tryz.ntmps59
  go_wp2
  go_ret
  exact ⟨ret_bool HF.out, rfl⟩
theorem dfin_any (b : Nat) (w : World) (hb : b < 18446744073709551616) :
    Calls Tryz.prog 59 #[.int .u64 (b : Int)] w fun e w' => e = .returned (.bool (!oddP b)) ∧ w = w' := by
  have e : oddP b = decide (b / 4503599627370496 % 2048 = 2047) := by
    have hi := infR_val
    unfold oddP isNaN isInf
    rw [← Bool.decide_or]
    refine decide_eq_decide.2 ?_
    unfold mg
    omega
  rw [e]
  exact dfin_raw b w hb
def AtDR (T : Int) (v : Value) (w : World) : Prop := ∃ s N D A l c B k d, v = .agg #[.bool s, .slice A l c, .slice B k d] ∧ Hid (DR T s N D) ∧ RatAt w A l c B k d N D
section
variable {w : World} {A B : Option Addr} {l c k d N D : Nat} {s : Bool}
set_option maxHeartbeats 4000000 in
theorem dmul_any (Z : Sm) (x y : Nat) (hx : x < 18446744073709551616) (hy : y < 18446744073709551616) (ht : Z.t ≤ 4611686018427387904) (hT : nw Z.T.natAbs ≤ 1000) (h : DR Z.T s N D) (hr : RatAt w A l c B k d N D) :
    Calls Tryz.prog 23 #[dsV s A l c B k d Z.p Z.m Z.n Z.t, .int .u64 (x : Int), .int .u64 (y : Int)] w (RetDS (Z.mul x y) w) := by
  have HM : Hid (∀ w, Calls Tryz.prog 52 #[dsV s A l c B k d Z.p Z.m Z.n Z.t, .int .u64 1] w fun e w' => e = .returned (dsV s A l c B k d Z.p Z.m (cntN Z.n Z.t 1) (cnt Z.t 1)) ∧ Ext w w') := Lib.hid (fun w => dmore_any 1 ht (by omega))
  have hO := ((Own.start w).add hr.1).add hr.2
  have hf : True := trivial
  have HF1 := Lib.hid (fun w => dfin_any x w hx)
  have HF2 := Lib.hid (fun w => dfin_any y w hy)
  obtain ⟨t1, ht1⟩ : ∃ t1, t1 = cnt Z.t 1 := ⟨_, rfl⟩
  obtain ⟨n1, hn1⟩ : ∃ n1, n1 = cntN Z.n Z.t 1 := ⟨_, rfl⟩
  rw [← ht1, ← hn1] at HM
  by_cases ho : (oddP x || oddP y) = true
  · have e : Z.mul x y = Z.add (mulR 0 x y) := by unfold Sm.mul; rw [if_pos ho]
    rw [e]
    obtain ⟨Q, hQ⟩ : ∃ Q, Q = Z.add (mulR 0 x y) := ⟨_, rfl⟩
    have hV := mulR_odd_lt hx hy ho
    have HM3 := Lib.hid (fun w => mul3_any 0 x y w hx hy)
    have HAD := Lib.hid (fun w1 (hr1 : RatAt w1 A l c B k d N D) => dadd_any (w := w1) Z (mulR 0 x y) hV ht hT h hr1)
    rw [← hQ] at HAD ⊢
    obtain ⟨V, hVe⟩ : ∃ V, V = mulR 0 x y := ⟨_, rfl⟩
    rw [← hVe] at HAD HM3
    have hcs : oddP x = true ∨ (oddP x = false ∧ oddP y = true) := by
      cases hox : oddP x
      · rw [hox] at ho; exact .inr ⟨rfl, by simpa using ho⟩
      · exact .inl rfl
    clear e hQ hV hVe ho ht1 hn1 h hr hT ht hx hy HM
    rcases hcs with h1 | ⟨h1, h2⟩
    · rw [h1] at HF1
      clear h1
      go_enter Tryz.func23, Tryz.ntmps23
      go_upto_region 5 with (first | ((with_reducible refine at_box ?_); refine own_box (cs := [.bool s, .slice A l c, .slice B k d, .bool Z.p, .bool Z.m, .bool Z.n, .int .u64 (Z.t : Int)]) hO rfl rfl ?_; clear hO; intro g wa hO; clear hf; have hf := hO.cells; simp only [BC, CC, Nat.zero_add, Nat.reduceAdd, and_true] at hf) | ((with_reducible refine at_alloc ?_); refine own_alloc hO zero_ds rfl rfl ?_; clear hO; intro gr wb hO; clear hf; have hf := hO.cells; simp only [BC, CC, Nat.zero_add, Nat.reduceAdd, and_true] at hf) | (go_at_call 59; (with_reducible refine (HF1.out _).mono ?_); rintro e w5 ⟨rfl, rfl⟩) | (go_at_call 59; (with_reducible refine (HF2.out _).mono ?_); rintro e w5 ⟨rfl, rfl⟩))
      obtain ⟨S, hS⟩ : ∃ S : World → Prop, S = Own w [⟨gr, 40, [.bool false, .slice none 0 0, .slice none 0 0, .bool false, .bool false, .bool false, .int .u64 0]⟩, ⟨g, 40, [.bool s, .slice A l c, .slice B k d, .bool Z.p, .bool Z.m, .bool Z.n, .int .u64 (Z.t : Int)]⟩] [⟨B, k, d, nd D⟩, ⟨A, l, c, nd N⟩] := ⟨_, rfl⟩
      have hSE : ∀ w w', S w → Ext w w' → S w' := fun w w' h1 h2 => by rw [hS] at h1 ⊢; exact h1.ext h2
      have hS1 : S wb.drew := by rw [hS]; exact hO.ext (Ext.refl wb).drew
      have HS := Lib.hid hS
      clear hS hO hf
      obtain ⟨sp, hsp⟩ : ∃ sp : Nat → Sp, sp = ofList [det (.agg #[.bool s, .slice A l c, .slice B k d, .bool Z.p, .bool Z.m, .bool Z.n, .int .u64 (Z.t : Int)]), det (.int .u64 (x : Int)), det (.int .u64 (y : Int)), det (.int .u64 (V : Int))] := ⟨_, rfl⟩
      have HSP := Lib.hid hsp
      clear hsp
      refine wp_region_loose 4 S sp (by kernel_rfl) (by kernel_rfl) hS1 hSE ?_
      simp only [List.take_succ_cons, List.take_zero, List.drop_succ_cons, List.drop_zero]
      iterate 3
        refine wpX_step (fun K hK => ?_)
        go_simp
        refine StepY.det (by rw [HSP.out]; rfl) ?_ ?_
        · intro wz hz hF
          rw [HS.out] at hz
          have hf := hz.cells
          simp only [BC, CC, Nat.zero_add, Nat.reduceAdd, and_true] at hf
          clear hz hF
          go_simp
          exact ⟨rfl, Ext.refl _⟩
        refine hK _ _ ?_
        clear hK K
      refine wpX_step (fun K hK => ?_)
      go_simp
      refine StepY.det (by rw [HSP.out]; rfl) ?_ ?_
      · intro wz hz hF
        clear hz hF
        go_simp
        refine (HM3.out _).mono ?_
        rintro e w5 ⟨rfl, hE⟩
        exact ⟨_, rfl, rfl, hE⟩
      refine hK _ _ ?_
      clear hK K
      refine wpX_nil ?_
      intro wq hz hF
      clear hF
      rw [HS.out] at hz
      have hO := hz
      clear hz HS HSP
      have hf := hO.cells
      simp only [BC, CC, Nat.zero_add, Nat.reduceAdd, and_true] at hf
      go_wp2_with fail
      refine (HAD.out _ ⟨hO.wd 1 rfl, hO.wd 0 rfl⟩).mono ?_
      rintro e w9 ⟨s9, N9, D9, A9, l9, c9, B9, k9, d9, rfl, HD9, hR9, hE9⟩
      have hO := ((hO.ext hE9).add hR9.1).add hR9.2
      clear hR9 hE9
      clear hf
      have hf := hO.cells
      simp only [BC, CC, Nat.zero_add, Nat.reduceAdd, and_true] at hf
      go_wp2_with ((with_reducible refine at_store (T := 40) ?_); refine own_store (vs := [.bool s9, .slice A9 l9 c9, .slice B9 k9 d9, .bool Q.p, .bool Q.m, .bool Q.n, .int .u64 (Q.t : Int)]) (T := 40) hO 0 rfl rfl rfl size_ds rfl rfl rfl ?_; clear hO; intro w11 hO; simp only [List.set_cons_zero, List.set_cons_succ, spl, List.take_succ_cons, List.take_zero, List.nil_append, List.cons_append, List.length_cons, List.length_nil, List.drop_succ_cons, List.drop_zero, List.drop_nil, Nat.reduceAdd, Nat.zero_add, List.append_nil] at hO; clear hf; have hf := hO.cells; simp only [BC, CC, Nat.zero_add, Nat.reduceAdd, and_true] at hf)
      exact own_ret hO 0 rfl rfl rfl agg_ds size_ds rfl ⟨s9, N9, D9, A9, l9, c9, B9, k9, d9, rfl, HD9, ⟨hO.wd 1 rfl, hO.wd 0 rfl⟩, hO.toExt⟩
    · rw [h1] at HF1
      rw [h2] at HF2
      clear h1 h2
      go_enter Tryz.func23, Tryz.ntmps23
      go_upto_region 5 with (first | ((with_reducible refine at_box ?_); refine own_box (cs := [.bool s, .slice A l c, .slice B k d, .bool Z.p, .bool Z.m, .bool Z.n, .int .u64 (Z.t : Int)]) hO rfl rfl ?_; clear hO; intro g wa hO; clear hf; have hf := hO.cells; simp only [BC, CC, Nat.zero_add, Nat.reduceAdd, and_true] at hf) | ((with_reducible refine at_alloc ?_); refine own_alloc hO zero_ds rfl rfl ?_; clear hO; intro gr wb hO; clear hf; have hf := hO.cells; simp only [BC, CC, Nat.zero_add, Nat.reduceAdd, and_true] at hf) | (go_at_call 59; (with_reducible refine (HF1.out _).mono ?_); rintro e w5 ⟨rfl, rfl⟩) | (go_at_call 59; (with_reducible refine (HF2.out _).mono ?_); rintro e w5 ⟨rfl, rfl⟩))
      obtain ⟨S, hS⟩ : ∃ S : World → Prop, S = Own w [⟨gr, 40, [.bool false, .slice none 0 0, .slice none 0 0, .bool false, .bool false, .bool false, .int .u64 0]⟩, ⟨g, 40, [.bool s, .slice A l c, .slice B k d, .bool Z.p, .bool Z.m, .bool Z.n, .int .u64 (Z.t : Int)]⟩] [⟨B, k, d, nd D⟩, ⟨A, l, c, nd N⟩] := ⟨_, rfl⟩
      have hSE : ∀ w w', S w → Ext w w' → S w' := fun w w' h1 h2 => by rw [hS] at h1 ⊢; exact h1.ext h2
      have hS1 : S wb.drew := by rw [hS]; exact hO.ext (Ext.refl wb).drew
      have HS := Lib.hid hS
      clear hS hO hf
      obtain ⟨sp, hsp⟩ : ∃ sp : Nat → Sp, sp = ofList [det (.agg #[.bool s, .slice A l c, .slice B k d, .bool Z.p, .bool Z.m, .bool Z.n, .int .u64 (Z.t : Int)]), det (.int .u64 (x : Int)), det (.int .u64 (y : Int)), det (.int .u64 (V : Int))] := ⟨_, rfl⟩
      have HSP := Lib.hid hsp
      clear hsp
      refine wp_region_loose 4 S sp (by kernel_rfl) (by kernel_rfl) hS1 hSE ?_
      simp only [List.take_succ_cons, List.take_zero, List.drop_succ_cons, List.drop_zero]
      iterate 3
        refine wpX_step (fun K hK => ?_)
        go_simp
        refine StepY.det (by rw [HSP.out]; rfl) ?_ ?_
        · intro wz hz hF
          rw [HS.out] at hz
          have hf := hz.cells
          simp only [BC, CC, Nat.zero_add, Nat.reduceAdd, and_true] at hf
          clear hz hF
          go_simp
          exact ⟨rfl, Ext.refl _⟩
        refine hK _ _ ?_
        clear hK K
      refine wpX_step (fun K hK => ?_)
      go_simp
      refine StepY.det (by rw [HSP.out]; rfl) ?_ ?_
      · intro wz hz hF
        clear hz hF
        go_simp
        refine (HM3.out _).mono ?_
        rintro e w5 ⟨rfl, hE⟩
        exact ⟨_, rfl, rfl, hE⟩
      refine hK _ _ ?_
      clear hK K
      refine wpX_nil ?_
      intro wq hz hF
      clear hF
      rw [HS.out] at hz
      have hO := hz
      clear hz HS HSP
      have hf := hO.cells
      simp only [BC, CC, Nat.zero_add, Nat.reduceAdd, and_true] at hf
      go_wp2_with fail
      refine (HAD.out _ ⟨hO.wd 1 rfl, hO.wd 0 rfl⟩).mono ?_
      rintro e w9 ⟨s9, N9, D9, A9, l9, c9, B9, k9, d9, rfl, HD9, hR9, hE9⟩
      have hO := ((hO.ext hE9).add hR9.1).add hR9.2
      clear hR9 hE9
      clear hf
      have hf := hO.cells
      simp only [BC, CC, Nat.zero_add, Nat.reduceAdd, and_true] at hf
      go_wp2_with ((with_reducible refine at_store (T := 40) ?_); refine own_store (vs := [.bool s9, .slice A9 l9 c9, .slice B9 k9 d9, .bool Q.p, .bool Q.m, .bool Q.n, .int .u64 (Q.t : Int)]) (T := 40) hO 0 rfl rfl rfl size_ds rfl rfl rfl ?_; clear hO; intro w11 hO; simp only [List.set_cons_zero, List.set_cons_succ, spl, List.take_succ_cons, List.take_zero, List.nil_append, List.cons_append, List.length_cons, List.length_nil, List.drop_succ_cons, List.drop_zero, List.drop_nil, Nat.reduceAdd, Nat.zero_add, List.append_nil] at hO; clear hf; have hf := hO.cells; simp only [BC, CC, Nat.zero_add, Nat.reduceAdd, and_true] at hf)
      exact own_ret hO 0 rfl rfl rfl agg_ds size_ds rfl ⟨s9, N9, D9, A9, l9, c9, B9, k9, d9, rfl, HD9, ⟨hO.wd 1 rfl, hO.wd 0 rfl⟩, hO.toExt⟩
  · have ho2 : (oddP x || oddP y) = false := by simpa using ho
    obtain ⟨h1, h2⟩ := Bool.or_eq_false_iff.1 ho2
    have e : Z.mul x y = ⟨Z.T + sv x * sv y, Z.p, Z.m, n1, t1⟩ := by unfold Sm.mul; rw [if_neg ho, ht1, hn1]; rfl
    rw [e]
    have hV : nw (sv x * sv y).natAbs ≤ 1000000 := by
      have := nw_sum (T := sv x * sv y) (Nat.lt_of_le_of_lt (Nat.mul_le_mul_left 2 (Nat.le_trans (two_le (oddP_fin h1) (oddP_fin h2)) (Nat.le_mul_of_pos_left BG (show 0 < 4611686018427387904 by omega)))) BG_mm)
      omega
    rw [h1] at HF1
    rw [h2] at HF2
    obtain ⟨sx, hsx⟩ : ∃ sx, sx = (sg x && decide (mg x ≠ 0)) := ⟨_, rfl⟩
    obtain ⟨sy, hsy⟩ : ∃ sy, sy = (sg y && decide (mg y ≠ 0)) := ⟨_, rfl⟩
    have HFX := Lib.hid (fun w => frombits_any x w hx)
    have HFY := Lib.hid (fun w => frombits_any y w hy)
    rw [← hsx] at HFX
    rw [← hsy] at HFY
    have HRM := Lib.hid (fun A l c B k d C l' c' F k' d' w1 (h1 : RatAt w1 A l c B k d (fbN x) (fbD x)) (h2 : RatAt w1 C l' c' F k' d' (fbN y) (fbD y)) => rmul_dr (w := w1) hsx hsy h1 h2)
    have HRA := Lib.hid (fun s2 N2 D2 C l' c' F k' d' w1 (hd2 : DR (sv x * sv y) s2 N2 D2) (h1 : RatAt w1 A l c B k d N D) (h2 : RatAt w1 C l' c' F k' d' N2 D2) => radd_dr4 (w := w1) h hd2 (by omega) hV h1 h2)
    clear e ho ho2 h1 h2 hV hsx hsy ht1 hn1 h hr hT ht hx hy
    go_enter Tryz.func23, Tryz.ntmps23
    go_upto_region 3 with (first | ((with_reducible refine at_box ?_); refine own_box (cs := [.bool s, .slice A l c, .slice B k d, .bool Z.p, .bool Z.m, .bool Z.n, .int .u64 (Z.t : Int)]) hO rfl rfl ?_; clear hO; intro g wa hO; clear hf; have hf := hO.cells; simp only [BC, CC, Nat.zero_add, Nat.reduceAdd, and_true] at hf) | ((with_reducible refine at_alloc ?_); refine own_alloc hO zero_ds rfl rfl ?_; clear hO; intro gr wb hO; clear hf; have hf := hO.cells; simp only [BC, CC, Nat.zero_add, Nat.reduceAdd, and_true] at hf) | (go_at_call 59; (with_reducible refine (HF1.out _).mono ?_); rintro e w5 ⟨rfl, rfl⟩) | (go_at_call 59; (with_reducible refine (HF2.out _).mono ?_); rintro e w5 ⟨rfl, rfl⟩) | (go_at_call 52; (with_reducible refine (HM.out _).mono ?_); rintro e w3 ⟨rfl, hE⟩; have hO := hO.ext hE; clear hE; clear hf; have hf := hO.cells; simp only [BC, CC, Nat.zero_add, Nat.reduceAdd, and_true] at hf) | ((with_reducible refine at_store (T := 40) ?_); refine own_store (vs := [.bool s, .slice A l c, .slice B k d, .bool Z.p, .bool Z.m, .bool n1, .int .u64 (t1 : Int)]) (T := 40) hO 1 rfl rfl rfl size_ds rfl rfl rfl ?_; clear hO; intro w4 hO; simp only [List.set_cons_zero, List.set_cons_succ, spl, List.take_succ_cons, List.take_zero, List.nil_append, List.cons_append, List.length_cons, List.length_nil, List.drop_succ_cons, List.drop_zero, List.drop_nil, Nat.reduceAdd, Nat.zero_add, List.append_nil] at hO; clear hf; have hf := hO.cells; simp only [BC, CC, Nat.zero_add, Nat.reduceAdd, and_true] at hf))
    obtain ⟨S, hS⟩ : ∃ S : World → Prop, S = Own w [⟨gr, 40, [.bool false, .slice none 0 0, .slice none 0 0, .bool false, .bool false, .bool false, .int .u64 0]⟩, ⟨g, 40, [.bool s, .slice A l c, .slice B k d, .bool Z.p, .bool Z.m, .bool n1, .int .u64 (t1 : Int)]⟩] [⟨B, k, d, nd D⟩, ⟨A, l, c, nd N⟩] := ⟨_, rfl⟩
    have hSE : ∀ w w', S w → Ext w w' → S w' := fun w w' h1 h2 => by rw [hS] at h1 ⊢; exact h1.ext h2
    have hS1 : S w4.drew := by rw [hS]; exact hO.ext (Ext.refl w4).drew
    have HS := Lib.hid hS
    clear hS hO hf
    obtain ⟨sp, hsp⟩ : ∃ sp : Nat → Sp, sp = ofList [det (.pointer (some ⟨g, 0, none⟩)), det (.agg #[.bool s, .slice A l c, .slice B k d]), det (.int .u64 (x : Int)), anyOf (fun v wz => ∃ A l c B k d, v = .agg #[.bool sx, .slice A l c, .slice B k d] ∧ RatAt wz A l c B k d (fbN x) (fbD x)), det (.int .u64 (y : Int)), anyOf (fun v wz => ∃ A l c B k d, v = .agg #[.bool sy, .slice A l c, .slice B k d] ∧ RatAt wz A l c B k d (fbN y) (fbD y)), anyOf (AtDR (sv x * sv y))] := ⟨_, rfl⟩
    have HSP := Lib.hid hsp
    clear hsp
    refine wp_region_loose 7 S sp (by kernel_rfl) (by kernel_rfl) hS1 hSE ?_
    simp only [List.take_succ_cons, List.take_zero, List.drop_succ_cons, List.drop_zero]
    iterate 3
      refine wpX_step (fun K hK => ?_)
      go_simp
      refine StepY.det (by rw [HSP.out]; rfl) ?_ ?_
      · intro wz hz hF
        rw [HS.out] at hz
        have hf := hz.cells
        simp only [BC, CC, Nat.zero_add, Nat.reduceAdd, and_true] at hf
        clear hz hF
        go_simp
        exact ⟨rfl, Ext.refl _⟩
      refine hK _ _ ?_
      clear hK K
    refine wpX_step (fun K hK => ?_)
    go_simp
    refine StepY.any (by rw [HSP.out]; rfl) ?_ ?_
    · intro wz hz hF
      clear hz hF
      go_simp
      refine (HFX.out _).mono ?_
      rintro e w2 ⟨A2, n2, c2, B2, k2, d2, rfl, hA2, hB2, hE2⟩
      exact ⟨_, rfl, ⟨A2, n2, c2, B2, k2, d2, rfl, hA2, hB2⟩, hE2⟩
    intro v1
    refine hK _ _ ?_
    clear hK K
    refine wpX_step (fun K hK => ?_)
    go_simp
    refine StepY.det (by rw [HSP.out]; rfl) ?_ ?_
    · intro wz hz hF
      clear hz hF
      go_simp
      exact ⟨rfl, Ext.refl _⟩
    refine hK _ _ ?_
    clear hK K
    refine wpX_step (fun K hK => ?_)
    go_simp
    refine StepY.any (by rw [HSP.out]; rfl) ?_ ?_
    · intro wz hz hF
      clear hz hF
      go_simp
      refine (HFY.out _).mono ?_
      rintro e w2 ⟨A2, n2, c2, B2, k2, d2, rfl, hA2, hB2, hE2⟩
      exact ⟨_, rfl, ⟨A2, n2, c2, B2, k2, d2, rfl, hA2, hB2⟩, hE2⟩
    intro v2
    refine hK _ _ ?_
    clear hK K
    refine wpX_step (fun K hK => ?_)
    go_simp
    refine StepY.any (by rw [HSP.out]; rfl) ?_ ?_
    · intro wz hz hF
      obtain ⟨wa', ea, A5, n5, c5, B5, k5, d5, hv1, hw1⟩ := hF.any 3 (by kernel_rfl) (by rw [HSP.out]; rfl)
      obtain ⟨wb', eb, A6, n6, c6, B6, k6, d6, hv2, hw2⟩ := hF.any 5 (by kernel_rfl) (by rw [HSP.out]; rfl)
      clear hz hF
      simp only [asFun, List.nil_append, List.cons_append, List.getD_cons_succ, List.getD_cons_zero] at hv1 hv2
      subst hv1 hv2
      go_simp
      refine (HRM.out _ _ _ _ _ _ _ _ _ _ _ _ _ (hw1.ext ea) (hw2.ext eb)).mono ?_
      rintro e w2 ⟨s2, N2, D2, A2, n2, c2, B2, k2, d2, rfl, hq2, hA2, hE2⟩
      exact ⟨_, rfl, ⟨s2, N2, D2, A2, n2, c2, B2, k2, d2, rfl, hq2, hA2⟩, hE2⟩
    intro v3
    refine hK _ _ ?_
    clear hK K
    refine wpX_nil ?_
    intro wq hz hF
    obtain ⟨wa', ea, s2, N2, D2, A2, l2, c2, B2, k2, d2, hv6, HD2, hR2⟩ := fact_any (hF 6 (by omega)) (by rw [HSP.out]; rfl)
    clear hF
    simp only [asFun, List.nil_append, List.cons_append, List.getD_cons_succ, List.getD_cons_zero] at hv6
    subst hv6
    rw [HS.out] at hz
    have hO := hz
    clear hz HS HSP
    have hf := hO.cells
    simp only [BC, CC, Nat.zero_add, Nat.reduceAdd, and_true] at hf
    go_wp2_with fail
    refine (HRA.out _ _ _ _ _ _ _ _ _ _ HD2.out ⟨hO.wd 1 rfl, hO.wd 0 rfl⟩ (hR2.ext ea)).mono ?_
    rintro e w9 ⟨s9, N9, D9, A9, l9, c9, B9, k9, d9, rfl, HD9, hR9, hE9⟩
    have hO := ((hO.ext hE9).add hR9.1).add hR9.2
    clear hR9 hE9 hR2 ea
    clear hf
    have hf := hO.cells
    simp only [BC, CC, Nat.zero_add, Nat.reduceAdd, and_true] at hf
    go_wp2_with (first | ((with_reducible refine at_store (T := 38) ?_); refine own_store (vs := [.bool s9, .slice A9 l9 c9, .slice B9 k9 d9]) (T := 38) hO 1 rfl rfl rfl size_rat rfl rfl rfl ?_; clear hO; intro w10 hO; simp only [List.set_cons_zero, List.set_cons_succ, spl, List.take_succ_cons, List.take_zero, List.nil_append, List.cons_append, List.length_cons, List.length_nil, List.drop_succ_cons, List.drop_zero, List.drop_nil, Nat.reduceAdd, Nat.zero_add, List.append_nil] at hO; clear hf; have hf := hO.cells; simp only [BC, CC, Nat.zero_add, Nat.reduceAdd, and_true] at hf) | ((with_reducible refine at_store (T := 40) ?_); refine own_store (vs := [.bool s9, .slice A9 l9 c9, .slice B9 k9 d9, .bool Z.p, .bool Z.m, .bool n1, .int .u64 (t1 : Int)]) (T := 40) hO 0 rfl rfl rfl size_ds rfl rfl rfl ?_; clear hO; intro w11 hO; simp only [List.set_cons_zero, List.set_cons_succ, spl, List.take_succ_cons, List.take_zero, List.nil_append, List.cons_append, List.length_cons, List.length_nil, List.drop_succ_cons, List.drop_zero, List.drop_nil, Nat.reduceAdd, Nat.zero_add, List.append_nil] at hO; clear hf; have hf := hO.cells; simp only [BC, CC, Nat.zero_add, Nat.reduceAdd, and_true] at hf))
    exact own_ret hO 0 rfl rfl rfl agg_ds size_ds rfl ⟨s9, N9, D9, A9, l9, c9, B9, k9, d9, rfl, HD9, ⟨hO.wd 1 rfl, hO.wd 0 rfl⟩, hO.toExt⟩
end
end Go.Proofs.YtfbjeifhpmdjaaaGreat

/-
  The contracts of the document's sums, fourth part: State, Round. Conditions: those that each theorem names.
-/
namespace Go.Proofs.YtfbjeifhpmdjaaaGreat
open Go.RowKit Nm Rn
set_option maxRecDepth 100000
set_option linter.unusedVariables false
set_option linter.unusedSimpArgs false

section
variable {w : World} {A B : Option Addr} {l c k d N D t : Nat} {s p m n : Bool}
set_option maxHeartbeats 4000000 in
theorem dstate_any : Calls Tryz.prog 37 #[dsV s A l c B k d p m n t] w fun e w' => e = .returned (.int .i64 (stt p m n)) ∧ Ext w w' := by
  have hO := Own.start w
  have hf : True := trivial
  cases p <;> cases m <;> cases n
  all_goals
    go_enter Tryz.func37, Tryz.ntmps37
    go_wp2_with (first | ((with_reducible refine at_box ?_); refine own_box (cs := [.bool s, .slice A l c, .slice B k d, .bool true, .bool true, .bool true, .int .u64 (t : Int)]) hO rfl rfl ?_; clear hO; intro g wa hO; clear hf; have hf := hO.cells; simp only [BC, CC, Nat.zero_add, Nat.reduceAdd, and_true] at hf) | ((with_reducible refine at_box ?_); refine own_box (cs := [.bool s, .slice A l c, .slice B k d, .bool true, .bool true, .bool false, .int .u64 (t : Int)]) hO rfl rfl ?_; clear hO; intro g wa hO; clear hf; have hf := hO.cells; simp only [BC, CC, Nat.zero_add, Nat.reduceAdd, and_true] at hf) | ((with_reducible refine at_box ?_); refine own_box (cs := [.bool s, .slice A l c, .slice B k d, .bool true, .bool false, .bool true, .int .u64 (t : Int)]) hO rfl rfl ?_; clear hO; intro g wa hO; clear hf; have hf := hO.cells; simp only [BC, CC, Nat.zero_add, Nat.reduceAdd, and_true] at hf) | ((with_reducible refine at_box ?_); refine own_box (cs := [.bool s, .slice A l c, .slice B k d, .bool true, .bool false, .bool false, .int .u64 (t : Int)]) hO rfl rfl ?_; clear hO; intro g wa hO; clear hf; have hf := hO.cells; simp only [BC, CC, Nat.zero_add, Nat.reduceAdd, and_true] at hf) | ((with_reducible refine at_box ?_); refine own_box (cs := [.bool s, .slice A l c, .slice B k d, .bool false, .bool true, .bool true, .int .u64 (t : Int)]) hO rfl rfl ?_; clear hO; intro g wa hO; clear hf; have hf := hO.cells; simp only [BC, CC, Nat.zero_add, Nat.reduceAdd, and_true] at hf) | ((with_reducible refine at_box ?_); refine own_box (cs := [.bool s, .slice A l c, .slice B k d, .bool false, .bool true, .bool false, .int .u64 (t : Int)]) hO rfl rfl ?_; clear hO; intro g wa hO; clear hf; have hf := hO.cells; simp only [BC, CC, Nat.zero_add, Nat.reduceAdd, and_true] at hf) | ((with_reducible refine at_box ?_); refine own_box (cs := [.bool s, .slice A l c, .slice B k d, .bool false, .bool false, .bool true, .int .u64 (t : Int)]) hO rfl rfl ?_; clear hO; intro g wa hO; clear hf; have hf := hO.cells; simp only [BC, CC, Nat.zero_add, Nat.reduceAdd, and_true] at hf) | ((with_reducible refine at_box ?_); refine own_box (cs := [.bool s, .slice A l c, .slice B k d, .bool false, .bool false, .bool false, .int .u64 (t : Int)]) hO rfl rfl ?_; clear hO; intro g wa hO; clear hf; have hf := hO.cells; simp only [BC, CC, Nat.zero_add, Nat.reduceAdd, and_true] at hf))
    go_ret
    exact ⟨rfl, hO.toExt⟩
set_option maxHeartbeats 4000000 in
theorem dends_any (st : Int) (hst : stt p m n = st) (hs : st = 1 ∨ st = -1 ∨ st = 2) : Calls Tryz.prog 40 #[dsV s A l c B k d p m n t] w fun e w' => e = .returned (.int .u64 ((if st = 1 then infR else if st = -1 then minf else NaNc : Nat) : Int)) ∧ Ext w w' := by
  have HST := Lib.hid (fun w => dstate_any (w := w) (s := s) (A := A) (l := l) (c := c) (B := B) (k := k) (d := d) (p := p) (m := m) (n := n) (t := t))
  rw [hst] at HST
  clear hst
  have hO := Own.start w
  have hf : True := trivial
  rcases hs with rfl | rfl | rfl
  all_goals
    go_enter Tryz.func40, Tryz.ntmps40
    go_wp2_with (first | ((with_reducible refine at_box ?_); refine own_box (cs := [.bool s, .slice A l c, .slice B k d, .bool p, .bool m, .bool n, .int .u64 (t : Int)]) hO rfl rfl ?_; clear hO; intro g wa hO; clear hf; have hf := hO.cells; simp only [BC, CC, Nat.zero_add, Nat.reduceAdd, and_true] at hf) | (go_at_call 37; (with_reducible refine (HST.out _).mono ?_); rintro e w5 ⟨rfl, hE⟩; have hO := hO.ext hE; clear hE; clear hf; have hf := hO.cells; simp only [BC, CC, Nat.zero_add, Nat.reduceAdd, and_true] at hf))
    go_ret
    exact ⟨rfl, hO.toExt⟩
set_option maxHeartbeats 4000000 in
theorem dround_any (Z : Sm) (dd : Int) (hT : nw Z.T.natAbs ≤ 1000) (h : DR Z.T s N D) (hr : RatAt w A l c B k d N D) :
    Calls Tryz.prog 13 #[dsV s A l c B k d Z.p Z.m Z.n Z.t, .int .i64 dd] w fun e w' => e = .returned (.int .u64 (Z.round dd : Nat)) ∧ Ext w w' := by
  have hO := ((Own.start w).add hr.1).add hr.2
  have hf : True := trivial
  have HST := Lib.hid (fun w => dstate_any (w := w) (s := s) (A := A) (l := l) (c := c) (B := B) (k := k) (d := d) (p := Z.p) (m := Z.m) (n := Z.n) (t := Z.t))
  have hcs := stt_cases Z.p Z.m Z.n
  obtain ⟨st, hst⟩ : ∃ st, st = stt Z.p Z.m Z.n := ⟨_, rfl⟩
  rw [← hst] at HST hcs
  have hzs : Z.state = st := hst.symm
  by_cases h0 : st = 0
  · have HR : Hid (Z.round dd = rT dd Z.T) := Lib.hid (by unfold Sm.round; rw [hzs, if_neg (by simp [h0])])
    have h1 := h.nwN
    have h2 := h.nwD
    have HB := Lib.hid (fun w1 (hr1 : RatAt w1 A l c B k d N D) => bits3_any dd s A l c B k d N D w1 hr1 (by omega) (by omega) (Nat.ne_of_gt h.pos))
    rw [h.rnd, ← HR.out] at HB
    subst h0
    clear hcs hzs hst h1 h2 h hr hT
    generalize Z.round dd = V at *
    go_enter Tryz.func13, Tryz.ntmps13
    go_wp2_with (first | ((with_reducible refine at_box ?_); refine own_box (cs := [.bool s, .slice A l c, .slice B k d, .bool Z.p, .bool Z.m, .bool Z.n, .int .u64 (Z.t : Int)]) hO rfl rfl ?_; clear hO; intro g wa hO; clear hf; have hf := hO.cells; simp only [BC, CC, Nat.zero_add, Nat.reduceAdd, and_true] at hf) | (go_at_call 37; (with_reducible refine (HST.out _).mono ?_); rintro e w5 ⟨rfl, hE⟩; have hO := hO.ext hE; clear hE; clear hf; have hf := hO.cells; simp only [BC, CC, Nat.zero_add, Nat.reduceAdd, and_true] at hf))
    refine (HB.out _ ⟨hO.wd 1 rfl, hO.wd 0 rfl⟩).mono ?_
    rintro e w6 ⟨rfl, hE⟩
    have hO := hO.ext hE
    clear hE
    go_wp2_with fail
    go_ret
    exact ⟨rfl, hO.toExt⟩
  · have HEN := Lib.hid (fun w => dends_any (w := w) (s := s) (A := A) (l := l) (c := c) (B := B) (k := k) (d := d) (p := Z.p) (m := Z.m) (n := Z.n) (t := Z.t) st hst.symm (by omega))
    have HR : Hid (Z.round dd = if st = 1 then infR else if st = -1 then minf else NaNc) := Lib.hid (by unfold Sm.round Sm.ends; rw [hzs, if_pos h0])
    rw [← HR.out] at HEN
    have q1 : (st == 0) = false := by rw [beq_eq_false_iff_ne]; exact h0
    have q2 : (!(st == 0)) = true := by rw [q1]; rfl
    have q3 : (st != 0) = true := by rw [bne, q1]; rfl
    generalize Z.round dd = V at *
    clear hcs hzs hst h hr hT HR
    go_enter Tryz.func13, Tryz.ntmps13
    go_wp2_with (first | ((with_reducible refine at_box ?_); refine own_box (cs := [.bool s, .slice A l c, .slice B k d, .bool Z.p, .bool Z.m, .bool Z.n, .int .u64 (Z.t : Int)]) hO rfl rfl ?_; clear hO; intro g wa hO; clear hf; have hf := hO.cells; simp only [BC, CC, Nat.zero_add, Nat.reduceAdd, and_true] at hf) | (go_at_call 37; (with_reducible refine (HST.out _).mono ?_); rintro e w5 ⟨rfl, hE⟩; have hO := hO.ext hE; clear hE; clear hf; have hf := hO.cells; simp only [BC, CC, Nat.zero_add, Nat.reduceAdd, and_true] at hf) | (go_at_call 40; (with_reducible refine (HEN.out _).mono ?_); rintro e w6 ⟨rfl, hE⟩; have hO := hO.ext hE; clear hE))
    go_ret
    exact ⟨rfl, hO.toExt⟩
end
end Go.Proofs.YtfbjeifhpmdjaaaGreat
