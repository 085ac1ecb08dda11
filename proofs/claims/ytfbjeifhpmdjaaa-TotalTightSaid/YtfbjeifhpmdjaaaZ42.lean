/-
  The walk of TotalTight. Conditions: those that each theorem names.
-/
import Derived.Test.YtfbjeifhpmdjaaaZ41
import Derived.Test.YtfbjeifhpmdjaaaZ05
namespace Go.Proofs.Ytfbjeifhpmdjaaa
open Go.RowKit Nm Rn
set_option maxRecDepth 100000
set_option linter.unusedVariables false
set_option linter.unusedSimpArgs false

set_option maxHeartbeats 16000000 in
theorem tight_a (A : Option Addr) (n c : Nat) (ts : List Tm) (y : Int) (w : World) (h : Trs w A n c ts) (hy1 : -9223372036854775808 ≤ y) (hy2 : y < 9223372036854775808) (hk : 1000 < n) :
    Calls Try.prog 4 #[.slice A n c, .int .i64 y] w fun e w' => e = .returned (.bool true) ∧ Ext w w' := by
  have HT := Lib.hid h
  have hn63 := h.small
  have hts := h.2.2.2.1
  have hlen := h.len
  clear h
  have HL := Lib.hid (fun w => lives4_any w)
  have HBT := Lib.hid (fun r w h => bits4_any r w h)
  have HI0 : Hid (∀ w, Calls Try.prog 21 #[.int .i64 0] w (RetR false 0 1 w)) := Lib.hid (fun w => int_any 0 w (by omega))
  have HOK := Lib.hid (fun i => tgS_ok (ts := ts) hts i)
  have HNWK := Lib.hid (fun i (hi : i ≤ 3000) => tgS_nw (ts := ts) hts (K := i) hi)
  have HSTK := Lib.hid (tgS_state (ts := ts) (K := 1000) (by omega))
  have HSM := Lib.hid hn63
  obtain ⟨m, hm⟩ : ∃ m : Nat, m = if y < 1 then 7 else y.toNat := ⟨_, rfl⟩
  have hm0 : 0 < m := by rw [hm]; split <;> omega
  have hm1 : m < 9223372036854775808 := by rw [hm]; split <;> omega
  have hmy : (decide (y < 1) = true ∧ (m : Int) = 7) ∨ (decide (y < 1) = false ∧ (m : Int) = y) := by
    rcases Int.lt_or_le y 1 with h1 | h1
    · left; refine ⟨decide_eq_true h1, ?_⟩; rw [hm, if_pos h1]; rfl
    · right; refine ⟨decide_eq_false (by omega), ?_⟩; rw [hm, if_neg (by omega)]; omega
  have HMY := Lib.hid hmy
  have HM0 := Lib.hid hm0
  have HM1 := Lib.hid hm1
  have HIM := Lib.hid (fun w => int_any m w hm1)
  have q1 : decide (1000 < (n : Int)) = true := decide_eq_true (by omega)
  clear hts hm hmy hm0 hm1 hy1 hy2
  have hf : True := trivial
  have hO := Own.start w
  go_enter Try.func4, Try.ntmps4
  go_wp2_with (first | (go_at_call 9; (with_reducible refine (HL.out _).mono ?_); rintro e w1 ⟨rfl, hE⟩; have hO := hO.ext hE; clear hE) | (go_at_call 10; (with_reducible refine (tnew_any hO).mono ?_); rintro e w2 ⟨g, rfl, hO2⟩; clear hO; have hO := hO2; clear hO2) | (go_at_call 21; (with_reducible refine (HI0.out _).mono ?_); rintro e w3 ⟨A0, l0, c0, B0, k0, d0, rfl, hA0, hB0, hE⟩; have hO := ((hO.ext hE).add hA0).add hB0; clear hE hA0 hB0) | ((with_reducible refine at_alloc ?_); refine own_alloc hO zero_rat rfl rfl ?_; clear hO; intro g6 wa hO; clear hf; have hf := hO.cells; simp only [BC, CC, Nat.zero_add, Nat.reduceAdd, and_true] at hf) | ((with_reducible refine at_store (T := 43) ?_); refine own_store (vs := [.bool false, .slice A0 l0 c0, .slice B0 k0 d0]) (T := 43) hO 0 rfl rfl rfl size_rat rfl rfl rfl ?_; clear hO; intro wb hO; simp only [List.set_cons_zero, List.set_cons_succ, spl, List.take_succ_cons, List.take_zero, List.nil_append, List.cons_append, List.length_cons, List.length_nil, List.drop_succ_cons, List.drop_zero, List.drop_nil, Nat.reduceAdd, Nat.zero_add, List.append_nil] at hO; clear hf; have hf := hO.cells; simp only [BC, CC, Nat.zero_add, Nat.reduceAdd, and_true] at hf))
  go_loopw [8] (fun kv wr => ∃ i : Nat, kv = .int .i64 (i : Int) ∧ i ≤ 1000 ∧ ∃ (sq : Bool) (Nq Dq : Nat) (A6 : Option Addr) (l6 c6 : Nat) (B6 : Option Addr) (k6 d6 : Nat), Hid (DR (tgS ts i).T sq Nq Dq) ∧ Own w [⟨g, 36, (tgS ts i).cs⟩, ⟨g6, 43, [.bool sq, .slice A6 l6 c6, .slice B6 k6 d6]⟩] [⟨B6, k6, d6, nd Dq⟩, ⟨A6, l6, c6, nd Nq⟩] wr) (fun kv _ => 1000 - (intOf kv).toNat)
  case atStart =>
    refine ⟨0, rfl, Nat.zero_le _, false, _, _, _, _, _, _, _, _, Lib.hid ?_, hO.swap⟩
    exact DR.nil
  case round =>
    obtain ⟨i, rfl, hiK, sq, Nq, Dq, A6, l6, c6, B6, k6, d6, HDR, hOr⟩ := hrel
    clear hO hf
    by_cases hlt : i < 1000
    · have hO := hOr
      clear hOr
      obtain ⟨ad, X, Y, b, rfl, hq, lX, lY, _, _, _⟩ := HT.out.at_ (show i < n by omega)
      obtain ⟨p, hp⟩ : ∃ p, ad.add (i * 3) = p := ⟨_, rfl⟩
      have HCELL : Hid (∀ wz, Ext w wz → wz.cell? p = some (.int .u64 (X : Int)) ∧ wz.cell? ⟨p.block, p.off + 1, none⟩ = some (.int .u64 (Y : Int)) ∧ wz.cell? ⟨p.block, p.off + 2, none⟩ = some (.bool b)) := Lib.hid (fun wz hz => by
        obtain ⟨ad', X', Y', b', e1, e2, _, _, e3⟩ := (HT.out.ext hz).at_ (show i < n by omega)
        rw [hq] at e2
        injection e2 with e2
        injection e2 with e2 e4
        injection e4 with e4 e5
        injection e1 with e1
        subst e1 e2 e4 e5
        rw [← addr_add2, ← addr_add2, hp] at e3
        exact e3)
      have HNX := Lib.hid (fun w => num4_any X w lX)
      have HNY := Lib.hid (fun w => num4_any Y w lY)
      have lPX := numP_lt lX
      have lPY := numP_lt lY
      have bi0 : (0 : Int) ≤ (i : Int) := by omega
      have bi1 : (i : Int) < (n : Int) := by omega
      have HNW := Lib.hid (HNWK.out i (by omega))
      have HNV := Lib.hid (tval_nw (X, Y, b))
      have HTT : Hid ((tgS ts (i + 1)).T = (tgS ts i).T + tval (X, Y, b)) := Lib.hid (tgS_T hq)
      have HTK : Hid (∀ (L : List Bx) (W : List Sw) w1, Own w (⟨g, 36, (tgS ts i).cs⟩ :: L) W w1 → Calls Try.prog 14 #[.pointer (some ⟨g, 0, none⟩), .agg #[.int .u64 (numP X : Nat), .int .u64 (numP Y : Nat), .bool b]] w1 fun e w' => e = .returned (.tuple #[]) ∧ Own w (⟨g, 36, (tgS ts (i + 1)).cs⟩ :: L) W w') := Lib.hid (fun L W w1 h => by
        have h1 := take4_any (g := g) (tgS ts i) (numP X) (numP Y) b (HOK.out i) lPX lPY h
        have h2 : tgS ts (i + 1) = (tgS ts i).take (numP X) (numP Y) b := tgS_next (q := (X, Y, b)) hq
        rw [h2]
        exact h1)
      have HFX := Lib.hid (fun w => frombits_any (numP X) w lPX)
      have HFY := Lib.hid (fun w => frombits_any (numP Y) w lPY)
      have HV : Hid (tval (X, Y, b) = if b then sv (numP X) * sv (numP Y) else sv (numP X) * (K74 : Int)) := Lib.hid rfl
      generalize numP X = PX at *
      generalize numP Y = PY at *
      obtain ⟨sx, hsx⟩ : ∃ sx, sx = (sg PX && decide (mg PX ≠ 0)) := ⟨_, rfl⟩
      rw [← hsx] at HFX
      obtain ⟨sy, hsy⟩ : ∃ sy, sy = (sg PY && decide (mg PY ≠ 0)) := ⟨_, rfl⟩
      rw [← hsy] at HFY
      have HSX := Lib.hid hsx
      have HSY := Lib.hid hsy
      clear hq lX lY lPX lPY hsx hsy
      have hf : True := trivial
      go_upto_region 11 with fail
      obtain ⟨S, hS⟩ : ∃ S : World → Prop, S = Own w [⟨g, 36, (tgS ts i).cs⟩, ⟨g6, 43, [.bool sq, .slice A6 l6 c6, .slice B6 k6 d6]⟩] [⟨B6, k6, d6, nd Dq⟩, ⟨A6, l6, c6, nd Nq⟩] := ⟨_, rfl⟩
      have hSE : ∀ w w', S w → Ext w w' → S w' := fun w w' h1 h2 => by rw [hS] at h1 ⊢; exact h1.ext h2
      have hS1 : S wr.drew := by rw [hS]; exact hO.ext (Ext.refl wr).drew
      have HS := Lib.hid hS
      clear hS hO hf
      obtain ⟨sp, hsp⟩ : ∃ sp : Nat → Sp, sp = ofList [det (.slice (some ad) n c), det (.int .i64 (i : Int)), det (.pointer (some p)), det (.pointer (some p)), det (.int .u64 (X : Int)), det (.int .u64 (PX : Int)), det (.slice (some ad) n c), det (.int .i64 (i : Int)), det (.pointer (some p)), det (.pointer (some ⟨p.block, p.off + 1, none⟩)), det (.int .u64 (Y : Int)), det (.int .u64 (PY : Int)), det (.slice (some ad) n c), det (.int .i64 (i : Int)), det (.pointer (some p)), det (.pointer (some ⟨p.block, p.off + 2, none⟩)), det (.bool b), det (.agg #[.int .u64 (PX : Int), .int .u64 (PY : Int), .bool b]), anyOf (fun v wz => ∃ gt : Nat, v = .pointer (some ⟨gt, 0, none⟩) ∧ Own w (⟨gt, 33, [.int .u64 0, .int .u64 0, .bool false]⟩ :: [⟨g, 36, (tgS ts i).cs⟩, ⟨g6, 43, [.bool sq, .slice A6 l6 c6, .slice B6 k6 d6]⟩]) [⟨B6, k6, d6, nd Dq⟩, ⟨A6, l6, c6, nd Nq⟩] wz)] := ⟨_, rfl⟩
      have HSP := Lib.hid hsp
      clear hsp
      refine wp_region_loose 19 S sp (by kernel_rfl) (by kernel_rfl) hS1 hSE ?_
      simp only [List.take_succ_cons, List.take_zero, List.drop_succ_cons, List.drop_zero]
      iterate 4
        refine wpX_step (fun K hK => ?_)
        go_simp
        refine StepY.det (by rw [HSP.out]; rfl) ?_ ?_
        · intro wz hz hF
          clear hz hF
          go_simp
          exact ⟨rfl, Ext.refl _⟩
        refine hK _ _ ?_
        clear hK K
      refine wpX_step (fun K hK => ?_)
      go_simp
      refine StepY.det (by rw [HSP.out]; rfl) ?_ ?_
      · intro wz hz hF
        rw [HS.out] at hz
        obtain ⟨c1, c2, c3⟩ := HCELL.out _ hz.toExt
        clear hz hF
        go_simp
        exact ⟨rfl, Ext.refl _⟩
      refine hK _ _ ?_
      clear hK K
      refine wpX_step (fun K hK => ?_)
      go_simp
      refine StepY.det (by rw [HSP.out]; rfl) ?_ ?_
      · intro wz hz hF
        clear hz hF
        go_simp
        refine (HNX.out _).mono ?_
        rintro e w5 ⟨rfl, rfl⟩
        exact ⟨_, rfl, rfl, Ext.refl _⟩
      refine hK _ _ ?_
      clear hK K
      iterate 4
        refine wpX_step (fun K hK => ?_)
        go_simp
        refine StepY.det (by rw [HSP.out]; rfl) ?_ ?_
        · intro wz hz hF
          clear hz hF
          go_simp
          exact ⟨rfl, Ext.refl _⟩
        refine hK _ _ ?_
        clear hK K
      refine wpX_step (fun K hK => ?_)
      go_simp
      refine StepY.det (by rw [HSP.out]; rfl) ?_ ?_
      · intro wz hz hF
        rw [HS.out] at hz
        obtain ⟨c1, c2, c3⟩ := HCELL.out _ hz.toExt
        clear hz hF
        go_simp
        exact ⟨rfl, Ext.refl _⟩
      refine hK _ _ ?_
      clear hK K
      refine wpX_step (fun K hK => ?_)
      go_simp
      refine StepY.det (by rw [HSP.out]; rfl) ?_ ?_
      · intro wz hz hF
        clear hz hF
        go_simp
        refine (HNY.out _).mono ?_
        rintro e w5 ⟨rfl, rfl⟩
        exact ⟨_, rfl, rfl, Ext.refl _⟩
      refine hK _ _ ?_
      clear hK K
      iterate 4
        refine wpX_step (fun K hK => ?_)
        go_simp
        refine StepY.det (by rw [HSP.out]; rfl) ?_ ?_
        · intro wz hz hF
          clear hz hF
          go_simp
          exact ⟨rfl, Ext.refl _⟩
        refine hK _ _ ?_
        clear hK K
      refine wpX_step (fun K hK => ?_)
      go_simp
      refine StepY.det (by rw [HSP.out]; rfl) ?_ ?_
      · intro wz hz hF
        rw [HS.out] at hz
        obtain ⟨c1, c2, c3⟩ := HCELL.out _ hz.toExt
        clear hz hF
        go_simp
        exact ⟨rfl, Ext.refl _⟩
      refine hK _ _ ?_
      clear hK K
      refine wpX_step (fun K hK => ?_)
      go_simp
      refine StepY.det (by rw [HSP.out]; rfl) ?_ ?_
      · intro wz hz hF
        clear hz hF
        go_simp
        exact ⟨rfl, Ext.refl _⟩
      refine hK _ _ ?_
      clear hK K
      refine wpX_step (fun K hK => ?_)
      go_simp
      refine StepY.any (by rw [HSP.out]; rfl) ?_ ?_
      · intro wz hz hF
        rw [HS.out] at hz
        clear hF
        exact gives_alloc hz rfl zero_term rfl rfl
      intro v1
      refine hK _ _ ?_
      clear hK K
      refine wpX_nil ?_
      intro wq hz hF
      obtain ⟨wa', ea, gt, hv18, hOt⟩ := fact_any (hF 18 (by omega)) (by rw [HSP.out]; rfl)
      clear hF
      simp only [asFun, List.nil_append, List.cons_append, List.getD_cons_succ, List.getD_cons_zero] at hv18
      subst hv18
      clear hz HS HSP
      have hO := hOt.ext ea
      clear hOt ea
      have hf := hO.cells
      simp only [BC, CC, Nat.zero_add, Nat.reduceAdd, and_true] at hf
      go_wp2_with ((with_reducible refine at_store (T := 33) ?_); refine own_store (vs := [.int .u64 (PX : Int), .int .u64 (PY : Int), .bool b]) (T := 33) hO 0 rfl rfl rfl size_term rfl rfl rfl ?_; clear hO; intro wb hO; simp only [List.set_cons_zero, List.set_cons_succ, spl, List.take_succ_cons, List.take_zero, List.nil_append, List.cons_append, List.length_cons, List.length_nil, List.drop_succ_cons, List.drop_zero, List.drop_nil, Nat.reduceAdd, Nat.zero_add, List.append_nil] at hO; clear hf; have hf := hO.cells; simp only [BC, CC, Nat.zero_add, Nat.reduceAdd, and_true] at hf)
      refine (HTK.out _ _ _ hO.swap).mono ?_
      rintro e w3 ⟨rfl, hO2⟩
      clear hO
      have hO := hO2
      clear hO2
      clear hf
      have hf := hO.cells
      simp only [BC, CC, Nat.zero_add, Nat.reduceAdd, and_true] at hf
      go_wp2_with fail
      refine (HFX.out _).mono ?_
      rintro e w4 ⟨A1, n1, c1, B1, k1, d1, rfl, hA1, hB1, hE⟩
      have hO := ((hO.ext hE).add hA1).add hB1
      clear hA1 hB1 hE
      clear hf
      have hf := hO.cells
      simp only [BC, CC, Nat.zero_add, Nat.reduceAdd, and_true] at hf
      cases b
      · have HD2 := Lib.hid (DR.one PX)
        rw [← HSX.out, ← (show tval (X, Y, false) = sv PX * (K74 : Int) from HV.out)] at HD2
        go_wp2_with (first | ((with_reducible refine at_alloc ?_); refine own_alloc hO zero_rat rfl rfl ?_; clear hO; intro g10 wa hO; clear hf; have hf := hO.cells; simp only [BC, CC, Nat.zero_add, Nat.reduceAdd, and_true] at hf) | ((with_reducible refine at_store (T := 43) ?_); refine own_store (vs := [.bool sx, .slice A1 n1 c1, .slice B1 k1 d1]) (T := 43) hO 0 rfl rfl rfl size_rat rfl rfl rfl ?_; clear hO; intro wb hO; simp only [List.set_cons_zero, List.set_cons_succ, spl, List.take_succ_cons, List.take_zero, List.nil_append, List.cons_append, List.length_cons, List.length_nil, List.drop_succ_cons, List.drop_zero, List.drop_nil, Nat.reduceAdd, Nat.zero_add, List.append_nil] at hO; clear hf; have hf := hO.cells; simp only [BC, CC, Nat.zero_add, Nat.reduceAdd, and_true] at hf))
        go_wp2_with fail
        refine (radd_dr (T := (tgS ts i).T) (V := tval (X, Y, _)) HDR.out HD2.out HNW.out HNV.out ⟨hO.wd 3 rfl, hO.wd 2 rfl⟩ ⟨hO.wd 1 rfl, hO.wd 0 rfl⟩).mono ?_
        rintro e w9 ⟨s9, N9, D9, A9, l9, c9, B9, k9, d9, rfl, HD9, hR9, hE9⟩
        have hO := ((hO.ext hE9).add hR9.1).add hR9.2
        clear hR9 hE9
        rw [← HTT.out] at HD9
        clear hf
        have hf := hO.cells
        simp only [BC, CC, Nat.zero_add, Nat.reduceAdd, and_true] at hf
        go_wp2_with ((with_reducible refine at_store (T := 43) ?_); refine own_store (vs := [.bool s9, .slice A9 l9 c9, .slice B9 k9 d9]) (T := 43) hO 3 rfl rfl rfl size_rat rfl rfl rfl ?_; clear hO; intro wc hO; simp only [List.set_cons_zero, List.set_cons_succ, spl, List.take_succ_cons, List.take_zero, List.nil_append, List.cons_append, List.length_cons, List.length_nil, List.drop_succ_cons, List.drop_zero, List.drop_nil, Nat.reduceAdd, Nat.zero_add, List.append_nil] at hO; clear hf; have hf := hO.cells; simp only [BC, CC, Nat.zero_add, Nat.reduceAdd, and_true] at hf)
        go_roundw
        case rel => exact ⟨i + 1, by go_num, by omega, s9, N9, D9, A9, l9, c9, B9, k9, d9, HD9, (hO.sub ((((List.Sublist.slnil.cons_cons _).cons _).cons_cons _).cons _)).forget (fun s hs => List.mem_of_mem_take (i := 2) hs)⟩
        case measure => simp [intOf]; omega
      · go_wp2_with (first | ((with_reducible refine at_alloc ?_); refine own_alloc hO zero_rat rfl rfl ?_; clear hO; intro g10 wa hO; clear hf; have hf := hO.cells; simp only [BC, CC, Nat.zero_add, Nat.reduceAdd, and_true] at hf) | ((with_reducible refine at_store (T := 43) ?_); refine own_store (vs := [.bool sx, .slice A1 n1 c1, .slice B1 k1 d1]) (T := 43) hO 0 rfl rfl rfl size_rat rfl rfl rfl ?_; clear hO; intro wb hO; simp only [List.set_cons_zero, List.set_cons_succ, spl, List.take_succ_cons, List.take_zero, List.nil_append, List.cons_append, List.length_cons, List.length_nil, List.drop_succ_cons, List.drop_zero, List.drop_nil, Nat.reduceAdd, Nat.zero_add, List.append_nil] at hO; clear hf; have hf := hO.cells; simp only [BC, CC, Nat.zero_add, Nat.reduceAdd, and_true] at hf) | fail)
        obtain ⟨S, hS⟩ : ∃ S : World → Prop, S = Own w [⟨g10, 43, [.bool sx, .slice A1 n1 c1, .slice B1 k1 d1]⟩, ⟨g, 36, (tgS ts (i + 1)).cs⟩, ⟨gt, 33, [.int .u64 (PX : Int), .int .u64 (PY : Int), .bool true]⟩, ⟨g6, 43, [.bool sq, .slice A6 l6 c6, .slice B6 k6 d6]⟩] [⟨B1, k1, d1, nd (fbD PX)⟩, ⟨A1, n1, c1, nd (fbN PX)⟩, ⟨B6, k6, d6, nd Dq⟩, ⟨A6, l6, c6, nd Nq⟩] := ⟨_, rfl⟩
        have hSE : ∀ w w', S w → Ext w w' → S w' := fun w w' h1 h2 => by rw [hS] at h1 ⊢; exact h1.ext h2
        have hS1 : S wb.drew := by rw [hS]; exact hO.ext (Ext.refl wb).drew
        have HS := Lib.hid hS
        clear hS hO hf
        obtain ⟨sp, hsp⟩ : ∃ sp : Nat → Sp, sp = ofList [det (.agg #[.bool sx, .slice A1 n1 c1, .slice B1 k1 d1]), det (.pointer (some ⟨gt, 1, none⟩)), det (.int .u64 (PY : Int)), anyOf (fun v wz => ∃ A l c B k d, v = .agg #[.bool sy, .slice A l c, .slice B k d] ∧ RatAt wz A l c B k d (fbN PY) (fbD PY))] := ⟨_, rfl⟩
        have HSP := Lib.hid hsp
        clear hsp
        refine wp_region_loose 4 S sp (by kernel_rfl) (by kernel_rfl) hS1 hSE ?_
        simp only [List.take_succ_cons, List.take_zero, List.drop_succ_cons, List.drop_zero]
        iterate 3
          refine wpX_step (fun K hK => ?_)
          go_simp
          refine StepY.det (by rw [HSP.out]; rfl) ?_ ?_
          · intro wz hz hF
            rw [HS.out] at hz
            have hf := hz.cells
            simp only [BC, CC, Nat.zero_add, Nat.reduceAdd, and_true] at hf
            clear hz hF
            go_simp
            exact ⟨rfl, Ext.refl _⟩
          refine hK _ _ ?_
          clear hK K
        refine wpX_step (fun K hK => ?_)
        go_simp
        refine StepY.any (by rw [HSP.out]; rfl) ?_ ?_
        · intro wz hz hF
          clear hz hF
          go_simp
          refine (HFY.out _).mono ?_
          rintro e w2 ⟨A2, n2, c2, B2, k2, d2, rfl, hA2, hB2, hE2⟩
          exact ⟨_, rfl, ⟨A2, n2, c2, B2, k2, d2, rfl, hA2, hB2⟩, hE2⟩
        intro v1
        refine hK _ _ ?_
        clear hK K
        refine wpX_nil ?_
        intro wq hz hF
        obtain ⟨wa', ea, A2, n2, c2, B2, k2, d2, hv3, hR2⟩ := fact_any (hF 3 (by omega)) (by rw [HSP.out]; rfl)
        clear hF
        simp only [asFun, List.nil_append, List.cons_append, List.getD_cons_succ, List.getD_cons_zero] at hv3
        subst hv3
        rw [HS.out] at hz
        have hO := hz
        clear hz HS HSP
        have hf := hO.cells
        simp only [BC, CC, Nat.zero_add, Nat.reduceAdd, and_true] at hf
        go_wp2_with fail
        refine (rmul_dr HSX.out HSY.out ⟨hO.wd 1 rfl, hO.wd 0 rfl⟩ (hR2.ext ea)).mono ?_
        rintro e w9 ⟨s3, N3, D3, A3, l3, c3, B3, k3, d3, rfl, HD2, hR9, hE9⟩
        have hO := ((hO.ext hE9).add hR9.1).add hR9.2
        clear hR9 hE9 hR2 ea
        rw [← (show tval (X, Y, true) = sv PX * sv PY from HV.out)] at HD2
        clear hf
        have hf := hO.cells
        simp only [BC, CC, Nat.zero_add, Nat.reduceAdd, and_true] at hf
        go_wp2_with ((with_reducible refine at_store (T := 43) ?_); refine own_store (vs := [.bool s3, .slice A3 l3 c3, .slice B3 k3 d3]) (T := 43) hO 0 rfl rfl rfl size_rat rfl rfl rfl ?_; clear hO; intro wd hO; simp only [List.set_cons_zero, List.set_cons_succ, spl, List.take_succ_cons, List.take_zero, List.nil_append, List.cons_append, List.length_cons, List.length_nil, List.drop_succ_cons, List.drop_zero, List.drop_nil, Nat.reduceAdd, Nat.zero_add, List.append_nil] at hO; clear hf; have hf := hO.cells; simp only [BC, CC, Nat.zero_add, Nat.reduceAdd, and_true] at hf)
        go_wp2_with fail
        refine (radd_dr (T := (tgS ts i).T) (V := tval (X, Y, _)) HDR.out HD2.out HNW.out HNV.out ⟨hO.wd 5 rfl, hO.wd 4 rfl⟩ ⟨hO.wd 1 rfl, hO.wd 0 rfl⟩).mono ?_
        rintro e w9 ⟨s9, N9, D9, A9, l9, c9, B9, k9, d9, rfl, HD9, hR9, hE9⟩
        have hO := ((hO.ext hE9).add hR9.1).add hR9.2
        clear hR9 hE9
        rw [← HTT.out] at HD9
        clear hf
        have hf := hO.cells
        simp only [BC, CC, Nat.zero_add, Nat.reduceAdd, and_true] at hf
        go_wp2_with ((with_reducible refine at_store (T := 43) ?_); refine own_store (vs := [.bool s9, .slice A9 l9 c9, .slice B9 k9 d9]) (T := 43) hO 3 rfl rfl rfl size_rat rfl rfl rfl ?_; clear hO; intro wc hO; simp only [List.set_cons_zero, List.set_cons_succ, spl, List.take_succ_cons, List.take_zero, List.nil_append, List.cons_append, List.length_cons, List.length_nil, List.drop_succ_cons, List.drop_zero, List.drop_nil, Nat.reduceAdd, Nat.zero_add, List.append_nil] at hO; clear hf; have hf := hO.cells; simp only [BC, CC, Nat.zero_add, Nat.reduceAdd, and_true] at hf)
        go_roundw
        case rel => exact ⟨i + 1, by go_num, by omega, s9, N9, D9, A9, l9, c9, B9, k9, d9, HD9, (hO.sub ((((List.Sublist.slnil.cons_cons _).cons _).cons_cons _).cons _)).forget (fun s hs => List.mem_of_mem_take (i := 2) hs)⟩
        case measure => simp [intOf]; omega
    · have hie : i = 1000 := by omega
      have hO := hOr
      rw [hie] at hO HDR
      clear hOr hiK
      obtain ⟨Z, hZ⟩ : ∃ Z, Z = tgS ts 1000 := ⟨_, rfl⟩
      rw [← hZ] at hO HDR
      have hZs : Z.state = 0 := by rw [hZ]; exact HSTK.out
      have hZO : Z.Ok := by rw [hZ]; exact HOK.out _
      have hZn : nw Z.T.natAbs ≤ 136 := by rw [hZ]; exact HNWK.out _ (by omega)
      have HG := Lib.hid (fun w1 h => tsign_any (w0 := w) (w := w1) (L := [⟨g6, 43, [.bool sq, .slice A6 l6 c6, .slice B6 k6 d6]⟩]) (W := [⟨B6, k6, d6, nd Dq⟩, ⟨A6, l6, c6, nd Nq⟩]) (g := g) Z (fun hs => hZO.fit hs) h)
      have HR1 := Lib.hid (fun w1 h => tround_any (w0 := w) (w := w1) (L := [⟨g6, 43, [.bool sq, .slice A6 l6 c6, .slice B6 k6 d6]⟩]) (W := [⟨B6, k6, d6, nd Dq⟩, ⟨A6, l6, c6, nd Nq⟩]) (g := g) Z (-1) (fun hs => hZO.fit hs) h)
      have HR2 := Lib.hid (fun w1 h => tround_any (w0 := w) (w := w1) (L := [⟨g6, 43, [.bool sq, .slice A6 l6 c6, .slice B6 k6 d6]⟩]) (W := [⟨B6, k6, d6, nd Dq⟩, ⟨A6, l6, c6, nd Nq⟩]) (g := g) Z 1 (fun hs => hZO.fit hs) h)
      have hm1 := HM1.out
      have hm0 := HM0.out
      have HO1 := Lib.hid (fun w1 h => tover_any (w0 := w) (w := w1) (L := [⟨g6, 43, [.bool sq, .slice A6 l6 c6, .slice B6 k6 d6]⟩]) (W := [⟨B6, k6, d6, nd Dq⟩, ⟨A6, l6, c6, nd Nq⟩]) (g := g) Z (-1) (m : Int) (by omega) (fun hs => hZO.fit hs) h)
      have HO2 := Lib.hid (fun w1 h => tover_any (w0 := w) (w := w1) (L := [⟨g6, 43, [.bool sq, .slice A6 l6 c6, .slice B6 k6 d6]⟩]) (W := [⟨B6, k6, d6, nd Dq⟩, ⟨A6, l6, c6, nd Nq⟩]) (g := g) Z 1 (m : Int) (by omega) (fun hs => hZO.fit hs) h)
      have hov : ∀ d, Z.over d (m : Int) = qT d Z.T m := fun d => by
        unfold Sm.over
        rw [if_neg (by omega), if_neg (by rw [hZs]; decide)]; rfl
      rw [hov] at HO1 HO2
      rw [round_fin hZs] at HR1 HR2
      rw [sign_fin hZs] at HG
      have HRS := Lib.hid (fun w1 h => rsign_dr (w := w1) (B := B6) (k := k6) (d := d6) (A := A6) (l := l6) (c := c6) HDR.out hZn h)
      have HAB := Lib.hid (fun w1 h => about_dr (w := w1) (B := B6) (k := k6) (d := d6) (A := A6) (l := l6) (c := c6) HDR.out hZn h)
      have HRQ := Lib.hid (fun w1 C l' c' F k' d' h h' => rquo_dr (w := w1) (B := B6) (k := k6) (d := d6) (A := A6) (l := l6) (c := c6) (C := C) (l' := l') (c' := c') (F := F) (k' := k') (d' := d') HDR.out hm0 hm1 hZn h h')
      have HAQ := Lib.hid (fun w1 s N D A l c B k d (hq : QR Z.T m s N D) h => about_q (w := w1) (s := s) (N := N) (D := D) (B := B) (k := k) (d := d) (A := A) (l := l) (c := c) hq h)
      generalize (if Z.T < 0 then (-1 : Int) else if Z.T = 0 then 0 else 1) = z at *
      generalize rT (-1) Z.T = V1 at *
      generalize rT 1 Z.T = V2 at *
      generalize qT (-1) Z.T m = V3 at *
      generalize qT 1 Z.T m = V4 at *
      clear hZ hZs hZO hZn hov hm0 hm1 HOK HNWK HSTK HDR
      have hf : True := trivial
      rcases HMY.out with ⟨u1, u2⟩ | ⟨u1, u2⟩
      · go_upto_region 19 with fail
        rw [← u2]
        clear u1 u2 HMY HSM
        obtain ⟨S, hS⟩ : ∃ S : World → Prop, S = Own w [⟨g, 36, Z.cs⟩, ⟨g6, 43, [.bool sq, .slice A6 l6 c6, .slice B6 k6 d6]⟩] [⟨B6, k6, d6, nd Dq⟩, ⟨A6, l6, c6, nd Nq⟩] := ⟨_, rfl⟩
        have hSE : ∀ w w', S w → Ext w w' → S w' := fun w w' h1 h2 => by rw [hS] at h1 ⊢; exact h1.ext h2
        have hS1 : S wr.drew := by rw [hS]; exact hO.ext (Ext.refl wr).drew
        have HS := Lib.hid hS
        clear hS hO hf
        obtain ⟨sp, hsp⟩ : ∃ sp : Nat → Sp, sp = ofList [det (.pointer (some ⟨g, 0, none⟩)), det (.int .i64 z), det (.agg #[.bool sq, .slice A6 l6 c6, .slice B6 k6 d6]), det (.int .i64 z), det (.bool true), det (.bool true), det (.agg #[.bool sq, .slice A6 l6 c6, .slice B6 k6 d6]), det (.pointer (some ⟨g, 0, none⟩)), anyOf (fun v wz => ∃ r, v = .float .f64 r ∧ r < 18446744073709551616 ∧ cn r = V1), det (.int .u64 (V1 : Int)), det (.pointer (some ⟨g, 0, none⟩)), anyOf (fun v wz => ∃ r, v = .float .f64 r ∧ r < 18446744073709551616 ∧ cn r = V2), det (.int .u64 (V2 : Int)), det (.bool true), det (.bool true), det (.bool true), det (.agg #[.bool sq, .slice A6 l6 c6, .slice B6 k6 d6]), det (.int .i64 (m : Int)), anyOf (fun v wz => ∃ A l c B k d, v = .agg #[.bool false, .slice A l c, .slice B k d] ∧ RatAt wz A l c B k d (fracN m 1 0) (fracD m 1 0)), anyOf (AtQ Z.T m), det (.pointer (some ⟨g, 0, none⟩)), det (.int .i64 (m : Int)), anyOf (fun v wz => ∃ r, v = .float .f64 r ∧ r < 18446744073709551616 ∧ cn r = V3), det (.int .u64 (V3 : Int)), det (.pointer (some ⟨g, 0, none⟩)), det (.int .i64 (m : Int))] := ⟨_, rfl⟩
        have HSP := Lib.hid hsp
        clear hsp
        refine wp_region_loose 26 S sp (by kernel_rfl) (by kernel_rfl) hS1 hSE ?_
        simp only [List.take_succ_cons, List.take_zero, List.drop_succ_cons, List.drop_zero]
        refine wpX_step (fun K hK => ?_)
        go_simp
        refine StepY.det (by rw [HSP.out]; rfl) ?_ ?_
        · intro wz hz hF
          clear hz hF
          go_simp
          exact ⟨rfl, Ext.refl _⟩
        refine hK _ _ ?_
        clear hK K
        refine wpX_step (fun K hK => ?_)
        go_simp
        refine StepY.det (by rw [HSP.out]; rfl) ?_ ?_
        · intro wz hz hF
          rw [HS.out] at hz
          clear hF
          go_simp
          refine (HG.out _ hz).mono ?_
          rintro e w5 ⟨rfl, rfl⟩
          exact ⟨_, rfl, rfl, Ext.refl _⟩
        refine hK _ _ ?_
        clear hK K
        refine wpX_step (fun K hK => ?_)
        go_simp
        refine StepY.det (by rw [HSP.out]; rfl) ?_ ?_
        · intro wz hz hF
          rw [HS.out] at hz
          have hf := hz.tail.cells
          simp only [BC, CC, Nat.zero_add, Nat.reduceAdd, and_true] at hf
          clear hz hF
          go_simp
          exact ⟨rfl, Ext.refl _⟩
        refine hK _ _ ?_
        clear hK K
        refine wpX_step (fun K hK => ?_)
        go_simp
        refine StepY.det (by rw [HSP.out]; rfl) ?_ ?_
        · intro wz hz hF
          rw [HS.out] at hz
          clear hF
          have hR : RatAt wz A6 l6 c6 B6 k6 d6 Nq Dq := ⟨hz.wd 1 rfl, hz.wd 0 rfl⟩
          clear hz
          go_simp
          refine (HRS.out _ hR).mono ?_
          rintro e w5 ⟨rfl, hE⟩
          exact ⟨_, rfl, rfl, hE⟩
        refine hK _ _ ?_
        clear hK K
        iterate 2
          refine wpX_step (fun K hK => ?_)
          go_simp
          refine StepY.det (by rw [HSP.out]; rfl) ?_ ?_
          · intro wz hz hF
            clear hz hF
            go_simp
            exact ⟨rfl, Ext.refl _⟩
          refine hK _ _ ?_
          clear hK K
        refine wpX_step (fun K hK => ?_)
        go_simp
        refine StepY.det (by rw [HSP.out]; rfl) ?_ ?_
        · intro wz hz hF
          rw [HS.out] at hz
          have hf := hz.tail.cells
          simp only [BC, CC, Nat.zero_add, Nat.reduceAdd, and_true] at hf
          clear hz hF
          go_simp
          exact ⟨rfl, Ext.refl _⟩
        refine hK _ _ ?_
        clear hK K
        refine wpX_step (fun K hK => ?_)
        go_simp
        refine StepY.det (by rw [HSP.out]; rfl) ?_ ?_
        · intro wz hz hF
          clear hz hF
          go_simp
          exact ⟨rfl, Ext.refl _⟩
        refine hK _ _ ?_
        clear hK K
        refine wpX_step (fun K hK => ?_)
        go_simp
        refine StepY.any (by rw [HSP.out]; rfl) ?_ ?_
        · intro wz hz hF
          rw [HS.out] at hz
          clear hF
          go_simp
          refine (HR1.out _ hz).mono ?_
          rintro e w2 ⟨r, rfl, hr, hc, hE1⟩
          exact ⟨_, rfl, ⟨r, rfl, hr, hc⟩, hE1⟩
        intro v1
        refine hK _ _ ?_
        clear hK K
        refine wpX_step (fun K hK => ?_)
        go_simp
        refine StepY.det (by rw [HSP.out]; rfl) ?_ ?_
        · intro wz hz hF
          obtain ⟨wa', ea, r, hv1, hr, hc⟩ := hF.any 8 (by kernel_rfl) (by rw [HSP.out]; rfl)
          clear hF hz
          simp only [asFun, List.nil_append, List.cons_append, List.getD_cons_succ, List.getD_cons_zero] at hv1
          subst hv1
          go_simp
          refine (HBT.out r _ hr).mono ?_
          rintro e w5 ⟨rfl, rfl⟩
          exact ⟨_, rfl, by rw [hc]; rfl, Ext.refl _⟩
        refine hK _ _ ?_
        clear hK K
        refine wpX_step (fun K hK => ?_)
        go_simp
        refine StepY.det (by rw [HSP.out]; rfl) ?_ ?_
        · intro wz hz hF
          clear hz hF
          go_simp
          exact ⟨rfl, Ext.refl _⟩
        refine hK _ _ ?_
        clear hK K
        refine wpX_step (fun K hK => ?_)
        go_simp
        refine StepY.any (by rw [HSP.out]; rfl) ?_ ?_
        · intro wz hz hF
          rw [HS.out] at hz
          clear hF
          go_simp
          refine (HR2.out _ hz).mono ?_
          rintro e w2 ⟨r, rfl, hr, hc, hE1⟩
          exact ⟨_, rfl, ⟨r, rfl, hr, hc⟩, hE1⟩
        intro v2
        refine hK _ _ ?_
        clear hK K
        refine wpX_step (fun K hK => ?_)
        go_simp
        refine StepY.det (by rw [HSP.out]; rfl) ?_ ?_
        · intro wz hz hF
          obtain ⟨wa', ea, r, hv1, hr, hc⟩ := hF.any 11 (by kernel_rfl) (by rw [HSP.out]; rfl)
          clear hF hz
          simp only [asFun, List.nil_append, List.cons_append, List.getD_cons_succ, List.getD_cons_zero] at hv1
          subst hv1
          go_simp
          refine (HBT.out r _ hr).mono ?_
          rintro e w5 ⟨rfl, rfl⟩
          exact ⟨_, rfl, by rw [hc]; rfl, Ext.refl _⟩
        refine hK _ _ ?_
        clear hK K
        refine wpX_step (fun K hK => ?_)
        go_simp
        refine StepY.det (by rw [HSP.out]; rfl) ?_ ?_
        · intro wz hz hF
          rw [HS.out] at hz
          clear hF
          have hR : RatAt wz A6 l6 c6 B6 k6 d6 Nq Dq := ⟨hz.wd 1 rfl, hz.wd 0 rfl⟩
          clear hz
          go_simp
          refine (HAB.out _ hR).mono ?_
          rintro e w5 ⟨rfl, hE⟩
          exact ⟨_, rfl, rfl, hE⟩
        refine hK _ _ ?_
        clear hK K
        iterate 2
          refine wpX_step (fun K hK => ?_)
          go_simp
          refine StepY.det (by rw [HSP.out]; rfl) ?_ ?_
          · intro wz hz hF
            clear hz hF
            go_simp
            exact ⟨rfl, Ext.refl _⟩
          refine hK _ _ ?_
          clear hK K
        refine wpX_step (fun K hK => ?_)
        go_simp
        refine StepY.det (by rw [HSP.out]; rfl) ?_ ?_
        · intro wz hz hF
          rw [HS.out] at hz
          have hf := hz.tail.cells
          simp only [BC, CC, Nat.zero_add, Nat.reduceAdd, and_true] at hf
          clear hz hF
          go_simp
          exact ⟨rfl, Ext.refl _⟩
        refine hK _ _ ?_
        clear hK K
        refine wpX_step (fun K hK => ?_)
        go_simp
        refine StepY.det (by rw [HSP.out]; rfl) ?_ ?_
        · intro wz hz hF
          clear hz hF
          go_simp
          exact ⟨rfl, Ext.refl _⟩
        refine hK _ _ ?_
        clear hK K
        refine wpX_step (fun K hK => ?_)
        go_simp
        refine StepY.any (by rw [HSP.out]; rfl) ?_ ?_
        · intro wz hz hF
          clear hz hF
          go_simp
          refine (HIM.out _).mono ?_
          rintro e w2 ⟨A2, n2, c2, B2, k2, d2, rfl, hA2, hB2, hE2⟩
          exact ⟨_, rfl, ⟨A2, n2, c2, B2, k2, d2, rfl, hA2, hB2⟩, hE2⟩
        intro v3
        refine hK _ _ ?_
        clear hK K
        refine wpX_step (fun K hK => ?_)
        go_simp
        refine StepY.any (by rw [HSP.out]; rfl) ?_ ?_
        · intro wz hz hF
          obtain ⟨wa', ea, A5, n5, c5, B5, k5, d5, hv1, hw1⟩ := hF.any 18 (by kernel_rfl) (by rw [HSP.out]; rfl)
          rw [HS.out] at hz
          clear hF
          have hR : RatAt wz A6 l6 c6 B6 k6 d6 Nq Dq := ⟨hz.wd 1 rfl, hz.wd 0 rfl⟩
          clear hz
          simp only [asFun, List.nil_append, List.cons_append, List.getD_cons_succ, List.getD_cons_zero] at hv1
          subst hv1
          go_simp
          refine (HRQ.out _ _ _ _ _ _ _ hR (hw1.ext ea)).mono ?_
          rintro e w2 ⟨s2, N2, D2, A2, n2, c2, B2, k2, d2, rfl, hq2, hA2, hE2⟩
          exact ⟨_, rfl, ⟨s2, N2, D2, A2, n2, c2, B2, k2, d2, rfl, hq2, hA2⟩, hE2⟩
        intro v4
        refine hK _ _ ?_
        clear hK K
        iterate 2
          refine wpX_step (fun K hK => ?_)
          go_simp
          refine StepY.det (by rw [HSP.out]; rfl) ?_ ?_
          · intro wz hz hF
            clear hz hF
            go_simp
            exact ⟨rfl, Ext.refl _⟩
          refine hK _ _ ?_
          clear hK K
        refine wpX_step (fun K hK => ?_)
        go_simp
        refine StepY.any (by rw [HSP.out]; rfl) ?_ ?_
        · intro wz hz hF
          rw [HS.out] at hz
          clear hF
          go_simp
          refine (HO1.out _ hz).mono ?_
          rintro e w2 ⟨r, rfl, hr, hc, hE1⟩
          exact ⟨_, rfl, ⟨r, rfl, hr, hc⟩, hE1⟩
        intro v5
        refine hK _ _ ?_
        clear hK K
        refine wpX_step (fun K hK => ?_)
        go_simp
        refine StepY.det (by rw [HSP.out]; rfl) ?_ ?_
        · intro wz hz hF
          obtain ⟨wa', ea, r, hv1, hr, hc⟩ := hF.any 22 (by kernel_rfl) (by rw [HSP.out]; rfl)
          clear hF hz
          simp only [asFun, List.nil_append, List.cons_append, List.getD_cons_succ, List.getD_cons_zero] at hv1
          subst hv1
          go_simp
          refine (HBT.out r _ hr).mono ?_
          rintro e w5 ⟨rfl, rfl⟩
          exact ⟨_, rfl, by rw [hc]; rfl, Ext.refl _⟩
        refine hK _ _ ?_
        clear hK K
        iterate 2
          refine wpX_step (fun K hK => ?_)
          go_simp
          refine StepY.det (by rw [HSP.out]; rfl) ?_ ?_
          · intro wz hz hF
            clear hz hF
            go_simp
            exact ⟨rfl, Ext.refl _⟩
          refine hK _ _ ?_
          clear hK K
        refine wpX_nil ?_
        intro wq hz hF
        obtain ⟨wa', ea, s2, N2, D2, A2, n2, c2, B2, k2, d2, hv19, HQ2, hR2⟩ := fact_any (hF 19 (by omega)) (by rw [HSP.out]; rfl)
        clear hF
        simp only [asFun, List.nil_append, List.cons_append, List.getD_cons_succ, List.getD_cons_zero] at hv19
        subst hv19
        rw [HS.out] at hz
        have hO := hz
        clear hz HS HSP
        have hf := hO.cells
        simp only [BC, CC, Nat.zero_add, Nat.reduceAdd, and_true] at hf
        have hR2 := hR2.ext ea
        clear hf ea
        go_wp2_with fail
        refine (HO2.out _ hO).mono ?_
        rintro e w2 ⟨r, rfl, hr, hc, hE⟩
        have hO := hO.ext hE
        have hR2 := hR2.ext hE
        clear hE
        go_wp2_with fail
        refine (HBT.out r _ hr).mono ?_
        rintro e w4 ⟨rfl, rfl⟩
        rw [hc]
        clear hr hc
        go_wp2_with fail
        refine (HAQ.out _ _ _ _ _ _ _ _ _ _ HQ2.out hR2).mono ?_
        rintro e w5 ⟨rfl, hE⟩
        have hO := hO.ext hE
        clear hE hR2
        go_wp2_with fail
        refine (HL.out _).mono ?_
        rintro e w5 ⟨rfl, hE⟩
        have hO := hO.ext hE
        clear hE
        go_wp2_with fail
        go_ret
        exact ⟨rfl, hO.toExt⟩
      · subst u2
        go_upto_region 19 with fail
        clear u1 HMY HSM
        obtain ⟨S, hS⟩ : ∃ S : World → Prop, S = Own w [⟨g, 36, Z.cs⟩, ⟨g6, 43, [.bool sq, .slice A6 l6 c6, .slice B6 k6 d6]⟩] [⟨B6, k6, d6, nd Dq⟩, ⟨A6, l6, c6, nd Nq⟩] := ⟨_, rfl⟩
        have hSE : ∀ w w', S w → Ext w w' → S w' := fun w w' h1 h2 => by rw [hS] at h1 ⊢; exact h1.ext h2
        have hS1 : S wr.drew := by rw [hS]; exact hO.ext (Ext.refl wr).drew
        have HS := Lib.hid hS
        clear hS hO hf
        obtain ⟨sp, hsp⟩ : ∃ sp : Nat → Sp, sp = ofList [det (.pointer (some ⟨g, 0, none⟩)), det (.int .i64 z), det (.agg #[.bool sq, .slice A6 l6 c6, .slice B6 k6 d6]), det (.int .i64 z), det (.bool true), det (.bool true), det (.agg #[.bool sq, .slice A6 l6 c6, .slice B6 k6 d6]), det (.pointer (some ⟨g, 0, none⟩)), anyOf (fun v wz => ∃ r, v = .float .f64 r ∧ r < 18446744073709551616 ∧ cn r = V1), det (.int .u64 (V1 : Int)), det (.pointer (some ⟨g, 0, none⟩)), anyOf (fun v wz => ∃ r, v = .float .f64 r ∧ r < 18446744073709551616 ∧ cn r = V2), det (.int .u64 (V2 : Int)), det (.bool true), det (.bool true), det (.bool true), det (.agg #[.bool sq, .slice A6 l6 c6, .slice B6 k6 d6]), det (.int .i64 (m : Int)), anyOf (fun v wz => ∃ A l c B k d, v = .agg #[.bool false, .slice A l c, .slice B k d] ∧ RatAt wz A l c B k d (fracN m 1 0) (fracD m 1 0)), anyOf (AtQ Z.T m), det (.pointer (some ⟨g, 0, none⟩)), det (.int .i64 (m : Int)), anyOf (fun v wz => ∃ r, v = .float .f64 r ∧ r < 18446744073709551616 ∧ cn r = V3), det (.int .u64 (V3 : Int)), det (.pointer (some ⟨g, 0, none⟩)), det (.int .i64 (m : Int))] := ⟨_, rfl⟩
        have HSP := Lib.hid hsp
        clear hsp
        refine wp_region_loose 26 S sp (by kernel_rfl) (by kernel_rfl) hS1 hSE ?_
        simp only [List.take_succ_cons, List.take_zero, List.drop_succ_cons, List.drop_zero]
        refine wpX_step (fun K hK => ?_)
        go_simp
        refine StepY.det (by rw [HSP.out]; rfl) ?_ ?_
        · intro wz hz hF
          clear hz hF
          go_simp
          exact ⟨rfl, Ext.refl _⟩
        refine hK _ _ ?_
        clear hK K
        refine wpX_step (fun K hK => ?_)
        go_simp
        refine StepY.det (by rw [HSP.out]; rfl) ?_ ?_
        · intro wz hz hF
          rw [HS.out] at hz
          clear hF
          go_simp
          refine (HG.out _ hz).mono ?_
          rintro e w5 ⟨rfl, rfl⟩
          exact ⟨_, rfl, rfl, Ext.refl _⟩
        refine hK _ _ ?_
        clear hK K
        refine wpX_step (fun K hK => ?_)
        go_simp
        refine StepY.det (by rw [HSP.out]; rfl) ?_ ?_
        · intro wz hz hF
          rw [HS.out] at hz
          have hf := hz.tail.cells
          simp only [BC, CC, Nat.zero_add, Nat.reduceAdd, and_true] at hf
          clear hz hF
          go_simp
          exact ⟨rfl, Ext.refl _⟩
        refine hK _ _ ?_
        clear hK K
        refine wpX_step (fun K hK => ?_)
        go_simp
        refine StepY.det (by rw [HSP.out]; rfl) ?_ ?_
        · intro wz hz hF
          rw [HS.out] at hz
          clear hF
          have hR : RatAt wz A6 l6 c6 B6 k6 d6 Nq Dq := ⟨hz.wd 1 rfl, hz.wd 0 rfl⟩
          clear hz
          go_simp
          refine (HRS.out _ hR).mono ?_
          rintro e w5 ⟨rfl, hE⟩
          exact ⟨_, rfl, rfl, hE⟩
        refine hK _ _ ?_
        clear hK K
        iterate 2
          refine wpX_step (fun K hK => ?_)
          go_simp
          refine StepY.det (by rw [HSP.out]; rfl) ?_ ?_
          · intro wz hz hF
            clear hz hF
            go_simp
            exact ⟨rfl, Ext.refl _⟩
          refine hK _ _ ?_
          clear hK K
        refine wpX_step (fun K hK => ?_)
        go_simp
        refine StepY.det (by rw [HSP.out]; rfl) ?_ ?_
        · intro wz hz hF
          rw [HS.out] at hz
          have hf := hz.tail.cells
          simp only [BC, CC, Nat.zero_add, Nat.reduceAdd, and_true] at hf
          clear hz hF
          go_simp
          exact ⟨rfl, Ext.refl _⟩
        refine hK _ _ ?_
        clear hK K
        refine wpX_step (fun K hK => ?_)
        go_simp
        refine StepY.det (by rw [HSP.out]; rfl) ?_ ?_
        · intro wz hz hF
          clear hz hF
          go_simp
          exact ⟨rfl, Ext.refl _⟩
        refine hK _ _ ?_
        clear hK K
        refine wpX_step (fun K hK => ?_)
        go_simp
        refine StepY.any (by rw [HSP.out]; rfl) ?_ ?_
        · intro wz hz hF
          rw [HS.out] at hz
          clear hF
          go_simp
          refine (HR1.out _ hz).mono ?_
          rintro e w2 ⟨r, rfl, hr, hc, hE1⟩
          exact ⟨_, rfl, ⟨r, rfl, hr, hc⟩, hE1⟩
        intro v1
        refine hK _ _ ?_
        clear hK K
        refine wpX_step (fun K hK => ?_)
        go_simp
        refine StepY.det (by rw [HSP.out]; rfl) ?_ ?_
        · intro wz hz hF
          obtain ⟨wa', ea, r, hv1, hr, hc⟩ := hF.any 8 (by kernel_rfl) (by rw [HSP.out]; rfl)
          clear hF hz
          simp only [asFun, List.nil_append, List.cons_append, List.getD_cons_succ, List.getD_cons_zero] at hv1
          subst hv1
          go_simp
          refine (HBT.out r _ hr).mono ?_
          rintro e w5 ⟨rfl, rfl⟩
          exact ⟨_, rfl, by rw [hc]; rfl, Ext.refl _⟩
        refine hK _ _ ?_
        clear hK K
        refine wpX_step (fun K hK => ?_)
        go_simp
        refine StepY.det (by rw [HSP.out]; rfl) ?_ ?_
        · intro wz hz hF
          clear hz hF
          go_simp
          exact ⟨rfl, Ext.refl _⟩
        refine hK _ _ ?_
        clear hK K
        refine wpX_step (fun K hK => ?_)
        go_simp
        refine StepY.any (by rw [HSP.out]; rfl) ?_ ?_
        · intro wz hz hF
          rw [HS.out] at hz
          clear hF
          go_simp
          refine (HR2.out _ hz).mono ?_
          rintro e w2 ⟨r, rfl, hr, hc, hE1⟩
          exact ⟨_, rfl, ⟨r, rfl, hr, hc⟩, hE1⟩
        intro v2
        refine hK _ _ ?_
        clear hK K
        refine wpX_step (fun K hK => ?_)
        go_simp
        refine StepY.det (by rw [HSP.out]; rfl) ?_ ?_
        · intro wz hz hF
          obtain ⟨wa', ea, r, hv1, hr, hc⟩ := hF.any 11 (by kernel_rfl) (by rw [HSP.out]; rfl)
          clear hF hz
          simp only [asFun, List.nil_append, List.cons_append, List.getD_cons_succ, List.getD_cons_zero] at hv1
          subst hv1
          go_simp
          refine (HBT.out r _ hr).mono ?_
          rintro e w5 ⟨rfl, rfl⟩
          exact ⟨_, rfl, by rw [hc]; rfl, Ext.refl _⟩
        refine hK _ _ ?_
        clear hK K
        refine wpX_step (fun K hK => ?_)
        go_simp
        refine StepY.det (by rw [HSP.out]; rfl) ?_ ?_
        · intro wz hz hF
          rw [HS.out] at hz
          clear hF
          have hR : RatAt wz A6 l6 c6 B6 k6 d6 Nq Dq := ⟨hz.wd 1 rfl, hz.wd 0 rfl⟩
          clear hz
          go_simp
          refine (HAB.out _ hR).mono ?_
          rintro e w5 ⟨rfl, hE⟩
          exact ⟨_, rfl, rfl, hE⟩
        refine hK _ _ ?_
        clear hK K
        iterate 2
          refine wpX_step (fun K hK => ?_)
          go_simp
          refine StepY.det (by rw [HSP.out]; rfl) ?_ ?_
          · intro wz hz hF
            clear hz hF
            go_simp
            exact ⟨rfl, Ext.refl _⟩
          refine hK _ _ ?_
          clear hK K
        refine wpX_step (fun K hK => ?_)
        go_simp
        refine StepY.det (by rw [HSP.out]; rfl) ?_ ?_
        · intro wz hz hF
          rw [HS.out] at hz
          have hf := hz.tail.cells
          simp only [BC, CC, Nat.zero_add, Nat.reduceAdd, and_true] at hf
          clear hz hF
          go_simp
          exact ⟨rfl, Ext.refl _⟩
        refine hK _ _ ?_
        clear hK K
        refine wpX_step (fun K hK => ?_)
        go_simp
        refine StepY.det (by rw [HSP.out]; rfl) ?_ ?_
        · intro wz hz hF
          clear hz hF
          go_simp
          exact ⟨rfl, Ext.refl _⟩
        refine hK _ _ ?_
        clear hK K
        refine wpX_step (fun K hK => ?_)
        go_simp
        refine StepY.any (by rw [HSP.out]; rfl) ?_ ?_
        · intro wz hz hF
          clear hz hF
          go_simp
          refine (HIM.out _).mono ?_
          rintro e w2 ⟨A2, n2, c2, B2, k2, d2, rfl, hA2, hB2, hE2⟩
          exact ⟨_, rfl, ⟨A2, n2, c2, B2, k2, d2, rfl, hA2, hB2⟩, hE2⟩
        intro v3
        refine hK _ _ ?_
        clear hK K
        refine wpX_step (fun K hK => ?_)
        go_simp
        refine StepY.any (by rw [HSP.out]; rfl) ?_ ?_
        · intro wz hz hF
          obtain ⟨wa', ea, A5, n5, c5, B5, k5, d5, hv1, hw1⟩ := hF.any 18 (by kernel_rfl) (by rw [HSP.out]; rfl)
          rw [HS.out] at hz
          clear hF
          have hR : RatAt wz A6 l6 c6 B6 k6 d6 Nq Dq := ⟨hz.wd 1 rfl, hz.wd 0 rfl⟩
          clear hz
          simp only [asFun, List.nil_append, List.cons_append, List.getD_cons_succ, List.getD_cons_zero] at hv1
          subst hv1
          go_simp
          refine (HRQ.out _ _ _ _ _ _ _ hR (hw1.ext ea)).mono ?_
          rintro e w2 ⟨s2, N2, D2, A2, n2, c2, B2, k2, d2, rfl, hq2, hA2, hE2⟩
          exact ⟨_, rfl, ⟨s2, N2, D2, A2, n2, c2, B2, k2, d2, rfl, hq2, hA2⟩, hE2⟩
        intro v4
        refine hK _ _ ?_
        clear hK K
        iterate 2
          refine wpX_step (fun K hK => ?_)
          go_simp
          refine StepY.det (by rw [HSP.out]; rfl) ?_ ?_
          · intro wz hz hF
            clear hz hF
            go_simp
            exact ⟨rfl, Ext.refl _⟩
          refine hK _ _ ?_
          clear hK K
        refine wpX_step (fun K hK => ?_)
        go_simp
        refine StepY.any (by rw [HSP.out]; rfl) ?_ ?_
        · intro wz hz hF
          rw [HS.out] at hz
          clear hF
          go_simp
          refine (HO1.out _ hz).mono ?_
          rintro e w2 ⟨r, rfl, hr, hc, hE1⟩
          exact ⟨_, rfl, ⟨r, rfl, hr, hc⟩, hE1⟩
        intro v5
        refine hK _ _ ?_
        clear hK K
        refine wpX_step (fun K hK => ?_)
        go_simp
        refine StepY.det (by rw [HSP.out]; rfl) ?_ ?_
        · intro wz hz hF
          obtain ⟨wa', ea, r, hv1, hr, hc⟩ := hF.any 22 (by kernel_rfl) (by rw [HSP.out]; rfl)
          clear hF hz
          simp only [asFun, List.nil_append, List.cons_append, List.getD_cons_succ, List.getD_cons_zero] at hv1
          subst hv1
          go_simp
          refine (HBT.out r _ hr).mono ?_
          rintro e w5 ⟨rfl, rfl⟩
          exact ⟨_, rfl, by rw [hc]; rfl, Ext.refl _⟩
        refine hK _ _ ?_
        clear hK K
        iterate 2
          refine wpX_step (fun K hK => ?_)
          go_simp
          refine StepY.det (by rw [HSP.out]; rfl) ?_ ?_
          · intro wz hz hF
            clear hz hF
            go_simp
            exact ⟨rfl, Ext.refl _⟩
          refine hK _ _ ?_
          clear hK K
        refine wpX_nil ?_
        intro wq hz hF
        obtain ⟨wa', ea, s2, N2, D2, A2, n2, c2, B2, k2, d2, hv19, HQ2, hR2⟩ := fact_any (hF 19 (by omega)) (by rw [HSP.out]; rfl)
        clear hF
        simp only [asFun, List.nil_append, List.cons_append, List.getD_cons_succ, List.getD_cons_zero] at hv19
        subst hv19
        rw [HS.out] at hz
        have hO := hz
        clear hz HS HSP
        have hf := hO.cells
        simp only [BC, CC, Nat.zero_add, Nat.reduceAdd, and_true] at hf
        have hR2 := hR2.ext ea
        clear hf ea
        go_wp2_with fail
        refine (HO2.out _ hO).mono ?_
        rintro e w2 ⟨r, rfl, hr, hc, hE⟩
        have hO := hO.ext hE
        have hR2 := hR2.ext hE
        clear hE
        go_wp2_with fail
        refine (HBT.out r _ hr).mono ?_
        rintro e w4 ⟨rfl, rfl⟩
        rw [hc]
        clear hr hc
        go_wp2_with fail
        refine (HAQ.out _ _ _ _ _ _ _ _ _ _ HQ2.out hR2).mono ?_
        rintro e w5 ⟨rfl, hE⟩
        have hO := hO.ext hE
        clear hE hR2
        go_wp2_with fail
        refine (HL.out _).mono ?_
        rintro e w5 ⟨rfl, hE⟩
        have hO := hO.ext hE
        clear hE
        go_wp2_with fail
        go_ret
        exact ⟨rfl, hO.toExt⟩

set_option maxHeartbeats 16000000 in
theorem tight_b (A : Option Addr) (n c : Nat) (ts : List Tm) (y : Int) (w : World) (h : Trs w A n c ts) (hy1 : -9223372036854775808 ≤ y) (hy2 : y < 9223372036854775808) (hk : n ≤ 1000) :
    Calls Try.prog 4 #[.slice A n c, .int .i64 y] w fun e w' => e = .returned (.bool true) ∧ Ext w w' := by
  have HT := Lib.hid h
  have hn63 := h.small
  have hts := h.2.2.2.1
  have hlen := h.len
  clear h
  have HL := Lib.hid (fun w => lives4_any w)
  have HBT := Lib.hid (fun r w h => bits4_any r w h)
  have HI0 : Hid (∀ w, Calls Try.prog 21 #[.int .i64 0] w (RetR false 0 1 w)) := Lib.hid (fun w => int_any 0 w (by omega))
  have HOK := Lib.hid (fun i => tgS_ok (ts := ts) hts i)
  have HNWK := Lib.hid (fun i (hi : i ≤ 3000) => tgS_nw (ts := ts) hts (K := i) hi)
  have HSTK := Lib.hid (tgS_state (ts := ts) (K := n) (by omega))
  have HSM := Lib.hid hn63
  obtain ⟨m, hm⟩ : ∃ m : Nat, m = if y < 1 then 7 else y.toNat := ⟨_, rfl⟩
  have hm0 : 0 < m := by rw [hm]; split <;> omega
  have hm1 : m < 9223372036854775808 := by rw [hm]; split <;> omega
  have hmy : (decide (y < 1) = true ∧ (m : Int) = 7) ∨ (decide (y < 1) = false ∧ (m : Int) = y) := by
    rcases Int.lt_or_le y 1 with h1 | h1
    · left; refine ⟨decide_eq_true h1, ?_⟩; rw [hm, if_pos h1]; rfl
    · right; refine ⟨decide_eq_false (by omega), ?_⟩; rw [hm, if_neg (by omega)]; omega
  have HMY := Lib.hid hmy
  have HM0 := Lib.hid hm0
  have HM1 := Lib.hid hm1
  have HIM := Lib.hid (fun w => int_any m w hm1)
  have q1 : decide (1000 < (n : Int)) = false := decide_eq_false (by omega)
  clear hts hm hmy hm0 hm1 hy1 hy2
  have hf : True := trivial
  have hO := Own.start w
  go_enter Try.func4, Try.ntmps4
  go_wp2_with (first | (go_at_call 9; (with_reducible refine (HL.out _).mono ?_); rintro e w1 ⟨rfl, hE⟩; have hO := hO.ext hE; clear hE) | (go_at_call 10; (with_reducible refine (tnew_any hO).mono ?_); rintro e w2 ⟨g, rfl, hO2⟩; clear hO; have hO := hO2; clear hO2) | (go_at_call 21; (with_reducible refine (HI0.out _).mono ?_); rintro e w3 ⟨A0, l0, c0, B0, k0, d0, rfl, hA0, hB0, hE⟩; have hO := ((hO.ext hE).add hA0).add hB0; clear hE hA0 hB0) | ((with_reducible refine at_alloc ?_); refine own_alloc hO zero_rat rfl rfl ?_; clear hO; intro g6 wa hO; clear hf; have hf := hO.cells; simp only [BC, CC, Nat.zero_add, Nat.reduceAdd, and_true] at hf) | ((with_reducible refine at_store (T := 43) ?_); refine own_store (vs := [.bool false, .slice A0 l0 c0, .slice B0 k0 d0]) (T := 43) hO 0 rfl rfl rfl size_rat rfl rfl rfl ?_; clear hO; intro wb hO; simp only [List.set_cons_zero, List.set_cons_succ, spl, List.take_succ_cons, List.take_zero, List.nil_append, List.cons_append, List.length_cons, List.length_nil, List.drop_succ_cons, List.drop_zero, List.drop_nil, Nat.reduceAdd, Nat.zero_add, List.append_nil] at hO; clear hf; have hf := hO.cells; simp only [BC, CC, Nat.zero_add, Nat.reduceAdd, and_true] at hf))
  go_loopw [8] (fun kv wr => ∃ i : Nat, kv = .int .i64 (i : Int) ∧ i ≤ n ∧ ∃ (sq : Bool) (Nq Dq : Nat) (A6 : Option Addr) (l6 c6 : Nat) (B6 : Option Addr) (k6 d6 : Nat), Hid (DR (tgS ts i).T sq Nq Dq) ∧ Own w [⟨g, 36, (tgS ts i).cs⟩, ⟨g6, 43, [.bool sq, .slice A6 l6 c6, .slice B6 k6 d6]⟩] [⟨B6, k6, d6, nd Dq⟩, ⟨A6, l6, c6, nd Nq⟩] wr) (fun kv _ => n - (intOf kv).toNat)
  case atStart =>
    refine ⟨0, rfl, Nat.zero_le _, false, _, _, _, _, _, _, _, _, Lib.hid ?_, hO.swap⟩
    exact DR.nil
  case round =>
    obtain ⟨i, rfl, hiK, sq, Nq, Dq, A6, l6, c6, B6, k6, d6, HDR, hOr⟩ := hrel
    clear hO hf
    by_cases hlt : i < n
    · have hO := hOr
      clear hOr
      obtain ⟨ad, X, Y, b, rfl, hq, lX, lY, _, _, _⟩ := HT.out.at_ (show i < n by omega)
      obtain ⟨p, hp⟩ : ∃ p, ad.add (i * 3) = p := ⟨_, rfl⟩
      have HCELL : Hid (∀ wz, Ext w wz → wz.cell? p = some (.int .u64 (X : Int)) ∧ wz.cell? ⟨p.block, p.off + 1, none⟩ = some (.int .u64 (Y : Int)) ∧ wz.cell? ⟨p.block, p.off + 2, none⟩ = some (.bool b)) := Lib.hid (fun wz hz => by
        obtain ⟨ad', X', Y', b', e1, e2, _, _, e3⟩ := (HT.out.ext hz).at_ (show i < n by omega)
        rw [hq] at e2
        injection e2 with e2
        injection e2 with e2 e4
        injection e4 with e4 e5
        injection e1 with e1
        subst e1 e2 e4 e5
        rw [← addr_add2, ← addr_add2, hp] at e3
        exact e3)
      have HNX := Lib.hid (fun w => num4_any X w lX)
      have HNY := Lib.hid (fun w => num4_any Y w lY)
      have lPX := numP_lt lX
      have lPY := numP_lt lY
      have bi0 : (0 : Int) ≤ (i : Int) := by omega
      have bi1 : (i : Int) < (n : Int) := by omega
      have HNW := Lib.hid (HNWK.out i (by omega))
      have HNV := Lib.hid (tval_nw (X, Y, b))
      have HTT : Hid ((tgS ts (i + 1)).T = (tgS ts i).T + tval (X, Y, b)) := Lib.hid (tgS_T hq)
      have HTK : Hid (∀ (L : List Bx) (W : List Sw) w1, Own w (⟨g, 36, (tgS ts i).cs⟩ :: L) W w1 → Calls Try.prog 14 #[.pointer (some ⟨g, 0, none⟩), .agg #[.int .u64 (numP X : Nat), .int .u64 (numP Y : Nat), .bool b]] w1 fun e w' => e = .returned (.tuple #[]) ∧ Own w (⟨g, 36, (tgS ts (i + 1)).cs⟩ :: L) W w') := Lib.hid (fun L W w1 h => by
        have h1 := take4_any (g := g) (tgS ts i) (numP X) (numP Y) b (HOK.out i) lPX lPY h
        have h2 : tgS ts (i + 1) = (tgS ts i).take (numP X) (numP Y) b := tgS_next (q := (X, Y, b)) hq
        rw [h2]
        exact h1)
      have HFX := Lib.hid (fun w => frombits_any (numP X) w lPX)
      have HFY := Lib.hid (fun w => frombits_any (numP Y) w lPY)
      have HV : Hid (tval (X, Y, b) = if b then sv (numP X) * sv (numP Y) else sv (numP X) * (K74 : Int)) := Lib.hid rfl
      generalize numP X = PX at *
      generalize numP Y = PY at *
      obtain ⟨sx, hsx⟩ : ∃ sx, sx = (sg PX && decide (mg PX ≠ 0)) := ⟨_, rfl⟩
      rw [← hsx] at HFX
      obtain ⟨sy, hsy⟩ : ∃ sy, sy = (sg PY && decide (mg PY ≠ 0)) := ⟨_, rfl⟩
      rw [← hsy] at HFY
      have HSX := Lib.hid hsx
      have HSY := Lib.hid hsy
      clear hq lX lY lPX lPY hsx hsy
      have hf : True := trivial
      go_upto_region 11 with fail
      obtain ⟨S, hS⟩ : ∃ S : World → Prop, S = Own w [⟨g, 36, (tgS ts i).cs⟩, ⟨g6, 43, [.bool sq, .slice A6 l6 c6, .slice B6 k6 d6]⟩] [⟨B6, k6, d6, nd Dq⟩, ⟨A6, l6, c6, nd Nq⟩] := ⟨_, rfl⟩
      have hSE : ∀ w w', S w → Ext w w' → S w' := fun w w' h1 h2 => by rw [hS] at h1 ⊢; exact h1.ext h2
      have hS1 : S wr.drew := by rw [hS]; exact hO.ext (Ext.refl wr).drew
      have HS := Lib.hid hS
      clear hS hO hf
      obtain ⟨sp, hsp⟩ : ∃ sp : Nat → Sp, sp = ofList [det (.slice (some ad) n c), det (.int .i64 (i : Int)), det (.pointer (some p)), det (.pointer (some p)), det (.int .u64 (X : Int)), det (.int .u64 (PX : Int)), det (.slice (some ad) n c), det (.int .i64 (i : Int)), det (.pointer (some p)), det (.pointer (some ⟨p.block, p.off + 1, none⟩)), det (.int .u64 (Y : Int)), det (.int .u64 (PY : Int)), det (.slice (some ad) n c), det (.int .i64 (i : Int)), det (.pointer (some p)), det (.pointer (some ⟨p.block, p.off + 2, none⟩)), det (.bool b), det (.agg #[.int .u64 (PX : Int), .int .u64 (PY : Int), .bool b]), anyOf (fun v wz => ∃ gt : Nat, v = .pointer (some ⟨gt, 0, none⟩) ∧ Own w (⟨gt, 33, [.int .u64 0, .int .u64 0, .bool false]⟩ :: [⟨g, 36, (tgS ts i).cs⟩, ⟨g6, 43, [.bool sq, .slice A6 l6 c6, .slice B6 k6 d6]⟩]) [⟨B6, k6, d6, nd Dq⟩, ⟨A6, l6, c6, nd Nq⟩] wz)] := ⟨_, rfl⟩
      have HSP := Lib.hid hsp
      clear hsp
      refine wp_region_loose 19 S sp (by kernel_rfl) (by kernel_rfl) hS1 hSE ?_
      simp only [List.take_succ_cons, List.take_zero, List.drop_succ_cons, List.drop_zero]
      iterate 4
        refine wpX_step (fun K hK => ?_)
        go_simp
        refine StepY.det (by rw [HSP.out]; rfl) ?_ ?_
        · intro wz hz hF
          clear hz hF
          go_simp
          exact ⟨rfl, Ext.refl _⟩
        refine hK _ _ ?_
        clear hK K
      refine wpX_step (fun K hK => ?_)
      go_simp
      refine StepY.det (by rw [HSP.out]; rfl) ?_ ?_
      · intro wz hz hF
        rw [HS.out] at hz
        obtain ⟨c1, c2, c3⟩ := HCELL.out _ hz.toExt
        clear hz hF
        go_simp
        exact ⟨rfl, Ext.refl _⟩
      refine hK _ _ ?_
      clear hK K
      refine wpX_step (fun K hK => ?_)
      go_simp
      refine StepY.det (by rw [HSP.out]; rfl) ?_ ?_
      · intro wz hz hF
        clear hz hF
        go_simp
        refine (HNX.out _).mono ?_
        rintro e w5 ⟨rfl, rfl⟩
        exact ⟨_, rfl, rfl, Ext.refl _⟩
      refine hK _ _ ?_
      clear hK K
      iterate 4
        refine wpX_step (fun K hK => ?_)
        go_simp
        refine StepY.det (by rw [HSP.out]; rfl) ?_ ?_
        · intro wz hz hF
          clear hz hF
          go_simp
          exact ⟨rfl, Ext.refl _⟩
        refine hK _ _ ?_
        clear hK K
      refine wpX_step (fun K hK => ?_)
      go_simp
      refine StepY.det (by rw [HSP.out]; rfl) ?_ ?_
      · intro wz hz hF
        rw [HS.out] at hz
        obtain ⟨c1, c2, c3⟩ := HCELL.out _ hz.toExt
        clear hz hF
        go_simp
        exact ⟨rfl, Ext.refl _⟩
      refine hK _ _ ?_
      clear hK K
      refine wpX_step (fun K hK => ?_)
      go_simp
      refine StepY.det (by rw [HSP.out]; rfl) ?_ ?_
      · intro wz hz hF
        clear hz hF
        go_simp
        refine (HNY.out _).mono ?_
        rintro e w5 ⟨rfl, rfl⟩
        exact ⟨_, rfl, rfl, Ext.refl _⟩
      refine hK _ _ ?_
      clear hK K
      iterate 4
        refine wpX_step (fun K hK => ?_)
        go_simp
        refine StepY.det (by rw [HSP.out]; rfl) ?_ ?_
        · intro wz hz hF
          clear hz hF
          go_simp
          exact ⟨rfl, Ext.refl _⟩
        refine hK _ _ ?_
        clear hK K
      refine wpX_step (fun K hK => ?_)
      go_simp
      refine StepY.det (by rw [HSP.out]; rfl) ?_ ?_
      · intro wz hz hF
        rw [HS.out] at hz
        obtain ⟨c1, c2, c3⟩ := HCELL.out _ hz.toExt
        clear hz hF
        go_simp
        exact ⟨rfl, Ext.refl _⟩
      refine hK _ _ ?_
      clear hK K
      refine wpX_step (fun K hK => ?_)
      go_simp
      refine StepY.det (by rw [HSP.out]; rfl) ?_ ?_
      · intro wz hz hF
        clear hz hF
        go_simp
        exact ⟨rfl, Ext.refl _⟩
      refine hK _ _ ?_
      clear hK K
      refine wpX_step (fun K hK => ?_)
      go_simp
      refine StepY.any (by rw [HSP.out]; rfl) ?_ ?_
      · intro wz hz hF
        rw [HS.out] at hz
        clear hF
        exact gives_alloc hz rfl zero_term rfl rfl
      intro v1
      refine hK _ _ ?_
      clear hK K
      refine wpX_nil ?_
      intro wq hz hF
      obtain ⟨wa', ea, gt, hv18, hOt⟩ := fact_any (hF 18 (by omega)) (by rw [HSP.out]; rfl)
      clear hF
      simp only [asFun, List.nil_append, List.cons_append, List.getD_cons_succ, List.getD_cons_zero] at hv18
      subst hv18
      clear hz HS HSP
      have hO := hOt.ext ea
      clear hOt ea
      have hf := hO.cells
      simp only [BC, CC, Nat.zero_add, Nat.reduceAdd, and_true] at hf
      go_wp2_with ((with_reducible refine at_store (T := 33) ?_); refine own_store (vs := [.int .u64 (PX : Int), .int .u64 (PY : Int), .bool b]) (T := 33) hO 0 rfl rfl rfl size_term rfl rfl rfl ?_; clear hO; intro wb hO; simp only [List.set_cons_zero, List.set_cons_succ, spl, List.take_succ_cons, List.take_zero, List.nil_append, List.cons_append, List.length_cons, List.length_nil, List.drop_succ_cons, List.drop_zero, List.drop_nil, Nat.reduceAdd, Nat.zero_add, List.append_nil] at hO; clear hf; have hf := hO.cells; simp only [BC, CC, Nat.zero_add, Nat.reduceAdd, and_true] at hf)
      refine (HTK.out _ _ _ hO.swap).mono ?_
      rintro e w3 ⟨rfl, hO2⟩
      clear hO
      have hO := hO2
      clear hO2
      clear hf
      have hf := hO.cells
      simp only [BC, CC, Nat.zero_add, Nat.reduceAdd, and_true] at hf
      go_wp2_with fail
      refine (HFX.out _).mono ?_
      rintro e w4 ⟨A1, n1, c1, B1, k1, d1, rfl, hA1, hB1, hE⟩
      have hO := ((hO.ext hE).add hA1).add hB1
      clear hA1 hB1 hE
      clear hf
      have hf := hO.cells
      simp only [BC, CC, Nat.zero_add, Nat.reduceAdd, and_true] at hf
      cases b
      · have HD2 := Lib.hid (DR.one PX)
        rw [← HSX.out, ← (show tval (X, Y, false) = sv PX * (K74 : Int) from HV.out)] at HD2
        go_wp2_with (first | ((with_reducible refine at_alloc ?_); refine own_alloc hO zero_rat rfl rfl ?_; clear hO; intro g10 wa hO; clear hf; have hf := hO.cells; simp only [BC, CC, Nat.zero_add, Nat.reduceAdd, and_true] at hf) | ((with_reducible refine at_store (T := 43) ?_); refine own_store (vs := [.bool sx, .slice A1 n1 c1, .slice B1 k1 d1]) (T := 43) hO 0 rfl rfl rfl size_rat rfl rfl rfl ?_; clear hO; intro wb hO; simp only [List.set_cons_zero, List.set_cons_succ, spl, List.take_succ_cons, List.take_zero, List.nil_append, List.cons_append, List.length_cons, List.length_nil, List.drop_succ_cons, List.drop_zero, List.drop_nil, Nat.reduceAdd, Nat.zero_add, List.append_nil] at hO; clear hf; have hf := hO.cells; simp only [BC, CC, Nat.zero_add, Nat.reduceAdd, and_true] at hf))
        go_wp2_with fail
        refine (radd_dr (T := (tgS ts i).T) (V := tval (X, Y, _)) HDR.out HD2.out HNW.out HNV.out ⟨hO.wd 3 rfl, hO.wd 2 rfl⟩ ⟨hO.wd 1 rfl, hO.wd 0 rfl⟩).mono ?_
        rintro e w9 ⟨s9, N9, D9, A9, l9, c9, B9, k9, d9, rfl, HD9, hR9, hE9⟩
        have hO := ((hO.ext hE9).add hR9.1).add hR9.2
        clear hR9 hE9
        rw [← HTT.out] at HD9
        clear hf
        have hf := hO.cells
        simp only [BC, CC, Nat.zero_add, Nat.reduceAdd, and_true] at hf
        go_wp2_with ((with_reducible refine at_store (T := 43) ?_); refine own_store (vs := [.bool s9, .slice A9 l9 c9, .slice B9 k9 d9]) (T := 43) hO 3 rfl rfl rfl size_rat rfl rfl rfl ?_; clear hO; intro wc hO; simp only [List.set_cons_zero, List.set_cons_succ, spl, List.take_succ_cons, List.take_zero, List.nil_append, List.cons_append, List.length_cons, List.length_nil, List.drop_succ_cons, List.drop_zero, List.drop_nil, Nat.reduceAdd, Nat.zero_add, List.append_nil] at hO; clear hf; have hf := hO.cells; simp only [BC, CC, Nat.zero_add, Nat.reduceAdd, and_true] at hf)
        go_roundw
        case rel => exact ⟨i + 1, by go_num, by omega, s9, N9, D9, A9, l9, c9, B9, k9, d9, HD9, (hO.sub ((((List.Sublist.slnil.cons_cons _).cons _).cons_cons _).cons _)).forget (fun s hs => List.mem_of_mem_take (i := 2) hs)⟩
        case measure => simp [intOf]; omega
      · go_wp2_with (first | ((with_reducible refine at_alloc ?_); refine own_alloc hO zero_rat rfl rfl ?_; clear hO; intro g10 wa hO; clear hf; have hf := hO.cells; simp only [BC, CC, Nat.zero_add, Nat.reduceAdd, and_true] at hf) | ((with_reducible refine at_store (T := 43) ?_); refine own_store (vs := [.bool sx, .slice A1 n1 c1, .slice B1 k1 d1]) (T := 43) hO 0 rfl rfl rfl size_rat rfl rfl rfl ?_; clear hO; intro wb hO; simp only [List.set_cons_zero, List.set_cons_succ, spl, List.take_succ_cons, List.take_zero, List.nil_append, List.cons_append, List.length_cons, List.length_nil, List.drop_succ_cons, List.drop_zero, List.drop_nil, Nat.reduceAdd, Nat.zero_add, List.append_nil] at hO; clear hf; have hf := hO.cells; simp only [BC, CC, Nat.zero_add, Nat.reduceAdd, and_true] at hf) | fail)
        obtain ⟨S, hS⟩ : ∃ S : World → Prop, S = Own w [⟨g10, 43, [.bool sx, .slice A1 n1 c1, .slice B1 k1 d1]⟩, ⟨g, 36, (tgS ts (i + 1)).cs⟩, ⟨gt, 33, [.int .u64 (PX : Int), .int .u64 (PY : Int), .bool true]⟩, ⟨g6, 43, [.bool sq, .slice A6 l6 c6, .slice B6 k6 d6]⟩] [⟨B1, k1, d1, nd (fbD PX)⟩, ⟨A1, n1, c1, nd (fbN PX)⟩, ⟨B6, k6, d6, nd Dq⟩, ⟨A6, l6, c6, nd Nq⟩] := ⟨_, rfl⟩
        have hSE : ∀ w w', S w → Ext w w' → S w' := fun w w' h1 h2 => by rw [hS] at h1 ⊢; exact h1.ext h2
        have hS1 : S wb.drew := by rw [hS]; exact hO.ext (Ext.refl wb).drew
        have HS := Lib.hid hS
        clear hS hO hf
        obtain ⟨sp, hsp⟩ : ∃ sp : Nat → Sp, sp = ofList [det (.agg #[.bool sx, .slice A1 n1 c1, .slice B1 k1 d1]), det (.pointer (some ⟨gt, 1, none⟩)), det (.int .u64 (PY : Int)), anyOf (fun v wz => ∃ A l c B k d, v = .agg #[.bool sy, .slice A l c, .slice B k d] ∧ RatAt wz A l c B k d (fbN PY) (fbD PY))] := ⟨_, rfl⟩
        have HSP := Lib.hid hsp
        clear hsp
        refine wp_region_loose 4 S sp (by kernel_rfl) (by kernel_rfl) hS1 hSE ?_
        simp only [List.take_succ_cons, List.take_zero, List.drop_succ_cons, List.drop_zero]
        iterate 3
          refine wpX_step (fun K hK => ?_)
          go_simp
          refine StepY.det (by rw [HSP.out]; rfl) ?_ ?_
          · intro wz hz hF
            rw [HS.out] at hz
            have hf := hz.cells
            simp only [BC, CC, Nat.zero_add, Nat.reduceAdd, and_true] at hf
            clear hz hF
            go_simp
            exact ⟨rfl, Ext.refl _⟩
          refine hK _ _ ?_
          clear hK K
        refine wpX_step (fun K hK => ?_)
        go_simp
        refine StepY.any (by rw [HSP.out]; rfl) ?_ ?_
        · intro wz hz hF
          clear hz hF
          go_simp
          refine (HFY.out _).mono ?_
          rintro e w2 ⟨A2, n2, c2, B2, k2, d2, rfl, hA2, hB2, hE2⟩
          exact ⟨_, rfl, ⟨A2, n2, c2, B2, k2, d2, rfl, hA2, hB2⟩, hE2⟩
        intro v1
        refine hK _ _ ?_
        clear hK K
        refine wpX_nil ?_
        intro wq hz hF
        obtain ⟨wa', ea, A2, n2, c2, B2, k2, d2, hv3, hR2⟩ := fact_any (hF 3 (by omega)) (by rw [HSP.out]; rfl)
        clear hF
        simp only [asFun, List.nil_append, List.cons_append, List.getD_cons_succ, List.getD_cons_zero] at hv3
        subst hv3
        rw [HS.out] at hz
        have hO := hz
        clear hz HS HSP
        have hf := hO.cells
        simp only [BC, CC, Nat.zero_add, Nat.reduceAdd, and_true] at hf
        go_wp2_with fail
        refine (rmul_dr HSX.out HSY.out ⟨hO.wd 1 rfl, hO.wd 0 rfl⟩ (hR2.ext ea)).mono ?_
        rintro e w9 ⟨s3, N3, D3, A3, l3, c3, B3, k3, d3, rfl, HD2, hR9, hE9⟩
        have hO := ((hO.ext hE9).add hR9.1).add hR9.2
        clear hR9 hE9 hR2 ea
        rw [← (show tval (X, Y, true) = sv PX * sv PY from HV.out)] at HD2
        clear hf
        have hf := hO.cells
        simp only [BC, CC, Nat.zero_add, Nat.reduceAdd, and_true] at hf
        go_wp2_with ((with_reducible refine at_store (T := 43) ?_); refine own_store (vs := [.bool s3, .slice A3 l3 c3, .slice B3 k3 d3]) (T := 43) hO 0 rfl rfl rfl size_rat rfl rfl rfl ?_; clear hO; intro wd hO; simp only [List.set_cons_zero, List.set_cons_succ, spl, List.take_succ_cons, List.take_zero, List.nil_append, List.cons_append, List.length_cons, List.length_nil, List.drop_succ_cons, List.drop_zero, List.drop_nil, Nat.reduceAdd, Nat.zero_add, List.append_nil] at hO; clear hf; have hf := hO.cells; simp only [BC, CC, Nat.zero_add, Nat.reduceAdd, and_true] at hf)
        go_wp2_with fail
        refine (radd_dr (T := (tgS ts i).T) (V := tval (X, Y, _)) HDR.out HD2.out HNW.out HNV.out ⟨hO.wd 5 rfl, hO.wd 4 rfl⟩ ⟨hO.wd 1 rfl, hO.wd 0 rfl⟩).mono ?_
        rintro e w9 ⟨s9, N9, D9, A9, l9, c9, B9, k9, d9, rfl, HD9, hR9, hE9⟩
        have hO := ((hO.ext hE9).add hR9.1).add hR9.2
        clear hR9 hE9
        rw [← HTT.out] at HD9
        clear hf
        have hf := hO.cells
        simp only [BC, CC, Nat.zero_add, Nat.reduceAdd, and_true] at hf
        go_wp2_with ((with_reducible refine at_store (T := 43) ?_); refine own_store (vs := [.bool s9, .slice A9 l9 c9, .slice B9 k9 d9]) (T := 43) hO 3 rfl rfl rfl size_rat rfl rfl rfl ?_; clear hO; intro wc hO; simp only [List.set_cons_zero, List.set_cons_succ, spl, List.take_succ_cons, List.take_zero, List.nil_append, List.cons_append, List.length_cons, List.length_nil, List.drop_succ_cons, List.drop_zero, List.drop_nil, Nat.reduceAdd, Nat.zero_add, List.append_nil] at hO; clear hf; have hf := hO.cells; simp only [BC, CC, Nat.zero_add, Nat.reduceAdd, and_true] at hf)
        go_roundw
        case rel => exact ⟨i + 1, by go_num, by omega, s9, N9, D9, A9, l9, c9, B9, k9, d9, HD9, (hO.sub ((((List.Sublist.slnil.cons_cons _).cons _).cons_cons _).cons _)).forget (fun s hs => List.mem_of_mem_take (i := 2) hs)⟩
        case measure => simp [intOf]; omega
    · have hie : i = n := by omega
      have hO := hOr
      rw [hie] at hO HDR
      clear hOr hiK
      obtain ⟨Z, hZ⟩ : ∃ Z, Z = tgS ts n := ⟨_, rfl⟩
      rw [← hZ] at hO HDR
      have hZs : Z.state = 0 := by rw [hZ]; exact HSTK.out
      have hZO : Z.Ok := by rw [hZ]; exact HOK.out _
      have hZn : nw Z.T.natAbs ≤ 136 := by rw [hZ]; exact HNWK.out _ (by omega)
      have HG := Lib.hid (fun w1 h => tsign_any (w0 := w) (w := w1) (L := [⟨g6, 43, [.bool sq, .slice A6 l6 c6, .slice B6 k6 d6]⟩]) (W := [⟨B6, k6, d6, nd Dq⟩, ⟨A6, l6, c6, nd Nq⟩]) (g := g) Z (fun hs => hZO.fit hs) h)
      have HR1 := Lib.hid (fun w1 h => tround_any (w0 := w) (w := w1) (L := [⟨g6, 43, [.bool sq, .slice A6 l6 c6, .slice B6 k6 d6]⟩]) (W := [⟨B6, k6, d6, nd Dq⟩, ⟨A6, l6, c6, nd Nq⟩]) (g := g) Z (-1) (fun hs => hZO.fit hs) h)
      have HR2 := Lib.hid (fun w1 h => tround_any (w0 := w) (w := w1) (L := [⟨g6, 43, [.bool sq, .slice A6 l6 c6, .slice B6 k6 d6]⟩]) (W := [⟨B6, k6, d6, nd Dq⟩, ⟨A6, l6, c6, nd Nq⟩]) (g := g) Z 1 (fun hs => hZO.fit hs) h)
      have hm1 := HM1.out
      have hm0 := HM0.out
      have HO1 := Lib.hid (fun w1 h => tover_any (w0 := w) (w := w1) (L := [⟨g6, 43, [.bool sq, .slice A6 l6 c6, .slice B6 k6 d6]⟩]) (W := [⟨B6, k6, d6, nd Dq⟩, ⟨A6, l6, c6, nd Nq⟩]) (g := g) Z (-1) (m : Int) (by omega) (fun hs => hZO.fit hs) h)
      have HO2 := Lib.hid (fun w1 h => tover_any (w0 := w) (w := w1) (L := [⟨g6, 43, [.bool sq, .slice A6 l6 c6, .slice B6 k6 d6]⟩]) (W := [⟨B6, k6, d6, nd Dq⟩, ⟨A6, l6, c6, nd Nq⟩]) (g := g) Z 1 (m : Int) (by omega) (fun hs => hZO.fit hs) h)
      have hov : ∀ d, Z.over d (m : Int) = qT d Z.T m := fun d => by
        unfold Sm.over
        rw [if_neg (by omega), if_neg (by rw [hZs]; decide)]; rfl
      rw [hov] at HO1 HO2
      rw [round_fin hZs] at HR1 HR2
      rw [sign_fin hZs] at HG
      have HRS := Lib.hid (fun w1 h => rsign_dr (w := w1) (B := B6) (k := k6) (d := d6) (A := A6) (l := l6) (c := c6) HDR.out hZn h)
      have HAB := Lib.hid (fun w1 h => about_dr (w := w1) (B := B6) (k := k6) (d := d6) (A := A6) (l := l6) (c := c6) HDR.out hZn h)
      have HRQ := Lib.hid (fun w1 C l' c' F k' d' h h' => rquo_dr (w := w1) (B := B6) (k := k6) (d := d6) (A := A6) (l := l6) (c := c6) (C := C) (l' := l') (c' := c') (F := F) (k' := k') (d' := d') HDR.out hm0 hm1 hZn h h')
      have HAQ := Lib.hid (fun w1 s N D A l c B k d (hq : QR Z.T m s N D) h => about_q (w := w1) (s := s) (N := N) (D := D) (B := B) (k := k) (d := d) (A := A) (l := l) (c := c) hq h)
      generalize (if Z.T < 0 then (-1 : Int) else if Z.T = 0 then 0 else 1) = z at *
      generalize rT (-1) Z.T = V1 at *
      generalize rT 1 Z.T = V2 at *
      generalize qT (-1) Z.T m = V3 at *
      generalize qT 1 Z.T m = V4 at *
      clear hZ hZs hZO hZn hov hm0 hm1 HOK HNWK HSTK HDR
      have hf : True := trivial
      rcases HMY.out with ⟨u1, u2⟩ | ⟨u1, u2⟩
      · go_upto_region 19 with fail
        rw [← u2]
        clear u1 u2 HMY HSM
        obtain ⟨S, hS⟩ : ∃ S : World → Prop, S = Own w [⟨g, 36, Z.cs⟩, ⟨g6, 43, [.bool sq, .slice A6 l6 c6, .slice B6 k6 d6]⟩] [⟨B6, k6, d6, nd Dq⟩, ⟨A6, l6, c6, nd Nq⟩] := ⟨_, rfl⟩
        have hSE : ∀ w w', S w → Ext w w' → S w' := fun w w' h1 h2 => by rw [hS] at h1 ⊢; exact h1.ext h2
        have hS1 : S wr.drew := by rw [hS]; exact hO.ext (Ext.refl wr).drew
        have HS := Lib.hid hS
        clear hS hO hf
        obtain ⟨sp, hsp⟩ : ∃ sp : Nat → Sp, sp = ofList [det (.pointer (some ⟨g, 0, none⟩)), det (.int .i64 z), det (.agg #[.bool sq, .slice A6 l6 c6, .slice B6 k6 d6]), det (.int .i64 z), det (.bool true), det (.bool true), det (.agg #[.bool sq, .slice A6 l6 c6, .slice B6 k6 d6]), det (.pointer (some ⟨g, 0, none⟩)), anyOf (fun v wz => ∃ r, v = .float .f64 r ∧ r < 18446744073709551616 ∧ cn r = V1), det (.int .u64 (V1 : Int)), det (.pointer (some ⟨g, 0, none⟩)), anyOf (fun v wz => ∃ r, v = .float .f64 r ∧ r < 18446744073709551616 ∧ cn r = V2), det (.int .u64 (V2 : Int)), det (.bool true), det (.bool true), det (.bool true), det (.agg #[.bool sq, .slice A6 l6 c6, .slice B6 k6 d6]), det (.int .i64 (m : Int)), anyOf (fun v wz => ∃ A l c B k d, v = .agg #[.bool false, .slice A l c, .slice B k d] ∧ RatAt wz A l c B k d (fracN m 1 0) (fracD m 1 0)), anyOf (AtQ Z.T m), det (.pointer (some ⟨g, 0, none⟩)), det (.int .i64 (m : Int)), anyOf (fun v wz => ∃ r, v = .float .f64 r ∧ r < 18446744073709551616 ∧ cn r = V3), det (.int .u64 (V3 : Int)), det (.pointer (some ⟨g, 0, none⟩)), det (.int .i64 (m : Int))] := ⟨_, rfl⟩
        have HSP := Lib.hid hsp
        clear hsp
        refine wp_region_loose 26 S sp (by kernel_rfl) (by kernel_rfl) hS1 hSE ?_
        simp only [List.take_succ_cons, List.take_zero, List.drop_succ_cons, List.drop_zero]
        refine wpX_step (fun K hK => ?_)
        go_simp
        refine StepY.det (by rw [HSP.out]; rfl) ?_ ?_
        · intro wz hz hF
          clear hz hF
          go_simp
          exact ⟨rfl, Ext.refl _⟩
        refine hK _ _ ?_
        clear hK K
        refine wpX_step (fun K hK => ?_)
        go_simp
        refine StepY.det (by rw [HSP.out]; rfl) ?_ ?_
        · intro wz hz hF
          rw [HS.out] at hz
          clear hF
          go_simp
          refine (HG.out _ hz).mono ?_
          rintro e w5 ⟨rfl, rfl⟩
          exact ⟨_, rfl, rfl, Ext.refl _⟩
        refine hK _ _ ?_
        clear hK K
        refine wpX_step (fun K hK => ?_)
        go_simp
        refine StepY.det (by rw [HSP.out]; rfl) ?_ ?_
        · intro wz hz hF
          rw [HS.out] at hz
          have hf := hz.tail.cells
          simp only [BC, CC, Nat.zero_add, Nat.reduceAdd, and_true] at hf
          clear hz hF
          go_simp
          exact ⟨rfl, Ext.refl _⟩
        refine hK _ _ ?_
        clear hK K
        refine wpX_step (fun K hK => ?_)
        go_simp
        refine StepY.det (by rw [HSP.out]; rfl) ?_ ?_
        · intro wz hz hF
          rw [HS.out] at hz
          clear hF
          have hR : RatAt wz A6 l6 c6 B6 k6 d6 Nq Dq := ⟨hz.wd 1 rfl, hz.wd 0 rfl⟩
          clear hz
          go_simp
          refine (HRS.out _ hR).mono ?_
          rintro e w5 ⟨rfl, hE⟩
          exact ⟨_, rfl, rfl, hE⟩
        refine hK _ _ ?_
        clear hK K
        iterate 2
          refine wpX_step (fun K hK => ?_)
          go_simp
          refine StepY.det (by rw [HSP.out]; rfl) ?_ ?_
          · intro wz hz hF
            clear hz hF
            go_simp
            exact ⟨rfl, Ext.refl _⟩
          refine hK _ _ ?_
          clear hK K
        refine wpX_step (fun K hK => ?_)
        go_simp
        refine StepY.det (by rw [HSP.out]; rfl) ?_ ?_
        · intro wz hz hF
          rw [HS.out] at hz
          have hf := hz.tail.cells
          simp only [BC, CC, Nat.zero_add, Nat.reduceAdd, and_true] at hf
          clear hz hF
          go_simp
          exact ⟨rfl, Ext.refl _⟩
        refine hK _ _ ?_
        clear hK K
        refine wpX_step (fun K hK => ?_)
        go_simp
        refine StepY.det (by rw [HSP.out]; rfl) ?_ ?_
        · intro wz hz hF
          clear hz hF
          go_simp
          exact ⟨rfl, Ext.refl _⟩
        refine hK _ _ ?_
        clear hK K
        refine wpX_step (fun K hK => ?_)
        go_simp
        refine StepY.any (by rw [HSP.out]; rfl) ?_ ?_
        · intro wz hz hF
          rw [HS.out] at hz
          clear hF
          go_simp
          refine (HR1.out _ hz).mono ?_
          rintro e w2 ⟨r, rfl, hr, hc, hE1⟩
          exact ⟨_, rfl, ⟨r, rfl, hr, hc⟩, hE1⟩
        intro v1
        refine hK _ _ ?_
        clear hK K
        refine wpX_step (fun K hK => ?_)
        go_simp
        refine StepY.det (by rw [HSP.out]; rfl) ?_ ?_
        · intro wz hz hF
          obtain ⟨wa', ea, r, hv1, hr, hc⟩ := hF.any 8 (by kernel_rfl) (by rw [HSP.out]; rfl)
          clear hF hz
          simp only [asFun, List.nil_append, List.cons_append, List.getD_cons_succ, List.getD_cons_zero] at hv1
          subst hv1
          go_simp
          refine (HBT.out r _ hr).mono ?_
          rintro e w5 ⟨rfl, rfl⟩
          exact ⟨_, rfl, by rw [hc]; rfl, Ext.refl _⟩
        refine hK _ _ ?_
        clear hK K
        refine wpX_step (fun K hK => ?_)
        go_simp
        refine StepY.det (by rw [HSP.out]; rfl) ?_ ?_
        · intro wz hz hF
          clear hz hF
          go_simp
          exact ⟨rfl, Ext.refl _⟩
        refine hK _ _ ?_
        clear hK K
        refine wpX_step (fun K hK => ?_)
        go_simp
        refine StepY.any (by rw [HSP.out]; rfl) ?_ ?_
        · intro wz hz hF
          rw [HS.out] at hz
          clear hF
          go_simp
          refine (HR2.out _ hz).mono ?_
          rintro e w2 ⟨r, rfl, hr, hc, hE1⟩
          exact ⟨_, rfl, ⟨r, rfl, hr, hc⟩, hE1⟩
        intro v2
        refine hK _ _ ?_
        clear hK K
        refine wpX_step (fun K hK => ?_)
        go_simp
        refine StepY.det (by rw [HSP.out]; rfl) ?_ ?_
        · intro wz hz hF
          obtain ⟨wa', ea, r, hv1, hr, hc⟩ := hF.any 11 (by kernel_rfl) (by rw [HSP.out]; rfl)
          clear hF hz
          simp only [asFun, List.nil_append, List.cons_append, List.getD_cons_succ, List.getD_cons_zero] at hv1
          subst hv1
          go_simp
          refine (HBT.out r _ hr).mono ?_
          rintro e w5 ⟨rfl, rfl⟩
          exact ⟨_, rfl, by rw [hc]; rfl, Ext.refl _⟩
        refine hK _ _ ?_
        clear hK K
        refine wpX_step (fun K hK => ?_)
        go_simp
        refine StepY.det (by rw [HSP.out]; rfl) ?_ ?_
        · intro wz hz hF
          rw [HS.out] at hz
          clear hF
          have hR : RatAt wz A6 l6 c6 B6 k6 d6 Nq Dq := ⟨hz.wd 1 rfl, hz.wd 0 rfl⟩
          clear hz
          go_simp
          refine (HAB.out _ hR).mono ?_
          rintro e w5 ⟨rfl, hE⟩
          exact ⟨_, rfl, rfl, hE⟩
        refine hK _ _ ?_
        clear hK K
        iterate 2
          refine wpX_step (fun K hK => ?_)
          go_simp
          refine StepY.det (by rw [HSP.out]; rfl) ?_ ?_
          · intro wz hz hF
            clear hz hF
            go_simp
            exact ⟨rfl, Ext.refl _⟩
          refine hK _ _ ?_
          clear hK K
        refine wpX_step (fun K hK => ?_)
        go_simp
        refine StepY.det (by rw [HSP.out]; rfl) ?_ ?_
        · intro wz hz hF
          rw [HS.out] at hz
          have hf := hz.tail.cells
          simp only [BC, CC, Nat.zero_add, Nat.reduceAdd, and_true] at hf
          clear hz hF
          go_simp
          exact ⟨rfl, Ext.refl _⟩
        refine hK _ _ ?_
        clear hK K
        refine wpX_step (fun K hK => ?_)
        go_simp
        refine StepY.det (by rw [HSP.out]; rfl) ?_ ?_
        · intro wz hz hF
          clear hz hF
          go_simp
          exact ⟨rfl, Ext.refl _⟩
        refine hK _ _ ?_
        clear hK K
        refine wpX_step (fun K hK => ?_)
        go_simp
        refine StepY.any (by rw [HSP.out]; rfl) ?_ ?_
        · intro wz hz hF
          clear hz hF
          go_simp
          refine (HIM.out _).mono ?_
          rintro e w2 ⟨A2, n2, c2, B2, k2, d2, rfl, hA2, hB2, hE2⟩
          exact ⟨_, rfl, ⟨A2, n2, c2, B2, k2, d2, rfl, hA2, hB2⟩, hE2⟩
        intro v3
        refine hK _ _ ?_
        clear hK K
        refine wpX_step (fun K hK => ?_)
        go_simp
        refine StepY.any (by rw [HSP.out]; rfl) ?_ ?_
        · intro wz hz hF
          obtain ⟨wa', ea, A5, n5, c5, B5, k5, d5, hv1, hw1⟩ := hF.any 18 (by kernel_rfl) (by rw [HSP.out]; rfl)
          rw [HS.out] at hz
          clear hF
          have hR : RatAt wz A6 l6 c6 B6 k6 d6 Nq Dq := ⟨hz.wd 1 rfl, hz.wd 0 rfl⟩
          clear hz
          simp only [asFun, List.nil_append, List.cons_append, List.getD_cons_succ, List.getD_cons_zero] at hv1
          subst hv1
          go_simp
          refine (HRQ.out _ _ _ _ _ _ _ hR (hw1.ext ea)).mono ?_
          rintro e w2 ⟨s2, N2, D2, A2, n2, c2, B2, k2, d2, rfl, hq2, hA2, hE2⟩
          exact ⟨_, rfl, ⟨s2, N2, D2, A2, n2, c2, B2, k2, d2, rfl, hq2, hA2⟩, hE2⟩
        intro v4
        refine hK _ _ ?_
        clear hK K
        iterate 2
          refine wpX_step (fun K hK => ?_)
          go_simp
          refine StepY.det (by rw [HSP.out]; rfl) ?_ ?_
          · intro wz hz hF
            clear hz hF
            go_simp
            exact ⟨rfl, Ext.refl _⟩
          refine hK _ _ ?_
          clear hK K
        refine wpX_step (fun K hK => ?_)
        go_simp
        refine StepY.any (by rw [HSP.out]; rfl) ?_ ?_
        · intro wz hz hF
          rw [HS.out] at hz
          clear hF
          go_simp
          refine (HO1.out _ hz).mono ?_
          rintro e w2 ⟨r, rfl, hr, hc, hE1⟩
          exact ⟨_, rfl, ⟨r, rfl, hr, hc⟩, hE1⟩
        intro v5
        refine hK _ _ ?_
        clear hK K
        refine wpX_step (fun K hK => ?_)
        go_simp
        refine StepY.det (by rw [HSP.out]; rfl) ?_ ?_
        · intro wz hz hF
          obtain ⟨wa', ea, r, hv1, hr, hc⟩ := hF.any 22 (by kernel_rfl) (by rw [HSP.out]; rfl)
          clear hF hz
          simp only [asFun, List.nil_append, List.cons_append, List.getD_cons_succ, List.getD_cons_zero] at hv1
          subst hv1
          go_simp
          refine (HBT.out r _ hr).mono ?_
          rintro e w5 ⟨rfl, rfl⟩
          exact ⟨_, rfl, by rw [hc]; rfl, Ext.refl _⟩
        refine hK _ _ ?_
        clear hK K
        iterate 2
          refine wpX_step (fun K hK => ?_)
          go_simp
          refine StepY.det (by rw [HSP.out]; rfl) ?_ ?_
          · intro wz hz hF
            clear hz hF
            go_simp
            exact ⟨rfl, Ext.refl _⟩
          refine hK _ _ ?_
          clear hK K
        refine wpX_nil ?_
        intro wq hz hF
        obtain ⟨wa', ea, s2, N2, D2, A2, n2, c2, B2, k2, d2, hv19, HQ2, hR2⟩ := fact_any (hF 19 (by omega)) (by rw [HSP.out]; rfl)
        clear hF
        simp only [asFun, List.nil_append, List.cons_append, List.getD_cons_succ, List.getD_cons_zero] at hv19
        subst hv19
        rw [HS.out] at hz
        have hO := hz
        clear hz HS HSP
        have hf := hO.cells
        simp only [BC, CC, Nat.zero_add, Nat.reduceAdd, and_true] at hf
        have hR2 := hR2.ext ea
        clear hf ea
        go_wp2_with fail
        refine (HO2.out _ hO).mono ?_
        rintro e w2 ⟨r, rfl, hr, hc, hE⟩
        have hO := hO.ext hE
        have hR2 := hR2.ext hE
        clear hE
        go_wp2_with fail
        refine (HBT.out r _ hr).mono ?_
        rintro e w4 ⟨rfl, rfl⟩
        rw [hc]
        clear hr hc
        go_wp2_with fail
        refine (HAQ.out _ _ _ _ _ _ _ _ _ _ HQ2.out hR2).mono ?_
        rintro e w5 ⟨rfl, hE⟩
        have hO := hO.ext hE
        clear hE hR2
        go_wp2_with fail
        refine (HL.out _).mono ?_
        rintro e w5 ⟨rfl, hE⟩
        have hO := hO.ext hE
        clear hE
        go_wp2_with fail
        go_ret
        exact ⟨rfl, hO.toExt⟩
      · subst u2
        go_upto_region 19 with fail
        clear u1 HMY HSM
        obtain ⟨S, hS⟩ : ∃ S : World → Prop, S = Own w [⟨g, 36, Z.cs⟩, ⟨g6, 43, [.bool sq, .slice A6 l6 c6, .slice B6 k6 d6]⟩] [⟨B6, k6, d6, nd Dq⟩, ⟨A6, l6, c6, nd Nq⟩] := ⟨_, rfl⟩
        have hSE : ∀ w w', S w → Ext w w' → S w' := fun w w' h1 h2 => by rw [hS] at h1 ⊢; exact h1.ext h2
        have hS1 : S wr.drew := by rw [hS]; exact hO.ext (Ext.refl wr).drew
        have HS := Lib.hid hS
        clear hS hO hf
        obtain ⟨sp, hsp⟩ : ∃ sp : Nat → Sp, sp = ofList [det (.pointer (some ⟨g, 0, none⟩)), det (.int .i64 z), det (.agg #[.bool sq, .slice A6 l6 c6, .slice B6 k6 d6]), det (.int .i64 z), det (.bool true), det (.bool true), det (.agg #[.bool sq, .slice A6 l6 c6, .slice B6 k6 d6]), det (.pointer (some ⟨g, 0, none⟩)), anyOf (fun v wz => ∃ r, v = .float .f64 r ∧ r < 18446744073709551616 ∧ cn r = V1), det (.int .u64 (V1 : Int)), det (.pointer (some ⟨g, 0, none⟩)), anyOf (fun v wz => ∃ r, v = .float .f64 r ∧ r < 18446744073709551616 ∧ cn r = V2), det (.int .u64 (V2 : Int)), det (.bool true), det (.bool true), det (.bool true), det (.agg #[.bool sq, .slice A6 l6 c6, .slice B6 k6 d6]), det (.int .i64 (m : Int)), anyOf (fun v wz => ∃ A l c B k d, v = .agg #[.bool false, .slice A l c, .slice B k d] ∧ RatAt wz A l c B k d (fracN m 1 0) (fracD m 1 0)), anyOf (AtQ Z.T m), det (.pointer (some ⟨g, 0, none⟩)), det (.int .i64 (m : Int)), anyOf (fun v wz => ∃ r, v = .float .f64 r ∧ r < 18446744073709551616 ∧ cn r = V3), det (.int .u64 (V3 : Int)), det (.pointer (some ⟨g, 0, none⟩)), det (.int .i64 (m : Int))] := ⟨_, rfl⟩
        have HSP := Lib.hid hsp
        clear hsp
        refine wp_region_loose 26 S sp (by kernel_rfl) (by kernel_rfl) hS1 hSE ?_
        simp only [List.take_succ_cons, List.take_zero, List.drop_succ_cons, List.drop_zero]
        refine wpX_step (fun K hK => ?_)
        go_simp
        refine StepY.det (by rw [HSP.out]; rfl) ?_ ?_
        · intro wz hz hF
          clear hz hF
          go_simp
          exact ⟨rfl, Ext.refl _⟩
        refine hK _ _ ?_
        clear hK K
        refine wpX_step (fun K hK => ?_)
        go_simp
        refine StepY.det (by rw [HSP.out]; rfl) ?_ ?_
        · intro wz hz hF
          rw [HS.out] at hz
          clear hF
          go_simp
          refine (HG.out _ hz).mono ?_
          rintro e w5 ⟨rfl, rfl⟩
          exact ⟨_, rfl, rfl, Ext.refl _⟩
        refine hK _ _ ?_
        clear hK K
        refine wpX_step (fun K hK => ?_)
        go_simp
        refine StepY.det (by rw [HSP.out]; rfl) ?_ ?_
        · intro wz hz hF
          rw [HS.out] at hz
          have hf := hz.tail.cells
          simp only [BC, CC, Nat.zero_add, Nat.reduceAdd, and_true] at hf
          clear hz hF
          go_simp
          exact ⟨rfl, Ext.refl _⟩
        refine hK _ _ ?_
        clear hK K
        refine wpX_step (fun K hK => ?_)
        go_simp
        refine StepY.det (by rw [HSP.out]; rfl) ?_ ?_
        · intro wz hz hF
          rw [HS.out] at hz
          clear hF
          have hR : RatAt wz A6 l6 c6 B6 k6 d6 Nq Dq := ⟨hz.wd 1 rfl, hz.wd 0 rfl⟩
          clear hz
          go_simp
          refine (HRS.out _ hR).mono ?_
          rintro e w5 ⟨rfl, hE⟩
          exact ⟨_, rfl, rfl, hE⟩
        refine hK _ _ ?_
        clear hK K
        iterate 2
          refine wpX_step (fun K hK => ?_)
          go_simp
          refine StepY.det (by rw [HSP.out]; rfl) ?_ ?_
          · intro wz hz hF
            clear hz hF
            go_simp
            exact ⟨rfl, Ext.refl _⟩
          refine hK _ _ ?_
          clear hK K
        refine wpX_step (fun K hK => ?_)
        go_simp
        refine StepY.det (by rw [HSP.out]; rfl) ?_ ?_
        · intro wz hz hF
          rw [HS.out] at hz
          have hf := hz.tail.cells
          simp only [BC, CC, Nat.zero_add, Nat.reduceAdd, and_true] at hf
          clear hz hF
          go_simp
          exact ⟨rfl, Ext.refl _⟩
        refine hK _ _ ?_
        clear hK K
        refine wpX_step (fun K hK => ?_)
        go_simp
        refine StepY.det (by rw [HSP.out]; rfl) ?_ ?_
        · intro wz hz hF
          clear hz hF
          go_simp
          exact ⟨rfl, Ext.refl _⟩
        refine hK _ _ ?_
        clear hK K
        refine wpX_step (fun K hK => ?_)
        go_simp
        refine StepY.any (by rw [HSP.out]; rfl) ?_ ?_
        · intro wz hz hF
          rw [HS.out] at hz
          clear hF
          go_simp
          refine (HR1.out _ hz).mono ?_
          rintro e w2 ⟨r, rfl, hr, hc, hE1⟩
          exact ⟨_, rfl, ⟨r, rfl, hr, hc⟩, hE1⟩
        intro v1
        refine hK _ _ ?_
        clear hK K
        refine wpX_step (fun K hK => ?_)
        go_simp
        refine StepY.det (by rw [HSP.out]; rfl) ?_ ?_
        · intro wz hz hF
          obtain ⟨wa', ea, r, hv1, hr, hc⟩ := hF.any 8 (by kernel_rfl) (by rw [HSP.out]; rfl)
          clear hF hz
          simp only [asFun, List.nil_append, List.cons_append, List.getD_cons_succ, List.getD_cons_zero] at hv1
          subst hv1
          go_simp
          refine (HBT.out r _ hr).mono ?_
          rintro e w5 ⟨rfl, rfl⟩
          exact ⟨_, rfl, by rw [hc]; rfl, Ext.refl _⟩
        refine hK _ _ ?_
        clear hK K
        refine wpX_step (fun K hK => ?_)
        go_simp
        refine StepY.det (by rw [HSP.out]; rfl) ?_ ?_
        · intro wz hz hF
          clear hz hF
          go_simp
          exact ⟨rfl, Ext.refl _⟩
        refine hK _ _ ?_
        clear hK K
        refine wpX_step (fun K hK => ?_)
        go_simp
        refine StepY.any (by rw [HSP.out]; rfl) ?_ ?_
        · intro wz hz hF
          rw [HS.out] at hz
          clear hF
          go_simp
          refine (HR2.out _ hz).mono ?_
          rintro e w2 ⟨r, rfl, hr, hc, hE1⟩
          exact ⟨_, rfl, ⟨r, rfl, hr, hc⟩, hE1⟩
        intro v2
        refine hK _ _ ?_
        clear hK K
        refine wpX_step (fun K hK => ?_)
        go_simp
        refine StepY.det (by rw [HSP.out]; rfl) ?_ ?_
        · intro wz hz hF
          obtain ⟨wa', ea, r, hv1, hr, hc⟩ := hF.any 11 (by kernel_rfl) (by rw [HSP.out]; rfl)
          clear hF hz
          simp only [asFun, List.nil_append, List.cons_append, List.getD_cons_succ, List.getD_cons_zero] at hv1
          subst hv1
          go_simp
          refine (HBT.out r _ hr).mono ?_
          rintro e w5 ⟨rfl, rfl⟩
          exact ⟨_, rfl, by rw [hc]; rfl, Ext.refl _⟩
        refine hK _ _ ?_
        clear hK K
        refine wpX_step (fun K hK => ?_)
        go_simp
        refine StepY.det (by rw [HSP.out]; rfl) ?_ ?_
        · intro wz hz hF
          rw [HS.out] at hz
          clear hF
          have hR : RatAt wz A6 l6 c6 B6 k6 d6 Nq Dq := ⟨hz.wd 1 rfl, hz.wd 0 rfl⟩
          clear hz
          go_simp
          refine (HAB.out _ hR).mono ?_
          rintro e w5 ⟨rfl, hE⟩
          exact ⟨_, rfl, rfl, hE⟩
        refine hK _ _ ?_
        clear hK K
        iterate 2
          refine wpX_step (fun K hK => ?_)
          go_simp
          refine StepY.det (by rw [HSP.out]; rfl) ?_ ?_
          · intro wz hz hF
            clear hz hF
            go_simp
            exact ⟨rfl, Ext.refl _⟩
          refine hK _ _ ?_
          clear hK K
        refine wpX_step (fun K hK => ?_)
        go_simp
        refine StepY.det (by rw [HSP.out]; rfl) ?_ ?_
        · intro wz hz hF
          rw [HS.out] at hz
          have hf := hz.tail.cells
          simp only [BC, CC, Nat.zero_add, Nat.reduceAdd, and_true] at hf
          clear hz hF
          go_simp
          exact ⟨rfl, Ext.refl _⟩
        refine hK _ _ ?_
        clear hK K
        refine wpX_step (fun K hK => ?_)
        go_simp
        refine StepY.det (by rw [HSP.out]; rfl) ?_ ?_
        · intro wz hz hF
          clear hz hF
          go_simp
          exact ⟨rfl, Ext.refl _⟩
        refine hK _ _ ?_
        clear hK K
        refine wpX_step (fun K hK => ?_)
        go_simp
        refine StepY.any (by rw [HSP.out]; rfl) ?_ ?_
        · intro wz hz hF
          clear hz hF
          go_simp
          refine (HIM.out _).mono ?_
          rintro e w2 ⟨A2, n2, c2, B2, k2, d2, rfl, hA2, hB2, hE2⟩
          exact ⟨_, rfl, ⟨A2, n2, c2, B2, k2, d2, rfl, hA2, hB2⟩, hE2⟩
        intro v3
        refine hK _ _ ?_
        clear hK K
        refine wpX_step (fun K hK => ?_)
        go_simp
        refine StepY.any (by rw [HSP.out]; rfl) ?_ ?_
        · intro wz hz hF
          obtain ⟨wa', ea, A5, n5, c5, B5, k5, d5, hv1, hw1⟩ := hF.any 18 (by kernel_rfl) (by rw [HSP.out]; rfl)
          rw [HS.out] at hz
          clear hF
          have hR : RatAt wz A6 l6 c6 B6 k6 d6 Nq Dq := ⟨hz.wd 1 rfl, hz.wd 0 rfl⟩
          clear hz
          simp only [asFun, List.nil_append, List.cons_append, List.getD_cons_succ, List.getD_cons_zero] at hv1
          subst hv1
          go_simp
          refine (HRQ.out _ _ _ _ _ _ _ hR (hw1.ext ea)).mono ?_
          rintro e w2 ⟨s2, N2, D2, A2, n2, c2, B2, k2, d2, rfl, hq2, hA2, hE2⟩
          exact ⟨_, rfl, ⟨s2, N2, D2, A2, n2, c2, B2, k2, d2, rfl, hq2, hA2⟩, hE2⟩
        intro v4
        refine hK _ _ ?_
        clear hK K
        iterate 2
          refine wpX_step (fun K hK => ?_)
          go_simp
          refine StepY.det (by rw [HSP.out]; rfl) ?_ ?_
          · intro wz hz hF
            clear hz hF
            go_simp
            exact ⟨rfl, Ext.refl _⟩
          refine hK _ _ ?_
          clear hK K
        refine wpX_step (fun K hK => ?_)
        go_simp
        refine StepY.any (by rw [HSP.out]; rfl) ?_ ?_
        · intro wz hz hF
          rw [HS.out] at hz
          clear hF
          go_simp
          refine (HO1.out _ hz).mono ?_
          rintro e w2 ⟨r, rfl, hr, hc, hE1⟩
          exact ⟨_, rfl, ⟨r, rfl, hr, hc⟩, hE1⟩
        intro v5
        refine hK _ _ ?_
        clear hK K
        refine wpX_step (fun K hK => ?_)
        go_simp
        refine StepY.det (by rw [HSP.out]; rfl) ?_ ?_
        · intro wz hz hF
          obtain ⟨wa', ea, r, hv1, hr, hc⟩ := hF.any 22 (by kernel_rfl) (by rw [HSP.out]; rfl)
          clear hF hz
          simp only [asFun, List.nil_append, List.cons_append, List.getD_cons_succ, List.getD_cons_zero] at hv1
          subst hv1
          go_simp
          refine (HBT.out r _ hr).mono ?_
          rintro e w5 ⟨rfl, rfl⟩
          exact ⟨_, rfl, by rw [hc]; rfl, Ext.refl _⟩
        refine hK _ _ ?_
        clear hK K
        iterate 2
          refine wpX_step (fun K hK => ?_)
          go_simp
          refine StepY.det (by rw [HSP.out]; rfl) ?_ ?_
          · intro wz hz hF
            clear hz hF
            go_simp
            exact ⟨rfl, Ext.refl _⟩
          refine hK _ _ ?_
          clear hK K
        refine wpX_nil ?_
        intro wq hz hF
        obtain ⟨wa', ea, s2, N2, D2, A2, n2, c2, B2, k2, d2, hv19, HQ2, hR2⟩ := fact_any (hF 19 (by omega)) (by rw [HSP.out]; rfl)
        clear hF
        simp only [asFun, List.nil_append, List.cons_append, List.getD_cons_succ, List.getD_cons_zero] at hv19
        subst hv19
        rw [HS.out] at hz
        have hO := hz
        clear hz HS HSP
        have hf := hO.cells
        simp only [BC, CC, Nat.zero_add, Nat.reduceAdd, and_true] at hf
        have hR2 := hR2.ext ea
        clear hf ea
        go_wp2_with fail
        refine (HO2.out _ hO).mono ?_
        rintro e w2 ⟨r, rfl, hr, hc, hE⟩
        have hO := hO.ext hE
        have hR2 := hR2.ext hE
        clear hE
        go_wp2_with fail
        refine (HBT.out r _ hr).mono ?_
        rintro e w4 ⟨rfl, rfl⟩
        rw [hc]
        clear hr hc
        go_wp2_with fail
        refine (HAQ.out _ _ _ _ _ _ _ _ _ _ HQ2.out hR2).mono ?_
        rintro e w5 ⟨rfl, hE⟩
        have hO := hO.ext hE
        clear hE hR2
        go_wp2_with fail
        refine (HL.out _).mono ?_
        rintro e w5 ⟨rfl, hE⟩
        have hO := hO.ext hE
        clear hE
        go_wp2_with fail
        go_ret
        exact ⟨rfl, hO.toExt⟩

theorem tight_w4 (A : Option Addr) (n c : Nat) (ts : List Tm) (y : Int) (w : World) (h : Trs w A n c ts) (hy1 : -9223372036854775808 ≤ y) (hy2 : y < 9223372036854775808) :
    Calls Try.prog 4 #[.slice A n c, .int .i64 y] w fun e w' => e = .returned (.bool true) ∧ Ext w w' := by
  rcases Nat.lt_or_ge 1000 n with hk | hk
  · exact tight_a A n c ts y w h hy1 hy2 hk
  · exact tight_b A n c ts y w h hy1 hy2 hk
end Go.Proofs.Ytfbjeifhpmdjaaa
