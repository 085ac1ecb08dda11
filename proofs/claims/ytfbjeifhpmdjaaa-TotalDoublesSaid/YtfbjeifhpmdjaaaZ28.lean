/-
  The walk of TotalDoubles. Conditions: those that each theorem names.
-/
import Derived.Test.YtfbjeifhpmdjaaaZ27
import Derived.Test.YtfbjeifhpmdjaaaZ16
namespace Go.Proofs.Ytfbjeifhpmdjaaa
open Go.RowKit Nm Rn
set_option maxRecDepth 100000
set_option linter.unusedVariables false
set_option linter.unusedSimpArgs false

set_option maxHeartbeats 8000000 in
theorem doubles_a (d : Int) (x : Nat) (k : Int) (w : World) (hx : x < 18446744073709551616) (h1 : k < 0) :
    Calls Try.prog 5 #[.int .i64 d, .int .u64 (x : Int), .int .i64 k] w fun e w' => e = .returned (.bool true) ∧ Ext w w' := by
  have HL := Lib.hid (fun w => lives4_any w)
  have HNU := Lib.hid (fun w => num4_any x w hx)
  have HBT := Lib.hid (fun r w h => bits4_any r w h)
  obtain ⟨X, hXe⟩ : ∃ X, X = numP x := ⟨_, rfl⟩
  have hX : X < 18446744073709551616 := by rw [hXe]; exact numP_lt hx
  have hfin : mg X < infR := by rw [hXe]; exact numP_fin x
  rw [← hXe] at HNU
  clear hXe hx
  have HFX := Lib.hid (fun w => fl4_any X w)
  have HOK := Lib.hid (dbl_ok hX)
  have hs0 : (dbl X 62).state = 0 := dbl_lo hfin (by omega)
  obtain ⟨RV, hRV⟩ : ∃ V, V = (dbl X 62).round d := ⟨_, rfl⟩
  have hRV2 : RV = ofR d (sg X && decide (mg X ≠ 0)) (fbN X * 2 ^ 62) (1 - (bl (fbD X) : Int)) := by rw [hRV, dbl_of hfin (by omega)]; unfold Sm.round; rw [if_neg (by rw [hs0]; decide)]
  have HRV := Lib.hid hRV
  have HFB := Lib.hid (fun w => frombits_any X w hX)
  have hnw1 := fbN_bits X
  have hnw2 := fbD_bits X
  have hLF := fun A l c w (h : Wds w A l c (nd (fbN X))) => left_any A l c (nd (fbN X)) 62 w h (by have := h.len; rw [nd_length] at this; omega) (by omega)
  have hLN := fun A l c w (h : Wds w A l c (nd (fbD X))) => len_any A l c (nd (fbD X)) w h (by have := h.len; rw [nd_length] at this; omega)
  simp only [nv_nd] at hLF hLN
  have hnw3 : nw (fbN X * 2 ^ 62) ≤ 50 := by
    rw [nw_bl] at hnw1 ⊢
    by_cases h0 : fbN X = 0
    · rw [h0, Nat.zero_mul]; exact Nat.zero_le _
    · rw [bl_mul_pow 62 h0]; omega
  obtain ⟨sx, hsx⟩ : ∃ s, s = (sg X && decide (mg X ≠ 0)) := ⟨_, rfl⟩
  obtain ⟨NK, hNK⟩ : ∃ z, z = fbN X * 2 ^ 62 := ⟨_, rfl⟩
  obtain ⟨LD, hLD⟩ : ∃ z, z = bl (fbD X) := ⟨_, rfl⟩
  rw [← hsx, ← hNK, ← hLD] at hRV2
  rw [← hNK] at hnw3 hLF
  rw [← hLD] at hLN
  rw [← hsx] at HFB
  have hLD2 : LD ≤ 1280 := by rw [nw_bl] at hnw2; omega
  generalize fbN X = N at *
  generalize fbD X = D at *
  have hOF := fun A l c w (h : Wds w A l c (nd NK)) => rof_any d sx A l c (nd NK) (1 - (LD : Int)) w h (by have := h.len; rw [nd_length] at this; omega)
  simp only [nv_nd] at hOF
  rw [← hRV2] at hOF
  have HOF := Lib.hid hOF
  have HLF := Lib.hid (fun (w : World) {A : Option Addr} {l c : Nat} h => hLF A l c w h)
  have HLN := Lib.hid (fun (w : World) {A : Option Addr} {l c : Nat} h => hLN A l c w h)
  have hw1 : IntKind.i64.wrap (1 - (LD : Int)) = 1 - (LD : Int) := by rw [IntKind.wrap_i64]; omega
  have HS0 := Lib.hid hs0
  clear hOF hLF hLN hnw1 hnw2 hnw3 hNK hLD hsx hRV hRV2 hs0 hLD2
  have q1 : decide (k < 0) = true := decide_eq_true h1
  clear h1
  have HTD := Lib.hid hX
  clear hfin hX
  have hf : True := trivial
  go_enter Try.func5, Try.ntmps5
  go_wp2_with (first | (go_at_call 9; (with_reducible refine (HL.out _).mono ?_); rintro e w1 ⟨rfl, hE⟩; have hO := (Own.start w).ext hE; clear hE) | (go_at_call 13; (with_reducible refine (HNU.out _).mono ?_); rintro e w2 ⟨rfl, rfl⟩) | (go_at_call 10; (with_reducible refine (tnew_any hO).mono ?_); rintro e w2 ⟨g, rfl, hO2⟩; clear hO; have hO := hO2; clear hO2) | (go_at_call 12; (with_reducible refine (HFX.out _).mono ?_); rintro e w3 ⟨rfl, rfl⟩) | (go_at_call 11; (with_reducible refine (tadd_any _ X nil_t HTD.out hO).mono ?_); rintro e w4 ⟨rfl, hO2⟩; clear hO; have hO : Own w [⟨g, 36, (dbl X 0).cs⟩] [] w4 := hO2; clear hO2))
  go_loopw [8] (fun kv wr => ∃ i : Nat, kv = .int .i64 (i : Int) ∧ i ≤ 62 ∧ Own w [⟨g, 36, (dbl X i).cs⟩] [] wr) (fun kv _ => 62 - (intOf kv).toNat)
  case atStart => exact ⟨0, rfl, Nat.zero_le _, hO⟩
  case round =>
    obtain ⟨i, rfl, hiK, hOr⟩ := hrel
    clear hO
    by_cases hlt : i < 62
    · have d0 : decide ((i : Int) < 62) = true := decide_eq_true (by omega)
      have HM := Lib.hid (tmerge_self (dbl X i) (HOK.out i).1 hOr)
      go_wp2_with (go_at_call 29; (with_reducible refine HM.out.mono ?_); rintro e w2 ⟨rfl, hO2⟩; clear HM hOr; have hOr : Own w [⟨g, 36, (dbl X (i + 1)).cs⟩] [] w2 := hO2; clear hO2)
      go_roundw
      case rel => exact ⟨i + 1, by go_num, by omega, hOr⟩
      case measure => simp [intOf]; omega
    · have hie : i = 62 := by omega
      have hO := hOr
      rw [hie] at hO
      have d0 : decide ((i : Int) < 62) = false := decide_eq_false (by omega)
      clear hOr hie hiK
      have HST := Lib.hid (fun w1 {L : List Bx} {W : List Sw} h => tstate_S (w0 := w) (w := w1) (L := L) (W := W) (g := g) (dbl X 62) h)
      have hRD := fun w1 {L : List Bx} {W : List Sw} h => tround_any (w0 := w) (w := w1) (L := L) (W := W) (g := g) (dbl X 62) d (fun h => (HOK.out 62).fit h) h
      rw [← HRV.out] at hRD
      have HRD := Lib.hid hRD
      clear hRD
      have hs0 := HS0.out
      go_upto_region 15 with (first | (go_at_call 22; (with_reducible refine (HFB.out _).mono ?_); rintro e w2 ⟨A, l, c, B, k, d9, rfl, hW1, hW2, hE⟩; have hO := ((hO.ext hE).add hW1).add hW2; clear hW1 hW2 hE; clear hf; have hf := hO.cells; simp only [BC, CC, Nat.zero_add, Nat.reduceAdd, and_true] at hf) | ((with_reducible refine at_alloc ?_); refine own_alloc hO zero_rat rfl rfl ?_; clear hO; intro g9 w7 hO; clear hf; have hf := hO.cells; simp only [BC, CC, Nat.zero_add, Nat.reduceAdd, and_true] at hf) | ((with_reducible refine at_store (T := 43) ?_); refine own_store (T := 43) hO 0 rfl rfl rfl size_rat rfl rfl rfl ?_; clear hO; intro w8 hO; simp only [List.set_cons_zero, List.set_cons_succ, spl, List.take_succ_cons, List.take_zero, List.nil_append, List.cons_append, List.length_cons, List.length_nil, List.drop_succ_cons, List.drop_zero, List.drop_nil, Nat.reduceAdd, Nat.zero_add, List.append_nil] at hO; clear hf; have hf := hO.cells; simp only [BC, CC, Nat.zero_add, Nat.reduceAdd, and_true] at hf))
      obtain ⟨S, hS⟩ : ∃ S : World → Prop, S = Own w [⟨g9, 43, [.bool sx, .slice A l c, .slice B k d9]⟩, ⟨g, 36, (dbl X 62).cs⟩] [⟨B, k, d9, nd D⟩, ⟨A, l, c, nd N⟩] := ⟨_, rfl⟩
      have hSE : ∀ w w', S w → Ext w w' → S w' := fun w w' h1 h2 => by rw [hS] at h1 ⊢; exact h1.ext h2
      have hS1 : S w8.drew := by rw [hS]; exact hO.ext (Ext.refl w8).drew
      have HS := Lib.hid hS
      clear hS hO hf
      obtain ⟨sp, hsp⟩ : ∃ sp : Nat → Sp, sp = ofList [det (.pointer (some ⟨g, 0, none⟩)), det (.int .i64 0), det (.bool true), det (.bool true), det (.pointer (some ⟨g, 0, none⟩)), det (.int .i64 d), anyOf (fun v wz => ∃ r, v = .float .f64 r ∧ r < 18446744073709551616 ∧ cn r = RV), det (.int .u64 (RV : Int)), det (.int .i64 d), det (.pointer (some ⟨g9, 0, none⟩)), det (.bool sx), det (.pointer (some ⟨g9, 1, none⟩)), det (.slice A l c), det (.int .i64 62), anyOf (fun v wz => ∃ A l c, v = .slice A l c ∧ Wds wz A l c (nd NK)), det (.pointer (some ⟨g9, 2, none⟩)), det (.slice B k d9), det (.int .i64 (LD : Int)), det (.int .i64 (1 - (LD : Int)))] := ⟨_, rfl⟩
      have HSP := Lib.hid hsp
      clear hsp
      refine wp_region_loose 19 S sp (by kernel_rfl) (by kernel_rfl) hS1 hSE ?_
      simp only [List.take_succ_cons, List.take_zero, List.drop_succ_cons, List.drop_zero]
      refine wpX_step (fun K hK => ?_)
      go_simp
      refine StepY.det (by rw [HSP.out]; rfl) ?_ ?_
      · intro wz hz hF
        clear hz hF
        go_simp
        exact ⟨rfl, Ext.refl _⟩
      refine hK _ _ ?_
      clear hK K
      refine wpX_step (fun K hK => ?_)
      go_simp
      refine StepY.det (by rw [HSP.out]; rfl) ?_ ?_
      · intro wz hz hF
        rw [HS.out] at hz
        have hz2 := hz.swap
        clear hz hF
        go_simp
        refine (HST.out _ hz2).mono ?_
        rintro e w5 ⟨rfl, rfl⟩
        exact ⟨_, rfl, val_int hs0, Ext.refl _⟩
      refine hK _ _ ?_
      clear hK K
      iterate 4
        refine wpX_step (fun K hK => ?_)
        go_simp
        refine StepY.det (by rw [HSP.out]; rfl) ?_ ?_
        · intro wz hz hF
          clear hz hF
          go_simp
          exact ⟨rfl, Ext.refl _⟩
        refine hK _ _ ?_
        clear hK K
      refine wpX_step (fun K hK => ?_)
      go_simp
      refine StepY.any (by rw [HSP.out]; rfl) ?_ ?_
      · intro wz hz hF
        rw [HS.out] at hz
        have hz2 := hz.swap
        clear hF hz
        go_simp
        refine (HRD.out _ hz2).mono ?_
        rintro e w2 ⟨r, rfl, hr, hc, hE1⟩
        exact ⟨_, rfl, ⟨r, rfl, hr, hc⟩, hE1⟩
      intro v1
      refine hK _ _ ?_
      clear hK K
      refine wpX_step (fun K hK => ?_)
      go_simp
      refine StepY.det (by rw [HSP.out]; rfl) ?_ ?_
      · intro wz hz hF
        obtain ⟨wa', ea, r, hv1, hr, hc⟩ := hF.any 6 (by kernel_rfl) (by rw [HSP.out]; rfl)
        clear hF hz
        simp only [asFun, List.nil_append, List.cons_append, List.getD_cons_succ, List.getD_cons_zero] at hv1
        subst hv1
        go_simp
        refine (HBT.out r _ hr).mono ?_
        rintro e w5 ⟨rfl, rfl⟩
        exact ⟨_, rfl, by rw [hc]; rfl, Ext.refl _⟩
      refine hK _ _ ?_
      clear hK K
      iterate 6
        refine wpX_step (fun K hK => ?_)
        go_simp
        refine StepY.det (by rw [HSP.out]; rfl) ?_ ?_
        · intro wz hz hF
          rw [HS.out] at hz
          have hf := hz.cells
          simp only [BC, CC, Nat.zero_add, Nat.reduceAdd, and_true] at hf
          clear hz hF
          go_simp
          exact ⟨rfl, Ext.refl _⟩
        refine hK _ _ ?_
        clear hK K
      refine wpX_step (fun K hK => ?_)
      go_simp
      refine StepY.any (by rw [HSP.out]; rfl) ?_ ?_
      · intro wz hz hF
        rw [HS.out] at hz
        have hW := hz.wd 1 rfl
        clear hz hF
        go_simp
        refine (HLF.out _ hW).mono ?_
        rintro e w2 ⟨A2, l2, c2, rfl, hW2, hE⟩
        exact ⟨_, rfl, ⟨A2, l2, c2, rfl, hW2⟩, hE⟩
      intro v2
      refine hK _ _ ?_
      clear hK K
      iterate 2
        refine wpX_step (fun K hK => ?_)
        go_simp
        refine StepY.det (by rw [HSP.out]; rfl) ?_ ?_
        · intro wz hz hF
          rw [HS.out] at hz
          have hf := hz.cells
          simp only [BC, CC, Nat.zero_add, Nat.reduceAdd, and_true] at hf
          clear hz hF
          go_simp
          exact ⟨rfl, Ext.refl _⟩
        refine hK _ _ ?_
        clear hK K
      refine wpX_step (fun K hK => ?_)
      go_simp
      refine StepY.det (by rw [HSP.out]; rfl) ?_ ?_
      · intro wz hz hF
        rw [HS.out] at hz
        have hW := hz.wd 0 rfl
        clear hz hF
        go_simp
        refine (HLN.out _ hW).mono ?_
        rintro e w2 ⟨rfl, rfl⟩
        exact ⟨_, rfl, rfl, Ext.refl _⟩
      refine hK _ _ ?_
      clear hK K
      refine wpX_step (fun K hK => ?_)
      go_simp
      refine StepY.det (by rw [HSP.out]; rfl) ?_ ?_
      · intro wz hz hF
        clear hz hF
        go_simp
        exact ⟨rfl, Ext.refl _⟩
      refine hK _ _ ?_
      clear hK K
      refine wpX_nil ?_
      intro wq hz hF
      obtain ⟨wa, ea, A5, n5, c5, hv1, hw1⟩ := fact_any (hF 14 (by omega)) (by rw [HSP.out]; rfl)
      clear hF
      simp only [asFun, List.nil_append, List.cons_append, List.getD_cons_succ, List.getD_cons_zero] at hv1
      subst hv1
      rw [HS.out] at hz
      have hO := hz
      clear hz HS HSP
      have hf := hO.cells
      simp only [BC, CC, Nat.zero_add, Nat.reduceAdd, and_true] at hf
      go_wp2_with fail
      refine (HOF.out _ _ _ _ (hw1.ext ea)).mono ?_
      rintro e w9 ⟨r2, rfl, hr2, hc2, hE2⟩
      have hO := hO.ext hE2
      clear hE2 hf
      go_wp2_with fail
      refine (HBT.out r2 _ hr2).mono ?_
      rintro e w9 ⟨rfl, rfl⟩
      rw [hc2]
      clear hr2 hc2
      go_wp2_with fail
      refine (lives4_any _).mono ?_
      rintro e w10 ⟨rfl, hE⟩
      have hO := hO.ext hE
      clear hE
      go_wp2_with fail
      go_ret
      exact ⟨rfl, hO.toExt⟩

set_option maxHeartbeats 8000000 in
theorem doubles_b (d : Int) (x : Nat) (k : Int) (w : World) (hx : x < 18446744073709551616) (h1 : 70 < k) :
    Calls Try.prog 5 #[.int .i64 d, .int .u64 (x : Int), .int .i64 k] w fun e w' => e = .returned (.bool true) ∧ Ext w w' := by
  have HL := Lib.hid (fun w => lives4_any w)
  have HNU := Lib.hid (fun w => num4_any x w hx)
  have HBT := Lib.hid (fun r w h => bits4_any r w h)
  obtain ⟨X, hXe⟩ : ∃ X, X = numP x := ⟨_, rfl⟩
  have hX : X < 18446744073709551616 := by rw [hXe]; exact numP_lt hx
  have hfin : mg X < infR := by rw [hXe]; exact numP_fin x
  rw [← hXe] at HNU
  clear hXe hx
  have HFX := Lib.hid (fun w => fl4_any X w)
  have HOK := Lib.hid (dbl_ok hX)
  have hs0 : (dbl X 62).state = 0 := dbl_lo hfin (by omega)
  obtain ⟨RV, hRV⟩ : ∃ V, V = (dbl X 62).round d := ⟨_, rfl⟩
  have hRV2 : RV = ofR d (sg X && decide (mg X ≠ 0)) (fbN X * 2 ^ 62) (1 - (bl (fbD X) : Int)) := by rw [hRV, dbl_of hfin (by omega)]; unfold Sm.round; rw [if_neg (by rw [hs0]; decide)]
  have HRV := Lib.hid hRV
  have HFB := Lib.hid (fun w => frombits_any X w hX)
  have hnw1 := fbN_bits X
  have hnw2 := fbD_bits X
  have hLF := fun A l c w (h : Wds w A l c (nd (fbN X))) => left_any A l c (nd (fbN X)) 62 w h (by have := h.len; rw [nd_length] at this; omega) (by omega)
  have hLN := fun A l c w (h : Wds w A l c (nd (fbD X))) => len_any A l c (nd (fbD X)) w h (by have := h.len; rw [nd_length] at this; omega)
  simp only [nv_nd] at hLF hLN
  have hnw3 : nw (fbN X * 2 ^ 62) ≤ 50 := by
    rw [nw_bl] at hnw1 ⊢
    by_cases h0 : fbN X = 0
    · rw [h0, Nat.zero_mul]; exact Nat.zero_le _
    · rw [bl_mul_pow 62 h0]; omega
  obtain ⟨sx, hsx⟩ : ∃ s, s = (sg X && decide (mg X ≠ 0)) := ⟨_, rfl⟩
  obtain ⟨NK, hNK⟩ : ∃ z, z = fbN X * 2 ^ 62 := ⟨_, rfl⟩
  obtain ⟨LD, hLD⟩ : ∃ z, z = bl (fbD X) := ⟨_, rfl⟩
  rw [← hsx, ← hNK, ← hLD] at hRV2
  rw [← hNK] at hnw3 hLF
  rw [← hLD] at hLN
  rw [← hsx] at HFB
  have hLD2 : LD ≤ 1280 := by rw [nw_bl] at hnw2; omega
  generalize fbN X = N at *
  generalize fbD X = D at *
  have hOF := fun A l c w (h : Wds w A l c (nd NK)) => rof_any d sx A l c (nd NK) (1 - (LD : Int)) w h (by have := h.len; rw [nd_length] at this; omega)
  simp only [nv_nd] at hOF
  rw [← hRV2] at hOF
  have HOF := Lib.hid hOF
  have HLF := Lib.hid (fun (w : World) {A : Option Addr} {l c : Nat} h => hLF A l c w h)
  have HLN := Lib.hid (fun (w : World) {A : Option Addr} {l c : Nat} h => hLN A l c w h)
  have hw1 : IntKind.i64.wrap (1 - (LD : Int)) = 1 - (LD : Int) := by rw [IntKind.wrap_i64]; omega
  have HS0 := Lib.hid hs0
  clear hOF hLF hLN hnw1 hnw2 hnw3 hNK hLD hsx hRV hRV2 hs0 hLD2
  have q1 : decide (k < 0) = false := decide_eq_false (by omega)
  have q2 : decide (70 < k) = true := decide_eq_true h1
  clear h1
  have HTD := Lib.hid hX
  clear hfin hX
  have hf : True := trivial
  go_enter Try.func5, Try.ntmps5
  go_wp2_with (first | (go_at_call 9; (with_reducible refine (HL.out _).mono ?_); rintro e w1 ⟨rfl, hE⟩; have hO := (Own.start w).ext hE; clear hE) | (go_at_call 13; (with_reducible refine (HNU.out _).mono ?_); rintro e w2 ⟨rfl, rfl⟩) | (go_at_call 10; (with_reducible refine (tnew_any hO).mono ?_); rintro e w2 ⟨g, rfl, hO2⟩; clear hO; have hO := hO2; clear hO2) | (go_at_call 12; (with_reducible refine (HFX.out _).mono ?_); rintro e w3 ⟨rfl, rfl⟩) | (go_at_call 11; (with_reducible refine (tadd_any _ X nil_t HTD.out hO).mono ?_); rintro e w4 ⟨rfl, hO2⟩; clear hO; have hO : Own w [⟨g, 36, (dbl X 0).cs⟩] [] w4 := hO2; clear hO2))
  go_loopw [8] (fun kv wr => ∃ i : Nat, kv = .int .i64 (i : Int) ∧ i ≤ 62 ∧ Own w [⟨g, 36, (dbl X i).cs⟩] [] wr) (fun kv _ => 62 - (intOf kv).toNat)
  case atStart => exact ⟨0, rfl, Nat.zero_le _, hO⟩
  case round =>
    obtain ⟨i, rfl, hiK, hOr⟩ := hrel
    clear hO
    by_cases hlt : i < 62
    · have d0 : decide ((i : Int) < 62) = true := decide_eq_true (by omega)
      have HM := Lib.hid (tmerge_self (dbl X i) (HOK.out i).1 hOr)
      go_wp2_with (go_at_call 29; (with_reducible refine HM.out.mono ?_); rintro e w2 ⟨rfl, hO2⟩; clear HM hOr; have hOr : Own w [⟨g, 36, (dbl X (i + 1)).cs⟩] [] w2 := hO2; clear hO2)
      go_roundw
      case rel => exact ⟨i + 1, by go_num, by omega, hOr⟩
      case measure => simp [intOf]; omega
    · have hie : i = 62 := by omega
      have hO := hOr
      rw [hie] at hO
      have d0 : decide ((i : Int) < 62) = false := decide_eq_false (by omega)
      clear hOr hie hiK
      have HST := Lib.hid (fun w1 {L : List Bx} {W : List Sw} h => tstate_S (w0 := w) (w := w1) (L := L) (W := W) (g := g) (dbl X 62) h)
      have hRD := fun w1 {L : List Bx} {W : List Sw} h => tround_any (w0 := w) (w := w1) (L := L) (W := W) (g := g) (dbl X 62) d (fun h => (HOK.out 62).fit h) h
      rw [← HRV.out] at hRD
      have HRD := Lib.hid hRD
      clear hRD
      have hs0 := HS0.out
      go_upto_region 15 with (first | (go_at_call 22; (with_reducible refine (HFB.out _).mono ?_); rintro e w2 ⟨A, l, c, B, k, d9, rfl, hW1, hW2, hE⟩; have hO := ((hO.ext hE).add hW1).add hW2; clear hW1 hW2 hE; clear hf; have hf := hO.cells; simp only [BC, CC, Nat.zero_add, Nat.reduceAdd, and_true] at hf) | ((with_reducible refine at_alloc ?_); refine own_alloc hO zero_rat rfl rfl ?_; clear hO; intro g9 w7 hO; clear hf; have hf := hO.cells; simp only [BC, CC, Nat.zero_add, Nat.reduceAdd, and_true] at hf) | ((with_reducible refine at_store (T := 43) ?_); refine own_store (T := 43) hO 0 rfl rfl rfl size_rat rfl rfl rfl ?_; clear hO; intro w8 hO; simp only [List.set_cons_zero, List.set_cons_succ, spl, List.take_succ_cons, List.take_zero, List.nil_append, List.cons_append, List.length_cons, List.length_nil, List.drop_succ_cons, List.drop_zero, List.drop_nil, Nat.reduceAdd, Nat.zero_add, List.append_nil] at hO; clear hf; have hf := hO.cells; simp only [BC, CC, Nat.zero_add, Nat.reduceAdd, and_true] at hf))
      obtain ⟨S, hS⟩ : ∃ S : World → Prop, S = Own w [⟨g9, 43, [.bool sx, .slice A l c, .slice B k d9]⟩, ⟨g, 36, (dbl X 62).cs⟩] [⟨B, k, d9, nd D⟩, ⟨A, l, c, nd N⟩] := ⟨_, rfl⟩
      have hSE : ∀ w w', S w → Ext w w' → S w' := fun w w' h1 h2 => by rw [hS] at h1 ⊢; exact h1.ext h2
      have hS1 : S w8.drew := by rw [hS]; exact hO.ext (Ext.refl w8).drew
      have HS := Lib.hid hS
      clear hS hO hf
      obtain ⟨sp, hsp⟩ : ∃ sp : Nat → Sp, sp = ofList [det (.pointer (some ⟨g, 0, none⟩)), det (.int .i64 0), det (.bool true), det (.bool true), det (.pointer (some ⟨g, 0, none⟩)), det (.int .i64 d), anyOf (fun v wz => ∃ r, v = .float .f64 r ∧ r < 18446744073709551616 ∧ cn r = RV), det (.int .u64 (RV : Int)), det (.int .i64 d), det (.pointer (some ⟨g9, 0, none⟩)), det (.bool sx), det (.pointer (some ⟨g9, 1, none⟩)), det (.slice A l c), det (.int .i64 62), anyOf (fun v wz => ∃ A l c, v = .slice A l c ∧ Wds wz A l c (nd NK)), det (.pointer (some ⟨g9, 2, none⟩)), det (.slice B k d9), det (.int .i64 (LD : Int)), det (.int .i64 (1 - (LD : Int)))] := ⟨_, rfl⟩
      have HSP := Lib.hid hsp
      clear hsp
      refine wp_region_loose 19 S sp (by kernel_rfl) (by kernel_rfl) hS1 hSE ?_
      simp only [List.take_succ_cons, List.take_zero, List.drop_succ_cons, List.drop_zero]
      refine wpX_step (fun K hK => ?_)
      go_simp
      refine StepY.det (by rw [HSP.out]; rfl) ?_ ?_
      · intro wz hz hF
        clear hz hF
        go_simp
        exact ⟨rfl, Ext.refl _⟩
      refine hK _ _ ?_
      clear hK K
      refine wpX_step (fun K hK => ?_)
      go_simp
      refine StepY.det (by rw [HSP.out]; rfl) ?_ ?_
      · intro wz hz hF
        rw [HS.out] at hz
        have hz2 := hz.swap
        clear hz hF
        go_simp
        refine (HST.out _ hz2).mono ?_
        rintro e w5 ⟨rfl, rfl⟩
        exact ⟨_, rfl, val_int hs0, Ext.refl _⟩
      refine hK _ _ ?_
      clear hK K
      iterate 4
        refine wpX_step (fun K hK => ?_)
        go_simp
        refine StepY.det (by rw [HSP.out]; rfl) ?_ ?_
        · intro wz hz hF
          clear hz hF
          go_simp
          exact ⟨rfl, Ext.refl _⟩
        refine hK _ _ ?_
        clear hK K
      refine wpX_step (fun K hK => ?_)
      go_simp
      refine StepY.any (by rw [HSP.out]; rfl) ?_ ?_
      · intro wz hz hF
        rw [HS.out] at hz
        have hz2 := hz.swap
        clear hF hz
        go_simp
        refine (HRD.out _ hz2).mono ?_
        rintro e w2 ⟨r, rfl, hr, hc, hE1⟩
        exact ⟨_, rfl, ⟨r, rfl, hr, hc⟩, hE1⟩
      intro v1
      refine hK _ _ ?_
      clear hK K
      refine wpX_step (fun K hK => ?_)
      go_simp
      refine StepY.det (by rw [HSP.out]; rfl) ?_ ?_
      · intro wz hz hF
        obtain ⟨wa', ea, r, hv1, hr, hc⟩ := hF.any 6 (by kernel_rfl) (by rw [HSP.out]; rfl)
        clear hF hz
        simp only [asFun, List.nil_append, List.cons_append, List.getD_cons_succ, List.getD_cons_zero] at hv1
        subst hv1
        go_simp
        refine (HBT.out r _ hr).mono ?_
        rintro e w5 ⟨rfl, rfl⟩
        exact ⟨_, rfl, by rw [hc]; rfl, Ext.refl _⟩
      refine hK _ _ ?_
      clear hK K
      iterate 6
        refine wpX_step (fun K hK => ?_)
        go_simp
        refine StepY.det (by rw [HSP.out]; rfl) ?_ ?_
        · intro wz hz hF
          rw [HS.out] at hz
          have hf := hz.cells
          simp only [BC, CC, Nat.zero_add, Nat.reduceAdd, and_true] at hf
          clear hz hF
          go_simp
          exact ⟨rfl, Ext.refl _⟩
        refine hK _ _ ?_
        clear hK K
      refine wpX_step (fun K hK => ?_)
      go_simp
      refine StepY.any (by rw [HSP.out]; rfl) ?_ ?_
      · intro wz hz hF
        rw [HS.out] at hz
        have hW := hz.wd 1 rfl
        clear hz hF
        go_simp
        refine (HLF.out _ hW).mono ?_
        rintro e w2 ⟨A2, l2, c2, rfl, hW2, hE⟩
        exact ⟨_, rfl, ⟨A2, l2, c2, rfl, hW2⟩, hE⟩
      intro v2
      refine hK _ _ ?_
      clear hK K
      iterate 2
        refine wpX_step (fun K hK => ?_)
        go_simp
        refine StepY.det (by rw [HSP.out]; rfl) ?_ ?_
        · intro wz hz hF
          rw [HS.out] at hz
          have hf := hz.cells
          simp only [BC, CC, Nat.zero_add, Nat.reduceAdd, and_true] at hf
          clear hz hF
          go_simp
          exact ⟨rfl, Ext.refl _⟩
        refine hK _ _ ?_
        clear hK K
      refine wpX_step (fun K hK => ?_)
      go_simp
      refine StepY.det (by rw [HSP.out]; rfl) ?_ ?_
      · intro wz hz hF
        rw [HS.out] at hz
        have hW := hz.wd 0 rfl
        clear hz hF
        go_simp
        refine (HLN.out _ hW).mono ?_
        rintro e w2 ⟨rfl, rfl⟩
        exact ⟨_, rfl, rfl, Ext.refl _⟩
      refine hK _ _ ?_
      clear hK K
      refine wpX_step (fun K hK => ?_)
      go_simp
      refine StepY.det (by rw [HSP.out]; rfl) ?_ ?_
      · intro wz hz hF
        clear hz hF
        go_simp
        exact ⟨rfl, Ext.refl _⟩
      refine hK _ _ ?_
      clear hK K
      refine wpX_nil ?_
      intro wq hz hF
      obtain ⟨wa, ea, A5, n5, c5, hv1, hw1⟩ := fact_any (hF 14 (by omega)) (by rw [HSP.out]; rfl)
      clear hF
      simp only [asFun, List.nil_append, List.cons_append, List.getD_cons_succ, List.getD_cons_zero] at hv1
      subst hv1
      rw [HS.out] at hz
      have hO := hz
      clear hz HS HSP
      have hf := hO.cells
      simp only [BC, CC, Nat.zero_add, Nat.reduceAdd, and_true] at hf
      go_wp2_with fail
      refine (HOF.out _ _ _ _ (hw1.ext ea)).mono ?_
      rintro e w9 ⟨r2, rfl, hr2, hc2, hE2⟩
      have hO := hO.ext hE2
      clear hE2 hf
      go_wp2_with fail
      refine (HBT.out r2 _ hr2).mono ?_
      rintro e w9 ⟨rfl, rfl⟩
      rw [hc2]
      clear hr2 hc2
      go_wp2_with fail
      refine (lives4_any _).mono ?_
      rintro e w10 ⟨rfl, hE⟩
      have hO := hO.ext hE
      clear hE
      go_wp2_with fail
      go_ret
      exact ⟨rfl, hO.toExt⟩

set_option maxHeartbeats 8000000 in
theorem doubles_c (d : Int) (x : Nat) (k : Int) (K : Nat) (w : World) (hx : x < 18446744073709551616) (hk : k = (K : Int)) (h1 : K ≤ 62) :
    Calls Try.prog 5 #[.int .i64 d, .int .u64 (x : Int), .int .i64 k] w fun e w' => e = .returned (.bool true) ∧ Ext w w' := by
  have HL := Lib.hid (fun w => lives4_any w)
  have HNU := Lib.hid (fun w => num4_any x w hx)
  have HBT := Lib.hid (fun r w h => bits4_any r w h)
  obtain ⟨X, hXe⟩ : ∃ X, X = numP x := ⟨_, rfl⟩
  have hX : X < 18446744073709551616 := by rw [hXe]; exact numP_lt hx
  have hfin : mg X < infR := by rw [hXe]; exact numP_fin x
  rw [← hXe] at HNU
  clear hXe hx
  have HFX := Lib.hid (fun w => fl4_any X w)
  have HOK := Lib.hid (dbl_ok hX)
  have hs0 : (dbl X K).state = 0 := dbl_lo hfin (by omega)
  obtain ⟨RV, hRV⟩ : ∃ V, V = (dbl X K).round d := ⟨_, rfl⟩
  have hRV2 : RV = ofR d (sg X && decide (mg X ≠ 0)) (fbN X * 2 ^ K) (1 - (bl (fbD X) : Int)) := by rw [hRV, dbl_of hfin (by omega)]; unfold Sm.round; rw [if_neg (by rw [hs0]; decide)]
  have HRV := Lib.hid hRV
  have HFB := Lib.hid (fun w => frombits_any X w hX)
  have hnw1 := fbN_bits X
  have hnw2 := fbD_bits X
  have hLF := fun A l c w (h : Wds w A l c (nd (fbN X))) => left_any A l c (nd (fbN X)) K w h (by have := h.len; rw [nd_length] at this; omega) (by omega)
  have hLN := fun A l c w (h : Wds w A l c (nd (fbD X))) => len_any A l c (nd (fbD X)) w h (by have := h.len; rw [nd_length] at this; omega)
  simp only [nv_nd] at hLF hLN
  have hnw3 : nw (fbN X * 2 ^ K) ≤ 50 := by
    rw [nw_bl] at hnw1 ⊢
    by_cases h0 : fbN X = 0
    · rw [h0, Nat.zero_mul]; exact Nat.zero_le _
    · rw [bl_mul_pow K h0]; omega
  obtain ⟨sx, hsx⟩ : ∃ s, s = (sg X && decide (mg X ≠ 0)) := ⟨_, rfl⟩
  obtain ⟨NK, hNK⟩ : ∃ z, z = fbN X * 2 ^ K := ⟨_, rfl⟩
  obtain ⟨LD, hLD⟩ : ∃ z, z = bl (fbD X) := ⟨_, rfl⟩
  rw [← hsx, ← hNK, ← hLD] at hRV2
  rw [← hNK] at hnw3 hLF
  rw [← hLD] at hLN
  rw [← hsx] at HFB
  have hLD2 : LD ≤ 1280 := by rw [nw_bl] at hnw2; omega
  generalize fbN X = N at *
  generalize fbD X = D at *
  have hOF := fun A l c w (h : Wds w A l c (nd NK)) => rof_any d sx A l c (nd NK) (1 - (LD : Int)) w h (by have := h.len; rw [nd_length] at this; omega)
  simp only [nv_nd] at hOF
  rw [← hRV2] at hOF
  have HOF := Lib.hid hOF
  have HLF := Lib.hid (fun (w : World) {A : Option Addr} {l c : Nat} h => hLF A l c w h)
  have HLN := Lib.hid (fun (w : World) {A : Option Addr} {l c : Nat} h => hLN A l c w h)
  have hw1 : IntKind.i64.wrap (1 - (LD : Int)) = 1 - (LD : Int) := by rw [IntKind.wrap_i64]; omega
  have HS0 := Lib.hid hs0
  clear hOF hLF hLN hnw1 hnw2 hnw3 hNK hLD hsx hRV hRV2 hs0 hLD2
  have q1 : decide (k < 0) = false := decide_eq_false (by omega)
  have q2 : decide (70 < k) = false := decide_eq_false (by omega)
  have q3 : decide (62 < (K : Int)) = false := decide_eq_false (by omega)
  subst hk
  have hKb : K ≤ 70 := by omega
  clear h1
  have HTD := Lib.hid hX
  clear hfin hX
  have hf : True := trivial
  go_enter Try.func5, Try.ntmps5
  go_wp2_with (first | (go_at_call 9; (with_reducible refine (HL.out _).mono ?_); rintro e w1 ⟨rfl, hE⟩; have hO := (Own.start w).ext hE; clear hE) | (go_at_call 13; (with_reducible refine (HNU.out _).mono ?_); rintro e w2 ⟨rfl, rfl⟩) | (go_at_call 10; (with_reducible refine (tnew_any hO).mono ?_); rintro e w2 ⟨g, rfl, hO2⟩; clear hO; have hO := hO2; clear hO2) | (go_at_call 12; (with_reducible refine (HFX.out _).mono ?_); rintro e w3 ⟨rfl, rfl⟩) | (go_at_call 11; (with_reducible refine (tadd_any _ X nil_t HTD.out hO).mono ?_); rintro e w4 ⟨rfl, hO2⟩; clear hO; have hO : Own w [⟨g, 36, (dbl X 0).cs⟩] [] w4 := hO2; clear hO2))
  go_loopw [8] (fun kv wr => ∃ i : Nat, kv = .int .i64 (i : Int) ∧ i ≤ K ∧ Own w [⟨g, 36, (dbl X i).cs⟩] [] wr) (fun kv _ => K - (intOf kv).toNat)
  case atStart => exact ⟨0, rfl, Nat.zero_le _, hO⟩
  case round =>
    obtain ⟨i, rfl, hiK, hOr⟩ := hrel
    clear hO
    by_cases hlt : i < K
    · have d0 : decide ((i : Int) < (K : Int)) = true := decide_eq_true (by omega)
      have HM := Lib.hid (tmerge_self (dbl X i) (HOK.out i).1 hOr)
      go_wp2_with (go_at_call 29; (with_reducible refine HM.out.mono ?_); rintro e w2 ⟨rfl, hO2⟩; clear HM hOr; have hOr : Own w [⟨g, 36, (dbl X (i + 1)).cs⟩] [] w2 := hO2; clear hO2)
      go_roundw
      case rel => exact ⟨i + 1, by go_num, by omega, hOr⟩
      case measure => simp [intOf]; omega
    · have hie : i = K := by omega
      have hO := hOr
      rw [hie] at hO
      have d0 : decide ((i : Int) < (K : Int)) = false := decide_eq_false (by omega)
      clear hOr hie hiK
      have HST := Lib.hid (fun w1 {L : List Bx} {W : List Sw} h => tstate_S (w0 := w) (w := w1) (L := L) (W := W) (g := g) (dbl X K) h)
      have hRD := fun w1 {L : List Bx} {W : List Sw} h => tround_any (w0 := w) (w := w1) (L := L) (W := W) (g := g) (dbl X K) d (fun h => (HOK.out K).fit h) h
      rw [← HRV.out] at hRD
      have HRD := Lib.hid hRD
      clear hRD
      have hs0 := HS0.out
      go_upto_region 15 with (first | (go_at_call 22; (with_reducible refine (HFB.out _).mono ?_); rintro e w2 ⟨A, l, c, B, k, d9, rfl, hW1, hW2, hE⟩; have hO := ((hO.ext hE).add hW1).add hW2; clear hW1 hW2 hE; clear hf; have hf := hO.cells; simp only [BC, CC, Nat.zero_add, Nat.reduceAdd, and_true] at hf) | ((with_reducible refine at_alloc ?_); refine own_alloc hO zero_rat rfl rfl ?_; clear hO; intro g9 w7 hO; clear hf; have hf := hO.cells; simp only [BC, CC, Nat.zero_add, Nat.reduceAdd, and_true] at hf) | ((with_reducible refine at_store (T := 43) ?_); refine own_store (T := 43) hO 0 rfl rfl rfl size_rat rfl rfl rfl ?_; clear hO; intro w8 hO; simp only [List.set_cons_zero, List.set_cons_succ, spl, List.take_succ_cons, List.take_zero, List.nil_append, List.cons_append, List.length_cons, List.length_nil, List.drop_succ_cons, List.drop_zero, List.drop_nil, Nat.reduceAdd, Nat.zero_add, List.append_nil] at hO; clear hf; have hf := hO.cells; simp only [BC, CC, Nat.zero_add, Nat.reduceAdd, and_true] at hf))
      obtain ⟨S, hS⟩ : ∃ S : World → Prop, S = Own w [⟨g9, 43, [.bool sx, .slice A l c, .slice B k d9]⟩, ⟨g, 36, (dbl X K).cs⟩] [⟨B, k, d9, nd D⟩, ⟨A, l, c, nd N⟩] := ⟨_, rfl⟩
      have hSE : ∀ w w', S w → Ext w w' → S w' := fun w w' h1 h2 => by rw [hS] at h1 ⊢; exact h1.ext h2
      have hS1 : S w8.drew := by rw [hS]; exact hO.ext (Ext.refl w8).drew
      have HS := Lib.hid hS
      clear hS hO hf
      obtain ⟨sp, hsp⟩ : ∃ sp : Nat → Sp, sp = ofList [det (.pointer (some ⟨g, 0, none⟩)), det (.int .i64 0), det (.bool true), det (.bool true), det (.pointer (some ⟨g, 0, none⟩)), det (.int .i64 d), anyOf (fun v wz => ∃ r, v = .float .f64 r ∧ r < 18446744073709551616 ∧ cn r = RV), det (.int .u64 (RV : Int)), det (.int .i64 d), det (.pointer (some ⟨g9, 0, none⟩)), det (.bool sx), det (.pointer (some ⟨g9, 1, none⟩)), det (.slice A l c), det (.int .i64 (K : Int)), anyOf (fun v wz => ∃ A l c, v = .slice A l c ∧ Wds wz A l c (nd NK)), det (.pointer (some ⟨g9, 2, none⟩)), det (.slice B k d9), det (.int .i64 (LD : Int)), det (.int .i64 (1 - (LD : Int)))] := ⟨_, rfl⟩
      have HSP := Lib.hid hsp
      clear hsp
      refine wp_region_loose 19 S sp (by kernel_rfl) (by kernel_rfl) hS1 hSE ?_
      simp only [List.take_succ_cons, List.take_zero, List.drop_succ_cons, List.drop_zero]
      refine wpX_step (fun K hK => ?_)
      go_simp
      refine StepY.det (by rw [HSP.out]; rfl) ?_ ?_
      · intro wz hz hF
        clear hz hF
        go_simp
        exact ⟨rfl, Ext.refl _⟩
      refine hK _ _ ?_
      clear hK K
      refine wpX_step (fun K hK => ?_)
      go_simp
      refine StepY.det (by rw [HSP.out]; rfl) ?_ ?_
      · intro wz hz hF
        rw [HS.out] at hz
        have hz2 := hz.swap
        clear hz hF
        go_simp
        refine (HST.out _ hz2).mono ?_
        rintro e w5 ⟨rfl, rfl⟩
        exact ⟨_, rfl, val_int hs0, Ext.refl _⟩
      refine hK _ _ ?_
      clear hK K
      iterate 4
        refine wpX_step (fun K hK => ?_)
        go_simp
        refine StepY.det (by rw [HSP.out]; rfl) ?_ ?_
        · intro wz hz hF
          clear hz hF
          go_simp
          exact ⟨rfl, Ext.refl _⟩
        refine hK _ _ ?_
        clear hK K
      refine wpX_step (fun K hK => ?_)
      go_simp
      refine StepY.any (by rw [HSP.out]; rfl) ?_ ?_
      · intro wz hz hF
        rw [HS.out] at hz
        have hz2 := hz.swap
        clear hF hz
        go_simp
        refine (HRD.out _ hz2).mono ?_
        rintro e w2 ⟨r, rfl, hr, hc, hE1⟩
        exact ⟨_, rfl, ⟨r, rfl, hr, hc⟩, hE1⟩
      intro v1
      refine hK _ _ ?_
      clear hK K
      refine wpX_step (fun K hK => ?_)
      go_simp
      refine StepY.det (by rw [HSP.out]; rfl) ?_ ?_
      · intro wz hz hF
        obtain ⟨wa', ea, r, hv1, hr, hc⟩ := hF.any 6 (by kernel_rfl) (by rw [HSP.out]; rfl)
        clear hF hz
        simp only [asFun, List.nil_append, List.cons_append, List.getD_cons_succ, List.getD_cons_zero] at hv1
        subst hv1
        go_simp
        refine (HBT.out r _ hr).mono ?_
        rintro e w5 ⟨rfl, rfl⟩
        exact ⟨_, rfl, by rw [hc]; rfl, Ext.refl _⟩
      refine hK _ _ ?_
      clear hK K
      iterate 6
        refine wpX_step (fun K hK => ?_)
        go_simp
        refine StepY.det (by rw [HSP.out]; rfl) ?_ ?_
        · intro wz hz hF
          rw [HS.out] at hz
          have hf := hz.cells
          simp only [BC, CC, Nat.zero_add, Nat.reduceAdd, and_true] at hf
          clear hz hF
          go_simp
          exact ⟨rfl, Ext.refl _⟩
        refine hK _ _ ?_
        clear hK K
      refine wpX_step (fun K hK => ?_)
      go_simp
      refine StepY.any (by rw [HSP.out]; rfl) ?_ ?_
      · intro wz hz hF
        rw [HS.out] at hz
        have hW := hz.wd 1 rfl
        clear hz hF
        go_simp
        refine (HLF.out _ hW).mono ?_
        rintro e w2 ⟨A2, l2, c2, rfl, hW2, hE⟩
        exact ⟨_, rfl, ⟨A2, l2, c2, rfl, hW2⟩, hE⟩
      intro v2
      refine hK _ _ ?_
      clear hK K
      iterate 2
        refine wpX_step (fun K hK => ?_)
        go_simp
        refine StepY.det (by rw [HSP.out]; rfl) ?_ ?_
        · intro wz hz hF
          rw [HS.out] at hz
          have hf := hz.cells
          simp only [BC, CC, Nat.zero_add, Nat.reduceAdd, and_true] at hf
          clear hz hF
          go_simp
          exact ⟨rfl, Ext.refl _⟩
        refine hK _ _ ?_
        clear hK K
      refine wpX_step (fun K hK => ?_)
      go_simp
      refine StepY.det (by rw [HSP.out]; rfl) ?_ ?_
      · intro wz hz hF
        rw [HS.out] at hz
        have hW := hz.wd 0 rfl
        clear hz hF
        go_simp
        refine (HLN.out _ hW).mono ?_
        rintro e w2 ⟨rfl, rfl⟩
        exact ⟨_, rfl, rfl, Ext.refl _⟩
      refine hK _ _ ?_
      clear hK K
      refine wpX_step (fun K hK => ?_)
      go_simp
      refine StepY.det (by rw [HSP.out]; rfl) ?_ ?_
      · intro wz hz hF
        clear hz hF
        go_simp
        exact ⟨rfl, Ext.refl _⟩
      refine hK _ _ ?_
      clear hK K
      refine wpX_nil ?_
      intro wq hz hF
      obtain ⟨wa, ea, A5, n5, c5, hv1, hw1⟩ := fact_any (hF 14 (by omega)) (by rw [HSP.out]; rfl)
      clear hF
      simp only [asFun, List.nil_append, List.cons_append, List.getD_cons_succ, List.getD_cons_zero] at hv1
      subst hv1
      rw [HS.out] at hz
      have hO := hz
      clear hz HS HSP
      have hf := hO.cells
      simp only [BC, CC, Nat.zero_add, Nat.reduceAdd, and_true] at hf
      go_wp2_with fail
      refine (HOF.out _ _ _ _ (hw1.ext ea)).mono ?_
      rintro e w9 ⟨r2, rfl, hr2, hc2, hE2⟩
      have hO := hO.ext hE2
      clear hE2 hf
      go_wp2_with fail
      refine (HBT.out r2 _ hr2).mono ?_
      rintro e w9 ⟨rfl, rfl⟩
      rw [hc2]
      clear hr2 hc2
      go_wp2_with fail
      refine (lives4_any _).mono ?_
      rintro e w10 ⟨rfl, hE⟩
      have hO := hO.ext hE
      clear hE
      go_wp2_with fail
      go_ret
      exact ⟨rfl, hO.toExt⟩

set_option maxHeartbeats 8000000 in
theorem doubles_d (d : Int) (x : Nat) (k : Int) (K : Nat) (w : World) (hx : x < 18446744073709551616) (hk : k = (K : Int)) (h1 : 62 < K) (h2 : K ≤ 70) :
    Calls Try.prog 5 #[.int .i64 d, .int .u64 (x : Int), .int .i64 k] w fun e w' => e = .returned (.bool true) ∧ Ext w w' := by
  have HL := Lib.hid (fun w => lives4_any w)
  have HNU := Lib.hid (fun w => num4_any x w hx)
  have HBT := Lib.hid (fun r w h => bits4_any r w h)
  obtain ⟨X, hXe⟩ : ∃ X, X = numP x := ⟨_, rfl⟩
  have hX : X < 18446744073709551616 := by rw [hXe]; exact numP_lt hx
  have hfin : mg X < infR := by rw [hXe]; exact numP_fin x
  rw [← hXe] at HNU
  clear hXe hx
  have HFX := Lib.hid (fun w => fl4_any X w)
  have HOK := Lib.hid (dbl_ok hX)
  have hs2 : (dbl X K).state = 2 := dbl_hi hfin (by omega)
  have HRN : Hid ((dbl X K).round d = 9221120237041090561) := Lib.hid (by unfold Sm.round Sm.ends; rw [hs2]; rfl)
  have HSN : Hid ((dbl X K).sign = 0) := Lib.hid (by unfold Sm.sign; rw [hs2]; rfl)
  have q1 : decide (k < 0) = false := decide_eq_false (by omega)
  have q2 : decide (70 < k) = false := decide_eq_false (by omega)
  have q3 : decide (62 < (K : Int)) = true := decide_eq_true (by omega)
  subst hk
  have hKb : K ≤ 70 := by omega
  clear h1 h2
  have HTD := Lib.hid hX
  clear hfin hX
  have hf : True := trivial
  go_enter Try.func5, Try.ntmps5
  go_wp2_with (first | (go_at_call 9; (with_reducible refine (HL.out _).mono ?_); rintro e w1 ⟨rfl, hE⟩; have hO := (Own.start w).ext hE; clear hE) | (go_at_call 13; (with_reducible refine (HNU.out _).mono ?_); rintro e w2 ⟨rfl, rfl⟩) | (go_at_call 10; (with_reducible refine (tnew_any hO).mono ?_); rintro e w2 ⟨g, rfl, hO2⟩; clear hO; have hO := hO2; clear hO2) | (go_at_call 12; (with_reducible refine (HFX.out _).mono ?_); rintro e w3 ⟨rfl, rfl⟩) | (go_at_call 11; (with_reducible refine (tadd_any _ X nil_t HTD.out hO).mono ?_); rintro e w4 ⟨rfl, hO2⟩; clear hO; have hO : Own w [⟨g, 36, (dbl X 0).cs⟩] [] w4 := hO2; clear hO2))
  go_loopw [8] (fun kv wr => ∃ i : Nat, kv = .int .i64 (i : Int) ∧ i ≤ K ∧ Own w [⟨g, 36, (dbl X i).cs⟩] [] wr) (fun kv _ => K - (intOf kv).toNat)
  case atStart => exact ⟨0, rfl, Nat.zero_le _, hO⟩
  case round =>
    obtain ⟨i, rfl, hiK, hOr⟩ := hrel
    clear hO
    by_cases hlt : i < K
    · have d0 : decide ((i : Int) < (K : Int)) = true := decide_eq_true (by omega)
      have HM := Lib.hid (tmerge_self (dbl X i) (HOK.out i).1 hOr)
      go_wp2_with (go_at_call 29; (with_reducible refine HM.out.mono ?_); rintro e w2 ⟨rfl, hO2⟩; clear HM hOr; have hOr : Own w [⟨g, 36, (dbl X (i + 1)).cs⟩] [] w2 := hO2; clear hO2)
      go_roundw
      case rel => exact ⟨i + 1, by go_num, by omega, hOr⟩
      case measure => simp [intOf]; omega
    · have hie : i = K := by omega
      have hO := hOr
      rw [hie] at hO
      have d0 : decide ((i : Int) < (K : Int)) = false := decide_eq_false (by omega)
      clear hOr hie hiK
      have HST := Lib.hid (fun w1 h => tstate_S (w0 := w) (w := w1) (L := []) (W := []) (g := g) (dbl X K) h)
      go_wp2_with fail
      refine (HST.out _ hO).mono ?_
      rintro e w3 ⟨rfl, rfl⟩
      rw [hs2]
      go_wp2_with fail
      refine (tround_any (dbl X K) d (fun h => absurd (hs2.symm.trans h) (by decide)) hO).mono ?_
      rintro e w4 ⟨r, rfl, hr, hc, hE⟩
      have hO := hO.ext hE
      clear hE
      go_wp2_with fail
      refine (HBT.out r _ hr).mono ?_
      rintro e w5 ⟨rfl, rfl⟩
      rw [hc, HRN.out]
      clear hr hc
      go_wp2_with fail
      refine (tsign_any (dbl X K) (fun h => absurd (hs2.symm.trans h) (by decide)) hO).mono ?_
      rintro e w5 ⟨rfl, rfl⟩
      rw [HSN.out]
      go_wp2_with fail
      refine (lives4_any _).mono ?_
      rintro e w6 ⟨rfl, hE⟩
      have hO := hO.ext hE
      clear hE
      go_wp2_with fail
      go_ret
      exact ⟨rfl, hO.toExt⟩

theorem doubles_w (d : Int) (x : Nat) (k : Int) (w : World) (hx : x < 18446744073709551616) :
    Calls Try.prog 5 #[.int .i64 d, .int .u64 (x : Int), .int .i64 k] w fun e w' => e = .returned (.bool true) ∧ Ext w w' := by
  rcases Int.lt_or_le k 0 with h1 | h1
  · exact doubles_a d x k w hx h1
  · rcases Int.lt_or_le 70 k with h2 | h2
    · exact doubles_b d x k w hx h2
    · obtain ⟨K, rfl⟩ := Int.eq_ofNat_of_zero_le h1
      rcases Nat.lt_or_ge 62 K with h3 | h3
      · exact doubles_d d x K K w hx rfl h3 (by omega)
      · exact doubles_c d x K K w hx rfl h3
end Go.Proofs.Ytfbjeifhpmdjaaa
