/-
  The contract of the document's quotient of ratios. Conditions: those that each theorem names.
-/
import Derived.Test.YtfbjeifhpmdjaaaGreatP14
import Derived.Test.YtfbjeifhpmdjaaaGreatP33
import Derived.Test.YtfbjeifhpmdjaaaGreatP29
import Derived.Test.YtfbjeifhpmdjaaaGreatP35
import Derived.Test.YtfbjeifhpmdjaaaGreatP37
import Derived.Test.YtfbjeifhpmdjaaaGreatP07
namespace Go.Proofs.YtfbjeifhpmdjaaaGreat
open Go.RowKit Nm Rn
set_option maxRecDepth 100000
set_option linter.unusedVariables false
set_option linter.unusedSimpArgs false

set_option maxHeartbeats 2000000 in
theorem rquoq_any (n m : Bool) (A : Option Addr) (l c : Nat) (B : Option Addr) (k d N D : Nat) (A' : Option Addr) (l' c' : Nat) (B' : Option Addr) (k' d' N' D' : Nat) (w : World)
    (h : RatAt w A l c B k d N D) (h' : RatAt w A' l' c' B' k' d' N' D') (hN : nw N ≤ 1073741824) (hD : nw D ≤ 1073741824) (hN' : nw N' ≤ 1073741824) (hD' : nw D' ≤ 1073741824) (hp : 0 < D * N') :
    Calls Tryz.prog 70 #[.agg #[.bool n, .slice A l c, .slice B k d], .agg #[.bool m, .slice A' l' c', .slice B' k' d']] w (RetR ((n != m) && decide (N * D' ≠ 0)) (fracN (N * D') (D * N') 0) (fracD (N * D') (D * N') 0) w) := by
  have hl := h.lenN
  have hk := h.lenD
  have hl' := h'.lenN
  have hk' := h'.lenD
  have hO := ((((Own.start w).add h.1).add h.2).add h'.1).add h'.2
  have hT1 := fun w h h' => times_any A l c (nd N) B' k' d' (nd D') w h (by omega) h' (by omega)
  have hT2 := fun w h h' => times_any B k d (nd D) A' l' c' (nd N') w h (by omega) h' (by omega)
  have e1 := nw_mul2 N D'
  have e2 := nw_mul2 D N'
  have hFR := fun A n1 c B n2 d w (h : Wds w A n1 c (nd (N * D'))) (k : Wds w B n2 d (nd (D * N'))) => frac_any (n != m) A n1 c (nd (N * D')) B n2 d (nd (D * N')) 0 w h (by have := h.len; rw [nd_length] at this; omega) k (by have := k.len; rw [nd_length] at this; omega) (by omega) (by omega) (by rw [nv_nd]; exact hp)
  simp only [nv_nd] at hT1 hT2 hFR
  obtain ⟨P, hP⟩ : ∃ P, P = N * D' := ⟨_, rfl⟩
  obtain ⟨Q, hQ⟩ : ∃ Q, Q = D * N' := ⟨_, rfl⟩
  rw [← hP] at hT1 hFR ⊢
  rw [← hQ] at hT2 hFR ⊢
  obtain ⟨r, hr⟩ : ∃ r, r = (n != m) := ⟨_, rfl⟩
  rw [← hr] at hFR ⊢
  obtain ⟨zz, hzz⟩ : ∃ zz, zz = (r && decide (P ≠ 0)) := ⟨_, rfl⟩
  rw [← hzz] at hFR ⊢
  clear hzz
  have HR := Lib.hid hr.symm
  have HT1 := Lib.hid hT1
  have HT2 := Lib.hid hT2
  have HFR := Lib.hid hFR
  clear hT1 hT2 hFR hP hQ hr h h' hl hk hl' hk' hN hD hN' hD' hp e1 e2
  go_enter Tryz.func70, Tryz.ntmps70
  go_wp2_with (first
    | (refine own_box (cs := [.bool n, .slice A l c, .slice B k d]) hO rfl rfl ?_; clear hO; intro ga wa hO)
    | (refine own_box (cs := [.bool m, .slice A' l' c', .slice B' k' d']) hO rfl rfl ?_; clear hO; intro gb wb hO)
    | (refine own_alloc hO zero_rat rfl rfl ?_; clear hO; intro g w1 hO))
  obtain ⟨S, hS⟩ : ∃ S : World → Prop, S = Own w [⟨g, 38, [.bool false, .slice none 0 0, .slice none 0 0]⟩, ⟨gb, 38, [.bool m, .slice A' l' c', .slice B' k' d']⟩, ⟨ga, 38, [.bool n, .slice A l c, .slice B k d]⟩] [⟨B', k', d', nd D'⟩, ⟨A', l', c', nd N'⟩, ⟨B, k, d, nd D⟩, ⟨A, l, c, nd N⟩] := ⟨_, rfl⟩
  have hSE : ∀ w w', S w → Ext w w' → S w' := fun w w' h1 h2 => by rw [hS] at h1 ⊢; exact h1.ext h2
  have hS1 : S w1.drew := by rw [hS]; exact hO.ext (Ext.refl w1).drew
  have HS := Lib.hid hS
  clear hS hO
  obtain ⟨sp, hsp⟩ : ∃ sp : Nat → Sp, sp = ofList [det (.pointer (some ⟨ga, 0, none⟩)), det (.bool n), det (.pointer (some ⟨gb, 0, none⟩)), det (.bool m), det (.bool r),
    det (.pointer (some ⟨ga, 1, none⟩)), det (.slice A l c), det (.pointer (some ⟨gb, 2, none⟩)), det (.slice B' k' d'), anyOf (fun v wz => ∃ A1 n1 c1, v = .slice A1 n1 c1 ∧ Wds wz A1 n1 c1 (nd P)),
    det (.pointer (some ⟨ga, 2, none⟩)), det (.slice B k d), det (.pointer (some ⟨gb, 1, none⟩)), det (.slice A' l' c'), anyOf (fun v wz => ∃ A1 n1 c1, v = .slice A1 n1 c1 ∧ Wds wz A1 n1 c1 (nd Q)),
    anyOf (fun v wz => ∃ A1 n1 c1 A2 n2 c2, v = .agg #[.bool zz, .slice A1 n1 c1, .slice A2 n2 c2] ∧ RatAt wz A1 n1 c1 A2 n2 c2 (fracN P Q 0) (fracD P Q 0))] := ⟨_, rfl⟩
  have HSP := Lib.hid hsp
  clear hsp
  refine wp_region_loose 16 S sp (by kernel_rfl) (by kernel_rfl) hS1 hSE ?_
  simp only [List.take_succ_cons, List.take_zero, List.drop_succ_cons, List.drop_zero]
  iterate 15
    refine wpX_step (fun K hK => ?_)
    go_simp
    first
    | (refine ⟨by rw [HSP.out]; rfl, hK _ _ ?_⟩
       clear hK K)
    | (refine StepY.det (by rw [HSP.out]; rfl) ?_ ?_
       · intro wz hz hF
         rw [HS.out] at hz
         have hf := hz.facts
         simp only [BF, CF, Nat.zero_add, Nat.reduceAdd, and_true] at hf
         have hr := HR.out
         clear hz hF
         go_simp
         first
         | exact ⟨rfl, Ext.refl _⟩
         | exact ⟨by rw [← hr]; rfl, Ext.refl _⟩
       refine hK _ _ ?_
       clear hK K)
    | (refine StepY.any (by rw [HSP.out]; rfl) ?_ ?_
       · intro wz hz hF
         rw [HS.out] at hz
         have h1 := hz.wd 3 rfl
         have h2 := hz.wd 2 rfl
         have h3 := hz.wd 1 rfl
         have h4 := hz.wd 0 rfl
         clear hz
         go_simp
         go_at_call 82
         first
         | (with_reducible refine (HT1.out _ h1 h4).mono ?_)
         | (with_reducible refine (HT2.out _ h2 h3).mono ?_)
         rintro e w2 ⟨A1, n1, c1, rfl, hW1, hE1⟩
         exact ⟨_, rfl, ⟨A1, n1, c1, rfl, hW1⟩, hE1⟩
       intro v
       refine hK _ _ ?_
       clear hK K)
  refine wpX_step (fun K hK => ?_)
  go_simp
  refine StepY.any (by rw [HSP.out]; rfl) ?_ ?_
  · intro wz hz hF
    obtain ⟨wa', ea, A1, n1, c1, hv1, hw1⟩ := hF.any 9 (by kernel_rfl) (by rw [HSP.out]; rfl)
    obtain ⟨wb', eb, A2, n2, c2, hv2, hw2⟩ := hF.any 14 (by kernel_rfl) (by rw [HSP.out]; rfl)
    clear hF
    simp only [asFun, List.nil_append, List.cons_append, List.getD_cons_succ, List.getD_cons_zero] at hv1 hv2
    subst hv1 hv2
    go_simp
    go_at_call 79
    refine (HFR.out _ _ _ _ _ _ _ (hw1.ext ea) (hw2.ext eb)).mono ?_
    rintro e w2 ⟨A3, n3, c3, A4, n4, c4, rfl, hW1, hW2, hE1⟩
    exact ⟨_, rfl, ⟨A3, n3, c3, A4, n4, c4, rfl, hW1, hW2⟩, hE1⟩
  intro v
  refine hK _ _ ?_
  clear hK K
  refine wpX_nil ?_
  intro w3 hz hF
  obtain ⟨w0, e0, A3, n3, c3, A4, n4, c4, hv, hw0⟩ := fact_any (hF 15 (by omega)) (by rw [HSP.out]; rfl)
  clear hF
  simp only [asFun, List.nil_append, List.cons_append, List.getD_cons_succ, List.getD_cons_zero] at hv
  subst hv
  rw [HS.out] at hz
  have hO := (hz.add (hw0.ext e0).1).add (hw0.ext e0).2
  clear hz hw0 e0
  go_wp2_with (refine own_store hO 0 rfl rfl rfl size_rat rfl rfl rfl ?_; clear hO; intro w4 hO)
  exact own_ret hO 0 rfl rfl rfl agg_rat size_rat rfl ⟨_, _, _, _, _, _, rfl, hO.wd 1 rfl, hO.wd 0 rfl, hO.toExt⟩
end Go.Proofs.YtfbjeifhpmdjaaaGreat

/-
  The contracts of the document's sums: Over, Root. Conditions: those that each theorem names.
-/
namespace Go.Proofs.YtfbjeifhpmdjaaaGreat
open Go.RowKit Nm Rn
set_option maxRecDepth 100000
set_option linter.unusedVariables false
set_option linter.unusedSimpArgs false

theorem fracN_le4 (n d : Nat) : fracN n d 0 ≤ n := by
  unfold fracN
  split
  · omega
  · have h1 : ((0 : Int) + tz n - tz d).toNat ≤ tz n := by omega
    have h2 := Nat.pow_le_pow_right (n := 2) (by omega) h1
    have h3 := Nat.mul_le_mul_left (n / 2 ^ tz n) h2
    rwa [tz_div] at h3
theorem fracD_le4 {n d : Nat} (hd : d ≠ 0) : fracD n d 0 ≤ d := by
  unfold fracD
  split
  · omega
  · have h1 : (-((0 : Int) + tz n - tz d)).toNat ≤ tz d := by omega
    have h2 := Nat.pow_le_pow_right (n := 2) (by omega) h1
    have h3 := Nat.mul_le_mul_left (d / 2 ^ tz d) h2
    rwa [tz_div] at h3
theorem quo_q {T : Int} {s : Bool} {N D m : Nat} (h : DR T s N D) (hm : 0 < m) (d : Int) :
    rnd d ((s != false) && decide (N * fracD m 1 0 ≠ 0)) (zr (fracN (N * fracD m 1 0) (D * fracN m 1 0) 0) (fracD (N * fracD m 1 0) (D * fracN m 1 0) 0)) = qT d T m := by
  have e1 : fracN m 1 0 = m * fracD m 1 0 := by
    have := frac_val (n := m) (d := 1) (p := 0) (q := 0) (e := 0) rfl
    simpa using this
  have hD := h.pos
  have hd := fracD_pos (n := m) (d := 1) 0 (by omega)
  have hN : 0 < fracN m 1 0 := by rw [e1]; exact Nat.mul_pos hm hd
  have hK := Nat.mul_pos K74_pos K74_pos
  have hQ := fracD_pos (n := N * fracD m 1 0) (d := D * fracN m 1 0) 0 (Nat.ne_of_gt (Nat.mul_pos hD hN))
  have e2 := frac_val (n := N * fracD m 1 0) (d := D * fracN m 1 0) (p := 0) (q := 0) (e := 0) rfl
  have e3 := h.abs
  unfold qT
  have hs : ((s != false) && decide (N * fracD m 1 0 ≠ 0)) = decide (T < 0) := by
    rw [h.sign]
    by_cases h0 : N = 0
    · have := h.zero.1 h0
      subst h0 this
      simp
    · have : N * fracD m 1 0 ≠ 0 := Nat.ne_of_gt (Nat.mul_pos (by omega) hd)
      rw [decide_eq_true this]
      simp
  rw [hs, zr_eq, zr_eq]
  congr 1
  refine zq_congr hQ (Nat.mul_pos hm hK) ?_
  generalize fracN (N * fracD m 1 0) (D * fracN m 1 0) 0 = NQ at *
  generalize fracD (N * fracD m 1 0) (D * fracN m 1 0) 0 = DQ at *
  rw [e1] at e2
  clear hs e1 hN
  generalize fracD m 1 0 = D' at *
  generalize K74 * K74 = K2 at *
  have h4 : NQ * (m * K2) = T.natAbs * DQ := by
    refine Nat.eq_of_mul_eq_mul_right (Nat.mul_pos hD hd) ?_
    calc NQ * (m * K2) * (D * D') = NQ * (D * (m * D') * 2 ^ 0) * K2 := by rw [Nat.pow_zero]; simp only [Nat.mul_one]; ac_rfl
      _ = N * D' * 2 ^ 0 * DQ * K2 := by rw [e2]
      _ = N * K2 * (DQ * D') := by rw [Nat.pow_zero, Nat.mul_one]; ac_rfl
      _ = T.natAbs * D * (DQ * D') := by rw [e3]
      _ = T.natAbs * DQ * (D * D') := by ac_rfl
  calc NQ * K75 * (m * K2) = NQ * (m * K2) * K75 := by ac_rfl
    _ = T.natAbs * DQ * K75 := by rw [h4]
    _ = T.natAbs * K75 * DQ := by ac_rfl
/-- Sizes of the quotient. -/
theorem quo_size {T : Int} {s : Bool} {N D m : Nat} (h : DR T s N D) (hm : 0 < m) (hm2 : m < 9223372036854775808) (hT : nw T.natAbs ≤ 136) :
    nw N ≤ 136 ∧ nw D ≤ 68 ∧ nw (fracN m 1 0) ≤ 2 ∧ nw (fracD m 1 0) ≤ 1 ∧ nw (fracN (N * fracD m 1 0) (D * fracN m 1 0) 0) ≤ 300 ∧ nw (fracD (N * fracD m 1 0) (D * fracN m 1 0) 0) ≤ 300 ∧ 0 < D * fracN m 1 0 ∧ 0 < fracD (N * fracD m 1 0) (D * fracN m 1 0) 0 := by
  have a1 := h.nwN
  have a2 := h.nwD
  have a3 : nw (fracN m 1 0) ≤ 2 := Nat.le_trans (nw_mono (fracN_le4 m 1)) ((nw_le_iff m 2).2 (by omega))
  have a4 : nw (fracD m 1 0) ≤ 1 := Nat.le_trans (nw_mono (fracD_le4 (n := m) (d := 1) (by omega))) ((nw_le_iff 1 1).2 (by omega))
  have hN : 0 < fracN m 1 0 := by
    rcases Nat.eq_zero_or_pos (fracN m 1 0) with h | h
    · have := fracN_eq_zero.1 h; omega
    · exact h
  have hp := Nat.mul_pos h.pos hN
  have c1 := nw_mul2 N (fracD m 1 0)
  have c2 := nw_mul2 D (fracN m 1 0)
  have c3 := nw_mono (fracN_le4 (N * fracD m 1 0) (D * fracN m 1 0))
  have c4 := nw_mono (fracD_le4 (n := N * fracD m 1 0) (d := D * fracN m 1 0) (by omega))
  exact ⟨by omega, by omega, a3, a4, by omega, by omega, hp, fracD_pos _ (by omega)⟩
set_option maxHeartbeats 2000000 in
theorem rootof_nil (d : Int) (neg : Bool) (A : Option Addr) (l c : Nat) (B : Option Addr) (k dd D n : Nat) (w : World) (h : RatAt w A l c B k dd 0 D) (bD : bl D ≤ 1300) :
    Calls Tryz.prog 76 #[.int .i64 d, .agg #[.bool neg, .slice A l c, .slice B k dd], .int .i64 (n : Int)] w fun e w' => e = .returned (.int .u64 (0 : Nat)) ∧ Ext w w' := by
  have hl := h.lenN
  have hnw : nw 0 = 0 := nw_zero
  have hRS := fun w h => rsign_any neg A l c (nd 0) B k dd w h (by omega)
  rw [nv_nd, show sgnZ neg 0 = 0 by unfold sgnZ; rw [if_pos rfl]] at hRS
  have HRS := Lib.hid hRS
  have hO := ((Own.start w).add h.1).add h.2
  clear hRS hl hnw h
  go_enter Tryz.func76, Tryz.ntmps76
  go_wp2_with (first | ((with_reducible refine at_box (T := 38) ?_); refine own_box (cs := [.bool neg, .slice A l c, .slice B k dd]) hO rfl rfl ?_; clear hO; intro ga wa hO; have hf := hO.cells; simp only [BC, CC, Nat.zero_add, Nat.reduceAdd, and_true] at hf))
  refine (HRS.out _ (hO.wd 1 rfl)).mono ?_
  rintro e w1 ⟨rfl, hE1⟩
  have hE := hO.toExt.trans hE1
  go_wp2
  go_ret
  exact ⟨rfl, hE⟩


theorem root_sum {T : Int} {s : Bool} {N D : Nat} (h : DR T s N D) (h0 : T.natAbs ≠ 0) (d : Int) (hb : 2 * T.natAbs < MM) : rootV d false N D 2 = ofR d false (rtX (T.natAbs * 2 ^ 128)) (-1139) := by
  obtain ⟨c, hc, hK⟩ : ∃ c : Nat, c = 1074 ∧ K74 = 2 ^ c := ⟨1074, rfl, K74_def⟩
  have hN := h.abs
  have hbl := bl_sum hb
  obtain ⟨X, hX⟩ : ∃ X, X = T.natAbs * 2 ^ 128 := ⟨_, rfl⟩
  have hX1 : 2 ^ 128 ≤ X := by rw [hX]; exact Nat.le_mul_of_pos_left _ (by omega)
  have hXb : bl X ≤ 9000 := by rw [hX, bl_mul_pow 128 h0]; omega
  rw [← hX]
  have e1 : N * 2 ^ (c + c + 128) = X * D := by
    rw [hK, ← Nat.pow_add] at hN
    rw [Nat.pow_add 2 (c + c) 128, ← Nat.mul_assoc, hN, hX]
    exact Nat.mul_right_comm _ _ _
  obtain ⟨w1, w2⟩ := sqF_spec X
  have hbr := sqF_nw hXb
  obtain ⟨r, hr⟩ : ∃ r, r = sqF X := ⟨_, rfl⟩
  rw [← hr] at w1 w2 hbr
  obtain ⟨o, ho⟩ : ∃ o, o = decide (r * r ≠ X) := ⟨_, rfl⟩
  have hat : RootAt N D 2 1138 r o := by
    refine ⟨c + c + 128, 0, by omega, ?_, ?_, ?_⟩
    · rw [e1, Nat.pow_zero, Nat.mul_one, Nat.pow_two]; exact Nat.mul_le_mul_right _ w1
    · rw [e1, Nat.pow_zero, Nat.mul_one, Nat.pow_two]; exact Nat.mul_lt_mul_of_pos_right w2 h.pos
    · rw [e1, Nat.pow_zero, Nat.mul_one, Nat.pow_two, ho]
      exact decide_eq_decide.2 (not_congr ⟨fun h => by rw [h], fun hh => Nat.eq_of_mul_eq_mul_right h.pos hh⟩)
  have h64 : 2 ^ 64 ≤ r := by
    rcases Nat.lt_or_ge r (2 ^ 64) with hl | hl
    · exfalso
      have := Nat.mul_le_mul (show r + 1 ≤ 2 ^ 64 from hl) (show r + 1 ≤ 2 ^ 64 from hl)
      omega
    · exact hl
  have h55 : 55 ≤ bl r := by
    rcases Nat.lt_or_ge (bl r) 55 with hl | hl
    · exfalso
      have h1 := lt_pow_bl r
      have h2 : 2 ^ bl r ≤ 2 ^ 54 := Nat.pow_le_pow_right (by omega) (by omega)
      omega
    · exact hl
  have hv := hat.val (by omega) h.pos (fun _ => h55) d false
  have hrt : rtX X = 2 * r + o.toNat := by
    unfold rtX
    rw [← hr, ho]
    by_cases hq : r * r = X
    · rw [if_pos hq, decide_eq_false (fun hh => hh hq)]; simp only [Bool.toNat_false]; omega
    · rw [if_neg hq, decide_eq_true hq]; simp only [Bool.toNat_true]; omega
  rw [hrt, ← hv, ofR_zd d false (Nat.le_trans (bl_mono (show 2 * r + o.toNat ≤ r * 2 + 1 by cases o <;> simp <;> omega)) (by omega)) (by omega) (by omega)]
  rfl
/-- Sizes ahead of the root. -/
theorem root_size {T : Int} {s : Bool} {N D : Nat} (h : DR T s N D) (h0 : T.natAbs ≠ 0) (hb : 2 * T.natAbs < MM) : N ≠ 0 ∧ D ≠ 0 ∧ bl N ≤ 4400 ∧ bl D ≤ 4400 ∧ -3000 ≤ (bl N : Int) - (bl D : Int) ∧ (bl N : Int) - (bl D : Int) ≤ 3000 := by
  have hN : N ≠ 0 := fun e => h0 (by have := h.zero.1 e; omega)
  have hD := h.pos
  have hbl := bl_sum hb
  have b1 := bl_mono h.leN
  have b2 := h.blD
  obtain ⟨c, hc, hK⟩ : ∃ c : Nat, c = 1074 ∧ K74 = 2 ^ c := ⟨1074, rfl, K74_def⟩
  have e := h.abs
  rw [hK, ← Nat.pow_add] at e
  have b3 := bl_mul_pow (c + c) hN
  rw [e] at b3
  have b4 := bl_mul_le T.natAbs D
  have b5 : 1 ≤ bl N := by
    rcases Nat.eq_zero_or_pos (bl N) with hz | hz
    · have := lt_pow_bl N; rw [hz] at this; omega
    · exact hz
  exact ⟨hN, by omega, by omega, by omega, by omega, by omega⟩
section
variable {w : World} {A B : Option Addr} {l c k d N D : Nat} {s : Bool}
set_option maxHeartbeats 4000000 in
theorem dover_any (Z : Sm) (dd n : Int) (h63 : n < 9223372036854775808) (hZ : Z.state = 0 → 2 * Z.T.natAbs < MM) (h : DR Z.T s N D) (hr : RatAt w A l c B k d N D) :
    Calls Tryz.prog 31 #[dsV s A l c B k d Z.p Z.m Z.n Z.t, .int .i64 dd, .int .i64 n] w fun e w' => e = .returned (.int .u64 (Z.over dd n : Nat)) ∧ Ext w w' := by
  have HST := Lib.hid (fun w => dstate_any (w := w) (s := s) (A := A) (l := l) (c := c) (B := B) (k := k) (d := d) (p := Z.p) (m := Z.m) (n := Z.n) (t := Z.t))
  have hcs := stt_cases Z.p Z.m Z.n
  obtain ⟨st, hst⟩ : ∃ st, st = stt Z.p Z.m Z.n := ⟨_, rfl⟩
  rw [← hst] at HST hcs
  have hzs : Z.state = st := hst.symm
  have hO := ((Own.start w).add hr.1).add hr.2
  have hf : True := trivial
  by_cases hn : n < 1
  · have HR : Hid (Z.over dd n = NaNc) := Lib.hid (by unfold Sm.over; rw [if_pos hn])
    rw [HR.out]
    have HN := Lib.hid hn
    have q1 : decide (n < 1) = true := decide_eq_true hn
    clear hcs hzs hst h hr hZ hn h63 HR
    go_enter Tryz.func31, Tryz.ntmps31
    go_wp2_with (first | ((with_reducible refine at_box ?_); refine own_box (cs := [.bool s, .slice A l c, .slice B k d, .bool Z.p, .bool Z.m, .bool Z.n, .int .u64 (Z.t : Int)]) hO rfl rfl ?_; clear hO; intro g wa hO; clear hf; have hf := hO.cells; simp only [BC, CC, Nat.zero_add, Nat.reduceAdd, and_true] at hf))
    go_ret
    exact ⟨rfl, hO.toExt⟩
  have q1 : decide (n < 1) = false := decide_eq_false hn
  by_cases h0 : st = 0
  · have hT := nw_sum (hZ (by rw [hzs, h0]))
    obtain ⟨m, hm⟩ : ∃ m : Nat, n = (m : Int) := ⟨n.toNat, by omega⟩
    subst hm
    have HR : Hid (Z.over dd (m : Int) = qT dd Z.T m) := Lib.hid (by unfold Sm.over; rw [if_neg hn, hzs, h0, if_neg (by simp), Int.toNat_natCast])
    obtain ⟨b1, b2, b3, b4, b5, b6, b7, b8⟩ := quo_size h (show 0 < m by omega) (by omega) hT
    have HIN := Lib.hid (fun w => int_any m w (by omega))
    have hqq := quo_q h (show 0 < m by omega) dd
    rw [← HR.out] at hqq
    generalize Z.over dd (m : Int) = V at *
    obtain ⟨mN, hmN⟩ : ∃ x, x = fracN m 1 0 := ⟨_, rfl⟩
    obtain ⟨mD, hmD⟩ : ∃ x, x = fracD m 1 0 := ⟨_, rfl⟩
    rw [← hmN, ← hmD] at HIN hqq
    rw [← hmN] at b3 b7
    rw [← hmD] at b4
    rw [← hmN, ← hmD] at b5 b6 b8
    have HRQ := Lib.hid (fun w1 C l' c' F k' d' (h1 : RatAt w1 A l c B k d N D) (h2 : RatAt w1 C l' c' F k' d' mN mD) => rquoq_any s false A l c B k d N D C l' c' F k' d' mN mD w1 h1 h2 (by omega) (by omega) (by omega) (by omega) b7)
    obtain ⟨s5, hs5⟩ : ∃ x, x = ((s != false) && decide (N * mD ≠ 0)) := ⟨_, rfl⟩
    obtain ⟨N5, hN5⟩ : ∃ x, x = fracN (N * mD) (D * mN) 0 := ⟨_, rfl⟩
    obtain ⟨D5, hD5⟩ : ∃ x, x = fracD (N * mD) (D * mN) 0 := ⟨_, rfl⟩
    rw [← hs5, ← hN5, ← hD5] at HRQ hqq
    rw [← hN5] at b5
    rw [← hD5] at b6 b8
    have HB := Lib.hid (fun A l c B k d w1 (h1 : RatAt w1 A l c B k d N5 D5) => bits3_any dd s5 A l c B k d N5 D5 w1 h1 (by omega) (by omega) (by omega))
    rw [hqq] at HB
    subst h0
    clear hcs hzs hst h hr hZ hn h63 HR b1 b2 b3 b4 b5 b6 b7 b8 hqq hs5 hN5 hD5 hmN hmD hT
    go_enter Tryz.func31, Tryz.ntmps31
    go_upto_region 5 with (first | ((with_reducible refine at_box ?_); refine own_box (cs := [.bool s, .slice A l c, .slice B k d, .bool Z.p, .bool Z.m, .bool Z.n, .int .u64 (Z.t : Int)]) hO rfl rfl ?_; clear hO; intro g wa hO; clear hf; have hf := hO.cells; simp only [BC, CC, Nat.zero_add, Nat.reduceAdd, and_true] at hf) | (go_at_call 37; (with_reducible refine (HST.out _).mono ?_); rintro e w5 ⟨rfl, hE⟩; have hO := hO.ext hE; clear hE; clear hf; have hf := hO.cells; simp only [BC, CC, Nat.zero_add, Nat.reduceAdd, and_true] at hf))
    obtain ⟨S, hS⟩ : ∃ S : World → Prop, S = Own w [⟨g, 40, [.bool s, .slice A l c, .slice B k d, .bool Z.p, .bool Z.m, .bool Z.n, .int .u64 (Z.t : Int)]⟩] [⟨B, k, d, nd D⟩, ⟨A, l, c, nd N⟩] := ⟨_, rfl⟩
    have hSE : ∀ w w', S w → Ext w w' → S w' := fun w w' h1 h2 => by rw [hS] at h1 ⊢; exact h1.ext h2
    have hS1 : S w5.drew := by rw [hS]; exact hO.ext (Ext.refl w5).drew
    have HS := Lib.hid hS
    clear hS hO hf
    obtain ⟨sp, hsp⟩ : ∃ sp : Nat → Sp, sp = ofList [det (.int .i64 dd), det (.pointer (some ⟨g, 0, none⟩)), det (.agg #[.bool s, .slice A l c, .slice B k d]), det (.int .i64 (m : Int)), anyOf (fun v wz => ∃ A l c B k d, v = .agg #[.bool false, .slice A l c, .slice B k d] ∧ RatAt wz A l c B k d mN mD), anyOf (fun v wz => ∃ A l c B k d, v = .agg #[.bool s5, .slice A l c, .slice B k d] ∧ RatAt wz A l c B k d N5 D5)] := ⟨_, rfl⟩
    have HSP := Lib.hid hsp
    clear hsp
    refine wp_region_loose 6 S sp (by kernel_rfl) (by kernel_rfl) hS1 hSE ?_
    simp only [List.take_succ_cons, List.take_zero, List.drop_succ_cons, List.drop_zero]
    iterate 4
      refine wpX_step (fun K hK => ?_)
      go_simp
      refine StepY.det (by rw [HSP.out]; rfl) ?_ ?_
      · intro wz hz hF
        rw [HS.out] at hz
        have hf := hz.cells
        simp only [BC, CC, Nat.zero_add, Nat.reduceAdd, and_true] at hf
        clear hz hF
        go_simp
        exact ⟨rfl, Ext.refl _⟩
      refine hK _ _ ?_
      clear hK K
    refine wpX_step (fun K hK => ?_)
    go_simp
    refine StepY.any (by rw [HSP.out]; rfl) ?_ ?_
    · intro wz hz hF
      clear hz hF
      go_simp
      refine (HIN.out _).mono ?_
      rintro e w2 ⟨A2, n2, c2, B2, k2, d2, rfl, hA2, hB2, hE2⟩
      exact ⟨_, rfl, ⟨A2, n2, c2, B2, k2, d2, rfl, hA2, hB2⟩, hE2⟩
    intro v1
    refine hK _ _ ?_
    clear hK K
    refine wpX_step (fun K hK => ?_)
    go_simp
    refine StepY.any (by rw [HSP.out]; rfl) ?_ ?_
    · intro wz hz hF
      obtain ⟨wa', ea, A5, n5, c5, B5, k5, d5, hv1, hw1⟩ := hF.any 4 (by kernel_rfl) (by rw [HSP.out]; rfl)
      rw [HS.out] at hz
      have hq1 := hz.wd 1 rfl
      have hq0 := hz.wd 0 rfl
      clear hz hF
      simp only [asFun, List.nil_append, List.cons_append, List.getD_cons_succ, List.getD_cons_zero] at hv1
      subst hv1
      go_simp
      refine (HRQ.out _ _ _ _ _ _ _ ⟨hq1, hq0⟩ (hw1.ext ea)).mono ?_
      rintro e w2 ⟨A2, n2, c2, B2, k2, d2, rfl, hA2, hB2, hE2⟩
      exact ⟨_, rfl, ⟨A2, n2, c2, B2, k2, d2, rfl, hA2, hB2⟩, hE2⟩
    intro v2
    refine hK _ _ ?_
    clear hK K
    refine wpX_nil ?_
    intro wq hz hF
    obtain ⟨wa', ea, A2, l2, c2, B2, k2, d2, hv5, hR2⟩ := fact_any (hF 5 (by omega)) (by rw [HSP.out]; rfl)
    clear hF
    simp only [asFun, List.nil_append, List.cons_append, List.getD_cons_succ, List.getD_cons_zero] at hv5
    subst hv5
    rw [HS.out] at hz
    have hO := hz
    clear hz HS HSP
    have hf := hO.cells
    simp only [BC, CC, Nat.zero_add, Nat.reduceAdd, and_true] at hf
    go_wp2_with fail
    refine (HB.out _ _ _ _ _ _ _ (hR2.ext ea)).mono ?_
    rintro e w9 ⟨rfl, hE9⟩
    have hO := hO.ext hE9
    clear hE9
    go_wp2_with fail
    go_ret
    exact ⟨rfl, hO.toExt⟩
  · have HEN := Lib.hid (fun w => dends_any (w := w) (s := s) (A := A) (l := l) (c := c) (B := B) (k := k) (d := d) (p := Z.p) (m := Z.m) (n := Z.n) (t := Z.t) st hst.symm (by omega))
    have HR : Hid (Z.over dd n = if st = 1 then infR else if st = -1 then minf else NaNc) := Lib.hid (by unfold Sm.over Sm.ends; rw [if_neg hn, hzs, if_pos h0])
    rw [← HR.out] at HEN
    have q0 : (st == 0) = false := by rw [beq_eq_false_iff_ne]; exact h0
    have q2 : (!(st == 0)) = true := by rw [q0]; rfl
    have q3 : (st != 0) = true := by rw [bne, q0]; rfl
    generalize Z.over dd n = V at *
    have HN := Lib.hid hn
    clear hcs hzs hst h hr hZ HR hn h63
    go_enter Tryz.func31, Tryz.ntmps31
    go_wp2_with (first | ((with_reducible refine at_box ?_); refine own_box (cs := [.bool s, .slice A l c, .slice B k d, .bool Z.p, .bool Z.m, .bool Z.n, .int .u64 (Z.t : Int)]) hO rfl rfl ?_; clear hO; intro g wa hO; clear hf; have hf := hO.cells; simp only [BC, CC, Nat.zero_add, Nat.reduceAdd, and_true] at hf) | (go_at_call 37; (with_reducible refine (HST.out _).mono ?_); rintro e w5 ⟨rfl, hE⟩; have hO := hO.ext hE; clear hE; clear hf; have hf := hO.cells; simp only [BC, CC, Nat.zero_add, Nat.reduceAdd, and_true] at hf) | (go_at_call 40; (with_reducible refine (HEN.out _).mono ?_); rintro e w6 ⟨rfl, hE⟩; have hO := hO.ext hE; clear hE))
    go_ret
    exact ⟨rfl, hO.toExt⟩
set_option maxHeartbeats 4000000 in
theorem droot_any (Z : Sm) (dd : Int) (hZ : Z.state = 0 → 2 * Z.T.natAbs < MM) (h : DR Z.T s N D) (hr : RatAt w A l c B k d N D) :
    Calls Tryz.prog 33 #[dsV s A l c B k d Z.p Z.m Z.n Z.t, .int .i64 dd] w fun e w' => e = .returned (.int .u64 (Z.root dd : Nat)) ∧ Ext w w' := by
  have HST := Lib.hid (fun w => dstate_any (w := w) (s := s) (A := A) (l := l) (c := c) (B := B) (k := k) (d := d) (p := Z.p) (m := Z.m) (n := Z.n) (t := Z.t))
  have hcs := stt_cases Z.p Z.m Z.n
  obtain ⟨st, hst⟩ : ∃ st, st = stt Z.p Z.m Z.n := ⟨_, rfl⟩
  rw [← hst] at HST hcs
  have hzs : Z.state = st := hst.symm
  have hO := ((Own.start w).add hr.1).add hr.2
  have hf : True := trivial
  by_cases h0 : st = 0
  · have hT := hZ (by rw [hzs, h0])
    have hnw := nw_sum hT
    have b1 := h.nwN
    have hlN := hr.lenN
    have HRS := Lib.hid (fun w1 (h1 : Wds w1 A l c (nd N)) => rsign_any s A l c (nd N) B k d w1 h1 (by omega))
    rw [nv_nd, sgnZ_dr h] at HRS
    by_cases hneg : Z.T < 0
    · have HR : Hid (Z.root dd = NaNc) := Lib.hid (by unfold Sm.root; rw [hzs, h0, if_neg (by decide), if_neg (by decide), if_pos hneg])
      rw [HR.out]
      rw [if_pos hneg] at HRS
      subst h0
      clear hlN hcs hzs hst h hr hZ hT hnw b1 HR hneg
      go_enter Tryz.func33, Tryz.ntmps33
      go_wp2_with (first | ((with_reducible refine at_box ?_); refine own_box (cs := [.bool s, .slice A l c, .slice B k d, .bool Z.p, .bool Z.m, .bool Z.n, .int .u64 (Z.t : Int)]) hO rfl rfl ?_; clear hO; intro g wa hO; clear hf; have hf := hO.cells; simp only [BC, CC, Nat.zero_add, Nat.reduceAdd, and_true] at hf) | (go_at_call 37; (with_reducible refine (HST.out _).mono ?_); rintro e w5 ⟨rfl, hE⟩; have hO := hO.ext hE; clear hE; clear hf; have hf := hO.cells; simp only [BC, CC, Nat.zero_add, Nat.reduceAdd, and_true] at hf) | (go_at_call 75; (with_reducible refine (HRS.out _ (hO.wd 1 rfl)).mono ?_); rintro e w6 ⟨rfl, hE⟩; have hO := hO.ext hE; clear hE; clear hf; have hf := hO.cells; simp only [BC, CC, Nat.zero_add, Nat.reduceAdd, and_true] at hf))
      go_ret
      exact ⟨rfl, hO.toExt⟩
    · have HR : Hid (Z.root dd = ofR dd false (rtX (Z.T.natAbs * 2 ^ 128)) (-1139)) := Lib.hid (by unfold Sm.root; rw [hzs, h0, if_neg (by decide), if_neg (by decide), if_neg hneg])
      rw [if_neg hneg] at HRS
      have hsg : s = false := by rw [h.sign]; exact decide_eq_false hneg
      have HRO : Hid (∀ w1, RatAt w1 A l c B k d N D → Calls Tryz.prog 76 #[.int .i64 dd, .agg #[.bool s, .slice A l c, .slice B k d], .int .i64 2] w1 fun e w' => e = .returned (.int .u64 (Z.root dd : Nat)) ∧ Ext w1 w') := by
        refine Lib.hid (fun w1 h1 => ?_)
        by_cases hz : Z.T.natAbs = 0
        · have hN0 : N = 0 := h.zero.2 (by omega)
          subst hN0
          have e0 : Z.root dd = 0 := by rw [HR.out, hz, Nat.zero_mul, show rtX 0 = 0 by decide]; unfold ofR; rw [if_neg (by decide), if_pos rfl]
          have hD1 : bl D ≤ 1300 := by
            obtain ⟨a, ha, hb⟩ := h.2.1
            rcases hb with hb | hb
            · subst hb; rw [ha]; decide
            · simp at hb
          rw [e0]
          exact rootof_nil dd s A l c B k d D 2 w1 h1 hD1
        · obtain ⟨c1, c2, c3, c4, c5, c6⟩ := root_size h hz hT
          have := rootof_wide dd s A l c B k d N D 2 w1 h1 c1 c2 c3 c4 c5 c6 (by omega) (by omega)
          rw [hsg, root_sum h hz dd hT, ← HR.out] at this
          rw [hsg]
          exact this
      obtain ⟨sg0, hsg0, hsgn⟩ : ∃ x : Int, x = (if Z.T = 0 then 0 else 1) ∧ ¬ x < 0 := ⟨_, rfl, by split <;> decide⟩
      rw [← hsg0] at HRS
      have q4 : decide (sg0 < 0) = false := decide_eq_false hsgn
      have HSG := Lib.hid hsgn
      generalize Z.root dd = V at *
      subst h0
      clear hlN hcs hzs hst h hr hZ hT hnw b1 HR hneg hsg hsg0 hsgn
      go_enter Tryz.func33, Tryz.ntmps33
      go_wp2_with (first | ((with_reducible refine at_box ?_); refine own_box (cs := [.bool s, .slice A l c, .slice B k d, .bool Z.p, .bool Z.m, .bool Z.n, .int .u64 (Z.t : Int)]) hO rfl rfl ?_; clear hO; intro g wa hO; clear hf; have hf := hO.cells; simp only [BC, CC, Nat.zero_add, Nat.reduceAdd, and_true] at hf) | (go_at_call 37; (with_reducible refine (HST.out _).mono ?_); rintro e w5 ⟨rfl, hE⟩; have hO := hO.ext hE; clear hE; clear hf; have hf := hO.cells; simp only [BC, CC, Nat.zero_add, Nat.reduceAdd, and_true] at hf) | (go_at_call 75; (with_reducible refine (HRS.out _ (hO.wd 1 rfl)).mono ?_); rintro e w6 ⟨rfl, hE⟩; have hO := hO.ext hE; clear hE; clear hf; have hf := hO.cells; simp only [BC, CC, Nat.zero_add, Nat.reduceAdd, and_true] at hf))
      refine (HRO.out _ ⟨hO.wd 1 rfl, hO.wd 0 rfl⟩).mono ?_
      rintro e w9 ⟨rfl, hE9⟩
      have hO := hO.ext hE9
      clear hE9
      go_wp2_with fail
      go_ret
      exact ⟨rfl, hO.toExt⟩
  · have HR : Hid (Z.root dd = if st = 1 then infR else NaNc) := Lib.hid (by unfold Sm.root; rw [hzs, if_pos h0])
    rw [HR.out]
    clear hzs hst h hr hZ HR
    rcases hcs with rfl | rfl | rfl | rfl
    · exact absurd rfl h0
    all_goals
      clear h0
      go_enter Tryz.func33, Tryz.ntmps33
      go_wp2_with (first | ((with_reducible refine at_box ?_); refine own_box (cs := [.bool s, .slice A l c, .slice B k d, .bool Z.p, .bool Z.m, .bool Z.n, .int .u64 (Z.t : Int)]) hO rfl rfl ?_; clear hO; intro g wa hO; clear hf; have hf := hO.cells; simp only [BC, CC, Nat.zero_add, Nat.reduceAdd, and_true] at hf) | (go_at_call 37; (with_reducible refine (HST.out _).mono ?_); rintro e w5 ⟨rfl, hE⟩; have hO := hO.ext hE; clear hE; clear hf; have hf := hO.cells; simp only [BC, CC, Nat.zero_add, Nat.reduceAdd, and_true] at hf))
      go_ret
      exact ⟨rfl, hO.toExt⟩
end
end Go.Proofs.YtfbjeifhpmdjaaaGreat
