/-
  The contracts of the document's powers of ratios that are not below 0, and of Finite. Conditions: those that each theorem names.
-/
import Derived.Test.YtadijoeeaineaaaDoorZ28
import Derived.Test.YtadijoeeaineaaaDoorZ25
import Derived.Test.YtadijoeeaineaaaDoorZ23
import Derived.Test.YtadijoeeaineaaaDoorZ14
import Derived.Test.YtadijoeeaineaaaDoorZ08
import Derived.Test.YtadijoeeaineaaaDoorZ13
import Derived.Test.YtadijoeeaineaaaDoorZ07
namespace Go.Proofs.YtadijoeeaineaaaDoor
open Go.RowKit Nm Rn
set_option maxRecDepth 100000
set_option linter.unusedVariables false
set_option linter.unusedSimpArgs false

set_option maxHeartbeats 2000000 in
theorem rpow_any (A : Option Addr) (l c : Nat) (B : Option Addr) (k d N D e : Nat) (w : World) (h : RatAt w A l c B k d N D) (he : e ≤ 1024) (bN : bl N ≤ 3000) (bD : bl D ≤ 3000) (hD : 0 < D) :
    Calls Tryd.prog 40 #[.agg #[.bool false, .slice A l c, .slice B k d], .int .i64 (e : Int)] w (RetR false (fracN (N ^ e) (D ^ e) 0) (fracD (N ^ e) (D ^ e) 0) w) := by
  have hl := h.lenN
  have hk := h.lenD
  have hO := ((Own.start w).add h.1).add h.2
  have hsz : ∀ V, bl V ≤ 3000 → nw V ≤ 100 ∧ nw ((V + 1) ^ e) ≤ 1000000 ∧ nw (V ^ e) ≤ 1000000 := fun V hV => by
    have h1 := nw_bl V
    obtain ⟨T, hT⟩ : ∃ T, T = 3001 := ⟨_, rfl⟩
    have h2 : (V + 1) ≤ 2 ^ T := by
      have h3 := lt_pow_bl V
      have h4 : 2 ^ bl V ≤ 2 ^ T := Nat.pow_le_pow_right (by omega) (by omega)
      omega
    have h5 := nw_pow_le (n := e) h2
    have h6 : nw (V ^ e) ≤ nw ((V + 1) ^ e) := nw_mono (Nat.pow_le_pow_left (by omega) e)
    rw [hT] at h5
    omega
  obtain ⟨s1, s2, s3⟩ := hsz N bN
  obtain ⟨t1, t2, t3⟩ := hsz D bD
  have hT1 := fun w h => power_any A l c (nd N) e w h (by omega) (by omega) (by rw [nv_nd]; exact s2)
  have hT2 := fun w h => power_any B k d (nd D) e w h (by omega) (by omega) (by rw [nv_nd]; exact t2)
  have hp : 0 < D ^ e := Nat.pow_pos hD
  have hFR := fun A n1 c B n2 d w (h : Wds w A n1 c (nd (N ^ e))) (k : Wds w B n2 d (nd (D ^ e))) => frac_any false A n1 c (nd (N ^ e)) B n2 d (nd (D ^ e)) 0 w h (by have := h.len; rw [nd_length] at this; omega) k (by have := k.len; rw [nd_length] at this; omega) (by omega) (by omega) (by rw [nv_nd]; exact hp)
  simp only [nv_nd, Bool.false_and] at hT1 hT2 hFR
  obtain ⟨P, hP⟩ : ∃ P, P = N ^ e := ⟨_, rfl⟩
  obtain ⟨Q, hQ⟩ : ∃ Q, Q = D ^ e := ⟨_, rfl⟩
  rw [← hP] at hT1 hFR ⊢
  rw [← hQ] at hT2 hFR ⊢
  have HT1 := Lib.hid hT1
  have HT2 := Lib.hid hT2
  have HFR := Lib.hid hFR
  clear hT1 hT2 hFR hP hQ h hl hk hsz s1 s2 s3 t1 t2 t3 bN bD hD hp
  go_enter Tryd.func40, Tryd.ntmps40
  go_wp2_with (first
    | (refine own_box (cs := [.bool false, .slice A l c, .slice B k d]) hO rfl rfl ?_; clear hO; intro ga wa hO)
    | (refine own_alloc hO zero_rat rfl rfl ?_; clear hO; intro g w1 hO))
  obtain ⟨S, hS⟩ : ∃ S : World → Prop, S = Own w [⟨g, 38, [.bool false, .slice none 0 0, .slice none 0 0]⟩, ⟨ga, 38, [.bool false, .slice A l c, .slice B k d]⟩] [⟨B, k, d, nd D⟩, ⟨A, l, c, nd N⟩] := ⟨_, rfl⟩
  have hSE : ∀ w w', S w → Ext w w' → S w' := fun w w' h1 h2 => by rw [hS] at h1 ⊢; exact h1.ext h2
  have hS1 : S w1.drew := by rw [hS]; exact hO.ext (Ext.refl w1).drew
  have HS := Lib.hid hS
  clear hS hO
  obtain ⟨sp, hsp⟩ : ∃ sp : Nat → Sp, sp = ofList [det (.pointer (some ⟨ga, 0, none⟩)), det (.bool false), det (.bool false), det undef, det undef, det undef, det (.bool false),
    det (.pointer (some ⟨ga, 1, none⟩)), det (.slice A l c), det (.int .i64 (e : Int)), anyOf (fun v wz => ∃ A1 n1 c1, v = .slice A1 n1 c1 ∧ Wds wz A1 n1 c1 (nd P)),
    det (.pointer (some ⟨ga, 2, none⟩)), det (.slice B k d), det (.int .i64 (e : Int)), anyOf (fun v wz => ∃ A1 n1 c1, v = .slice A1 n1 c1 ∧ Wds wz A1 n1 c1 (nd Q)),
    anyOf (fun v wz => ∃ A1 n1 c1 A2 n2 c2, v = .agg #[.bool false, .slice A1 n1 c1, .slice A2 n2 c2] ∧ RatAt wz A1 n1 c1 A2 n2 c2 (fracN P Q 0) (fracD P Q 0))] := ⟨_, rfl⟩
  have HSP := Lib.hid hsp
  clear hsp
  refine wp_region_loose 16 S sp (by kernel_rfl) (by kernel_rfl) hS1 hSE ?_
  simp only [List.take_succ_cons, List.take_zero, List.drop_succ_cons, List.drop_zero]
  iterate 15
    refine wpX_step (fun K hK => ?_)
    go_simp
    first
    | (refine ⟨by rw [HSP.out]; rfl, hK _ _ ?_⟩
       clear hK K)
    | (refine StepY.det (by rw [HSP.out]; rfl) ?_ ?_
       · intro wz hz hF
         rw [HS.out] at hz
         have hf := hz.facts
         simp only [BF, CF, Nat.zero_add, Nat.reduceAdd, and_true] at hf
         clear hz hF
         go_simp
         exact ⟨rfl, Ext.refl _⟩
       refine hK _ _ ?_
       clear hK K)
    | (refine StepY.any (by rw [HSP.out]; rfl) ?_ ?_
       · intro wz hz hF
         rw [HS.out] at hz
         have h1 := hz.wd 1 rfl
         have h2 := hz.wd 0 rfl
         clear hz
         go_simp
         go_at_call 101
         first
         | (with_reducible refine (HT1.out _ h1).mono ?_)
         | (with_reducible refine (HT2.out _ h2).mono ?_)
         rintro e w2 ⟨A1, n1, c1, rfl, hW1, hE1⟩
         exact ⟨_, rfl, ⟨A1, n1, c1, rfl, hW1⟩, hE1⟩
       intro v
       refine hK _ _ ?_
       clear hK K)
  refine wpX_step (fun K hK => ?_)
  go_simp
  refine StepY.any (by rw [HSP.out]; rfl) ?_ ?_
  · intro wz hz hF
    obtain ⟨wa', ea, A1, n1, c1, hv1, hw1⟩ := hF.any 10 (by kernel_rfl) (by rw [HSP.out]; rfl)
    obtain ⟨wb', eb, A2, n2, c2, hv2, hw2⟩ := hF.any 14 (by kernel_rfl) (by rw [HSP.out]; rfl)
    clear hF
    simp only [asFun, List.nil_append, List.cons_append, List.getD_cons_succ, List.getD_cons_zero] at hv1 hv2
    subst hv1 hv2
    go_simp
    go_at_call 86
    refine (HFR.out _ _ _ _ _ _ _ (hw1.ext ea) (hw2.ext eb)).mono ?_
    rintro e w2 ⟨A3, n3, c3, A4, n4, c4, rfl, hW1, hW2, hE1⟩
    exact ⟨_, rfl, ⟨A3, n3, c3, A4, n4, c4, rfl, hW1, hW2⟩, hE1⟩
  intro v
  refine hK _ _ ?_
  clear hK K
  refine wpX_nil ?_
  intro w3 hz hF
  obtain ⟨w0, e0, A3, n3, c3, A4, n4, c4, hv, hw0⟩ := fact_any (hF 15 (by omega)) (by rw [HSP.out]; rfl)
  clear hF
  simp only [asFun, List.nil_append, List.cons_append, List.getD_cons_succ, List.getD_cons_zero] at hv
  subst hv
  rw [HS.out] at hz
  have hO := (hz.add (hw0.ext e0).1).add (hw0.ext e0).2
  clear hz hw0 e0
  go_wp2_with (refine own_store hO 0 rfl rfl rfl size_rat rfl rfl rfl ?_; clear hO; intro w4 hO)
  exact own_ret hO 0 rfl rfl rfl agg_rat size_rat rfl ⟨_, _, _, _, _, _, rfl, hO.wd 1 rfl, hO.wd 0 rfl, hO.toExt⟩

set_option maxHeartbeats 400000 in
theorem finite2_any (b : Nat) (w : World) (h : b < 18446744073709551616) :
    Calls Tryd.prog 20 #[.int .u64 (b : Int)] w fun e w' => e = .returned (.bool (decide (mg b < infR))) ∧ w = w' := by
  obtain ⟨E, hE⟩ : ∃ E, E = b / 4503599627370496 % 2048 := ⟨_, rfl⟩
  have g1 : bits .and .u64 ((b : Int) / 4503599627370496) 2047 = (E : Int) := by
    rw [show (2047 : Int) = ((2047 : Nat) : Int) from rfl, show (b : Int) / 4503599627370496 = ((b / 4503599627370496 : Nat) : Int) from rfl, u64_and_nat _ _ (by omega) (by omega), hE]
    congr 1
    exact Nat.and_two_pow_sub_one_eq_mod (b / 4503599627370496) 11
  have HF : Hid ((!((E : Int) == 2047)) = decide (mg b < infR)) := Lib.hid (by
    unfold mg
    rw [infR_val]
    rw [Bool.eq_iff_iff, Bool.not_eq_true', beq_eq_false_iff_ne, decide_eq_true_iff]
    omega)
  clear h hE
  go_enter Tryd.func20, Tryd.ntmps20
  go_wp2
  go_ret
  exact ⟨ret_bool HF.out, rfl⟩
end Go.Proofs.YtadijoeeaineaaaDoor

/-
  The contracts of the document's products of ratios. Conditions: those that each theorem names.
-/
namespace Go.Proofs.YtadijoeeaineaaaDoor
open Go.RowKit Nm Rn
set_option maxRecDepth 100000
set_option linter.unusedVariables false
set_option linter.unusedSimpArgs false

end Go.Proofs.YtadijoeeaineaaaDoor

/-
  The contract of the document's quotient of ratios. Conditions: those that each theorem names.
-/
namespace Go.Proofs.YtadijoeeaineaaaDoor
open Go.RowKit Nm Rn
set_option maxRecDepth 100000
set_option linter.unusedVariables false
set_option linter.unusedSimpArgs false

set_option maxHeartbeats 2000000 in
theorem rquoq_any (n m : Bool) (A : Option Addr) (l c : Nat) (B : Option Addr) (k d N D : Nat) (A' : Option Addr) (l' c' : Nat) (B' : Option Addr) (k' d' N' D' : Nat) (w : World)
    (h : RatAt w A l c B k d N D) (h' : RatAt w A' l' c' B' k' d' N' D') (hN : nw N ≤ 1073741824) (hD : nw D ≤ 1073741824) (hN' : nw N' ≤ 1073741824) (hD' : nw D' ≤ 1073741824) (hp : 0 < D * N') :
    Calls Tryd.prog 72 #[.agg #[.bool n, .slice A l c, .slice B k d], .agg #[.bool m, .slice A' l' c', .slice B' k' d']] w (RetR ((n != m) && decide (N * D' ≠ 0)) (fracN (N * D') (D * N') 0) (fracD (N * D') (D * N') 0) w) := by
  have hl := h.lenN
  have hk := h.lenD
  have hl' := h'.lenN
  have hk' := h'.lenD
  have hO := ((((Own.start w).add h.1).add h.2).add h'.1).add h'.2
  have hT1 := fun w h h' => times_any A l c (nd N) B' k' d' (nd D') w h (by omega) h' (by omega)
  have hT2 := fun w h h' => times_any B k d (nd D) A' l' c' (nd N') w h (by omega) h' (by omega)
  have e1 := nw_mul2 N D'
  have e2 := nw_mul2 D N'
  have hFR := fun A n1 c B n2 d w (h : Wds w A n1 c (nd (N * D'))) (k : Wds w B n2 d (nd (D * N'))) => frac_any (n != m) A n1 c (nd (N * D')) B n2 d (nd (D * N')) 0 w h (by have := h.len; rw [nd_length] at this; omega) k (by have := k.len; rw [nd_length] at this; omega) (by omega) (by omega) (by rw [nv_nd]; exact hp)
  simp only [nv_nd] at hT1 hT2 hFR
  obtain ⟨P, hP⟩ : ∃ P, P = N * D' := ⟨_, rfl⟩
  obtain ⟨Q, hQ⟩ : ∃ Q, Q = D * N' := ⟨_, rfl⟩
  rw [← hP] at hT1 hFR ⊢
  rw [← hQ] at hT2 hFR ⊢
  obtain ⟨r, hr⟩ : ∃ r, r = (n != m) := ⟨_, rfl⟩
  rw [← hr] at hFR ⊢
  obtain ⟨zz, hzz⟩ : ∃ zz, zz = (r && decide (P ≠ 0)) := ⟨_, rfl⟩
  rw [← hzz] at hFR ⊢
  clear hzz
  have HR := Lib.hid hr.symm
  have HT1 := Lib.hid hT1
  have HT2 := Lib.hid hT2
  have HFR := Lib.hid hFR
  clear hT1 hT2 hFR hP hQ hr h h' hl hk hl' hk' hN hD hN' hD' hp e1 e2
  go_enter Tryd.func72, Tryd.ntmps72
  go_wp2_with (first
    | (refine own_box (cs := [.bool n, .slice A l c, .slice B k d]) hO rfl rfl ?_; clear hO; intro ga wa hO)
    | (refine own_box (cs := [.bool m, .slice A' l' c', .slice B' k' d']) hO rfl rfl ?_; clear hO; intro gb wb hO)
    | (refine own_alloc hO zero_rat rfl rfl ?_; clear hO; intro g w1 hO))
  obtain ⟨S, hS⟩ : ∃ S : World → Prop, S = Own w [⟨g, 38, [.bool false, .slice none 0 0, .slice none 0 0]⟩, ⟨gb, 38, [.bool m, .slice A' l' c', .slice B' k' d']⟩, ⟨ga, 38, [.bool n, .slice A l c, .slice B k d]⟩] [⟨B', k', d', nd D'⟩, ⟨A', l', c', nd N'⟩, ⟨B, k, d, nd D⟩, ⟨A, l, c, nd N⟩] := ⟨_, rfl⟩
  have hSE : ∀ w w', S w → Ext w w' → S w' := fun w w' h1 h2 => by rw [hS] at h1 ⊢; exact h1.ext h2
  have hS1 : S w1.drew := by rw [hS]; exact hO.ext (Ext.refl w1).drew
  have HS := Lib.hid hS
  clear hS hO
  obtain ⟨sp, hsp⟩ : ∃ sp : Nat → Sp, sp = ofList [det (.pointer (some ⟨ga, 0, none⟩)), det (.bool n), det (.pointer (some ⟨gb, 0, none⟩)), det (.bool m), det (.bool r),
    det (.pointer (some ⟨ga, 1, none⟩)), det (.slice A l c), det (.pointer (some ⟨gb, 2, none⟩)), det (.slice B' k' d'), anyOf (fun v wz => ∃ A1 n1 c1, v = .slice A1 n1 c1 ∧ Wds wz A1 n1 c1 (nd P)),
    det (.pointer (some ⟨ga, 2, none⟩)), det (.slice B k d), det (.pointer (some ⟨gb, 1, none⟩)), det (.slice A' l' c'), anyOf (fun v wz => ∃ A1 n1 c1, v = .slice A1 n1 c1 ∧ Wds wz A1 n1 c1 (nd Q)),
    anyOf (fun v wz => ∃ A1 n1 c1 A2 n2 c2, v = .agg #[.bool zz, .slice A1 n1 c1, .slice A2 n2 c2] ∧ RatAt wz A1 n1 c1 A2 n2 c2 (fracN P Q 0) (fracD P Q 0))] := ⟨_, rfl⟩
  have HSP := Lib.hid hsp
  clear hsp
  refine wp_region_loose 16 S sp (by kernel_rfl) (by kernel_rfl) hS1 hSE ?_
  simp only [List.take_succ_cons, List.take_zero, List.drop_succ_cons, List.drop_zero]
  iterate 15
    refine wpX_step (fun K hK => ?_)
    go_simp
    first
    | (refine ⟨by rw [HSP.out]; rfl, hK _ _ ?_⟩
       clear hK K)
    | (refine StepY.det (by rw [HSP.out]; rfl) ?_ ?_
       · intro wz hz hF
         rw [HS.out] at hz
         have hf := hz.facts
         simp only [BF, CF, Nat.zero_add, Nat.reduceAdd, and_true] at hf
         have hr := HR.out
         clear hz hF
         go_simp
         first
         | exact ⟨rfl, Ext.refl _⟩
         | exact ⟨by rw [← hr]; rfl, Ext.refl _⟩
       refine hK _ _ ?_
       clear hK K)
    | (refine StepY.any (by rw [HSP.out]; rfl) ?_ ?_
       · intro wz hz hF
         rw [HS.out] at hz
         have h1 := hz.wd 3 rfl
         have h2 := hz.wd 2 rfl
         have h3 := hz.wd 1 rfl
         have h4 := hz.wd 0 rfl
         clear hz
         go_simp
         go_at_call 28
         first
         | (with_reducible refine (HT1.out _ h1 h4).mono ?_)
         | (with_reducible refine (HT2.out _ h2 h3).mono ?_)
         rintro e w2 ⟨A1, n1, c1, rfl, hW1, hE1⟩
         exact ⟨_, rfl, ⟨A1, n1, c1, rfl, hW1⟩, hE1⟩
       intro v
       refine hK _ _ ?_
       clear hK K)
  refine wpX_step (fun K hK => ?_)
  go_simp
  refine StepY.any (by rw [HSP.out]; rfl) ?_ ?_
  · intro wz hz hF
    obtain ⟨wa', ea, A1, n1, c1, hv1, hw1⟩ := hF.any 9 (by kernel_rfl) (by rw [HSP.out]; rfl)
    obtain ⟨wb', eb, A2, n2, c2, hv2, hw2⟩ := hF.any 14 (by kernel_rfl) (by rw [HSP.out]; rfl)
    clear hF
    simp only [asFun, List.nil_append, List.cons_append, List.getD_cons_succ, List.getD_cons_zero] at hv1 hv2
    subst hv1 hv2
    go_simp
    go_at_call 86
    refine (HFR.out _ _ _ _ _ _ _ (hw1.ext ea) (hw2.ext eb)).mono ?_
    rintro e w2 ⟨A3, n3, c3, A4, n4, c4, rfl, hW1, hW2, hE1⟩
    exact ⟨_, rfl, ⟨A3, n3, c3, A4, n4, c4, rfl, hW1, hW2⟩, hE1⟩
  intro v
  refine hK _ _ ?_
  clear hK K
  refine wpX_nil ?_
  intro w3 hz hF
  obtain ⟨w0, e0, A3, n3, c3, A4, n4, c4, hv, hw0⟩ := fact_any (hF 15 (by omega)) (by rw [HSP.out]; rfl)
  clear hF
  simp only [asFun, List.nil_append, List.cons_append, List.getD_cons_succ, List.getD_cons_zero] at hv
  subst hv
  rw [HS.out] at hz
  have hO := (hz.add (hw0.ext e0).1).add (hw0.ext e0).2
  clear hz hw0 e0
  go_wp2_with (refine own_store hO 0 rfl rfl rfl size_rat rfl rfl rfl ?_; clear hO; intro w4 hO)
  exact own_ret hO 0 rfl rfl rfl agg_rat size_rat rfl ⟨_, _, _, _, _, _, rfl, hO.wd 1 rfl, hO.wd 0 rfl, hO.toExt⟩
end Go.Proofs.YtadijoeeaineaaaDoor

/-
  Plain: what Add answers, by its roads; + where an operand is no number. Conditions: those that each theorem names.
-/
set_option linter.unusedVariables false
set_option linter.unusedSimpArgs false
namespace Go.Proofs.YtadijoeeaineaaaDoor
open Nm Rn
/-- The sign and the size of a sum of P and Q with signs. -/
def aNeg (n m : Bool) (P Q : Nat) : Bool := if n = m then n else if Q ≤ P then n else m
def aMag (n m : Bool) (P Q : Nat) : Nat := if n = m then P + Q else if Q ≤ P then P - Q else Q - P
theorem sn_sum (n m : Bool) (P Q : Nat) : sn (aNeg n m P Q) (aMag n m P Q) = sn n P + sn m Q := by
  unfold aNeg aMag
  by_cases h : n = m
  · rw [if_pos h, if_pos h, h]
    unfold sn
    cases m
    · simp
    · simp only [if_true]; omega
  · rw [if_neg h, if_neg h]
    by_cases hle : Q ≤ P
    · rw [if_pos hle, if_pos hle]
      unfold sn
      cases n <;> cases m
      · exact absurd rfl h
      · simp only [if_true, Bool.false_eq_true, if_false]; omega
      · simp only [if_true, Bool.false_eq_true, if_false]; omega
      · exact absurd rfl h
    · rw [if_neg hle, if_neg hle]
      unfold sn
      cases n <;> cases m
      · exact absurd rfl h
      · simp only [if_true, Bool.false_eq_true, if_false]; omega
      · simp only [if_true, Bool.false_eq_true, if_false]; omega
      · exact absurd rfl h
end Go.Proofs.YtadijoeeaineaaaDoor
namespace Go.Proofs.YtadijoeeaineaaaDoor.Rn
open Nm
/-- The document's sum. -/
theorem add_ref (d : Int) (x y : Nat) {n m : Bool} (hn : n = (sg x && decide (mg x ≠ 0))) (hm : m = (sg y && decide (mg y ≠ 0))) :
    rnd d (aNeg n m (fbN x * fbD y) (fbN y * fbD x) && decide (aMag n m (fbN x * fbD y) (fbN y * fbD x) ≠ 0)) (zr (fracN (aMag n m (fbN x * fbD y) (fbN y * fbD x)) (fbD x * fbD y) 0) (fracD (aMag n m (fbN x * fbD y) (fbN y * fbD x)) (fbD x * fbD y) 0)) = rT d ((sv x + sv y) * (K74 : Int)) := by
  have hp : 0 < fbD x * fbD y := Nat.mul_pos (fbD_pos x) (fbD_pos y)
  obtain ⟨X, hX⟩ : ∃ X, X = aMag n m (fbN x * fbD y) (fbN y * fbD x) := ⟨_, rfl⟩
  obtain ⟨z, hz⟩ : ∃ z, z = aNeg n m (fbN x * fbD y) (fbN y * fbD x) := ⟨_, rfl⟩
  have hs := sn_sum n m (fbN x * fbD y) (fbN y * fbD x)
  rw [← hX, ← hz] at hs ⊢
  have h1 := sn_frac (neg := z) (n := X) (d := fbD x * fbD y) (e := 0) (p := 0) (q := 0) rfl
  rw [hs, ← sn_mul, ← sn_mul] at h1
  have h2 := fb_sv x
  have h3 := fb_sv y
  rw [← hn] at h2
  rw [← hm] at h3
  refine rT_rat (fracD_pos _ (by omega)) ?_
  obtain ⟨F, hF⟩ : ∃ F, F = sn (z && decide (X ≠ 0)) (fracN X (fbD x * fbD y) 0) := ⟨_, rfl⟩
  obtain ⟨G, hG⟩ : ∃ G, G = fracD X (fbD x * fbD y) 0 := ⟨_, rfl⟩
  rw [← hF, ← hG] at h1 ⊢
  obtain ⟨a, ha⟩ : ∃ a, a = sn n (fbN x) := ⟨_, rfl⟩
  obtain ⟨b, hb⟩ : ∃ b, b = sn m (fbN y) := ⟨_, rfl⟩
  rw [← ha, ← hb] at h1
  rw [← ha] at h2
  rw [← hb] at h3
  have hpi : (0 : Int) < ((fbD x * fbD y : Nat) : Int) := by omega
  refine Int.eq_of_mul_eq_mul_right (Int.ne_of_gt hpi) ?_
  have e1 : ((fbD x * fbD y * 2 ^ 0 : Nat) : Int) = ((fbD x * fbD y : Nat) : Int) := by simp
  have e2 : ((2 ^ 0 * G : Nat) : Int) = (G : Int) := by simp
  rw [e1, e2] at h1
  have e3 : F * ((K74 * K74 : Nat) : Int) * ((fbD x * fbD y : Nat) : Int) = (a * K74) * (fbD y) * K74 * G + (b * K74) * (fbD x) * K74 * G := by
    rw [Int.mul_right_comm, h1, Int.add_mul, Int.add_mul]
    push_cast
    simp only [Int.mul_assoc, Int.mul_comm, Int.mul_left_comm]
  rw [e3, h2, h3, Int.add_mul, Int.add_mul, Int.add_mul]
  push_cast
  simp only [Int.mul_assoc, Int.mul_comm, Int.mul_left_comm]

/-- A whole number of units 2^-2148. -/
def un (neg : Bool) (V : Nat) (e : Int) : Int := sn neg V * ((2 ^ (e + 2148).toNat : Nat) : Int)
theorem part_un (b : Nat) : un (sg b) (fbSig b) (fbExp b) = sv b * (K74 : Int) := by
  unfold un
  have h := fbExp_lo b
  obtain ⟨c, hc⟩ : ∃ c, c = 1074 := ⟨_, rfl⟩
  have e : (fbExp b + 2148).toNat = (fbExp b + 1074).toNat + c := by omega
  have hK : ((K74 : Nat) : Int) = ((2 ^ c : Nat) : Int) := by rw [hc, K74_def]
  rw [e, ← part_sv, Int.mul_assoc, hK, pow_add_]
  push_cast
  rfl
/-- The exact road's answer. -/
theorem un_exact (d : Int) {neg : Bool} {V : Nat} {e T : Int} (he : -2148 ≤ e) (h : un neg V e = T) : rnd d neg (zd (2 * V) (e - 1)) = rT d T := by
  unfold un at h
  refine rT_dy (A := (e + 2148).toNat) (B := 0) (by omega) ?_
  rw [h]; simp

theorem inf_cases {b : Nat} (hb : b < 18446744073709551616) (h : mg b = infR) : b = infP (sg b) := by
  have := split_pat hb
  rw [h] at this
  unfold infP
  cases hs : sg b
  · rw [hs] at this; simpa using this
  · rw [hs] at this
    rw [infR_val] at this
    rw [minf_val, if_pos rfl]
    simpa using this
/-- A sum with an operand that is no number. -/
theorem add_odd {x y : Nat} (hx : x < 18446744073709551616) (hy : y < 18446744073709551616) (h : (isNaN x || isInf x || (isNaN y || isInf y)) = true) :
    (Ieee.double.add x y = none ∧ ∀ d, addR d x y = NaNc) ∨ ∃ s, Ieee.double.add x y = some (infP s) ∧ ∀ d, addR d x y = infP s := by
  unfold addR Ieee.Format.add
  rcases kind x with ⟨n1, i1, k1⟩ | ⟨n1, i1, k1⟩ | ⟨n1, i1, k1⟩
  · left
    rw [read_nan hx k1, n1]
    exact ⟨rfl, fun d => rfl⟩
  · rcases kind y with ⟨n2, i2, k2⟩ | ⟨n2, i2, k2⟩ | ⟨n2, i2, k2⟩
    · left
      rw [read_nan hy k2, read_inf hx k1, n2, n1]
      exact ⟨rfl, fun d => rfl⟩
    · rw [read_inf hy k2, read_inf hx k1, n1, n2, i1, i2]
      have ex := inf_cases hx k1
      have ey := inf_cases hy k2
      by_cases hs : sg x = sg y
      · right
        have hxy : x = y := by rw [ex, ey, hs]
        refine ⟨sg x, ?_, fun d => ?_⟩
        · show Option.map _ (if sg x = sg y then some _ else none) = _
          rw [if_pos hs]
          show some (Ieee.double.write _) = _
          rw [write_inf]
        · rw [decide_eq_false (show ¬ x ≠ y from fun h => h hxy)]
          exact ex
      · left
        have hxy : x ≠ y := fun h => hs (by rw [h])
        refine ⟨?_, fun d => ?_⟩
        · show Option.map _ (if sg x = sg y then some _ else none) = _
          rw [if_neg hs]; rfl
        · rw [decide_eq_true hxy]; rfl
    · right
      obtain ⟨m, e, hr, -, hv⟩ := read_fin hy k2
      rw [hr, read_inf hx k1, n1, n2, i1, i2]
      refine ⟨sg x, ?_, fun d => inf_cases hx k1⟩
      show some (Ieee.double.write _) = _
      rw [write_inf]
  · rcases kind y with ⟨n2, i2, k2⟩ | ⟨n2, i2, k2⟩ | ⟨n2, i2, k2⟩
    · left
      obtain ⟨m, e, hr, -, hv⟩ := read_fin hx k1
      rw [read_nan hy k2, hr, n2, n1]
      exact ⟨rfl, fun d => rfl⟩
    · right
      obtain ⟨m, e, hr, -, hv⟩ := read_fin hx k1
      rw [hr, read_inf hy k2, n1, n2, i1, i2]
      refine ⟨sg y, ?_, fun d => inf_cases hy k2⟩
      show some (Ieee.double.write _) = _
      rw [write_inf]
    · rw [n1, n2, i1, i2] at h
      cases h
end Go.Proofs.YtadijoeeaineaaaDoor.Rn

/-
  Plain: what the difference of two ratios is, and how long. Conditions: those that each theorem names.
-/
set_option linter.unusedVariables false
set_option linter.unusedSimpArgs false
namespace Go.Proofs.YtadijoeeaineaaaDoor.Rn
open Nm

/-- What RSub answers: its sign, its magnitude. -/
def sbS (n m : Bool) (N D N' D' : Nat) : Bool := aNeg n (!m && decide (N' ≠ 0)) (N * D') (N' * D) && decide (aMag n (!m && decide (N' ≠ 0)) (N * D') (N' * D) ≠ 0)
def sbN (n m : Bool) (N D N' D' : Nat) : Nat := fracN (aMag n (!m && decide (N' ≠ 0)) (N * D') (N' * D)) (D * D') 0
def sbD (n m : Bool) (N D N' D' : Nat) : Nat := fracD (aMag n (!m && decide (N' ≠ 0)) (N * D') (N' * D)) (D * D') 0
theorem sn_turn (m : Bool) (N : Nat) : sn (!m && decide (N ≠ 0)) N = -sn m N := by
  unfold sn
  by_cases h : N = 0
  · subst h; cases m <;> simp
  · rw [decide_eq_true h, Bool.and_true]; cases m <;> simp
theorem sub_val (n m : Bool) {N D N' D' : Nat} (hD : 0 < D) (hD' : 0 < D') : 0 < sbD n m N D N' D' ∧ sn (sbS n m N D N' D') (sbN n m N D N' D') * ((D : Int) * (D' : Int)) = (sn n N * (D' : Int) - sn m N' * (D : Int)) * (sbD n m N D N' D' : Int) := by
  have hp : 0 < D * D' := Nat.mul_pos hD hD'
  refine ⟨fracD_pos _ (by omega), ?_⟩
  unfold sbS sbN sbD
  have hs := sn_sum n (!m && decide (N' ≠ 0)) (N * D') (N' * D)
  obtain ⟨X, hX⟩ : ∃ X, X = aMag n (!m && decide (N' ≠ 0)) (N * D') (N' * D) := ⟨_, rfl⟩
  obtain ⟨z, hz⟩ : ∃ z, z = aNeg n (!m && decide (N' ≠ 0)) (N * D') (N' * D) := ⟨_, rfl⟩
  rw [← hX, ← hz] at hs ⊢
  have h1 := sn_frac (neg := z) (n := X) (d := D * D') (e := 0) (p := 0) (q := 0) rfl
  rw [hs, ← sn_mul, ← sn_mul, sn_turn] at h1
  have e1 : ((D * D' * 2 ^ 0 : Nat) : Int) = (D : Int) * (D' : Int) := by simp
  have e2 : ((2 ^ 0 * fracD X (D * D') 0 : Nat) : Int) = (fracD X (D * D') 0 : Int) := by simp
  rw [e1, e2, Int.neg_mul] at h1
  rw [h1, Int.sub_eq_add_neg]

theorem fracN_le_z (n d : Nat) : fracN n d 0 ≤ n := by
  unfold fracN
  split
  · omega
  · have h1 : ((0 : Int) + tz n - tz d).toNat ≤ tz n := by omega
    have h2 := Nat.pow_le_pow_right (n := 2) (by omega) h1
    have h3 := Nat.mul_le_mul_left (n / 2 ^ tz n) h2
    rwa [tz_div] at h3
theorem fracD_le_z {n d : Nat} (hd : d ≠ 0) : fracD n d 0 ≤ d := by
  unfold fracD
  split
  · omega
  · have h1 : (-((0 : Int) + tz n - tz d)).toNat ≤ tz d := by omega
    have h2 := Nat.pow_le_pow_right (n := 2) (by omega) h1
    have h3 := Nat.mul_le_mul_left (d / 2 ^ tz d) h2
    rwa [tz_div] at h3
/-- Sizes. -/
theorem sb_nw {n m : Bool} {N D N' D' b : Nat} (hD : 0 < D) (hD' : 0 < D') (h1 : nw N ≤ b) (h2 : nw D ≤ b) (h3 : nw N' ≤ b) (h4 : nw D' ≤ b) : nw (sbN n m N D N' D') ≤ 2 * b + 1 ∧ nw (sbD n m N D N' D') ≤ 2 * b := by
  have nm2 : ∀ a c : Nat, nw (a * c) ≤ nw a + nw c := fun a c => by
    refine (nw_le_iff _ _).2 ?_
    rw [Nat.pow_add]
    exact Nat.mul_lt_mul'' (lt_pow_nw a) (lt_pow_nw c)
  have hp : 0 < D * D' := Nat.mul_pos hD hD'
  have a1 := nm2 N D'
  have a2 := nm2 N' D
  have a3 := nm2 D D'
  constructor
  · unfold sbN
    refine Nat.le_trans (nw_mono (fracN_le_z _ _)) ?_
    have hm : aMag n (!m && decide (N' ≠ 0)) (N * D') (N' * D) ≤ N * D' + N' * D := by unfold aMag; split; omega; split <;> omega
    refine Nat.le_trans (nw_mono hm) ?_
    refine (nw_le_iff _ _).2 ?_
    have b1 := lt_pow_nw (N * D')
    have b2 := lt_pow_nw (N' * D)
    have c1 : 4294967296 ^ nw (N * D') ≤ 4294967296 ^ (2 * b) := Nat.pow_le_pow_right (by omega) (by omega)
    have c2 : 4294967296 ^ nw (N' * D) ≤ 4294967296 ^ (2 * b) := Nat.pow_le_pow_right (by omega) (by omega)
    rw [Nat.pow_succ]
    omega
  · unfold sbD
    exact Nat.le_trans (nw_mono (fracD_le_z (show D * D' ≠ 0 by omega))) (by omega)
end Go.Proofs.YtadijoeeaineaaaDoor.Rn
