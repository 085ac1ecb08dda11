/-
  The contract of the document's quotient of ratios. Conditions: those that each theorem names.
-/
import Derived.Test.YtjblogfbcglnmaaZ21
import Derived.Test.YtjblogfbcglnmaaZ31
namespace Go.Proofs.Ytjblogfbcglnmaa
open Go.RowKit Nm Rn
set_option maxRecDepth 100000
set_option linter.unusedVariables false
set_option linter.unusedSimpArgs false

set_option maxHeartbeats 2000000 in
theorem rquoq_any (n m : Bool) (A : Option Addr) (l c : Nat) (B : Option Addr) (k d N D : Nat) (A' : Option Addr) (l' c' : Nat) (B' : Option Addr) (k' d' N' D' : Nat) (w : World)
    (h : RatAt w A l c B k d N D) (h' : RatAt w A' l' c' B' k' d' N' D') (hN : nw N ≤ 1073741824) (hD : nw D ≤ 1073741824) (hN' : nw N' ≤ 1073741824) (hD' : nw D' ≤ 1073741824) (hp : 0 < D * N') :
    Calls Try.prog 97 #[.agg #[.bool n, .slice A l c, .slice B k d], .agg #[.bool m, .slice A' l' c', .slice B' k' d']] w (RetR ((n != m) && decide (N * D' ≠ 0)) (fracN (N * D') (D * N') 0) (fracD (N * D') (D * N') 0) w) := by
  have hl := h.lenN
  have hk := h.lenD
  have hl' := h'.lenN
  have hk' := h'.lenD
  have hO := ((((Own.start w).add h.1).add h.2).add h'.1).add h'.2
  have hT1 := fun w h h' => times_any A l c (nd N) B' k' d' (nd D') w h (by omega) h' (by omega)
  have hT2 := fun w h h' => times_any B k d (nd D) A' l' c' (nd N') w h (by omega) h' (by omega)
  have e1 := nw_mul2 N D'
  have e2 := nw_mul2 D N'
  have hFR := fun A n1 c B n2 d w (h : Wds w A n1 c (nd (N * D'))) (k : Wds w B n2 d (nd (D * N'))) => frac_any (n != m) A n1 c (nd (N * D')) B n2 d (nd (D * N')) 0 w h (by have := h.len; rw [nd_length] at this; omega) k (by have := k.len; rw [nd_length] at this; omega) (by omega) (by omega) (by rw [nv_nd]; exact hp)
  simp only [nv_nd] at hT1 hT2 hFR
  obtain ⟨P, hP⟩ : ∃ P, P = N * D' := ⟨_, rfl⟩
  obtain ⟨Q, hQ⟩ : ∃ Q, Q = D * N' := ⟨_, rfl⟩
  rw [← hP] at hT1 hFR ⊢
  rw [← hQ] at hT2 hFR ⊢
  obtain ⟨r, hr⟩ : ∃ r, r = (n != m) := ⟨_, rfl⟩
  rw [← hr] at hFR ⊢
  obtain ⟨zz, hzz⟩ : ∃ zz, zz = (r && decide (P ≠ 0)) := ⟨_, rfl⟩
  rw [← hzz] at hFR ⊢
  clear hzz
  have HR := Lib.hid hr.symm
  have HT1 := Lib.hid hT1
  have HT2 := Lib.hid hT2
  have HFR := Lib.hid hFR
  clear hT1 hT2 hFR hP hQ hr h h' hl hk hl' hk' hN hD hN' hD' hp e1 e2
  go_enter Try.func97, Try.ntmps97
  go_wp2_with (first
    | (refine own_box (cs := [.bool n, .slice A l c, .slice B k d]) hO rfl rfl ?_; clear hO; intro ga wa hO)
    | (refine own_box (cs := [.bool m, .slice A' l' c', .slice B' k' d']) hO rfl rfl ?_; clear hO; intro gb wb hO)
    | (refine own_alloc hO zero_rat rfl rfl ?_; clear hO; intro g w1 hO))
  obtain ⟨S, hS⟩ : ∃ S : World → Prop, S = Own w [⟨g, 60, [.bool false, .slice none 0 0, .slice none 0 0]⟩, ⟨gb, 60, [.bool m, .slice A' l' c', .slice B' k' d']⟩, ⟨ga, 60, [.bool n, .slice A l c, .slice B k d]⟩] [⟨B', k', d', nd D'⟩, ⟨A', l', c', nd N'⟩, ⟨B, k, d, nd D⟩, ⟨A, l, c, nd N⟩] := ⟨_, rfl⟩
  have hSE : ∀ w w', S w → Ext w w' → S w' := fun w w' h1 h2 => by rw [hS] at h1 ⊢; exact h1.ext h2
  have hS1 : S w1.drew := by rw [hS]; exact hO.ext (Ext.refl w1).drew
  have HS := Lib.hid hS
  clear hS hO
  obtain ⟨sp, hsp⟩ : ∃ sp : Nat → Sp, sp = ofList [det (.pointer (some ⟨ga, 0, none⟩)), det (.bool n), det (.pointer (some ⟨gb, 0, none⟩)), det (.bool m), det (.bool r),
    det (.pointer (some ⟨ga, 1, none⟩)), det (.slice A l c), det (.pointer (some ⟨gb, 2, none⟩)), det (.slice B' k' d'), anyOf (fun v wz => ∃ A1 n1 c1, v = .slice A1 n1 c1 ∧ Wds wz A1 n1 c1 (nd P)),
    det (.pointer (some ⟨ga, 2, none⟩)), det (.slice B k d), det (.pointer (some ⟨gb, 1, none⟩)), det (.slice A' l' c'), anyOf (fun v wz => ∃ A1 n1 c1, v = .slice A1 n1 c1 ∧ Wds wz A1 n1 c1 (nd Q)),
    anyOf (fun v wz => ∃ A1 n1 c1 A2 n2 c2, v = .agg #[.bool zz, .slice A1 n1 c1, .slice A2 n2 c2] ∧ RatAt wz A1 n1 c1 A2 n2 c2 (fracN P Q 0) (fracD P Q 0))] := ⟨_, rfl⟩
  have HSP := Lib.hid hsp
  clear hsp
  refine wp_region_loose 16 S sp (by kernel_rfl) (by kernel_rfl) hS1 hSE ?_
  simp only [List.take_succ_cons, List.take_zero, List.drop_succ_cons, List.drop_zero]
  iterate 15
    refine wpX_step (fun K hK => ?_)
    go_simp
    first
    | (refine ⟨by rw [HSP.out]; rfl, hK _ _ ?_⟩
       clear hK K)
    | (refine StepY.det (by rw [HSP.out]; rfl) ?_ ?_
       · intro wz hz hF
         rw [HS.out] at hz
         have hf := hz.facts
         simp only [BF, CF, Nat.zero_add, Nat.reduceAdd, and_true] at hf
         have hr := HR.out
         clear hz hF
         go_simp
         first
         | exact ⟨rfl, Ext.refl _⟩
         | exact ⟨by rw [← hr]; rfl, Ext.refl _⟩
       refine hK _ _ ?_
       clear hK K)
    | (refine StepY.any (by rw [HSP.out]; rfl) ?_ ?_
       · intro wz hz hF
         rw [HS.out] at hz
         have h1 := hz.wd 3 rfl
         have h2 := hz.wd 2 rfl
         have h3 := hz.wd 1 rfl
         have h4 := hz.wd 0 rfl
         clear hz
         go_simp
         go_at_call 100
         first
         | (with_reducible refine (HT1.out _ h1 h4).mono ?_)
         | (with_reducible refine (HT2.out _ h2 h3).mono ?_)
         rintro e w2 ⟨A1, n1, c1, rfl, hW1, hE1⟩
         exact ⟨_, rfl, ⟨A1, n1, c1, rfl, hW1⟩, hE1⟩
       intro v
       refine hK _ _ ?_
       clear hK K)
  refine wpX_step (fun K hK => ?_)
  go_simp
  refine StepY.any (by rw [HSP.out]; rfl) ?_ ?_
  · intro wz hz hF
    obtain ⟨wa', ea, A1, n1, c1, hv1, hw1⟩ := hF.any 9 (by kernel_rfl) (by rw [HSP.out]; rfl)
    obtain ⟨wb', eb, A2, n2, c2, hv2, hw2⟩ := hF.any 14 (by kernel_rfl) (by rw [HSP.out]; rfl)
    clear hF
    simp only [asFun, List.nil_append, List.cons_append, List.getD_cons_succ, List.getD_cons_zero] at hv1 hv2
    subst hv1 hv2
    go_simp
    go_at_call 88
    refine (HFR.out _ _ _ _ _ _ _ (hw1.ext ea) (hw2.ext eb)).mono ?_
    rintro e w2 ⟨A3, n3, c3, A4, n4, c4, rfl, hW1, hW2, hE1⟩
    exact ⟨_, rfl, ⟨A3, n3, c3, A4, n4, c4, rfl, hW1, hW2⟩, hE1⟩
  intro v
  refine hK _ _ ?_
  clear hK K
  refine wpX_nil ?_
  intro w3 hz hF
  obtain ⟨w0, e0, A3, n3, c3, A4, n4, c4, hv, hw0⟩ := fact_any (hF 15 (by omega)) (by rw [HSP.out]; rfl)
  clear hF
  simp only [asFun, List.nil_append, List.cons_append, List.getD_cons_succ, List.getD_cons_zero] at hv
  subst hv
  rw [HS.out] at hz
  have hO := (hz.add (hw0.ext e0).1).add (hw0.ext e0).2
  clear hz hw0 e0
  go_wp2_with (refine own_store hO 0 rfl rfl rfl size_rat rfl rfl rfl ?_; clear hO; intro w4 hO)
  exact own_ret hO 0 rfl rfl rfl agg_rat size_rat rfl ⟨_, _, _, _, _, _, rfl, hO.wd 1 rfl, hO.wd 0 rfl, hO.toExt⟩
end Go.Proofs.Ytjblogfbcglnmaa

/-
  The contract of the document's Div. Conditions: those that each theorem names.
-/
namespace Go.Proofs.Ytjblogfbcglnmaa
open Go.RowKit Nm Rn
set_option maxRecDepth 100000
set_option linter.unusedVariables false
set_option linter.unusedSimpArgs false

theorem divR_eq (d : Int) (x y : Nat) : divR d x y = if isNaN x || isNaN y || (isInf x && isInf y) || (zB x && zB y) then NaNc else if zB y = true then infP (sg x && !zB x) else if isInf x then infP (sg x != sg y) else if isInf y then 0 else rnd d (sg x != sg y) (zq (rv (mg x) * K75) (rv (mg y))) := by
  unfold divR zB
  by_cases h : mg y = 0 <;> by_cases h2 : mg x = 0 <;> simp [h, h2]

set_option maxHeartbeats 1000000 in
theorem div3_n1 (d : Int) (x y : Nat) (w : World) (hx : x < 18446744073709551616) (hy : y < 18446744073709551616) (hn1 : isNaN x = true) :
    Calls Try.prog 41 #[.int .i64 d, .int .u64 (x : Int), .int .u64 (y : Int)] w fun e w' => e = .returned (.int .u64 (NaNc : Nat)) ∧ Ext w w' := by
  have HNX := Lib.hid (fun w => isnan_any x w hx)
  have HNY := Lib.hid (fun w => isnan_any y w hy)
  have HIX := Lib.hid (fun w => isinf3_any x w hx)
  have HIY := Lib.hid (fun w => isinf3_any y w hy)
  have HZX := Lib.hid (fun w => zero3_any x w hx)
  have HZY := Lib.hid (fun w => zero3_any y w hy)
  rw [hn1] at HNX
  have HV : Hid ((9221120237041090561 : Int) = (NaNc : Nat)) := Lib.hid rfl
  clear hx hy hn1
  go_enter Try.func41, Try.ntmps41
  go_wp2_with (first | (go_at_call 58; ((with_reducible refine (HNX.out _).mono ?_); rintro e w' ⟨rfl, rfl⟩)) | (go_at_call 58; ((with_reducible refine (HNY.out _).mono ?_); rintro e w' ⟨rfl, rfl⟩)) | (go_at_call 59; ((with_reducible refine (HIX.out _).mono ?_); rintro e w' ⟨rfl, rfl⟩)) | (go_at_call 59; ((with_reducible refine (HIY.out _).mono ?_); rintro e w' ⟨rfl, rfl⟩)) | (go_at_call 75; ((with_reducible refine (HZX.out _).mono ?_); rintro e w' ⟨rfl, rfl⟩)) | (go_at_call 75; ((with_reducible refine (HZY.out _).mono ?_); rintro e w' ⟨rfl, rfl⟩)))
  go_ret
  exact ⟨ret_int HV.out, Ext.refl _⟩

set_option maxHeartbeats 1000000 in
theorem div3_n2 (d : Int) (x y : Nat) (w : World) (hx : x < 18446744073709551616) (hy : y < 18446744073709551616) (hn1 : isNaN x = false) (hn2 : isNaN y = true) :
    Calls Try.prog 41 #[.int .i64 d, .int .u64 (x : Int), .int .u64 (y : Int)] w fun e w' => e = .returned (.int .u64 (NaNc : Nat)) ∧ Ext w w' := by
  have HNX := Lib.hid (fun w => isnan_any x w hx)
  have HNY := Lib.hid (fun w => isnan_any y w hy)
  have HIX := Lib.hid (fun w => isinf3_any x w hx)
  have HIY := Lib.hid (fun w => isinf3_any y w hy)
  have HZX := Lib.hid (fun w => zero3_any x w hx)
  have HZY := Lib.hid (fun w => zero3_any y w hy)
  rw [hn1] at HNX
  rw [hn2] at HNY
  have HV : Hid ((9221120237041090561 : Int) = (NaNc : Nat)) := Lib.hid rfl
  clear hx hy hn1 hn2
  go_enter Try.func41, Try.ntmps41
  go_wp2_with (first | (go_at_call 58; ((with_reducible refine (HNX.out _).mono ?_); rintro e w' ⟨rfl, rfl⟩)) | (go_at_call 58; ((with_reducible refine (HNY.out _).mono ?_); rintro e w' ⟨rfl, rfl⟩)) | (go_at_call 59; ((with_reducible refine (HIX.out _).mono ?_); rintro e w' ⟨rfl, rfl⟩)) | (go_at_call 59; ((with_reducible refine (HIY.out _).mono ?_); rintro e w' ⟨rfl, rfl⟩)) | (go_at_call 75; ((with_reducible refine (HZX.out _).mono ?_); rintro e w' ⟨rfl, rfl⟩)) | (go_at_call 75; ((with_reducible refine (HZY.out _).mono ?_); rintro e w' ⟨rfl, rfl⟩)))
  go_ret
  exact ⟨ret_int HV.out, Ext.refl _⟩

set_option maxHeartbeats 1000000 in
theorem div3_ii (d : Int) (x y : Nat) (w : World) (hx : x < 18446744073709551616) (hy : y < 18446744073709551616) (hn1 : isNaN x = false) (hn2 : isNaN y = false) (hi1 : isInf x = true) (hi2 : isInf y = true) :
    Calls Try.prog 41 #[.int .i64 d, .int .u64 (x : Int), .int .u64 (y : Int)] w fun e w' => e = .returned (.int .u64 (NaNc : Nat)) ∧ Ext w w' := by
  have HNX := Lib.hid (fun w => isnan_any x w hx)
  have HNY := Lib.hid (fun w => isnan_any y w hy)
  have HIX := Lib.hid (fun w => isinf3_any x w hx)
  have HIY := Lib.hid (fun w => isinf3_any y w hy)
  have HZX := Lib.hid (fun w => zero3_any x w hx)
  have HZY := Lib.hid (fun w => zero3_any y w hy)
  rw [hn1] at HNX
  rw [hn2] at HNY
  rw [hi1] at HIX
  rw [hi2] at HIY
  have HV : Hid ((9221120237041090561 : Int) = (NaNc : Nat)) := Lib.hid rfl
  clear hx hy hn1 hn2 hi1 hi2
  go_enter Try.func41, Try.ntmps41
  go_wp2_with (first | (go_at_call 58; ((with_reducible refine (HNX.out _).mono ?_); rintro e w' ⟨rfl, rfl⟩)) | (go_at_call 58; ((with_reducible refine (HNY.out _).mono ?_); rintro e w' ⟨rfl, rfl⟩)) | (go_at_call 59; ((with_reducible refine (HIX.out _).mono ?_); rintro e w' ⟨rfl, rfl⟩)) | (go_at_call 59; ((with_reducible refine (HIY.out _).mono ?_); rintro e w' ⟨rfl, rfl⟩)) | (go_at_call 75; ((with_reducible refine (HZX.out _).mono ?_); rintro e w' ⟨rfl, rfl⟩)) | (go_at_call 75; ((with_reducible refine (HZY.out _).mono ?_); rintro e w' ⟨rfl, rfl⟩)))
  go_ret
  exact ⟨ret_int HV.out, Ext.refl _⟩

set_option maxHeartbeats 1000000 in
theorem div3_iz (d : Int) (x y : Nat) (w : World) (hx : x < 18446744073709551616) (hy : y < 18446744073709551616) (hn1 : isNaN x = false) (hn2 : isNaN y = false) (hi1 : isInf x = true) (hi2 : isInf y = false) (hz1 : zB x = true) (hz2 : zB y = true) :
    Calls Try.prog 41 #[.int .i64 d, .int .u64 (x : Int), .int .u64 (y : Int)] w fun e w' => e = .returned (.int .u64 (NaNc : Nat)) ∧ Ext w w' := by
  have HNX := Lib.hid (fun w => isnan_any x w hx)
  have HNY := Lib.hid (fun w => isnan_any y w hy)
  have HIX := Lib.hid (fun w => isinf3_any x w hx)
  have HIY := Lib.hid (fun w => isinf3_any y w hy)
  have HZX := Lib.hid (fun w => zero3_any x w hx)
  have HZY := Lib.hid (fun w => zero3_any y w hy)
  rw [hn1] at HNX
  rw [hn2] at HNY
  rw [hi1] at HIX
  rw [hi2] at HIY
  rw [hz1] at HZX
  rw [hz2] at HZY
  have HV : Hid ((9221120237041090561 : Int) = (NaNc : Nat)) := Lib.hid rfl
  clear hx hy hn1 hn2 hi1 hi2 hz1 hz2
  go_enter Try.func41, Try.ntmps41
  go_wp2_with (first | (go_at_call 58; ((with_reducible refine (HNX.out _).mono ?_); rintro e w' ⟨rfl, rfl⟩)) | (go_at_call 58; ((with_reducible refine (HNY.out _).mono ?_); rintro e w' ⟨rfl, rfl⟩)) | (go_at_call 59; ((with_reducible refine (HIX.out _).mono ?_); rintro e w' ⟨rfl, rfl⟩)) | (go_at_call 59; ((with_reducible refine (HIY.out _).mono ?_); rintro e w' ⟨rfl, rfl⟩)) | (go_at_call 75; ((with_reducible refine (HZX.out _).mono ?_); rintro e w' ⟨rfl, rfl⟩)) | (go_at_call 75; ((with_reducible refine (HZY.out _).mono ?_); rintro e w' ⟨rfl, rfl⟩)))
  go_ret
  exact ⟨ret_int HV.out, Ext.refl _⟩

set_option maxHeartbeats 1000000 in
theorem div3_iz1 (d : Int) (x y : Nat) (w : World) (hx : x < 18446744073709551616) (hy : y < 18446744073709551616) (hn1 : isNaN x = false) (hn2 : isNaN y = false) (hi1 : isInf x = true) (hi2 : isInf y = false) (hz1 : zB x = true) (hz2 : zB y = false) (hsx : mg x ≠ 0) (hsy : mg y ≠ 0) :
    Calls Try.prog 41 #[.int .i64 d, .int .u64 (x : Int), .int .u64 (y : Int)] w fun e w' => e = .returned (.int .u64 (infP (sg x != sg y) : Nat)) ∧ Ext w w' := by
  have HNX := Lib.hid (fun w => isnan_any x w hx)
  have HNY := Lib.hid (fun w => isnan_any y w hy)
  have HIX := Lib.hid (fun w => isinf3_any x w hx)
  have HIY := Lib.hid (fun w => isinf3_any y w hy)
  have HZX := Lib.hid (fun w => zero3_any x w hx)
  have HZY := Lib.hid (fun w => zero3_any y w hy)
  rw [hn1] at HNX
  rw [hn2] at HNY
  rw [hi1] at HIX
  rw [hi2] at HIY
  rw [hz1] at HZX
  rw [hz2] at HZY
  have HSX := Lib.hid (fun w => neg3_any x w)
  rw [neg_sg hsx] at HSX
  have HSY := Lib.hid (fun w => neg3_any y w)
  rw [neg_sg hsy] at HSY
  have HINF := Lib.hid (fun w => infinite_any (!(sg x == sg y)) w)
  have hV : infP (sg x != sg y) = infP (!(sg x == sg y)) := rfl
  rw [pat_infP] at HINF
  rw [hV]
  generalize infP (!(sg x == sg y)) = V at HINF ⊢
  generalize sg x = s1 at *
  generalize sg y = s2 at *
  clear hV
  clear hx hy hn1 hn2 hi1 hi2 hz1 hz2 hsx hsy
  go_enter Try.func41, Try.ntmps41
  go_wp2_with (first | (go_at_call 58; ((with_reducible refine (HNX.out _).mono ?_); rintro e w' ⟨rfl, rfl⟩)) | (go_at_call 58; ((with_reducible refine (HNY.out _).mono ?_); rintro e w' ⟨rfl, rfl⟩)) | (go_at_call 59; ((with_reducible refine (HIX.out _).mono ?_); rintro e w' ⟨rfl, rfl⟩)) | (go_at_call 59; ((with_reducible refine (HIY.out _).mono ?_); rintro e w' ⟨rfl, rfl⟩)) | (go_at_call 75; ((with_reducible refine (HZX.out _).mono ?_); rintro e w' ⟨rfl, rfl⟩)) | (go_at_call 75; ((with_reducible refine (HZY.out _).mono ?_); rintro e w' ⟨rfl, rfl⟩)) | (go_at_call 77; ((with_reducible refine (HSX.out _).mono ?_); rintro e w' ⟨rfl, rfl⟩)) | (go_at_call 77; ((with_reducible refine (HSY.out _).mono ?_); rintro e w' ⟨rfl, rfl⟩)) | (go_at_call 76; ((with_reducible refine (HINF.out _).mono ?_); rintro e w' ⟨rfl, rfl⟩)))
  go_ret
  exact ⟨rfl, Ext.refl _⟩

set_option maxHeartbeats 1000000 in
theorem div3_iz2 (d : Int) (x y : Nat) (w : World) (hx : x < 18446744073709551616) (hy : y < 18446744073709551616) (hn1 : isNaN x = false) (hn2 : isNaN y = false) (hi1 : isInf x = true) (hi2 : isInf y = false) (hz1 : zB x = false) (hz2 : zB y = true) (hsx : mg x ≠ 0) :
    Calls Try.prog 41 #[.int .i64 d, .int .u64 (x : Int), .int .u64 (y : Int)] w fun e w' => e = .returned (.int .u64 (infP (sg x) : Nat)) ∧ Ext w w' := by
  have HNX := Lib.hid (fun w => isnan_any x w hx)
  have HNY := Lib.hid (fun w => isnan_any y w hy)
  have HIX := Lib.hid (fun w => isinf3_any x w hx)
  have HIY := Lib.hid (fun w => isinf3_any y w hy)
  have HZX := Lib.hid (fun w => zero3_any x w hx)
  have HZY := Lib.hid (fun w => zero3_any y w hy)
  rw [hn1] at HNX
  rw [hn2] at HNY
  rw [hi1] at HIX
  rw [hi2] at HIY
  rw [hz1] at HZX
  rw [hz2] at HZY
  have HSX := Lib.hid (fun w => neg3_any x w)
  rw [neg_sg hsx] at HSX
  have HINF := Lib.hid (fun w => infinite_any (sg x) w)
  rw [pat_infP] at HINF
  generalize infP (sg x) = V at HINF ⊢
  generalize sg x = s1 at *
  clear hx hy hn1 hn2 hi1 hi2 hz1 hz2 hsx
  go_enter Try.func41, Try.ntmps41
  go_wp2_with (first | (go_at_call 58; ((with_reducible refine (HNX.out _).mono ?_); rintro e w' ⟨rfl, rfl⟩)) | (go_at_call 58; ((with_reducible refine (HNY.out _).mono ?_); rintro e w' ⟨rfl, rfl⟩)) | (go_at_call 59; ((with_reducible refine (HIX.out _).mono ?_); rintro e w' ⟨rfl, rfl⟩)) | (go_at_call 59; ((with_reducible refine (HIY.out _).mono ?_); rintro e w' ⟨rfl, rfl⟩)) | (go_at_call 75; ((with_reducible refine (HZX.out _).mono ?_); rintro e w' ⟨rfl, rfl⟩)) | (go_at_call 75; ((with_reducible refine (HZY.out _).mono ?_); rintro e w' ⟨rfl, rfl⟩)) | (go_at_call 77; ((with_reducible refine (HSX.out _).mono ?_); rintro e w' ⟨rfl, rfl⟩)) | (go_at_call 76; ((with_reducible refine (HINF.out _).mono ?_); rintro e w' ⟨rfl, rfl⟩)))
  go_ret
  exact ⟨rfl, Ext.refl _⟩

set_option maxHeartbeats 1000000 in
theorem div3_iz3 (d : Int) (x y : Nat) (w : World) (hx : x < 18446744073709551616) (hy : y < 18446744073709551616) (hn1 : isNaN x = false) (hn2 : isNaN y = false) (hi1 : isInf x = true) (hi2 : isInf y = false) (hz1 : zB x = false) (hz2 : zB y = false) (hsx : mg x ≠ 0) (hsy : mg y ≠ 0) :
    Calls Try.prog 41 #[.int .i64 d, .int .u64 (x : Int), .int .u64 (y : Int)] w fun e w' => e = .returned (.int .u64 (infP (sg x != sg y) : Nat)) ∧ Ext w w' := by
  have HNX := Lib.hid (fun w => isnan_any x w hx)
  have HNY := Lib.hid (fun w => isnan_any y w hy)
  have HIX := Lib.hid (fun w => isinf3_any x w hx)
  have HIY := Lib.hid (fun w => isinf3_any y w hy)
  have HZX := Lib.hid (fun w => zero3_any x w hx)
  have HZY := Lib.hid (fun w => zero3_any y w hy)
  rw [hn1] at HNX
  rw [hn2] at HNY
  rw [hi1] at HIX
  rw [hi2] at HIY
  rw [hz1] at HZX
  rw [hz2] at HZY
  have HSX := Lib.hid (fun w => neg3_any x w)
  rw [neg_sg hsx] at HSX
  have HSY := Lib.hid (fun w => neg3_any y w)
  rw [neg_sg hsy] at HSY
  have HINF := Lib.hid (fun w => infinite_any (!(sg x == sg y)) w)
  have hV : infP (sg x != sg y) = infP (!(sg x == sg y)) := rfl
  rw [pat_infP] at HINF
  rw [hV]
  generalize infP (!(sg x == sg y)) = V at HINF ⊢
  generalize sg x = s1 at *
  generalize sg y = s2 at *
  clear hV
  clear hx hy hn1 hn2 hi1 hi2 hz1 hz2 hsx hsy
  go_enter Try.func41, Try.ntmps41
  go_wp2_with (first | (go_at_call 58; ((with_reducible refine (HNX.out _).mono ?_); rintro e w' ⟨rfl, rfl⟩)) | (go_at_call 58; ((with_reducible refine (HNY.out _).mono ?_); rintro e w' ⟨rfl, rfl⟩)) | (go_at_call 59; ((with_reducible refine (HIX.out _).mono ?_); rintro e w' ⟨rfl, rfl⟩)) | (go_at_call 59; ((with_reducible refine (HIY.out _).mono ?_); rintro e w' ⟨rfl, rfl⟩)) | (go_at_call 75; ((with_reducible refine (HZX.out _).mono ?_); rintro e w' ⟨rfl, rfl⟩)) | (go_at_call 75; ((with_reducible refine (HZY.out _).mono ?_); rintro e w' ⟨rfl, rfl⟩)) | (go_at_call 77; ((with_reducible refine (HSX.out _).mono ?_); rintro e w' ⟨rfl, rfl⟩)) | (go_at_call 77; ((with_reducible refine (HSY.out _).mono ?_); rintro e w' ⟨rfl, rfl⟩)) | (go_at_call 76; ((with_reducible refine (HINF.out _).mono ?_); rintro e w' ⟨rfl, rfl⟩)))
  go_ret
  exact ⟨rfl, Ext.refl _⟩

set_option maxHeartbeats 1000000 in
theorem div3_zz (d : Int) (x y : Nat) (w : World) (hx : x < 18446744073709551616) (hy : y < 18446744073709551616) (hn1 : isNaN x = false) (hn2 : isNaN y = false) (hi1 : isInf x = false) (hz1 : zB x = true) (hz2 : zB y = true) :
    Calls Try.prog 41 #[.int .i64 d, .int .u64 (x : Int), .int .u64 (y : Int)] w fun e w' => e = .returned (.int .u64 (NaNc : Nat)) ∧ Ext w w' := by
  have HNX := Lib.hid (fun w => isnan_any x w hx)
  have HNY := Lib.hid (fun w => isnan_any y w hy)
  have HIX := Lib.hid (fun w => isinf3_any x w hx)
  have HIY := Lib.hid (fun w => isinf3_any y w hy)
  have HZX := Lib.hid (fun w => zero3_any x w hx)
  have HZY := Lib.hid (fun w => zero3_any y w hy)
  rw [hn1] at HNX
  rw [hn2] at HNY
  rw [hi1] at HIX
  rw [hz1] at HZX
  rw [hz2] at HZY
  have HV : Hid ((9221120237041090561 : Int) = (NaNc : Nat)) := Lib.hid rfl
  clear hx hy hn1 hn2 hi1 hz1 hz2
  go_enter Try.func41, Try.ntmps41
  go_wp2_with (first | (go_at_call 58; ((with_reducible refine (HNX.out _).mono ?_); rintro e w' ⟨rfl, rfl⟩)) | (go_at_call 58; ((with_reducible refine (HNY.out _).mono ?_); rintro e w' ⟨rfl, rfl⟩)) | (go_at_call 59; ((with_reducible refine (HIX.out _).mono ?_); rintro e w' ⟨rfl, rfl⟩)) | (go_at_call 59; ((with_reducible refine (HIY.out _).mono ?_); rintro e w' ⟨rfl, rfl⟩)) | (go_at_call 75; ((with_reducible refine (HZX.out _).mono ?_); rintro e w' ⟨rfl, rfl⟩)) | (go_at_call 75; ((with_reducible refine (HZY.out _).mono ?_); rintro e w' ⟨rfl, rfl⟩)))
  go_ret
  exact ⟨ret_int HV.out, Ext.refl _⟩

set_option maxHeartbeats 1000000 in
theorem div3_zi (d : Int) (x y : Nat) (w : World) (hx : x < 18446744073709551616) (hy : y < 18446744073709551616) (hn1 : isNaN x = false) (hn2 : isNaN y = false) (hi1 : isInf x = false) (hz1 : zB x = true) (hz2 : zB y = false) (hi2 : isInf y = true) :
    Calls Try.prog 41 #[.int .i64 d, .int .u64 (x : Int), .int .u64 (y : Int)] w fun e w' => e = .returned (.int .u64 (0 : Nat)) ∧ Ext w w' := by
  have HNX := Lib.hid (fun w => isnan_any x w hx)
  have HNY := Lib.hid (fun w => isnan_any y w hy)
  have HIX := Lib.hid (fun w => isinf3_any x w hx)
  have HIY := Lib.hid (fun w => isinf3_any y w hy)
  have HZX := Lib.hid (fun w => zero3_any x w hx)
  have HZY := Lib.hid (fun w => zero3_any y w hy)
  rw [hn1] at HNX
  rw [hn2] at HNY
  rw [hi1] at HIX
  rw [hz1] at HZX
  rw [hz2] at HZY
  rw [hi2] at HIY
  clear hx hy hn1 hn2 hi1 hz1 hz2 hi2
  go_enter Try.func41, Try.ntmps41
  go_wp2_with (first | (go_at_call 58; ((with_reducible refine (HNX.out _).mono ?_); rintro e w' ⟨rfl, rfl⟩)) | (go_at_call 58; ((with_reducible refine (HNY.out _).mono ?_); rintro e w' ⟨rfl, rfl⟩)) | (go_at_call 59; ((with_reducible refine (HIX.out _).mono ?_); rintro e w' ⟨rfl, rfl⟩)) | (go_at_call 59; ((with_reducible refine (HIY.out _).mono ?_); rintro e w' ⟨rfl, rfl⟩)) | (go_at_call 75; ((with_reducible refine (HZX.out _).mono ?_); rintro e w' ⟨rfl, rfl⟩)) | (go_at_call 75; ((with_reducible refine (HZY.out _).mono ?_); rintro e w' ⟨rfl, rfl⟩)))
  go_ret
  exact ⟨rfl, Ext.refl _⟩

set_option maxHeartbeats 1000000 in
theorem div3_fz (d : Int) (x y : Nat) (w : World) (hx : x < 18446744073709551616) (hy : y < 18446744073709551616) (hn1 : isNaN x = false) (hn2 : isNaN y = false) (hi1 : isInf x = false) (hz1 : zB x = false) (hz2 : zB y = true) (hsx : mg x ≠ 0) :
    Calls Try.prog 41 #[.int .i64 d, .int .u64 (x : Int), .int .u64 (y : Int)] w fun e w' => e = .returned (.int .u64 (infP (sg x) : Nat)) ∧ Ext w w' := by
  have HNX := Lib.hid (fun w => isnan_any x w hx)
  have HNY := Lib.hid (fun w => isnan_any y w hy)
  have HIX := Lib.hid (fun w => isinf3_any x w hx)
  have HIY := Lib.hid (fun w => isinf3_any y w hy)
  have HZX := Lib.hid (fun w => zero3_any x w hx)
  have HZY := Lib.hid (fun w => zero3_any y w hy)
  rw [hn1] at HNX
  rw [hn2] at HNY
  rw [hi1] at HIX
  rw [hz1] at HZX
  rw [hz2] at HZY
  have HSX := Lib.hid (fun w => neg3_any x w)
  rw [neg_sg hsx] at HSX
  have HINF := Lib.hid (fun w => infinite_any (sg x) w)
  rw [pat_infP] at HINF
  generalize infP (sg x) = V at HINF ⊢
  generalize sg x = s1 at *
  clear hx hy hn1 hn2 hi1 hz1 hz2 hsx
  go_enter Try.func41, Try.ntmps41
  go_wp2_with (first | (go_at_call 58; ((with_reducible refine (HNX.out _).mono ?_); rintro e w' ⟨rfl, rfl⟩)) | (go_at_call 58; ((with_reducible refine (HNY.out _).mono ?_); rintro e w' ⟨rfl, rfl⟩)) | (go_at_call 59; ((with_reducible refine (HIX.out _).mono ?_); rintro e w' ⟨rfl, rfl⟩)) | (go_at_call 59; ((with_reducible refine (HIY.out _).mono ?_); rintro e w' ⟨rfl, rfl⟩)) | (go_at_call 75; ((with_reducible refine (HZX.out _).mono ?_); rintro e w' ⟨rfl, rfl⟩)) | (go_at_call 75; ((with_reducible refine (HZY.out _).mono ?_); rintro e w' ⟨rfl, rfl⟩)) | (go_at_call 77; ((with_reducible refine (HSX.out _).mono ?_); rintro e w' ⟨rfl, rfl⟩)) | (go_at_call 76; ((with_reducible refine (HINF.out _).mono ?_); rintro e w' ⟨rfl, rfl⟩)))
  go_ret
  exact ⟨rfl, Ext.refl _⟩

set_option maxHeartbeats 1000000 in
theorem div3_fi (d : Int) (x y : Nat) (w : World) (hx : x < 18446744073709551616) (hy : y < 18446744073709551616) (hn1 : isNaN x = false) (hn2 : isNaN y = false) (hi1 : isInf x = false) (hz1 : zB x = false) (hz2 : zB y = false) (hi2 : isInf y = true) :
    Calls Try.prog 41 #[.int .i64 d, .int .u64 (x : Int), .int .u64 (y : Int)] w fun e w' => e = .returned (.int .u64 (0 : Nat)) ∧ Ext w w' := by
  have HNX := Lib.hid (fun w => isnan_any x w hx)
  have HNY := Lib.hid (fun w => isnan_any y w hy)
  have HIX := Lib.hid (fun w => isinf3_any x w hx)
  have HIY := Lib.hid (fun w => isinf3_any y w hy)
  have HZX := Lib.hid (fun w => zero3_any x w hx)
  have HZY := Lib.hid (fun w => zero3_any y w hy)
  rw [hn1] at HNX
  rw [hn2] at HNY
  rw [hi1] at HIX
  rw [hz1] at HZX
  rw [hz2] at HZY
  rw [hi2] at HIY
  clear hx hy hn1 hn2 hi1 hz1 hz2 hi2
  go_enter Try.func41, Try.ntmps41
  go_wp2_with (first | (go_at_call 58; ((with_reducible refine (HNX.out _).mono ?_); rintro e w' ⟨rfl, rfl⟩)) | (go_at_call 58; ((with_reducible refine (HNY.out _).mono ?_); rintro e w' ⟨rfl, rfl⟩)) | (go_at_call 59; ((with_reducible refine (HIX.out _).mono ?_); rintro e w' ⟨rfl, rfl⟩)) | (go_at_call 59; ((with_reducible refine (HIY.out _).mono ?_); rintro e w' ⟨rfl, rfl⟩)) | (go_at_call 75; ((with_reducible refine (HZX.out _).mono ?_); rintro e w' ⟨rfl, rfl⟩)) | (go_at_call 75; ((with_reducible refine (HZY.out _).mono ?_); rintro e w' ⟨rfl, rfl⟩)))
  go_ret
  exact ⟨rfl, Ext.refl _⟩

set_option maxHeartbeats 1000000 in
theorem div3_fin0 (d : Int) (x y : Nat) (w : World) (hx : x < 18446744073709551616) (hy : y < 18446744073709551616) (hn1 : isNaN x = false) (hn2 : isNaN y = false) (hi1 : isInf x = false) (hz1 : zB x = true) (hz2 : zB y = false) (hi2 : isInf y = false) (hsy : mg y ≠ 0) :
    Calls Try.prog 41 #[.int .i64 d, .int .u64 (x : Int), .int .u64 (y : Int)] w fun e w' => e = .returned (.int .u64 (rnd d (sg x != sg y) (zq (rv (mg x) * K75) (rv (mg y))) : Nat)) ∧ Ext w w' := by
  have HNX := Lib.hid (fun w => isnan_any x w hx)
  have HNY := Lib.hid (fun w => isnan_any y w hy)
  have HIX := Lib.hid (fun w => isinf3_any x w hx)
  have HIY := Lib.hid (fun w => isinf3_any y w hy)
  have HZX := Lib.hid (fun w => zero3_any x w hx)
  have HZY := Lib.hid (fun w => zero3_any y w hy)
  rw [hn1] at HNX
  rw [hn2] at HNY
  rw [hi1] at HIX
  rw [hz1] at HZX
  rw [hz2] at HZY
  rw [hi2] at HIY
  obtain ⟨n, hn⟩ : ∃ n, n = (sg x && decide (mg x ≠ 0)) := ⟨_, rfl⟩
  obtain ⟨m, hm⟩ : ∃ m, m = (sg y && decide (mg y ≠ 0)) := ⟨_, rfl⟩
  have hf := quo_ref d x y hsy hn hm
  obtain ⟨V, hV⟩ : ∃ V, V = rnd d (sg x != sg y) (zq (rv (mg x) * K75) (rv (mg y))) := ⟨_, rfl⟩
  rw [← hV] at hf ⊢
  have hF1 := fun w => frombits_any x w hx
  have hF2 := fun w => frombits_any y w hy
  rw [← hn] at hF1
  rw [← hm] at hF2
  have b1 := fbN_bits x
  have b2 := fbD_bits x
  have b3 := fbN_bits y
  have b4 := fbD_bits y
  have p1 := fbD_pos x
  have p2 : 0 < fbN y := by
    rcases Nat.eq_zero_or_pos (fbN y) with h | h
    · exact absurd ((fbN_zero y).1 h) hsy
    · exact h
  have hQ := Nat.mul_pos p1 p2
  have c1 := nw_mul2 (fbN x) (fbD y)
  have c2 := nw_mul2 (fbD x) (fbN y)
  have c3 := nw_le_of (fracN_le0 (fbN x * fbD y) (fbD x * fbN y)) (Nat.le_refl _)
  have c4 := nw_le_of (fracD_le0 (n := fbN x * fbD y) (d := fbD x * fbN y) (by omega)) (Nat.le_refl _)
  have HM := Lib.hid (fun A l c B k e A' l' c' B' k' e' w h h' => rquoq_any n m A l c B k e (fbN x) (fbD x) A' l' c' B' k' e' (fbN y) (fbD y) w h h' (by omega) (by omega) (by omega) (by omega) hQ)
  have HB := Lib.hid (fun A l c B k e w h => bits3_any d ((n != m) && decide (fbN x * fbD y ≠ 0)) A l c B k e (fracN (fbN x * fbD y) (fbD x * fbN y) 0) (fracD (fbN x * fbD y) (fbD x * fbN y) 0) w h (by omega) (by omega) (Nat.ne_of_gt (fracD_pos _ (by omega))))
  rw [hf] at HB
  generalize ((n != m) && decide (fbN x * fbD y ≠ 0)) = zz at HM HB
  have HF1 := Lib.hid hF1
  have HF2 := Lib.hid hF2
  clear hf hF1 hF2 hV hx hy b1 b2 b3 b4 p1 p2 hQ c1 c2 c3 c4 hn hm hsy hn1 hn2 hi1 hz1 hz2 hi2
  go_enter Try.func41, Try.ntmps41
  go_wp2_with (first | (go_at_call 58; ((with_reducible refine (HNX.out _).mono ?_); rintro e w' ⟨rfl, rfl⟩)) | (go_at_call 58; ((with_reducible refine (HNY.out _).mono ?_); rintro e w' ⟨rfl, rfl⟩)) | (go_at_call 59; ((with_reducible refine (HIX.out _).mono ?_); rintro e w' ⟨rfl, rfl⟩)) | (go_at_call 59; ((with_reducible refine (HIY.out _).mono ?_); rintro e w' ⟨rfl, rfl⟩)) | (go_at_call 75; ((with_reducible refine (HZX.out _).mono ?_); rintro e w' ⟨rfl, rfl⟩)) | (go_at_call 75; ((with_reducible refine (HZY.out _).mono ?_); rintro e w' ⟨rfl, rfl⟩)))
  refine (HF1.out _).mono ?_
  rintro e w2 ⟨A1, n1, c1, B1, k1, d1, rfl, hA1, hB1, hE1⟩
  go_wp2_with fail
  refine (HF2.out _).mono ?_
  rintro e w3 ⟨A2, n2, c2, B2, k2, d2, rfl, hA2, hB2, hE2⟩
  go_wp2_with fail
  refine (HM.out _ _ _ _ _ _ _ _ _ _ _ _ _ ⟨hA1.ext hE2, hB1.ext hE2⟩ ⟨hA2, hB2⟩).mono ?_
  rintro e w4 ⟨A3, n3, c3, B3, k3, d3, rfl, hA3, hB3, hE3⟩
  go_wp2_with fail
  refine (HB.out _ _ _ _ _ _ _ ⟨hA3, hB3⟩).mono ?_
  rintro e w5 ⟨rfl, hE4⟩
  go_wp2
  go_ret
  exact ⟨rfl, ((hE1.trans hE2).trans hE3).trans hE4⟩

set_option maxHeartbeats 1000000 in
theorem div3_fin1 (d : Int) (x y : Nat) (w : World) (hx : x < 18446744073709551616) (hy : y < 18446744073709551616) (hn1 : isNaN x = false) (hn2 : isNaN y = false) (hi1 : isInf x = false) (hz1 : zB x = false) (hz2 : zB y = false) (hi2 : isInf y = false) (hsy : mg y ≠ 0) :
    Calls Try.prog 41 #[.int .i64 d, .int .u64 (x : Int), .int .u64 (y : Int)] w fun e w' => e = .returned (.int .u64 (rnd d (sg x != sg y) (zq (rv (mg x) * K75) (rv (mg y))) : Nat)) ∧ Ext w w' := by
  have HNX := Lib.hid (fun w => isnan_any x w hx)
  have HNY := Lib.hid (fun w => isnan_any y w hy)
  have HIX := Lib.hid (fun w => isinf3_any x w hx)
  have HIY := Lib.hid (fun w => isinf3_any y w hy)
  have HZX := Lib.hid (fun w => zero3_any x w hx)
  have HZY := Lib.hid (fun w => zero3_any y w hy)
  rw [hn1] at HNX
  rw [hn2] at HNY
  rw [hi1] at HIX
  rw [hz1] at HZX
  rw [hz2] at HZY
  rw [hi2] at HIY
  obtain ⟨n, hn⟩ : ∃ n, n = (sg x && decide (mg x ≠ 0)) := ⟨_, rfl⟩
  obtain ⟨m, hm⟩ : ∃ m, m = (sg y && decide (mg y ≠ 0)) := ⟨_, rfl⟩
  have hf := quo_ref d x y hsy hn hm
  obtain ⟨V, hV⟩ : ∃ V, V = rnd d (sg x != sg y) (zq (rv (mg x) * K75) (rv (mg y))) := ⟨_, rfl⟩
  rw [← hV] at hf ⊢
  have hF1 := fun w => frombits_any x w hx
  have hF2 := fun w => frombits_any y w hy
  rw [← hn] at hF1
  rw [← hm] at hF2
  have b1 := fbN_bits x
  have b2 := fbD_bits x
  have b3 := fbN_bits y
  have b4 := fbD_bits y
  have p1 := fbD_pos x
  have p2 : 0 < fbN y := by
    rcases Nat.eq_zero_or_pos (fbN y) with h | h
    · exact absurd ((fbN_zero y).1 h) hsy
    · exact h
  have hQ := Nat.mul_pos p1 p2
  have c1 := nw_mul2 (fbN x) (fbD y)
  have c2 := nw_mul2 (fbD x) (fbN y)
  have c3 := nw_le_of (fracN_le0 (fbN x * fbD y) (fbD x * fbN y)) (Nat.le_refl _)
  have c4 := nw_le_of (fracD_le0 (n := fbN x * fbD y) (d := fbD x * fbN y) (by omega)) (Nat.le_refl _)
  have HM := Lib.hid (fun A l c B k e A' l' c' B' k' e' w h h' => rquoq_any n m A l c B k e (fbN x) (fbD x) A' l' c' B' k' e' (fbN y) (fbD y) w h h' (by omega) (by omega) (by omega) (by omega) hQ)
  have HB := Lib.hid (fun A l c B k e w h => bits3_any d ((n != m) && decide (fbN x * fbD y ≠ 0)) A l c B k e (fracN (fbN x * fbD y) (fbD x * fbN y) 0) (fracD (fbN x * fbD y) (fbD x * fbN y) 0) w h (by omega) (by omega) (Nat.ne_of_gt (fracD_pos _ (by omega))))
  rw [hf] at HB
  generalize ((n != m) && decide (fbN x * fbD y ≠ 0)) = zz at HM HB
  have HF1 := Lib.hid hF1
  have HF2 := Lib.hid hF2
  clear hf hF1 hF2 hV hx hy b1 b2 b3 b4 p1 p2 hQ c1 c2 c3 c4 hn hm hsy hn1 hn2 hi1 hz1 hz2 hi2
  go_enter Try.func41, Try.ntmps41
  go_wp2_with (first | (go_at_call 58; ((with_reducible refine (HNX.out _).mono ?_); rintro e w' ⟨rfl, rfl⟩)) | (go_at_call 58; ((with_reducible refine (HNY.out _).mono ?_); rintro e w' ⟨rfl, rfl⟩)) | (go_at_call 59; ((with_reducible refine (HIX.out _).mono ?_); rintro e w' ⟨rfl, rfl⟩)) | (go_at_call 59; ((with_reducible refine (HIY.out _).mono ?_); rintro e w' ⟨rfl, rfl⟩)) | (go_at_call 75; ((with_reducible refine (HZX.out _).mono ?_); rintro e w' ⟨rfl, rfl⟩)) | (go_at_call 75; ((with_reducible refine (HZY.out _).mono ?_); rintro e w' ⟨rfl, rfl⟩)))
  refine (HF1.out _).mono ?_
  rintro e w2 ⟨A1, n1, c1, B1, k1, d1, rfl, hA1, hB1, hE1⟩
  go_wp2_with fail
  refine (HF2.out _).mono ?_
  rintro e w3 ⟨A2, n2, c2, B2, k2, d2, rfl, hA2, hB2, hE2⟩
  go_wp2_with fail
  refine (HM.out _ _ _ _ _ _ _ _ _ _ _ _ _ ⟨hA1.ext hE2, hB1.ext hE2⟩ ⟨hA2, hB2⟩).mono ?_
  rintro e w4 ⟨A3, n3, c3, B3, k3, d3, rfl, hA3, hB3, hE3⟩
  go_wp2_with fail
  refine (HB.out _ _ _ _ _ _ _ ⟨hA3, hB3⟩).mono ?_
  rintro e w5 ⟨rfl, hE4⟩
  go_wp2
  go_ret
  exact ⟨rfl, ((hE1.trans hE2).trans hE3).trans hE4⟩

theorem div3_any (d : Int) (x y : Nat) (w : World) (hx : x < 18446744073709551616) (hy : y < 18446744073709551616) :
    Calls Try.prog 41 #[.int .i64 d, .int .u64 (x : Int), .int .u64 (y : Int)] w fun e w' => e = .returned (.int .u64 (divR d x y : Nat)) ∧ Ext w w' := by
  rw [divR_eq]
  have zi : ∀ b, isInf b = true → mg b ≠ 0 := fun b h => by rw [(isInf_iff b).1 h, infR_val]; omega
  have zt : ∀ b, zB b = false → mg b ≠ 0 := fun b h => by unfold zB at h; simpa using h
  cases h1 : isNaN x
  case true => simp only [Bool.true_or, Bool.or_true, Bool.false_or, Bool.or_false, Bool.and_true, Bool.true_and, Bool.false_and, Bool.and_false, Bool.not_true, Bool.not_false, if_true, if_false, Bool.false_eq_true]; exact div3_n1 d x y w hx hy h1
  case false =>
    cases h2 : isNaN y
    case true => simp only [Bool.true_or, Bool.or_true, Bool.false_or, Bool.or_false, Bool.and_true, Bool.true_and, Bool.false_and, Bool.and_false, Bool.not_true, Bool.not_false, if_true, if_false, Bool.false_eq_true]; exact div3_n2 d x y w hx hy h1 h2
    case false =>
      cases h3 : isInf x
      case true =>
        cases h4 : isInf y
        case true => simp only [Bool.true_or, Bool.or_true, Bool.false_or, Bool.or_false, Bool.and_true, Bool.true_and, Bool.false_and, Bool.and_false, Bool.not_true, Bool.not_false, if_true, if_false, Bool.false_eq_true]; exact div3_ii d x y w hx hy h1 h2 h3 h4
        case false =>
          cases h5 : zB x
          case true =>
            cases h6 : zB y
            case true => simp only [Bool.true_or, Bool.or_true, Bool.false_or, Bool.or_false, Bool.and_true, Bool.true_and, Bool.false_and, Bool.and_false, Bool.not_true, Bool.not_false, if_true, if_false, Bool.false_eq_true]; exact div3_iz d x y w hx hy h1 h2 h3 h4 h5 h6
            case false => simp only [Bool.true_or, Bool.or_true, Bool.false_or, Bool.or_false, Bool.and_true, Bool.true_and, Bool.false_and, Bool.and_false, Bool.not_true, Bool.not_false, if_true, if_false, Bool.false_eq_true]; exact div3_iz1 d x y w hx hy h1 h2 h3 h4 h5 h6 (zi x h3) (zt y h6)
          case false =>
            cases h6 : zB y
            case true =>
              simp only [Bool.true_or, Bool.or_true, Bool.false_or, Bool.or_false, Bool.and_true, Bool.true_and, Bool.false_and, Bool.and_false, Bool.not_true, Bool.not_false, if_true, if_false, Bool.false_eq_true]
              exact div3_iz2 d x y w hx hy h1 h2 h3 h4 h5 h6 (zi x h3)
            case false => simp only [Bool.true_or, Bool.or_true, Bool.false_or, Bool.or_false, Bool.and_true, Bool.true_and, Bool.false_and, Bool.and_false, Bool.not_true, Bool.not_false, if_true, if_false, Bool.false_eq_true]; exact div3_iz3 d x y w hx hy h1 h2 h3 h4 h5 h6 (zi x h3) (zt y h6)
      case false =>
        cases h5 : zB x
        case true =>
          cases h6 : zB y
          case true => simp only [Bool.true_or, Bool.or_true, Bool.false_or, Bool.or_false, Bool.and_true, Bool.true_and, Bool.false_and, Bool.and_false, Bool.not_true, Bool.not_false, if_true, if_false, Bool.false_eq_true]; exact div3_zz d x y w hx hy h1 h2 h3 h5 h6
          case false =>
            cases h4 : isInf y
            case true => simp only [Bool.true_or, Bool.or_true, Bool.false_or, Bool.or_false, Bool.and_true, Bool.true_and, Bool.false_and, Bool.and_false, Bool.not_true, Bool.not_false, if_true, if_false, Bool.false_eq_true]; exact div3_zi d x y w hx hy h1 h2 h3 h5 h6 h4
            case false => simp only [Bool.true_or, Bool.or_true, Bool.false_or, Bool.or_false, Bool.and_true, Bool.true_and, Bool.false_and, Bool.and_false, Bool.not_true, Bool.not_false, if_true, if_false, Bool.false_eq_true]; exact div3_fin0 d x y w hx hy h1 h2 h3 h5 h6 h4 (zt y h6)
        case false =>
          cases h6 : zB y
          case true =>
            simp only [Bool.true_or, Bool.or_true, Bool.false_or, Bool.or_false, Bool.and_true, Bool.true_and, Bool.false_and, Bool.and_false, Bool.not_true, Bool.not_false, if_true, if_false, Bool.false_eq_true]
            exact div3_fz d x y w hx hy h1 h2 h3 h5 h6 (zt x h5)
          case false =>
            cases h4 : isInf y
            case true => simp only [Bool.true_or, Bool.or_true, Bool.false_or, Bool.or_false, Bool.and_true, Bool.true_and, Bool.false_and, Bool.and_false, Bool.not_true, Bool.not_false, if_true, if_false, Bool.false_eq_true]; exact div3_fi d x y w hx hy h1 h2 h3 h5 h6 h4
            case false => simp only [Bool.true_or, Bool.or_true, Bool.false_or, Bool.or_false, Bool.and_true, Bool.true_and, Bool.false_and, Bool.and_false, Bool.not_true, Bool.not_false, if_true, if_false, Bool.false_eq_true]; exact div3_fin1 d x y w hx hy h1 h2 h3 h5 h6 h4 (zt y h6)
end Go.Proofs.Ytjblogfbcglnmaa
