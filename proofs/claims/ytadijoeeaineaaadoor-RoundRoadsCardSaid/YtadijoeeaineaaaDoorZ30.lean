/-
  The contracts of the document's powers of ratios below 0, and of its Pow. Conditions: those that each theorem names.
-/
import Derived.Test.YtadijoeeaineaaaDoorZ29
import Derived.Test.YtadijoeeaineaaaDoorZ26
import Derived.Test.YtadijoeeaineaaaDoorZ28
import Derived.Test.YtadijoeeaineaaaDoorZ07
import Derived.Test.YtadijoeeaineaaaDoorRows
import Derived.Test.YtadijoeeaineaaaDoorZ25
import Derived.ProofKit
import Derived.LaidMore
import Derived.OpenShut
import Derived.Stop.Joined
namespace Go.Proofs.YtadijoeeaineaaaDoor
open Go.RowKit Nm Rn
set_option maxRecDepth 100000
set_option linter.unusedVariables false
set_option linter.unusedSimpArgs false

set_option maxHeartbeats 2000000 in
theorem rpown_any (A : Option Addr) (l c : Nat) (B : Option Addr) (k d N D e : Nat) (w : World) (h : RatAt w A l c B k d N D) (he : e ≤ 1024) (bN : bl N ≤ 3000) (bD : bl D ≤ 3000) (hD : 0 < D) :
    Calls Tryd.prog 40 #[.agg #[.bool true, .slice A l c, .slice B k d], .int .i64 (e : Int)] w (RetR (decide (e % 2 = 1) && decide (N ^ e ≠ 0)) (fracN (N ^ e) (D ^ e) 0) (fracD (N ^ e) (D ^ e) 0) w) := by
  have hl := h.lenN
  have hk := h.lenD
  have hO := ((Own.start w).add h.1).add h.2
  have hsz : ∀ V, bl V ≤ 3000 → nw V ≤ 100 ∧ nw ((V + 1) ^ e) ≤ 1000000 ∧ nw (V ^ e) ≤ 1000000 := fun V hV => by
    have h1 := nw_bl V
    obtain ⟨T, hT⟩ : ∃ T, T = 3001 := ⟨_, rfl⟩
    have h2 : (V + 1) ≤ 2 ^ T := by
      have h3 := lt_pow_bl V
      have h4 : 2 ^ bl V ≤ 2 ^ T := Nat.pow_le_pow_right (by omega) (by omega)
      omega
    have h5 := nw_pow_le (n := e) h2
    have h6 : nw (V ^ e) ≤ nw ((V + 1) ^ e) := nw_mono (Nat.pow_le_pow_left (by omega) e)
    rw [hT] at h5
    omega
  obtain ⟨s1, s2, s3⟩ := hsz N bN
  obtain ⟨t1, t2, t3⟩ := hsz D bD
  have hT1 := fun w h => power_any A l c (nd N) e w h (by omega) (by omega) (by rw [nv_nd]; exact s2)
  have hT2 := fun w h => power_any B k d (nd D) e w h (by omega) (by omega) (by rw [nv_nd]; exact t2)
  have hp : 0 < D ^ e := Nat.pow_pos hD
  have hFR := fun A n1 c B n2 d w (h : Wds w A n1 c (nd (N ^ e))) (k : Wds w B n2 d (nd (D ^ e))) => frac_any (decide (e % 2 = 1)) A n1 c (nd (N ^ e)) B n2 d (nd (D ^ e)) 0 w h (by have := h.len; rw [nd_length] at this; omega) k (by have := k.len; rw [nd_length] at this; omega) (by omega) (by omega) (by rw [nv_nd]; exact hp)
  simp only [nv_nd] at hT1 hT2 hFR
  obtain ⟨P, hP⟩ : ∃ P, P = N ^ e := ⟨_, rfl⟩
  obtain ⟨Q, hQ⟩ : ∃ Q, Q = D ^ e := ⟨_, rfl⟩
  rw [← hP] at hT1 hFR ⊢
  rw [← hQ] at hT2 hFR ⊢
  obtain ⟨par, hpar⟩ : ∃ b, b = decide (e % 2 = 1) := ⟨_, rfl⟩
  rw [← hpar] at hFR ⊢
  obtain ⟨R, hR⟩ : ∃ b, b = (par && decide (P ≠ 0)) := ⟨_, rfl⟩
  rw [← hR] at hFR ⊢
  have hq : ((e : Int) % 2 == 1) = par := by
    rw [hpar, Bool.eq_iff_iff, beq_iff_eq, decide_eq_true_eq]
    omega
  have HT1 := Lib.hid hT1
  have HT2 := Lib.hid hT2
  have HFR := Lib.hid hFR
  clear hT1 hT2 hFR hP hQ hpar hR h hl hk hsz s1 s2 s3 t1 t2 t3 bN bD hD hp
  go_enter Tryd.func40, Tryd.ntmps40
  go_wp2_with (first
    | (refine own_box (cs := [.bool true, .slice A l c, .slice B k d]) hO rfl rfl ?_; clear hO; intro ga wa hO)
    | (refine own_alloc hO zero_rat rfl rfl ?_; clear hO; intro g w1 hO))
  obtain ⟨S, hS⟩ : ∃ S : World → Prop, S = Own w [⟨g, 38, [.bool false, .slice none 0 0, .slice none 0 0]⟩, ⟨ga, 38, [.bool true, .slice A l c, .slice B k d]⟩] [⟨B, k, d, nd D⟩, ⟨A, l, c, nd N⟩] := ⟨_, rfl⟩
  have hSE : ∀ w w', S w → Ext w w' → S w' := fun w w' h1 h2 => by rw [hS] at h1 ⊢; exact h1.ext h2
  have hS1 : S w1.drew := by rw [hS]; exact hO.ext (Ext.refl w1).drew
  have HS := Lib.hid hS
  clear hS hO
  obtain ⟨sp, hsp⟩ : ∃ sp : Nat → Sp, sp = ofList [det (.pointer (some ⟨ga, 0, none⟩)), det (.bool true), det (.bool true), det (.int .i64 (e : Int)), det (.int .i64 ((e : Int) % 2)), det (.bool par), det (.bool par),
    det (.pointer (some ⟨ga, 1, none⟩)), det (.slice A l c), det (.int .i64 (e : Int)), anyOf (fun v wz => ∃ A1 n1 c1, v = .slice A1 n1 c1 ∧ Wds wz A1 n1 c1 (nd P)),
    det (.pointer (some ⟨ga, 2, none⟩)), det (.slice B k d), det (.int .i64 (e : Int)), anyOf (fun v wz => ∃ A1 n1 c1, v = .slice A1 n1 c1 ∧ Wds wz A1 n1 c1 (nd Q)),
    anyOf (fun v wz => ∃ A1 n1 c1 A2 n2 c2, v = .agg #[.bool R, .slice A1 n1 c1, .slice A2 n2 c2] ∧ RatAt wz A1 n1 c1 A2 n2 c2 (fracN P Q 0) (fracD P Q 0))] := ⟨_, rfl⟩
  have HSP := Lib.hid hsp
  clear hsp
  refine wp_region_loose 16 S sp (by kernel_rfl) (by kernel_rfl) hS1 hSE ?_
  simp only [List.take_succ_cons, List.take_zero, List.drop_succ_cons, List.drop_zero]
  iterate 15
    refine wpX_step (fun K hK => ?_)
    go_simp
    first
    | (refine ⟨by rw [HSP.out]; rfl, hK _ _ ?_⟩
       clear hK K)
    | (refine StepY.det (by rw [HSP.out]; rfl) ?_ ?_
       · intro wz hz hF
         rw [HS.out] at hz
         have hf := hz.facts
         simp only [BF, CF, Nat.zero_add, Nat.reduceAdd, and_true] at hf
         clear hz hF
         go_simp
         exact ⟨rfl, Ext.refl _⟩
       refine hK _ _ ?_
       clear hK K)
    | (refine StepY.any (by rw [HSP.out]; rfl) ?_ ?_
       · intro wz hz hF
         rw [HS.out] at hz
         have h1 := hz.wd 1 rfl
         have h2 := hz.wd 0 rfl
         clear hz
         go_simp
         go_at_call 101
         first
         | (with_reducible refine (HT1.out _ h1).mono ?_)
         | (with_reducible refine (HT2.out _ h2).mono ?_)
         rintro e w2 ⟨A1, n1, c1, rfl, hW1, hE1⟩
         exact ⟨_, rfl, ⟨A1, n1, c1, rfl, hW1⟩, hE1⟩
       intro v
       refine hK _ _ ?_
       clear hK K)
  refine wpX_step (fun K hK => ?_)
  go_simp
  refine StepY.any (by rw [HSP.out]; rfl) ?_ ?_
  · intro wz hz hF
    obtain ⟨wa', ea, A1, n1, c1, hv1, hw1⟩ := hF.any 10 (by kernel_rfl) (by rw [HSP.out]; rfl)
    obtain ⟨wb', eb, A2, n2, c2, hv2, hw2⟩ := hF.any 14 (by kernel_rfl) (by rw [HSP.out]; rfl)
    clear hF
    simp only [asFun, List.nil_append, List.cons_append, List.getD_cons_succ, List.getD_cons_zero] at hv1 hv2
    subst hv1 hv2
    go_simp
    go_at_call 86
    refine (HFR.out _ _ _ _ _ _ _ (hw1.ext ea) (hw2.ext eb)).mono ?_
    rintro e w2 ⟨A3, n3, c3, A4, n4, c4, rfl, hW1, hW2, hE1⟩
    exact ⟨_, rfl, ⟨A3, n3, c3, A4, n4, c4, rfl, hW1, hW2⟩, hE1⟩
  intro v
  refine hK _ _ ?_
  clear hK K
  refine wpX_nil ?_
  intro w3 hz hF
  obtain ⟨w0, e0, A3, n3, c3, A4, n4, c4, hv, hw0⟩ := fact_any (hF 15 (by omega)) (by rw [HSP.out]; rfl)
  clear hF
  simp only [asFun, List.nil_append, List.cons_append, List.getD_cons_succ, List.getD_cons_zero] at hv
  subst hv
  rw [HS.out] at hz
  have hO := (hz.add (hw0.ext e0).1).add (hw0.ext e0).2
  clear hz hw0 e0
  go_wp2_with (refine own_store hO 0 rfl rfl rfl size_rat rfl rfl rfl ?_; clear hO; intro w4 hO)
  exact own_ret hO 0 rfl rfl rfl agg_rat size_rat rfl ⟨_, _, _, _, _, _, rfl, hO.wd 1 rfl, hO.wd 0 rfl, hO.toExt⟩

set_option maxHeartbeats 400000 in
theorem zeroD_any (b : Nat) (w : World) (h : b < 18446744073709551616) :
    Calls Tryd.prog 70 #[.int .u64 (b : Int)] w fun e w' => e = .returned (.bool (decide (mg b = 0))) ∧ w = w' := by
  have g := andNot_top b h
  have HF : Hid (((mg b : Int) == 0) = decide (mg b = 0)) := Lib.hid (by rw [Bool.eq_iff_iff, beq_iff_eq, decide_eq_true_iff]; omega)
  clear h
  go_enter Tryd.func70, Tryd.ntmps70
  go_wp2
  go_ret
  exact ⟨ret_bool HF.out, rfl⟩
theorem neg_sg {b : Nat} (h : mg b ≠ 0) : decide (9223372036854775808 < b) = sg b := by
  unfold mg at h
  unfold sg
  exact decide_eq_decide.2 (by omega)
theorem pat_infP (s : Bool) : pat s infR = infP s := by cases s <;> rfl
theorem fracN_le0 (n d : Nat) : fracN n d 0 ≤ n := by
  unfold fracN
  split
  · omega
  · have h1 : ((0 : Int) + tz n - tz d).toNat ≤ tz n := by omega
    have h2 := Nat.pow_le_pow_right (n := 2) (by omega) h1
    have h3 := Nat.mul_le_mul_left (n / 2 ^ tz n) h2
    rwa [tz_div] at h3
theorem fracD_le0 {n d : Nat} (hd : d ≠ 0) : fracD n d 0 ≤ d := by
  unfold fracD
  split
  · omega
  · have h1 : (-((0 : Int) + tz n - tz d)).toNat ≤ tz d := by omega
    have h2 := Nat.pow_le_pow_right (n := 2) (by omega) h1
    have h3 := Nat.mul_le_mul_left (d / 2 ^ tz d) h2
    rwa [tz_div] at h3
theorem nw_le_of {a b k : Nat} (h : a ≤ b) (hb : nw b ≤ k) : nw a ≤ k := (nw_le_iff _ _).2 (Nat.lt_of_le_of_lt h ((nw_le_iff _ _).1 hb))

theorem rpowb_any (s : Bool) (A : Option Addr) (l c : Nat) (B : Option Addr) (k d N D e : Nat) (w : World) (h : RatAt w A l c B k d N D) (he : e ≤ 1024) (bN : bl N ≤ 3000) (bD : bl D ≤ 3000) (hD : 0 < D) :
    Calls Tryd.prog 40 #[.agg #[.bool s, .slice A l c, .slice B k d], .int .i64 (e : Int)] w (RetR (pwS s e && decide (N ^ e ≠ 0)) (fracN (N ^ e) (D ^ e) 0) (fracD (N ^ e) (D ^ e) 0) w) := by
  unfold pwS
  cases s
  · rw [Bool.false_and, Bool.false_and]
    exact rpow_any A l c B k d N D e w h he bN bD hD
  · rw [Bool.true_and]
    exact rpown_any A l c B k d N D e w h he bN bD hD

set_option maxHeartbeats 1000000 in
theorem pow3_n1 (d : Int) (x : Nat) (n : Int) (w : World) (hx : x < 18446744073709551616) (h1 : isNaN x = true) :
    Calls Tryd.prog 12 #[.int .i64 d, .int .u64 (x : Int), .int .i64 n] w fun e w' => e = .returned (.int .u64 ((NaNc : Nat) : Int)) ∧ Ext w w' := by
  have HNX := Lib.hid (fun w => isnan_any x w hx)
  have HIX := Lib.hid (fun w => isinf3_any x w hx)
  have HZX := Lib.hid (fun w => zeroD_any x w hx)
  have HGX := Lib.hid (fun w => neg3_any x w)
  rw [h1] at HNX
  clear h1 hx
  go_enter Tryd.func12, Tryd.ntmps12
  go_wp2_with (first | (go_at_call 66; ((with_reducible refine (HNX.out _).mono ?_); rintro e w' ⟨rfl, rfl⟩)) | (go_at_call 67; ((with_reducible refine (HIX.out _).mono ?_); rintro e w' ⟨rfl, rfl⟩)) | (go_at_call 70; ((with_reducible refine (HZX.out _).mono ?_); rintro e w' ⟨rfl, rfl⟩)) | (go_at_call 69; ((with_reducible refine (HGX.out _).mono ?_); rintro e w' ⟨rfl, rfl⟩)))
  go_ret
  exact ⟨rfl, Ext.refl _⟩

set_option maxHeartbeats 1000000 in
theorem pow3_n2 (d : Int) (x : Nat) (n : Int) (w : World) (hx : x < 18446744073709551616) (h1 : isNaN x = false) (hn : n < -1024) :
    Calls Tryd.prog 12 #[.int .i64 d, .int .u64 (x : Int), .int .i64 n] w fun e w' => e = .returned (.int .u64 ((NaNc : Nat) : Int)) ∧ Ext w w' := by
  have HNX := Lib.hid (fun w => isnan_any x w hx)
  have HIX := Lib.hid (fun w => isinf3_any x w hx)
  have HZX := Lib.hid (fun w => zeroD_any x w hx)
  have HGX := Lib.hid (fun w => neg3_any x w)
  rw [h1] at HNX
  have r1 : decide (n < -1024) = true := decide_eq_true hn
  clear h1 hx hn
  go_enter Tryd.func12, Tryd.ntmps12
  go_wp2_with (first | (go_at_call 66; ((with_reducible refine (HNX.out _).mono ?_); rintro e w' ⟨rfl, rfl⟩)) | (go_at_call 67; ((with_reducible refine (HIX.out _).mono ?_); rintro e w' ⟨rfl, rfl⟩)) | (go_at_call 70; ((with_reducible refine (HZX.out _).mono ?_); rintro e w' ⟨rfl, rfl⟩)) | (go_at_call 69; ((with_reducible refine (HGX.out _).mono ?_); rintro e w' ⟨rfl, rfl⟩)))
  go_ret
  exact ⟨rfl, Ext.refl _⟩

set_option maxHeartbeats 1000000 in
theorem pow3_n3 (d : Int) (x : Nat) (n : Int) (w : World) (hx : x < 18446744073709551616) (h1 : isNaN x = false) (hn : 1024 < n) :
    Calls Tryd.prog 12 #[.int .i64 d, .int .u64 (x : Int), .int .i64 n] w fun e w' => e = .returned (.int .u64 ((NaNc : Nat) : Int)) ∧ Ext w w' := by
  have HNX := Lib.hid (fun w => isnan_any x w hx)
  have HIX := Lib.hid (fun w => isinf3_any x w hx)
  have HZX := Lib.hid (fun w => zeroD_any x w hx)
  have HGX := Lib.hid (fun w => neg3_any x w)
  rw [h1] at HNX
  have r1 : decide (n < -1024) = false := decide_eq_false (by omega)
  have r2 : decide (1024 < n) = true := decide_eq_true hn
  clear h1 hx hn
  go_enter Tryd.func12, Tryd.ntmps12
  go_wp2_with (first | (go_at_call 66; ((with_reducible refine (HNX.out _).mono ?_); rintro e w' ⟨rfl, rfl⟩)) | (go_at_call 67; ((with_reducible refine (HIX.out _).mono ?_); rintro e w' ⟨rfl, rfl⟩)) | (go_at_call 70; ((with_reducible refine (HZX.out _).mono ?_); rintro e w' ⟨rfl, rfl⟩)) | (go_at_call 69; ((with_reducible refine (HGX.out _).mono ?_); rintro e w' ⟨rfl, rfl⟩)))
  go_ret
  exact ⟨rfl, Ext.refl _⟩

set_option maxHeartbeats 1000000 in
theorem pow3_0 (d : Int) (x : Nat) (n : Int) (w : World) (hx : x < 18446744073709551616) (h1 : isNaN x = false) (hn : n = 0) :
    Calls Tryd.prog 12 #[.int .i64 d, .int .u64 (x : Int), .int .i64 n] w fun e w' => e = .returned (.int .u64 ((4607182418800017408 : Nat) : Int)) ∧ Ext w w' := by
  have HNX := Lib.hid (fun w => isnan_any x w hx)
  have HIX := Lib.hid (fun w => isinf3_any x w hx)
  have HZX := Lib.hid (fun w => zeroD_any x w hx)
  have HGX := Lib.hid (fun w => neg3_any x w)
  rw [h1] at HNX
  subst hn
  clear h1 hx
  go_enter Tryd.func12, Tryd.ntmps12
  go_wp2_with (first | (go_at_call 66; ((with_reducible refine (HNX.out _).mono ?_); rintro e w' ⟨rfl, rfl⟩)) | (go_at_call 67; ((with_reducible refine (HIX.out _).mono ?_); rintro e w' ⟨rfl, rfl⟩)) | (go_at_call 70; ((with_reducible refine (HZX.out _).mono ?_); rintro e w' ⟨rfl, rfl⟩)) | (go_at_call 69; ((with_reducible refine (HGX.out _).mono ?_); rintro e w' ⟨rfl, rfl⟩)))
  go_ret
  exact ⟨rfl, Ext.refl _⟩

set_option maxHeartbeats 1000000 in
theorem pow3_im (d : Int) (x : Nat) (n : Int) (w : World) (hx : x < 18446744073709551616) (h1 : isNaN x = false) (g1 : -1024 ≤ n) (g2 : n ≤ 1024) (hi : isInf x = true) (hn : n < 0) :
    Calls Tryd.prog 12 #[.int .i64 d, .int .u64 (x : Int), .int .i64 n] w fun e w' => e = .returned (.int .u64 ((0 : Nat) : Int)) ∧ Ext w w' := by
  have HNX := Lib.hid (fun w => isnan_any x w hx)
  have HIX := Lib.hid (fun w => isinf3_any x w hx)
  have HZX := Lib.hid (fun w => zeroD_any x w hx)
  have HGX := Lib.hid (fun w => neg3_any x w)
  rw [h1] at HNX
  have r1 : decide (n < -1024) = false := decide_eq_false (by omega)
  have r2 : decide (1024 < n) = false := decide_eq_false (by omega)
  have r3 : (n == 0) = false := by rw [beq_eq_false_iff_ne]; omega
  rw [hi] at HIX
  have r4 : decide (n < 0) = true := decide_eq_true hn
  clear h1 hx hn hi g1 g2
  go_enter Tryd.func12, Tryd.ntmps12
  go_wp2_with (first | (go_at_call 66; ((with_reducible refine (HNX.out _).mono ?_); rintro e w' ⟨rfl, rfl⟩)) | (go_at_call 67; ((with_reducible refine (HIX.out _).mono ?_); rintro e w' ⟨rfl, rfl⟩)) | (go_at_call 70; ((with_reducible refine (HZX.out _).mono ?_); rintro e w' ⟨rfl, rfl⟩)) | (go_at_call 69; ((with_reducible refine (HGX.out _).mono ?_); rintro e w' ⟨rfl, rfl⟩)))
  go_ret
  exact ⟨rfl, Ext.refl _⟩

set_option maxHeartbeats 1000000 in
theorem pow3_ip (d : Int) (x : Nat) (n : Int) (w : World) (hx : x < 18446744073709551616) (h1 : isNaN x = false) (g1 : -1024 ≤ n) (g2 : n ≤ 1024) (hi : isInf x = true) (hs : sg x = false) (hn : 0 < n) :
    Calls Tryd.prog 12 #[.int .i64 d, .int .u64 (x : Int), .int .i64 n] w fun e w' => e = .returned (.int .u64 ((infR : Nat) : Int)) ∧ Ext w w' := by
  have HNX := Lib.hid (fun w => isnan_any x w hx)
  have HIX := Lib.hid (fun w => isinf3_any x w hx)
  have HZX := Lib.hid (fun w => zeroD_any x w hx)
  have HGX := Lib.hid (fun w => neg3_any x w)
  rw [h1] at HNX
  have r1 : decide (n < -1024) = false := decide_eq_false (by omega)
  have r2 : decide (1024 < n) = false := decide_eq_false (by omega)
  have r3 : (n == 0) = false := by rw [beq_eq_false_iff_ne]; omega
  rw [hi] at HIX
  rw [show decide (9223372036854775808 < x) = sg x by
        unfold isInf mg at hi
        have hi := of_decide_eq_true hi
        have := infR_val
        unfold sg
        exact decide_eq_decide.2 (by omega), hs] at HGX
  have r4 : decide (n < 0) = false := decide_eq_false (by omega)
  have hn0 : 0 ≤ n := by omega
  clear h1 hx hn hi g1 g2 hs
  go_enter Tryd.func12, Tryd.ntmps12
  go_wp2_with (first | (go_at_call 66; ((with_reducible refine (HNX.out _).mono ?_); rintro e w' ⟨rfl, rfl⟩)) | (go_at_call 67; ((with_reducible refine (HIX.out _).mono ?_); rintro e w' ⟨rfl, rfl⟩)) | (go_at_call 70; ((with_reducible refine (HZX.out _).mono ?_); rintro e w' ⟨rfl, rfl⟩)) | (go_at_call 69; ((with_reducible refine (HGX.out _).mono ?_); rintro e w' ⟨rfl, rfl⟩)))
  refine (infinite_any _ _).mono ?_
  rintro e w2 ⟨rfl, rfl⟩
  go_wp2
  go_ret
  exact ⟨rfl, Ext.refl _⟩

set_option maxHeartbeats 1000000 in
theorem pow3_io (d : Int) (x : Nat) (n : Int) (w : World) (hx : x < 18446744073709551616) (h1 : isNaN x = false) (g1 : -1024 ≤ n) (g2 : n ≤ 1024) (hi : isInf x = true) (hs : sg x = true) (hn : 0 < n) (hp : n % 2 = 1) :
    Calls Tryd.prog 12 #[.int .i64 d, .int .u64 (x : Int), .int .i64 n] w fun e w' => e = .returned (.int .u64 ((minf : Nat) : Int)) ∧ Ext w w' := by
  have HNX := Lib.hid (fun w => isnan_any x w hx)
  have HIX := Lib.hid (fun w => isinf3_any x w hx)
  have HZX := Lib.hid (fun w => zeroD_any x w hx)
  have HGX := Lib.hid (fun w => neg3_any x w)
  rw [h1] at HNX
  have r1 : decide (n < -1024) = false := decide_eq_false (by omega)
  have r2 : decide (1024 < n) = false := decide_eq_false (by omega)
  have r3 : (n == 0) = false := by rw [beq_eq_false_iff_ne]; omega
  rw [hi] at HIX
  rw [show decide (9223372036854775808 < x) = sg x by
        unfold isInf mg at hi
        have hi := of_decide_eq_true hi
        have := infR_val
        unfold sg
        exact decide_eq_decide.2 (by omega), hs] at HGX
  have r4 : decide (n < 0) = false := decide_eq_false (by omega)
  have hn0 : 0 ≤ n := by omega
  have r5 : (n % 2 != 0) = true := by rw [hp]; rfl
  clear h1 hx hn hi g1 g2 hs hp
  go_enter Tryd.func12, Tryd.ntmps12
  go_wp2_with (first | (go_at_call 66; ((with_reducible refine (HNX.out _).mono ?_); rintro e w' ⟨rfl, rfl⟩)) | (go_at_call 67; ((with_reducible refine (HIX.out _).mono ?_); rintro e w' ⟨rfl, rfl⟩)) | (go_at_call 70; ((with_reducible refine (HZX.out _).mono ?_); rintro e w' ⟨rfl, rfl⟩)) | (go_at_call 69; ((with_reducible refine (HGX.out _).mono ?_); rintro e w' ⟨rfl, rfl⟩)))
  refine (infinite_any _ _).mono ?_
  rintro e w2 ⟨rfl, rfl⟩
  go_wp2
  go_ret
  exact ⟨rfl, Ext.refl _⟩

set_option maxHeartbeats 1000000 in
theorem pow3_ie (d : Int) (x : Nat) (n : Int) (w : World) (hx : x < 18446744073709551616) (h1 : isNaN x = false) (g1 : -1024 ≤ n) (g2 : n ≤ 1024) (hi : isInf x = true) (hs : sg x = true) (hn : 0 < n) (hp : n % 2 = 0) :
    Calls Tryd.prog 12 #[.int .i64 d, .int .u64 (x : Int), .int .i64 n] w fun e w' => e = .returned (.int .u64 ((infR : Nat) : Int)) ∧ Ext w w' := by
  have HNX := Lib.hid (fun w => isnan_any x w hx)
  have HIX := Lib.hid (fun w => isinf3_any x w hx)
  have HZX := Lib.hid (fun w => zeroD_any x w hx)
  have HGX := Lib.hid (fun w => neg3_any x w)
  rw [h1] at HNX
  have r1 : decide (n < -1024) = false := decide_eq_false (by omega)
  have r2 : decide (1024 < n) = false := decide_eq_false (by omega)
  have r3 : (n == 0) = false := by rw [beq_eq_false_iff_ne]; omega
  rw [hi] at HIX
  rw [show decide (9223372036854775808 < x) = sg x by
        unfold isInf mg at hi
        have hi := of_decide_eq_true hi
        have := infR_val
        unfold sg
        exact decide_eq_decide.2 (by omega), hs] at HGX
  have r4 : decide (n < 0) = false := decide_eq_false (by omega)
  have hn0 : 0 ≤ n := by omega
  have r5 : (n % 2 != 0) = false := by rw [hp]; rfl
  clear h1 hx hn hi g1 g2 hs hp
  go_enter Tryd.func12, Tryd.ntmps12
  go_wp2_with (first | (go_at_call 66; ((with_reducible refine (HNX.out _).mono ?_); rintro e w' ⟨rfl, rfl⟩)) | (go_at_call 67; ((with_reducible refine (HIX.out _).mono ?_); rintro e w' ⟨rfl, rfl⟩)) | (go_at_call 70; ((with_reducible refine (HZX.out _).mono ?_); rintro e w' ⟨rfl, rfl⟩)) | (go_at_call 69; ((with_reducible refine (HGX.out _).mono ?_); rintro e w' ⟨rfl, rfl⟩)))
  refine (infinite_any _ _).mono ?_
  rintro e w2 ⟨rfl, rfl⟩
  go_wp2
  go_ret
  exact ⟨rfl, Ext.refl _⟩

set_option maxHeartbeats 1000000 in
theorem pow3_zm (d : Int) (x : Nat) (n : Int) (w : World) (hx : x < 18446744073709551616) (h1 : isNaN x = false) (g1 : -1024 ≤ n) (g2 : n ≤ 1024) (hi : isInf x = false) (hz : mg x = 0) (hn : n < 0) :
    Calls Tryd.prog 12 #[.int .i64 d, .int .u64 (x : Int), .int .i64 n] w fun e w' => e = .returned (.int .u64 ((infR : Nat) : Int)) ∧ Ext w w' := by
  have HNX := Lib.hid (fun w => isnan_any x w hx)
  have HIX := Lib.hid (fun w => isinf3_any x w hx)
  have HZX := Lib.hid (fun w => zeroD_any x w hx)
  have HGX := Lib.hid (fun w => neg3_any x w)
  rw [h1] at HNX
  have r1 : decide (n < -1024) = false := decide_eq_false (by omega)
  have r2 : decide (1024 < n) = false := decide_eq_false (by omega)
  have r3 : (n == 0) = false := by rw [beq_eq_false_iff_ne]; omega
  rw [hi] at HIX
  rw [decide_eq_true hz] at HZX
  have r4 : decide (n < 0) = true := decide_eq_true hn
  clear h1 hx hn hi g1 g2 hz
  go_enter Tryd.func12, Tryd.ntmps12
  go_wp2_with (first | (go_at_call 66; ((with_reducible refine (HNX.out _).mono ?_); rintro e w' ⟨rfl, rfl⟩)) | (go_at_call 67; ((with_reducible refine (HIX.out _).mono ?_); rintro e w' ⟨rfl, rfl⟩)) | (go_at_call 70; ((with_reducible refine (HZX.out _).mono ?_); rintro e w' ⟨rfl, rfl⟩)) | (go_at_call 69; ((with_reducible refine (HGX.out _).mono ?_); rintro e w' ⟨rfl, rfl⟩)))
  go_ret
  exact ⟨rfl, Ext.refl _⟩

set_option maxHeartbeats 1000000 in
theorem pow3_zp (d : Int) (x : Nat) (n : Int) (w : World) (hx : x < 18446744073709551616) (h1 : isNaN x = false) (g1 : -1024 ≤ n) (g2 : n ≤ 1024) (hi : isInf x = false) (hz : mg x = 0) (hn : 0 < n) :
    Calls Tryd.prog 12 #[.int .i64 d, .int .u64 (x : Int), .int .i64 n] w fun e w' => e = .returned (.int .u64 ((0 : Nat) : Int)) ∧ Ext w w' := by
  have HNX := Lib.hid (fun w => isnan_any x w hx)
  have HIX := Lib.hid (fun w => isinf3_any x w hx)
  have HZX := Lib.hid (fun w => zeroD_any x w hx)
  have HGX := Lib.hid (fun w => neg3_any x w)
  rw [h1] at HNX
  have r1 : decide (n < -1024) = false := decide_eq_false (by omega)
  have r2 : decide (1024 < n) = false := decide_eq_false (by omega)
  have r3 : (n == 0) = false := by rw [beq_eq_false_iff_ne]; omega
  rw [hi] at HIX
  rw [decide_eq_true hz] at HZX
  have r4 : decide (n < 0) = false := decide_eq_false (by omega)
  clear h1 hx hn hi g1 g2 hz
  go_enter Tryd.func12, Tryd.ntmps12
  go_wp2_with (first | (go_at_call 66; ((with_reducible refine (HNX.out _).mono ?_); rintro e w' ⟨rfl, rfl⟩)) | (go_at_call 67; ((with_reducible refine (HIX.out _).mono ?_); rintro e w' ⟨rfl, rfl⟩)) | (go_at_call 70; ((with_reducible refine (HZX.out _).mono ?_); rintro e w' ⟨rfl, rfl⟩)) | (go_at_call 69; ((with_reducible refine (HGX.out _).mono ?_); rintro e w' ⟨rfl, rfl⟩)))
  go_ret
  exact ⟨rfl, Ext.refl _⟩

theorem pow_sz {N D m : Nat} (hm : m ≤ 1024) (bN : bl N ≤ 3000) (bD : bl D ≤ 3000) (hD : 0 < D) : nw (fracN (N ^ m) (D ^ m) 0) ≤ 1000000 ∧ nw (fracD (N ^ m) (D ^ m) 0) ≤ 1000000 := by
  have hsz : ∀ V, bl V ≤ 3000 → nw (V ^ m) ≤ 1000000 := fun V hV => by
    obtain ⟨T, hT⟩ : ∃ T, T = 3001 := ⟨_, rfl⟩
    have h2 : V ≤ 2 ^ T := by
      have h3 := lt_pow_bl V
      have h4 : 2 ^ bl V ≤ 2 ^ T := Nat.pow_le_pow_right (by omega) (by omega)
      omega
    have h5 := nw_pow_le (n := m) h2
    rw [hT] at h5
    omega
  have h1 := nw_mono (fracN_le_z (N ^ m) (D ^ m))
  have h2 := nw_mono (fracD_le_z (n := N ^ m) (Nat.ne_of_gt (Nat.pow_pos (n := m) hD)))
  have h3 := hsz N bN
  have h4 := hsz D bD
  omega
theorem fr11 : fracN 1 1 0 = 1 ∧ fracD 1 1 0 = 1 := by decide
theorem quo_sz {P Q : Nat} (h1 : nw P ≤ 1000000) (h2 : nw Q ≤ 1000000) (hP : P ≠ 0) : nw (fracN (1 * Q) (1 * P) 0) ≤ 1073741824 ∧ nw (fracD (1 * Q) (1 * P) 0) ≤ 1073741824 := by
  rw [Nat.one_mul, Nat.one_mul]
  have h3 := nw_mono (fracN_le_z Q P)
  have h4 := nw_mono (fracD_le_z (n := Q) hP)
  omega

set_option maxHeartbeats 1000000 in
theorem pow3_fp (d : Int) (x : Nat) (n : Int) (w : World) (hx : x < 18446744073709551616) (h1 : isNaN x = false) (g1 : -1024 ≤ n) (g2 : n ≤ 1024) (hi : isInf x = false) (hz : mg x ≠ 0) (m : Nat) (hm : n = (m : Int)) (hm0 : 0 < m) :
    Calls Tryd.prog 12 #[.int .i64 d, .int .u64 (x : Int), .int .i64 n] w fun e w' => e = .returned (.int .u64 ((rnd d (pwS (sg x) m) (zr (fracN (fbN x ^ m) (fbD x ^ m) 0) (fracD (fbN x ^ m) (fbD x ^ m) 0)) : Nat) : Int)) ∧ Ext w w' := by
  have HNX := Lib.hid (fun w => isnan_any x w hx)
  have HIX := Lib.hid (fun w => isinf3_any x w hx)
  have HZX := Lib.hid (fun w => zeroD_any x w hx)
  have HGX := Lib.hid (fun w => neg3_any x w)
  rw [h1] at HNX
  have r1 : decide (n < -1024) = false := decide_eq_false (by omega)
  have r2 : decide (1024 < n) = false := decide_eq_false (by omega)
  have r3 : (n == 0) = false := by rw [beq_eq_false_iff_ne]; omega
  rw [hi] at HIX
  rw [decide_eq_false hz] at HZX
  have r4 : decide (0 < n) = true := decide_eq_true (by omega)
  have hfb := frombits_any x
  have sN := fbN_bits x
  have sD := fbD_bits x
  have bN : bl (fbN x) ≤ 3000 := by have := nw_bl (fbN x); omega
  have bD : bl (fbD x) ≤ 3000 := by have := nw_bl (fbD x); omega
  have pD := fbD_pos x
  have hm2 : m ≤ 1024 := by omega
  have hsg : (sg x && decide (mg x ≠ 0)) = sg x := by rw [decide_eq_true hz, Bool.and_true]
  have HFB := Lib.hid (fun w => hfb w hx)
  rw [hsg] at HFB
  have hNz : fbN x ^ m ≠ 0 := Nat.ne_of_gt (Nat.pow_pos (Nat.pos_of_ne_zero fun h => hz ((fbN_zero x).1 h)))
  have hQ0 : fracD (fbN x ^ m) (fbD x ^ m) 0 ≠ 0 := Nat.ne_of_gt (fracD_pos 0 (Nat.ne_of_gt (Nat.pow_pos pD)))
  have hsz := pow_sz (m := m) hm2 bN bD pD
  have HPW : Hid (∀ (A : Option Addr) (l c : Nat) (B : Option Addr) (k d : Nat) w, RatAt w A l c B k d (fbN x) (fbD x) → Calls Tryd.prog 40 #[.agg #[.bool (sg x), .slice A l c, .slice B k d], .int .i64 n] w (RetR (pwS (sg x) m) (fracN (fbN x ^ m) (fbD x ^ m) 0) (fracD (fbN x ^ m) (fbD x ^ m) 0) w)) := Lib.hid (fun A l c B k d w h => by
    have := rpowb_any (sg x) A l c B k d (fbN x) (fbD x) m w h hm2 bN bD pD
    rw [decide_eq_true hNz, Bool.and_true, ← hm] at this
    exact this)
  have HBT : Hid (∀ (A : Option Addr) (l c : Nat) (B : Option Addr) (k dd : Nat) w, RatAt w A l c B k dd (fracN (fbN x ^ m) (fbD x ^ m) 0) (fracD (fbN x ^ m) (fbD x ^ m) 0) → Calls Tryd.prog 71 #[.int .i64 d, .agg #[.bool (pwS (sg x) m), .slice A l c, .slice B k dd]] w fun e w' => e = .returned (.int .u64 (rnd d (pwS (sg x) m) (zr (fracN (fbN x ^ m) (fbD x ^ m) 0) (fracD (fbN x ^ m) (fbD x ^ m) 0)) : Nat)) ∧ Ext w w') := Lib.hid (fun A l c B k dd w h => bits3_any d (pwS (sg x) m) A l c B k dd _ _ w h (by have := hsz.1; omega) (by have := hsz.2; omega) hQ0)
  generalize fbN x = N at *
  generalize fbD x = D at *
  generalize sg x = s at *
  generalize fracN (N ^ m) (D ^ m) 0 = P at *
  generalize fracD (N ^ m) (D ^ m) 0 = Q at *
  generalize rnd d (pwS s m) (zr P Q) = V at *
  generalize pwS s m = ps at *
  clear h1 hx hi g1 g2 hz hm hm0 hfb sN sD bN bD pD hm2 hsg hNz hQ0 hsz
  go_enter Tryd.func12, Tryd.ntmps12
  go_wp2_with (first | (go_at_call 66; ((with_reducible refine (HNX.out _).mono ?_); rintro e w' ⟨rfl, rfl⟩)) | (go_at_call 67; ((with_reducible refine (HIX.out _).mono ?_); rintro e w' ⟨rfl, rfl⟩)) | (go_at_call 70; ((with_reducible refine (HZX.out _).mono ?_); rintro e w' ⟨rfl, rfl⟩)) | (go_at_call 69; ((with_reducible refine (HGX.out _).mono ?_); rintro e w' ⟨rfl, rfl⟩)))
  refine (HFB.out _).mono ?_
  rintro e w2 ⟨A1, l1, c1, B1, k1, d1, rfl, hW1, hW2, hE1⟩
  go_wp2_with fail
  refine (HPW.out _ _ _ _ _ _ _ ⟨hW1, hW2⟩).mono ?_
  rintro e w3 ⟨A2, l2, c2, B2, k2, d2, rfl, hV1, hV2, hE2⟩
  go_wp2_with fail
  refine (HBT.out _ _ _ _ _ _ _ ⟨hV1, hV2⟩).mono ?_
  rintro e w4 ⟨rfl, hE3⟩
  go_wp2
  go_ret
  exact ⟨rfl, hE1.trans (hE2.trans hE3)⟩

set_option maxHeartbeats 1000000 in
theorem pow3_fm (d : Int) (x : Nat) (n : Int) (w : World) (hx : x < 18446744073709551616) (h1 : isNaN x = false) (g1 : -1024 ≤ n) (g2 : n ≤ 1024) (hi : isInf x = false) (hz : mg x ≠ 0) (m : Nat) (hm : n = -(m : Int)) (hm0 : 0 < m) :
    Calls Tryd.prog 12 #[.int .i64 d, .int .u64 (x : Int), .int .i64 n] w fun e w' => e = .returned (.int .u64 ((rnd d (pwS (sg x) m) (zr (fracN (1 * (fracD (fbN x ^ m) (fbD x ^ m) 0)) (1 * (fracN (fbN x ^ m) (fbD x ^ m) 0)) 0) (fracD (1 * (fracD (fbN x ^ m) (fbD x ^ m) 0)) (1 * (fracN (fbN x ^ m) (fbD x ^ m) 0)) 0)) : Nat) : Int)) ∧ Ext w w' := by
  have HNX := Lib.hid (fun w => isnan_any x w hx)
  have HIX := Lib.hid (fun w => isinf3_any x w hx)
  have HZX := Lib.hid (fun w => zeroD_any x w hx)
  have HGX := Lib.hid (fun w => neg3_any x w)
  rw [h1] at HNX
  have r1 : decide (n < -1024) = false := decide_eq_false (by omega)
  have r2 : decide (1024 < n) = false := decide_eq_false (by omega)
  have r3 : (n == 0) = false := by rw [beq_eq_false_iff_ne]; omega
  rw [hi] at HIX
  rw [decide_eq_false hz] at HZX
  have r4 : decide (0 < n) = false := decide_eq_false (by omega)
  have r5 : -n = (m : Int) := by omega
  have hfb := frombits_any x
  have sN := fbN_bits x
  have sD := fbD_bits x
  have bN : bl (fbN x) ≤ 3000 := by have := nw_bl (fbN x); omega
  have bD : bl (fbD x) ≤ 3000 := by have := nw_bl (fbD x); omega
  have pD := fbD_pos x
  have hm2 : m ≤ 1024 := by omega
  have hsg : (sg x && decide (mg x ≠ 0)) = sg x := by rw [decide_eq_true hz, Bool.and_true]
  have HFB := Lib.hid (fun w => hfb w hx)
  rw [hsg] at HFB
  have hNz : fbN x ^ m ≠ 0 := Nat.ne_of_gt (Nat.pow_pos (Nat.pos_of_ne_zero fun h => hz ((fbN_zero x).1 h)))
  have hQ0 : (fracD (fbN x ^ m) (fbD x ^ m) 0) ≠ 0 := Nat.ne_of_gt (fracD_pos 0 (Nat.ne_of_gt (Nat.pow_pos pD)))
  have hP0 : (fracN (fbN x ^ m) (fbD x ^ m) 0) ≠ 0 := fun h => hNz (fracN_eq_zero.1 h)
  have hsz := pow_sz (m := m) hm2 bN bD pD
  have HPW : Hid (∀ (A : Option Addr) (l c : Nat) (B : Option Addr) (k d : Nat) w, RatAt w A l c B k d (fbN x) (fbD x) → Calls Tryd.prog 40 #[.agg #[.bool (sg x), .slice A l c, .slice B k d], .int .i64 (m : Int)] w (RetR (pwS (sg x) m) (fracN (fbN x ^ m) (fbD x ^ m) 0) (fracD (fbN x ^ m) (fbD x ^ m) 0) w)) := Lib.hid (fun A l c B k d w h => by
    have := rpowb_any (sg x) A l c B k d (fbN x) (fbD x) m w h hm2 bN bD pD
    rw [decide_eq_true hNz, Bool.and_true] at this
    exact this)
  generalize (fracN (fbN x ^ m) (fbD x ^ m) 0) = P at *
  generalize (fracD (fbN x ^ m) (fbD x ^ m) 0) = Q at *
  have hsq := quo_sz hsz.1 hsz.2 hP0
  have hd0 : fracD (1 * Q) (1 * P) 0 ≠ 0 := Nat.ne_of_gt (fracD_pos 0 (by omega))
  have HI1 : Hid (∀ w, Calls Tryd.prog 73 #[.int .i64 1] w (RetR false 1 1 w)) := Lib.hid (fun w => by
    have := int_any 1 w (by omega)
    rw [fr11.1, fr11.2] at this
    exact this)
  have HQU : Hid (∀ (A : Option Addr) (l c : Nat) (B : Option Addr) (k d : Nat) (A' : Option Addr) (l' c' : Nat) (B' : Option Addr) (k' d' : Nat) w, RatAt w A l c B k d 1 1 → RatAt w A' l' c' B' k' d' P Q → Calls Tryd.prog 72 #[.agg #[.bool false, .slice A l c, .slice B k d], .agg #[.bool (pwS (sg x) m), .slice A' l' c', .slice B' k' d']] w (RetR (pwS (sg x) m) (fracN (1 * Q) (1 * P) 0) (fracD (1 * Q) (1 * P) 0) w)) := Lib.hid (fun A l c B k d A' l' c' B' k' d' w h h' => by
    have := rquoq_any false (pwS (sg x) m) A l c B k d 1 1 A' l' c' B' k' d' P Q w h h' (by decide) (by decide) (by have := hsz.1; omega) (by have := hsz.2; omega) (by omega)
    rw [decide_eq_true (show 1 * Q ≠ 0 by omega), Bool.and_true, Bool.false_bne] at this
    exact this)
  have HBT : Hid (∀ (A : Option Addr) (l c : Nat) (B : Option Addr) (k dd : Nat) w, RatAt w A l c B k dd (fracN (1 * Q) (1 * P) 0) (fracD (1 * Q) (1 * P) 0) → Calls Tryd.prog 71 #[.int .i64 d, .agg #[.bool (pwS (sg x) m), .slice A l c, .slice B k dd]] w fun e w' => e = .returned (.int .u64 (rnd d (pwS (sg x) m) (zr (fracN (1 * Q) (1 * P) 0) (fracD (1 * Q) (1 * P) 0)) : Nat)) ∧ Ext w w') := Lib.hid (fun A l c B k dd w h => bits3_any d (pwS (sg x) m) A l c B k dd _ _ w h hsq.1 hsq.2 hd0)
  generalize fbN x = N at *
  generalize fbD x = D at *
  generalize sg x = s at *
  generalize fracN (1 * Q) (1 * P) 0 = P' at *
  generalize fracD (1 * Q) (1 * P) 0 = Q' at *
  generalize rnd d (pwS s m) (zr P' Q') = V at *
  generalize pwS s m = ps at *
  clear h1 hx hi hz hm hm0 hfb sN sD bN bD pD hm2 hsg hNz hQ0 hP0 hsz hsq hd0
  go_enter Tryd.func12, Tryd.ntmps12
  go_wp2_with (first | (go_at_call 66; ((with_reducible refine (HNX.out _).mono ?_); rintro e w' ⟨rfl, rfl⟩)) | (go_at_call 67; ((with_reducible refine (HIX.out _).mono ?_); rintro e w' ⟨rfl, rfl⟩)) | (go_at_call 70; ((with_reducible refine (HZX.out _).mono ?_); rintro e w' ⟨rfl, rfl⟩)) | (go_at_call 69; ((with_reducible refine (HGX.out _).mono ?_); rintro e w' ⟨rfl, rfl⟩)))
  refine (HI1.out _).mono ?_
  rintro e w1 ⟨A0, l0, c0, B0, k0, d0, rfl, hU1, hU2, hE0⟩
  go_wp2_with fail
  refine (HFB.out _).mono ?_
  rintro e w2 ⟨A1, l1, c1, B1, k1, d1, rfl, hW1, hW2, hE1⟩
  go_wp2_with fail
  refine (HPW.out _ _ _ _ _ _ _ ⟨hW1, hW2⟩).mono ?_
  rintro e w3 ⟨A2, l2, c2, B2, k2, d2, rfl, hV1, hV2, hE2⟩
  go_wp2_with fail
  refine (HQU.out _ _ _ _ _ _ _ _ _ _ _ _ _ ⟨(hU1.ext hE1).ext hE2, (hU2.ext hE1).ext hE2⟩ ⟨hV1, hV2⟩).mono ?_
  rintro e w4 ⟨A3, l3, c3, B3, k3, d3, rfl, hX1, hX2, hE3⟩
  go_wp2_with fail
  refine (HBT.out _ _ _ _ _ _ _ ⟨hX1, hX2⟩).mono ?_
  rintro e w5 ⟨rfl, hE4⟩
  go_wp2
  go_ret
  exact ⟨rfl, hE0.trans (hE1.trans (hE2.trans (hE3.trans hE4)))⟩

theorem pow3_any (d : Int) (x : Nat) (n : Int) (w : World) (hx : x < 18446744073709551616) :
    Calls Tryd.prog 12 #[.int .i64 d, .int .u64 (x : Int), .int .i64 n] w fun e w' => e = .returned (.int .u64 ((powR d x n : Nat) : Int)) ∧ Ext w w' := by
  unfold powR
  by_cases hb : isNaN x = true ∨ n < -1024 ∨ 1024 < n
  · rw [if_pos hb]
    cases h1 : isNaN x
    · rcases hb with h | h | h
      · rw [h1] at h; cases h
      · exact pow3_n2 d x n w hx h1 h
      · exact pow3_n3 d x n w hx h1 h
    · exact pow3_n1 d x n w hx h1
  · rw [if_neg hb]
    have h1 : isNaN x = false := by cases h : isNaN x; rfl; exact absurd (.inl h) hb
    have g1 : -1024 ≤ n := by omega
    have g2 : n ≤ 1024 := by omega
    by_cases h0 : n = 0
    · rw [if_pos h0]; exact pow3_0 d x n w hx h1 h0
    · rw [if_neg h0]
      by_cases hi : isInf x = true
      · rw [if_pos hi]
        by_cases hn : n < 0
        · rw [if_pos hn]
          exact pow3_im d x n w hx h1 g1 g2 hi hn
        · rw [if_neg hn]
          cases hs : sg x
          · rw [Bool.false_and, if_neg (by simp)]
            exact pow3_ip d x n w hx h1 g1 g2 hi hs (by omega)
          · rw [Bool.true_and]
            rcases (by omega : n % 2 = 0 ∨ n % 2 = 1) with hp | hp
            · rw [if_neg (by rw [hp]; simp)]
              exact pow3_ie d x n w hx h1 g1 g2 hi hs (by omega) hp
            · rw [if_pos (by rw [hp]; rfl)]
              exact pow3_io d x n w hx h1 g1 g2 hi hs (by omega) hp
      · rw [if_neg hi]
        have hi' : isInf x = false := by cases h : isInf x; rfl; exact absurd h hi
        by_cases hzn : mg x = 0 ∧ n < 0
        · rw [if_pos hzn]
          exact pow3_zm d x n w hx h1 g1 g2 hi' hzn.1 hzn.2
        · rw [if_neg hzn]
          by_cases hn : 0 < n
          · rw [if_pos hn]
            by_cases hz : mg x = 0
            · have := pow3_zp d x n w hx h1 g1 g2 hi' hz hn
              rw [(fbN_zero x).2 hz, Nat.zero_pow (by omega), fracN_zero, zr_zero, rnd_zero]
              exact this
            · exact pow3_fp d x n w hx h1 g1 g2 hi' hz n.toNat (by omega) (by omega)
          · rw [if_neg hn]
            have hz : mg x ≠ 0 := fun h => hzn ⟨h, by omega⟩
            exact pow3_fm d x n w hx h1 g1 g2 hi' hz (-n).toNat (by omega) (by omega)
end Go.Proofs.YtadijoeeaineaaaDoor

/-
  The walk through RoundPowers. Conditions: those that each theorem names.
-/
namespace Go.Proofs.YtadijoeeaineaaaDoor
open Go.RowKit Nm Rn
set_option maxRecDepth 100000
set_option linter.unusedVariables false
set_option linter.unusedSimpArgs false

set_option maxHeartbeats 1000000 in
theorem powers_walk (d : Int) (x : Nat) (n : Int) (w : World) (hx : x < 18446744073709551616) (hT : Tab w) :
    Calls Tryd.prog 3 #[.int .i64 d, .int .u64 (x : Int), .int .i64 n] w fun e w' => e = .returned (.bool true) ∧ Ext w w' := by
  have HA := Lib.hid (rpow_prog d x n w hx hT)
  have HB := Lib.hid (fun w => pow3_any d x n w hx)
  have HL := Lib.hid (fun r w h => lbits_any r w h)
  obtain ⟨V, hV⟩ : ∃ V, V = powR d x n := ⟨_, rfl⟩
  rw [← hV] at HA HB
  clear hV hx hT
  go_enter Tryd.func3, Tryd.ntmps3
  go_wp2_with (go_at_call 11; refine (fl_any _ _).mono ?_; rintro e w' ⟨rfl, rfl⟩)
  refine HA.out.mono ?_
  rintro e w1 ⟨r, rfl, hr, hc, hE⟩
  go_wp2_with fail
  refine (HL.out r _ hr).mono ?_
  rintro e w2 ⟨rfl, rfl⟩
  rw [hc]
  clear hc hr
  go_wp2_with fail
  refine (HB.out _).mono ?_
  rintro e w3 ⟨rfl, hE3⟩
  go_wp2
  go_ret
  exact ⟨by simp, hE.trans hE3⟩
end Go.Proofs.YtadijoeeaineaaaDoor

/-
  The listed table, as the door lays it. Conditions: those that each theorem names.
-/
namespace Go.Proofs.YtadijoeeaineaaaDoor
open Go.ChangeShapes Go.WideShapes Go.ChangeAt Go.WideElems Go.RowKit
set_option linter.unusedVariables false

theorem gTab : Tryd.prog.globalNamed "math/bits.deBruijn32tab" = some 1 := by kernel_rfl
theorem tTab : (Tryd.prog.globals[1]?).map (·.type) = some 138 := by kernel_rfl
def laidT : List (String × DataW Unit) := [("math/bits.deBruijn32tab", Rows.laid_math_bits_deBruijn32tab)]
theorem door_met (os : Os) (args : Array Value) : laidMetH Tryd.prog laidT ((World.doorLaid Tryd.prog 400 os).forCall (fun _ _ => 0) ⟨#[], args, []⟩).memory :=
  laidMetH_of_parts3 (fuel := 8) (laidMet_of_run' 8 (by kernel_rfl) (by kernel_rfl)) (by kernel_rfl) (by kernel_rfl)
theorem lits_eq : (Rows.laid_math_bits_deBruijn32tab : DataW Unit) = .agg (Lib.deBruijn32tab.map fun n => .lit (.int .u8 ((n : Nat) : Int))) := by rfl
theorem tab_of {W : World} (h : laidMetH Tryd.prog laidT W) : Tab W := by
  rw [MakeChecks.laidMetH_plain _ _ _ (by kernel_rfl)] at h
  obtain ⟨ps, ⟨g0, t0, cs0, f0, p0, q0, hg0, ht0, hv0, hd0, _, _⟩, _, _⟩ := h
  obtain rfl := Option.some.inj (gTab.symm.trans hg0)
  obtain rfl := Option.some.inj (tTab.symm.trans ht0)
  obtain ⟨xs, m1, rfl, hx1, hlen, hn3, hel⟩ := DataW.trod_array Tryd.underlying138 hd0
  have c5 : Tryd.prog.cellsOf 5 = 1 := by kernel_rfl
  rw [lits_eq] at hx1
  simp only [Prod.mk.injEq, DataW.agg.injEq] at hx1
  intro j hj
  have hjx : j < xs.length := by omega
  have hj' := hel j hj
  rw [List.getElem?_eq_getElem hjx, c5, Nat.mul_one] at hj'
  obtain ⟨k, e1, e2, _⟩ := DataW.trod_int Tryd.underlying5 hj'
  have hm : (xs.map (·.1))[j]? = some (.lit (.int .u8 k)) := by
    rw [List.getElem?_map, List.getElem?_eq_getElem hjx, Option.map_some, e2]
  rw [← hx1.1, List.getElem?_map] at hm
  have hl : j < Lib.deBruijn32tab.length := hj
  rw [List.getElem?_eq_getElem hl, Option.map_some] at hm
  have hk : k = ((Lib.deBruijn32tab.getD j 0 : Nat) : Int) := by
    rw [List.getD_eq_getElem?_getD, List.getElem?_eq_getElem hl]
    simpa using hm.symm
  rw [World.var?_cell hg0 hv0 j]
  have h0 : ((cs0.toList.drop j).take 1)[0]? = some (.int .u8 k) := by rw [e1]; rfl
  rw [hk] at h0
  simpa using h0
end Go.Proofs.YtadijoeeaineaaaDoor
