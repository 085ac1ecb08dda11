/-
  The walk through PowerWhole. Conditions: those that each theorem names.
-/
import Derived.Test.YtadijoeeaineaaaGreatDoorW26
import Derived.Test.YtadijoeeaineaaaGreatDoorW28
import Derived.Test.YtadijoeeaineaaaGreatDoorW34
import Derived.Test.YtadijoeeaineaaaGreatDoorW27
import Derived.Test.YtadijoeeaineaaaGreatDoorW35
import Derived.Test.YtadijoeeaineaaaGreatDoorW36
import Derived.Test.YtadijoeeaineaaaGreatDoorW33
import Derived.Deep.CutRange
namespace Go.Proofs.YtadijoeeaineaaaGreatDoor
open Go.RowKit Nm Rn
set_option maxRecDepth 100000
set_option linter.unusedVariables false
set_option linter.unusedSimpArgs false

theorem neqIw (a b c d : Int) (w : World) : (binOp .neq 24 (.agg #[.int .u64 a, .int .u64 b]) (.agg #[.int .u64 c, .int .u64 d])).run Tryz.prog w = .ok (.bool (!(a == c && b == d))) w := by
  cases h1 : (a == c) <;> cases h2 : (b == d) <;> go_simp <;> simp [h1, h2]
theorem neqIw' {a b c d : Int} {E : Bool} (h : (!(a == c && b == d)) = E) (w : World) : (binOp .neq 24 (.agg #[.int .u64 a, .int .u64 b]) (.agg #[.int .u64 c, .int .u64 d])).run Tryz.prog w = .ok (.bool E) w := by rw [neqIw, h]
theorem zero_Iw (w : World) : (zeroValue 24).run Tryz.prog w = .ok (.agg #[.int .u64 0, .int .u64 0]) w := by kernel_rfl
theorem size_Iw (w : World) : (sizeOf 24).run Tryz.prog w = .ok 2 w := by kernel_rfl
theorem zero_A2w (w : World) : (zeroValue 36).run Tryz.prog w = .ok (.agg #[.int .u64 0, .int .u64 0]) w := by kernel_rfl
theorem size_A2w (w : World) : (sizeOf 36).run Tryz.prog w = .ok 2 w := by kernel_rfl
theorem Own.tl {w0 w : World} {b : Bx} {L : List Bx} {W : List Sw} (h : Own w0 (b :: L) W w) : Own w0 L W w :=
  ⟨h.1, fun c hc => h.2.1 c (List.mem_cons_of_mem _ hc), by have := h.2.2.1; rw [List.map_cons, List.nodup_cons] at this; exact this.2, h.2.2.2⟩
theorem Own.bare {w0 w : World} {L : List Bx} {W : List Sw} (h : Own w0 L W w) : Own w0 L [] w := ⟨h.1, h.2.1, h.2.2.1, fun s hs => by cases hs⟩

/-- What the inner loop's round leans on: an end e of the step k of f. -/
structure WhE (k e f : Nat) (fe ff ie : Bool) (se : Bool) (Ne De : Nat) (sf : Bool) (Nf Df : Nat) : Prop where
  ne_ : Hid (((e : Int) == 9223372036854775808) = false)
  nn : Hid (∀ w, Calls Tryz.prog 12 #[.int .u64 (e : Int)] w fun x w' => x = .returned (.bool false) ∧ w = w')
  i1 : Hid (∀ w, Calls Tryz.prog 13 #[.int .u64 (e : Int)] w fun x w' => x = .returned (.bool ie) ∧ w = w')
  i2 : k ≠ 0 → Hid (∀ w, Calls Tryz.prog 13 #[.int .u64 (f : Int)] w fun x w' => x = .returned (.bool ie) ∧ w = w')
  f1 : Hid (∀ w, Calls Tryz.prog 14 #[.int .u64 (e : Int)] w fun x w' => x = .returned (.bool fe) ∧ w = w')
  f2 : Hid (∀ w, Calls Tryz.prog 14 #[.int .u64 (f : Int)] w fun x w' => x = .returned (.bool ff) ∧ w = w')
  b1 : Hid (∀ w, Calls Tryz.prog 15 #[.int .u64 (e : Int)] w (RetR se Ne De w))
  b2 : Hid (∀ w, Calls Tryz.prog 15 #[.int .u64 (f : Int)] w (RetR sf Nf Df w))
  ln : ff = true → Hid (∀ (A : Option Addr) (l c : Nat) (w : World), Wds w A l c (nd De) → Calls Tryz.prog 16 #[.slice A l c] w fun x w' => x = .returned (.int .i64 1) ∧ w = w')
  fl : ff = true → k = 1 → ∃ r1 r2 sb Nb Db,
    Hid (∀ (A : Option Addr) (l c : Nat) (B : Option Addr) (m d : Nat) (A' : Option Addr) (l' c' : Nat) (B' : Option Addr) (m' d' : Nat) (w : World), RatAt w A l c B m d Ne De → RatAt w A' l' c' B' m' d' Nf Df → Calls Tryz.prog 17 #[.agg #[.bool se, .slice A l c, .slice B m d], .agg #[.bool sf, .slice A' l' c', .slice B' m' d']] w fun x w' => x = .returned (.int .i64 r1) ∧ Ext w w') ∧
    Hid (∀ (A : Option Addr) (l c : Nat) (B : Option Addr) (m d : Nat) (A' : Option Addr) (l' c' : Nat) (B' : Option Addr) (m' d' : Nat) (w : World), RatAt w A l c B m d Nf Df → RatAt w A' l' c' B' m' d' 1 1 → Calls Tryz.prog 18 #[.agg #[.bool sf, .slice A l c, .slice B m d], .agg #[.bool false, .slice A' l' c', .slice B' m' d']] w (RetR sb Nb Db w)) ∧
    Hid (∀ (A : Option Addr) (l c : Nat) (B : Option Addr) (m d : Nat) (A' : Option Addr) (l' c' : Nat) (B' : Option Addr) (m' d' : Nat) (w : World), RatAt w A l c B m d Nb Db → RatAt w A' l' c' B' m' d' Ne De → Calls Tryz.prog 17 #[.agg #[.bool sb, .slice A l c, .slice B m d], .agg #[.bool se, .slice A' l' c', .slice B' m' d']] w fun x w' => x = .returned (.int .i64 r2) ∧ Ext w w') ∧
    decide (0 < r1) = false ∧ decide (0 ≤ r2) = false

theorem whE_of {k f : Nat} (hf : f < 18446744073709551616) (nf : isNaN f = false) (hz : f ≠ 9223372036854775808) :
    ∃ fe ff ie se Ne De sf Nf Df, WhE k (pl (stF k f)) f fe ff ie se Ne De sf Nf Df := by
  obtain ⟨a1, a2, _, _⟩ := stF_facts k hf nf
  obtain ⟨p1, p2, p3, p4⟩ := pl_facts a1 a2
  have b1 := fbN_bits (pl (stF k f))
  have b2 := fbD_bits (pl (stF k f))
  have b3 := fbN_bits f
  have b4 := fbD_bits f
  have d1 := fbD_pos (pl (stF k f))
  have d2 := fbD_pos f
  refine ⟨_, _, _, _, _, _, _, _, _, ⟨Lib.hid (by rw [beq_eq_false_iff_ne]; omega), Lib.hid fun w => p2 ▸ isnan_any _ w p1, Lib.hid fun w => isinf3_any _ w p1, fun hk => Lib.hid fun w => ?_, Lib.hid fun w => finite2_any _ w p1, Lib.hid fun w => finite2_any f w hf, Lib.hid fun w => frombits_any _ w p1, Lib.hid fun w => frombits_any f w hf, fun hff => Lib.hid fun A l c w h => ?_, fun hff hk => ?_⟩⟩
  · rw [wh_same hk hf nf hz]; exact isinf3_any f w hf
  · have hl : l = nw (fbD (pl (stF k f))) := by have := h.len; rw [nd_length] at this; omega
    have := len_any A l c _ w h (by omega)
    rw [nv_nd, wh_den hf nf (of_decide_eq_true hff)] at this
    exact this
  · subst hk
    obtain ⟨r1, r2⟩ := wh_rc hf nf (of_decide_eq_true hff)
    have hs := sb_nw (n := sg f && decide (mg f ≠ 0)) (m := false) (N := fbN f) (D := fbD f) (N' := 1) (D' := 1) (b := 40) d2 (by omega) b3 b4 (by decide) (by decide)
    have hp := (sub_val (sg f && decide (mg f ≠ 0)) false (N := fbN f) (D := fbD f) (N' := 1) (D' := 1) d2 (by omega)).1
    exact ⟨_, _, _, _, _, Lib.hid fun A l c B m d A' l' c' B' m' d' w h h' => rcmp_any _ A l c B m d _ _ _ A' l' c' B' m' d' _ _ w h h' (by omega) (by omega) (by omega) (by omega) (by omega) (by omega),
      Lib.hid fun A l c B m d A' l' c' B' m' d' w h h' => rsubq_any _ false A l c B m d _ _ A' l' c' B' m' d' 1 1 w h h' (by omega) (by omega) (by decide) (by decide) (by omega),
      Lib.hid fun A l c B m d A' l' c' B' m' d' w h h' => rcmp_any _ A l c B m d _ _ _ A' l' c' B' m' d' _ _ w h h' (by omega) (by omega) (by omega) (by omega) (by omega) (by omega), r1, r2⟩

set_option maxHeartbeats 8000000 in
theorem whole_e (x1 x2 p q e1 e2 : Nat) (w : World) (hT : Tab w) (HRD : Hid (∀ w, Calls Tryz.prog 9 #[.agg #[.int .u64 (x1 : Int), .int .u64 (x2 : Int)]] w (RetI p q w)))
    (HIN : Hid (∀ w, Calls Tryz.prog 7 #[.agg #[.int .u64 (p : Int), .int .u64 (q : Int)]] w (RetF p q w))) (HEM : Hid (∀ w, Calls Tryz.prog 11 #[] w (RetI e1 e2 w)))
    (hq1 : ∀ w, (binOp .eql 24 (.agg #[.int .u64 (p : Int), .int .u64 (q : Int)]) (.agg #[.int .u64 (e1 : Int), .int .u64 (e2 : Int)])).run Tryz.prog w = .ok (.bool true) w)
    (HST : Hid (∀ k : Nat, k < 6 → ∃ y1 y2 : Nat, (∀ w, Calls Tryz.prog 10 #[.int .i64 (k : Int), .agg #[.float .f64 p, .float .f64 q]] w (RetF y1 y2 w)) ∧ (∀ w, (binOp .neq 24 (.agg #[.int .u64 (y1 : Int), .int .u64 (y2 : Int)]) (.agg #[.int .u64 (e1 : Int), .int .u64 (e2 : Int)])).run Tryz.prog w = .ok (.bool false) w))) :
    Calls Tryz.prog 4 #[.agg #[.int .u64 (x1 : Int), .int .u64 (x2 : Int)]] w fun e w' => e = .returned (.bool true) ∧ Ext w w' := by
  have HT := Lib.hid hT
  have HLV := Lib.hid (fun w h => lives7_any w h)
  clear hT
  have hO := Own.start w
  have hf : True := trivial
  go_enter Tryz.func4, Tryz.ntmps4
  go_wp2_with ((with_reducible refine at_box ?_); refine own_box (cs := [.int .u64 (x1 : Int), .int .u64 (x2 : Int)]) hO rfl rfl ?_; clear hO; intro gx wa hO; clear hf; have hf := hO.cells; simp only [BC, CC, Nat.zero_add, Nat.reduceAdd, and_true] at hf)
  refine (HRD.out _).mono ?_
  rintro e w3 ⟨rfl, hE1⟩
  have hO := hO.ext hE1
  clear hE1
  clear hf
  have hf := hO.cells
  simp only [BC, CC, Nat.zero_add, Nat.reduceAdd, and_true] at hf
  go_upto_region 2 with ((with_reducible refine at_store (T := 24) ?_); refine own_store (T := 24) hO 0 rfl rfl rfl size_Iw rfl rfl rfl ?_; clear hO; intro w4 hO; simp only [List.set_cons_zero, List.set_cons_succ, spl, List.take_succ_cons, List.take_zero, List.nil_append, List.cons_append, List.length_cons, List.length_nil, List.drop_succ_cons, List.drop_zero, List.drop_nil, Nat.reduceAdd, Nat.zero_add, List.append_nil] at hO; clear hf; have hf := hO.cells; simp only [BC, CC, Nat.zero_add, Nat.reduceAdd, and_true] at hf)
  obtain ⟨S, hS⟩ : ∃ S : World → Prop, S = Own w [⟨gx, 24, [.int .u64 (p : Int), .int .u64 (q : Int)]⟩] [] := ⟨_, rfl⟩
  rw [← hS] at hO
  have HS1 := Lib.hid hS
  clear hS hf HRD
  go_wp2_with fail
  go_loopw [3] (fun kv wr => ∃ k : Nat, kv = .int .i64 (k : Int) ∧ k ≤ 6 ∧ S wr) (fun kv _ => 6 - (intOf kv).toNat)
  case atStart => exact ⟨0, rfl, by omega, hO⟩
  case round =>
    obtain ⟨k, rfl, hk6, hSr⟩ := hrel
    clear hO
    by_cases hk : k < 6
    · obtain ⟨y1, y2, h1, hq2⟩ := HST.out k hk
      have H1 := Lib.hid h1
      have HOU := Lib.hid (fun w => out7_any y1 y2 w)
      clear h1
      have hO := hSr
      rw [HS1.out] at hO
      clear hSr
      have hf := hO.cells
      simp only [BC, CC, Nat.zero_add, Nat.reduceAdd, and_true] at hf
      go_wp2_with fail
      refine (HIN.out _).mono ?_
      rintro e w5 ⟨rfl, hE1⟩
      have hO := hO.ext hE1
      clear hE1
      clear hf
      have hf := hO.cells
      simp only [BC, CC, Nat.zero_add, Nat.reduceAdd, and_true] at hf
      go_wp2_with fail
      refine (H1.out _).mono ?_
      rintro e w6 ⟨rfl, hE1⟩
      have hO := hO.ext hE1
      clear hE1
      clear hf
      have hf := hO.cells
      simp only [BC, CC, Nat.zero_add, Nat.reduceAdd, and_true] at hf
      go_wp2_with fail
      refine (HOU.out _).mono ?_
      rintro e w7 ⟨rfl, hE1⟩
      have hO := hO.ext hE1
      clear hE1
      clear hf
      have hf := hO.cells
      simp only [BC, CC, Nat.zero_add, Nat.reduceAdd, and_true] at hf
      go_upto_region 6 with (first | ((with_reducible refine at_alloc ?_); refine own_alloc hO zero_Iw rfl rfl ?_; clear hO; intro g4 w8 hO; clear hf; have hf := hO.cells; simp only [BC, CC, Nat.zero_add, Nat.reduceAdd, and_true] at hf) | ((with_reducible refine at_store (T := 24) ?_); refine own_store (T := 24) hO 0 rfl rfl rfl size_Iw rfl rfl rfl ?_; clear hO; intro wb hO; simp only [List.set_cons_zero, List.set_cons_succ, spl, List.take_succ_cons, List.take_zero, List.nil_append, List.cons_append, List.length_cons, List.length_nil, List.drop_succ_cons, List.drop_zero, List.drop_nil, Nat.reduceAdd, Nat.zero_add, List.append_nil] at hO; clear hf; have hf := hO.cells; simp only [BC, CC, Nat.zero_add, Nat.reduceAdd, and_true] at hf))
      obtain ⟨S, hS⟩ : ∃ S : World → Prop, S = Own w [⟨g4, 24, [.int .u64 (y1 : Int), .int .u64 (y2 : Int)]⟩, ⟨gx, 24, [.int .u64 (p : Int), .int .u64 (q : Int)]⟩] [] := ⟨_, rfl⟩
      have hSE : ∀ w w', S w → Ext w w' → S w' := fun w w' h1 h2 => by rw [hS] at h1 ⊢; exact h1.ext h2
      have hS1 : S wb.drew := by rw [hS]; exact hO.ext (Ext.refl wb).drew
      have HS := Lib.hid hS
      clear hS hO hf
      obtain ⟨sp, hsp⟩ : ∃ sp : Nat → Sp, sp = ofList [det (.agg #[.int .u64 (p : Int), .int .u64 (q : Int)]), det (.agg #[.int .u64 (e1 : Int), .int .u64 (e2 : Int)])] := ⟨_, rfl⟩
      have HSP := Lib.hid hsp
      clear hsp
      refine wp_region_loose 2 S sp (by kernel_rfl) (by kernel_rfl) hS1 hSE ?_
      simp only [List.take_succ_cons, List.take_zero, List.drop_succ_cons, List.drop_zero]
      refine wpX_step (fun K hK => ?_)
      go_simp
      refine StepY.det (by rw [HSP.out]; rfl) ?_ ?_
      · intro wz hz hF
        rw [HS.out] at hz
        have hf := hz.cells
        simp only [BC, CC, Nat.zero_add, Nat.reduceAdd, and_true] at hf
        clear hz hF
        go_simp
        exact ⟨rfl, Ext.refl _⟩
      refine hK _ _ ?_
      clear hK K
      refine wpX_step (fun K hK => ?_)
      go_simp
      refine StepY.det (by rw [HSP.out]; rfl) ?_ ?_
      · intro wz hz hF
        clear hz hF
        go_simp
        refine (HEM.out _).mono ?_
        rintro e w2 ⟨rfl, hE1⟩
        exact ⟨_, rfl, rfl, hE1⟩
      refine hK _ _ ?_
      clear hK K
      refine wpX_nil ?_
      intro wq hz hF
      clear hF
      rw [HS.out] at hz
      have hO := hz
      clear hz HS HSP
      have hf := hO.cells
      simp only [BC, CC, Nat.zero_add, Nat.reduceAdd, and_true] at hf
      go_upto_region 7 with fail
      obtain ⟨S, hS⟩ : ∃ S : World → Prop, S = Own w [⟨g4, 24, [.int .u64 (y1 : Int), .int .u64 (y2 : Int)]⟩, ⟨gx, 24, [.int .u64 (p : Int), .int .u64 (q : Int)]⟩] [] := ⟨_, rfl⟩
      have hSE : ∀ w w', S w → Ext w w' → S w' := fun w w' h1 h2 => by rw [hS] at h1 ⊢; exact h1.ext h2
      have hS1 : S wq.drew := by rw [hS]; exact hO.ext (Ext.refl wq).drew
      have HS := Lib.hid hS
      clear hS hO hf
      obtain ⟨sp, hsp⟩ : ∃ sp : Nat → Sp, sp = ofList [det (.agg #[.int .u64 (y1 : Int), .int .u64 (y2 : Int)]), det (.agg #[.int .u64 (e1 : Int), .int .u64 (e2 : Int)])] := ⟨_, rfl⟩
      have HSP := Lib.hid hsp
      clear hsp
      refine wp_region_loose 2 S sp (by kernel_rfl) (by kernel_rfl) hS1 hSE ?_
      simp only [List.take_succ_cons, List.take_zero, List.drop_succ_cons, List.drop_zero]
      refine wpX_step (fun K hK => ?_)
      go_simp
      refine StepY.det (by rw [HSP.out]; rfl) ?_ ?_
      · intro wz hz hF
        rw [HS.out] at hz
        have hf := hz.cells
        simp only [BC, CC, Nat.zero_add, Nat.reduceAdd, and_true] at hf
        clear hz hF
        go_simp
        exact ⟨rfl, Ext.refl _⟩
      refine hK _ _ ?_
      clear hK K
      refine wpX_step (fun K hK => ?_)
      go_simp
      refine StepY.det (by rw [HSP.out]; rfl) ?_ ?_
      · intro wz hz hF
        clear hz hF
        go_simp
        refine (HEM.out _).mono ?_
        rintro e w2 ⟨rfl, hE1⟩
        exact ⟨_, rfl, rfl, hE1⟩
      refine hK _ _ ?_
      clear hK K
      refine wpX_nil ?_
      intro wq hz hF
      clear hF
      rw [HS.out] at hz
      have hO := hz
      clear hz HS HSP
      have hf := hO.cells
      simp only [BC, CC, Nat.zero_add, Nat.reduceAdd, and_true] at hf
      have hS := hO.tl
      clear hO hf
      rw [← HS1.out] at hS
      go_wp2
      go_roundw
      case rel => exact ⟨k + 1, by go_num, by omega, hS⟩
      case measure => simp [intOf]; omega
    · have hke : k = 6 := by omega
      subst hke
      have hE := (HS1.out ▸ hSr).toExt
      go_wp2_with fail
      refine (HLV.out _ (HT.out.ext hE)).mono ?_
      rintro e w6 ⟨rfl, hE1⟩
      have hEE := hE.trans hE1
      clear hE hE1 hSr
      go_wp2
      go_ret
      exact ⟨rfl, hEE⟩

set_option maxHeartbeats 32000000 in
theorem whole_f (x1 x2 p q e1 e2 : Nat) (w : World) (hT : Tab w) (HRD : Hid (∀ w, Calls Tryz.prog 9 #[.agg #[.int .u64 (x1 : Int), .int .u64 (x2 : Int)]] w (RetI p q w)))
    (HIN : Hid (∀ w, Calls Tryz.prog 7 #[.agg #[.int .u64 (p : Int), .int .u64 (q : Int)]] w (RetF p q w))) (HEM : Hid (∀ w, Calls Tryz.prog 11 #[] w (RetI e1 e2 w)))
    (hq1 : ∀ w, (binOp .eql 24 (.agg #[.int .u64 (p : Int), .int .u64 (q : Int)]) (.agg #[.int .u64 (e1 : Int), .int .u64 (e2 : Int)])).run Tryz.prog w = .ok (.bool false) w)
    (HST : Hid (∀ k : Nat, k < 6 → ∃ y1 y2 : Nat, (∀ w, Calls Tryz.prog 10 #[.int .i64 (k : Int), .agg #[.float .f64 p, .float .f64 q]] w (RetF y1 y2 w)) ∧ (∃ fe ff ie se Ne De sf Nf Df, WhE k y1 p fe ff ie se Ne De sf Nf Df) ∧ (∃ fe ff ie se Ne De sf Nf Df, WhE k y2 q fe ff ie se Ne De sf Nf Df)))
    (HI : Hid (∀ w, Calls Tryz.prog 19 #[.int .i64 1] w (RetR false 1 1 w))) :
    Calls Tryz.prog 4 #[.agg #[.int .u64 (x1 : Int), .int .u64 (x2 : Int)]] w fun e w' => e = .returned (.bool true) ∧ Ext w w' := by
  have HT := Lib.hid hT
  have HLV := Lib.hid (fun w h => lives7_any w h)
  clear hT
  have hO := Own.start w
  have hf : True := trivial
  go_enter Tryz.func4, Tryz.ntmps4
  go_wp2_with ((with_reducible refine at_box ?_); refine own_box (cs := [.int .u64 (x1 : Int), .int .u64 (x2 : Int)]) hO rfl rfl ?_; clear hO; intro gx wa hO; clear hf; have hf := hO.cells; simp only [BC, CC, Nat.zero_add, Nat.reduceAdd, and_true] at hf)
  refine (HRD.out _).mono ?_
  rintro e w3 ⟨rfl, hE1⟩
  have hO := hO.ext hE1
  clear hE1
  clear hf
  have hf := hO.cells
  simp only [BC, CC, Nat.zero_add, Nat.reduceAdd, and_true] at hf
  go_upto_region 2 with ((with_reducible refine at_store (T := 24) ?_); refine own_store (T := 24) hO 0 rfl rfl rfl size_Iw rfl rfl rfl ?_; clear hO; intro w4 hO; simp only [List.set_cons_zero, List.set_cons_succ, spl, List.take_succ_cons, List.take_zero, List.nil_append, List.cons_append, List.length_cons, List.length_nil, List.drop_succ_cons, List.drop_zero, List.drop_nil, Nat.reduceAdd, Nat.zero_add, List.append_nil] at hO; clear hf; have hf := hO.cells; simp only [BC, CC, Nat.zero_add, Nat.reduceAdd, and_true] at hf)
  obtain ⟨S, hS⟩ : ∃ S : World → Prop, S = Own w [⟨gx, 24, [.int .u64 (p : Int), .int .u64 (q : Int)]⟩] [] := ⟨_, rfl⟩
  rw [← hS] at hO
  have HS1 := Lib.hid hS
  clear hS hf HRD
  go_wp2_with fail
  go_loopw [3] (fun kv wr => ∃ k : Nat, kv = .int .i64 (k : Int) ∧ k ≤ 6 ∧ S wr) (fun kv _ => 6 - (intOf kv).toNat)
  case atStart => exact ⟨0, rfl, by omega, hO⟩
  case round =>
    obtain ⟨k, rfl, hk6, hSr⟩ := hrel
    clear hO
    by_cases hk : k < 6
    · obtain ⟨y1, y2, h1, HE1, HE2⟩ := HST.out k hk
      have H1 := Lib.hid h1
      have HOU := Lib.hid (fun w => out7_any y1 y2 w)
      have hkc : (((k : Int) != 0) = false ∧ ((k : Int) == 1) = false) ∨ (((k : Int) != 0) = true ∧ ((k : Int) == 1) = true) ∨ (((k : Int) != 0) = true ∧ ((k : Int) == 1) = false) := by
        rcases Nat.lt_trichotomy k 1 with g | g | g
        · have : k = 0 := by omega
          subst this; exact .inl ⟨rfl, rfl⟩
        · subst g; exact .inr (.inl ⟨rfl, rfl⟩)
        · exact .inr (.inr ⟨by rw [bne_iff_ne]; omega, by rw [beq_eq_false_iff_ne]; omega⟩)
      clear h1
      have hO := hSr
      rw [HS1.out] at hO
      clear hSr
      have hf := hO.cells
      simp only [BC, CC, Nat.zero_add, Nat.reduceAdd, and_true] at hf
      go_wp2_with fail
      refine (HIN.out _).mono ?_
      rintro e w5 ⟨rfl, hE1⟩
      have hO := hO.ext hE1
      clear hE1
      clear hf
      have hf := hO.cells
      simp only [BC, CC, Nat.zero_add, Nat.reduceAdd, and_true] at hf
      go_wp2_with fail
      refine (H1.out _).mono ?_
      rintro e w6 ⟨rfl, hE1⟩
      have hO := hO.ext hE1
      clear hE1
      clear hf
      have hf := hO.cells
      simp only [BC, CC, Nat.zero_add, Nat.reduceAdd, and_true] at hf
      go_wp2_with fail
      refine (HOU.out _).mono ?_
      rintro e w7 ⟨rfl, hE1⟩
      have hO := hO.ext hE1
      clear hE1
      clear hf
      have hf := hO.cells
      simp only [BC, CC, Nat.zero_add, Nat.reduceAdd, and_true] at hf
      go_upto_region 6 with (first | ((with_reducible refine at_alloc ?_); refine own_alloc hO zero_Iw rfl rfl ?_; clear hO; intro g4 w8 hO; clear hf; have hf := hO.cells; simp only [BC, CC, Nat.zero_add, Nat.reduceAdd, and_true] at hf) | ((with_reducible refine at_store (T := 24) ?_); refine own_store (T := 24) hO 0 rfl rfl rfl size_Iw rfl rfl rfl ?_; clear hO; intro wb hO; simp only [List.set_cons_zero, List.set_cons_succ, spl, List.take_succ_cons, List.take_zero, List.nil_append, List.cons_append, List.length_cons, List.length_nil, List.drop_succ_cons, List.drop_zero, List.drop_nil, Nat.reduceAdd, Nat.zero_add, List.append_nil] at hO; clear hf; have hf := hO.cells; simp only [BC, CC, Nat.zero_add, Nat.reduceAdd, and_true] at hf))
      obtain ⟨S, hS⟩ : ∃ S : World → Prop, S = Own w [⟨g4, 24, [.int .u64 (y1 : Int), .int .u64 (y2 : Int)]⟩, ⟨gx, 24, [.int .u64 (p : Int), .int .u64 (q : Int)]⟩] [] := ⟨_, rfl⟩
      have hSE : ∀ w w', S w → Ext w w' → S w' := fun w w' h1 h2 => by rw [hS] at h1 ⊢; exact h1.ext h2
      have hS1 : S wb.drew := by rw [hS]; exact hO.ext (Ext.refl wb).drew
      have HS := Lib.hid hS
      clear hS hO hf
      obtain ⟨sp, hsp⟩ : ∃ sp : Nat → Sp, sp = ofList [det (.agg #[.int .u64 (p : Int), .int .u64 (q : Int)]), det (.agg #[.int .u64 (e1 : Int), .int .u64 (e2 : Int)])] := ⟨_, rfl⟩
      have HSP := Lib.hid hsp
      clear hsp
      refine wp_region_loose 2 S sp (by kernel_rfl) (by kernel_rfl) hS1 hSE ?_
      simp only [List.take_succ_cons, List.take_zero, List.drop_succ_cons, List.drop_zero]
      refine wpX_step (fun K hK => ?_)
      go_simp
      refine StepY.det (by rw [HSP.out]; rfl) ?_ ?_
      · intro wz hz hF
        rw [HS.out] at hz
        have hf := hz.cells
        simp only [BC, CC, Nat.zero_add, Nat.reduceAdd, and_true] at hf
        clear hz hF
        go_simp
        exact ⟨rfl, Ext.refl _⟩
      refine hK _ _ ?_
      clear hK K
      refine wpX_step (fun K hK => ?_)
      go_simp
      refine StepY.det (by rw [HSP.out]; rfl) ?_ ?_
      · intro wz hz hF
        clear hz hF
        go_simp
        refine (HEM.out _).mono ?_
        rintro e w2 ⟨rfl, hE1⟩
        exact ⟨_, rfl, rfl, hE1⟩
      refine hK _ _ ?_
      clear hK K
      refine wpX_nil ?_
      intro wq hz hF
      clear hF
      rw [HS.out] at hz
      have hO := hz
      clear hz HS HSP
      have hf := hO.cells
      simp only [BC, CC, Nat.zero_add, Nat.reduceAdd, and_true] at hf
      go_upto_region 10 with (first | ((with_reducible refine at_alloc ?_); refine own_alloc hO zero_A2w rfl rfl ?_; clear hO; intro g5 wf hO; clear hf; have hf := hO.cells; simp only [BC, CC, Nat.zero_add, Nat.reduceAdd, and_true] at hf) | ((with_reducible refine at_store (T := 36) ?_); refine own_store (T := 36) hO 0 rfl rfl rfl size_A2w rfl rfl rfl ?_; clear hO; intro wg hO; simp only [List.set_cons_zero, List.set_cons_succ, spl, List.take_succ_cons, List.take_zero, List.nil_append, List.cons_append, List.length_cons, List.length_nil, List.drop_succ_cons, List.drop_zero, List.drop_nil, Nat.reduceAdd, Nat.zero_add, List.append_nil] at hO; clear hf; have hf := hO.cells; simp only [BC, CC, Nat.zero_add, Nat.reduceAdd, and_true] at hf))
      go_wp2_with (first | ((with_reducible refine at_alloc ?_); refine own_alloc hO zero_A2w rfl rfl ?_; clear hO; intro g6 wh hO; clear hf; have hf := hO.cells; simp only [BC, CC, Nat.zero_add, Nat.reduceAdd, and_true] at hf) | ((with_reducible refine at_store (T := 36) ?_); refine own_store (T := 36) hO 0 rfl rfl rfl size_A2w rfl rfl rfl ?_; clear hO; intro wi hO; simp only [List.set_cons_zero, List.set_cons_succ, spl, List.take_succ_cons, List.take_zero, List.nil_append, List.cons_append, List.length_cons, List.length_nil, List.drop_succ_cons, List.drop_zero, List.drop_nil, Nat.reduceAdd, Nat.zero_add, List.append_nil] at hO; clear hf; have hf := hO.cells; simp only [BC, CC, Nat.zero_add, Nat.reduceAdd, and_true] at hf))
      obtain ⟨S2, hS2⟩ : ∃ S : World → Prop, S = Own w [⟨g6, 36, [.int .u64 (p : Int), .int .u64 (q : Int)]⟩, ⟨g5, 36, [.int .u64 (y1 : Int), .int .u64 (y2 : Int)]⟩, ⟨g4, 24, [.int .u64 (y1 : Int), .int .u64 (y2 : Int)]⟩, ⟨gx, 24, [.int .u64 (p : Int), .int .u64 (q : Int)]⟩] [] := ⟨_, rfl⟩
      rw [← hS2] at hO
      have HS2 := Lib.hid hS2
      clear hS2 hf
      go_loopw [7] (fun kv wr => ∃ i : Nat, kv = .int .i64 (i : Int) ∧ i ≤ 2 ∧ S2 wr) (fun kv _ => 2 - (intOf kv).toNat)
      case atStart => exact ⟨0, rfl, by omega, hO⟩
      case round =>
        obtain ⟨i, rfl, hi2, hSi⟩ := hrel
        clear hO
        have hic : i = 0 ∨ i = 1 ∨ i = 2 := by omega
        rcases hic with rfl | rfl | rfl
        · obtain ⟨fe, ff, ie, se, Ne, De, sf, Nf, Df, HW⟩ := HE1
          have hne := HW.ne_.out
          have HNN := HW.nn
          have HI1 := HW.i1
          have HF1 := HW.f1
          have HF2 := HW.f2
          have hO := hSi
          rw [HS2.out] at hO
          clear hSi
          have hf := hO.cells
          simp only [BC, CC, Nat.zero_add, Nat.reduceAdd, and_true] at hf
          go_upto_region 14 with fail
          go_cut [65] from 37 to 105 (fun s wx => s = .bool false ∧ Own w [⟨g6, 36, [.int .u64 (p : Int), .int .u64 (q : Int)]⟩, ⟨g5, 36, [.int .u64 (y1 : Int), .int .u64 (y2 : Int)]⟩, ⟨g4, 24, [.int .u64 (y1 : Int), .int .u64 (y2 : Int)]⟩, ⟨gx, 24, [.int .u64 (p : Int), .int .u64 (q : Int)]⟩] [] wx)
          case first =>
            rcases hkc with ⟨hk0, hk1⟩ | ⟨hk0, hk1⟩ | ⟨hk0, hk1⟩
            · obtain ⟨S, hS⟩ : ∃ S : World → Prop, S = Own w [⟨g6, 36, [.int .u64 (p : Int), .int .u64 (q : Int)]⟩, ⟨g5, 36, [.int .u64 (y1 : Int), .int .u64 (y2 : Int)]⟩, ⟨g4, 24, [.int .u64 (y1 : Int), .int .u64 (y2 : Int)]⟩, ⟨gx, 24, [.int .u64 (p : Int), .int .u64 (q : Int)]⟩] [] := ⟨_, rfl⟩
              have hSE : ∀ w w', S w → Ext w w' → S w' := fun w w' h1 h2 => by rw [hS] at h1 ⊢; exact h1.ext h2
              have hS1 : S wr.drew := by rw [hS]; exact hO.ext (Ext.refl wr).drew
              have HS := Lib.hid hS
              clear hS hO hf
              obtain ⟨sp, hsp⟩ : ∃ sp : Nat → Sp, sp = ofList [det (.int .i64 0), det (.pointer (some ⟨g5, 0, none⟩)), det (.int .u64 (y1 : Int)), det (.bool false), det (.bool false), det (.int .i64 0), det (.pointer (some ⟨g5, 0, none⟩)), det (.int .u64 (y1 : Int)), det (.bool false), det (.bool false), det (.bool false), det (.int .i64 (k : Int)), det (.bool false), det (.bool false), det undef, det undef, det undef, det undef, det undef, det undef, det undef, det undef, det undef, det (.bool false)] := ⟨_, rfl⟩
              have HSP := Lib.hid hsp
              clear hsp
              refine wp_region_loose 24 S sp (by kernel_rfl) (by kernel_rfl) hS1 hSE ?_
              simp only [List.take_succ_cons, List.take_zero, List.drop_succ_cons, List.drop_zero]
              refine wpX_step (fun K hK => ?_)
              go_simp
              refine StepY.det (by rw [HSP.out]; rfl) ?_ ?_
              · intro wz hz hF
                clear hz hF
                go_simp
                exact ⟨rfl, Ext.refl _⟩
              refine hK _ _ ?_
              clear hK K
              refine wpX_step (fun K hK => ?_)
              go_simp
              refine StepY.det (by rw [HSP.out]; rfl) ?_ ?_
              · intro wz hz hF
                clear hz hF
                go_simp
                exact ⟨rfl, Ext.refl _⟩
              refine hK _ _ ?_
              clear hK K
              refine wpX_step (fun K hK => ?_)
              go_simp
              refine StepY.det (by rw [HSP.out]; rfl) ?_ ?_
              · intro wz hz hF
                rw [HS.out] at hz
                have hf := hz.cells
                simp only [BC, CC, Nat.zero_add, Nat.reduceAdd, and_true] at hf
                clear hz hF
                go_simp
                exact ⟨rfl, Ext.refl _⟩
              refine hK _ _ ?_
              clear hK K
              refine wpX_step (fun K hK => ?_)
              go_simp
              refine StepY.det (by rw [HSP.out]; rfl) ?_ ?_
              · intro wz hz hF
                clear hz hF
                go_simp
                exact ⟨rfl, Ext.refl _⟩
              refine hK _ _ ?_
              clear hK K
              refine wpX_step (fun K hK => ?_)
              go_simp
              refine StepY.det (by rw [HSP.out]; rfl) ?_ ?_
              · intro wz hz hF
                clear hz hF
                go_simp
                exact ⟨rfl, Ext.refl _⟩
              refine hK _ _ ?_
              clear hK K
              refine wpX_step (fun K hK => ?_)
              go_simp
              refine StepY.det (by rw [HSP.out]; rfl) ?_ ?_
              · intro wz hz hF
                clear hz hF
                go_simp
                exact ⟨rfl, Ext.refl _⟩
              refine hK _ _ ?_
              clear hK K
              refine wpX_step (fun K hK => ?_)
              go_simp
              refine StepY.det (by rw [HSP.out]; rfl) ?_ ?_
              · intro wz hz hF
                clear hz hF
                go_simp
                exact ⟨rfl, Ext.refl _⟩
              refine hK _ _ ?_
              clear hK K
              refine wpX_step (fun K hK => ?_)
              go_simp
              refine StepY.det (by rw [HSP.out]; rfl) ?_ ?_
              · intro wz hz hF
                rw [HS.out] at hz
                have hf := hz.cells
                simp only [BC, CC, Nat.zero_add, Nat.reduceAdd, and_true] at hf
                clear hz hF
                go_simp
                exact ⟨rfl, Ext.refl _⟩
              refine hK _ _ ?_
              clear hK K
              refine wpX_step (fun K hK => ?_)
              go_simp
              refine StepY.det (by rw [HSP.out]; rfl) ?_ ?_
              · intro wz hz hF
                clear hz hF
                go_simp
                refine (HNN.out _).mono ?_
                rintro e w5 ⟨rfl, rfl⟩
                exact ⟨_, rfl, rfl, Ext.refl _⟩
              refine hK _ _ ?_
              clear hK K
              refine wpX_step (fun K hK => ?_)
              go_simp
              refine StepY.det (by rw [HSP.out]; rfl) ?_ ?_
              · intro wz hz hF
                clear hz hF
                go_simp
                exact ⟨rfl, Ext.refl _⟩
              refine hK _ _ ?_
              clear hK K
              refine wpX_step (fun K hK => ?_)
              go_simp
              refine StepY.det (by rw [HSP.out]; rfl) ?_ ?_
              · intro wz hz hF
                clear hz hF
                go_simp
                exact ⟨rfl, Ext.refl _⟩
              refine hK _ _ ?_
              clear hK K
              refine wpX_step (fun K hK => ?_)
              go_simp
              refine StepY.det (by rw [HSP.out]; rfl) ?_ ?_
              · intro wz hz hF
                clear hz hF
                go_simp
                exact ⟨rfl, Ext.refl _⟩
              refine hK _ _ ?_
              clear hK K
              refine wpX_step (fun K hK => ?_)
              go_simp
              refine StepY.det (by rw [HSP.out]; rfl) ?_ ?_
              · intro wz hz hF
                clear hz hF
                go_simp
                exact ⟨rfl, Ext.refl _⟩
              refine hK _ _ ?_
              clear hK K
              refine wpX_step (fun K hK => ?_)
              go_simp
              refine StepY.det (by rw [HSP.out]; rfl) ?_ ?_
              · intro wz hz hF
                clear hz hF
                go_simp
                exact ⟨rfl, Ext.refl _⟩
              refine hK _ _ ?_
              clear hK K
              refine wpX_step (fun K hK => ?_)
              go_simp
              refine ⟨by rw [HSP.out]; rfl, hK _ _ ?_⟩
              clear hK K
              refine wpX_step (fun K hK => ?_)
              go_simp
              refine ⟨by rw [HSP.out]; rfl, hK _ _ ?_⟩
              clear hK K
              refine wpX_step (fun K hK => ?_)
              go_simp
              refine ⟨by rw [HSP.out]; rfl, hK _ _ ?_⟩
              clear hK K
              refine wpX_step (fun K hK => ?_)
              go_simp
              refine ⟨by rw [HSP.out]; rfl, hK _ _ ?_⟩
              clear hK K
              refine wpX_step (fun K hK => ?_)
              go_simp
              refine ⟨by rw [HSP.out]; rfl, hK _ _ ?_⟩
              clear hK K
              refine wpX_step (fun K hK => ?_)
              go_simp
              refine ⟨by rw [HSP.out]; rfl, hK _ _ ?_⟩
              clear hK K
              refine wpX_step (fun K hK => ?_)
              go_simp
              refine ⟨by rw [HSP.out]; rfl, hK _ _ ?_⟩
              clear hK K
              refine wpX_step (fun K hK => ?_)
              go_simp
              refine ⟨by rw [HSP.out]; rfl, hK _ _ ?_⟩
              clear hK K
              refine wpX_step (fun K hK => ?_)
              go_simp
              refine ⟨by rw [HSP.out]; rfl, hK _ _ ?_⟩
              clear hK K
              refine wpX_step (fun K hK => ?_)
              go_simp
              refine StepY.det (by rw [HSP.out]; rfl) ?_ ?_
              · intro wz hz hF
                clear hz hF
                go_simp
                exact ⟨rfl, Ext.refl _⟩
              refine hK _ _ ?_
              clear hK K
              refine wpX_nil ?_
              intro wq hz hF
              clear hF
              rw [HS.out] at hz
              have hO := hz
              clear hz HS HSP
              have hf := hO.cells
              simp only [BC, CC, Nat.zero_add, Nat.reduceAdd, and_true] at hf
              go_wp2
              go_meet
              exact ⟨rfl, hO⟩
            · have HI2 := HW.i2 (by intro h; subst h; simp at hk0)
              obtain ⟨S, hS⟩ : ∃ S : World → Prop, S = Own w [⟨g6, 36, [.int .u64 (p : Int), .int .u64 (q : Int)]⟩, ⟨g5, 36, [.int .u64 (y1 : Int), .int .u64 (y2 : Int)]⟩, ⟨g4, 24, [.int .u64 (y1 : Int), .int .u64 (y2 : Int)]⟩, ⟨gx, 24, [.int .u64 (p : Int), .int .u64 (q : Int)]⟩] [] := ⟨_, rfl⟩
              have hSE : ∀ w w', S w → Ext w w' → S w' := fun w w' h1 h2 => by rw [hS] at h1 ⊢; exact h1.ext h2
              have hS1 : S wr.drew := by rw [hS]; exact hO.ext (Ext.refl wr).drew
              have HS := Lib.hid hS
              clear hS hO hf
              obtain ⟨sp, hsp⟩ : ∃ sp : Nat → Sp, sp = ofList [det (.int .i64 0), det (.pointer (some ⟨g5, 0, none⟩)), det (.int .u64 (y1 : Int)), det (.bool false), det (.bool false), det (.int .i64 0), det (.pointer (some ⟨g5, 0, none⟩)), det (.int .u64 (y1 : Int)), det (.bool false), det (.bool false), det (.bool false), det (.int .i64 (k : Int)), det (.bool true), det (.bool true), det (.int .i64 0), det (.pointer (some ⟨g5, 0, none⟩)), det (.int .u64 (y1 : Int)), det (.bool ie), det (.int .i64 0), det (.pointer (some ⟨g6, 0, none⟩)), det (.int .u64 (p : Int)), det (.bool ie), det (.bool false), det (.bool false)] := ⟨_, rfl⟩
              have HSP := Lib.hid hsp
              clear hsp
              refine wp_region_loose 24 S sp (by kernel_rfl) (by kernel_rfl) hS1 hSE ?_
              simp only [List.take_succ_cons, List.take_zero, List.drop_succ_cons, List.drop_zero]
              refine wpX_step (fun K hK => ?_)
              go_simp
              refine StepY.det (by rw [HSP.out]; rfl) ?_ ?_
              · intro wz hz hF
                clear hz hF
                go_simp
                exact ⟨rfl, Ext.refl _⟩
              refine hK _ _ ?_
              clear hK K
              refine wpX_step (fun K hK => ?_)
              go_simp
              refine StepY.det (by rw [HSP.out]; rfl) ?_ ?_
              · intro wz hz hF
                clear hz hF
                go_simp
                exact ⟨rfl, Ext.refl _⟩
              refine hK _ _ ?_
              clear hK K
              refine wpX_step (fun K hK => ?_)
              go_simp
              refine StepY.det (by rw [HSP.out]; rfl) ?_ ?_
              · intro wz hz hF
                rw [HS.out] at hz
                have hf := hz.cells
                simp only [BC, CC, Nat.zero_add, Nat.reduceAdd, and_true] at hf
                clear hz hF
                go_simp
                exact ⟨rfl, Ext.refl _⟩
              refine hK _ _ ?_
              clear hK K
              refine wpX_step (fun K hK => ?_)
              go_simp
              refine StepY.det (by rw [HSP.out]; rfl) ?_ ?_
              · intro wz hz hF
                clear hz hF
                go_simp
                exact ⟨rfl, Ext.refl _⟩
              refine hK _ _ ?_
              clear hK K
              refine wpX_step (fun K hK => ?_)
              go_simp
              refine StepY.det (by rw [HSP.out]; rfl) ?_ ?_
              · intro wz hz hF
                clear hz hF
                go_simp
                exact ⟨rfl, Ext.refl _⟩
              refine hK _ _ ?_
              clear hK K
              refine wpX_step (fun K hK => ?_)
              go_simp
              refine StepY.det (by rw [HSP.out]; rfl) ?_ ?_
              · intro wz hz hF
                clear hz hF
                go_simp
                exact ⟨rfl, Ext.refl _⟩
              refine hK _ _ ?_
              clear hK K
              refine wpX_step (fun K hK => ?_)
              go_simp
              refine StepY.det (by rw [HSP.out]; rfl) ?_ ?_
              · intro wz hz hF
                clear hz hF
                go_simp
                exact ⟨rfl, Ext.refl _⟩
              refine hK _ _ ?_
              clear hK K
              refine wpX_step (fun K hK => ?_)
              go_simp
              refine StepY.det (by rw [HSP.out]; rfl) ?_ ?_
              · intro wz hz hF
                rw [HS.out] at hz
                have hf := hz.cells
                simp only [BC, CC, Nat.zero_add, Nat.reduceAdd, and_true] at hf
                clear hz hF
                go_simp
                exact ⟨rfl, Ext.refl _⟩
              refine hK _ _ ?_
              clear hK K
              refine wpX_step (fun K hK => ?_)
              go_simp
              refine StepY.det (by rw [HSP.out]; rfl) ?_ ?_
              · intro wz hz hF
                clear hz hF
                go_simp
                refine (HNN.out _).mono ?_
                rintro e w5 ⟨rfl, rfl⟩
                exact ⟨_, rfl, rfl, Ext.refl _⟩
              refine hK _ _ ?_
              clear hK K
              refine wpX_step (fun K hK => ?_)
              go_simp
              refine StepY.det (by rw [HSP.out]; rfl) ?_ ?_
              · intro wz hz hF
                clear hz hF
                go_simp
                exact ⟨rfl, Ext.refl _⟩
              refine hK _ _ ?_
              clear hK K
              refine wpX_step (fun K hK => ?_)
              go_simp
              refine StepY.det (by rw [HSP.out]; rfl) ?_ ?_
              · intro wz hz hF
                clear hz hF
                go_simp
                exact ⟨rfl, Ext.refl _⟩
              refine hK _ _ ?_
              clear hK K
              refine wpX_step (fun K hK => ?_)
              go_simp
              refine StepY.det (by rw [HSP.out]; rfl) ?_ ?_
              · intro wz hz hF
                clear hz hF
                go_simp
                exact ⟨rfl, Ext.refl _⟩
              refine hK _ _ ?_
              clear hK K
              refine wpX_step (fun K hK => ?_)
              go_simp
              refine StepY.det (by rw [HSP.out]; rfl) ?_ ?_
              · intro wz hz hF
                clear hz hF
                go_simp
                exact ⟨rfl, Ext.refl _⟩
              refine hK _ _ ?_
              clear hK K
              refine wpX_step (fun K hK => ?_)
              go_simp
              refine StepY.det (by rw [HSP.out]; rfl) ?_ ?_
              · intro wz hz hF
                clear hz hF
                go_simp
                exact ⟨rfl, Ext.refl _⟩
              refine hK _ _ ?_
              clear hK K
              refine wpX_step (fun K hK => ?_)
              go_simp
              refine StepY.det (by rw [HSP.out]; rfl) ?_ ?_
              · intro wz hz hF
                clear hz hF
                go_simp
                exact ⟨rfl, Ext.refl _⟩
              refine hK _ _ ?_
              clear hK K
              refine wpX_step (fun K hK => ?_)
              go_simp
              refine StepY.det (by rw [HSP.out]; rfl) ?_ ?_
              · intro wz hz hF
                clear hz hF
                go_simp
                exact ⟨rfl, Ext.refl _⟩
              refine hK _ _ ?_
              clear hK K
              refine wpX_step (fun K hK => ?_)
              go_simp
              refine StepY.det (by rw [HSP.out]; rfl) ?_ ?_
              · intro wz hz hF
                rw [HS.out] at hz
                have hf := hz.cells
                simp only [BC, CC, Nat.zero_add, Nat.reduceAdd, and_true] at hf
                clear hz hF
                go_simp
                exact ⟨rfl, Ext.refl _⟩
              refine hK _ _ ?_
              clear hK K
              refine wpX_step (fun K hK => ?_)
              go_simp
              refine StepY.det (by rw [HSP.out]; rfl) ?_ ?_
              · intro wz hz hF
                clear hz hF
                go_simp
                refine (HI1.out _).mono ?_
                rintro e w5 ⟨rfl, rfl⟩
                exact ⟨_, rfl, rfl, Ext.refl _⟩
              refine hK _ _ ?_
              clear hK K
              refine wpX_step (fun K hK => ?_)
              go_simp
              refine StepY.det (by rw [HSP.out]; rfl) ?_ ?_
              · intro wz hz hF
                clear hz hF
                go_simp
                exact ⟨rfl, Ext.refl _⟩
              refine hK _ _ ?_
              clear hK K
              refine wpX_step (fun K hK => ?_)
              go_simp
              refine StepY.det (by rw [HSP.out]; rfl) ?_ ?_
              · intro wz hz hF
                clear hz hF
                go_simp
                exact ⟨rfl, Ext.refl _⟩
              refine hK _ _ ?_
              clear hK K
              refine wpX_step (fun K hK => ?_)
              go_simp
              refine StepY.det (by rw [HSP.out]; rfl) ?_ ?_
              · intro wz hz hF
                rw [HS.out] at hz
                have hf := hz.cells
                simp only [BC, CC, Nat.zero_add, Nat.reduceAdd, and_true] at hf
                clear hz hF
                go_simp
                exact ⟨rfl, Ext.refl _⟩
              refine hK _ _ ?_
              clear hK K
              refine wpX_step (fun K hK => ?_)
              go_simp
              refine StepY.det (by rw [HSP.out]; rfl) ?_ ?_
              · intro wz hz hF
                clear hz hF
                go_simp
                refine (HI2.out _).mono ?_
                rintro e w5 ⟨rfl, rfl⟩
                exact ⟨_, rfl, rfl, Ext.refl _⟩
              refine hK _ _ ?_
              clear hK K
              refine wpX_step (fun K hK => ?_)
              go_simp
              refine StepY.det (by rw [HSP.out]; rfl) ?_ ?_
              · intro wz hz hF
                clear hz hF
                go_simp
                exact ⟨rfl, Ext.refl _⟩
              refine hK _ _ ?_
              clear hK K
              refine wpX_step (fun K hK => ?_)
              go_simp
              refine StepY.det (by rw [HSP.out]; rfl) ?_ ?_
              · intro wz hz hF
                clear hz hF
                go_simp
                exact ⟨rfl, Ext.refl _⟩
              refine hK _ _ ?_
              clear hK K
              refine wpX_nil ?_
              intro wq hz hF
              clear hF
              rw [HS.out] at hz
              have hO := hz
              clear hz HS HSP
              have hf := hO.cells
              simp only [BC, CC, Nat.zero_add, Nat.reduceAdd, and_true] at hf
              go_wp2
              go_meet
              exact ⟨rfl, hO⟩
            · have HI2 := HW.i2 (by intro h; subst h; simp at hk0)
              obtain ⟨S, hS⟩ : ∃ S : World → Prop, S = Own w [⟨g6, 36, [.int .u64 (p : Int), .int .u64 (q : Int)]⟩, ⟨g5, 36, [.int .u64 (y1 : Int), .int .u64 (y2 : Int)]⟩, ⟨g4, 24, [.int .u64 (y1 : Int), .int .u64 (y2 : Int)]⟩, ⟨gx, 24, [.int .u64 (p : Int), .int .u64 (q : Int)]⟩] [] := ⟨_, rfl⟩
              have hSE : ∀ w w', S w → Ext w w' → S w' := fun w w' h1 h2 => by rw [hS] at h1 ⊢; exact h1.ext h2
              have hS1 : S wr.drew := by rw [hS]; exact hO.ext (Ext.refl wr).drew
              have HS := Lib.hid hS
              clear hS hO hf
              obtain ⟨sp, hsp⟩ : ∃ sp : Nat → Sp, sp = ofList [det (.int .i64 0), det (.pointer (some ⟨g5, 0, none⟩)), det (.int .u64 (y1 : Int)), det (.bool false), det (.bool false), det (.int .i64 0), det (.pointer (some ⟨g5, 0, none⟩)), det (.int .u64 (y1 : Int)), det (.bool false), det (.bool false), det (.bool false), det (.int .i64 (k : Int)), det (.bool true), det (.bool true), det (.int .i64 0), det (.pointer (some ⟨g5, 0, none⟩)), det (.int .u64 (y1 : Int)), det (.bool ie), det (.int .i64 0), det (.pointer (some ⟨g6, 0, none⟩)), det (.int .u64 (p : Int)), det (.bool ie), det (.bool false), det (.bool false)] := ⟨_, rfl⟩
              have HSP := Lib.hid hsp
              clear hsp
              refine wp_region_loose 24 S sp (by kernel_rfl) (by kernel_rfl) hS1 hSE ?_
              simp only [List.take_succ_cons, List.take_zero, List.drop_succ_cons, List.drop_zero]
              refine wpX_step (fun K hK => ?_)
              go_simp
              refine StepY.det (by rw [HSP.out]; rfl) ?_ ?_
              · intro wz hz hF
                clear hz hF
                go_simp
                exact ⟨rfl, Ext.refl _⟩
              refine hK _ _ ?_
              clear hK K
              refine wpX_step (fun K hK => ?_)
              go_simp
              refine StepY.det (by rw [HSP.out]; rfl) ?_ ?_
              · intro wz hz hF
                clear hz hF
                go_simp
                exact ⟨rfl, Ext.refl _⟩
              refine hK _ _ ?_
              clear hK K
              refine wpX_step (fun K hK => ?_)
              go_simp
              refine StepY.det (by rw [HSP.out]; rfl) ?_ ?_
              · intro wz hz hF
                rw [HS.out] at hz
                have hf := hz.cells
                simp only [BC, CC, Nat.zero_add, Nat.reduceAdd, and_true] at hf
                clear hz hF
                go_simp
                exact ⟨rfl, Ext.refl _⟩
              refine hK _ _ ?_
              clear hK K
              refine wpX_step (fun K hK => ?_)
              go_simp
              refine StepY.det (by rw [HSP.out]; rfl) ?_ ?_
              · intro wz hz hF
                clear hz hF
                go_simp
                exact ⟨rfl, Ext.refl _⟩
              refine hK _ _ ?_
              clear hK K
              refine wpX_step (fun K hK => ?_)
              go_simp
              refine StepY.det (by rw [HSP.out]; rfl) ?_ ?_
              · intro wz hz hF
                clear hz hF
                go_simp
                exact ⟨rfl, Ext.refl _⟩
              refine hK _ _ ?_
              clear hK K
              refine wpX_step (fun K hK => ?_)
              go_simp
              refine StepY.det (by rw [HSP.out]; rfl) ?_ ?_
              · intro wz hz hF
                clear hz hF
                go_simp
                exact ⟨rfl, Ext.refl _⟩
              refine hK _ _ ?_
              clear hK K
              refine wpX_step (fun K hK => ?_)
              go_simp
              refine StepY.det (by rw [HSP.out]; rfl) ?_ ?_
              · intro wz hz hF
                clear hz hF
                go_simp
                exact ⟨rfl, Ext.refl _⟩
              refine hK _ _ ?_
              clear hK K
              refine wpX_step (fun K hK => ?_)
              go_simp
              refine StepY.det (by rw [HSP.out]; rfl) ?_ ?_
              · intro wz hz hF
                rw [HS.out] at hz
                have hf := hz.cells
                simp only [BC, CC, Nat.zero_add, Nat.reduceAdd, and_true] at hf
                clear hz hF
                go_simp
                exact ⟨rfl, Ext.refl _⟩
              refine hK _ _ ?_
              clear hK K
              refine wpX_step (fun K hK => ?_)
              go_simp
              refine StepY.det (by rw [HSP.out]; rfl) ?_ ?_
              · intro wz hz hF
                clear hz hF
                go_simp
                refine (HNN.out _).mono ?_
                rintro e w5 ⟨rfl, rfl⟩
                exact ⟨_, rfl, rfl, Ext.refl _⟩
              refine hK _ _ ?_
              clear hK K
              refine wpX_step (fun K hK => ?_)
              go_simp
              refine StepY.det (by rw [HSP.out]; rfl) ?_ ?_
              · intro wz hz hF
                clear hz hF
                go_simp
                exact ⟨rfl, Ext.refl _⟩
              refine hK _ _ ?_
              clear hK K
              refine wpX_step (fun K hK => ?_)
              go_simp
              refine StepY.det (by rw [HSP.out]; rfl) ?_ ?_
              · intro wz hz hF
                clear hz hF
                go_simp
                exact ⟨rfl, Ext.refl _⟩
              refine hK _ _ ?_
              clear hK K
              refine wpX_step (fun K hK => ?_)
              go_simp
              refine StepY.det (by rw [HSP.out]; rfl) ?_ ?_
              · intro wz hz hF
                clear hz hF
                go_simp
                exact ⟨rfl, Ext.refl _⟩
              refine hK _ _ ?_
              clear hK K
              refine wpX_step (fun K hK => ?_)
              go_simp
              refine StepY.det (by rw [HSP.out]; rfl) ?_ ?_
              · intro wz hz hF
                clear hz hF
                go_simp
                exact ⟨rfl, Ext.refl _⟩
              refine hK _ _ ?_
              clear hK K
              refine wpX_step (fun K hK => ?_)
              go_simp
              refine StepY.det (by rw [HSP.out]; rfl) ?_ ?_
              · intro wz hz hF
                clear hz hF
                go_simp
                exact ⟨rfl, Ext.refl _⟩
              refine hK _ _ ?_
              clear hK K
              refine wpX_step (fun K hK => ?_)
              go_simp
              refine StepY.det (by rw [HSP.out]; rfl) ?_ ?_
              · intro wz hz hF
                clear hz hF
                go_simp
                exact ⟨rfl, Ext.refl _⟩
              refine hK _ _ ?_
              clear hK K
              refine wpX_step (fun K hK => ?_)
              go_simp
              refine StepY.det (by rw [HSP.out]; rfl) ?_ ?_
              · intro wz hz hF
                clear hz hF
                go_simp
                exact ⟨rfl, Ext.refl _⟩
              refine hK _ _ ?_
              clear hK K
              refine wpX_step (fun K hK => ?_)
              go_simp
              refine StepY.det (by rw [HSP.out]; rfl) ?_ ?_
              · intro wz hz hF
                rw [HS.out] at hz
                have hf := hz.cells
                simp only [BC, CC, Nat.zero_add, Nat.reduceAdd, and_true] at hf
                clear hz hF
                go_simp
                exact ⟨rfl, Ext.refl _⟩
              refine hK _ _ ?_
              clear hK K
              refine wpX_step (fun K hK => ?_)
              go_simp
              refine StepY.det (by rw [HSP.out]; rfl) ?_ ?_
              · intro wz hz hF
                clear hz hF
                go_simp
                refine (HI1.out _).mono ?_
                rintro e w5 ⟨rfl, rfl⟩
                exact ⟨_, rfl, rfl, Ext.refl _⟩
              refine hK _ _ ?_
              clear hK K
              refine wpX_step (fun K hK => ?_)
              go_simp
              refine StepY.det (by rw [HSP.out]; rfl) ?_ ?_
              · intro wz hz hF
                clear hz hF
                go_simp
                exact ⟨rfl, Ext.refl _⟩
              refine hK _ _ ?_
              clear hK K
              refine wpX_step (fun K hK => ?_)
              go_simp
              refine StepY.det (by rw [HSP.out]; rfl) ?_ ?_
              · intro wz hz hF
                clear hz hF
                go_simp
                exact ⟨rfl, Ext.refl _⟩
              refine hK _ _ ?_
              clear hK K
              refine wpX_step (fun K hK => ?_)
              go_simp
              refine StepY.det (by rw [HSP.out]; rfl) ?_ ?_
              · intro wz hz hF
                rw [HS.out] at hz
                have hf := hz.cells
                simp only [BC, CC, Nat.zero_add, Nat.reduceAdd, and_true] at hf
                clear hz hF
                go_simp
                exact ⟨rfl, Ext.refl _⟩
              refine hK _ _ ?_
              clear hK K
              refine wpX_step (fun K hK => ?_)
              go_simp
              refine StepY.det (by rw [HSP.out]; rfl) ?_ ?_
              · intro wz hz hF
                clear hz hF
                go_simp
                refine (HI2.out _).mono ?_
                rintro e w5 ⟨rfl, rfl⟩
                exact ⟨_, rfl, rfl, Ext.refl _⟩
              refine hK _ _ ?_
              clear hK K
              refine wpX_step (fun K hK => ?_)
              go_simp
              refine StepY.det (by rw [HSP.out]; rfl) ?_ ?_
              · intro wz hz hF
                clear hz hF
                go_simp
                exact ⟨rfl, Ext.refl _⟩
              refine hK _ _ ?_
              clear hK K
              refine wpX_step (fun K hK => ?_)
              go_simp
              refine StepY.det (by rw [HSP.out]; rfl) ?_ ?_
              · intro wz hz hF
                clear hz hF
                go_simp
                exact ⟨rfl, Ext.refl _⟩
              refine hK _ _ ?_
              clear hK K
              refine wpX_nil ?_
              intro wq hz hF
              clear hF
              rw [HS.out] at hz
              have hO := hz
              clear hz HS HSP
              have hf := hO.cells
              simp only [BC, CC, Nat.zero_add, Nat.reduceAdd, and_true] at hf
              go_wp2
              go_meet
              exact ⟨rfl, hO⟩
          case rest =>
          obtain ⟨rfl, hO⟩ := hcut
          clear hf hne HNN HI1
          have hf := hO.cells
          simp only [BC, CC, Nat.zero_add, Nat.reduceAdd, and_true] at hf
          cases fe
          · go_wp2_with (first | (go_at_call 14; (with_reducible refine (HF1.out _).mono ?_); rintro e w' ⟨rfl, rfl⟩) | (go_at_call 14; (with_reducible refine (HF2.out _).mono ?_); rintro e w' ⟨rfl, rfl⟩))
            have hS := hO.bare
            clear hO hf
            rw [← HS2.out] at hS
            go_roundw
            case rel =>
              first
              | exact ⟨1, by first | rfl | go_num, by omega, hS⟩
              | ((repeat apply Exists.intro)
                 exact ⟨⟨1, by first | rfl | go_num, by omega, hS⟩, rfl⟩)
            case measure => simp [intOf]
          cases ff
          · go_wp2_with (first | (go_at_call 14; (with_reducible refine (HF1.out _).mono ?_); rintro e w' ⟨rfl, rfl⟩) | (go_at_call 14; (with_reducible refine (HF2.out _).mono ?_); rintro e w' ⟨rfl, rfl⟩))
            have hS := hO.bare
            clear hO hf
            rw [← HS2.out] at hS
            go_roundw
            case rel =>
              first
              | exact ⟨1, by first | rfl | go_num, by omega, hS⟩
              | ((repeat apply Exists.intro)
                 exact ⟨⟨1, by first | rfl | go_num, by omega, hS⟩, rfl⟩)
            case measure => simp [intOf]
          have HLN := HW.ln rfl
          go_wp2_with (first | (go_at_call 14; (with_reducible refine (HF1.out _).mono ?_); rintro e w' ⟨rfl, rfl⟩) | (go_at_call 14; (with_reducible refine (HF2.out _).mono ?_); rintro e w' ⟨rfl, rfl⟩))
          refine (HW.b1.out _).mono ?_
          rintro e w9 ⟨A1, l1, c1, B1, k1, d1, rfl, hW1, hW2, hE1⟩
          have hO := ((hO.ext hE1).add hW1).add hW2
          clear hW1 hW2 hE1
          clear hf
          have hf := hO.cells
          simp only [BC, CC, Nat.zero_add, Nat.reduceAdd, and_true] at hf
          go_wp2_with (first | ((with_reducible refine at_alloc ?_); refine own_alloc hO zero_rat rfl rfl ?_; clear hO; intro g8 wc hO; clear hf; have hf := hO.cells; simp only [BC, CC, Nat.zero_add, Nat.reduceAdd, and_true] at hf) | ((with_reducible refine at_store (T := 40) ?_); refine own_store (T := 40) hO 0 rfl rfl rfl size_rat rfl rfl rfl ?_; clear hO; intro wd hO; simp only [List.set_cons_zero, List.set_cons_succ, spl, List.take_succ_cons, List.take_zero, List.nil_append, List.cons_append, List.length_cons, List.length_nil, List.drop_succ_cons, List.drop_zero, List.drop_nil, Nat.reduceAdd, Nat.zero_add, List.append_nil] at hO; clear hf; have hf := hO.cells; simp only [BC, CC, Nat.zero_add, Nat.reduceAdd, and_true] at hf))
          refine (HW.b2.out _).mono ?_
          rintro e w9 ⟨A2, l2, c2, B2, k2, d2, rfl, hW1, hW2, hE1⟩
          have hO := ((hO.ext hE1).add hW1).add hW2
          clear hW1 hW2 hE1
          clear hf
          have hf := hO.cells
          simp only [BC, CC, Nat.zero_add, Nat.reduceAdd, and_true] at hf
          go_wp2_with (first | ((with_reducible refine at_alloc ?_); refine own_alloc hO zero_rat rfl rfl ?_; clear hO; intro g9 we hO; clear hf; have hf := hO.cells; simp only [BC, CC, Nat.zero_add, Nat.reduceAdd, and_true] at hf) | ((with_reducible refine at_store (T := 40) ?_); refine own_store (T := 40) hO 0 rfl rfl rfl size_rat rfl rfl rfl ?_; clear hO; intro wj hO; simp only [List.set_cons_zero, List.set_cons_succ, spl, List.take_succ_cons, List.take_zero, List.nil_append, List.cons_append, List.length_cons, List.length_nil, List.drop_succ_cons, List.drop_zero, List.drop_nil, Nat.reduceAdd, Nat.zero_add, List.append_nil] at hO; clear hf; have hf := hO.cells; simp only [BC, CC, Nat.zero_add, Nat.reduceAdd, and_true] at hf))
          refine (HLN.out _ _ _ _ (hO.wd 2 rfl)).mono ?_
          rintro e w' ⟨rfl, rfl⟩
          go_upto_region 21 with fail
          rcases hkc with ⟨hk0, hk1⟩ | ⟨hk0, hk1⟩ | ⟨hk0, hk1⟩
          · obtain ⟨S, hS⟩ : ∃ S : World → Prop, S = Own w [⟨g9, 40, [.bool sf, .slice A2 l2 c2, .slice B2 k2 d2]⟩, ⟨g8, 40, [.bool se, .slice A1 l1 c1, .slice B1 k1 d1]⟩, ⟨g6, 36, [.int .u64 (p : Int), .int .u64 (q : Int)]⟩, ⟨g5, 36, [.int .u64 (y1 : Int), .int .u64 (y2 : Int)]⟩, ⟨g4, 24, [.int .u64 (y1 : Int), .int .u64 (y2 : Int)]⟩, ⟨gx, 24, [.int .u64 (p : Int), .int .u64 (q : Int)]⟩] [⟨B2, k2, d2, nd Df⟩, ⟨A2, l2, c2, nd Nf⟩, ⟨B1, k1, d1, nd De⟩, ⟨A1, l1, c1, nd Ne⟩] := ⟨_, rfl⟩
            have hSE : ∀ w w', S w → Ext w w' → S w' := fun w w' h1 h2 => by rw [hS] at h1 ⊢; exact h1.ext h2
            have hS1 : S wj.drew := by rw [hS]; exact hO.ext (Ext.refl wj).drew
            have HS := Lib.hid hS
            clear hS hO hf
            obtain ⟨sp, hsp⟩ : ∃ sp : Nat → Sp, sp = ofList [det (.int .i64 (k : Int)), det (.bool false), det (.bool false), det undef, det undef, det undef, det undef, det undef, det undef, det undef, det undef, det undef, det undef, det undef, det undef] := ⟨_, rfl⟩
            have HSP := Lib.hid hsp
            clear hsp
            refine wp_region_loose 15 S sp (by kernel_rfl) (by kernel_rfl) hS1 hSE ?_
            simp only [List.take_succ_cons, List.take_zero, List.drop_succ_cons, List.drop_zero]
            refine wpX_step (fun K hK => ?_)
            go_simp
            refine StepY.det (by rw [HSP.out]; rfl) ?_ ?_
            · intro wz hz hF
              clear hz hF
              go_simp
              exact ⟨rfl, Ext.refl _⟩
            refine hK _ _ ?_
            clear hK K
            refine wpX_step (fun K hK => ?_)
            go_simp
            refine StepY.det (by rw [HSP.out]; rfl) ?_ ?_
            · intro wz hz hF
              clear hz hF
              go_simp
              exact ⟨rfl, Ext.refl _⟩
            refine hK _ _ ?_
            clear hK K
            refine wpX_step (fun K hK => ?_)
            go_simp
            refine StepY.det (by rw [HSP.out]; rfl) ?_ ?_
            · intro wz hz hF
              clear hz hF
              go_simp
              exact ⟨rfl, Ext.refl _⟩
            refine hK _ _ ?_
            clear hK K
            refine wpX_step (fun K hK => ?_)
            go_simp
            refine ⟨by rw [HSP.out]; rfl, hK _ _ ?_⟩
            clear hK K
            refine wpX_step (fun K hK => ?_)
            go_simp
            refine ⟨by rw [HSP.out]; rfl, hK _ _ ?_⟩
            clear hK K
            refine wpX_step (fun K hK => ?_)
            go_simp
            refine ⟨by rw [HSP.out]; rfl, hK _ _ ?_⟩
            clear hK K
            refine wpX_step (fun K hK => ?_)
            go_simp
            refine ⟨by rw [HSP.out]; rfl, hK _ _ ?_⟩
            clear hK K
            refine wpX_step (fun K hK => ?_)
            go_simp
            refine ⟨by rw [HSP.out]; rfl, hK _ _ ?_⟩
            clear hK K
            refine wpX_step (fun K hK => ?_)
            go_simp
            refine ⟨by rw [HSP.out]; rfl, hK _ _ ?_⟩
            clear hK K
            refine wpX_step (fun K hK => ?_)
            go_simp
            refine ⟨by rw [HSP.out]; rfl, hK _ _ ?_⟩
            clear hK K
            refine wpX_step (fun K hK => ?_)
            go_simp
            refine ⟨by rw [HSP.out]; rfl, hK _ _ ?_⟩
            clear hK K
            refine wpX_step (fun K hK => ?_)
            go_simp
            refine ⟨by rw [HSP.out]; rfl, hK _ _ ?_⟩
            clear hK K
            refine wpX_step (fun K hK => ?_)
            go_simp
            refine ⟨by rw [HSP.out]; rfl, hK _ _ ?_⟩
            clear hK K
            refine wpX_step (fun K hK => ?_)
            go_simp
            refine ⟨by rw [HSP.out]; rfl, hK _ _ ?_⟩
            clear hK K
            refine wpX_step (fun K hK => ?_)
            go_simp
            refine ⟨by rw [HSP.out]; rfl, hK _ _ ?_⟩
            clear hK K
            refine wpX_nil ?_
            intro wq hz hF
            clear hF
            rw [HS.out] at hz
            have hO := hz
            clear hz HS HSP
            have hf := hO.cells
            simp only [BC, CC, Nat.zero_add, Nat.reduceAdd, and_true] at hf
            have hS := hO.tl.tl.bare
            clear hO hf
            rw [← HS2.out] at hS
            go_wp2
            go_roundw
            case rel =>
              first
              | exact ⟨1, by first | rfl | go_num, by omega, hS⟩
              | ((repeat apply Exists.intro)
                 exact ⟨⟨1, by first | rfl | go_num, by omega, hS⟩, rfl⟩)
            case measure => simp [intOf]
          · obtain ⟨r1, r2, sb, Nb, Db, HR1, HSB, HR2, hr1, hr2⟩ := HW.fl rfl (by have := of_decide_eq_true (show decide ((k : Int) = 1) = true from hk1); omega)
            obtain ⟨S, hS⟩ : ∃ S : World → Prop, S = Own w [⟨g9, 40, [.bool sf, .slice A2 l2 c2, .slice B2 k2 d2]⟩, ⟨g8, 40, [.bool se, .slice A1 l1 c1, .slice B1 k1 d1]⟩, ⟨g6, 36, [.int .u64 (p : Int), .int .u64 (q : Int)]⟩, ⟨g5, 36, [.int .u64 (y1 : Int), .int .u64 (y2 : Int)]⟩, ⟨g4, 24, [.int .u64 (y1 : Int), .int .u64 (y2 : Int)]⟩, ⟨gx, 24, [.int .u64 (p : Int), .int .u64 (q : Int)]⟩] [⟨B2, k2, d2, nd Df⟩, ⟨A2, l2, c2, nd Nf⟩, ⟨B1, k1, d1, nd De⟩, ⟨A1, l1, c1, nd Ne⟩] := ⟨_, rfl⟩
            have hSE : ∀ w w', S w → Ext w w' → S w' := fun w w' h1 h2 => by rw [hS] at h1 ⊢; exact h1.ext h2
            have hS1 : S wj.drew := by rw [hS]; exact hO.ext (Ext.refl wj).drew
            have HS := Lib.hid hS
            clear hS hO hf
            obtain ⟨sp, hsp⟩ : ∃ sp : Nat → Sp, sp = ofList [det (.int .i64 (k : Int)), det (.bool true), det (.bool true), det (.agg #[.bool se, .slice A1 l1 c1, .slice B1 k1 d1]), det (.agg #[.bool sf, .slice A2 l2 c2, .slice B2 k2 d2]), det (.int .i64 r1), det (.bool false), det (.bool false), det (.agg #[.bool sf, .slice A2 l2 c2, .slice B2 k2 d2]), anyOf (fun v wz => ∃ A l c B m d, v = .agg #[.bool false, .slice A l c, .slice B m d] ∧ RatAt wz A l c B m d 1 1), anyOf (fun v wz => ∃ A l c B m d, v = .agg #[.bool sb, .slice A l c, .slice B m d] ∧ RatAt wz A l c B m d Nb Db), det (.agg #[.bool se, .slice A1 l1 c1, .slice B1 k1 d1]), det (.int .i64 r2), det (.bool false), det (.bool false)] := ⟨_, rfl⟩
            have HSP := Lib.hid hsp
            clear hsp
            refine wp_region_loose 15 S sp (by kernel_rfl) (by kernel_rfl) hS1 hSE ?_
            simp only [List.take_succ_cons, List.take_zero, List.drop_succ_cons, List.drop_zero]
            refine wpX_step (fun K hK => ?_)
            go_simp
            refine StepY.det (by rw [HSP.out]; rfl) ?_ ?_
            · intro wz hz hF
              clear hz hF
              go_simp
              exact ⟨rfl, Ext.refl _⟩
            refine hK _ _ ?_
            clear hK K
            refine wpX_step (fun K hK => ?_)
            go_simp
            refine StepY.det (by rw [HSP.out]; rfl) ?_ ?_
            · intro wz hz hF
              clear hz hF
              go_simp
              exact ⟨rfl, Ext.refl _⟩
            refine hK _ _ ?_
            clear hK K
            refine wpX_step (fun K hK => ?_)
            go_simp
            refine StepY.det (by rw [HSP.out]; rfl) ?_ ?_
            · intro wz hz hF
              clear hz hF
              go_simp
              exact ⟨rfl, Ext.refl _⟩
            refine hK _ _ ?_
            clear hK K
            refine wpX_step (fun K hK => ?_)
            go_simp
            refine StepY.det (by rw [HSP.out]; rfl) ?_ ?_
            · intro wz hz hF
              rw [HS.out] at hz
              have hf := hz.cells
              simp only [BC, CC, Nat.zero_add, Nat.reduceAdd, and_true] at hf
              clear hz hF
              go_simp
              exact ⟨rfl, Ext.refl _⟩
            refine hK _ _ ?_
            clear hK K
            refine wpX_step (fun K hK => ?_)
            go_simp
            refine StepY.det (by rw [HSP.out]; rfl) ?_ ?_
            · intro wz hz hF
              rw [HS.out] at hz
              have hf := hz.cells
              simp only [BC, CC, Nat.zero_add, Nat.reduceAdd, and_true] at hf
              clear hz hF
              go_simp
              exact ⟨rfl, Ext.refl _⟩
            refine hK _ _ ?_
            clear hK K
            refine wpX_step (fun K hK => ?_)
            go_simp
            refine StepY.det (by rw [HSP.out]; rfl) ?_ ?_
            · intro wz hz hF
              rw [HS.out] at hz
              have hA : RatAt wz _ _ _ _ _ _ _ _ := ⟨hz.wd 3 rfl, hz.wd 2 rfl⟩
              have hB : RatAt wz _ _ _ _ _ _ _ _ := ⟨hz.wd 1 rfl, hz.wd 0 rfl⟩
              clear hz hF
              go_simp
              refine (HR1.out _ _ _ _ _ _ _ _ _ _ _ _ _ hA hB).mono ?_
              rintro e w2 ⟨rfl, hE1⟩
              exact ⟨_, rfl, rfl, hE1⟩
            refine hK _ _ ?_
            clear hK K
            refine wpX_step (fun K hK => ?_)
            go_simp
            refine StepY.det (by rw [HSP.out]; rfl) ?_ ?_
            · intro wz hz hF
              clear hz hF
              go_simp
              exact ⟨rfl, Ext.refl _⟩
            refine hK _ _ ?_
            clear hK K
            refine wpX_step (fun K hK => ?_)
            go_simp
            refine StepY.det (by rw [HSP.out]; rfl) ?_ ?_
            · intro wz hz hF
              clear hz hF
              go_simp
              exact ⟨rfl, Ext.refl _⟩
            refine hK _ _ ?_
            clear hK K
            refine wpX_step (fun K hK => ?_)
            go_simp
            refine StepY.det (by rw [HSP.out]; rfl) ?_ ?_
            · intro wz hz hF
              rw [HS.out] at hz
              have hf := hz.cells
              simp only [BC, CC, Nat.zero_add, Nat.reduceAdd, and_true] at hf
              clear hz hF
              go_simp
              exact ⟨rfl, Ext.refl _⟩
            refine hK _ _ ?_
            clear hK K
            refine wpX_step (fun K hK => ?_)
            go_simp
            refine StepY.any (by rw [HSP.out]; rfl) ?_ ?_
            · intro wz hz hF
              clear hz hF
              go_simp
              refine (HI.out _).mono ?_
              rintro e w2 ⟨A3, n3, c3, A4, n4, c4, rfl, hW1, hW2, hE1⟩
              exact ⟨_, rfl, ⟨A3, n3, c3, A4, n4, c4, rfl, hW1, hW2⟩, hE1⟩
            intro v1
            refine hK _ _ ?_
            clear hK K
            refine wpX_step (fun K hK => ?_)
            go_simp
            refine StepY.any (by rw [HSP.out]; rfl) ?_ ?_
            · intro wz hz hF
              obtain ⟨wa', ea, A5, n5, c5, A6, n6, c6, hv1, hw1⟩ := hF.any 9 (by kernel_rfl) (by rw [HSP.out]; rfl)
              rw [HS.out] at hz
              have hB : RatAt wz _ _ _ _ _ _ _ _ := ⟨hz.wd 1 rfl, hz.wd 0 rfl⟩
              clear hz hF
              simp only [asFun, List.nil_append, List.cons_append, List.getD_cons_succ, List.getD_cons_zero] at hv1
              subst hv1
              go_simp
              refine (HSB.out _ _ _ _ _ _ _ _ _ _ _ _ _ hB (hw1.ext ea)).mono ?_
              rintro e w2 ⟨A3, n3, c3, A4, n4, c4, rfl, hW1, hW2, hE1⟩
              exact ⟨_, rfl, ⟨A3, n3, c3, A4, n4, c4, rfl, hW1, hW2⟩, hE1⟩
            intro v2
            refine hK _ _ ?_
            clear hK K
            refine wpX_step (fun K hK => ?_)
            go_simp
            refine StepY.det (by rw [HSP.out]; rfl) ?_ ?_
            · intro wz hz hF
              rw [HS.out] at hz
              have hf := hz.cells
              simp only [BC, CC, Nat.zero_add, Nat.reduceAdd, and_true] at hf
              clear hz hF
              go_simp
              exact ⟨rfl, Ext.refl _⟩
            refine hK _ _ ?_
            clear hK K
            refine wpX_step (fun K hK => ?_)
            go_simp
            refine StepY.det (by rw [HSP.out]; rfl) ?_ ?_
            · intro wz hz hF
              obtain ⟨wa', ea, A5, n5, c5, A6, n6, c6, hv1, hw1⟩ := hF.any 10 (by kernel_rfl) (by rw [HSP.out]; rfl)
              rw [HS.out] at hz
              have hA : RatAt wz _ _ _ _ _ _ _ _ := ⟨hz.wd 3 rfl, hz.wd 2 rfl⟩
              clear hz hF
              simp only [asFun, List.nil_append, List.cons_append, List.getD_cons_succ, List.getD_cons_zero] at hv1
              subst hv1
              go_simp
              refine (HR2.out _ _ _ _ _ _ _ _ _ _ _ _ _ (hw1.ext ea) hA).mono ?_
              rintro e w2 ⟨rfl, hE1⟩
              exact ⟨_, rfl, rfl, hE1⟩
            refine hK _ _ ?_
            clear hK K
            refine wpX_step (fun K hK => ?_)
            go_simp
            refine StepY.det (by rw [HSP.out]; rfl) ?_ ?_
            · intro wz hz hF
              clear hz hF
              go_simp
              exact ⟨rfl, Ext.refl _⟩
            refine hK _ _ ?_
            clear hK K
            refine wpX_step (fun K hK => ?_)
            go_simp
            refine StepY.det (by rw [HSP.out]; rfl) ?_ ?_
            · intro wz hz hF
              clear hz hF
              go_simp
              exact ⟨rfl, Ext.refl _⟩
            refine hK _ _ ?_
            clear hK K
            refine wpX_nil ?_
            intro wq hz hF
            clear hF
            rw [HS.out] at hz
            have hO := hz
            clear hz HS HSP
            have hf := hO.cells
            simp only [BC, CC, Nat.zero_add, Nat.reduceAdd, and_true] at hf
            have hS := hO.tl.tl.bare
            clear hO hf
            rw [← HS2.out] at hS
            go_wp2
            go_roundw
            case rel =>
              first
              | exact ⟨1, by first | rfl | go_num, by omega, hS⟩
              | ((repeat apply Exists.intro)
                 exact ⟨⟨1, by first | rfl | go_num, by omega, hS⟩, rfl⟩)
            case measure => simp [intOf]
          · obtain ⟨S, hS⟩ : ∃ S : World → Prop, S = Own w [⟨g9, 40, [.bool sf, .slice A2 l2 c2, .slice B2 k2 d2]⟩, ⟨g8, 40, [.bool se, .slice A1 l1 c1, .slice B1 k1 d1]⟩, ⟨g6, 36, [.int .u64 (p : Int), .int .u64 (q : Int)]⟩, ⟨g5, 36, [.int .u64 (y1 : Int), .int .u64 (y2 : Int)]⟩, ⟨g4, 24, [.int .u64 (y1 : Int), .int .u64 (y2 : Int)]⟩, ⟨gx, 24, [.int .u64 (p : Int), .int .u64 (q : Int)]⟩] [⟨B2, k2, d2, nd Df⟩, ⟨A2, l2, c2, nd Nf⟩, ⟨B1, k1, d1, nd De⟩, ⟨A1, l1, c1, nd Ne⟩] := ⟨_, rfl⟩
            have hSE : ∀ w w', S w → Ext w w' → S w' := fun w w' h1 h2 => by rw [hS] at h1 ⊢; exact h1.ext h2
            have hS1 : S wj.drew := by rw [hS]; exact hO.ext (Ext.refl wj).drew
            have HS := Lib.hid hS
            clear hS hO hf
            obtain ⟨sp, hsp⟩ : ∃ sp : Nat → Sp, sp = ofList [det (.int .i64 (k : Int)), det (.bool false), det (.bool false), det undef, det undef, det undef, det undef, det undef, det undef, det undef, det undef, det undef, det undef, det undef, det undef] := ⟨_, rfl⟩
            have HSP := Lib.hid hsp
            clear hsp
            refine wp_region_loose 15 S sp (by kernel_rfl) (by kernel_rfl) hS1 hSE ?_
            simp only [List.take_succ_cons, List.take_zero, List.drop_succ_cons, List.drop_zero]
            refine wpX_step (fun K hK => ?_)
            go_simp
            refine StepY.det (by rw [HSP.out]; rfl) ?_ ?_
            · intro wz hz hF
              clear hz hF
              go_simp
              exact ⟨rfl, Ext.refl _⟩
            refine hK _ _ ?_
            clear hK K
            refine wpX_step (fun K hK => ?_)
            go_simp
            refine StepY.det (by rw [HSP.out]; rfl) ?_ ?_
            · intro wz hz hF
              clear hz hF
              go_simp
              exact ⟨rfl, Ext.refl _⟩
            refine hK _ _ ?_
            clear hK K
            refine wpX_step (fun K hK => ?_)
            go_simp
            refine StepY.det (by rw [HSP.out]; rfl) ?_ ?_
            · intro wz hz hF
              clear hz hF
              go_simp
              exact ⟨rfl, Ext.refl _⟩
            refine hK _ _ ?_
            clear hK K
            refine wpX_step (fun K hK => ?_)
            go_simp
            refine ⟨by rw [HSP.out]; rfl, hK _ _ ?_⟩
            clear hK K
            refine wpX_step (fun K hK => ?_)
            go_simp
            refine ⟨by rw [HSP.out]; rfl, hK _ _ ?_⟩
            clear hK K
            refine wpX_step (fun K hK => ?_)
            go_simp
            refine ⟨by rw [HSP.out]; rfl, hK _ _ ?_⟩
            clear hK K
            refine wpX_step (fun K hK => ?_)
            go_simp
            refine ⟨by rw [HSP.out]; rfl, hK _ _ ?_⟩
            clear hK K
            refine wpX_step (fun K hK => ?_)
            go_simp
            refine ⟨by rw [HSP.out]; rfl, hK _ _ ?_⟩
            clear hK K
            refine wpX_step (fun K hK => ?_)
            go_simp
            refine ⟨by rw [HSP.out]; rfl, hK _ _ ?_⟩
            clear hK K
            refine wpX_step (fun K hK => ?_)
            go_simp
            refine ⟨by rw [HSP.out]; rfl, hK _ _ ?_⟩
            clear hK K
            refine wpX_step (fun K hK => ?_)
            go_simp
            refine ⟨by rw [HSP.out]; rfl, hK _ _ ?_⟩
            clear hK K
            refine wpX_step (fun K hK => ?_)
            go_simp
            refine ⟨by rw [HSP.out]; rfl, hK _ _ ?_⟩
            clear hK K
            refine wpX_step (fun K hK => ?_)
            go_simp
            refine ⟨by rw [HSP.out]; rfl, hK _ _ ?_⟩
            clear hK K
            refine wpX_step (fun K hK => ?_)
            go_simp
            refine ⟨by rw [HSP.out]; rfl, hK _ _ ?_⟩
            clear hK K
            refine wpX_step (fun K hK => ?_)
            go_simp
            refine ⟨by rw [HSP.out]; rfl, hK _ _ ?_⟩
            clear hK K
            refine wpX_nil ?_
            intro wq hz hF
            clear hF
            rw [HS.out] at hz
            have hO := hz
            clear hz HS HSP
            have hf := hO.cells
            simp only [BC, CC, Nat.zero_add, Nat.reduceAdd, and_true] at hf
            have hS := hO.tl.tl.bare
            clear hO hf
            rw [← HS2.out] at hS
            go_wp2
            go_roundw
            case rel =>
              first
              | exact ⟨1, by first | rfl | go_num, by omega, hS⟩
              | ((repeat apply Exists.intro)
                 exact ⟨⟨1, by first | rfl | go_num, by omega, hS⟩, rfl⟩)
            case measure => simp [intOf]
        · obtain ⟨fe, ff, ie, se, Ne, De, sf, Nf, Df, HW⟩ := HE2
          have hne := HW.ne_.out
          have HNN := HW.nn
          have HI1 := HW.i1
          have HF1 := HW.f1
          have HF2 := HW.f2
          have hO := hSi
          rw [HS2.out] at hO
          clear hSi
          have hf := hO.cells
          simp only [BC, CC, Nat.zero_add, Nat.reduceAdd, and_true] at hf
          go_upto_region 14 with fail
          go_cut [65] from 37 to 105 (fun s wx => s = .bool false ∧ Own w [⟨g6, 36, [.int .u64 (p : Int), .int .u64 (q : Int)]⟩, ⟨g5, 36, [.int .u64 (y1 : Int), .int .u64 (y2 : Int)]⟩, ⟨g4, 24, [.int .u64 (y1 : Int), .int .u64 (y2 : Int)]⟩, ⟨gx, 24, [.int .u64 (p : Int), .int .u64 (q : Int)]⟩] [] wx)
          case first =>
            rcases hkc with ⟨hk0, hk1⟩ | ⟨hk0, hk1⟩ | ⟨hk0, hk1⟩
            · obtain ⟨S, hS⟩ : ∃ S : World → Prop, S = Own w [⟨g6, 36, [.int .u64 (p : Int), .int .u64 (q : Int)]⟩, ⟨g5, 36, [.int .u64 (y1 : Int), .int .u64 (y2 : Int)]⟩, ⟨g4, 24, [.int .u64 (y1 : Int), .int .u64 (y2 : Int)]⟩, ⟨gx, 24, [.int .u64 (p : Int), .int .u64 (q : Int)]⟩] [] := ⟨_, rfl⟩
              have hSE : ∀ w w', S w → Ext w w' → S w' := fun w w' h1 h2 => by rw [hS] at h1 ⊢; exact h1.ext h2
              have hS1 : S wr.drew := by rw [hS]; exact hO.ext (Ext.refl wr).drew
              have HS := Lib.hid hS
              clear hS hO hf
              obtain ⟨sp, hsp⟩ : ∃ sp : Nat → Sp, sp = ofList [det (.int .i64 1), det (.pointer (some ⟨g5, 1, none⟩)), det (.int .u64 (y2 : Int)), det (.bool false), det (.bool false), det (.int .i64 1), det (.pointer (some ⟨g5, 1, none⟩)), det (.int .u64 (y2 : Int)), det (.bool false), det (.bool false), det (.bool false), det (.int .i64 (k : Int)), det (.bool false), det (.bool false), det undef, det undef, det undef, det undef, det undef, det undef, det undef, det undef, det undef, det (.bool false)] := ⟨_, rfl⟩
              have HSP := Lib.hid hsp
              clear hsp
              refine wp_region_loose 24 S sp (by kernel_rfl) (by kernel_rfl) hS1 hSE ?_
              simp only [List.take_succ_cons, List.take_zero, List.drop_succ_cons, List.drop_zero]
              refine wpX_step (fun K hK => ?_)
              go_simp
              refine StepY.det (by rw [HSP.out]; rfl) ?_ ?_
              · intro wz hz hF
                clear hz hF
                go_simp
                exact ⟨rfl, Ext.refl _⟩
              refine hK _ _ ?_
              clear hK K
              refine wpX_step (fun K hK => ?_)
              go_simp
              refine StepY.det (by rw [HSP.out]; rfl) ?_ ?_
              · intro wz hz hF
                clear hz hF
                go_simp
                exact ⟨rfl, Ext.refl _⟩
              refine hK _ _ ?_
              clear hK K
              refine wpX_step (fun K hK => ?_)
              go_simp
              refine StepY.det (by rw [HSP.out]; rfl) ?_ ?_
              · intro wz hz hF
                rw [HS.out] at hz
                have hf := hz.cells
                simp only [BC, CC, Nat.zero_add, Nat.reduceAdd, and_true] at hf
                clear hz hF
                go_simp
                exact ⟨rfl, Ext.refl _⟩
              refine hK _ _ ?_
              clear hK K
              refine wpX_step (fun K hK => ?_)
              go_simp
              refine StepY.det (by rw [HSP.out]; rfl) ?_ ?_
              · intro wz hz hF
                clear hz hF
                go_simp
                exact ⟨rfl, Ext.refl _⟩
              refine hK _ _ ?_
              clear hK K
              refine wpX_step (fun K hK => ?_)
              go_simp
              refine StepY.det (by rw [HSP.out]; rfl) ?_ ?_
              · intro wz hz hF
                clear hz hF
                go_simp
                exact ⟨rfl, Ext.refl _⟩
              refine hK _ _ ?_
              clear hK K
              refine wpX_step (fun K hK => ?_)
              go_simp
              refine StepY.det (by rw [HSP.out]; rfl) ?_ ?_
              · intro wz hz hF
                clear hz hF
                go_simp
                exact ⟨rfl, Ext.refl _⟩
              refine hK _ _ ?_
              clear hK K
              refine wpX_step (fun K hK => ?_)
              go_simp
              refine StepY.det (by rw [HSP.out]; rfl) ?_ ?_
              · intro wz hz hF
                clear hz hF
                go_simp
                exact ⟨rfl, Ext.refl _⟩
              refine hK _ _ ?_
              clear hK K
              refine wpX_step (fun K hK => ?_)
              go_simp
              refine StepY.det (by rw [HSP.out]; rfl) ?_ ?_
              · intro wz hz hF
                rw [HS.out] at hz
                have hf := hz.cells
                simp only [BC, CC, Nat.zero_add, Nat.reduceAdd, and_true] at hf
                clear hz hF
                go_simp
                exact ⟨rfl, Ext.refl _⟩
              refine hK _ _ ?_
              clear hK K
              refine wpX_step (fun K hK => ?_)
              go_simp
              refine StepY.det (by rw [HSP.out]; rfl) ?_ ?_
              · intro wz hz hF
                clear hz hF
                go_simp
                refine (HNN.out _).mono ?_
                rintro e w5 ⟨rfl, rfl⟩
                exact ⟨_, rfl, rfl, Ext.refl _⟩
              refine hK _ _ ?_
              clear hK K
              refine wpX_step (fun K hK => ?_)
              go_simp
              refine StepY.det (by rw [HSP.out]; rfl) ?_ ?_
              · intro wz hz hF
                clear hz hF
                go_simp
                exact ⟨rfl, Ext.refl _⟩
              refine hK _ _ ?_
              clear hK K
              refine wpX_step (fun K hK => ?_)
              go_simp
              refine StepY.det (by rw [HSP.out]; rfl) ?_ ?_
              · intro wz hz hF
                clear hz hF
                go_simp
                exact ⟨rfl, Ext.refl _⟩
              refine hK _ _ ?_
              clear hK K
              refine wpX_step (fun K hK => ?_)
              go_simp
              refine StepY.det (by rw [HSP.out]; rfl) ?_ ?_
              · intro wz hz hF
                clear hz hF
                go_simp
                exact ⟨rfl, Ext.refl _⟩
              refine hK _ _ ?_
              clear hK K
              refine wpX_step (fun K hK => ?_)
              go_simp
              refine StepY.det (by rw [HSP.out]; rfl) ?_ ?_
              · intro wz hz hF
                clear hz hF
                go_simp
                exact ⟨rfl, Ext.refl _⟩
              refine hK _ _ ?_
              clear hK K
              refine wpX_step (fun K hK => ?_)
              go_simp
              refine StepY.det (by rw [HSP.out]; rfl) ?_ ?_
              · intro wz hz hF
                clear hz hF
                go_simp
                exact ⟨rfl, Ext.refl _⟩
              refine hK _ _ ?_
              clear hK K
              refine wpX_step (fun K hK => ?_)
              go_simp
              refine ⟨by rw [HSP.out]; rfl, hK _ _ ?_⟩
              clear hK K
              refine wpX_step (fun K hK => ?_)
              go_simp
              refine ⟨by rw [HSP.out]; rfl, hK _ _ ?_⟩
              clear hK K
              refine wpX_step (fun K hK => ?_)
              go_simp
              refine ⟨by rw [HSP.out]; rfl, hK _ _ ?_⟩
              clear hK K
              refine wpX_step (fun K hK => ?_)
              go_simp
              refine ⟨by rw [HSP.out]; rfl, hK _ _ ?_⟩
              clear hK K
              refine wpX_step (fun K hK => ?_)
              go_simp
              refine ⟨by rw [HSP.out]; rfl, hK _ _ ?_⟩
              clear hK K
              refine wpX_step (fun K hK => ?_)
              go_simp
              refine ⟨by rw [HSP.out]; rfl, hK _ _ ?_⟩
              clear hK K
              refine wpX_step (fun K hK => ?_)
              go_simp
              refine ⟨by rw [HSP.out]; rfl, hK _ _ ?_⟩
              clear hK K
              refine wpX_step (fun K hK => ?_)
              go_simp
              refine ⟨by rw [HSP.out]; rfl, hK _ _ ?_⟩
              clear hK K
              refine wpX_step (fun K hK => ?_)
              go_simp
              refine ⟨by rw [HSP.out]; rfl, hK _ _ ?_⟩
              clear hK K
              refine wpX_step (fun K hK => ?_)
              go_simp
              refine StepY.det (by rw [HSP.out]; rfl) ?_ ?_
              · intro wz hz hF
                clear hz hF
                go_simp
                exact ⟨rfl, Ext.refl _⟩
              refine hK _ _ ?_
              clear hK K
              refine wpX_nil ?_
              intro wq hz hF
              clear hF
              rw [HS.out] at hz
              have hO := hz
              clear hz HS HSP
              have hf := hO.cells
              simp only [BC, CC, Nat.zero_add, Nat.reduceAdd, and_true] at hf
              go_wp2
              go_meet
              exact ⟨rfl, hO⟩
            · have HI2 := HW.i2 (by intro h; subst h; simp at hk0)
              obtain ⟨S, hS⟩ : ∃ S : World → Prop, S = Own w [⟨g6, 36, [.int .u64 (p : Int), .int .u64 (q : Int)]⟩, ⟨g5, 36, [.int .u64 (y1 : Int), .int .u64 (y2 : Int)]⟩, ⟨g4, 24, [.int .u64 (y1 : Int), .int .u64 (y2 : Int)]⟩, ⟨gx, 24, [.int .u64 (p : Int), .int .u64 (q : Int)]⟩] [] := ⟨_, rfl⟩
              have hSE : ∀ w w', S w → Ext w w' → S w' := fun w w' h1 h2 => by rw [hS] at h1 ⊢; exact h1.ext h2
              have hS1 : S wr.drew := by rw [hS]; exact hO.ext (Ext.refl wr).drew
              have HS := Lib.hid hS
              clear hS hO hf
              obtain ⟨sp, hsp⟩ : ∃ sp : Nat → Sp, sp = ofList [det (.int .i64 1), det (.pointer (some ⟨g5, 1, none⟩)), det (.int .u64 (y2 : Int)), det (.bool false), det (.bool false), det (.int .i64 1), det (.pointer (some ⟨g5, 1, none⟩)), det (.int .u64 (y2 : Int)), det (.bool false), det (.bool false), det (.bool false), det (.int .i64 (k : Int)), det (.bool true), det (.bool true), det (.int .i64 1), det (.pointer (some ⟨g5, 1, none⟩)), det (.int .u64 (y2 : Int)), det (.bool ie), det (.int .i64 1), det (.pointer (some ⟨g6, 1, none⟩)), det (.int .u64 (q : Int)), det (.bool ie), det (.bool false), det (.bool false)] := ⟨_, rfl⟩
              have HSP := Lib.hid hsp
              clear hsp
              refine wp_region_loose 24 S sp (by kernel_rfl) (by kernel_rfl) hS1 hSE ?_
              simp only [List.take_succ_cons, List.take_zero, List.drop_succ_cons, List.drop_zero]
              refine wpX_step (fun K hK => ?_)
              go_simp
              refine StepY.det (by rw [HSP.out]; rfl) ?_ ?_
              · intro wz hz hF
                clear hz hF
                go_simp
                exact ⟨rfl, Ext.refl _⟩
              refine hK _ _ ?_
              clear hK K
              refine wpX_step (fun K hK => ?_)
              go_simp
              refine StepY.det (by rw [HSP.out]; rfl) ?_ ?_
              · intro wz hz hF
                clear hz hF
                go_simp
                exact ⟨rfl, Ext.refl _⟩
              refine hK _ _ ?_
              clear hK K
              refine wpX_step (fun K hK => ?_)
              go_simp
              refine StepY.det (by rw [HSP.out]; rfl) ?_ ?_
              · intro wz hz hF
                rw [HS.out] at hz
                have hf := hz.cells
                simp only [BC, CC, Nat.zero_add, Nat.reduceAdd, and_true] at hf
                clear hz hF
                go_simp
                exact ⟨rfl, Ext.refl _⟩
              refine hK _ _ ?_
              clear hK K
              refine wpX_step (fun K hK => ?_)
              go_simp
              refine StepY.det (by rw [HSP.out]; rfl) ?_ ?_
              · intro wz hz hF
                clear hz hF
                go_simp
                exact ⟨rfl, Ext.refl _⟩
              refine hK _ _ ?_
              clear hK K
              refine wpX_step (fun K hK => ?_)
              go_simp
              refine StepY.det (by rw [HSP.out]; rfl) ?_ ?_
              · intro wz hz hF
                clear hz hF
                go_simp
                exact ⟨rfl, Ext.refl _⟩
              refine hK _ _ ?_
              clear hK K
              refine wpX_step (fun K hK => ?_)
              go_simp
              refine StepY.det (by rw [HSP.out]; rfl) ?_ ?_
              · intro wz hz hF
                clear hz hF
                go_simp
                exact ⟨rfl, Ext.refl _⟩
              refine hK _ _ ?_
              clear hK K
              refine wpX_step (fun K hK => ?_)
              go_simp
              refine StepY.det (by rw [HSP.out]; rfl) ?_ ?_
              · intro wz hz hF
                clear hz hF
                go_simp
                exact ⟨rfl, Ext.refl _⟩
              refine hK _ _ ?_
              clear hK K
              refine wpX_step (fun K hK => ?_)
              go_simp
              refine StepY.det (by rw [HSP.out]; rfl) ?_ ?_
              · intro wz hz hF
                rw [HS.out] at hz
                have hf := hz.cells
                simp only [BC, CC, Nat.zero_add, Nat.reduceAdd, and_true] at hf
                clear hz hF
                go_simp
                exact ⟨rfl, Ext.refl _⟩
              refine hK _ _ ?_
              clear hK K
              refine wpX_step (fun K hK => ?_)
              go_simp
              refine StepY.det (by rw [HSP.out]; rfl) ?_ ?_
              · intro wz hz hF
                clear hz hF
                go_simp
                refine (HNN.out _).mono ?_
                rintro e w5 ⟨rfl, rfl⟩
                exact ⟨_, rfl, rfl, Ext.refl _⟩
              refine hK _ _ ?_
              clear hK K
              refine wpX_step (fun K hK => ?_)
              go_simp
              refine StepY.det (by rw [HSP.out]; rfl) ?_ ?_
              · intro wz hz hF
                clear hz hF
                go_simp
                exact ⟨rfl, Ext.refl _⟩
              refine hK _ _ ?_
              clear hK K
              refine wpX_step (fun K hK => ?_)
              go_simp
              refine StepY.det (by rw [HSP.out]; rfl) ?_ ?_
              · intro wz hz hF
                clear hz hF
                go_simp
                exact ⟨rfl, Ext.refl _⟩
              refine hK _ _ ?_
              clear hK K
              refine wpX_step (fun K hK => ?_)
              go_simp
              refine StepY.det (by rw [HSP.out]; rfl) ?_ ?_
              · intro wz hz hF
                clear hz hF
                go_simp
                exact ⟨rfl, Ext.refl _⟩
              refine hK _ _ ?_
              clear hK K
              refine wpX_step (fun K hK => ?_)
              go_simp
              refine StepY.det (by rw [HSP.out]; rfl) ?_ ?_
              · intro wz hz hF
                clear hz hF
                go_simp
                exact ⟨rfl, Ext.refl _⟩
              refine hK _ _ ?_
              clear hK K
              refine wpX_step (fun K hK => ?_)
              go_simp
              refine StepY.det (by rw [HSP.out]; rfl) ?_ ?_
              · intro wz hz hF
                clear hz hF
                go_simp
                exact ⟨rfl, Ext.refl _⟩
              refine hK _ _ ?_
              clear hK K
              refine wpX_step (fun K hK => ?_)
              go_simp
              refine StepY.det (by rw [HSP.out]; rfl) ?_ ?_
              · intro wz hz hF
                clear hz hF
                go_simp
                exact ⟨rfl, Ext.refl _⟩
              refine hK _ _ ?_
              clear hK K
              refine wpX_step (fun K hK => ?_)
              go_simp
              refine StepY.det (by rw [HSP.out]; rfl) ?_ ?_
              · intro wz hz hF
                clear hz hF
                go_simp
                exact ⟨rfl, Ext.refl _⟩
              refine hK _ _ ?_
              clear hK K
              refine wpX_step (fun K hK => ?_)
              go_simp
              refine StepY.det (by rw [HSP.out]; rfl) ?_ ?_
              · intro wz hz hF
                rw [HS.out] at hz
                have hf := hz.cells
                simp only [BC, CC, Nat.zero_add, Nat.reduceAdd, and_true] at hf
                clear hz hF
                go_simp
                exact ⟨rfl, Ext.refl _⟩
              refine hK _ _ ?_
              clear hK K
              refine wpX_step (fun K hK => ?_)
              go_simp
              refine StepY.det (by rw [HSP.out]; rfl) ?_ ?_
              · intro wz hz hF
                clear hz hF
                go_simp
                refine (HI1.out _).mono ?_
                rintro e w5 ⟨rfl, rfl⟩
                exact ⟨_, rfl, rfl, Ext.refl _⟩
              refine hK _ _ ?_
              clear hK K
              refine wpX_step (fun K hK => ?_)
              go_simp
              refine StepY.det (by rw [HSP.out]; rfl) ?_ ?_
              · intro wz hz hF
                clear hz hF
                go_simp
                exact ⟨rfl, Ext.refl _⟩
              refine hK _ _ ?_
              clear hK K
              refine wpX_step (fun K hK => ?_)
              go_simp
              refine StepY.det (by rw [HSP.out]; rfl) ?_ ?_
              · intro wz hz hF
                clear hz hF
                go_simp
                exact ⟨rfl, Ext.refl _⟩
              refine hK _ _ ?_
              clear hK K
              refine wpX_step (fun K hK => ?_)
              go_simp
              refine StepY.det (by rw [HSP.out]; rfl) ?_ ?_
              · intro wz hz hF
                rw [HS.out] at hz
                have hf := hz.cells
                simp only [BC, CC, Nat.zero_add, Nat.reduceAdd, and_true] at hf
                clear hz hF
                go_simp
                exact ⟨rfl, Ext.refl _⟩
              refine hK _ _ ?_
              clear hK K
              refine wpX_step (fun K hK => ?_)
              go_simp
              refine StepY.det (by rw [HSP.out]; rfl) ?_ ?_
              · intro wz hz hF
                clear hz hF
                go_simp
                refine (HI2.out _).mono ?_
                rintro e w5 ⟨rfl, rfl⟩
                exact ⟨_, rfl, rfl, Ext.refl _⟩
              refine hK _ _ ?_
              clear hK K
              refine wpX_step (fun K hK => ?_)
              go_simp
              refine StepY.det (by rw [HSP.out]; rfl) ?_ ?_
              · intro wz hz hF
                clear hz hF
                go_simp
                exact ⟨rfl, Ext.refl _⟩
              refine hK _ _ ?_
              clear hK K
              refine wpX_step (fun K hK => ?_)
              go_simp
              refine StepY.det (by rw [HSP.out]; rfl) ?_ ?_
              · intro wz hz hF
                clear hz hF
                go_simp
                exact ⟨rfl, Ext.refl _⟩
              refine hK _ _ ?_
              clear hK K
              refine wpX_nil ?_
              intro wq hz hF
              clear hF
              rw [HS.out] at hz
              have hO := hz
              clear hz HS HSP
              have hf := hO.cells
              simp only [BC, CC, Nat.zero_add, Nat.reduceAdd, and_true] at hf
              go_wp2
              go_meet
              exact ⟨rfl, hO⟩
            · have HI2 := HW.i2 (by intro h; subst h; simp at hk0)
              obtain ⟨S, hS⟩ : ∃ S : World → Prop, S = Own w [⟨g6, 36, [.int .u64 (p : Int), .int .u64 (q : Int)]⟩, ⟨g5, 36, [.int .u64 (y1 : Int), .int .u64 (y2 : Int)]⟩, ⟨g4, 24, [.int .u64 (y1 : Int), .int .u64 (y2 : Int)]⟩, ⟨gx, 24, [.int .u64 (p : Int), .int .u64 (q : Int)]⟩] [] := ⟨_, rfl⟩
              have hSE : ∀ w w', S w → Ext w w' → S w' := fun w w' h1 h2 => by rw [hS] at h1 ⊢; exact h1.ext h2
              have hS1 : S wr.drew := by rw [hS]; exact hO.ext (Ext.refl wr).drew
              have HS := Lib.hid hS
              clear hS hO hf
              obtain ⟨sp, hsp⟩ : ∃ sp : Nat → Sp, sp = ofList [det (.int .i64 1), det (.pointer (some ⟨g5, 1, none⟩)), det (.int .u64 (y2 : Int)), det (.bool false), det (.bool false), det (.int .i64 1), det (.pointer (some ⟨g5, 1, none⟩)), det (.int .u64 (y2 : Int)), det (.bool false), det (.bool false), det (.bool false), det (.int .i64 (k : Int)), det (.bool true), det (.bool true), det (.int .i64 1), det (.pointer (some ⟨g5, 1, none⟩)), det (.int .u64 (y2 : Int)), det (.bool ie), det (.int .i64 1), det (.pointer (some ⟨g6, 1, none⟩)), det (.int .u64 (q : Int)), det (.bool ie), det (.bool false), det (.bool false)] := ⟨_, rfl⟩
              have HSP := Lib.hid hsp
              clear hsp
              refine wp_region_loose 24 S sp (by kernel_rfl) (by kernel_rfl) hS1 hSE ?_
              simp only [List.take_succ_cons, List.take_zero, List.drop_succ_cons, List.drop_zero]
              refine wpX_step (fun K hK => ?_)
              go_simp
              refine StepY.det (by rw [HSP.out]; rfl) ?_ ?_
              · intro wz hz hF
                clear hz hF
                go_simp
                exact ⟨rfl, Ext.refl _⟩
              refine hK _ _ ?_
              clear hK K
              refine wpX_step (fun K hK => ?_)
              go_simp
              refine StepY.det (by rw [HSP.out]; rfl) ?_ ?_
              · intro wz hz hF
                clear hz hF
                go_simp
                exact ⟨rfl, Ext.refl _⟩
              refine hK _ _ ?_
              clear hK K
              refine wpX_step (fun K hK => ?_)
              go_simp
              refine StepY.det (by rw [HSP.out]; rfl) ?_ ?_
              · intro wz hz hF
                rw [HS.out] at hz
                have hf := hz.cells
                simp only [BC, CC, Nat.zero_add, Nat.reduceAdd, and_true] at hf
                clear hz hF
                go_simp
                exact ⟨rfl, Ext.refl _⟩
              refine hK _ _ ?_
              clear hK K
              refine wpX_step (fun K hK => ?_)
              go_simp
              refine StepY.det (by rw [HSP.out]; rfl) ?_ ?_
              · intro wz hz hF
                clear hz hF
                go_simp
                exact ⟨rfl, Ext.refl _⟩
              refine hK _ _ ?_
              clear hK K
              refine wpX_step (fun K hK => ?_)
              go_simp
              refine StepY.det (by rw [HSP.out]; rfl) ?_ ?_
              · intro wz hz hF
                clear hz hF
                go_simp
                exact ⟨rfl, Ext.refl _⟩
              refine hK _ _ ?_
              clear hK K
              refine wpX_step (fun K hK => ?_)
              go_simp
              refine StepY.det (by rw [HSP.out]; rfl) ?_ ?_
              · intro wz hz hF
                clear hz hF
                go_simp
                exact ⟨rfl, Ext.refl _⟩
              refine hK _ _ ?_
              clear hK K
              refine wpX_step (fun K hK => ?_)
              go_simp
              refine StepY.det (by rw [HSP.out]; rfl) ?_ ?_
              · intro wz hz hF
                clear hz hF
                go_simp
                exact ⟨rfl, Ext.refl _⟩
              refine hK _ _ ?_
              clear hK K
              refine wpX_step (fun K hK => ?_)
              go_simp
              refine StepY.det (by rw [HSP.out]; rfl) ?_ ?_
              · intro wz hz hF
                rw [HS.out] at hz
                have hf := hz.cells
                simp only [BC, CC, Nat.zero_add, Nat.reduceAdd, and_true] at hf
                clear hz hF
                go_simp
                exact ⟨rfl, Ext.refl _⟩
              refine hK _ _ ?_
              clear hK K
              refine wpX_step (fun K hK => ?_)
              go_simp
              refine StepY.det (by rw [HSP.out]; rfl) ?_ ?_
              · intro wz hz hF
                clear hz hF
                go_simp
                refine (HNN.out _).mono ?_
                rintro e w5 ⟨rfl, rfl⟩
                exact ⟨_, rfl, rfl, Ext.refl _⟩
              refine hK _ _ ?_
              clear hK K
              refine wpX_step (fun K hK => ?_)
              go_simp
              refine StepY.det (by rw [HSP.out]; rfl) ?_ ?_
              · intro wz hz hF
                clear hz hF
                go_simp
                exact ⟨rfl, Ext.refl _⟩
              refine hK _ _ ?_
              clear hK K
              refine wpX_step (fun K hK => ?_)
              go_simp
              refine StepY.det (by rw [HSP.out]; rfl) ?_ ?_
              · intro wz hz hF
                clear hz hF
                go_simp
                exact ⟨rfl, Ext.refl _⟩
              refine hK _ _ ?_
              clear hK K
              refine wpX_step (fun K hK => ?_)
              go_simp
              refine StepY.det (by rw [HSP.out]; rfl) ?_ ?_
              · intro wz hz hF
                clear hz hF
                go_simp
                exact ⟨rfl, Ext.refl _⟩
              refine hK _ _ ?_
              clear hK K
              refine wpX_step (fun K hK => ?_)
              go_simp
              refine StepY.det (by rw [HSP.out]; rfl) ?_ ?_
              · intro wz hz hF
                clear hz hF
                go_simp
                exact ⟨rfl, Ext.refl _⟩
              refine hK _ _ ?_
              clear hK K
              refine wpX_step (fun K hK => ?_)
              go_simp
              refine StepY.det (by rw [HSP.out]; rfl) ?_ ?_
              · intro wz hz hF
                clear hz hF
                go_simp
                exact ⟨rfl, Ext.refl _⟩
              refine hK _ _ ?_
              clear hK K
              refine wpX_step (fun K hK => ?_)
              go_simp
              refine StepY.det (by rw [HSP.out]; rfl) ?_ ?_
              · intro wz hz hF
                clear hz hF
                go_simp
                exact ⟨rfl, Ext.refl _⟩
              refine hK _ _ ?_
              clear hK K
              refine wpX_step (fun K hK => ?_)
              go_simp
              refine StepY.det (by rw [HSP.out]; rfl) ?_ ?_
              · intro wz hz hF
                clear hz hF
                go_simp
                exact ⟨rfl, Ext.refl _⟩
              refine hK _ _ ?_
              clear hK K
              refine wpX_step (fun K hK => ?_)
              go_simp
              refine StepY.det (by rw [HSP.out]; rfl) ?_ ?_
              · intro wz hz hF
                rw [HS.out] at hz
                have hf := hz.cells
                simp only [BC, CC, Nat.zero_add, Nat.reduceAdd, and_true] at hf
                clear hz hF
                go_simp
                exact ⟨rfl, Ext.refl _⟩
              refine hK _ _ ?_
              clear hK K
              refine wpX_step (fun K hK => ?_)
              go_simp
              refine StepY.det (by rw [HSP.out]; rfl) ?_ ?_
              · intro wz hz hF
                clear hz hF
                go_simp
                refine (HI1.out _).mono ?_
                rintro e w5 ⟨rfl, rfl⟩
                exact ⟨_, rfl, rfl, Ext.refl _⟩
              refine hK _ _ ?_
              clear hK K
              refine wpX_step (fun K hK => ?_)
              go_simp
              refine StepY.det (by rw [HSP.out]; rfl) ?_ ?_
              · intro wz hz hF
                clear hz hF
                go_simp
                exact ⟨rfl, Ext.refl _⟩
              refine hK _ _ ?_
              clear hK K
              refine wpX_step (fun K hK => ?_)
              go_simp
              refine StepY.det (by rw [HSP.out]; rfl) ?_ ?_
              · intro wz hz hF
                clear hz hF
                go_simp
                exact ⟨rfl, Ext.refl _⟩
              refine hK _ _ ?_
              clear hK K
              refine wpX_step (fun K hK => ?_)
              go_simp
              refine StepY.det (by rw [HSP.out]; rfl) ?_ ?_
              · intro wz hz hF
                rw [HS.out] at hz
                have hf := hz.cells
                simp only [BC, CC, Nat.zero_add, Nat.reduceAdd, and_true] at hf
                clear hz hF
                go_simp
                exact ⟨rfl, Ext.refl _⟩
              refine hK _ _ ?_
              clear hK K
              refine wpX_step (fun K hK => ?_)
              go_simp
              refine StepY.det (by rw [HSP.out]; rfl) ?_ ?_
              · intro wz hz hF
                clear hz hF
                go_simp
                refine (HI2.out _).mono ?_
                rintro e w5 ⟨rfl, rfl⟩
                exact ⟨_, rfl, rfl, Ext.refl _⟩
              refine hK _ _ ?_
              clear hK K
              refine wpX_step (fun K hK => ?_)
              go_simp
              refine StepY.det (by rw [HSP.out]; rfl) ?_ ?_
              · intro wz hz hF
                clear hz hF
                go_simp
                exact ⟨rfl, Ext.refl _⟩
              refine hK _ _ ?_
              clear hK K
              refine wpX_step (fun K hK => ?_)
              go_simp
              refine StepY.det (by rw [HSP.out]; rfl) ?_ ?_
              · intro wz hz hF
                clear hz hF
                go_simp
                exact ⟨rfl, Ext.refl _⟩
              refine hK _ _ ?_
              clear hK K
              refine wpX_nil ?_
              intro wq hz hF
              clear hF
              rw [HS.out] at hz
              have hO := hz
              clear hz HS HSP
              have hf := hO.cells
              simp only [BC, CC, Nat.zero_add, Nat.reduceAdd, and_true] at hf
              go_wp2
              go_meet
              exact ⟨rfl, hO⟩
          case rest =>
          obtain ⟨rfl, hO⟩ := hcut
          clear hf hne HNN HI1
          have hf := hO.cells
          simp only [BC, CC, Nat.zero_add, Nat.reduceAdd, and_true] at hf
          cases fe
          · go_wp2_with (first | (go_at_call 14; (with_reducible refine (HF1.out _).mono ?_); rintro e w' ⟨rfl, rfl⟩) | (go_at_call 14; (with_reducible refine (HF2.out _).mono ?_); rintro e w' ⟨rfl, rfl⟩))
            have hS := hO.bare
            clear hO hf
            rw [← HS2.out] at hS
            go_roundw
            case rel =>
              first
              | exact ⟨2, by first | rfl | go_num, by omega, hS⟩
              | ((repeat apply Exists.intro)
                 exact ⟨⟨2, by first | rfl | go_num, by omega, hS⟩, rfl⟩)
            case measure => simp [intOf]
          cases ff
          · go_wp2_with (first | (go_at_call 14; (with_reducible refine (HF1.out _).mono ?_); rintro e w' ⟨rfl, rfl⟩) | (go_at_call 14; (with_reducible refine (HF2.out _).mono ?_); rintro e w' ⟨rfl, rfl⟩))
            have hS := hO.bare
            clear hO hf
            rw [← HS2.out] at hS
            go_roundw
            case rel =>
              first
              | exact ⟨2, by first | rfl | go_num, by omega, hS⟩
              | ((repeat apply Exists.intro)
                 exact ⟨⟨2, by first | rfl | go_num, by omega, hS⟩, rfl⟩)
            case measure => simp [intOf]
          have HLN := HW.ln rfl
          go_wp2_with (first | (go_at_call 14; (with_reducible refine (HF1.out _).mono ?_); rintro e w' ⟨rfl, rfl⟩) | (go_at_call 14; (with_reducible refine (HF2.out _).mono ?_); rintro e w' ⟨rfl, rfl⟩))
          refine (HW.b1.out _).mono ?_
          rintro e w9 ⟨A1, l1, c1, B1, k1, d1, rfl, hW1, hW2, hE1⟩
          have hO := ((hO.ext hE1).add hW1).add hW2
          clear hW1 hW2 hE1
          clear hf
          have hf := hO.cells
          simp only [BC, CC, Nat.zero_add, Nat.reduceAdd, and_true] at hf
          go_wp2_with (first | ((with_reducible refine at_alloc ?_); refine own_alloc hO zero_rat rfl rfl ?_; clear hO; intro g8 wc hO; clear hf; have hf := hO.cells; simp only [BC, CC, Nat.zero_add, Nat.reduceAdd, and_true] at hf) | ((with_reducible refine at_store (T := 40) ?_); refine own_store (T := 40) hO 0 rfl rfl rfl size_rat rfl rfl rfl ?_; clear hO; intro wd hO; simp only [List.set_cons_zero, List.set_cons_succ, spl, List.take_succ_cons, List.take_zero, List.nil_append, List.cons_append, List.length_cons, List.length_nil, List.drop_succ_cons, List.drop_zero, List.drop_nil, Nat.reduceAdd, Nat.zero_add, List.append_nil] at hO; clear hf; have hf := hO.cells; simp only [BC, CC, Nat.zero_add, Nat.reduceAdd, and_true] at hf))
          refine (HW.b2.out _).mono ?_
          rintro e w9 ⟨A2, l2, c2, B2, k2, d2, rfl, hW1, hW2, hE1⟩
          have hO := ((hO.ext hE1).add hW1).add hW2
          clear hW1 hW2 hE1
          clear hf
          have hf := hO.cells
          simp only [BC, CC, Nat.zero_add, Nat.reduceAdd, and_true] at hf
          go_wp2_with (first | ((with_reducible refine at_alloc ?_); refine own_alloc hO zero_rat rfl rfl ?_; clear hO; intro g9 we hO; clear hf; have hf := hO.cells; simp only [BC, CC, Nat.zero_add, Nat.reduceAdd, and_true] at hf) | ((with_reducible refine at_store (T := 40) ?_); refine own_store (T := 40) hO 0 rfl rfl rfl size_rat rfl rfl rfl ?_; clear hO; intro wj hO; simp only [List.set_cons_zero, List.set_cons_succ, spl, List.take_succ_cons, List.take_zero, List.nil_append, List.cons_append, List.length_cons, List.length_nil, List.drop_succ_cons, List.drop_zero, List.drop_nil, Nat.reduceAdd, Nat.zero_add, List.append_nil] at hO; clear hf; have hf := hO.cells; simp only [BC, CC, Nat.zero_add, Nat.reduceAdd, and_true] at hf))
          refine (HLN.out _ _ _ _ (hO.wd 2 rfl)).mono ?_
          rintro e w' ⟨rfl, rfl⟩
          go_upto_region 21 with fail
          rcases hkc with ⟨hk0, hk1⟩ | ⟨hk0, hk1⟩ | ⟨hk0, hk1⟩
          · obtain ⟨S, hS⟩ : ∃ S : World → Prop, S = Own w [⟨g9, 40, [.bool sf, .slice A2 l2 c2, .slice B2 k2 d2]⟩, ⟨g8, 40, [.bool se, .slice A1 l1 c1, .slice B1 k1 d1]⟩, ⟨g6, 36, [.int .u64 (p : Int), .int .u64 (q : Int)]⟩, ⟨g5, 36, [.int .u64 (y1 : Int), .int .u64 (y2 : Int)]⟩, ⟨g4, 24, [.int .u64 (y1 : Int), .int .u64 (y2 : Int)]⟩, ⟨gx, 24, [.int .u64 (p : Int), .int .u64 (q : Int)]⟩] [⟨B2, k2, d2, nd Df⟩, ⟨A2, l2, c2, nd Nf⟩, ⟨B1, k1, d1, nd De⟩, ⟨A1, l1, c1, nd Ne⟩] := ⟨_, rfl⟩
            have hSE : ∀ w w', S w → Ext w w' → S w' := fun w w' h1 h2 => by rw [hS] at h1 ⊢; exact h1.ext h2
            have hS1 : S wj.drew := by rw [hS]; exact hO.ext (Ext.refl wj).drew
            have HS := Lib.hid hS
            clear hS hO hf
            obtain ⟨sp, hsp⟩ : ∃ sp : Nat → Sp, sp = ofList [det (.int .i64 (k : Int)), det (.bool false), det (.bool false), det undef, det undef, det undef, det undef, det undef, det undef, det undef, det undef, det undef, det undef, det undef, det undef] := ⟨_, rfl⟩
            have HSP := Lib.hid hsp
            clear hsp
            refine wp_region_loose 15 S sp (by kernel_rfl) (by kernel_rfl) hS1 hSE ?_
            simp only [List.take_succ_cons, List.take_zero, List.drop_succ_cons, List.drop_zero]
            refine wpX_step (fun K hK => ?_)
            go_simp
            refine StepY.det (by rw [HSP.out]; rfl) ?_ ?_
            · intro wz hz hF
              clear hz hF
              go_simp
              exact ⟨rfl, Ext.refl _⟩
            refine hK _ _ ?_
            clear hK K
            refine wpX_step (fun K hK => ?_)
            go_simp
            refine StepY.det (by rw [HSP.out]; rfl) ?_ ?_
            · intro wz hz hF
              clear hz hF
              go_simp
              exact ⟨rfl, Ext.refl _⟩
            refine hK _ _ ?_
            clear hK K
            refine wpX_step (fun K hK => ?_)
            go_simp
            refine StepY.det (by rw [HSP.out]; rfl) ?_ ?_
            · intro wz hz hF
              clear hz hF
              go_simp
              exact ⟨rfl, Ext.refl _⟩
            refine hK _ _ ?_
            clear hK K
            refine wpX_step (fun K hK => ?_)
            go_simp
            refine ⟨by rw [HSP.out]; rfl, hK _ _ ?_⟩
            clear hK K
            refine wpX_step (fun K hK => ?_)
            go_simp
            refine ⟨by rw [HSP.out]; rfl, hK _ _ ?_⟩
            clear hK K
            refine wpX_step (fun K hK => ?_)
            go_simp
            refine ⟨by rw [HSP.out]; rfl, hK _ _ ?_⟩
            clear hK K
            refine wpX_step (fun K hK => ?_)
            go_simp
            refine ⟨by rw [HSP.out]; rfl, hK _ _ ?_⟩
            clear hK K
            refine wpX_step (fun K hK => ?_)
            go_simp
            refine ⟨by rw [HSP.out]; rfl, hK _ _ ?_⟩
            clear hK K
            refine wpX_step (fun K hK => ?_)
            go_simp
            refine ⟨by rw [HSP.out]; rfl, hK _ _ ?_⟩
            clear hK K
            refine wpX_step (fun K hK => ?_)
            go_simp
            refine ⟨by rw [HSP.out]; rfl, hK _ _ ?_⟩
            clear hK K
            refine wpX_step (fun K hK => ?_)
            go_simp
            refine ⟨by rw [HSP.out]; rfl, hK _ _ ?_⟩
            clear hK K
            refine wpX_step (fun K hK => ?_)
            go_simp
            refine ⟨by rw [HSP.out]; rfl, hK _ _ ?_⟩
            clear hK K
            refine wpX_step (fun K hK => ?_)
            go_simp
            refine ⟨by rw [HSP.out]; rfl, hK _ _ ?_⟩
            clear hK K
            refine wpX_step (fun K hK => ?_)
            go_simp
            refine ⟨by rw [HSP.out]; rfl, hK _ _ ?_⟩
            clear hK K
            refine wpX_step (fun K hK => ?_)
            go_simp
            refine ⟨by rw [HSP.out]; rfl, hK _ _ ?_⟩
            clear hK K
            refine wpX_nil ?_
            intro wq hz hF
            clear hF
            rw [HS.out] at hz
            have hO := hz
            clear hz HS HSP
            have hf := hO.cells
            simp only [BC, CC, Nat.zero_add, Nat.reduceAdd, and_true] at hf
            have hS := hO.tl.tl.bare
            clear hO hf
            rw [← HS2.out] at hS
            go_wp2
            go_roundw
            case rel =>
              first
              | exact ⟨2, by first | rfl | go_num, by omega, hS⟩
              | ((repeat apply Exists.intro)
                 exact ⟨⟨2, by first | rfl | go_num, by omega, hS⟩, rfl⟩)
            case measure => simp [intOf]
          · obtain ⟨r1, r2, sb, Nb, Db, HR1, HSB, HR2, hr1, hr2⟩ := HW.fl rfl (by have := of_decide_eq_true (show decide ((k : Int) = 1) = true from hk1); omega)
            obtain ⟨S, hS⟩ : ∃ S : World → Prop, S = Own w [⟨g9, 40, [.bool sf, .slice A2 l2 c2, .slice B2 k2 d2]⟩, ⟨g8, 40, [.bool se, .slice A1 l1 c1, .slice B1 k1 d1]⟩, ⟨g6, 36, [.int .u64 (p : Int), .int .u64 (q : Int)]⟩, ⟨g5, 36, [.int .u64 (y1 : Int), .int .u64 (y2 : Int)]⟩, ⟨g4, 24, [.int .u64 (y1 : Int), .int .u64 (y2 : Int)]⟩, ⟨gx, 24, [.int .u64 (p : Int), .int .u64 (q : Int)]⟩] [⟨B2, k2, d2, nd Df⟩, ⟨A2, l2, c2, nd Nf⟩, ⟨B1, k1, d1, nd De⟩, ⟨A1, l1, c1, nd Ne⟩] := ⟨_, rfl⟩
            have hSE : ∀ w w', S w → Ext w w' → S w' := fun w w' h1 h2 => by rw [hS] at h1 ⊢; exact h1.ext h2
            have hS1 : S wj.drew := by rw [hS]; exact hO.ext (Ext.refl wj).drew
            have HS := Lib.hid hS
            clear hS hO hf
            obtain ⟨sp, hsp⟩ : ∃ sp : Nat → Sp, sp = ofList [det (.int .i64 (k : Int)), det (.bool true), det (.bool true), det (.agg #[.bool se, .slice A1 l1 c1, .slice B1 k1 d1]), det (.agg #[.bool sf, .slice A2 l2 c2, .slice B2 k2 d2]), det (.int .i64 r1), det (.bool false), det (.bool false), det (.agg #[.bool sf, .slice A2 l2 c2, .slice B2 k2 d2]), anyOf (fun v wz => ∃ A l c B m d, v = .agg #[.bool false, .slice A l c, .slice B m d] ∧ RatAt wz A l c B m d 1 1), anyOf (fun v wz => ∃ A l c B m d, v = .agg #[.bool sb, .slice A l c, .slice B m d] ∧ RatAt wz A l c B m d Nb Db), det (.agg #[.bool se, .slice A1 l1 c1, .slice B1 k1 d1]), det (.int .i64 r2), det (.bool false), det (.bool false)] := ⟨_, rfl⟩
            have HSP := Lib.hid hsp
            clear hsp
            refine wp_region_loose 15 S sp (by kernel_rfl) (by kernel_rfl) hS1 hSE ?_
            simp only [List.take_succ_cons, List.take_zero, List.drop_succ_cons, List.drop_zero]
            refine wpX_step (fun K hK => ?_)
            go_simp
            refine StepY.det (by rw [HSP.out]; rfl) ?_ ?_
            · intro wz hz hF
              clear hz hF
              go_simp
              exact ⟨rfl, Ext.refl _⟩
            refine hK _ _ ?_
            clear hK K
            refine wpX_step (fun K hK => ?_)
            go_simp
            refine StepY.det (by rw [HSP.out]; rfl) ?_ ?_
            · intro wz hz hF
              clear hz hF
              go_simp
              exact ⟨rfl, Ext.refl _⟩
            refine hK _ _ ?_
            clear hK K
            refine wpX_step (fun K hK => ?_)
            go_simp
            refine StepY.det (by rw [HSP.out]; rfl) ?_ ?_
            · intro wz hz hF
              clear hz hF
              go_simp
              exact ⟨rfl, Ext.refl _⟩
            refine hK _ _ ?_
            clear hK K
            refine wpX_step (fun K hK => ?_)
            go_simp
            refine StepY.det (by rw [HSP.out]; rfl) ?_ ?_
            · intro wz hz hF
              rw [HS.out] at hz
              have hf := hz.cells
              simp only [BC, CC, Nat.zero_add, Nat.reduceAdd, and_true] at hf
              clear hz hF
              go_simp
              exact ⟨rfl, Ext.refl _⟩
            refine hK _ _ ?_
            clear hK K
            refine wpX_step (fun K hK => ?_)
            go_simp
            refine StepY.det (by rw [HSP.out]; rfl) ?_ ?_
            · intro wz hz hF
              rw [HS.out] at hz
              have hf := hz.cells
              simp only [BC, CC, Nat.zero_add, Nat.reduceAdd, and_true] at hf
              clear hz hF
              go_simp
              exact ⟨rfl, Ext.refl _⟩
            refine hK _ _ ?_
            clear hK K
            refine wpX_step (fun K hK => ?_)
            go_simp
            refine StepY.det (by rw [HSP.out]; rfl) ?_ ?_
            · intro wz hz hF
              rw [HS.out] at hz
              have hA : RatAt wz _ _ _ _ _ _ _ _ := ⟨hz.wd 3 rfl, hz.wd 2 rfl⟩
              have hB : RatAt wz _ _ _ _ _ _ _ _ := ⟨hz.wd 1 rfl, hz.wd 0 rfl⟩
              clear hz hF
              go_simp
              refine (HR1.out _ _ _ _ _ _ _ _ _ _ _ _ _ hA hB).mono ?_
              rintro e w2 ⟨rfl, hE1⟩
              exact ⟨_, rfl, rfl, hE1⟩
            refine hK _ _ ?_
            clear hK K
            refine wpX_step (fun K hK => ?_)
            go_simp
            refine StepY.det (by rw [HSP.out]; rfl) ?_ ?_
            · intro wz hz hF
              clear hz hF
              go_simp
              exact ⟨rfl, Ext.refl _⟩
            refine hK _ _ ?_
            clear hK K
            refine wpX_step (fun K hK => ?_)
            go_simp
            refine StepY.det (by rw [HSP.out]; rfl) ?_ ?_
            · intro wz hz hF
              clear hz hF
              go_simp
              exact ⟨rfl, Ext.refl _⟩
            refine hK _ _ ?_
            clear hK K
            refine wpX_step (fun K hK => ?_)
            go_simp
            refine StepY.det (by rw [HSP.out]; rfl) ?_ ?_
            · intro wz hz hF
              rw [HS.out] at hz
              have hf := hz.cells
              simp only [BC, CC, Nat.zero_add, Nat.reduceAdd, and_true] at hf
              clear hz hF
              go_simp
              exact ⟨rfl, Ext.refl _⟩
            refine hK _ _ ?_
            clear hK K
            refine wpX_step (fun K hK => ?_)
            go_simp
            refine StepY.any (by rw [HSP.out]; rfl) ?_ ?_
            · intro wz hz hF
              clear hz hF
              go_simp
              refine (HI.out _).mono ?_
              rintro e w2 ⟨A3, n3, c3, A4, n4, c4, rfl, hW1, hW2, hE1⟩
              exact ⟨_, rfl, ⟨A3, n3, c3, A4, n4, c4, rfl, hW1, hW2⟩, hE1⟩
            intro v1
            refine hK _ _ ?_
            clear hK K
            refine wpX_step (fun K hK => ?_)
            go_simp
            refine StepY.any (by rw [HSP.out]; rfl) ?_ ?_
            · intro wz hz hF
              obtain ⟨wa', ea, A5, n5, c5, A6, n6, c6, hv1, hw1⟩ := hF.any 9 (by kernel_rfl) (by rw [HSP.out]; rfl)
              rw [HS.out] at hz
              have hB : RatAt wz _ _ _ _ _ _ _ _ := ⟨hz.wd 1 rfl, hz.wd 0 rfl⟩
              clear hz hF
              simp only [asFun, List.nil_append, List.cons_append, List.getD_cons_succ, List.getD_cons_zero] at hv1
              subst hv1
              go_simp
              refine (HSB.out _ _ _ _ _ _ _ _ _ _ _ _ _ hB (hw1.ext ea)).mono ?_
              rintro e w2 ⟨A3, n3, c3, A4, n4, c4, rfl, hW1, hW2, hE1⟩
              exact ⟨_, rfl, ⟨A3, n3, c3, A4, n4, c4, rfl, hW1, hW2⟩, hE1⟩
            intro v2
            refine hK _ _ ?_
            clear hK K
            refine wpX_step (fun K hK => ?_)
            go_simp
            refine StepY.det (by rw [HSP.out]; rfl) ?_ ?_
            · intro wz hz hF
              rw [HS.out] at hz
              have hf := hz.cells
              simp only [BC, CC, Nat.zero_add, Nat.reduceAdd, and_true] at hf
              clear hz hF
              go_simp
              exact ⟨rfl, Ext.refl _⟩
            refine hK _ _ ?_
            clear hK K
            refine wpX_step (fun K hK => ?_)
            go_simp
            refine StepY.det (by rw [HSP.out]; rfl) ?_ ?_
            · intro wz hz hF
              obtain ⟨wa', ea, A5, n5, c5, A6, n6, c6, hv1, hw1⟩ := hF.any 10 (by kernel_rfl) (by rw [HSP.out]; rfl)
              rw [HS.out] at hz
              have hA : RatAt wz _ _ _ _ _ _ _ _ := ⟨hz.wd 3 rfl, hz.wd 2 rfl⟩
              clear hz hF
              simp only [asFun, List.nil_append, List.cons_append, List.getD_cons_succ, List.getD_cons_zero] at hv1
              subst hv1
              go_simp
              refine (HR2.out _ _ _ _ _ _ _ _ _ _ _ _ _ (hw1.ext ea) hA).mono ?_
              rintro e w2 ⟨rfl, hE1⟩
              exact ⟨_, rfl, rfl, hE1⟩
            refine hK _ _ ?_
            clear hK K
            refine wpX_step (fun K hK => ?_)
            go_simp
            refine StepY.det (by rw [HSP.out]; rfl) ?_ ?_
            · intro wz hz hF
              clear hz hF
              go_simp
              exact ⟨rfl, Ext.refl _⟩
            refine hK _ _ ?_
            clear hK K
            refine wpX_step (fun K hK => ?_)
            go_simp
            refine StepY.det (by rw [HSP.out]; rfl) ?_ ?_
            · intro wz hz hF
              clear hz hF
              go_simp
              exact ⟨rfl, Ext.refl _⟩
            refine hK _ _ ?_
            clear hK K
            refine wpX_nil ?_
            intro wq hz hF
            clear hF
            rw [HS.out] at hz
            have hO := hz
            clear hz HS HSP
            have hf := hO.cells
            simp only [BC, CC, Nat.zero_add, Nat.reduceAdd, and_true] at hf
            have hS := hO.tl.tl.bare
            clear hO hf
            rw [← HS2.out] at hS
            go_wp2
            go_roundw
            case rel =>
              first
              | exact ⟨2, by first | rfl | go_num, by omega, hS⟩
              | ((repeat apply Exists.intro)
                 exact ⟨⟨2, by first | rfl | go_num, by omega, hS⟩, rfl⟩)
            case measure => simp [intOf]
          · obtain ⟨S, hS⟩ : ∃ S : World → Prop, S = Own w [⟨g9, 40, [.bool sf, .slice A2 l2 c2, .slice B2 k2 d2]⟩, ⟨g8, 40, [.bool se, .slice A1 l1 c1, .slice B1 k1 d1]⟩, ⟨g6, 36, [.int .u64 (p : Int), .int .u64 (q : Int)]⟩, ⟨g5, 36, [.int .u64 (y1 : Int), .int .u64 (y2 : Int)]⟩, ⟨g4, 24, [.int .u64 (y1 : Int), .int .u64 (y2 : Int)]⟩, ⟨gx, 24, [.int .u64 (p : Int), .int .u64 (q : Int)]⟩] [⟨B2, k2, d2, nd Df⟩, ⟨A2, l2, c2, nd Nf⟩, ⟨B1, k1, d1, nd De⟩, ⟨A1, l1, c1, nd Ne⟩] := ⟨_, rfl⟩
            have hSE : ∀ w w', S w → Ext w w' → S w' := fun w w' h1 h2 => by rw [hS] at h1 ⊢; exact h1.ext h2
            have hS1 : S wj.drew := by rw [hS]; exact hO.ext (Ext.refl wj).drew
            have HS := Lib.hid hS
            clear hS hO hf
            obtain ⟨sp, hsp⟩ : ∃ sp : Nat → Sp, sp = ofList [det (.int .i64 (k : Int)), det (.bool false), det (.bool false), det undef, det undef, det undef, det undef, det undef, det undef, det undef, det undef, det undef, det undef, det undef, det undef] := ⟨_, rfl⟩
            have HSP := Lib.hid hsp
            clear hsp
            refine wp_region_loose 15 S sp (by kernel_rfl) (by kernel_rfl) hS1 hSE ?_
            simp only [List.take_succ_cons, List.take_zero, List.drop_succ_cons, List.drop_zero]
            refine wpX_step (fun K hK => ?_)
            go_simp
            refine StepY.det (by rw [HSP.out]; rfl) ?_ ?_
            · intro wz hz hF
              clear hz hF
              go_simp
              exact ⟨rfl, Ext.refl _⟩
            refine hK _ _ ?_
            clear hK K
            refine wpX_step (fun K hK => ?_)
            go_simp
            refine StepY.det (by rw [HSP.out]; rfl) ?_ ?_
            · intro wz hz hF
              clear hz hF
              go_simp
              exact ⟨rfl, Ext.refl _⟩
            refine hK _ _ ?_
            clear hK K
            refine wpX_step (fun K hK => ?_)
            go_simp
            refine StepY.det (by rw [HSP.out]; rfl) ?_ ?_
            · intro wz hz hF
              clear hz hF
              go_simp
              exact ⟨rfl, Ext.refl _⟩
            refine hK _ _ ?_
            clear hK K
            refine wpX_step (fun K hK => ?_)
            go_simp
            refine ⟨by rw [HSP.out]; rfl, hK _ _ ?_⟩
            clear hK K
            refine wpX_step (fun K hK => ?_)
            go_simp
            refine ⟨by rw [HSP.out]; rfl, hK _ _ ?_⟩
            clear hK K
            refine wpX_step (fun K hK => ?_)
            go_simp
            refine ⟨by rw [HSP.out]; rfl, hK _ _ ?_⟩
            clear hK K
            refine wpX_step (fun K hK => ?_)
            go_simp
            refine ⟨by rw [HSP.out]; rfl, hK _ _ ?_⟩
            clear hK K
            refine wpX_step (fun K hK => ?_)
            go_simp
            refine ⟨by rw [HSP.out]; rfl, hK _ _ ?_⟩
            clear hK K
            refine wpX_step (fun K hK => ?_)
            go_simp
            refine ⟨by rw [HSP.out]; rfl, hK _ _ ?_⟩
            clear hK K
            refine wpX_step (fun K hK => ?_)
            go_simp
            refine ⟨by rw [HSP.out]; rfl, hK _ _ ?_⟩
            clear hK K
            refine wpX_step (fun K hK => ?_)
            go_simp
            refine ⟨by rw [HSP.out]; rfl, hK _ _ ?_⟩
            clear hK K
            refine wpX_step (fun K hK => ?_)
            go_simp
            refine ⟨by rw [HSP.out]; rfl, hK _ _ ?_⟩
            clear hK K
            refine wpX_step (fun K hK => ?_)
            go_simp
            refine ⟨by rw [HSP.out]; rfl, hK _ _ ?_⟩
            clear hK K
            refine wpX_step (fun K hK => ?_)
            go_simp
            refine ⟨by rw [HSP.out]; rfl, hK _ _ ?_⟩
            clear hK K
            refine wpX_step (fun K hK => ?_)
            go_simp
            refine ⟨by rw [HSP.out]; rfl, hK _ _ ?_⟩
            clear hK K
            refine wpX_nil ?_
            intro wq hz hF
            clear hF
            rw [HS.out] at hz
            have hO := hz
            clear hz HS HSP
            have hf := hO.cells
            simp only [BC, CC, Nat.zero_add, Nat.reduceAdd, and_true] at hf
            have hS := hO.tl.tl.bare
            clear hO hf
            rw [← HS2.out] at hS
            go_wp2
            go_roundw
            case rel =>
              first
              | exact ⟨2, by first | rfl | go_num, by omega, hS⟩
              | ((repeat apply Exists.intro)
                 exact ⟨⟨2, by first | rfl | go_num, by omega, hS⟩, rfl⟩)
            case measure => simp [intOf]
        · have hO := hSi
          rw [HS2.out] at hO
          clear hSi
          have hS := hO.tl.tl.tl
          clear hO
          rw [← HS1.out] at hS
          go_wp2
          go_roundw
          case rel => exact ⟨k + 1, by go_num, by omega, hS⟩
          case measure => simp [intOf]; omega
    · have hke : k = 6 := by omega
      subst hke
      have hE := (HS1.out ▸ hSr).toExt
      go_wp2_with fail
      refine (HLV.out _ (HT.out.ext hE)).mono ?_
      rintro e w6 ⟨rfl, hE1⟩
      have hEE := hE.trans hE1
      clear hE hE1 hSr
      go_wp2
      go_ret
      exact ⟨rfl, hEE⟩

end Go.Proofs.YtadijoeeaineaaaGreatDoor
