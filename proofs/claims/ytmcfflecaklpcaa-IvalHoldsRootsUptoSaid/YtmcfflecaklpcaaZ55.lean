/-
  The walk through IvalHoldsRoots. Conditions: those that each theorem names.
-/
import Derived.Test.YtmcfflecaklpcaaZ54
import Derived.Test.YtmcfflecaklpcaaZ40
import Derived.Test.YtmcfflecaklpcaaZ26
import Derived.Test.YtmcfflecaklpcaaZ36
import Derived.Test.YtmcfflecaklpcaaZ44
import Derived.Test.YtmcfflecaklpcaaZ02
import Derived.Test.YtmcfflecaklpcaaZ07
import Derived.ProofKit
import Derived.OpenShut
import Derived.ChangeSlices
import Derived.Lib.SmallJoins
import Derived.Below
import Derived.Deep.Fields
namespace Go.Proofs.Ytmcfflecaklpcaa
open Go.RowKit Nm Rn
set_option maxRecDepth 100000
set_option linter.unusedVariables false
set_option linter.unusedSimpArgs false

set_option maxHeartbeats 4000000 in
theorem hroots_z (x1 x2 : Nat) (s : Bool) (A : Option Addr) (l c : Nat) (xs : List Nat) (B : Option Addr) (k d : Nat) (ys : List Nat) (w : World) (h1 : Wds w A l c xs) (h2 : Wds w B k d ys)
    (HRT : Hid (∀ w, Wds w A l c xs → Wds w B k d ys → Calls Try.prog 31 #[.agg #[.bool s, .slice A l c, .slice B k d]] w (RetRF w))) :
    Calls Try.prog 8 #[.agg #[.int .u64 (x1 : Int), .int .u64 (x2 : Int), .bool s, .slice A l c, .slice B k d]] w fun e w' => e = .returned (.bool true) ∧ Ext w w' := by
  have hO := ((Own.start w).add h1).add h2
  have hf : True := trivial
  have HAW := Lib.hid (fun w => awake_any w)
  have HIN := Lib.hid (fun w => in6_any x1 x2 w)
  clear h1 h2
  go_enter Try.func8, Try.ntmps8
  go_wp2_with ((with_reducible refine at_box ?_); refine own_box (cs := [.int .u64 (x1 : Int), .int .u64 (x2 : Int), .bool s, .slice A l c, .slice B k d]) hO rfl rfl ?_; clear hO; intro ga wa hO; clear hf; have hf := hO.cells; simp only [BC, CC, Nat.zero_add, Nat.reduceAdd, and_true] at hf)
  refine (HAW.out _).mono ?_
  rintro e w2 ⟨rfl, hE1⟩
  have hO := hO.ext hE1
  clear hE1
  clear hf
  have hf := hO.cells
  simp only [BC, CC, Nat.zero_add, Nat.reduceAdd, and_true] at hf
  go_wp2_with fail
  refine (HRT.out _ (hO.wd 1 rfl) (hO.wd 0 rfl)).mono ?_
  rintro e w3 ⟨s1, A1, l1, c1, B1, k1, d1, N, D, rfl, hW1, hE1⟩
  have hO := ((hO.ext hE1).add hW1.1).add hW1.2
  clear hW1 hE1
  clear hf
  have hf := hO.cells
  simp only [BC, CC, Nat.zero_add, Nat.reduceAdd, and_true] at hf
  go_wp2_with (first | ((with_reducible refine at_alloc ?_); refine own_alloc hO zero_rat rfl rfl ?_; clear hO; intro g w4 hO; clear hf; have hf := hO.cells; simp only [BC, CC, Nat.zero_add, Nat.reduceAdd, and_true] at hf) | ((with_reducible refine at_store (T := 35) ?_); refine own_store (T := 35) hO 0 rfl rfl rfl size_rat rfl rfl rfl ?_; clear hO; intro w5 hO; simp only [List.set_cons_zero, List.set_cons_succ, spl, List.take_succ_cons, List.take_zero, List.nil_append, List.cons_append, List.length_cons, List.length_nil, List.drop_succ_cons, List.drop_zero, List.drop_nil, Nat.reduceAdd, Nat.zero_add, List.append_nil] at hO; clear hf; have hf := hO.cells; simp only [BC, CC, Nat.zero_add, Nat.reduceAdd, and_true] at hf))
  go_ret
  exact ⟨by first | rfl | simp, hO.toExt⟩

set_option maxHeartbeats 4000000 in
theorem hroots_n (x1 x2 : Nat) (s : Bool) (A : Option Addr) (l c : Nat) (xs : List Nat) (B : Option Addr) (k d : Nat) (ys : List Nat) (a b : Nat) (s1 : Bool) (N D : Nat) (v : Int) (w : World) (h1 : Wds w A l c xs) (h2 : Wds w B k d ys)
    (HRT : Hid (∀ w, Wds w A l c xs → Wds w B k d ys → Calls Try.prog 31 #[.agg #[.bool s, .slice A l c, .slice B k d]] w (RetRT s1 N D w)))
    (HSQ : Hid (∀ w, Calls Try.prog 27 #[.agg #[.float .f64 x1, .float .f64 x2]] w (RetF a b w)))
    (HSG : Hid (∀ (A1 : Option Addr) (l1 c1 : Nat) (B1 : Option Addr) (k1 d1 : Nat) w, RatAt w A1 l1 c1 B1 k1 d1 N D → Calls Try.prog 22 #[.agg #[.bool s1, .slice A1 l1 c1, .slice B1 k1 d1]] w fun e w' => e = .returned (.int .i64 v) ∧ Ext w w')) (hv : decide (v < 0) = true)
    (HH2 : Hid (∀ (A1 : Option Addr) (l1 c1 : Nat) (B1 : Option Addr) (k1 d1 : Nat) w, RatAt w A1 l1 c1 B1 k1 d1 N D → Calls Try.prog 32 #[.agg #[.int .u64 (a : Int), .int .u64 (b : Int)], .agg #[.bool s1, .slice A1 l1 c1, .slice B1 k1 d1]] w fun e w' => e = .returned (.bool false) ∧ Ext w w')) :
    Calls Try.prog 8 #[.agg #[.int .u64 (x1 : Int), .int .u64 (x2 : Int), .bool s, .slice A l c, .slice B k d]] w fun e w' => e = .returned (.bool true) ∧ Ext w w' := by
  have hO := ((Own.start w).add h1).add h2
  have hf : True := trivial
  have HAW := Lib.hid (fun w => awake_any w)
  have HIN := Lib.hid (fun w => in6_any x1 x2 w)
  clear h1 h2
  go_enter Try.func8, Try.ntmps8
  go_wp2_with ((with_reducible refine at_box ?_); refine own_box (cs := [.int .u64 (x1 : Int), .int .u64 (x2 : Int), .bool s, .slice A l c, .slice B k d]) hO rfl rfl ?_; clear hO; intro ga wa hO; clear hf; have hf := hO.cells; simp only [BC, CC, Nat.zero_add, Nat.reduceAdd, and_true] at hf)
  refine (HAW.out _).mono ?_
  rintro e w2 ⟨rfl, hE1⟩
  have hO := hO.ext hE1
  clear hE1
  clear hf
  have hf := hO.cells
  simp only [BC, CC, Nat.zero_add, Nat.reduceAdd, and_true] at hf
  go_wp2_with fail
  refine (HRT.out _ (hO.wd 1 rfl) (hO.wd 0 rfl)).mono ?_
  rintro e w3 ⟨A1, l1, c1, B1, k1, d1, rfl, hW1, hE1⟩
  have hO := ((hO.ext hE1).add hW1.1).add hW1.2
  clear hW1 hE1
  clear hf
  have hf := hO.cells
  simp only [BC, CC, Nat.zero_add, Nat.reduceAdd, and_true] at hf
  go_wp2_with (first | ((with_reducible refine at_alloc ?_); refine own_alloc hO zero_rat rfl rfl ?_; clear hO; intro g w4 hO; clear hf; have hf := hO.cells; simp only [BC, CC, Nat.zero_add, Nat.reduceAdd, and_true] at hf) | ((with_reducible refine at_store (T := 35) ?_); refine own_store (T := 35) hO 0 rfl rfl rfl size_rat rfl rfl rfl ?_; clear hO; intro w5 hO; simp only [List.set_cons_zero, List.set_cons_succ, spl, List.take_succ_cons, List.take_zero, List.nil_append, List.cons_append, List.length_cons, List.length_nil, List.drop_succ_cons, List.drop_zero, List.drop_nil, Nat.reduceAdd, Nat.zero_add, List.append_nil] at hO; clear hf; have hf := hO.cells; simp only [BC, CC, Nat.zero_add, Nat.reduceAdd, and_true] at hf))
  refine (HIN.out _).mono ?_
  rintro e w6 ⟨rfl, hE1⟩
  have hO := hO.ext hE1
  clear hE1
  clear hf
  have hf := hO.cells
  simp only [BC, CC, Nat.zero_add, Nat.reduceAdd, and_true] at hf
  go_wp2_with fail
  refine (HSQ.out _).mono ?_
  rintro e w7 ⟨rfl, hE1⟩
  have hO := hO.ext hE1
  clear hE1
  clear hf
  have hf := hO.cells
  simp only [BC, CC, Nat.zero_add, Nat.reduceAdd, and_true] at hf
  go_wp2_with fail
  refine (out6_any _ _ _).mono ?_
  rintro e w8 ⟨rfl, hE1⟩
  have hO := hO.ext hE1
  clear hE1
  clear hf
  have hf := hO.cells
  simp only [BC, CC, Nat.zero_add, Nat.reduceAdd, and_true] at hf
  go_wp2_with (first | ((with_reducible refine at_alloc ?_); refine own_alloc hO zero_I_ rfl rfl ?_; clear hO; intro gi w9 hO; clear hf; have hf := hO.cells; simp only [BC, CC, Nat.zero_add, Nat.reduceAdd, and_true] at hf) | ((with_reducible refine at_store (T := 49) ?_); refine own_store (T := 49) hO 0 rfl rfl rfl size_I_ rfl rfl rfl ?_; clear hO; intro wA hO; simp only [List.set_cons_zero, List.set_cons_succ, spl, List.take_succ_cons, List.take_zero, List.nil_append, List.cons_append, List.length_cons, List.length_nil, List.drop_succ_cons, List.drop_zero, List.drop_nil, Nat.reduceAdd, Nat.zero_add, List.append_nil] at hO; clear hf; have hf := hO.cells; simp only [BC, CC, Nat.zero_add, Nat.reduceAdd, and_true] at hf))
  refine (HSG.out _ _ _ _ _ _ _ ⟨hO.wd 1 rfl, hO.wd 0 rfl⟩).mono ?_
  rintro e wB ⟨rfl, hE1⟩
  have hO := hO.ext hE1
  clear hE1
  clear hf
  have hf := hO.cells
  simp only [BC, CC, Nat.zero_add, Nat.reduceAdd, and_true] at hf
  go_wp2_with fail
  refine (HH2.out _ _ _ _ _ _ _ ⟨hO.wd 1 rfl, hO.wd 0 rfl⟩).mono ?_
  rintro e wC ⟨rfl, hE1⟩
  have hO := hO.ext hE1
  clear hE1 hf
  go_wp2
  go_ret
  exact ⟨by first | rfl | simp, hO.toExt⟩

set_option maxHeartbeats 8000000 in
theorem hroots_p0 (x1 x2 : Nat) (s : Bool) (A : Option Addr) (l c : Nat) (xs : List Nat) (B : Option Addr) (k d : Nat) (ys : List Nat) (a b : Nat) (s1 : Bool) (N D : Nat) (v : Int) (w : World) (h1 : Wds w A l c xs) (h2 : Wds w B k d ys)
    (HRT : Hid (∀ w, Wds w A l c xs → Wds w B k d ys → Calls Try.prog 31 #[.agg #[.bool s, .slice A l c, .slice B k d]] w (RetRT s1 N D w)))
    (HSQ : Hid (∀ w, Calls Try.prog 27 #[.agg #[.float .f64 x1, .float .f64 x2]] w (RetF a b w)))
    (HSG : Hid (∀ (A1 : Option Addr) (l1 c1 : Nat) (B1 : Option Addr) (k1 d1 : Nat) w, RatAt w A1 l1 c1 B1 k1 d1 N D → Calls Try.prog 22 #[.agg #[.bool s1, .slice A1 l1 c1, .slice B1 k1 d1]] w fun e w' => e = .returned (.int .i64 v) ∧ Ext w w')) (hv : decide (v < 0) = false) (N2 D2 : Nat)
    (HMU : Hid (∀ (A1 : Option Addr) (l1 c1 : Nat) (B1 : Option Addr) (k1 d1 : Nat) w, RatAt w A1 l1 c1 B1 k1 d1 N D → Calls Try.prog 33 #[.agg #[.bool s1, .slice A1 l1 c1, .slice B1 k1 d1], .agg #[.bool s1, .slice A1 l1 c1, .slice B1 k1 d1]] w (RetR false N2 D2 w)))
    (HH1 : Hid (∀ (A1 : Option Addr) (l1 c1 : Nat) (B1 : Option Addr) (k1 d1 : Nat) w, RatAt w A1 l1 c1 B1 k1 d1 N2 D2 → Calls Try.prog 32 #[.agg #[.int .u64 (x1 : Int), .int .u64 (x2 : Int)], .agg #[.bool false, .slice A1 l1 c1, .slice B1 k1 d1]] w fun e w' => e = .returned (.bool false) ∧ Ext w w')) :
    Calls Try.prog 8 #[.agg #[.int .u64 (x1 : Int), .int .u64 (x2 : Int), .bool s, .slice A l c, .slice B k d]] w fun e w' => e = .returned (.bool true) ∧ Ext w w' := by
  have hO := ((Own.start w).add h1).add h2
  have hf : True := trivial
  have HAW := Lib.hid (fun w => awake_any w)
  have HIN := Lib.hid (fun w => in6_any x1 x2 w)
  clear h1 h2
  go_enter Try.func8, Try.ntmps8
  go_wp2_with ((with_reducible refine at_box ?_); refine own_box (cs := [.int .u64 (x1 : Int), .int .u64 (x2 : Int), .bool s, .slice A l c, .slice B k d]) hO rfl rfl ?_; clear hO; intro ga wa hO; clear hf; have hf := hO.cells; simp only [BC, CC, Nat.zero_add, Nat.reduceAdd, and_true] at hf)
  refine (HAW.out _).mono ?_
  rintro e w2 ⟨rfl, hE1⟩
  have hO := hO.ext hE1
  clear hE1
  clear hf
  have hf := hO.cells
  simp only [BC, CC, Nat.zero_add, Nat.reduceAdd, and_true] at hf
  go_wp2_with fail
  refine (HRT.out _ (hO.wd 1 rfl) (hO.wd 0 rfl)).mono ?_
  rintro e w3 ⟨A1, l1, c1, B1, k1, d1, rfl, hW1, hE1⟩
  have hO := ((hO.ext hE1).add hW1.1).add hW1.2
  clear hW1 hE1
  clear hf
  have hf := hO.cells
  simp only [BC, CC, Nat.zero_add, Nat.reduceAdd, and_true] at hf
  go_wp2_with (first | ((with_reducible refine at_alloc ?_); refine own_alloc hO zero_rat rfl rfl ?_; clear hO; intro g w4 hO; clear hf; have hf := hO.cells; simp only [BC, CC, Nat.zero_add, Nat.reduceAdd, and_true] at hf) | ((with_reducible refine at_store (T := 35) ?_); refine own_store (T := 35) hO 0 rfl rfl rfl size_rat rfl rfl rfl ?_; clear hO; intro w5 hO; simp only [List.set_cons_zero, List.set_cons_succ, spl, List.take_succ_cons, List.take_zero, List.nil_append, List.cons_append, List.length_cons, List.length_nil, List.drop_succ_cons, List.drop_zero, List.drop_nil, Nat.reduceAdd, Nat.zero_add, List.append_nil] at hO; clear hf; have hf := hO.cells; simp only [BC, CC, Nat.zero_add, Nat.reduceAdd, and_true] at hf))
  refine (HIN.out _).mono ?_
  rintro e w6 ⟨rfl, hE1⟩
  have hO := hO.ext hE1
  clear hE1
  clear hf
  have hf := hO.cells
  simp only [BC, CC, Nat.zero_add, Nat.reduceAdd, and_true] at hf
  go_wp2_with fail
  refine (HSQ.out _).mono ?_
  rintro e w7 ⟨rfl, hE1⟩
  have hO := hO.ext hE1
  clear hE1
  clear hf
  have hf := hO.cells
  simp only [BC, CC, Nat.zero_add, Nat.reduceAdd, and_true] at hf
  go_wp2_with fail
  refine (out6_any _ _ _).mono ?_
  rintro e w8 ⟨rfl, hE1⟩
  have hO := hO.ext hE1
  clear hE1
  clear hf
  have hf := hO.cells
  simp only [BC, CC, Nat.zero_add, Nat.reduceAdd, and_true] at hf
  go_wp2_with (first | ((with_reducible refine at_alloc ?_); refine own_alloc hO zero_I_ rfl rfl ?_; clear hO; intro gi w9 hO; clear hf; have hf := hO.cells; simp only [BC, CC, Nat.zero_add, Nat.reduceAdd, and_true] at hf) | ((with_reducible refine at_store (T := 49) ?_); refine own_store (T := 49) hO 0 rfl rfl rfl size_I_ rfl rfl rfl ?_; clear hO; intro wA hO; simp only [List.set_cons_zero, List.set_cons_succ, spl, List.take_succ_cons, List.take_zero, List.nil_append, List.cons_append, List.length_cons, List.length_nil, List.drop_succ_cons, List.drop_zero, List.drop_nil, Nat.reduceAdd, Nat.zero_add, List.append_nil] at hO; clear hf; have hf := hO.cells; simp only [BC, CC, Nat.zero_add, Nat.reduceAdd, and_true] at hf))
  refine (HSG.out _ _ _ _ _ _ _ ⟨hO.wd 1 rfl, hO.wd 0 rfl⟩).mono ?_
  rintro e wB ⟨rfl, hE1⟩
  have hO := hO.ext hE1
  clear hE1
  clear hf
  have hf := hO.cells
  simp only [BC, CC, Nat.zero_add, Nat.reduceAdd, and_true] at hf
  go_wp2_with fail
  obtain ⟨S, hS⟩ : ∃ S : World → Prop, S = Own w [⟨gi, 49, [.int .u64 (a : Int), .int .u64 (b : Int)]⟩, ⟨g, 35, [.bool s1, .slice A1 l1 c1, .slice B1 k1 d1]⟩, ⟨ga, 58, [.int .u64 (x1 : Int), .int .u64 (x2 : Int), .bool s, .slice A l c, .slice B k d]⟩] [⟨B1, k1, d1, nd D⟩, ⟨A1, l1, c1, nd N⟩, ⟨B, k, d, ys⟩, ⟨A, l, c, xs⟩] := ⟨_, rfl⟩
  have hSE : ∀ w w', S w → Ext w w' → S w' := fun w w' h1 h2 => by rw [hS] at h1 ⊢; exact h1.ext h2
  have hS1 : S wB.drew := by rw [hS]; exact hO.ext (Ext.refl wB).drew
  have HS := Lib.hid hS
  clear hS hO hf
  obtain ⟨sp, hsp⟩ : ∃ sp : Nat → Sp, sp = ofList [det (.pointer (some ⟨ga, 0, none⟩)), det (.agg #[.int .u64 (x1 : Int), .int .u64 (x2 : Int)]), det (.agg #[.bool s1, .slice A1 l1 c1, .slice B1 k1 d1]), det (.agg #[.bool s1, .slice A1 l1 c1, .slice B1 k1 d1]),
    anyOf (fun v wz => ∃ A1 n1 c1 A2 n2 c2, v = .agg #[.bool false, .slice A1 n1 c1, .slice A2 n2 c2] ∧ RatAt wz A1 n1 c1 A2 n2 c2 N2 D2), det (.bool false), det (.bool true), det (.bool true),
    det (.agg #[.int .u64 (a : Int), .int .u64 (b : Int)]), det (.agg #[.bool s1, .slice A1 l1 c1, .slice B1 k1 d1]), det (.bool true), det (.bool true)] := ⟨_, rfl⟩
  have HSP := Lib.hid hsp
  clear hsp
  refine wp_region_loose 12 S sp (by kernel_rfl) (by kernel_rfl) hS1 hSE ?_
  simp only [List.take_succ_cons, List.take_zero, List.drop_succ_cons, List.drop_zero]
  iterate 12
    refine wpX_step (fun K hK => ?_)
    go_simp
    first
    | (refine ⟨by rw [HSP.out]; rfl, hK _ _ ?_⟩
       clear hK K)
    | (refine StepY.any (by rw [HSP.out]; rfl) ?_ ?_
       · intro wz hz hF
         clear hF
         rw [HS.out] at hz
         go_simp
         refine (HMU.out _ _ _ _ _ _ _ ⟨hz.wd 1 rfl, hz.wd 0 rfl⟩).mono ?_
         rintro e w2 ⟨A3, n3, c3, A4, n4, c4, rfl, hW1, hW2, hE1⟩
         exact ⟨_, rfl, ⟨A3, n3, c3, A4, n4, c4, rfl, hW1, hW2⟩, hE1⟩
       intro v
       refine hK _ _ ?_
       clear hK K)
    | (refine StepY.det (by rw [HSP.out]; rfl) ?_ ?_
       · intro wz hz hF
         first
         | (rw [HS.out] at hz
            have hf := hz.cells
            simp only [BC, CC, Nat.zero_add, Nat.reduceAdd, and_true] at hf
            clear hF
            go_simp
            exact ⟨rfl, Ext.refl _⟩)
         | (obtain ⟨wa', ea, A5, n5, c5, A6, n6, c6, hv1, hw1⟩ := hF.any 4 (by kernel_rfl) (by rw [HSP.out]; rfl)
            clear hF
            simp only [asFun, List.nil_append, List.cons_append, List.getD_cons_succ, List.getD_cons_zero] at hv1
            subst hv1
            go_simp
            refine (HH1.out _ _ _ _ _ _ _ (hw1.ext ea)).mono ?_
            rintro e w2 ⟨rfl, hE1⟩
            exact ⟨_, rfl, rfl, hE1⟩)
       refine hK _ _ ?_
       clear hK K)
  refine wpX_nil ?_
  intro w14 hz hF
  clear hF
  rw [HS.out] at hz
  have hE := hz.toExt
  clear hz
  go_wp2
  go_ret
  exact ⟨by first | rfl | simp, hE⟩

set_option maxHeartbeats 8000000 in
theorem hroots_p1 (x1 x2 : Nat) (s : Bool) (A : Option Addr) (l c : Nat) (xs : List Nat) (B : Option Addr) (k d : Nat) (ys : List Nat) (a b : Nat) (s1 : Bool) (N D : Nat) (v : Int) (w : World) (h1 : Wds w A l c xs) (h2 : Wds w B k d ys)
    (HRT : Hid (∀ w, Wds w A l c xs → Wds w B k d ys → Calls Try.prog 31 #[.agg #[.bool s, .slice A l c, .slice B k d]] w (RetRT s1 N D w)))
    (HSQ : Hid (∀ w, Calls Try.prog 27 #[.agg #[.float .f64 x1, .float .f64 x2]] w (RetF a b w)))
    (HSG : Hid (∀ (A1 : Option Addr) (l1 c1 : Nat) (B1 : Option Addr) (k1 d1 : Nat) w, RatAt w A1 l1 c1 B1 k1 d1 N D → Calls Try.prog 22 #[.agg #[.bool s1, .slice A1 l1 c1, .slice B1 k1 d1]] w fun e w' => e = .returned (.int .i64 v) ∧ Ext w w')) (hv : decide (v < 0) = false) (N2 D2 : Nat)
    (HMU : Hid (∀ (A1 : Option Addr) (l1 c1 : Nat) (B1 : Option Addr) (k1 d1 : Nat) w, RatAt w A1 l1 c1 B1 k1 d1 N D → Calls Try.prog 33 #[.agg #[.bool s1, .slice A1 l1 c1, .slice B1 k1 d1], .agg #[.bool s1, .slice A1 l1 c1, .slice B1 k1 d1]] w (RetR false N2 D2 w)))
    (HH1 : Hid (∀ (A1 : Option Addr) (l1 c1 : Nat) (B1 : Option Addr) (k1 d1 : Nat) w, RatAt w A1 l1 c1 B1 k1 d1 N2 D2 → Calls Try.prog 32 #[.agg #[.int .u64 (x1 : Int), .int .u64 (x2 : Int)], .agg #[.bool false, .slice A1 l1 c1, .slice B1 k1 d1]] w fun e w' => e = .returned (.bool true) ∧ Ext w w'))
    (HH2 : Hid (∀ (A1 : Option Addr) (l1 c1 : Nat) (B1 : Option Addr) (k1 d1 : Nat) w, RatAt w A1 l1 c1 B1 k1 d1 N D → Calls Try.prog 32 #[.agg #[.int .u64 (a : Int), .int .u64 (b : Int)], .agg #[.bool s1, .slice A1 l1 c1, .slice B1 k1 d1]] w fun e w' => e = .returned (.bool true) ∧ Ext w w')) :
    Calls Try.prog 8 #[.agg #[.int .u64 (x1 : Int), .int .u64 (x2 : Int), .bool s, .slice A l c, .slice B k d]] w fun e w' => e = .returned (.bool true) ∧ Ext w w' := by
  have hO := ((Own.start w).add h1).add h2
  have hf : True := trivial
  have HAW := Lib.hid (fun w => awake_any w)
  have HIN := Lib.hid (fun w => in6_any x1 x2 w)
  clear h1 h2
  go_enter Try.func8, Try.ntmps8
  go_wp2_with ((with_reducible refine at_box ?_); refine own_box (cs := [.int .u64 (x1 : Int), .int .u64 (x2 : Int), .bool s, .slice A l c, .slice B k d]) hO rfl rfl ?_; clear hO; intro ga wa hO; clear hf; have hf := hO.cells; simp only [BC, CC, Nat.zero_add, Nat.reduceAdd, and_true] at hf)
  refine (HAW.out _).mono ?_
  rintro e w2 ⟨rfl, hE1⟩
  have hO := hO.ext hE1
  clear hE1
  clear hf
  have hf := hO.cells
  simp only [BC, CC, Nat.zero_add, Nat.reduceAdd, and_true] at hf
  go_wp2_with fail
  refine (HRT.out _ (hO.wd 1 rfl) (hO.wd 0 rfl)).mono ?_
  rintro e w3 ⟨A1, l1, c1, B1, k1, d1, rfl, hW1, hE1⟩
  have hO := ((hO.ext hE1).add hW1.1).add hW1.2
  clear hW1 hE1
  clear hf
  have hf := hO.cells
  simp only [BC, CC, Nat.zero_add, Nat.reduceAdd, and_true] at hf
  go_wp2_with (first | ((with_reducible refine at_alloc ?_); refine own_alloc hO zero_rat rfl rfl ?_; clear hO; intro g w4 hO; clear hf; have hf := hO.cells; simp only [BC, CC, Nat.zero_add, Nat.reduceAdd, and_true] at hf) | ((with_reducible refine at_store (T := 35) ?_); refine own_store (T := 35) hO 0 rfl rfl rfl size_rat rfl rfl rfl ?_; clear hO; intro w5 hO; simp only [List.set_cons_zero, List.set_cons_succ, spl, List.take_succ_cons, List.take_zero, List.nil_append, List.cons_append, List.length_cons, List.length_nil, List.drop_succ_cons, List.drop_zero, List.drop_nil, Nat.reduceAdd, Nat.zero_add, List.append_nil] at hO; clear hf; have hf := hO.cells; simp only [BC, CC, Nat.zero_add, Nat.reduceAdd, and_true] at hf))
  refine (HIN.out _).mono ?_
  rintro e w6 ⟨rfl, hE1⟩
  have hO := hO.ext hE1
  clear hE1
  clear hf
  have hf := hO.cells
  simp only [BC, CC, Nat.zero_add, Nat.reduceAdd, and_true] at hf
  go_wp2_with fail
  refine (HSQ.out _).mono ?_
  rintro e w7 ⟨rfl, hE1⟩
  have hO := hO.ext hE1
  clear hE1
  clear hf
  have hf := hO.cells
  simp only [BC, CC, Nat.zero_add, Nat.reduceAdd, and_true] at hf
  go_wp2_with fail
  refine (out6_any _ _ _).mono ?_
  rintro e w8 ⟨rfl, hE1⟩
  have hO := hO.ext hE1
  clear hE1
  clear hf
  have hf := hO.cells
  simp only [BC, CC, Nat.zero_add, Nat.reduceAdd, and_true] at hf
  go_wp2_with (first | ((with_reducible refine at_alloc ?_); refine own_alloc hO zero_I_ rfl rfl ?_; clear hO; intro gi w9 hO; clear hf; have hf := hO.cells; simp only [BC, CC, Nat.zero_add, Nat.reduceAdd, and_true] at hf) | ((with_reducible refine at_store (T := 49) ?_); refine own_store (T := 49) hO 0 rfl rfl rfl size_I_ rfl rfl rfl ?_; clear hO; intro wA hO; simp only [List.set_cons_zero, List.set_cons_succ, spl, List.take_succ_cons, List.take_zero, List.nil_append, List.cons_append, List.length_cons, List.length_nil, List.drop_succ_cons, List.drop_zero, List.drop_nil, Nat.reduceAdd, Nat.zero_add, List.append_nil] at hO; clear hf; have hf := hO.cells; simp only [BC, CC, Nat.zero_add, Nat.reduceAdd, and_true] at hf))
  refine (HSG.out _ _ _ _ _ _ _ ⟨hO.wd 1 rfl, hO.wd 0 rfl⟩).mono ?_
  rintro e wB ⟨rfl, hE1⟩
  have hO := hO.ext hE1
  clear hE1
  clear hf
  have hf := hO.cells
  simp only [BC, CC, Nat.zero_add, Nat.reduceAdd, and_true] at hf
  go_wp2_with fail
  obtain ⟨S, hS⟩ : ∃ S : World → Prop, S = Own w [⟨gi, 49, [.int .u64 (a : Int), .int .u64 (b : Int)]⟩, ⟨g, 35, [.bool s1, .slice A1 l1 c1, .slice B1 k1 d1]⟩, ⟨ga, 58, [.int .u64 (x1 : Int), .int .u64 (x2 : Int), .bool s, .slice A l c, .slice B k d]⟩] [⟨B1, k1, d1, nd D⟩, ⟨A1, l1, c1, nd N⟩, ⟨B, k, d, ys⟩, ⟨A, l, c, xs⟩] := ⟨_, rfl⟩
  have hSE : ∀ w w', S w → Ext w w' → S w' := fun w w' h1 h2 => by rw [hS] at h1 ⊢; exact h1.ext h2
  have hS1 : S wB.drew := by rw [hS]; exact hO.ext (Ext.refl wB).drew
  have HS := Lib.hid hS
  clear hS hO hf
  obtain ⟨sp, hsp⟩ : ∃ sp : Nat → Sp, sp = ofList [det (.pointer (some ⟨ga, 0, none⟩)), det (.agg #[.int .u64 (x1 : Int), .int .u64 (x2 : Int)]), det (.agg #[.bool s1, .slice A1 l1 c1, .slice B1 k1 d1]), det (.agg #[.bool s1, .slice A1 l1 c1, .slice B1 k1 d1]),
    anyOf (fun v wz => ∃ A1 n1 c1 A2 n2 c2, v = .agg #[.bool false, .slice A1 n1 c1, .slice A2 n2 c2] ∧ RatAt wz A1 n1 c1 A2 n2 c2 N2 D2), det (.bool true), det (.bool false), det (.bool false),
    det (.agg #[.int .u64 (a : Int), .int .u64 (b : Int)]), det (.agg #[.bool s1, .slice A1 l1 c1, .slice B1 k1 d1]), det (.bool true), det (.bool true)] := ⟨_, rfl⟩
  have HSP := Lib.hid hsp
  clear hsp
  refine wp_region_loose 12 S sp (by kernel_rfl) (by kernel_rfl) hS1 hSE ?_
  simp only [List.take_succ_cons, List.take_zero, List.drop_succ_cons, List.drop_zero]
  iterate 12
    refine wpX_step (fun K hK => ?_)
    go_simp
    first
    | (refine ⟨by rw [HSP.out]; rfl, hK _ _ ?_⟩
       clear hK K)
    | (refine StepY.any (by rw [HSP.out]; rfl) ?_ ?_
       · intro wz hz hF
         clear hF
         rw [HS.out] at hz
         go_simp
         refine (HMU.out _ _ _ _ _ _ _ ⟨hz.wd 1 rfl, hz.wd 0 rfl⟩).mono ?_
         rintro e w2 ⟨A3, n3, c3, A4, n4, c4, rfl, hW1, hW2, hE1⟩
         exact ⟨_, rfl, ⟨A3, n3, c3, A4, n4, c4, rfl, hW1, hW2⟩, hE1⟩
       intro v
       refine hK _ _ ?_
       clear hK K)
    | (refine StepY.det (by rw [HSP.out]; rfl) ?_ ?_
       · intro wz hz hF
         first
         | (rw [HS.out] at hz
            have hf := hz.cells
            simp only [BC, CC, Nat.zero_add, Nat.reduceAdd, and_true] at hf
            clear hF
            have hR : RatAt wz A1 l1 c1 B1 k1 d1 N D := ⟨hz.wd 1 rfl, hz.wd 0 rfl⟩
            go_simp
            first
            | exact ⟨rfl, Ext.refl _⟩
            | ((with_reducible refine (HH2.out _ _ _ _ _ _ _ hR).mono ?_)
               rintro e w2 ⟨rfl, hE1⟩
               exact ⟨_, rfl, rfl, hE1⟩))
         | (obtain ⟨wa', ea, A5, n5, c5, A6, n6, c6, hv1, hw1⟩ := hF.any 4 (by kernel_rfl) (by rw [HSP.out]; rfl)
            clear hF
            simp only [asFun, List.nil_append, List.cons_append, List.getD_cons_succ, List.getD_cons_zero] at hv1
            subst hv1
            go_simp
            refine (HH1.out _ _ _ _ _ _ _ (hw1.ext ea)).mono ?_
            rintro e w2 ⟨rfl, hE1⟩
            exact ⟨_, rfl, rfl, hE1⟩)
       refine hK _ _ ?_
       clear hK K)
  refine wpX_nil ?_
  intro w14 hz hF
  clear hF
  rw [HS.out] at hz
  have hE := hz.toExt
  clear hz
  go_wp2
  go_ret
  exact ⟨by first | rfl | simp, hE⟩

theorem hroots_walk (x1 x2 : Nat) (s : Bool) (A : Option Addr) (l c : Nat) (xs : List Nat) (B : Option Addr) (k d : Nat) (ys : List Nat) (w : World) (hx1 : x1 < 18446744073709551616) (hx2 : x2 < 18446744073709551616) (h1 : Wds w A l c xs) (h2 : Wds w B k d ys) (hl : l ≤ 1048576) (hk : k ≤ 1048576) :
    Calls Try.prog 8 #[.agg #[.int .u64 (x1 : Int), .int .u64 (x2 : Int), .bool s, .slice A l c, .slice B k d]] w fun e w' => e = .returned (.bool true) ∧ Ext w w' := by
  have hlx := h1.len
  have hly := h2.len
  by_cases hy : nv ys = 0
  · exact hroots_z x1 x2 s A l c xs B k d ys w h1 h2 (Lib.hid fun w g1 g2 => ratio6_z s A l c xs B k d ys w g1 g2 (by omega) (by omega) hy)
  · obtain ⟨N, hN⟩ : ∃ N, N = fracN (nv xs) (nv ys) 0 := ⟨_, rfl⟩
    obtain ⟨D, hD⟩ : ∃ D, D = fracD (nv xs) (nv ys) 0 := ⟨_, rfl⟩
    obtain ⟨s1, hs1⟩ : ∃ b, b = (s && decide (nv xs ≠ 0)) := ⟨_, rfl⟩
    have HRT := Lib.hid (fun w g1 g2 => ratio6_f s A l c xs B k d ys w g1 g2 (by omega) (by omega) hy)
    rw [← hN, ← hD, ← hs1] at HRT
    have hDp : 0 < D := by rw [hD]; exact fracD_pos _ hy
    have hNw : nw N ≤ 1048576 := by
      have a1 := nw_nv_le h1.ws
      have a2 := nw_mono (fracN_le_z (nv xs) (nv ys))
      rw [← hN] at a2
      omega
    have hDw : nw D ≤ 1048576 := by
      have a1 := nw_nv_le h2.ws
      have a2 := nw_mono (fracD_le_z (n := nv xs) hy)
      rw [← hD] at a2
      omega
    have hs0 : s1 = true → N ≠ 0 := fun h h0 => by
      rw [hN, fracN_eq_zero] at h0
      rw [hs1, h0] at h
      simp at h
    clear hN hD hs1 hy
    have HSQ := Lib.hid (fun w => isqrt_any x1 x2 w hx1 hx2)
    have ha : irLo x1 x2 < 18446744073709551616 := ir_lt_lo hx1 hx2
    have hb : irHi x1 x2 < 18446744073709551616 := ir_lt_hi hx1 hx2
    obtain ⟨v, hv⟩ : ∃ v, v = sgnZ s1 N := ⟨_, rfl⟩
    have HSG : Hid (∀ (A1 : Option Addr) (l1 c1 : Nat) (B1 : Option Addr) (k1 d1 : Nat) w, RatAt w A1 l1 c1 B1 k1 d1 N D → Calls Try.prog 22 #[.agg #[.bool s1, .slice A1 l1 c1, .slice B1 k1 d1]] w fun e w' => e = .returned (.int .i64 v) ∧ Ext w w') := Lib.hid (fun A1 l1 c1 B1 k1 d1 w h => by
      have hl := h.lenN
      have := rsign_any s1 A1 l1 c1 (nd N) B1 k1 d1 w h.1 (by omega)
      rwa [nv_nd, ← hv] at this)
    have HH2 := fun A1 l1 c1 B1 k1 d1 w h => holds_any (irLo x1 x2) (irHi x1 x2) s1 A1 l1 c1 B1 k1 d1 N D w h ha hb (by omega) (by omega) (Nat.ne_of_gt hDp)
    cases s1
    · have hvn : decide (v < 0) = false := by
        rw [hv]
        unfold sgnZ
        split
        · rfl
        · rfl
      have hDD : 0 < D * D := Nat.mul_pos hDp hDp
      have HMU : Hid (∀ (A1 : Option Addr) (l1 c1 : Nat) (B1 : Option Addr) (k1 d1 : Nat) w, RatAt w A1 l1 c1 B1 k1 d1 N D → Calls Try.prog 33 #[.agg #[.bool false, .slice A1 l1 c1, .slice B1 k1 d1], .agg #[.bool false, .slice A1 l1 c1, .slice B1 k1 d1]] w (RetR false (fracN (N * N) (D * D) 0) (fracD (N * N) (D * D) 0) w)) := Lib.hid (fun A1 l1 c1 B1 k1 d1 w h => by
        have := rmulq_any false false A1 l1 c1 B1 k1 d1 N D A1 l1 c1 B1 k1 d1 N D w h h (by omega) (by omega) (by omega) (by omega) hDD
        rwa [show (false != false) = false from rfl, Bool.false_and] at this)
      have m2 : ∀ (e z : Nat), nw z ≤ e → nw (z * z) ≤ e + e := fun e z hz => by
        refine (nw_le_iff _ _).2 ?_
        have h1 := lt_pow_nw z
        have h2 : 4294967296 ^ nw z ≤ 4294967296 ^ e := Nat.pow_le_pow_right (by omega) hz
        rw [Nat.pow_add]
        exact Nat.mul_lt_mul'' (by omega) (by omega)
      have n1 : nw (fracN (N * N) (D * D) 0) ≤ 1073741824 := Nat.le_trans (nw_mono (fracN_le_z _ _)) (Nat.le_trans (m2 _ N hNw) (by omega))
      have n2 : nw (fracD (N * N) (D * D) 0) ≤ 1073741824 := Nat.le_trans (nw_mono (fracD_le_z (Nat.ne_of_gt hDD))) (Nat.le_trans (m2 _ D hDw) (by omega))
      have HH1 := fun A1 l1 c1 B1 k1 d1 w h => holds_any x1 x2 false A1 l1 c1 B1 k1 d1 (fracN (N * N) (D * D) 0) (fracD (N * N) (D * D) 0) w h hx1 hx2 n1 n2 (Nat.ne_of_gt (fracD_pos _ (Nat.ne_of_gt hDD)))
      cases hh : hldB x1 x2 false (fracN (N * N) (D * D) 0) (fracD (N * N) (D * D) 0)
      · rw [hh] at HH1
        cases hg : hldB (irLo x1 x2) (irHi x1 x2) false N D
        · exact hroots_p0 x1 x2 s A l c xs B k d ys _ _ false N D v w h1 h2 HRT HSQ HSG hvn _ _ HMU (Lib.hid HH1)
        · exact hroots_p0 x1 x2 s A l c xs B k d ys _ _ false N D v w h1 h2 HRT HSQ HSG hvn _ _ HMU (Lib.hid HH1)
      · rw [hh] at HH1
        have hg := roots_hold hx1 hx2 hDp hh
        rw [hg] at HH2
        exact hroots_p1 x1 x2 s A l c xs B k d ys _ _ false N D v w h1 h2 HRT HSQ HSG hvn _ _ HMU (Lib.hid HH1) (Lib.hid HH2)
    · have hN0 := hs0 rfl
      have hvn : decide (v < 0) = true := by
        rw [hv]
        unfold sgnZ
        rw [if_neg hN0]
        rfl
      rw [roots_below hx1 hx2 hN0 (Nat.ne_of_gt hDp)] at HH2
      exact hroots_n x1 x2 s A l c xs B k d ys _ _ true N D v w h1 h2 HRT HSQ HSG hvn (Lib.hid HH2)
end Go.Proofs.Ytmcfflecaklpcaa

/-
  Plain, over whatever program: a struct of five one-cell fields by value, opened and shut; a list of words opened, and read again where what was there stands. Conditions: those that each theorem names.
-/
namespace Go.Proofs.Ytmcfflecaklpcaa
open Go Go.ChangeShapes Go.WideShapes Go.ChangeAt Go.RowKit Go.Joins Go.Deep Nm
set_option linter.unusedVariables false
set_option linter.unusedSimpArgs false
section
variable {H : Type} {enc : TypeId × Value → H} {P : Program} {w : World} {base : Nat} {spare : Nat → Bool} {held : Bool}
theorem array5 {α : Type} {cs : Array α} (h : cs.size = 5) : ∃ c0 c1 c2 c3 c4, cs = #[c0, c1, c2, c3, c4] := by
  obtain ⟨l⟩ := cs
  match l, h with
  | [c0, c1, c2, c3, c4], _ => exact ⟨c0, c1, c2, c3, c4, rfl⟩
theorem list5 {α : Type} {l : List α} (h : l.length = 5) : ∃ c0 c1 c2 c3 c4, l = [c0, c1, c2, c3, c4] := by
  match l, h with
  | [c0, c1, c2, c3, c4], _ => exact ⟨c0, c1, c2, c3, c4, rfl⟩
theorem open_agg5 {r : Reach} {b0 : Nat} {t : TypeId} {f0 f1 f2 f3 f4 : Field} {v : Value} {d : DataW H} {p : List MemPlace} (hs : P.underlying t = some (.struct #[f0, f1, f2, f3, f4])) (hone : oneCellFields P #[f0, f1, f2, f3, f4] = true) (hC : P.cellsOf t = 5)
    (hv : Value.okWide P w r b0 t v) (h : DataW.Trod enc P w base spare held t v d p) :
    ∃ (v0 v1 v2 v3 v4 : Value) (y0 y1 y2 y3 y4 : DataW H × List MemPlace) (n : Nat), v = .agg #[v0, v1, v2, v3, v4] ∧ d = .agg [y0.1, y1.1, y2.1, y3.1, y4.1] ∧ p = y0.2 ++ (y1.2 ++ (y2.2 ++ (y3.2 ++ y4.2))) ∧
      DataW.trod enc P w base spare held n f0.type [v0] = some y0 ∧ DataW.trod enc P w base spare held n f1.type [v1] = some y1 ∧ DataW.trod enc P w base spare held n f2.type [v2] = some y2 ∧ DataW.trod enc P w base spare held n f3.type [v3] = some y3 ∧ DataW.trod enc P w base spare held n f4.type [v4] = some y4 := by
  obtain ⟨cs, rfl, hsz⟩ := okWide_struct hs hv
  obtain ⟨c0, c1, c2, c3, c4, rfl⟩ := array5 (hsz.trans hC)
  obtain ⟨fuel, hf⟩ := h
  obtain ⟨xs, n, _, hx, _, hlen, hff⟩ := DataW.trod_struct hs hf
  obtain ⟨y0, y1, y2, y3, y4, rfl⟩ := list5 hlen
  obtain ⟨o0, k0⟩ := hone_of hone 0 f0 rfl
  obtain ⟨o1, k1⟩ := hone_of hone 1 f1 rfl
  obtain ⟨o2, k2⟩ := hone_of hone 2 f2 rfl
  obtain ⟨o3, k3⟩ := hone_of hone 3 f3 rfl
  obtain ⟨o4, k4⟩ := hone_of hone 4 f4 rfl
  simp only [Prod.mk.injEq] at hx
  have h0 := hff 0 f0 rfl
  have h1 := hff 1 f1 rfl
  have h2 := hff 2 f2 rfl
  have h3 := hff 3 f3 rfl
  have h4 := hff 4 f4 rfl
  exact ⟨c0, c1, c2, c3, c4, y0, y1, y2, y3, y4, n, rfl, hx.1, by simpa using hx.2, by simpa [Value.cells, o0, k0] using h0, by simpa [Value.cells, o1, k1] using h1, by simpa [Value.cells, o2, k2] using h2, by simpa [Value.cells, o3, k3] using h3, by simpa [Value.cells, o4, k4] using h4⟩
theorem shut_agg5 {t : TypeId} {f0 f1 f2 f3 f4 : Field} {v0 v1 v2 v3 v4 : Value} {y0 y1 y2 y3 y4 : DataW H × List MemPlace} (hs : P.underlying t = some (.struct #[f0, f1, f2, f3, f4])) (hone : oneCellFields P #[f0, f1, f2, f3, f4] = true) (hC : P.cellsOf t = 5)
    (t0 : ∃ n, DataW.trod enc P w base spare held n f0.type [v0] = some y0) (t1 : ∃ n, DataW.trod enc P w base spare held n f1.type [v1] = some y1) (t2 : ∃ n, DataW.trod enc P w base spare held n f2.type [v2] = some y2) (t3 : ∃ n, DataW.trod enc P w base spare held n f3.type [v3] = some y3) (t4 : ∃ n, DataW.trod enc P w base spare held n f4.type [v4] = some y4) :
    DataW.Trod enc P w base spare held t (.agg #[v0, v1, v2, v3, v4]) (.agg [y0.1, y1.1, y2.1, y3.1, y4.1]) (y0.2 ++ (y1.2 ++ (y2.2 ++ (y3.2 ++ y4.2)))) := by
  obtain ⟨n0, t0⟩ := t0
  obtain ⟨n1, t1⟩ := t1
  obtain ⟨n2, t2⟩ := t2
  obtain ⟨n3, t3⟩ := t3
  obtain ⟨n4, t4⟩ := t4
  obtain ⟨o0, k0⟩ := hone_of hone 0 f0 rfl
  obtain ⟨o1, k1⟩ := hone_of hone 1 f1 rfl
  obtain ⟨o2, k2⟩ := hone_of hone 2 f2 rfl
  obtain ⟨o3, k3⟩ := hone_of hone 3 f3 rfl
  obtain ⟨o4, k4⟩ := hone_of hone 4 f4 rfl
  obtain ⟨N, hN⟩ : ∃ N, N = n0 + n1 + n2 + n3 + n4 := ⟨_, rfl⟩
  have e0 := DataW.trod_le (show n0 ≤ N by omega) t0
  have e1 := DataW.trod_le (show n1 ≤ N by omega) t1
  have e2 := DataW.trod_le (show n2 ≤ N by omega) t2
  have e3 := DataW.trod_le (show n3 ≤ N by omega) t3
  have e4 := DataW.trod_le (show n4 ≤ N by omega) t4
  have ts := trod_struct_mk (enc := enc) (w := w) (base := base) (spare := spare) (held := held) (n := N) (cs := [v0, v1, v2, v3, v4]) (xs := [y0, y1, y2, y3, y4]) hs (by simp [hC]) (by simp [o0, k0, o1, k1, o2, k2, o3, k3, o4, k4, e0, e1, e2, e3, e4])
  exact ⟨_, by simpa [Value.cells] using ts⟩
end
theorem cell_lt {w : World} {p : Addr} {v : Value} (h : w.cell? p = some v) : p.block < w.heap.size := by
  rcases Nat.lt_or_ge p.block w.heap.size with c | c
  · exact c
  · exfalso
    have : w.heap[p.block]? = none := Array.getElem?_eq_none c
    unfold World.cell? at h
    rw [this] at h
    simp at h
section
variable {H : Type} {enc : TypeId × Value → H} {P : Program}
/-- A list of words that came in: what it holds, and that it reads as it did where what was there stands. -/
theorem open_words {w : World} {held : Bool} {t e : TypeId} {v : Value} {y : DataW H × List MemPlace} {fuel : Nat} (ht : P.underlying t = some (.slice e)) (he : P.underlying e = some (.int .u32)) (hc : P.cellsOf e = 1)
    (h : DataW.trod enc P w 0 (fun _ => true) held fuel t [v] = some y) :
    ∃ A n c xs, v = .slice A n c ∧ Wds w A n c xs ∧ ((y.1 = .nil ∧ n = 0) ∨ ∃ es rs, y.1 = .slice es rs ∧ es.length = n) ∧
      ∀ (w' : World) (sp : Nat → Bool), Below w.heap.size w w' → (∀ p ∈ y.2, sp p.block = true) → ∃ m, DataW.trod enc P w' 0 sp held m t [v] = some y := by
  rcases open_ints ht he hc h with ⟨e1, e2⟩ | ⟨a, len, cap, zs, e1, hb, hl, hm, hz, e2, hcell, hwf⟩
  · simp at e1
    subst e1 e2
    refine ⟨none, 0, 0, [], rfl, Wds.nil_ (by unfold maxLen; omega), .inl ⟨rfl, rfl⟩, fun w' sp _ _ => ⟨1, ?_⟩⟩
    simp [DataW.trod, ht]
  · simp at e1
    subst e1 e2
    simp only [if_true] at hz
    have hzw : ∀ i, i < zs.length → 0 ≤ zs.getD i 0 ∧ zs.getD i 0 < 4294967296 := fun i hi => by
      have e : zs.getD i 0 = zs[i] := by simp [List.getD, hi]
      have := bounds_u32 (hwf _ (List.getElem_mem hi))
      rw [e]; omega
    refine ⟨some a, len, cap, (zs.take len).map Int.toNat, rfl, ⟨by simp; omega, hl, hm, ?_, fun h0 => ⟨a, rfl, ?_, fun k x hk => ?_⟩⟩, .inr ⟨_, _, rfl, by simp [lits]; omega⟩, fun w' sp hbel hsp => ?_⟩
    · intro x hx
      rw [List.mem_map] at hx
      obtain ⟨z, hz1, rfl⟩ := hx
      have := bounds_u32 (hwf z (List.mem_of_mem_take hz1))
      omega
    · have := cell_lt (hcell 0 (by omega))
      rw [block_of_add] at this
      exact this
    · rw [List.getElem?_map, List.getElem?_take] at hk
      split at hk
      · rename_i hkl
        have hkz : k < zs.length := by omega
        rw [List.getElem?_eq_getElem hkz] at hk
        simp at hk
        have e : zs.getD k 0 = zs[k] := by simp [List.getD, hkz]
        have hb2 := hzw k hkz
        rw [hcell k hkz, e]
        rw [e] at hb2
        congr 2
        omega
      · simp at hk
    · refine ⟨2, shut_ints 0 ht he hc hb hl hm ?_ (fun i hi => ?_) hwf⟩
      · rcases Nat.eq_zero_or_pos cap with h0 | h0
        · split <;> omega
        · have hs : sp a.block = true := hsp (.cell a.block (a.off + 0)) (List.mem_map.2 ⟨0, List.mem_range.2 (by omega), rfl⟩)
          rw [hs]; exact hz
      · rw [hbel.cell (by have := cell_lt (hcell i hi); exact this)]
        exact hcell i hi
end
end Go.Proofs.Ytmcfflecaklpcaa
