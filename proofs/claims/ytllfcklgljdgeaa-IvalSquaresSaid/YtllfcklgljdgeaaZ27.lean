/-
  The contracts of the document's None and of its sums of sets. Conditions: those that each theorem names.
-/
import Derived.Test.YtllfcklgljdgeaaZ26
import Derived.Test.YtllfcklgljdgeaaZ15
namespace Go.Proofs.Ytllfcklgljdgeaa
open Go.RowKit Nm Rn
set_option maxRecDepth 100000
set_option linter.unusedVariables false
set_option linter.unusedSimpArgs false

theorem zero_set (w : World) : (zeroValue 49).run Try.prog w = .ok (.agg #[.bool false, .int .i64 0, .bool false, .slice none 0 0, .slice none 0 0, .int .i64 0, .bool false, .slice none 0 0, .slice none 0 0]) w := by kernel_rfl
theorem agg_set (w : World) : (isAgg 49).run Try.prog w = .ok true w := by kernel_rfl
theorem size_set (w : World) : (sizeOf 49).run Try.prog w = .ok 9 w := by kernel_rfl

set_option maxHeartbeats 1000000 in
theorem none6_any (w : World) : Calls Try.prog 51 #[] w (RetSet true 0 false (fracN 0 1 0) (fracD 0 1 0) 0 false (fracN 0 1 0) (fracD 0 1 0) w) := by
  have HFI := Lib.hid (fun w => finite_any 0 w (by omega))
  generalize fracN 0 1 0 = N at HFI ⊢
  generalize fracD 0 1 0 = D at HFI ⊢
  have hO := Own.start w
  have hf : True := trivial
  go_enter Try.func51, Try.ntmps51
  go_wp2_with (first | ((with_reducible refine at_alloc ?_); refine own_alloc hO zero_set rfl rfl ?_; clear hO; intro g w1 hO; clear hf; have hf := hO.cells; simp only [BC, CC, Nat.zero_add, Nat.reduceAdd, and_true] at hf))
  refine (HFI.out _).mono ?_
  rintro e w2 ⟨A1, n1, c1, A2, n2, c2, rfl, hR1, hE1⟩
  have hO := ((hO.ext hE1).add hR1.1).add hR1.2
  clear hf
  have hf := hO.cells
  simp only [BC, CC, Nat.zero_add, Nat.reduceAdd, and_true] at hf
  clear hR1 hE1
  go_wp2_with fail
  refine (HFI.out _).mono ?_
  rintro e w3 ⟨A3, n3, c3, A4, n4, c4, rfl, hR1, hE1⟩
  have hO := ((hO.ext hE1).add hR1.1).add hR1.2
  clear hf
  have hf := hO.cells
  simp only [BC, CC, Nat.zero_add, Nat.reduceAdd, and_true] at hf
  clear hR1 hE1
  go_wp2_with (first | ((with_reducible refine at_store (T := 49) ?_); refine own_store (T := 49) hO 0 rfl rfl rfl size_set rfl rfl rfl ?_; clear hO; intro w1 hO; simp only [List.set_cons_zero, List.set_cons_succ, spl, List.take_succ_cons, List.take_zero, List.nil_append, List.cons_append, List.length_cons, List.length_nil, List.drop_succ_cons, List.drop_zero, List.drop_nil, Nat.reduceAdd, Nat.zero_add, List.append_nil] at hO; clear hf; have hf := hO.cells; simp only [BC, CC, Nat.zero_add, Nat.reduceAdd, and_true] at hf))
  exact own_ret hO 0 rfl rfl rfl agg_set size_set rfl ⟨_, _, _, _, _, _, _, _, _, _, _, _, rfl, ⟨hO.wd 3 rfl, hO.wd 2 rfl⟩, ⟨hO.wd 1 rfl, hO.wd 0 rfl⟩, hO.toExt⟩

set_option maxHeartbeats 1000000 in
theorem plus6_none1 (i : Int) (s : Bool) (A : Option Addr) (l c : Nat) (B : Option Addr) (k d N D : Nat) (i2 : Int) (s2 : Bool) (A2 : Option Addr) (l2 c2 : Nat) (B2 : Option Addr) (k2 d2 N2 D2 : Nat) (f2 : Bool) (j : Int) (r : Bool) (A3 : Option Addr) (l3 c3 : Nat) (B3 : Option Addr) (k3 d3 N3 D3 : Nat) (j2 : Int) (r2 : Bool) (A4 : Option Addr) (l4 c4 : Nat) (B4 : Option Addr) (k4 d4 N4 D4 : Nat) (w : World) :
    Calls Try.prog 26 #[.agg #[.bool true, .int .i64 i, .bool s, .slice A l c, .slice B k d, .int .i64 i2, .bool s2, .slice A2 l2 c2, .slice B2 k2 d2], .agg #[.bool f2, .int .i64 j, .bool r, .slice A3 l3 c3, .slice B3 k3 d3, .int .i64 j2, .bool r2, .slice A4 l4 c4, .slice B4 k4 d4]] w (RetSet true 0 false (fracN 0 1 0) (fracD 0 1 0) 0 false (fracN 0 1 0) (fracD 0 1 0) w) := by
  have HFI := Lib.hid (fun w => none6_any w)
  generalize fracN 0 1 0 = N at HFI ⊢
  generalize fracD 0 1 0 = D at HFI ⊢
  have hO := Own.start w
  have hf : True := trivial
  go_enter Try.func26, Try.ntmps26
  go_wp2_with (first | ((with_reducible refine at_box ?_); refine own_box (cs := [.bool true, .int .i64 i, .bool s, .slice A l c, .slice B k d, .int .i64 i2, .bool s2, .slice A2 l2 c2, .slice B2 k2 d2]) hO rfl rfl ?_; clear hO; intro ga wa hO; clear hf; have hf := hO.cells; simp only [BC, CC, Nat.zero_add, Nat.reduceAdd, and_true] at hf) | ((with_reducible refine at_box ?_); refine own_box (cs := [.bool f2, .int .i64 j, .bool r, .slice A3 l3 c3, .slice B3 k3 d3, .int .i64 j2, .bool r2, .slice A4 l4 c4, .slice B4 k4 d4]) hO rfl rfl ?_; clear hO; intro gb wa hO; clear hf; have hf := hO.cells; simp only [BC, CC, Nat.zero_add, Nat.reduceAdd, and_true] at hf) | ((with_reducible refine at_alloc ?_); refine own_alloc hO zero_set rfl rfl ?_; clear hO; intro g w1 hO; clear hf; have hf := hO.cells; simp only [BC, CC, Nat.zero_add, Nat.reduceAdd, and_true] at hf))
  refine (HFI.out _).mono ?_
  rintro e w2 ⟨A1, n1, c1, A2, n2, c2, A3, n3, c3, A4, n4, c4, rfl, hR1, hR2, hE1⟩
  have hO := ((((hO.ext hE1).add hR1.1).add hR1.2).add hR2.1).add hR2.2
  clear hf
  have hf := hO.cells
  simp only [BC, CC, Nat.zero_add, Nat.reduceAdd, and_true] at hf
  clear hR1 hR2 hE1
  go_wp2_with (first | ((with_reducible refine at_store (T := 49) ?_); refine own_store (T := 49) hO 0 rfl rfl rfl size_set rfl rfl rfl ?_; clear hO; intro w1 hO; simp only [List.set_cons_zero, List.set_cons_succ, spl, List.take_succ_cons, List.take_zero, List.nil_append, List.cons_append, List.length_cons, List.length_nil, List.drop_succ_cons, List.drop_zero, List.drop_nil, Nat.reduceAdd, Nat.zero_add, List.append_nil] at hO; clear hf; have hf := hO.cells; simp only [BC, CC, Nat.zero_add, Nat.reduceAdd, and_true] at hf))
  exact own_ret hO 0 rfl rfl rfl agg_set size_set rfl ⟨_, _, _, _, _, _, _, _, _, _, _, _, rfl, ⟨hO.wd 3 rfl, hO.wd 2 rfl⟩, ⟨hO.wd 1 rfl, hO.wd 0 rfl⟩, hO.toExt⟩

set_option maxHeartbeats 1000000 in
theorem plus6_none2 (i : Int) (s : Bool) (A : Option Addr) (l c : Nat) (B : Option Addr) (k d N D : Nat) (i2 : Int) (s2 : Bool) (A2 : Option Addr) (l2 c2 : Nat) (B2 : Option Addr) (k2 d2 N2 D2 : Nat) (f2 : Bool) (j : Int) (r : Bool) (A3 : Option Addr) (l3 c3 : Nat) (B3 : Option Addr) (k3 d3 N3 D3 : Nat) (j2 : Int) (r2 : Bool) (A4 : Option Addr) (l4 c4 : Nat) (B4 : Option Addr) (k4 d4 N4 D4 : Nat) (w : World) :
    Calls Try.prog 26 #[.agg #[.bool false, .int .i64 i, .bool s, .slice A l c, .slice B k d, .int .i64 i2, .bool s2, .slice A2 l2 c2, .slice B2 k2 d2], .agg #[.bool true, .int .i64 j, .bool r, .slice A3 l3 c3, .slice B3 k3 d3, .int .i64 j2, .bool r2, .slice A4 l4 c4, .slice B4 k4 d4]] w (RetSet true 0 false (fracN 0 1 0) (fracD 0 1 0) 0 false (fracN 0 1 0) (fracD 0 1 0) w) := by
  have HFI := Lib.hid (fun w => none6_any w)
  generalize fracN 0 1 0 = N at HFI ⊢
  generalize fracD 0 1 0 = D at HFI ⊢
  have hO := Own.start w
  have hf : True := trivial
  go_enter Try.func26, Try.ntmps26
  go_wp2_with (first | ((with_reducible refine at_box ?_); refine own_box (cs := [.bool false, .int .i64 i, .bool s, .slice A l c, .slice B k d, .int .i64 i2, .bool s2, .slice A2 l2 c2, .slice B2 k2 d2]) hO rfl rfl ?_; clear hO; intro ga wa hO; clear hf; have hf := hO.cells; simp only [BC, CC, Nat.zero_add, Nat.reduceAdd, and_true] at hf) | ((with_reducible refine at_box ?_); refine own_box (cs := [.bool true, .int .i64 j, .bool r, .slice A3 l3 c3, .slice B3 k3 d3, .int .i64 j2, .bool r2, .slice A4 l4 c4, .slice B4 k4 d4]) hO rfl rfl ?_; clear hO; intro gb wa hO; clear hf; have hf := hO.cells; simp only [BC, CC, Nat.zero_add, Nat.reduceAdd, and_true] at hf) | ((with_reducible refine at_alloc ?_); refine own_alloc hO zero_set rfl rfl ?_; clear hO; intro g w1 hO; clear hf; have hf := hO.cells; simp only [BC, CC, Nat.zero_add, Nat.reduceAdd, and_true] at hf))
  refine (HFI.out _).mono ?_
  rintro e w2 ⟨A1, n1, c1, A2, n2, c2, A3, n3, c3, A4, n4, c4, rfl, hR1, hR2, hE1⟩
  have hO := ((((hO.ext hE1).add hR1.1).add hR1.2).add hR2.1).add hR2.2
  clear hf
  have hf := hO.cells
  simp only [BC, CC, Nat.zero_add, Nat.reduceAdd, and_true] at hf
  clear hR1 hR2 hE1
  go_wp2_with (first | ((with_reducible refine at_store (T := 49) ?_); refine own_store (T := 49) hO 0 rfl rfl rfl size_set rfl rfl rfl ?_; clear hO; intro w1 hO; simp only [List.set_cons_zero, List.set_cons_succ, spl, List.take_succ_cons, List.take_zero, List.nil_append, List.cons_append, List.length_cons, List.length_nil, List.drop_succ_cons, List.drop_zero, List.drop_nil, Nat.reduceAdd, Nat.zero_add, List.append_nil] at hO; clear hf; have hf := hO.cells; simp only [BC, CC, Nat.zero_add, Nat.reduceAdd, and_true] at hf))
  exact own_ret hO 0 rfl rfl rfl agg_set size_set rfl ⟨_, _, _, _, _, _, _, _, _, _, _, _, rfl, ⟨hO.wd 3 rfl, hO.wd 2 rfl⟩, ⟨hO.wd 1 rfl, hO.wd 0 rfl⟩, hO.toExt⟩

set_option maxHeartbeats 4000000 in
theorem plus6_full (i : Int) (s : Bool) (A : Option Addr) (l c : Nat) (B : Option Addr) (k d N D : Nat) (i2 : Int) (s2 : Bool) (A2 : Option Addr) (l2 c2 : Nat) (B2 : Option Addr) (k2 d2 N2 D2 : Nat) (j : Int) (r : Bool) (A3 : Option Addr) (l3 c3 : Nat) (B3 : Option Addr) (k3 d3 N3 D3 : Nat) (j2 : Int) (r2 : Bool) (A4 : Option Addr) (l4 c4 : Nat) (B4 : Option Addr) (k4 d4 N4 D4 : Nat) (w : World) (h1 : RatAt w A l c B k d N D) (h2 : RatAt w A2 l2 c2 B2 k2 d2 N2 D2) (h3 : RatAt w A3 l3 c3 B3 k3 d3 N3 D3) (h4 : RatAt w A4 l4 c4 B4 k4 d4 N4 D4) (u : Int) (un : Bool) (UN UD : Nat) (v' : Int) (vn : Bool) (VN VD : Nat)
    (HT1 : Hid (∀ w, RatAt w A l c B k d N D → RatAt w A3 l3 c3 B3 k3 d3 N3 D3 → Calls Try.prog 52 #[.agg #[.int .i64 i, .bool s, .slice A l c, .slice B k d], .agg #[.int .i64 j, .bool r, .slice A3 l3 c3, .slice B3 k3 d3]] w (RetEnd u un UN UD w)))
    (HT2 : Hid (∀ w, RatAt w A2 l2 c2 B2 k2 d2 N2 D2 → RatAt w A4 l4 c4 B4 k4 d4 N4 D4 → Calls Try.prog 52 #[.agg #[.int .i64 i2, .bool s2, .slice A2 l2 c2, .slice B2 k2 d2], .agg #[.int .i64 j2, .bool r2, .slice A4 l4 c4, .slice B4 k4 d4]] w (RetEnd v' vn VN VD w))) :
    Calls Try.prog 26 #[.agg #[.bool false, .int .i64 i, .bool s, .slice A l c, .slice B k d, .int .i64 i2, .bool s2, .slice A2 l2 c2, .slice B2 k2 d2], .agg #[.bool false, .int .i64 j, .bool r, .slice A3 l3 c3, .slice B3 k3 d3, .int .i64 j2, .bool r2, .slice A4 l4 c4, .slice B4 k4 d4]] w (RetSet false u un UN UD v' vn VN VD w) := by
  have hO := ((((((((Own.start w).add h1.1).add h1.2).add h2.1).add h2.2).add h3.1).add h3.2).add h4.1).add h4.2
  have hf : True := trivial
  clear h1 h2 h3 h4
  go_enter Try.func26, Try.ntmps26
  go_wp2_with (first | ((with_reducible refine at_box ?_); refine own_box (cs := [.bool false, .int .i64 i, .bool s, .slice A l c, .slice B k d, .int .i64 i2, .bool s2, .slice A2 l2 c2, .slice B2 k2 d2]) hO rfl rfl ?_; clear hO; intro ga wa hO; clear hf; have hf := hO.cells; simp only [BC, CC, Nat.zero_add, Nat.reduceAdd, and_true] at hf) | ((with_reducible refine at_box ?_); refine own_box (cs := [.bool false, .int .i64 j, .bool r, .slice A3 l3 c3, .slice B3 k3 d3, .int .i64 j2, .bool r2, .slice A4 l4 c4, .slice B4 k4 d4]) hO rfl rfl ?_; clear hO; intro gb wa hO; clear hf; have hf := hO.cells; simp only [BC, CC, Nat.zero_add, Nat.reduceAdd, and_true] at hf) | ((with_reducible refine at_alloc ?_); refine own_alloc hO zero_set rfl rfl ?_; clear hO; intro g w1 hO; clear hf; have hf := hO.cells; simp only [BC, CC, Nat.zero_add, Nat.reduceAdd, and_true] at hf))
  obtain ⟨S, hS⟩ : ∃ S : World → Prop, S = Own w [⟨g, 49, [.bool false, .int .i64 0, .bool false, .slice none 0 0, .slice none 0 0, .int .i64 0, .bool false, .slice none 0 0, .slice none 0 0]⟩, ⟨gb, 49, [.bool false, .int .i64 j, .bool r, .slice A3 l3 c3, .slice B3 k3 d3, .int .i64 j2, .bool r2, .slice A4 l4 c4, .slice B4 k4 d4]⟩, ⟨ga, 49, [.bool false, .int .i64 i, .bool s, .slice A l c, .slice B k d, .int .i64 i2, .bool s2, .slice A2 l2 c2, .slice B2 k2 d2]⟩] [⟨B4, k4, d4, nd D4⟩, ⟨A4, l4, c4, nd N4⟩, ⟨B3, k3, d3, nd D3⟩, ⟨A3, l3, c3, nd N3⟩, ⟨B2, k2, d2, nd D2⟩, ⟨A2, l2, c2, nd N2⟩, ⟨B, k, d, nd D⟩, ⟨A, l, c, nd N⟩] := ⟨_, rfl⟩
  have hSE : ∀ w w', S w → Ext w w' → S w' := fun w w' h1 h2 => by rw [hS] at h1 ⊢; exact h1.ext h2
  have hS1 : S w1.drew := by rw [hS]; exact hO.ext (Ext.refl w1).drew
  have HS := Lib.hid hS
  clear hS hO hf
  obtain ⟨sp, hsp⟩ : ∃ sp : Nat → Sp, sp = ofList [det (.pointer (some ⟨ga, 1, none⟩)), det (.agg #[.int .i64 i, .bool s, .slice A l c, .slice B k d]), det (.pointer (some ⟨gb, 1, none⟩)), det (.agg #[.int .i64 j, .bool r, .slice A3 l3 c3, .slice B3 k3 d3]), anyOf (fun v wz => ∃ A1 n1 c1 B1 m1 d1, v = .agg #[.int .i64 u, .bool un, .slice A1 n1 c1, .slice B1 m1 d1] ∧ RatAt wz A1 n1 c1 B1 m1 d1 UN UD), det (.pointer (some ⟨ga, 5, none⟩)), det (.agg #[.int .i64 i2, .bool s2, .slice A2 l2 c2, .slice B2 k2 d2]), det (.pointer (some ⟨gb, 5, none⟩)), det (.agg #[.int .i64 j2, .bool r2, .slice A4 l4 c4, .slice B4 k4 d4]), anyOf (fun v wz => ∃ A1 n1 c1 B1 m1 d1, v = .agg #[.int .i64 v', .bool vn, .slice A1 n1 c1, .slice B1 m1 d1] ∧ RatAt wz A1 n1 c1 B1 m1 d1 VN VD), anyOf (fun v wz => ∃ A1 n1 c1 B1 m1 d1 A2 n2 c2 B2 m2 d2, v = .agg #[.bool false, .int .i64 u, .bool un, .slice A1 n1 c1, .slice B1 m1 d1, .int .i64 v', .bool vn, .slice A2 n2 c2, .slice B2 m2 d2] ∧ RatAt wz A1 n1 c1 B1 m1 d1 UN UD ∧ RatAt wz A2 n2 c2 B2 m2 d2 VN VD)] := ⟨_, rfl⟩
  have HSP := Lib.hid hsp
  clear hsp
  refine wp_region_loose 11 S sp (by kernel_rfl) (by kernel_rfl) hS1 hSE ?_
  simp only [List.take_succ_cons, List.take_zero, List.drop_succ_cons, List.drop_zero]
  iterate 10
    refine wpX_step (fun K hK => ?_)
    go_simp
    first
    | (refine ⟨by rw [HSP.out]; rfl, hK _ _ ?_⟩
       clear hK K)
    | (refine StepY.det (by rw [HSP.out]; rfl) ?_ ?_
       · intro wz hz hF
         rw [HS.out] at hz
         have hf := hz.facts
         simp only [BF, CF, Nat.zero_add, Nat.reduceAdd, and_true] at hf
         clear hz hF
         go_simp
         exact ⟨rfl, Ext.refl _⟩
       refine hK _ _ ?_
       clear hK K)
    | (refine StepY.any (by rw [HSP.out]; rfl) ?_ ?_
       · intro wz hz hF
         rw [HS.out] at hz
         have q1 : RatAt wz A l c B k d N D := ⟨hz.wd 7 rfl, hz.wd 6 rfl⟩
         have q2 : RatAt wz A2 l2 c2 B2 k2 d2 N2 D2 := ⟨hz.wd 5 rfl, hz.wd 4 rfl⟩
         have q3 : RatAt wz A3 l3 c3 B3 k3 d3 N3 D3 := ⟨hz.wd 3 rfl, hz.wd 2 rfl⟩
         have q4 : RatAt wz A4 l4 c4 B4 k4 d4 N4 D4 := ⟨hz.wd 1 rfl, hz.wd 0 rfl⟩
         clear hz hF
         go_simp
         go_at_call 52
         first
         | (with_reducible refine (HT1.out _ q1 q3).mono ?_)
         | (with_reducible refine (HT2.out _ q2 q4).mono ?_)
         rintro e w2 ⟨A5, n5, c5, B5, m5, d5, rfl, hW1, hE1⟩
         exact ⟨_, rfl, ⟨A5, n5, c5, B5, m5, d5, rfl, hW1⟩, hE1⟩
       intro v
       refine hK _ _ ?_
       clear hK K)
  refine wpX_step (fun K hK => ?_)
  go_simp
  refine StepY.any (by rw [HSP.out]; rfl) ?_ ?_
  · intro wz hz hF
    obtain ⟨wa', ea, A5, n5, c5, B5, m5, d5, hv1, hw1⟩ := hF.any 4 (by kernel_rfl) (by rw [HSP.out]; rfl)
    obtain ⟨wb', eb, A6, n6, c6, B6, m6, d6, hv2, hw2⟩ := hF.any 9 (by kernel_rfl) (by rw [HSP.out]; rfl)
    clear hF
    simp only [asFun, List.nil_append, List.cons_append, List.getD_cons_succ, List.getD_cons_zero] at hv1 hv2
    subst hv1 hv2
    go_simp
    exact ⟨⟨A5, n5, c5, B5, m5, d5, A6, n6, c6, B6, m6, d6, rfl, hw1.ext ea, hw2.ext eb⟩, Ext.refl _⟩
  intro v
  refine hK _ _ ?_
  clear hK K
  refine wpX_nil ?_
  intro w3 hz hF
  obtain ⟨w0, e0, A5, n5, c5, B5, m5, d5, A6, n6, c6, B6, m6, d6, hv, hw1, hw2⟩ := fact_any (hF 10 (by omega)) (by rw [HSP.out]; rfl)
  clear hF
  simp only [asFun, List.nil_append, List.cons_append, List.getD_cons_succ, List.getD_cons_zero] at hv
  subst hv
  rw [HS.out] at hz
  have hO := (((hz.add (hw1.ext e0).1).add (hw1.ext e0).2).add (hw2.ext e0).1).add (hw2.ext e0).2
  have hf : True := trivial
  clear hz hw1 hw2 e0
  go_wp2_with (first | ((with_reducible refine at_store (T := 49) ?_); refine own_store (T := 49) hO 0 rfl rfl rfl size_set rfl rfl rfl ?_; clear hO; intro w1 hO; simp only [List.set_cons_zero, List.set_cons_succ, spl, List.take_succ_cons, List.take_zero, List.nil_append, List.cons_append, List.length_cons, List.length_nil, List.drop_succ_cons, List.drop_zero, List.drop_nil, Nat.reduceAdd, Nat.zero_add, List.append_nil] at hO; clear hf; have hf := hO.cells; simp only [BC, CC, Nat.zero_add, Nat.reduceAdd, and_true] at hf))
  exact own_ret hO 0 rfl rfl rfl agg_set size_set rfl ⟨_, _, _, _, _, _, _, _, _, _, _, _, rfl, ⟨hO.wd 3 rfl, hO.wd 2 rfl⟩, ⟨hO.wd 1 rfl, hO.wd 0 rfl⟩, hO.toExt⟩
end Go.Proofs.Ytllfcklgljdgeaa
