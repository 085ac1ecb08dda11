/-
  The walk of TotalPlays. Conditions: those that each theorem names.
-/
import Derived.Test.YtfbjeifhpmdjaaaGreatP39
namespace Go.Proofs.YtfbjeifhpmdjaaaGreat
open Go.RowKit Nm Rn
set_option maxRecDepth 100000
set_option linter.unusedVariables false
set_option linter.unusedSimpArgs false

theorem zero_pa4 (w : World) : (zeroValue 46).run Tryz.prog w = .ok (.agg #[.pointer none, .pointer none, .pointer none, .pointer none]) w := by kernel_rfl
theorem zero_da4 (w : World) : (zeroValue 47).run Tryz.prog w = .ok (.agg #[.bool false, .slice none 0 0, .slice none 0 0, .bool false, .bool false, .bool false, .int .u64 0, .bool false, .slice none 0 0, .slice none 0 0, .bool false, .bool false, .bool false, .int .u64 0, .bool false, .slice none 0 0, .slice none 0 0, .bool false, .bool false, .bool false, .int .u64 0, .bool false, .slice none 0 0, .slice none 0 0, .bool false, .bool false, .bool false, .int .u64 0]) w := by kernel_rfl
theorem zero_step4 (w : World) : (zeroValue 51).run Tryz.prog w = .ok (.agg #[.int .i64 0, .int .i64 0, .int .i64 0, .int .u64 0, .int .u64 0, .int .i64 0, .int .i64 0]) w := by kernel_rfl
theorem size_step4 (w : World) : (sizeOf 51).run Tryz.prog w = .ok 7 w := by kernel_rfl
theorem agg_step4 (w : World) : (isAgg 51).run Tryz.prog w = .ok true w := by kernel_rfl
theorem size_ptr4 (w : World) : (sizeOf 45).run Tryz.prog w = .ok 1 w := by kernel_rfl
def AtDS (S : Sm) (v : Value) (w : World) : Prop := ∃ s N D A l c B k d, v = dsV s A l c B k d S.p S.m S.n S.t ∧ Hid (DR S.T s N D) ∧ RatAt w A l c B k d N D
theorem sums_find {t : Nat} (ht : t < 4) (X : List Bx) (b c : Bx) (G : Nat → Nat) (Z : Nat → Sm) : ∃ ko : Nat, (X ++ b :: c :: sums G Z)[ko]? = some ⟨G t, 55, (Z t).cs⟩ := List.getElem?_of_mem (by
  have := sums_at ht G Z
  simp only [List.mem_append, List.mem_cons]
  exact .inr (.inr (.inr this)))
set_option maxHeartbeats 16000000 in
theorem plays_walk (A : Option Addr) (n c : Nat) (ts : List Stp) (w : World) (h : Sps w A n c ts) :
    Calls Tryz.prog 5 #[.slice A n c] w fun e w' => e = .returned (.bool true) ∧ Ext w w' := by
  have HT := Lib.hid h
  have hn63 := h.small
  clear h
  have HL := Lib.hid (fun w => lives4_any w)
  have HDN := Lib.hid (fun w => dnew_any (w := w))
  have hf : True := trivial
  have hO := Own.start w
  go_enter Tryz.func5, Tryz.ntmps5
  go_wp2_with (first | ((with_reducible refine at_alloc (T := 46) ?_); refine own_alloc hO zero_pa4 rfl rfl ?_; clear hO; intro ga wa hO) | ((with_reducible refine at_alloc (T := 47) ?_); refine own_alloc hO zero_da4 rfl rfl ?_; clear hO; intro gd wb hO))
  go_loopw [5] (fun kv wr => ∃ i : Nat, kv = .int .i64 (i : Int) ∧ i ≤ 4 ∧ ((i = 0 ∧ Own w [⟨gd, 47, [.bool false, .slice none 0 0, .slice none 0 0, .bool false, .bool false, .bool false, .int .u64 0, .bool false, .slice none 0 0, .slice none 0 0, .bool false, .bool false, .bool false, .int .u64 0, .bool false, .slice none 0 0, .slice none 0 0, .bool false, .bool false, .bool false, .int .u64 0, .bool false, .slice none 0 0, .slice none 0 0, .bool false, .bool false, .bool false, .int .u64 0]⟩, ⟨ga, 46, [.pointer none, .pointer none, .pointer none, .pointer none]⟩] [] wr) ∨ (i = 1 ∧ ∃ (g0 : Nat) (s0 : Bool) (N0 D0 : Nat) (A0 : Option Addr) (l0 c0 : Nat) (B0 : Option Addr) (k0 d0 : Nat), Hid (DR Sm.nil.T s0 N0 D0) ∧ Own w [⟨g0, 55, (Sm.nil).cs⟩, ⟨gd, 47, [.bool s0, .slice A0 l0 c0, .slice B0 k0 d0, .bool false, .bool false, .bool false, .int .u64 0, .bool false, .slice none 0 0, .slice none 0 0, .bool false, .bool false, .bool false, .int .u64 0, .bool false, .slice none 0 0, .slice none 0 0, .bool false, .bool false, .bool false, .int .u64 0, .bool false, .slice none 0 0, .slice none 0 0, .bool false, .bool false, .bool false, .int .u64 0]⟩, ⟨ga, 46, [.pointer (some ⟨g0, 0, none⟩), .pointer none, .pointer none, .pointer none]⟩] [⟨B0, k0, d0, nd D0⟩, ⟨A0, l0, c0, nd N0⟩] wr) ∨ (i = 2 ∧ ∃ (g0 : Nat) (s0 : Bool) (N0 D0 : Nat) (A0 : Option Addr) (l0 c0 : Nat) (B0 : Option Addr) (k0 d0 : Nat), Hid (DR Sm.nil.T s0 N0 D0) ∧ ∃ (g1 : Nat) (s1 : Bool) (N1 D1 : Nat) (A1 : Option Addr) (l1 c1 : Nat) (B1 : Option Addr) (k1 d1 : Nat), Hid (DR Sm.nil.T s1 N1 D1) ∧ Own w [⟨g1, 55, (Sm.nil).cs⟩, ⟨g0, 55, (Sm.nil).cs⟩, ⟨gd, 47, [.bool s0, .slice A0 l0 c0, .slice B0 k0 d0, .bool false, .bool false, .bool false, .int .u64 0, .bool s1, .slice A1 l1 c1, .slice B1 k1 d1, .bool false, .bool false, .bool false, .int .u64 0, .bool false, .slice none 0 0, .slice none 0 0, .bool false, .bool false, .bool false, .int .u64 0, .bool false, .slice none 0 0, .slice none 0 0, .bool false, .bool false, .bool false, .int .u64 0]⟩, ⟨ga, 46, [.pointer (some ⟨g0, 0, none⟩), .pointer (some ⟨g1, 0, none⟩), .pointer none, .pointer none]⟩] [⟨B1, k1, d1, nd D1⟩, ⟨A1, l1, c1, nd N1⟩, ⟨B0, k0, d0, nd D0⟩, ⟨A0, l0, c0, nd N0⟩] wr) ∨ (i = 3 ∧ ∃ (g0 : Nat) (s0 : Bool) (N0 D0 : Nat) (A0 : Option Addr) (l0 c0 : Nat) (B0 : Option Addr) (k0 d0 : Nat), Hid (DR Sm.nil.T s0 N0 D0) ∧ ∃ (g1 : Nat) (s1 : Bool) (N1 D1 : Nat) (A1 : Option Addr) (l1 c1 : Nat) (B1 : Option Addr) (k1 d1 : Nat), Hid (DR Sm.nil.T s1 N1 D1) ∧ ∃ (g2 : Nat) (s2 : Bool) (N2 D2 : Nat) (A2 : Option Addr) (l2 c2 : Nat) (B2 : Option Addr) (k2 d2 : Nat), Hid (DR Sm.nil.T s2 N2 D2) ∧ Own w [⟨g2, 55, (Sm.nil).cs⟩, ⟨g1, 55, (Sm.nil).cs⟩, ⟨g0, 55, (Sm.nil).cs⟩, ⟨gd, 47, [.bool s0, .slice A0 l0 c0, .slice B0 k0 d0, .bool false, .bool false, .bool false, .int .u64 0, .bool s1, .slice A1 l1 c1, .slice B1 k1 d1, .bool false, .bool false, .bool false, .int .u64 0, .bool s2, .slice A2 l2 c2, .slice B2 k2 d2, .bool false, .bool false, .bool false, .int .u64 0, .bool false, .slice none 0 0, .slice none 0 0, .bool false, .bool false, .bool false, .int .u64 0]⟩, ⟨ga, 46, [.pointer (some ⟨g0, 0, none⟩), .pointer (some ⟨g1, 0, none⟩), .pointer (some ⟨g2, 0, none⟩), .pointer none]⟩] [⟨B2, k2, d2, nd D2⟩, ⟨A2, l2, c2, nd N2⟩, ⟨B1, k1, d1, nd D1⟩, ⟨A1, l1, c1, nd N1⟩, ⟨B0, k0, d0, nd D0⟩, ⟨A0, l0, c0, nd N0⟩] wr) ∨ (i = 4 ∧ ∃ (g0 : Nat) (s0 : Bool) (N0 D0 : Nat) (A0 : Option Addr) (l0 c0 : Nat) (B0 : Option Addr) (k0 d0 : Nat), Hid (DR Sm.nil.T s0 N0 D0) ∧ ∃ (g1 : Nat) (s1 : Bool) (N1 D1 : Nat) (A1 : Option Addr) (l1 c1 : Nat) (B1 : Option Addr) (k1 d1 : Nat), Hid (DR Sm.nil.T s1 N1 D1) ∧ ∃ (g2 : Nat) (s2 : Bool) (N2 D2 : Nat) (A2 : Option Addr) (l2 c2 : Nat) (B2 : Option Addr) (k2 d2 : Nat), Hid (DR Sm.nil.T s2 N2 D2) ∧ ∃ (g3 : Nat) (s3 : Bool) (N3 D3 : Nat) (A3 : Option Addr) (l3 c3 : Nat) (B3 : Option Addr) (k3 d3 : Nat), Hid (DR Sm.nil.T s3 N3 D3) ∧ Own w [⟨g3, 55, (Sm.nil).cs⟩, ⟨g2, 55, (Sm.nil).cs⟩, ⟨g1, 55, (Sm.nil).cs⟩, ⟨g0, 55, (Sm.nil).cs⟩, ⟨gd, 47, [.bool s0, .slice A0 l0 c0, .slice B0 k0 d0, .bool false, .bool false, .bool false, .int .u64 0, .bool s1, .slice A1 l1 c1, .slice B1 k1 d1, .bool false, .bool false, .bool false, .int .u64 0, .bool s2, .slice A2 l2 c2, .slice B2 k2 d2, .bool false, .bool false, .bool false, .int .u64 0, .bool s3, .slice A3 l3 c3, .slice B3 k3 d3, .bool false, .bool false, .bool false, .int .u64 0]⟩, ⟨ga, 46, [.pointer (some ⟨g0, 0, none⟩), .pointer (some ⟨g1, 0, none⟩), .pointer (some ⟨g2, 0, none⟩), .pointer (some ⟨g3, 0, none⟩)]⟩] [⟨B3, k3, d3, nd D3⟩, ⟨A3, l3, c3, nd N3⟩, ⟨B2, k2, d2, nd D2⟩, ⟨A2, l2, c2, nd N2⟩, ⟨B1, k1, d1, nd D1⟩, ⟨A1, l1, c1, nd N1⟩, ⟨B0, k0, d0, nd D0⟩, ⟨A0, l0, c0, nd N0⟩] wr))) (fun kv _ => 4 - (intOf kv).toNat)
  case atStart => exact ⟨0, rfl, by omega, .inl ⟨rfl, hO⟩⟩
  case round =>
    obtain ⟨i, rfl, hi3, hcase⟩ := hrel
    clear hO
    rcases hcase with hcase | hcase | hcase | hcase | hcase
    · as_aux_lemma =>
        obtain ⟨rfl, hOr⟩ := hcase
        have hO := hOr
        clear hOr
        go_wp2_with fail
        refine (tnew_any hO).mono ?_
        rintro e w2 ⟨g0, rfl, hO2⟩
        clear hO
        have hO := hO2
        clear hO2
        have hf := hO.cells
        simp only [BC, CC, Nat.zero_add, Nat.reduceAdd, and_true] at hf
        go_wp2_with ((with_reducible refine at_store (T := 45) ?_); refine own_store (vs := [.pointer (some ⟨g0, 0, none⟩)]) (T := 45) hO 2 rfl rfl rfl size_ptr4 rfl rfl rfl ?_; clear hO; intro wb hO; simp only [List.set_cons_zero, List.set_cons_succ, spl, List.take_succ_cons, List.take_zero, List.nil_append, List.cons_append, List.length_cons, List.length_nil, List.drop_succ_cons, List.drop_zero, List.drop_nil, Nat.reduceAdd, Nat.zero_add, List.append_nil] at hO; clear hf; have hf := hO.cells; simp only [BC, CC, Nat.zero_add, Nat.reduceAdd, and_true] at hf)
        refine (HDN.out _).mono ?_
        rintro e w3 ⟨s0, N0, D0, A0, l0, c0, B0, k0, d0, rfl, H0, hR, hE⟩
        have hO := ((hO.ext hE).add hR.1).add hR.2
        clear hE hR
        clear hf
        have hf := hO.cells
        simp only [BC, CC, Nat.zero_add, Nat.reduceAdd, and_true] at hf
        go_wp2_with (first | ((with_reducible refine at_store (T := 40) ?_); refine own_store (vs := [.bool s0, .slice A0 l0 c0, .slice B0 k0 d0, .bool false, .bool false, .bool false, .int .u64 0]) (T := 40) hO 1 rfl rfl rfl size_ds rfl rfl rfl ?_; clear hO; intro wc hO; simp only [List.set_cons_zero, List.set_cons_succ, spl, List.take_succ_cons, List.take_zero, List.nil_append, List.cons_append, List.length_cons, List.length_nil, List.drop_succ_cons, List.drop_zero, List.drop_nil, Nat.reduceAdd, Nat.zero_add, List.append_nil] at hO; clear hf; have hf := hO.cells; simp only [BC, CC, Nat.zero_add, Nat.reduceAdd, and_true] at hf) | (go_at_call 12; (with_reducible refine (HL.out _).mono ?_); rintro e w5 ⟨rfl, hE⟩; have hO := hO.ext hE; clear hE; clear hf; have hf := hO.cells; simp only [BC, CC, Nat.zero_add, Nat.reduceAdd, and_true] at hf))
        go_roundw
        case rel => exact ⟨1, rfl, by omega, .inr (.inl ⟨rfl, g0, s0, N0, D0, A0, l0, c0, B0, k0, d0, H0, hO⟩)⟩
        case measure => simp [intOf]
    · as_aux_lemma =>
        obtain ⟨rfl, g0, s0, N0, D0, A0, l0, c0, B0, k0, d0, H0, hOr⟩ := hcase
        have hO := hOr
        clear hOr
        go_wp2_with fail
        refine (tnew_any hO).mono ?_
        rintro e w2 ⟨g1, rfl, hO2⟩
        clear hO
        have hO := hO2
        clear hO2
        have hf := hO.cells
        simp only [BC, CC, Nat.zero_add, Nat.reduceAdd, and_true] at hf
        go_wp2_with ((with_reducible refine at_store (T := 45) ?_); refine own_store (vs := [.pointer (some ⟨g1, 0, none⟩)]) (T := 45) hO 3 rfl rfl rfl size_ptr4 rfl rfl rfl ?_; clear hO; intro wb hO; simp only [List.set_cons_zero, List.set_cons_succ, spl, List.take_succ_cons, List.take_zero, List.nil_append, List.cons_append, List.length_cons, List.length_nil, List.drop_succ_cons, List.drop_zero, List.drop_nil, Nat.reduceAdd, Nat.zero_add, List.append_nil] at hO; clear hf; have hf := hO.cells; simp only [BC, CC, Nat.zero_add, Nat.reduceAdd, and_true] at hf)
        refine (HDN.out _).mono ?_
        rintro e w3 ⟨s1, N1, D1, A1, l1, c1, B1, k1, d1, rfl, H1, hR, hE⟩
        have hO := ((hO.ext hE).add hR.1).add hR.2
        clear hE hR
        clear hf
        have hf := hO.cells
        simp only [BC, CC, Nat.zero_add, Nat.reduceAdd, and_true] at hf
        go_wp2_with (first | ((with_reducible refine at_store (T := 40) ?_); refine own_store (vs := [.bool s1, .slice A1 l1 c1, .slice B1 k1 d1, .bool false, .bool false, .bool false, .int .u64 0]) (T := 40) hO 2 rfl rfl rfl size_ds rfl rfl rfl ?_; clear hO; intro wc hO; simp only [List.set_cons_zero, List.set_cons_succ, spl, List.take_succ_cons, List.take_zero, List.nil_append, List.cons_append, List.length_cons, List.length_nil, List.drop_succ_cons, List.drop_zero, List.drop_nil, Nat.reduceAdd, Nat.zero_add, List.append_nil] at hO; clear hf; have hf := hO.cells; simp only [BC, CC, Nat.zero_add, Nat.reduceAdd, and_true] at hf) | (go_at_call 12; (with_reducible refine (HL.out _).mono ?_); rintro e w5 ⟨rfl, hE⟩; have hO := hO.ext hE; clear hE; clear hf; have hf := hO.cells; simp only [BC, CC, Nat.zero_add, Nat.reduceAdd, and_true] at hf))
        go_roundw
        case rel => exact ⟨2, rfl, by omega, .inr (.inr (.inl ⟨rfl, g0, s0, N0, D0, A0, l0, c0, B0, k0, d0, H0, g1, s1, N1, D1, A1, l1, c1, B1, k1, d1, H1, hO⟩))⟩
        case measure => simp [intOf]
    · as_aux_lemma =>
        obtain ⟨rfl, g0, s0, N0, D0, A0, l0, c0, B0, k0, d0, H0, g1, s1, N1, D1, A1, l1, c1, B1, k1, d1, H1, hOr⟩ := hcase
        have hO := hOr
        clear hOr
        go_wp2_with fail
        refine (tnew_any hO).mono ?_
        rintro e w2 ⟨g2, rfl, hO2⟩
        clear hO
        have hO := hO2
        clear hO2
        have hf := hO.cells
        simp only [BC, CC, Nat.zero_add, Nat.reduceAdd, and_true] at hf
        go_wp2_with ((with_reducible refine at_store (T := 45) ?_); refine own_store (vs := [.pointer (some ⟨g2, 0, none⟩)]) (T := 45) hO 4 rfl rfl rfl size_ptr4 rfl rfl rfl ?_; clear hO; intro wb hO; simp only [List.set_cons_zero, List.set_cons_succ, spl, List.take_succ_cons, List.take_zero, List.nil_append, List.cons_append, List.length_cons, List.length_nil, List.drop_succ_cons, List.drop_zero, List.drop_nil, Nat.reduceAdd, Nat.zero_add, List.append_nil] at hO; clear hf; have hf := hO.cells; simp only [BC, CC, Nat.zero_add, Nat.reduceAdd, and_true] at hf)
        refine (HDN.out _).mono ?_
        rintro e w3 ⟨s2, N2, D2, A2, l2, c2, B2, k2, d2, rfl, H2, hR, hE⟩
        have hO := ((hO.ext hE).add hR.1).add hR.2
        clear hE hR
        clear hf
        have hf := hO.cells
        simp only [BC, CC, Nat.zero_add, Nat.reduceAdd, and_true] at hf
        go_wp2_with (first | ((with_reducible refine at_store (T := 40) ?_); refine own_store (vs := [.bool s2, .slice A2 l2 c2, .slice B2 k2 d2, .bool false, .bool false, .bool false, .int .u64 0]) (T := 40) hO 3 rfl rfl rfl size_ds rfl rfl rfl ?_; clear hO; intro wc hO; simp only [List.set_cons_zero, List.set_cons_succ, spl, List.take_succ_cons, List.take_zero, List.nil_append, List.cons_append, List.length_cons, List.length_nil, List.drop_succ_cons, List.drop_zero, List.drop_nil, Nat.reduceAdd, Nat.zero_add, List.append_nil] at hO; clear hf; have hf := hO.cells; simp only [BC, CC, Nat.zero_add, Nat.reduceAdd, and_true] at hf) | (go_at_call 12; (with_reducible refine (HL.out _).mono ?_); rintro e w5 ⟨rfl, hE⟩; have hO := hO.ext hE; clear hE; clear hf; have hf := hO.cells; simp only [BC, CC, Nat.zero_add, Nat.reduceAdd, and_true] at hf))
        go_roundw
        case rel => exact ⟨3, rfl, by omega, .inr (.inr (.inr (.inl ⟨rfl, g0, s0, N0, D0, A0, l0, c0, B0, k0, d0, H0, g1, s1, N1, D1, A1, l1, c1, B1, k1, d1, H1, g2, s2, N2, D2, A2, l2, c2, B2, k2, d2, H2, hO⟩)))⟩
        case measure => simp [intOf]
    · as_aux_lemma =>
        obtain ⟨rfl, g0, s0, N0, D0, A0, l0, c0, B0, k0, d0, H0, g1, s1, N1, D1, A1, l1, c1, B1, k1, d1, H1, g2, s2, N2, D2, A2, l2, c2, B2, k2, d2, H2, hOr⟩ := hcase
        have hO := hOr
        clear hOr
        go_wp2_with fail
        refine (tnew_any hO).mono ?_
        rintro e w2 ⟨g3, rfl, hO2⟩
        clear hO
        have hO := hO2
        clear hO2
        have hf := hO.cells
        simp only [BC, CC, Nat.zero_add, Nat.reduceAdd, and_true] at hf
        go_wp2_with ((with_reducible refine at_store (T := 45) ?_); refine own_store (vs := [.pointer (some ⟨g3, 0, none⟩)]) (T := 45) hO 5 rfl rfl rfl size_ptr4 rfl rfl rfl ?_; clear hO; intro wb hO; simp only [List.set_cons_zero, List.set_cons_succ, spl, List.take_succ_cons, List.take_zero, List.nil_append, List.cons_append, List.length_cons, List.length_nil, List.drop_succ_cons, List.drop_zero, List.drop_nil, Nat.reduceAdd, Nat.zero_add, List.append_nil] at hO; clear hf; have hf := hO.cells; simp only [BC, CC, Nat.zero_add, Nat.reduceAdd, and_true] at hf)
        refine (HDN.out _).mono ?_
        rintro e w3 ⟨s3, N3, D3, A3, l3, c3, B3, k3, d3, rfl, H3, hR, hE⟩
        have hO := ((hO.ext hE).add hR.1).add hR.2
        clear hE hR
        clear hf
        have hf := hO.cells
        simp only [BC, CC, Nat.zero_add, Nat.reduceAdd, and_true] at hf
        go_wp2_with (first | ((with_reducible refine at_store (T := 40) ?_); refine own_store (vs := [.bool s3, .slice A3 l3 c3, .slice B3 k3 d3, .bool false, .bool false, .bool false, .int .u64 0]) (T := 40) hO 4 rfl rfl rfl size_ds rfl rfl rfl ?_; clear hO; intro wc hO; simp only [List.set_cons_zero, List.set_cons_succ, spl, List.take_succ_cons, List.take_zero, List.nil_append, List.cons_append, List.length_cons, List.length_nil, List.drop_succ_cons, List.drop_zero, List.drop_nil, Nat.reduceAdd, Nat.zero_add, List.append_nil] at hO; clear hf; have hf := hO.cells; simp only [BC, CC, Nat.zero_add, Nat.reduceAdd, and_true] at hf) | (go_at_call 12; (with_reducible refine (HL.out _).mono ?_); rintro e w5 ⟨rfl, hE⟩; have hO := hO.ext hE; clear hE; clear hf; have hf := hO.cells; simp only [BC, CC, Nat.zero_add, Nat.reduceAdd, and_true] at hf))
        go_roundw
        case rel => exact ⟨4, rfl, by omega, .inr (.inr (.inr (.inr ( ⟨rfl, g0, s0, N0, D0, A0, l0, c0, B0, k0, d0, H0, g1, s1, N1, D1, A1, l1, c1, B1, k1, d1, H1, g2, s2, N2, D2, A2, l2, c2, B2, k2, d2, H2, g3, s3, N3, D3, A3, l3, c3, B3, k3, d3, H3, hO⟩))))⟩
        case measure => simp [intOf]
    · obtain ⟨rfl, g0, s0, N0, D0, A0, l0, c0, B0, k0, d0, H0, g1, s1, N1, D1, A1, l1, c1, B1, k1, d1, H1, g2, s2, N2, D2, A2, l2, c2, B2, k2, d2, H2, g3, s3, N3, D3, A3, l3, c3, B3, k3, d3, H3, hO⟩ := hcase
      obtain ⟨G, hG⟩ : ∃ G : Nat → Nat, G = (fun i => if i = 0 then g0 else if i = 1 then g1 else if i = 2 then g2 else g3) := ⟨_, rfl⟩
      obtain ⟨V, hV⟩ : ∃ V : Nat → Dv, V = (fun i => if i = 0 then ⟨s0, N0, D0, A0, l0, c0, B0, k0, d0⟩ else if i = 1 then ⟨s1, N1, D1, A1, l1, c1, B1, k1, d1⟩ else if i = 2 then ⟨s2, N2, D2, A2, l2, c2, B2, k2, d2⟩ else ⟨s3, N3, D3, A3, l3, c3, B3, k3, d3⟩) := ⟨_, rfl⟩
      have h1 : ∀ (a b c d e f : Bx), [a, b, c, d, e, f].Perm [e, f, d, c, b, a] := fun a b c d e f => (List.perm_append_comm (l₁ := [a, b, c, d]) (l₂ := [e, f])).trans (List.Perm.append_left [e, f] (List.reverse_perm [a, b, c, d]).symm)
      have hP : PS w [] ga gd G (fun _ => Sm.nil) (fun _ => Sm.nil) V wr := by
        subst hG hV
        refine ((Own.perm hO ?_).forget ?_)
        · exact h1 _ _ _ _ _ _
        · intro b hb
          simp [wrds, Dv.ws] at hb ⊢
          rcases hb with hb | hb | hb | hb | hb | hb | hb | hb <;> simp [hb]
      have hg : Hid (PGood 0 (fun _ => Sm.nil) V) := Lib.hid (by
        subst hV
        intro i hi
        refine ⟨Sm.Ok.nil, Nat.zero_le _, ?_⟩
        rcases four_cases hi with rfl | rfl | rfl | rfl
        · exact H0.out
        · exact H1.out
        · exact H2.out
        · exact H3.out)
      have hcut : ∃ G Z, Hid (PGood 0 Z V) ∧ PS w [] ga gd G Z Z V wr := ⟨G, _, hg, hP⟩
      clear hO hi3 hG hV hP hg h1
      obtain ⟨G, Z, hg, hP⟩ := hcut
      clear H0 H1 H2 H3
      rw [show ((4 : Nat) : Int) = 4 from rfl]
      go_wp2_with fail
      go_loopw [6] (fun kv wr => ∃ (i : Nat) (G : Nat → Nat) (Z : Nat → Sm) (V : Nat → Dv), kv = .int .i64 (i : Int) ∧ i ≤ n ∧ i ≤ 2000 ∧ Hid (PGood i Z V) ∧ PS w [] ga gd G Z Z V wr) (fun kv _ => n - (intOf kv).toNat)
      case atStart => exact ⟨0, G, Z, V, rfl, Nat.zero_le _, Nat.zero_le _, hg, hP⟩
      case round =>
        clear hg hP
        obtain ⟨i, G, Z, V, rfl, hin, hi2, hg, hP⟩ := hrel
        by_cases hlt : i < n ∧ i < 2000
        · obtain ⟨ad, q, hA, hq, hok, hab, _⟩ := HT.out.at_ hlt.1
          subst hA
          obtain ⟨p1, hp1⟩ : ∃ p, ad.add (i * 7) = p := ⟨_, rfl⟩
          obtain ⟨qo, qs, qt, qx, qy, qd, qn⟩ := q
          obtain ⟨lx, ly, ln, ls1, ls2, lt1, lt2⟩ := hok
          simp only at lx ly ln ls1 ls2 lt1 lt2
          have HC : Hid (∀ wz, Ext w wz → wz.cell? p1 = some (.int .i64 qo) ∧ wz.cell? ⟨p1.block, p1.off + 1, none⟩ = some (.int .i64 qs) ∧ wz.cell? ⟨p1.block, p1.off + 2, none⟩ = some (.int .i64 qt) ∧ wz.cell? ⟨p1.block, p1.off + 3, none⟩ = some (.int .u64 (qx : Int)) ∧ wz.cell? ⟨p1.block, p1.off + 4, none⟩ = some (.int .u64 (qy : Int)) ∧ wz.cell? ⟨p1.block, p1.off + 5, none⟩ = some (.int .i64 qd) ∧ wz.cell? ⟨p1.block, p1.off + 6, none⟩ = some (.int .i64 qn)) := Lib.hid (fun wz hz => by
            obtain ⟨ad', q', e1, e2, _, _, e3⟩ := (HT.out.ext hz).at_ hlt.1
            rw [hq] at e2
            injection e2 with e2
            injection e1 with e1
            subst e1 e2
            unfold Stp.cell at e3
            simp only [← addr_add4, hp1] at e3
            exact e3)
          clear hq hab
          have bi0 : (0 : Int) ≤ (i : Int) := by omega
          have bi1 : (i : Int) < (n : Int) := by omega
          have bi2 : decide ((i : Int) < 2000) = true := decide_eq_true (by omega)
          have bi3 : decide ((i : Int) < (n : Int)) = true := decide_eq_true (by omega)
          obtain ⟨r0, r1, r2, r3, r4, r5, r6⟩ := HC.out _ hP.toExt
          have hO : Own w (⟨gd, 47, docs V Z⟩ :: ⟨ga, 46, ptrs G⟩ :: sums G Z) (wrds V) _ := hP
          clear hP
          obtain ⟨s, hs⟩ : ∃ s : Nat, s = (qs % 4).toNat := ⟨_, rfl⟩
          obtain ⟨t, ht⟩ : ∃ t : Nat, t = (qt % 4).toNat := ⟨_, rfl⟩
          have HSS := Lib.hid (fun w => slot_any qs w)
          have HSTT := Lib.hid (fun w => slot_any qt w)
          rw [← hs] at HSS
          rw [← ht] at HSTT
          have hs4 : s < 4 := by omega
          have ht4 : t < 4 := by omega
          clear hs ht
          go_upto_region 14 with (first | ((with_reducible refine at_alloc ?_); refine own_alloc hO zero_step4 rfl rfl ?_; clear hO; intro gp w1 hO; clear hf; have hf := hO.cells; simp only [BC, CC, Nat.zero_add, Nat.reduceAdd, and_true] at hf) | ((with_reducible refine at_store (T := 51) ?_); refine own_store (vs := [.int .i64 qo, .int .i64 qs, .int .i64 qt, .int .u64 (qx : Int), .int .u64 (qy : Int), .int .i64 qd, .int .i64 qn]) (T := 51) hO 0 rfl rfl rfl size_step4 rfl rfl rfl ?_; clear hO; intro w2 hO))
          have hP : PS w [⟨gp, 51, [.int .i64 qo, .int .i64 qs, .int .i64 qt, .int .u64 (qx : Int), .int .u64 (qy : Int), .int .i64 qd, .int .i64 qn]⟩] ga gd G Z Z V w2 := hO
          clear hO hf r0 r1 r2 r3 r4 r5 r6 HC
          have hf : True := trivial
          have bs0 : (0 : Int) ≤ (s : Int) := by omega
          have bs1 : (s : Int) < 4 := by omega
          have bt0 : (0 : Int) ≤ (t : Int) := by omega
          have bt1 : (t : Int) < 4 := by omega
          obtain ⟨f0, f1, f2, f3, f4, f5, f6⟩ := hP.step7
          have hvs : qn < 9223372036854775808 := ln
          go_upto_region 17 with (first | (go_at_call 18; (with_reducible refine (HSS.out _).mono ?_); rintro e w5 ⟨rfl, rfl⟩) | (go_at_call 18; (with_reducible refine (HSTT.out _).mono ?_); rintro e w5 ⟨rfl, rfl⟩))
          clear f0 f1 f2 f3 f4 f5 f6 HSS HSTT bi2 bi3 ls1 ls2 lt1 lt2 hp1
          by_cases q0 : qo = 0
          · have z0 : (qo == 0) = true := by rw [beq_iff_eq]; exact q0
            clear q0
            as_aux_lemma =>
              go_wp2_with fail
              refine (tnew_any hP).mono ?_
              rintro e w3 ⟨g, rfl, hO2⟩
              have hO : PS w (⟨g, 55, Sm.nil.cs⟩ :: [⟨gp, 51, [.int .i64 qo, .int .i64 qs, .int .i64 qt, .int .u64 (qx : Int), .int .u64 (qy : Int), .int .i64 qd, .int .i64 qn]⟩]) ga gd G Z Z V w3 := hO2
              clear hO2 hP
              go_wp2_with ((with_reducible refine at_store (T := 45) ?_); refine ps_new (T := 45) hO hs4 rfl rfl size_ptr4 ?_; clear hO; intro w8 hO)
              refine (HDN.out _).mono ?_
              rintro e w6 ⟨s9, N9, D9, A9, l9, c9, B9, k9, d9, rfl, H9, hR9, hE9⟩
              have hO := hO.ext hE9
              go_wp2_with ((with_reducible refine at_store (T := 40) ?_); refine ps_doc (T := 40) hO hs4 ⟨s9, N9, D9, A9, l9, c9, B9, k9, d9⟩ (Sm.nil) hR9 rfl rfl size_ds ?_; clear hO; intro w7 hO; have c1 := hO.ptr hs4; rw [updF_self] at c1)
              go_roundw
              case rel => exact ⟨i + 1, _, _, _, by go_num, by omega, by omega, Lib.hid (hg.out.nil H9.out), hO.drop⟩
              case measure => simp [intOf]; omega
          have z0 : (qo == 0) = false := by rw [beq_eq_false_iff_ne]; exact q0
          have y0 : ¬ qo = 0 := q0
          clear q0
          by_cases q11 : qo = 11
          · have z11 : (qo == 11) = true := by rw [beq_iff_eq]; exact q11
            clear q11
            as_aux_lemma =>
              go_wp2_with (first | ((with_reducible refine at_alloc (T := 55) ?_); refine own_alloc hP zero_sum rfl sc_noU ?_; intro g w3 hO2; rw [← Sm.nil_cs] at hO2; have hO : PS w (⟨g, 55, Sm.nil.cs⟩ :: [⟨gp, 51, [.int .i64 qo, .int .i64 qs, .int .i64 qt, .int .u64 (qx : Int), .int .u64 (qy : Int), .int .i64 qd, .int .i64 qn]⟩]) ga gd G Z Z V w3 := hO2; clear hO2 hP) | ((with_reducible refine at_store (T := 45) ?_); refine ps_new (T := 45) hO hs4 rfl rfl size_ptr4 ?_; clear hO; intro w8 hO))
              refine (HDN.out _).mono ?_
              rintro e w6 ⟨s9, N9, D9, A9, l9, c9, B9, k9, d9, rfl, H9, hR9, hE9⟩
              have hO := hO.ext hE9
              go_wp2_with ((with_reducible refine at_store (T := 40) ?_); refine ps_doc (T := 40) hO hs4 ⟨s9, N9, D9, A9, l9, c9, B9, k9, d9⟩ (Sm.nil) hR9 rfl rfl size_ds ?_; clear hO; intro w7 hO)
              go_roundw
              case rel => exact ⟨i + 1, _, _, _, by go_num, by omega, by omega, Lib.hid (hg.out.nil H9.out), hO.drop⟩
              case measure => simp [intOf]; omega
          have z11 : (qo == 11) = false := by rw [beq_eq_false_iff_ne]; exact q11
          have y11 : ¬ qo = 11 := q11
          clear q11
          by_cases q1 : qo = 1
          · have z1 : (qo == 1) = true := by rw [beq_iff_eq]; exact q1
            clear q1
            as_aux_lemma =>
              have HFL := Lib.hid (fun w => fl4_any qx w)
              have HDA := Lib.hid (fun wz (h : PS w [⟨gp, 51, [.int .i64 qo, .int .i64 qs, .int .i64 qt, .int .u64 (qx : Int), .int .u64 (qy : Int), .int .i64 qd, .int .i64 qn]⟩] ga gd G (updF Z s ((Z s).add qx)) Z V wz) => dadd_any (Z s) qx lx (hg.out.ok hs4).1 (hg.out.nw (by omega) hs4) (hg.out.dr hs4) (h.rat hs4))
              have hO := hP
              clear hP
              go_upto_region 27 with fail
              obtain ⟨S, hS⟩ : ∃ S : World → Prop, S = PS w [⟨gp, 51, [.int .i64 qo, .int .i64 qs, .int .i64 qt, .int .u64 (qx : Int), .int .u64 (qy : Int), .int .i64 qd, .int .i64 qn]⟩] ga gd G Z Z V := ⟨_, rfl⟩
              have hSE : ∀ w w', S w → Ext w w' → S w' := fun w w' h1 h2 => by rw [hS] at h1 ⊢; exact h1.ext h2
              have hS1 : S w2.drew := by rw [hS]; exact hO.ext (Ext.refl w2).drew
              have HS := Lib.hid hS
              clear hS hO hf
              obtain ⟨sp, hsp⟩ : ∃ sp : Nat → Sp, sp = ofList [det (.int .i64 (s : Int)), det (.pointer (some ⟨ga, s, none⟩)), det (.pointer (some ⟨G s, 0, none⟩)), det (.pointer (some ⟨gp, 3, none⟩)), det (.int .u64 (qx : Int)), det (.float .f64 qx)] := ⟨_, rfl⟩
              have HSP := Lib.hid hsp
              clear hsp
              refine wp_region_loose 6 S sp (by kernel_rfl) (by kernel_rfl) hS1 hSE ?_
              simp only [List.take_succ_cons, List.take_zero, List.drop_succ_cons, List.drop_zero]
              iterate 2
                refine wpX_step (fun K hK => ?_)
                go_simp
                refine StepY.det (by rw [HSP.out]; rfl) ?_ ?_
                · intro wz hz hF
                  clear hz hF
                  go_simp
                  exact ⟨rfl, Ext.refl _⟩
                refine hK _ _ ?_
                clear hK K
              refine wpX_step (fun K hK => ?_)
              go_simp
              refine StepY.det (by rw [HSP.out]; rfl) ?_ ?_
              · intro wz hz hF
                rw [HS.out] at hz
                obtain ⟨f0, f1, f2, f3, f4, f5, f6⟩ := hz.step7
                have c1 := hz.ptr hs4
                have c2 := hz.ptr ht4
                obtain ⟨d0, d1, d2, d3, d4, d5, d6⟩ := hz.doc7 hs4
                obtain ⟨e0, e1, e2, e3, e4, e5, e6⟩ := hz.doc7 ht4
                clear hz hF
                go_simp
                exact ⟨rfl, Ext.refl _⟩
              refine hK _ _ ?_
              clear hK K
              refine wpX_step (fun K hK => ?_)
              go_simp
              refine StepY.det (by rw [HSP.out]; rfl) ?_ ?_
              · intro wz hz hF
                clear hz hF
                go_simp
                exact ⟨rfl, Ext.refl _⟩
              refine hK _ _ ?_
              clear hK K
              refine wpX_step (fun K hK => ?_)
              go_simp
              refine StepY.det (by rw [HSP.out]; rfl) ?_ ?_
              · intro wz hz hF
                rw [HS.out] at hz
                obtain ⟨f0, f1, f2, f3, f4, f5, f6⟩ := hz.step7
                have c1 := hz.ptr hs4
                have c2 := hz.ptr ht4
                obtain ⟨d0, d1, d2, d3, d4, d5, d6⟩ := hz.doc7 hs4
                obtain ⟨e0, e1, e2, e3, e4, e5, e6⟩ := hz.doc7 ht4
                clear hz hF
                go_simp
                exact ⟨rfl, Ext.refl _⟩
              refine hK _ _ ?_
              clear hK K
              refine wpX_step (fun K hK => ?_)
              go_simp
              refine StepY.det (by rw [HSP.out]; rfl) ?_ ?_
              · intro wz hz hF
                clear hz hF
                go_simp
                refine (HFL.out _).mono ?_
                rintro e w5 ⟨rfl, rfl⟩
                exact ⟨_, rfl, rfl, Ext.refl _⟩
              refine hK _ _ ?_
              clear hK K
              refine wpX_nil ?_
              intro wq hz hF
              clear hF
              rw [HS.out] at hz
              have hO := hz
              clear hz HS HSP
              have hf : True := trivial
              go_wp2_with fail
              refine (hO.add_ hs4 qx (hg.out.ok hs4) lx).mono ?_
              rintro e w4 ⟨rfl, hO2⟩
              clear hO
              have hO := hO2
              clear hO2
              go_upto_region 28 with fail
              obtain ⟨S, hS⟩ : ∃ S : World → Prop, S = PS w [⟨gp, 51, [.int .i64 qo, .int .i64 qs, .int .i64 qt, .int .u64 (qx : Int), .int .u64 (qy : Int), .int .i64 qd, .int .i64 qn]⟩] ga gd G (updF Z s ((Z s).add qx)) Z V := ⟨_, rfl⟩
              have hSE : ∀ w w', S w → Ext w w' → S w' := fun w w' h1 h2 => by rw [hS] at h1 ⊢; exact h1.ext h2
              have hS1 : S w4.drew := by rw [hS]; exact hO.ext (Ext.refl w4).drew
              have HS := Lib.hid hS
              clear hS hO hf
              obtain ⟨sp, hsp⟩ : ∃ sp : Nat → Sp, sp = ofList [det (.int .i64 (s : Int)), det (.int .i64 (s : Int)), det (.pointer (some ⟨gd, s * 7, none⟩)), det (.agg #[.bool (V s).s, .slice (V s).A (V s).l (V s).c, .slice (V s).B (V s).k (V s).d, .bool (Z s).p, .bool (Z s).m, .bool (Z s).n, .int .u64 ((Z s).t : Int)]), det (.pointer (some ⟨gp, 3, none⟩)), det (.int .u64 (qx : Int)), anyOf (AtDS ((Z s).add qx))] := ⟨_, rfl⟩
              have HSP := Lib.hid hsp
              clear hsp
              refine wp_region_loose 7 S sp (by kernel_rfl) (by kernel_rfl) hS1 hSE ?_
              simp only [List.take_succ_cons, List.take_zero, List.drop_succ_cons, List.drop_zero]
              iterate 3
                refine wpX_step (fun K hK => ?_)
                go_simp
                refine StepY.det (by rw [HSP.out]; rfl) ?_ ?_
                · intro wz hz hF
                  clear hz hF
                  go_simp
                  exact ⟨rfl, Ext.refl _⟩
                refine hK _ _ ?_
                clear hK K
              refine wpX_step (fun K hK => ?_)
              go_simp
              refine StepY.det (by rw [HSP.out]; rfl) ?_ ?_
              · intro wz hz hF
                rw [HS.out] at hz
                obtain ⟨f0, f1, f2, f3, f4, f5, f6⟩ := hz.step7
                have c1 := hz.ptr hs4
                have c2 := hz.ptr ht4
                obtain ⟨d0, d1, d2, d3, d4, d5, d6⟩ := hz.doc7 hs4
                obtain ⟨e0, e1, e2, e3, e4, e5, e6⟩ := hz.doc7 ht4
                clear hz hF
                go_simp
                exact ⟨rfl, Ext.refl _⟩
              refine hK _ _ ?_
              clear hK K
              refine wpX_step (fun K hK => ?_)
              go_simp
              refine StepY.det (by rw [HSP.out]; rfl) ?_ ?_
              · intro wz hz hF
                clear hz hF
                go_simp
                exact ⟨rfl, Ext.refl _⟩
              refine hK _ _ ?_
              clear hK K
              refine wpX_step (fun K hK => ?_)
              go_simp
              refine StepY.det (by rw [HSP.out]; rfl) ?_ ?_
              · intro wz hz hF
                rw [HS.out] at hz
                obtain ⟨f0, f1, f2, f3, f4, f5, f6⟩ := hz.step7
                have c1 := hz.ptr hs4
                have c2 := hz.ptr ht4
                obtain ⟨d0, d1, d2, d3, d4, d5, d6⟩ := hz.doc7 hs4
                obtain ⟨e0, e1, e2, e3, e4, e5, e6⟩ := hz.doc7 ht4
                clear hz hF
                go_simp
                exact ⟨rfl, Ext.refl _⟩
              refine hK _ _ ?_
              clear hK K
              refine wpX_step (fun K hK => ?_)
              go_simp
              refine StepY.any (by rw [HSP.out]; rfl) ?_ ?_
              · intro wz hz hF
                rw [HS.out] at hz
                clear hF
                go_simp
                refine (HDA.out _ hz).mono ?_
                rintro e w2 ⟨s2, N2, D2, A2, l2, c2, B2, k2, d2, rfl, hq2, hR2, hE2⟩
                exact ⟨_, rfl, ⟨s2, N2, D2, A2, l2, c2, B2, k2, d2, rfl, hq2, hR2⟩, hE2⟩
              intro v1
              refine hK _ _ ?_
              clear hK K
              refine wpX_nil ?_
              intro wq hz hF
              obtain ⟨wa', ea, s9, N9, D9, A9, l9, c9, B9, k9, d9, hv9, H9, hR9⟩ := fact_any (hF 6 (by omega)) (by rw [HSP.out]; rfl)
              clear hF
              simp only [asFun, List.nil_append, List.cons_append, List.getD_cons_succ, List.getD_cons_zero] at hv9
              subst hv9
              rw [HS.out] at hz
              have hO := hz
              clear hz HS HSP
              have hf : True := trivial
              replace hR9 := hR9.ext ea
              go_wp2_with ((with_reducible refine at_store (T := 40) ?_); refine ps_doc (T := 40) hO hs4 ⟨s9, N9, D9, A9, l9, c9, B9, k9, d9⟩ ((Z s).add qx) hR9 rfl rfl size_ds ?_; clear hO; intro w7 hO)
              go_roundw
              case rel => exact ⟨i + 1, _, _, _, by go_num, by omega, by omega, Lib.hid (hg.out.add_ hs4 lx H9.out), hO.drop⟩
              case measure => simp [intOf]; omega
          have z1 : (qo == 1) = false := by rw [beq_eq_false_iff_ne]; exact q1
          have y1 : ¬ qo = 1 := q1
          clear q1
          by_cases q2 : qo = 2
          · have z2 : (qo == 2) = true := by rw [beq_iff_eq]; exact q2
            clear q2
            as_aux_lemma =>
              have HFL := Lib.hid (fun w => fl4_any qx w)
              have HFY := Lib.hid (fun w => fl4_any qy w)
              have HDA := Lib.hid (fun wz (h : PS w [⟨gp, 51, [.int .i64 qo, .int .i64 qs, .int .i64 qt, .int .u64 (qx : Int), .int .u64 (qy : Int), .int .i64 qd, .int .i64 qn]⟩] ga gd G (updF Z s ((Z s).mul qx qy)) Z V wz) => dmul_any (Z s) qx qy lx ly (hg.out.ok hs4).1 (hg.out.nw (by omega) hs4) (hg.out.dr hs4) (h.rat hs4))
              have hO := hP
              clear hP
              go_upto_region 30 with fail
              obtain ⟨S, hS⟩ : ∃ S : World → Prop, S = PS w [⟨gp, 51, [.int .i64 qo, .int .i64 qs, .int .i64 qt, .int .u64 (qx : Int), .int .u64 (qy : Int), .int .i64 qd, .int .i64 qn]⟩] ga gd G Z Z V := ⟨_, rfl⟩
              have hSE : ∀ w w', S w → Ext w w' → S w' := fun w w' h1 h2 => by rw [hS] at h1 ⊢; exact h1.ext h2
              have hS1 : S w2.drew := by rw [hS]; exact hO.ext (Ext.refl w2).drew
              have HS := Lib.hid hS
              clear hS hO hf
              obtain ⟨sp, hsp⟩ : ∃ sp : Nat → Sp, sp = ofList [det (.int .i64 (s : Int)), det (.pointer (some ⟨ga, s, none⟩)), det (.pointer (some ⟨G s, 0, none⟩)), det (.pointer (some ⟨gp, 3, none⟩)), det (.int .u64 (qx : Int)), det (.float .f64 qx), det (.pointer (some ⟨gp, 4, none⟩)), det (.int .u64 (qy : Int)), det (.float .f64 qy)] := ⟨_, rfl⟩
              have HSP := Lib.hid hsp
              clear hsp
              refine wp_region_loose 9 S sp (by kernel_rfl) (by kernel_rfl) hS1 hSE ?_
              simp only [List.take_succ_cons, List.take_zero, List.drop_succ_cons, List.drop_zero]
              iterate 2
                refine wpX_step (fun K hK => ?_)
                go_simp
                refine StepY.det (by rw [HSP.out]; rfl) ?_ ?_
                · intro wz hz hF
                  clear hz hF
                  go_simp
                  exact ⟨rfl, Ext.refl _⟩
                refine hK _ _ ?_
                clear hK K
              refine wpX_step (fun K hK => ?_)
              go_simp
              refine StepY.det (by rw [HSP.out]; rfl) ?_ ?_
              · intro wz hz hF
                rw [HS.out] at hz
                obtain ⟨f0, f1, f2, f3, f4, f5, f6⟩ := hz.step7
                have c1 := hz.ptr hs4
                have c2 := hz.ptr ht4
                obtain ⟨d0, d1, d2, d3, d4, d5, d6⟩ := hz.doc7 hs4
                obtain ⟨e0, e1, e2, e3, e4, e5, e6⟩ := hz.doc7 ht4
                clear hz hF
                go_simp
                exact ⟨rfl, Ext.refl _⟩
              refine hK _ _ ?_
              clear hK K
              refine wpX_step (fun K hK => ?_)
              go_simp
              refine StepY.det (by rw [HSP.out]; rfl) ?_ ?_
              · intro wz hz hF
                clear hz hF
                go_simp
                exact ⟨rfl, Ext.refl _⟩
              refine hK _ _ ?_
              clear hK K
              refine wpX_step (fun K hK => ?_)
              go_simp
              refine StepY.det (by rw [HSP.out]; rfl) ?_ ?_
              · intro wz hz hF
                rw [HS.out] at hz
                obtain ⟨f0, f1, f2, f3, f4, f5, f6⟩ := hz.step7
                have c1 := hz.ptr hs4
                have c2 := hz.ptr ht4
                obtain ⟨d0, d1, d2, d3, d4, d5, d6⟩ := hz.doc7 hs4
                obtain ⟨e0, e1, e2, e3, e4, e5, e6⟩ := hz.doc7 ht4
                clear hz hF
                go_simp
                exact ⟨rfl, Ext.refl _⟩
              refine hK _ _ ?_
              clear hK K
              refine wpX_step (fun K hK => ?_)
              go_simp
              refine StepY.det (by rw [HSP.out]; rfl) ?_ ?_
              · intro wz hz hF
                clear hz hF
                go_simp
                refine (HFL.out _).mono ?_
                rintro e w5 ⟨rfl, rfl⟩
                exact ⟨_, rfl, rfl, Ext.refl _⟩
              refine hK _ _ ?_
              clear hK K
              refine wpX_step (fun K hK => ?_)
              go_simp
              refine StepY.det (by rw [HSP.out]; rfl) ?_ ?_
              · intro wz hz hF
                clear hz hF
                go_simp
                exact ⟨rfl, Ext.refl _⟩
              refine hK _ _ ?_
              clear hK K
              refine wpX_step (fun K hK => ?_)
              go_simp
              refine StepY.det (by rw [HSP.out]; rfl) ?_ ?_
              · intro wz hz hF
                rw [HS.out] at hz
                obtain ⟨f0, f1, f2, f3, f4, f5, f6⟩ := hz.step7
                have c1 := hz.ptr hs4
                have c2 := hz.ptr ht4
                obtain ⟨d0, d1, d2, d3, d4, d5, d6⟩ := hz.doc7 hs4
                obtain ⟨e0, e1, e2, e3, e4, e5, e6⟩ := hz.doc7 ht4
                clear hz hF
                go_simp
                exact ⟨rfl, Ext.refl _⟩
              refine hK _ _ ?_
              clear hK K
              refine wpX_step (fun K hK => ?_)
              go_simp
              refine StepY.det (by rw [HSP.out]; rfl) ?_ ?_
              · intro wz hz hF
                clear hz hF
                go_simp
                refine (HFY.out _).mono ?_
                rintro e w5 ⟨rfl, rfl⟩
                exact ⟨_, rfl, rfl, Ext.refl _⟩
              refine hK _ _ ?_
              clear hK K
              refine wpX_nil ?_
              intro wq hz hF
              clear hF
              rw [HS.out] at hz
              have hO := hz
              clear hz HS HSP
              have hf : True := trivial
              go_wp2_with fail
              refine (hO.mul_ hs4 qx qy (hg.out.ok hs4) lx ly).mono ?_
              rintro e w4 ⟨rfl, hO2⟩
              clear hO
              have hO := hO2
              clear hO2
              go_upto_region 31 with fail
              obtain ⟨S, hS⟩ : ∃ S : World → Prop, S = PS w [⟨gp, 51, [.int .i64 qo, .int .i64 qs, .int .i64 qt, .int .u64 (qx : Int), .int .u64 (qy : Int), .int .i64 qd, .int .i64 qn]⟩] ga gd G (updF Z s ((Z s).mul qx qy)) Z V := ⟨_, rfl⟩
              have hSE : ∀ w w', S w → Ext w w' → S w' := fun w w' h1 h2 => by rw [hS] at h1 ⊢; exact h1.ext h2
              have hS1 : S w4.drew := by rw [hS]; exact hO.ext (Ext.refl w4).drew
              have HS := Lib.hid hS
              clear hS hO hf
              obtain ⟨sp, hsp⟩ : ∃ sp : Nat → Sp, sp = ofList [det (.int .i64 (s : Int)), det (.int .i64 (s : Int)), det (.pointer (some ⟨gd, s * 7, none⟩)), det (.agg #[.bool (V s).s, .slice (V s).A (V s).l (V s).c, .slice (V s).B (V s).k (V s).d, .bool (Z s).p, .bool (Z s).m, .bool (Z s).n, .int .u64 ((Z s).t : Int)]), det (.pointer (some ⟨gp, 3, none⟩)), det (.int .u64 (qx : Int)), det (.pointer (some ⟨gp, 4, none⟩)), det (.int .u64 (qy : Int)), anyOf (AtDS ((Z s).mul qx qy))] := ⟨_, rfl⟩
              have HSP := Lib.hid hsp
              clear hsp
              refine wp_region_loose 9 S sp (by kernel_rfl) (by kernel_rfl) hS1 hSE ?_
              simp only [List.take_succ_cons, List.take_zero, List.drop_succ_cons, List.drop_zero]
              iterate 3
                refine wpX_step (fun K hK => ?_)
                go_simp
                refine StepY.det (by rw [HSP.out]; rfl) ?_ ?_
                · intro wz hz hF
                  clear hz hF
                  go_simp
                  exact ⟨rfl, Ext.refl _⟩
                refine hK _ _ ?_
                clear hK K
              refine wpX_step (fun K hK => ?_)
              go_simp
              refine StepY.det (by rw [HSP.out]; rfl) ?_ ?_
              · intro wz hz hF
                rw [HS.out] at hz
                obtain ⟨f0, f1, f2, f3, f4, f5, f6⟩ := hz.step7
                have c1 := hz.ptr hs4
                have c2 := hz.ptr ht4
                obtain ⟨d0, d1, d2, d3, d4, d5, d6⟩ := hz.doc7 hs4
                obtain ⟨e0, e1, e2, e3, e4, e5, e6⟩ := hz.doc7 ht4
                clear hz hF
                go_simp
                exact ⟨rfl, Ext.refl _⟩
              refine hK _ _ ?_
              clear hK K
              refine wpX_step (fun K hK => ?_)
              go_simp
              refine StepY.det (by rw [HSP.out]; rfl) ?_ ?_
              · intro wz hz hF
                clear hz hF
                go_simp
                exact ⟨rfl, Ext.refl _⟩
              refine hK _ _ ?_
              clear hK K
              refine wpX_step (fun K hK => ?_)
              go_simp
              refine StepY.det (by rw [HSP.out]; rfl) ?_ ?_
              · intro wz hz hF
                rw [HS.out] at hz
                obtain ⟨f0, f1, f2, f3, f4, f5, f6⟩ := hz.step7
                have c1 := hz.ptr hs4
                have c2 := hz.ptr ht4
                obtain ⟨d0, d1, d2, d3, d4, d5, d6⟩ := hz.doc7 hs4
                obtain ⟨e0, e1, e2, e3, e4, e5, e6⟩ := hz.doc7 ht4
                clear hz hF
                go_simp
                exact ⟨rfl, Ext.refl _⟩
              refine hK _ _ ?_
              clear hK K
              refine wpX_step (fun K hK => ?_)
              go_simp
              refine StepY.det (by rw [HSP.out]; rfl) ?_ ?_
              · intro wz hz hF
                clear hz hF
                go_simp
                exact ⟨rfl, Ext.refl _⟩
              refine hK _ _ ?_
              clear hK K
              refine wpX_step (fun K hK => ?_)
              go_simp
              refine StepY.det (by rw [HSP.out]; rfl) ?_ ?_
              · intro wz hz hF
                rw [HS.out] at hz
                obtain ⟨f0, f1, f2, f3, f4, f5, f6⟩ := hz.step7
                have c1 := hz.ptr hs4
                have c2 := hz.ptr ht4
                obtain ⟨d0, d1, d2, d3, d4, d5, d6⟩ := hz.doc7 hs4
                obtain ⟨e0, e1, e2, e3, e4, e5, e6⟩ := hz.doc7 ht4
                clear hz hF
                go_simp
                exact ⟨rfl, Ext.refl _⟩
              refine hK _ _ ?_
              clear hK K
              refine wpX_step (fun K hK => ?_)
              go_simp
              refine StepY.any (by rw [HSP.out]; rfl) ?_ ?_
              · intro wz hz hF
                rw [HS.out] at hz
                clear hF
                go_simp
                refine (HDA.out _ hz).mono ?_
                rintro e w2 ⟨s2, N2, D2, A2, l2, c2, B2, k2, d2, rfl, hq2, hR2, hE2⟩
                exact ⟨_, rfl, ⟨s2, N2, D2, A2, l2, c2, B2, k2, d2, rfl, hq2, hR2⟩, hE2⟩
              intro v1
              refine hK _ _ ?_
              clear hK K
              refine wpX_nil ?_
              intro wq hz hF
              obtain ⟨wa', ea, s9, N9, D9, A9, l9, c9, B9, k9, d9, hv9, H9, hR9⟩ := fact_any (hF 8 (by omega)) (by rw [HSP.out]; rfl)
              clear hF
              simp only [asFun, List.nil_append, List.cons_append, List.getD_cons_succ, List.getD_cons_zero] at hv9
              subst hv9
              rw [HS.out] at hz
              have hO := hz
              clear hz HS HSP
              have hf : True := trivial
              replace hR9 := hR9.ext ea
              go_wp2_with ((with_reducible refine at_store (T := 40) ?_); refine ps_doc (T := 40) hO hs4 ⟨s9, N9, D9, A9, l9, c9, B9, k9, d9⟩ ((Z s).mul qx qy) hR9 rfl rfl size_ds ?_; clear hO; intro w7 hO)
              go_roundw
              case rel => exact ⟨i + 1, _, _, _, by go_num, by omega, by omega, Lib.hid (hg.out.mul_ hs4 lx ly H9.out), hO.drop⟩
              case measure => simp [intOf]; omega
          have z2 : (qo == 2) = false := by rw [beq_eq_false_iff_ne]; exact q2
          have y2 : ¬ qo = 2 := q2
          clear q2
          by_cases q3 : qo = 3
          · have z3 : (qo == 3) = true := by rw [beq_iff_eq]; exact q3
            clear q3
            as_aux_lemma =>
              have HDA := Lib.hid (fun wz (h : PS w [⟨gp, 51, [.int .i64 qo, .int .i64 qs, .int .i64 qt, .int .u64 (qx : Int), .int .u64 (qy : Int), .int .i64 qd, .int .i64 qn]⟩] ga gd G (updF Z s ((Z s).merge (Z t))) Z V wz) => dmerge_any (Z s) (Z t) (hg.out.ok hs4).1 (hg.out.ok ht4).1 (hg.out.nw (by omega) hs4) (hg.out.nw (by omega) ht4) (hg.out.dr hs4) (hg.out.dr ht4) (h.rat hs4) (h.rat ht4))
              have hO := hP
              clear hP
              go_upto_region 33 with fail
              obtain ⟨S, hS⟩ : ∃ S : World → Prop, S = PS w [⟨gp, 51, [.int .i64 qo, .int .i64 qs, .int .i64 qt, .int .u64 (qx : Int), .int .u64 (qy : Int), .int .i64 qd, .int .i64 qn]⟩] ga gd G Z Z V := ⟨_, rfl⟩
              have hSE : ∀ w w', S w → Ext w w' → S w' := fun w w' h1 h2 => by rw [hS] at h1 ⊢; exact h1.ext h2
              have hS1 : S w2.drew := by rw [hS]; exact hO.ext (Ext.refl w2).drew
              have HS := Lib.hid hS
              clear hS hO hf
              obtain ⟨sp, hsp⟩ : ∃ sp : Nat → Sp, sp = ofList [det (.int .i64 (s : Int)), det (.pointer (some ⟨ga, s, none⟩)), det (.pointer (some ⟨G s, 0, none⟩)), det (.int .i64 (t : Int)), det (.pointer (some ⟨ga, t, none⟩)), det (.pointer (some ⟨G t, 0, none⟩))] := ⟨_, rfl⟩
              have HSP := Lib.hid hsp
              clear hsp
              refine wp_region_loose 6 S sp (by kernel_rfl) (by kernel_rfl) hS1 hSE ?_
              simp only [List.take_succ_cons, List.take_zero, List.drop_succ_cons, List.drop_zero]
              iterate 2
                refine wpX_step (fun K hK => ?_)
                go_simp
                refine StepY.det (by rw [HSP.out]; rfl) ?_ ?_
                · intro wz hz hF
                  clear hz hF
                  go_simp
                  exact ⟨rfl, Ext.refl _⟩
                refine hK _ _ ?_
                clear hK K
              refine wpX_step (fun K hK => ?_)
              go_simp
              refine StepY.det (by rw [HSP.out]; rfl) ?_ ?_
              · intro wz hz hF
                rw [HS.out] at hz
                obtain ⟨f0, f1, f2, f3, f4, f5, f6⟩ := hz.step7
                have c1 := hz.ptr hs4
                have c2 := hz.ptr ht4
                obtain ⟨d0, d1, d2, d3, d4, d5, d6⟩ := hz.doc7 hs4
                obtain ⟨e0, e1, e2, e3, e4, e5, e6⟩ := hz.doc7 ht4
                clear hz hF
                go_simp
                exact ⟨rfl, Ext.refl _⟩
              refine hK _ _ ?_
              clear hK K
              iterate 2
                refine wpX_step (fun K hK => ?_)
                go_simp
                refine StepY.det (by rw [HSP.out]; rfl) ?_ ?_
                · intro wz hz hF
                  clear hz hF
                  go_simp
                  exact ⟨rfl, Ext.refl _⟩
                refine hK _ _ ?_
                clear hK K
              refine wpX_step (fun K hK => ?_)
              go_simp
              refine StepY.det (by rw [HSP.out]; rfl) ?_ ?_
              · intro wz hz hF
                rw [HS.out] at hz
                obtain ⟨f0, f1, f2, f3, f4, f5, f6⟩ := hz.step7
                have c1 := hz.ptr hs4
                have c2 := hz.ptr ht4
                obtain ⟨d0, d1, d2, d3, d4, d5, d6⟩ := hz.doc7 hs4
                obtain ⟨e0, e1, e2, e3, e4, e5, e6⟩ := hz.doc7 ht4
                clear hz hF
                go_simp
                exact ⟨rfl, Ext.refl _⟩
              refine hK _ _ ?_
              clear hK K
              refine wpX_nil ?_
              intro wq hz hF
              clear hF
              rw [HS.out] at hz
              have hO := hz
              clear hz HS HSP
              have hf : True := trivial
              go_wp2_with fail
              refine (hO.merge_ hs4 ht4 (hg.out.ok hs4) (hg.out.ok ht4)).mono ?_
              rintro e w4 ⟨rfl, hO2⟩
              clear hO
              have hO := hO2
              clear hO2
              go_upto_region 34 with fail
              obtain ⟨S, hS⟩ : ∃ S : World → Prop, S = PS w [⟨gp, 51, [.int .i64 qo, .int .i64 qs, .int .i64 qt, .int .u64 (qx : Int), .int .u64 (qy : Int), .int .i64 qd, .int .i64 qn]⟩] ga gd G (updF Z s ((Z s).merge (Z t))) Z V := ⟨_, rfl⟩
              have hSE : ∀ w w', S w → Ext w w' → S w' := fun w w' h1 h2 => by rw [hS] at h1 ⊢; exact h1.ext h2
              have hS1 : S w4.drew := by rw [hS]; exact hO.ext (Ext.refl w4).drew
              have HS := Lib.hid hS
              clear hS hO hf
              obtain ⟨sp, hsp⟩ : ∃ sp : Nat → Sp, sp = ofList [det (.int .i64 (s : Int)), det (.int .i64 (s : Int)), det (.pointer (some ⟨gd, s * 7, none⟩)), det (.agg #[.bool (V s).s, .slice (V s).A (V s).l (V s).c, .slice (V s).B (V s).k (V s).d, .bool (Z s).p, .bool (Z s).m, .bool (Z s).n, .int .u64 ((Z s).t : Int)]), det (.int .i64 (t : Int)), det (.pointer (some ⟨gd, t * 7, none⟩)), det (.agg #[.bool (V t).s, .slice (V t).A (V t).l (V t).c, .slice (V t).B (V t).k (V t).d, .bool (Z t).p, .bool (Z t).m, .bool (Z t).n, .int .u64 ((Z t).t : Int)]), anyOf (AtDS ((Z s).merge (Z t)))] := ⟨_, rfl⟩
              have HSP := Lib.hid hsp
              clear hsp
              refine wp_region_loose 8 S sp (by kernel_rfl) (by kernel_rfl) hS1 hSE ?_
              simp only [List.take_succ_cons, List.take_zero, List.drop_succ_cons, List.drop_zero]
              iterate 3
                refine wpX_step (fun K hK => ?_)
                go_simp
                refine StepY.det (by rw [HSP.out]; rfl) ?_ ?_
                · intro wz hz hF
                  clear hz hF
                  go_simp
                  exact ⟨rfl, Ext.refl _⟩
                refine hK _ _ ?_
                clear hK K
              refine wpX_step (fun K hK => ?_)
              go_simp
              refine StepY.det (by rw [HSP.out]; rfl) ?_ ?_
              · intro wz hz hF
                rw [HS.out] at hz
                obtain ⟨f0, f1, f2, f3, f4, f5, f6⟩ := hz.step7
                have c1 := hz.ptr hs4
                have c2 := hz.ptr ht4
                obtain ⟨d0, d1, d2, d3, d4, d5, d6⟩ := hz.doc7 hs4
                obtain ⟨e0, e1, e2, e3, e4, e5, e6⟩ := hz.doc7 ht4
                clear hz hF
                go_simp
                exact ⟨rfl, Ext.refl _⟩
              refine hK _ _ ?_
              clear hK K
              iterate 2
                refine wpX_step (fun K hK => ?_)
                go_simp
                refine StepY.det (by rw [HSP.out]; rfl) ?_ ?_
                · intro wz hz hF
                  clear hz hF
                  go_simp
                  exact ⟨rfl, Ext.refl _⟩
                refine hK _ _ ?_
                clear hK K
              refine wpX_step (fun K hK => ?_)
              go_simp
              refine StepY.det (by rw [HSP.out]; rfl) ?_ ?_
              · intro wz hz hF
                rw [HS.out] at hz
                obtain ⟨f0, f1, f2, f3, f4, f5, f6⟩ := hz.step7
                have c1 := hz.ptr hs4
                have c2 := hz.ptr ht4
                obtain ⟨d0, d1, d2, d3, d4, d5, d6⟩ := hz.doc7 hs4
                obtain ⟨e0, e1, e2, e3, e4, e5, e6⟩ := hz.doc7 ht4
                clear hz hF
                go_simp
                exact ⟨rfl, Ext.refl _⟩
              refine hK _ _ ?_
              clear hK K
              refine wpX_step (fun K hK => ?_)
              go_simp
              refine StepY.any (by rw [HSP.out]; rfl) ?_ ?_
              · intro wz hz hF
                rw [HS.out] at hz
                clear hF
                go_simp
                refine (HDA.out _ hz).mono ?_
                rintro e w2 ⟨s2, N2, D2, A2, l2, c2, B2, k2, d2, rfl, hq2, hR2, hE2⟩
                exact ⟨_, rfl, ⟨s2, N2, D2, A2, l2, c2, B2, k2, d2, rfl, hq2, hR2⟩, hE2⟩
              intro v1
              refine hK _ _ ?_
              clear hK K
              refine wpX_nil ?_
              intro wq hz hF
              obtain ⟨wa', ea, s9, N9, D9, A9, l9, c9, B9, k9, d9, hv9, H9, hR9⟩ := fact_any (hF 7 (by omega)) (by rw [HSP.out]; rfl)
              clear hF
              simp only [asFun, List.nil_append, List.cons_append, List.getD_cons_succ, List.getD_cons_zero] at hv9
              subst hv9
              rw [HS.out] at hz
              have hO := hz
              clear hz HS HSP
              have hf : True := trivial
              replace hR9 := hR9.ext ea
              go_wp2_with ((with_reducible refine at_store (T := 40) ?_); refine ps_doc (T := 40) hO hs4 ⟨s9, N9, D9, A9, l9, c9, B9, k9, d9⟩ ((Z s).merge (Z t)) hR9 rfl rfl size_ds ?_; clear hO; intro w7 hO)
              go_roundw
              case rel => exact ⟨i + 1, _, _, _, by go_num, by omega, by omega, Lib.hid (hg.out.merge_ hs4 ht4 H9.out), hO.drop⟩
              case measure => simp [intOf]; omega
          have z3 : (qo == 3) = false := by rw [beq_eq_false_iff_ne]; exact q3
          have y3 : ¬ qo = 3 := q3
          clear q3
          by_cases q4 : qo = 4
          · have z4 : (qo == 4) = true := by rw [beq_iff_eq]; exact q4
            clear q4
            as_aux_lemma =>
              have hO := hP
              clear hP
              have c1 := hO.ptr hs4
              go_wp2_with fail
              refine (hO.neg_ hs4).mono ?_
              rintro e w4 ⟨rfl, hO2⟩
              clear hO c1
              have hO := hO2
              clear hO2
              obtain ⟨d0, d1, d2, d3, d4, d5, d6⟩ := hO.doc7 hs4
              go_wp2_with fail
              refine (dneg_any (Z s) (hg.out.nw (by omega) hs4) (hg.out.dr hs4) (hO.rat hs4)).mono ?_
              rintro e w6 ⟨s9, N9, D9, A9, l9, c9, B9, k9, d9, rfl, H9, hR9, hE9⟩
              have hO := hO.ext hE9
              clear d0 d1 d2 d3 d4 d5 d6
              go_wp2_with ((with_reducible refine at_store (T := 40) ?_); refine ps_doc (T := 40) hO hs4 ⟨s9, N9, D9, A9, l9, c9, B9, k9, d9⟩ ((Z s).neg) hR9 rfl rfl size_ds ?_; clear hO; intro w7 hO)
              go_roundw
              case rel => exact ⟨i + 1, _, _, _, by go_num, by omega, by omega, Lib.hid (hg.out.neg_ hs4 H9.out), hO.drop⟩
              case measure => simp [intOf]; omega
          have z4 : (qo == 4) = false := by rw [beq_eq_false_iff_ne]; exact q4
          have y4 : ¬ qo = 4 := q4
          clear q4
          by_cases q5 : qo = 5
          · have z5 : (qo == 5) = true := by rw [beq_iff_eq]; exact q5
            clear q5
            as_aux_lemma =>
              have hO := hP
              clear hP
              have c2 := hO.ptr ht4
              obtain ⟨ko, hko⟩ := sums_find ht4 [⟨gp, 51, [.int .i64 qo, .int .i64 qs, .int .i64 qt, .int .u64 (qx : Int), .int .u64 (qy : Int), .int .i64 qd, .int .i64 qn]⟩] ⟨gd, 47, docs V Z⟩ ⟨ga, 46, ptrs G⟩ G Z
              have HKO := Lib.hid hko
              clear hko
              have hlc : (Z t).cs.length = 72 := sc_len (sw_len _)
              have HLC := Lib.hid hlc
              clear hlc
              go_wp2_with (first | ((with_reducible refine at_load (T := 55) ?_); refine own_load (T := 55) hO ko HKO.out rfl agg_sum size_sum (by rw [HLC.out]; rfl) (vs := (Z t).cs) (by rw [List.drop_zero, List.take_of_length_le (by rw [HLC.out]; omega)]) ?_) | ((with_reducible refine at_alloc (T := 55) ?_); refine own_alloc hO zero_sum rfl sc_noU ?_; intro g w3 hO2; clear hO) | ((with_reducible refine at_store (T := 55) ?_); refine own_store (vs := (Z t).cs) (T := 55) hO2 0 rfl rfl rfl (fun w => by rw [HLC.out]; exact size_sum w) (sc_one _ _ _ _ _) sc_noU (by rw [HLC.out]; rfl) ?_; clear hO2; intro w4 hO2; rw [spl_zsum HLC.out] at hO2; have hO : PS w (⟨g, 55, (Z t).cs⟩ :: [⟨gp, 51, [.int .i64 qo, .int .i64 qs, .int .i64 qt, .int .u64 (qx : Int), .int .u64 (qy : Int), .int .i64 qd, .int .i64 qn]⟩]) ga gd G Z Z V w4 := hO2; clear hO2; clear c2) | ((with_reducible refine at_store (T := 45) ?_); refine ps_new (T := 45) hO hs4 rfl rfl size_ptr4 ?_; clear hO; intro w8 hO; obtain ⟨d0, d1, d2, d3, d4, d5, d6⟩ := hO.doc7 ht4) | ((with_reducible refine at_store (T := 40) ?_); refine ps_doc (T := 40) hO hs4 (V t) (Z t) (hO.rat ht4) rfl rfl size_ds ?_; clear hO; intro w9 hO))
              go_roundw
              case rel => exact ⟨i + 1, _, _, _, by go_num, by omega, by omega, Lib.hid (hg.out.copy_ ht4), hO.drop⟩
              case measure => simp [intOf]; omega
          have z5 : (qo == 5) = false := by rw [beq_eq_false_iff_ne]; exact q5
          have y5 : ¬ qo = 5 := q5
          clear q5
          by_cases q6 : qo = 6
          · have z6 : (qo == 6) = true := by rw [beq_iff_eq]; exact q6
            clear q6
            as_aux_lemma =>
              have HQ : Hid (∀ wz, PS w [⟨gp, 51, [.int .i64 qo, .int .i64 qs, .int .i64 qt, .int .u64 (qx : Int), .int .u64 (qy : Int), .int .i64 qd, .int .i64 qn]⟩] ga gd G Z Z V wz → Calls Tryz.prog 29 #[.pointer (some ⟨G s, 0, none⟩), .int .i64 qd] wz (RetFl ((Z s).round qd) wz)) := Lib.hid (fun wz h => by
                obtain ⟨L, hL⟩ := h.ask hs4
                exact tround_any (Z s) qd (fun hs => (hg.out.ok hs4).fit hs) hL)
              have HD : Hid (∀ wz, PS w [⟨gp, 51, [.int .i64 qo, .int .i64 qs, .int .i64 qt, .int .u64 (qx : Int), .int .u64 (qy : Int), .int .i64 qd, .int .i64 qn]⟩] ga gd G Z Z V wz → Calls Tryz.prog 13 #[.agg #[.bool (V s).s, .slice (V s).A (V s).l (V s).c, .slice (V s).B (V s).k (V s).d, .bool (Z s).p, .bool (Z s).m, .bool (Z s).n, .int .u64 ((Z s).t : Int)], .int .i64 qd] wz fun e w' => e = .returned (.int .u64 (((Z s).round qd : Nat) : Int)) ∧ Ext wz w') := Lib.hid (fun wz h => by
                by_cases hs0 : (Z s).state = 0
                · exact dround_any (Z s) qd (hg.out.nw (by omega) hs4) (hg.out.dr hs4) (h.rat hs4)
                · exact dround_any (Z s) qd (hg.out.nw (by omega) hs4) (hg.out.dr hs4) (h.rat hs4))
              have HL4 := Lib.hid (fun r w h => bits4_any r w h)
              generalize (Z s).round qd = Vq at *
              have hO := hP
              clear hP
              go_upto_region 43 with fail
              obtain ⟨S, hS⟩ : ∃ S : World → Prop, S = PS w [⟨gp, 51, [.int .i64 qo, .int .i64 qs, .int .i64 qt, .int .u64 (qx : Int), .int .u64 (qy : Int), .int .i64 qd, .int .i64 qn]⟩] ga gd G Z Z V := ⟨_, rfl⟩
              have hSE : ∀ w w', S w → Ext w w' → S w' := fun w w' h1 h2 => by rw [hS] at h1 ⊢; exact h1.ext h2
              have hS1 : S w2.drew := by rw [hS]; exact hO.ext (Ext.refl w2).drew
              have HS := Lib.hid hS
              clear hS hO hf
              obtain ⟨sp, hsp⟩ : ∃ sp : Nat → Sp, sp = ofList [det (.int .i64 (s : Int)), det (.pointer (some ⟨ga, s, none⟩)), det (.pointer (some ⟨G s, 0, none⟩)), det (.pointer (some ⟨gp, 5, none⟩)), det (.int .i64 qd), anyOf (fun v wz => ∃ r, v = .float .f64 r ∧ r < 18446744073709551616 ∧ cn r = Vq), det (.int .u64 (Vq : Int)), det (.int .i64 (s : Int)), det (.pointer (some ⟨gd, s * 7, none⟩)), det (.agg #[.bool (V s).s, .slice (V s).A (V s).l (V s).c, .slice (V s).B (V s).k (V s).d, .bool (Z s).p, .bool (Z s).m, .bool (Z s).n, .int .u64 ((Z s).t : Int)]), det (.pointer (some ⟨gp, 5, none⟩)), det (.int .i64 qd), det (.int .u64 (Vq : Int))] := ⟨_, rfl⟩
              have HSP := Lib.hid hsp
              clear hsp
              refine wp_region_loose 13 S sp (by kernel_rfl) (by kernel_rfl) hS1 hSE ?_
              simp only [List.take_succ_cons, List.take_zero, List.drop_succ_cons, List.drop_zero]
              iterate 2
                refine wpX_step (fun K hK => ?_)
                go_simp
                refine StepY.det (by rw [HSP.out]; rfl) ?_ ?_
                · intro wz hz hF
                  clear hz hF
                  go_simp
                  exact ⟨rfl, Ext.refl _⟩
                refine hK _ _ ?_
                clear hK K
              refine wpX_step (fun K hK => ?_)
              go_simp
              refine StepY.det (by rw [HSP.out]; rfl) ?_ ?_
              · intro wz hz hF
                rw [HS.out] at hz
                obtain ⟨f0, f1, f2, f3, f4, f5, f6⟩ := hz.step7
                have c1 := hz.ptr hs4
                have c2 := hz.ptr ht4
                obtain ⟨d0, d1, d2, d3, d4, d5, d6⟩ := hz.doc7 hs4
                obtain ⟨e0, e1, e2, e3, e4, e5, e6⟩ := hz.doc7 ht4
                clear hz hF
                go_simp
                exact ⟨rfl, Ext.refl _⟩
              refine hK _ _ ?_
              clear hK K
              refine wpX_step (fun K hK => ?_)
              go_simp
              refine StepY.det (by rw [HSP.out]; rfl) ?_ ?_
              · intro wz hz hF
                clear hz hF
                go_simp
                exact ⟨rfl, Ext.refl _⟩
              refine hK _ _ ?_
              clear hK K
              refine wpX_step (fun K hK => ?_)
              go_simp
              refine StepY.det (by rw [HSP.out]; rfl) ?_ ?_
              · intro wz hz hF
                rw [HS.out] at hz
                obtain ⟨f0, f1, f2, f3, f4, f5, f6⟩ := hz.step7
                have c1 := hz.ptr hs4
                have c2 := hz.ptr ht4
                obtain ⟨d0, d1, d2, d3, d4, d5, d6⟩ := hz.doc7 hs4
                obtain ⟨e0, e1, e2, e3, e4, e5, e6⟩ := hz.doc7 ht4
                clear hz hF
                go_simp
                exact ⟨rfl, Ext.refl _⟩
              refine hK _ _ ?_
              clear hK K
              refine wpX_step (fun K hK => ?_)
              go_simp
              refine StepY.any (by rw [HSP.out]; rfl) ?_ ?_
              · intro wz hz hF
                rw [HS.out] at hz
                clear hF
                go_simp
                refine (HQ.out _ hz).mono ?_
                rintro e w2 ⟨r, rfl, hr, hc, hE1⟩
                exact ⟨_, rfl, ⟨r, rfl, hr, hc⟩, hE1⟩
              intro v1
              refine hK _ _ ?_
              clear hK K
              refine wpX_step (fun K hK => ?_)
              go_simp
              refine StepY.det (by rw [HSP.out]; rfl) ?_ ?_
              · intro wz hz hF
                obtain ⟨wa', ea, r, hv1, hr, hc⟩ := hF.any 5 (by kernel_rfl) (by rw [HSP.out]; rfl)
                clear hF hz
                simp only [asFun, List.nil_append, List.cons_append, List.getD_cons_succ, List.getD_cons_zero] at hv1
                subst hv1
                go_simp
                refine (HL4.out r _ hr).mono ?_
                rintro e w5 ⟨rfl, rfl⟩
                exact ⟨_, rfl, by rw [hc]; rfl, Ext.refl _⟩
              refine hK _ _ ?_
              clear hK K
              iterate 2
                refine wpX_step (fun K hK => ?_)
                go_simp
                refine StepY.det (by rw [HSP.out]; rfl) ?_ ?_
                · intro wz hz hF
                  clear hz hF
                  go_simp
                  exact ⟨rfl, Ext.refl _⟩
                refine hK _ _ ?_
                clear hK K
              refine wpX_step (fun K hK => ?_)
              go_simp
              refine StepY.det (by rw [HSP.out]; rfl) ?_ ?_
              · intro wz hz hF
                rw [HS.out] at hz
                obtain ⟨f0, f1, f2, f3, f4, f5, f6⟩ := hz.step7
                have c1 := hz.ptr hs4
                have c2 := hz.ptr ht4
                obtain ⟨d0, d1, d2, d3, d4, d5, d6⟩ := hz.doc7 hs4
                obtain ⟨e0, e1, e2, e3, e4, e5, e6⟩ := hz.doc7 ht4
                clear hz hF
                go_simp
                exact ⟨rfl, Ext.refl _⟩
              refine hK _ _ ?_
              clear hK K
              refine wpX_step (fun K hK => ?_)
              go_simp
              refine StepY.det (by rw [HSP.out]; rfl) ?_ ?_
              · intro wz hz hF
                clear hz hF
                go_simp
                exact ⟨rfl, Ext.refl _⟩
              refine hK _ _ ?_
              clear hK K
              refine wpX_step (fun K hK => ?_)
              go_simp
              refine StepY.det (by rw [HSP.out]; rfl) ?_ ?_
              · intro wz hz hF
                rw [HS.out] at hz
                obtain ⟨f0, f1, f2, f3, f4, f5, f6⟩ := hz.step7
                have c1 := hz.ptr hs4
                have c2 := hz.ptr ht4
                obtain ⟨d0, d1, d2, d3, d4, d5, d6⟩ := hz.doc7 hs4
                obtain ⟨e0, e1, e2, e3, e4, e5, e6⟩ := hz.doc7 ht4
                clear hz hF
                go_simp
                exact ⟨rfl, Ext.refl _⟩
              refine hK _ _ ?_
              clear hK K
              refine wpX_step (fun K hK => ?_)
              go_simp
              refine StepY.det (by rw [HSP.out]; rfl) ?_ ?_
              · intro wz hz hF
                rw [HS.out] at hz
                clear hF
                go_simp
                refine (HD.out _ hz).mono ?_
                rintro e w5 ⟨rfl, hE⟩
                exact ⟨_, rfl, rfl, hE⟩
              refine hK _ _ ?_
              clear hK K
              refine wpX_nil ?_
              intro wq hz hF
              clear hF
              rw [HS.out] at hz
              have hO := hz
              clear hz HS HSP
              have hf : True := trivial
              go_wp2_with fail
              go_roundw
              case rel => exact ⟨i + 1, _, _, _, by go_num, by omega, by omega, Lib.hid (hg.out.up), hO.drop⟩
              case measure => simp [intOf]; omega
          have z6 : (qo == 6) = false := by rw [beq_eq_false_iff_ne]; exact q6
          have y6 : ¬ qo = 6 := q6
          clear q6
          by_cases q7 : qo = 7
          · have z7 : (qo == 7) = true := by rw [beq_iff_eq]; exact q7
            clear q7
            as_aux_lemma =>
              have HQ : Hid (∀ wz, PS w [⟨gp, 51, [.int .i64 qo, .int .i64 qs, .int .i64 qt, .int .u64 (qx : Int), .int .u64 (qy : Int), .int .i64 qd, .int .i64 qn]⟩] ga gd G Z Z V wz → Calls Tryz.prog 30 #[.pointer (some ⟨G s, 0, none⟩), .int .i64 qd, .int .i64 qn] wz (RetFl ((Z s).over qd qn) wz)) := Lib.hid (fun wz h => by
                obtain ⟨L, hL⟩ := h.ask hs4
                exact tover_any (Z s) qd qn ln (fun hs => (hg.out.ok hs4).fit hs) hL)
              have HD : Hid (∀ wz, PS w [⟨gp, 51, [.int .i64 qo, .int .i64 qs, .int .i64 qt, .int .u64 (qx : Int), .int .u64 (qy : Int), .int .i64 qd, .int .i64 qn]⟩] ga gd G Z Z V wz → Calls Tryz.prog 31 #[.agg #[.bool (V s).s, .slice (V s).A (V s).l (V s).c, .slice (V s).B (V s).k (V s).d, .bool (Z s).p, .bool (Z s).m, .bool (Z s).n, .int .u64 ((Z s).t : Int)], .int .i64 qd, .int .i64 qn] wz fun e w' => e = .returned (.int .u64 (((Z s).over qd qn : Nat) : Int)) ∧ Ext wz w') := Lib.hid (fun wz h => dover_any (Z s) qd qn ln (fun hs => (hg.out.ok hs4).fit hs) (hg.out.dr hs4) (h.rat hs4))
              have HL4 := Lib.hid (fun r w h => bits4_any r w h)
              generalize (Z s).over qd qn = Vq at *
              have hO := hP
              clear hP
              go_upto_region 46 with fail
              obtain ⟨S, hS⟩ : ∃ S : World → Prop, S = PS w [⟨gp, 51, [.int .i64 qo, .int .i64 qs, .int .i64 qt, .int .u64 (qx : Int), .int .u64 (qy : Int), .int .i64 qd, .int .i64 qn]⟩] ga gd G Z Z V := ⟨_, rfl⟩
              have hSE : ∀ w w', S w → Ext w w' → S w' := fun w w' h1 h2 => by rw [hS] at h1 ⊢; exact h1.ext h2
              have hS1 : S w2.drew := by rw [hS]; exact hO.ext (Ext.refl w2).drew
              have HS := Lib.hid hS
              clear hS hO hf
              obtain ⟨sp, hsp⟩ : ∃ sp : Nat → Sp, sp = ofList [det (.int .i64 (s : Int)), det (.pointer (some ⟨ga, s, none⟩)), det (.pointer (some ⟨G s, 0, none⟩)), det (.pointer (some ⟨gp, 5, none⟩)), det (.int .i64 qd), det (.pointer (some ⟨gp, 6, none⟩)), det (.int .i64 qn), anyOf (fun v wz => ∃ r, v = .float .f64 r ∧ r < 18446744073709551616 ∧ cn r = Vq), det (.int .u64 (Vq : Int)), det (.int .i64 (s : Int)), det (.pointer (some ⟨gd, s * 7, none⟩)), det (.agg #[.bool (V s).s, .slice (V s).A (V s).l (V s).c, .slice (V s).B (V s).k (V s).d, .bool (Z s).p, .bool (Z s).m, .bool (Z s).n, .int .u64 ((Z s).t : Int)]), det (.pointer (some ⟨gp, 5, none⟩)), det (.int .i64 qd), det (.pointer (some ⟨gp, 6, none⟩)), det (.int .i64 qn), det (.int .u64 (Vq : Int))] := ⟨_, rfl⟩
              have HSP := Lib.hid hsp
              clear hsp
              refine wp_region_loose 17 S sp (by kernel_rfl) (by kernel_rfl) hS1 hSE ?_
              simp only [List.take_succ_cons, List.take_zero, List.drop_succ_cons, List.drop_zero]
              iterate 2
                refine wpX_step (fun K hK => ?_)
                go_simp
                refine StepY.det (by rw [HSP.out]; rfl) ?_ ?_
                · intro wz hz hF
                  clear hz hF
                  go_simp
                  exact ⟨rfl, Ext.refl _⟩
                refine hK _ _ ?_
                clear hK K
              refine wpX_step (fun K hK => ?_)
              go_simp
              refine StepY.det (by rw [HSP.out]; rfl) ?_ ?_
              · intro wz hz hF
                rw [HS.out] at hz
                obtain ⟨f0, f1, f2, f3, f4, f5, f6⟩ := hz.step7
                have c1 := hz.ptr hs4
                have c2 := hz.ptr ht4
                obtain ⟨d0, d1, d2, d3, d4, d5, d6⟩ := hz.doc7 hs4
                obtain ⟨e0, e1, e2, e3, e4, e5, e6⟩ := hz.doc7 ht4
                clear hz hF
                go_simp
                exact ⟨rfl, Ext.refl _⟩
              refine hK _ _ ?_
              clear hK K
              refine wpX_step (fun K hK => ?_)
              go_simp
              refine StepY.det (by rw [HSP.out]; rfl) ?_ ?_
              · intro wz hz hF
                clear hz hF
                go_simp
                exact ⟨rfl, Ext.refl _⟩
              refine hK _ _ ?_
              clear hK K
              refine wpX_step (fun K hK => ?_)
              go_simp
              refine StepY.det (by rw [HSP.out]; rfl) ?_ ?_
              · intro wz hz hF
                rw [HS.out] at hz
                obtain ⟨f0, f1, f2, f3, f4, f5, f6⟩ := hz.step7
                have c1 := hz.ptr hs4
                have c2 := hz.ptr ht4
                obtain ⟨d0, d1, d2, d3, d4, d5, d6⟩ := hz.doc7 hs4
                obtain ⟨e0, e1, e2, e3, e4, e5, e6⟩ := hz.doc7 ht4
                clear hz hF
                go_simp
                exact ⟨rfl, Ext.refl _⟩
              refine hK _ _ ?_
              clear hK K
              refine wpX_step (fun K hK => ?_)
              go_simp
              refine StepY.det (by rw [HSP.out]; rfl) ?_ ?_
              · intro wz hz hF
                clear hz hF
                go_simp
                exact ⟨rfl, Ext.refl _⟩
              refine hK _ _ ?_
              clear hK K
              refine wpX_step (fun K hK => ?_)
              go_simp
              refine StepY.det (by rw [HSP.out]; rfl) ?_ ?_
              · intro wz hz hF
                rw [HS.out] at hz
                obtain ⟨f0, f1, f2, f3, f4, f5, f6⟩ := hz.step7
                have c1 := hz.ptr hs4
                have c2 := hz.ptr ht4
                obtain ⟨d0, d1, d2, d3, d4, d5, d6⟩ := hz.doc7 hs4
                obtain ⟨e0, e1, e2, e3, e4, e5, e6⟩ := hz.doc7 ht4
                clear hz hF
                go_simp
                exact ⟨rfl, Ext.refl _⟩
              refine hK _ _ ?_
              clear hK K
              refine wpX_step (fun K hK => ?_)
              go_simp
              refine StepY.any (by rw [HSP.out]; rfl) ?_ ?_
              · intro wz hz hF
                rw [HS.out] at hz
                clear hF
                go_simp
                refine (HQ.out _ hz).mono ?_
                rintro e w2 ⟨r, rfl, hr, hc, hE1⟩
                exact ⟨_, rfl, ⟨r, rfl, hr, hc⟩, hE1⟩
              intro v1
              refine hK _ _ ?_
              clear hK K
              refine wpX_step (fun K hK => ?_)
              go_simp
              refine StepY.det (by rw [HSP.out]; rfl) ?_ ?_
              · intro wz hz hF
                obtain ⟨wa', ea, r, hv1, hr, hc⟩ := hF.any 7 (by kernel_rfl) (by rw [HSP.out]; rfl)
                clear hF hz
                simp only [asFun, List.nil_append, List.cons_append, List.getD_cons_succ, List.getD_cons_zero] at hv1
                subst hv1
                go_simp
                refine (HL4.out r _ hr).mono ?_
                rintro e w5 ⟨rfl, rfl⟩
                exact ⟨_, rfl, by rw [hc]; rfl, Ext.refl _⟩
              refine hK _ _ ?_
              clear hK K
              iterate 2
                refine wpX_step (fun K hK => ?_)
                go_simp
                refine StepY.det (by rw [HSP.out]; rfl) ?_ ?_
                · intro wz hz hF
                  clear hz hF
                  go_simp
                  exact ⟨rfl, Ext.refl _⟩
                refine hK _ _ ?_
                clear hK K
              refine wpX_step (fun K hK => ?_)
              go_simp
              refine StepY.det (by rw [HSP.out]; rfl) ?_ ?_
              · intro wz hz hF
                rw [HS.out] at hz
                obtain ⟨f0, f1, f2, f3, f4, f5, f6⟩ := hz.step7
                have c1 := hz.ptr hs4
                have c2 := hz.ptr ht4
                obtain ⟨d0, d1, d2, d3, d4, d5, d6⟩ := hz.doc7 hs4
                obtain ⟨e0, e1, e2, e3, e4, e5, e6⟩ := hz.doc7 ht4
                clear hz hF
                go_simp
                exact ⟨rfl, Ext.refl _⟩
              refine hK _ _ ?_
              clear hK K
              refine wpX_step (fun K hK => ?_)
              go_simp
              refine StepY.det (by rw [HSP.out]; rfl) ?_ ?_
              · intro wz hz hF
                clear hz hF
                go_simp
                exact ⟨rfl, Ext.refl _⟩
              refine hK _ _ ?_
              clear hK K
              refine wpX_step (fun K hK => ?_)
              go_simp
              refine StepY.det (by rw [HSP.out]; rfl) ?_ ?_
              · intro wz hz hF
                rw [HS.out] at hz
                obtain ⟨f0, f1, f2, f3, f4, f5, f6⟩ := hz.step7
                have c1 := hz.ptr hs4
                have c2 := hz.ptr ht4
                obtain ⟨d0, d1, d2, d3, d4, d5, d6⟩ := hz.doc7 hs4
                obtain ⟨e0, e1, e2, e3, e4, e5, e6⟩ := hz.doc7 ht4
                clear hz hF
                go_simp
                exact ⟨rfl, Ext.refl _⟩
              refine hK _ _ ?_
              clear hK K
              refine wpX_step (fun K hK => ?_)
              go_simp
              refine StepY.det (by rw [HSP.out]; rfl) ?_ ?_
              · intro wz hz hF
                clear hz hF
                go_simp
                exact ⟨rfl, Ext.refl _⟩
              refine hK _ _ ?_
              clear hK K
              refine wpX_step (fun K hK => ?_)
              go_simp
              refine StepY.det (by rw [HSP.out]; rfl) ?_ ?_
              · intro wz hz hF
                rw [HS.out] at hz
                obtain ⟨f0, f1, f2, f3, f4, f5, f6⟩ := hz.step7
                have c1 := hz.ptr hs4
                have c2 := hz.ptr ht4
                obtain ⟨d0, d1, d2, d3, d4, d5, d6⟩ := hz.doc7 hs4
                obtain ⟨e0, e1, e2, e3, e4, e5, e6⟩ := hz.doc7 ht4
                clear hz hF
                go_simp
                exact ⟨rfl, Ext.refl _⟩
              refine hK _ _ ?_
              clear hK K
              refine wpX_step (fun K hK => ?_)
              go_simp
              refine StepY.det (by rw [HSP.out]; rfl) ?_ ?_
              · intro wz hz hF
                rw [HS.out] at hz
                clear hF
                go_simp
                refine (HD.out _ hz).mono ?_
                rintro e w5 ⟨rfl, hE⟩
                exact ⟨_, rfl, rfl, hE⟩
              refine hK _ _ ?_
              clear hK K
              refine wpX_nil ?_
              intro wq hz hF
              clear hF
              rw [HS.out] at hz
              have hO := hz
              clear hz HS HSP
              have hf : True := trivial
              go_wp2_with fail
              go_roundw
              case rel => exact ⟨i + 1, _, _, _, by go_num, by omega, by omega, Lib.hid (hg.out.up), hO.drop⟩
              case measure => simp [intOf]; omega
          have z7 : (qo == 7) = false := by rw [beq_eq_false_iff_ne]; exact q7
          have y7 : ¬ qo = 7 := q7
          clear q7
          by_cases q8 : qo = 8
          · have z8 : (qo == 8) = true := by rw [beq_iff_eq]; exact q8
            clear q8
            as_aux_lemma =>
              have HQ : Hid (∀ wz, PS w [⟨gp, 51, [.int .i64 qo, .int .i64 qs, .int .i64 qt, .int .u64 (qx : Int), .int .u64 (qy : Int), .int .i64 qd, .int .i64 qn]⟩] ga gd G Z Z V wz → Calls Tryz.prog 32 #[.pointer (some ⟨G s, 0, none⟩), .int .i64 qd] wz (RetFl ((Z s).root qd) wz)) := Lib.hid (fun wz h => by
                obtain ⟨L, hL⟩ := h.ask hs4
                exact troot_any (Z s) qd (fun hs => (hg.out.ok hs4).fit hs) hL)
              have HD : Hid (∀ wz, PS w [⟨gp, 51, [.int .i64 qo, .int .i64 qs, .int .i64 qt, .int .u64 (qx : Int), .int .u64 (qy : Int), .int .i64 qd, .int .i64 qn]⟩] ga gd G Z Z V wz → Calls Tryz.prog 33 #[.agg #[.bool (V s).s, .slice (V s).A (V s).l (V s).c, .slice (V s).B (V s).k (V s).d, .bool (Z s).p, .bool (Z s).m, .bool (Z s).n, .int .u64 ((Z s).t : Int)], .int .i64 qd] wz fun e w' => e = .returned (.int .u64 (((Z s).root qd : Nat) : Int)) ∧ Ext wz w') := Lib.hid (fun wz h => droot_any (Z s) qd (fun hs => (hg.out.ok hs4).fit hs) (hg.out.dr hs4) (h.rat hs4))
              have HL4 := Lib.hid (fun r w h => bits4_any r w h)
              generalize (Z s).root qd = Vq at *
              have hO := hP
              clear hP
              go_upto_region 49 with fail
              obtain ⟨S, hS⟩ : ∃ S : World → Prop, S = PS w [⟨gp, 51, [.int .i64 qo, .int .i64 qs, .int .i64 qt, .int .u64 (qx : Int), .int .u64 (qy : Int), .int .i64 qd, .int .i64 qn]⟩] ga gd G Z Z V := ⟨_, rfl⟩
              have hSE : ∀ w w', S w → Ext w w' → S w' := fun w w' h1 h2 => by rw [hS] at h1 ⊢; exact h1.ext h2
              have hS1 : S w2.drew := by rw [hS]; exact hO.ext (Ext.refl w2).drew
              have HS := Lib.hid hS
              clear hS hO hf
              obtain ⟨sp, hsp⟩ : ∃ sp : Nat → Sp, sp = ofList [det (.int .i64 (s : Int)), det (.pointer (some ⟨ga, s, none⟩)), det (.pointer (some ⟨G s, 0, none⟩)), det (.pointer (some ⟨gp, 5, none⟩)), det (.int .i64 qd), anyOf (fun v wz => ∃ r, v = .float .f64 r ∧ r < 18446744073709551616 ∧ cn r = Vq), det (.int .u64 (Vq : Int)), det (.int .i64 (s : Int)), det (.pointer (some ⟨gd, s * 7, none⟩)), det (.agg #[.bool (V s).s, .slice (V s).A (V s).l (V s).c, .slice (V s).B (V s).k (V s).d, .bool (Z s).p, .bool (Z s).m, .bool (Z s).n, .int .u64 ((Z s).t : Int)]), det (.pointer (some ⟨gp, 5, none⟩)), det (.int .i64 qd), det (.int .u64 (Vq : Int))] := ⟨_, rfl⟩
              have HSP := Lib.hid hsp
              clear hsp
              refine wp_region_loose 13 S sp (by kernel_rfl) (by kernel_rfl) hS1 hSE ?_
              simp only [List.take_succ_cons, List.take_zero, List.drop_succ_cons, List.drop_zero]
              iterate 2
                refine wpX_step (fun K hK => ?_)
                go_simp
                refine StepY.det (by rw [HSP.out]; rfl) ?_ ?_
                · intro wz hz hF
                  clear hz hF
                  go_simp
                  exact ⟨rfl, Ext.refl _⟩
                refine hK _ _ ?_
                clear hK K
              refine wpX_step (fun K hK => ?_)
              go_simp
              refine StepY.det (by rw [HSP.out]; rfl) ?_ ?_
              · intro wz hz hF
                rw [HS.out] at hz
                obtain ⟨f0, f1, f2, f3, f4, f5, f6⟩ := hz.step7
                have c1 := hz.ptr hs4
                have c2 := hz.ptr ht4
                obtain ⟨d0, d1, d2, d3, d4, d5, d6⟩ := hz.doc7 hs4
                obtain ⟨e0, e1, e2, e3, e4, e5, e6⟩ := hz.doc7 ht4
                clear hz hF
                go_simp
                exact ⟨rfl, Ext.refl _⟩
              refine hK _ _ ?_
              clear hK K
              refine wpX_step (fun K hK => ?_)
              go_simp
              refine StepY.det (by rw [HSP.out]; rfl) ?_ ?_
              · intro wz hz hF
                clear hz hF
                go_simp
                exact ⟨rfl, Ext.refl _⟩
              refine hK _ _ ?_
              clear hK K
              refine wpX_step (fun K hK => ?_)
              go_simp
              refine StepY.det (by rw [HSP.out]; rfl) ?_ ?_
              · intro wz hz hF
                rw [HS.out] at hz
                obtain ⟨f0, f1, f2, f3, f4, f5, f6⟩ := hz.step7
                have c1 := hz.ptr hs4
                have c2 := hz.ptr ht4
                obtain ⟨d0, d1, d2, d3, d4, d5, d6⟩ := hz.doc7 hs4
                obtain ⟨e0, e1, e2, e3, e4, e5, e6⟩ := hz.doc7 ht4
                clear hz hF
                go_simp
                exact ⟨rfl, Ext.refl _⟩
              refine hK _ _ ?_
              clear hK K
              refine wpX_step (fun K hK => ?_)
              go_simp
              refine StepY.any (by rw [HSP.out]; rfl) ?_ ?_
              · intro wz hz hF
                rw [HS.out] at hz
                clear hF
                go_simp
                refine (HQ.out _ hz).mono ?_
                rintro e w2 ⟨r, rfl, hr, hc, hE1⟩
                exact ⟨_, rfl, ⟨r, rfl, hr, hc⟩, hE1⟩
              intro v1
              refine hK _ _ ?_
              clear hK K
              refine wpX_step (fun K hK => ?_)
              go_simp
              refine StepY.det (by rw [HSP.out]; rfl) ?_ ?_
              · intro wz hz hF
                obtain ⟨wa', ea, r, hv1, hr, hc⟩ := hF.any 5 (by kernel_rfl) (by rw [HSP.out]; rfl)
                clear hF hz
                simp only [asFun, List.nil_append, List.cons_append, List.getD_cons_succ, List.getD_cons_zero] at hv1
                subst hv1
                go_simp
                refine (HL4.out r _ hr).mono ?_
                rintro e w5 ⟨rfl, rfl⟩
                exact ⟨_, rfl, by rw [hc]; rfl, Ext.refl _⟩
              refine hK _ _ ?_
              clear hK K
              iterate 2
                refine wpX_step (fun K hK => ?_)
                go_simp
                refine StepY.det (by rw [HSP.out]; rfl) ?_ ?_
                · intro wz hz hF
                  clear hz hF
                  go_simp
                  exact ⟨rfl, Ext.refl _⟩
                refine hK _ _ ?_
                clear hK K
              refine wpX_step (fun K hK => ?_)
              go_simp
              refine StepY.det (by rw [HSP.out]; rfl) ?_ ?_
              · intro wz hz hF
                rw [HS.out] at hz
                obtain ⟨f0, f1, f2, f3, f4, f5, f6⟩ := hz.step7
                have c1 := hz.ptr hs4
                have c2 := hz.ptr ht4
                obtain ⟨d0, d1, d2, d3, d4, d5, d6⟩ := hz.doc7 hs4
                obtain ⟨e0, e1, e2, e3, e4, e5, e6⟩ := hz.doc7 ht4
                clear hz hF
                go_simp
                exact ⟨rfl, Ext.refl _⟩
              refine hK _ _ ?_
              clear hK K
              refine wpX_step (fun K hK => ?_)
              go_simp
              refine StepY.det (by rw [HSP.out]; rfl) ?_ ?_
              · intro wz hz hF
                clear hz hF
                go_simp
                exact ⟨rfl, Ext.refl _⟩
              refine hK _ _ ?_
              clear hK K
              refine wpX_step (fun K hK => ?_)
              go_simp
              refine StepY.det (by rw [HSP.out]; rfl) ?_ ?_
              · intro wz hz hF
                rw [HS.out] at hz
                obtain ⟨f0, f1, f2, f3, f4, f5, f6⟩ := hz.step7
                have c1 := hz.ptr hs4
                have c2 := hz.ptr ht4
                obtain ⟨d0, d1, d2, d3, d4, d5, d6⟩ := hz.doc7 hs4
                obtain ⟨e0, e1, e2, e3, e4, e5, e6⟩ := hz.doc7 ht4
                clear hz hF
                go_simp
                exact ⟨rfl, Ext.refl _⟩
              refine hK _ _ ?_
              clear hK K
              refine wpX_step (fun K hK => ?_)
              go_simp
              refine StepY.det (by rw [HSP.out]; rfl) ?_ ?_
              · intro wz hz hF
                rw [HS.out] at hz
                clear hF
                go_simp
                refine (HD.out _ hz).mono ?_
                rintro e w5 ⟨rfl, hE⟩
                exact ⟨_, rfl, rfl, hE⟩
              refine hK _ _ ?_
              clear hK K
              refine wpX_nil ?_
              intro wq hz hF
              clear hF
              rw [HS.out] at hz
              have hO := hz
              clear hz HS HSP
              have hf : True := trivial
              go_wp2_with fail
              go_roundw
              case rel => exact ⟨i + 1, _, _, _, by go_num, by omega, by omega, Lib.hid (hg.out.up), hO.drop⟩
              case measure => simp [intOf]; omega
          have z8 : (qo == 8) = false := by rw [beq_eq_false_iff_ne]; exact q8
          have y8 : ¬ qo = 8 := q8
          clear q8
          by_cases q9 : qo = 9
          · have z9 : (qo == 9) = true := by rw [beq_iff_eq]; exact q9
            clear q9
            as_aux_lemma =>
              have HQ : Hid (∀ wz, PS w [⟨gp, 51, [.int .i64 qo, .int .i64 qs, .int .i64 qt, .int .u64 (qx : Int), .int .u64 (qy : Int), .int .i64 qd, .int .i64 qn]⟩] ga gd G Z Z V wz → Calls Tryz.prog 34 #[.pointer (some ⟨G s, 0, none⟩)] wz fun e w' => e = .returned (.int .i64 ((Z s).sign)) ∧ wz = w') := Lib.hid (fun wz h => by
                obtain ⟨L, hL⟩ := h.ask hs4
                exact tsign_any (Z s) (fun hs => (hg.out.ok hs4).fit hs) hL)
              have HD : Hid (∀ wz, PS w [⟨gp, 51, [.int .i64 qo, .int .i64 qs, .int .i64 qt, .int .u64 (qx : Int), .int .u64 (qy : Int), .int .i64 qd, .int .i64 qn]⟩] ga gd G Z Z V wz → Calls Tryz.prog 35 #[.agg #[.bool (V s).s, .slice (V s).A (V s).l (V s).c, .slice (V s).B (V s).k (V s).d, .bool (Z s).p, .bool (Z s).m, .bool (Z s).n, .int .u64 ((Z s).t : Int)]] wz fun e w' => e = .returned (.int .i64 ((Z s).sign)) ∧ Ext wz w') := Lib.hid (fun wz h => dsign_any (Z s) (hg.out.nw (by omega) hs4) (hg.out.dr hs4) (h.rat hs4))
              generalize (Z s).sign = Vq at *
              have hO := hP
              clear hP
              go_upto_region 52 with fail
              obtain ⟨S, hS⟩ : ∃ S : World → Prop, S = PS w [⟨gp, 51, [.int .i64 qo, .int .i64 qs, .int .i64 qt, .int .u64 (qx : Int), .int .u64 (qy : Int), .int .i64 qd, .int .i64 qn]⟩] ga gd G Z Z V := ⟨_, rfl⟩
              have hSE : ∀ w w', S w → Ext w w' → S w' := fun w w' h1 h2 => by rw [hS] at h1 ⊢; exact h1.ext h2
              have hS1 : S w2.drew := by rw [hS]; exact hO.ext (Ext.refl w2).drew
              have HS := Lib.hid hS
              clear hS hO hf
              obtain ⟨sp, hsp⟩ : ∃ sp : Nat → Sp, sp = ofList [det (.int .i64 (s : Int)), det (.pointer (some ⟨ga, s, none⟩)), det (.pointer (some ⟨G s, 0, none⟩)), det (.int .i64 Vq), det (.int .i64 (s : Int)), det (.pointer (some ⟨gd, s * 7, none⟩)), det (.agg #[.bool (V s).s, .slice (V s).A (V s).l (V s).c, .slice (V s).B (V s).k (V s).d, .bool (Z s).p, .bool (Z s).m, .bool (Z s).n, .int .u64 ((Z s).t : Int)]), det (.int .i64 Vq)] := ⟨_, rfl⟩
              have HSP := Lib.hid hsp
              clear hsp
              refine wp_region_loose 8 S sp (by kernel_rfl) (by kernel_rfl) hS1 hSE ?_
              simp only [List.take_succ_cons, List.take_zero, List.drop_succ_cons, List.drop_zero]
              iterate 2
                refine wpX_step (fun K hK => ?_)
                go_simp
                refine StepY.det (by rw [HSP.out]; rfl) ?_ ?_
                · intro wz hz hF
                  clear hz hF
                  go_simp
                  exact ⟨rfl, Ext.refl _⟩
                refine hK _ _ ?_
                clear hK K
              refine wpX_step (fun K hK => ?_)
              go_simp
              refine StepY.det (by rw [HSP.out]; rfl) ?_ ?_
              · intro wz hz hF
                rw [HS.out] at hz
                obtain ⟨f0, f1, f2, f3, f4, f5, f6⟩ := hz.step7
                have c1 := hz.ptr hs4
                have c2 := hz.ptr ht4
                obtain ⟨d0, d1, d2, d3, d4, d5, d6⟩ := hz.doc7 hs4
                obtain ⟨e0, e1, e2, e3, e4, e5, e6⟩ := hz.doc7 ht4
                clear hz hF
                go_simp
                exact ⟨rfl, Ext.refl _⟩
              refine hK _ _ ?_
              clear hK K
              refine wpX_step (fun K hK => ?_)
              go_simp
              refine StepY.det (by rw [HSP.out]; rfl) ?_ ?_
              · intro wz hz hF
                rw [HS.out] at hz
                clear hF
                go_simp
                refine (HQ.out _ hz).mono ?_
                rintro e w5 ⟨rfl, rfl⟩
                exact ⟨_, rfl, rfl, Ext.refl _⟩
              refine hK _ _ ?_
              clear hK K
              iterate 2
                refine wpX_step (fun K hK => ?_)
                go_simp
                refine StepY.det (by rw [HSP.out]; rfl) ?_ ?_
                · intro wz hz hF
                  clear hz hF
                  go_simp
                  exact ⟨rfl, Ext.refl _⟩
                refine hK _ _ ?_
                clear hK K
              refine wpX_step (fun K hK => ?_)
              go_simp
              refine StepY.det (by rw [HSP.out]; rfl) ?_ ?_
              · intro wz hz hF
                rw [HS.out] at hz
                obtain ⟨f0, f1, f2, f3, f4, f5, f6⟩ := hz.step7
                have c1 := hz.ptr hs4
                have c2 := hz.ptr ht4
                obtain ⟨d0, d1, d2, d3, d4, d5, d6⟩ := hz.doc7 hs4
                obtain ⟨e0, e1, e2, e3, e4, e5, e6⟩ := hz.doc7 ht4
                clear hz hF
                go_simp
                exact ⟨rfl, Ext.refl _⟩
              refine hK _ _ ?_
              clear hK K
              refine wpX_step (fun K hK => ?_)
              go_simp
              refine StepY.det (by rw [HSP.out]; rfl) ?_ ?_
              · intro wz hz hF
                rw [HS.out] at hz
                clear hF
                go_simp
                refine (HD.out _ hz).mono ?_
                rintro e w5 ⟨rfl, hE⟩
                exact ⟨_, rfl, rfl, hE⟩
              refine hK _ _ ?_
              clear hK K
              refine wpX_nil ?_
              intro wq hz hF
              clear hF
              rw [HS.out] at hz
              have hO := hz
              clear hz HS HSP
              have hf : True := trivial
              go_wp2_with fail
              go_roundw
              case rel => exact ⟨i + 1, _, _, _, by go_num, by omega, by omega, Lib.hid (hg.out.up), hO.drop⟩
              case measure => simp [intOf]; omega
          have z9 : (qo == 9) = false := by rw [beq_eq_false_iff_ne]; exact q9
          have y9 : ¬ qo = 9 := q9
          clear q9
          by_cases q10 : qo = 10
          · have z10 : (qo == 10) = true := by rw [beq_iff_eq]; exact q10
            clear q10
            as_aux_lemma =>
              have HQ : Hid (∀ wz, PS w [⟨gp, 51, [.int .i64 qo, .int .i64 qs, .int .i64 qt, .int .u64 (qx : Int), .int .u64 (qy : Int), .int .i64 qd, .int .i64 qn]⟩] ga gd G Z Z V wz → Calls Tryz.prog 36 #[.pointer (some ⟨G s, 0, none⟩)] wz fun e w' => e = .returned (.int .i64 ((Z s).state)) ∧ wz = w') := Lib.hid (fun wz h => by
                obtain ⟨L, hL⟩ := h.ask hs4
                exact tstate_S (Z s) hL)
              have HD : Hid (∀ wz, PS w [⟨gp, 51, [.int .i64 qo, .int .i64 qs, .int .i64 qt, .int .u64 (qx : Int), .int .u64 (qy : Int), .int .i64 qd, .int .i64 qn]⟩] ga gd G Z Z V wz → Calls Tryz.prog 37 #[.agg #[.bool (V s).s, .slice (V s).A (V s).l (V s).c, .slice (V s).B (V s).k (V s).d, .bool (Z s).p, .bool (Z s).m, .bool (Z s).n, .int .u64 ((Z s).t : Int)]] wz fun e w' => e = .returned (.int .i64 ((Z s).state)) ∧ Ext wz w') := Lib.hid (fun wz h => dstate_any)
              generalize (Z s).state = Vq at *
              have hO := hP
              clear hP
              go_upto_region 55 with fail
              obtain ⟨S, hS⟩ : ∃ S : World → Prop, S = PS w [⟨gp, 51, [.int .i64 qo, .int .i64 qs, .int .i64 qt, .int .u64 (qx : Int), .int .u64 (qy : Int), .int .i64 qd, .int .i64 qn]⟩] ga gd G Z Z V := ⟨_, rfl⟩
              have hSE : ∀ w w', S w → Ext w w' → S w' := fun w w' h1 h2 => by rw [hS] at h1 ⊢; exact h1.ext h2
              have hS1 : S w2.drew := by rw [hS]; exact hO.ext (Ext.refl w2).drew
              have HS := Lib.hid hS
              clear hS hO hf
              obtain ⟨sp, hsp⟩ : ∃ sp : Nat → Sp, sp = ofList [det (.int .i64 (s : Int)), det (.pointer (some ⟨ga, s, none⟩)), det (.pointer (some ⟨G s, 0, none⟩)), det (.int .i64 Vq), det (.int .i64 (s : Int)), det (.pointer (some ⟨gd, s * 7, none⟩)), det (.agg #[.bool (V s).s, .slice (V s).A (V s).l (V s).c, .slice (V s).B (V s).k (V s).d, .bool (Z s).p, .bool (Z s).m, .bool (Z s).n, .int .u64 ((Z s).t : Int)]), det (.int .i64 Vq)] := ⟨_, rfl⟩
              have HSP := Lib.hid hsp
              clear hsp
              refine wp_region_loose 8 S sp (by kernel_rfl) (by kernel_rfl) hS1 hSE ?_
              simp only [List.take_succ_cons, List.take_zero, List.drop_succ_cons, List.drop_zero]
              iterate 2
                refine wpX_step (fun K hK => ?_)
                go_simp
                refine StepY.det (by rw [HSP.out]; rfl) ?_ ?_
                · intro wz hz hF
                  clear hz hF
                  go_simp
                  exact ⟨rfl, Ext.refl _⟩
                refine hK _ _ ?_
                clear hK K
              refine wpX_step (fun K hK => ?_)
              go_simp
              refine StepY.det (by rw [HSP.out]; rfl) ?_ ?_
              · intro wz hz hF
                rw [HS.out] at hz
                obtain ⟨f0, f1, f2, f3, f4, f5, f6⟩ := hz.step7
                have c1 := hz.ptr hs4
                have c2 := hz.ptr ht4
                obtain ⟨d0, d1, d2, d3, d4, d5, d6⟩ := hz.doc7 hs4
                obtain ⟨e0, e1, e2, e3, e4, e5, e6⟩ := hz.doc7 ht4
                clear hz hF
                go_simp
                exact ⟨rfl, Ext.refl _⟩
              refine hK _ _ ?_
              clear hK K
              refine wpX_step (fun K hK => ?_)
              go_simp
              refine StepY.det (by rw [HSP.out]; rfl) ?_ ?_
              · intro wz hz hF
                rw [HS.out] at hz
                clear hF
                go_simp
                refine (HQ.out _ hz).mono ?_
                rintro e w5 ⟨rfl, rfl⟩
                exact ⟨_, rfl, rfl, Ext.refl _⟩
              refine hK _ _ ?_
              clear hK K
              iterate 2
                refine wpX_step (fun K hK => ?_)
                go_simp
                refine StepY.det (by rw [HSP.out]; rfl) ?_ ?_
                · intro wz hz hF
                  clear hz hF
                  go_simp
                  exact ⟨rfl, Ext.refl _⟩
                refine hK _ _ ?_
                clear hK K
              refine wpX_step (fun K hK => ?_)
              go_simp
              refine StepY.det (by rw [HSP.out]; rfl) ?_ ?_
              · intro wz hz hF
                rw [HS.out] at hz
                obtain ⟨f0, f1, f2, f3, f4, f5, f6⟩ := hz.step7
                have c1 := hz.ptr hs4
                have c2 := hz.ptr ht4
                obtain ⟨d0, d1, d2, d3, d4, d5, d6⟩ := hz.doc7 hs4
                obtain ⟨e0, e1, e2, e3, e4, e5, e6⟩ := hz.doc7 ht4
                clear hz hF
                go_simp
                exact ⟨rfl, Ext.refl _⟩
              refine hK _ _ ?_
              clear hK K
              refine wpX_step (fun K hK => ?_)
              go_simp
              refine StepY.det (by rw [HSP.out]; rfl) ?_ ?_
              · intro wz hz hF
                rw [HS.out] at hz
                clear hF
                go_simp
                refine (HD.out _ hz).mono ?_
                rintro e w5 ⟨rfl, hE⟩
                exact ⟨_, rfl, rfl, hE⟩
              refine hK _ _ ?_
              clear hK K
              refine wpX_nil ?_
              intro wq hz hF
              clear hF
              rw [HS.out] at hz
              have hO := hz
              clear hz HS HSP
              have hf : True := trivial
              go_wp2_with fail
              go_roundw
              case rel => exact ⟨i + 1, _, _, _, by go_num, by omega, by omega, Lib.hid (hg.out.up), hO.drop⟩
              case measure => simp [intOf]; omega
          have z10 : (qo == 10) = false := by rw [beq_eq_false_iff_ne]; exact q10
          have y10 : ¬ qo = 10 := q10
          clear q10
          have hO := hP
          clear hP
          go_wp2_with fail
          go_roundw
          case rel => exact ⟨i + 1, _, _, _, by go_num, by omega, by omega, Lib.hid (hg.out.up), hO.drop⟩
          case measure => simp [intOf]; omega
        · have u1 : ((i : Int) < (n : Int)) ↔ i < n := by omega
          have hor : (decide ((i : Int) < (n : Int)) = false ∧ ¬ i < n) ∨ (decide ((i : Int) < (n : Int)) = true ∧ decide ((i : Int) < 2000) = false ∧ i < n ∧ ¬ (i : Int) < 2000) := by
            by_cases h1 : i < n
            · right; exact ⟨decide_eq_true (by omega), decide_eq_false (by omega), h1, by omega⟩
            · left; exact ⟨decide_eq_false (by omega), h1⟩
          clear hlt u1
          have hcut : i ≤ 2001 := by omega
          have hO := hP
          clear hP
          rcases hor with ⟨v1, v3⟩ | ⟨v1, v2, v3, v4⟩
          · as_aux_lemma =>
              go_wp2_with fail
              go_loopw [12] (fun kv wr => ∃ j : Nat, kv = .int .i64 (j : Int) ∧ j ≤ 4 ∧ PS w [] ga gd G Z Z V wr) (fun kv _ => 4 - (intOf kv).toNat)
              case atStart => exact ⟨0, rfl, by omega, hO⟩
              case round =>
                obtain ⟨j, rfl, hj4, hOr⟩ := hrel
                clear hO
                have hO := hOr
                clear hOr
                by_cases hj : j < 4
                · have w1' : decide ((j : Int) < 4) = true := decide_eq_true (by omega)
                  have bj0 : (0 : Int) ≤ (j : Int) := by omega
                  have bj1 : (j : Int) < 4 := by omega
                  have HQ : Hid (∀ wz, PS w [] ga gd G Z Z V wz → Calls Tryz.prog 36 #[.pointer (some ⟨G j, 0, none⟩)] wz fun e w' => e = .returned (.int .i64 ((Z j).state)) ∧ wz = w') := Lib.hid (fun wz h => by
                    obtain ⟨L, hL⟩ := h.ask hj
                    exact tstate_S (Z j) hL)
                  have HD : Hid (∀ wz, PS w [] ga gd G Z Z V wz → Calls Tryz.prog 37 #[.agg #[.bool (V j).s, .slice (V j).A (V j).l (V j).c, .slice (V j).B (V j).k (V j).d, .bool (Z j).p, .bool (Z j).m, .bool (Z j).n, .int .u64 ((Z j).t : Int)]] wz fun e w' => e = .returned (.int .i64 ((Z j).state)) ∧ Ext wz w') := Lib.hid (fun wz h => dstate_any)
                  have HQ2 : Hid (∀ wz, PS w [] ga gd G Z Z V wz → Calls Tryz.prog 29 #[.pointer (some ⟨G j, 0, none⟩), .int .i64 1] wz (RetFl ((Z j).round 1) wz)) := Lib.hid (fun wz h => by
                    obtain ⟨L, hL⟩ := h.ask hj
                    exact tround_any (Z j) 1 (fun hs => (hg.out.ok hj).fit hs) hL)
                  have HD2 : Hid (∀ wz, PS w [] ga gd G Z Z V wz → Calls Tryz.prog 13 #[.agg #[.bool (V j).s, .slice (V j).A (V j).l (V j).c, .slice (V j).B (V j).k (V j).d, .bool (Z j).p, .bool (Z j).m, .bool (Z j).n, .int .u64 ((Z j).t : Int)], .int .i64 1] wz fun e w' => e = .returned (.int .u64 (((Z j).round 1 : Nat) : Int)) ∧ Ext wz w') := Lib.hid (fun wz h => dround_any (Z j) 1 (hg.out.nw (by omega) hj) (hg.out.dr hj) (h.rat hj))
                  have HL4 := Lib.hid (fun r w h => bits4_any r w h)
                  generalize (Z j).state = st at *
                  generalize (Z j).round 1 = Vq at *
                  have hf : True := trivial
                  clear v1
                  go_upto_region 60 with fail
                  obtain ⟨S, hS⟩ : ∃ S : World → Prop, S = PS w [] ga gd G Z Z V := ⟨_, rfl⟩
                  have hSE : ∀ w w', S w → Ext w w' → S w' := fun w w' h1 h2 => by rw [hS] at h1 ⊢; exact h1.ext h2
                  have hS1 : S wr.drew := by rw [hS]; exact hO.ext (Ext.refl wr).drew
                  have HS := Lib.hid hS
                  clear hS hO hf
                  obtain ⟨sp, hsp⟩ : ∃ sp : Nat → Sp, sp = ofList [det (.int .i64 (j : Int)), det (.pointer (some ⟨ga, j, none⟩)), det (.pointer (some ⟨G j, 0, none⟩)), det (.int .i64 st), det (.int .i64 (j : Int)), det (.pointer (some ⟨gd, j * 7, none⟩)), det (.agg #[.bool (V j).s, .slice (V j).A (V j).l (V j).c, .slice (V j).B (V j).k (V j).d, .bool (Z j).p, .bool (Z j).m, .bool (Z j).n, .int .u64 ((Z j).t : Int)]), det (.int .i64 st), det (.bool false), det (.bool false), det (.int .i64 (j : Int)), det (.pointer (some ⟨ga, j, none⟩)), det (.pointer (some ⟨G j, 0, none⟩)), anyOf (fun v wz => ∃ r, v = .float .f64 r ∧ r < 18446744073709551616 ∧ cn r = Vq), det (.int .u64 (Vq : Int)), det (.int .i64 (j : Int)), det (.pointer (some ⟨gd, j * 7, none⟩)), det (.agg #[.bool (V j).s, .slice (V j).A (V j).l (V j).c, .slice (V j).B (V j).k (V j).d, .bool (Z j).p, .bool (Z j).m, .bool (Z j).n, .int .u64 ((Z j).t : Int)]), det (.int .u64 (Vq : Int)), det (.bool false)] := ⟨_, rfl⟩
                  have HSP := Lib.hid hsp
                  clear hsp
                  refine wp_region_loose 20 S sp (by kernel_rfl) (by kernel_rfl) hS1 hSE ?_
                  simp only [List.take_succ_cons, List.take_zero, List.drop_succ_cons, List.drop_zero]
                  iterate 2
                    refine wpX_step (fun K hK => ?_)
                    go_simp
                    refine StepY.det (by rw [HSP.out]; rfl) ?_ ?_
                    · intro wz hz hF
                      clear hz hF
                      go_simp
                      exact ⟨rfl, Ext.refl _⟩
                    refine hK _ _ ?_
                    clear hK K
                  refine wpX_step (fun K hK => ?_)
                  go_simp
                  refine StepY.det (by rw [HSP.out]; rfl) ?_ ?_
                  · intro wz hz hF
                    rw [HS.out] at hz
                    have c1 := hz.ptr hj
                    obtain ⟨d0, d1, d2, d3, d4, d5, d6⟩ := hz.doc7 hj
                    clear hz hF
                    go_simp
                    exact ⟨rfl, Ext.refl _⟩
                  refine hK _ _ ?_
                  clear hK K
                  refine wpX_step (fun K hK => ?_)
                  go_simp
                  refine StepY.det (by rw [HSP.out]; rfl) ?_ ?_
                  · intro wz hz hF
                    rw [HS.out] at hz
                    clear hF
                    go_simp
                    refine (HQ.out _ hz).mono ?_
                    rintro e w5 ⟨rfl, rfl⟩
                    exact ⟨_, rfl, rfl, Ext.refl _⟩
                  refine hK _ _ ?_
                  clear hK K
                  iterate 2
                    refine wpX_step (fun K hK => ?_)
                    go_simp
                    refine StepY.det (by rw [HSP.out]; rfl) ?_ ?_
                    · intro wz hz hF
                      clear hz hF
                      go_simp
                      exact ⟨rfl, Ext.refl _⟩
                    refine hK _ _ ?_
                    clear hK K
                  refine wpX_step (fun K hK => ?_)
                  go_simp
                  refine StepY.det (by rw [HSP.out]; rfl) ?_ ?_
                  · intro wz hz hF
                    rw [HS.out] at hz
                    have c1 := hz.ptr hj
                    obtain ⟨d0, d1, d2, d3, d4, d5, d6⟩ := hz.doc7 hj
                    clear hz hF
                    go_simp
                    exact ⟨rfl, Ext.refl _⟩
                  refine hK _ _ ?_
                  clear hK K
                  refine wpX_step (fun K hK => ?_)
                  go_simp
                  refine StepY.det (by rw [HSP.out]; rfl) ?_ ?_
                  · intro wz hz hF
                    rw [HS.out] at hz
                    clear hF
                    go_simp
                    refine (HD.out _ hz).mono ?_
                    rintro e w5 ⟨rfl, hE⟩
                    exact ⟨_, rfl, rfl, hE⟩
                  refine hK _ _ ?_
                  clear hK K
                  iterate 4
                    refine wpX_step (fun K hK => ?_)
                    go_simp
                    refine StepY.det (by rw [HSP.out]; rfl) ?_ ?_
                    · intro wz hz hF
                      clear hz hF
                      go_simp
                      exact ⟨rfl, Ext.refl _⟩
                    refine hK _ _ ?_
                    clear hK K
                  refine wpX_step (fun K hK => ?_)
                  go_simp
                  refine StepY.det (by rw [HSP.out]; rfl) ?_ ?_
                  · intro wz hz hF
                    rw [HS.out] at hz
                    have c1 := hz.ptr hj
                    obtain ⟨d0, d1, d2, d3, d4, d5, d6⟩ := hz.doc7 hj
                    clear hz hF
                    go_simp
                    exact ⟨rfl, Ext.refl _⟩
                  refine hK _ _ ?_
                  clear hK K
                  refine wpX_step (fun K hK => ?_)
                  go_simp
                  refine StepY.any (by rw [HSP.out]; rfl) ?_ ?_
                  · intro wz hz hF
                    rw [HS.out] at hz
                    clear hF
                    go_simp
                    refine (HQ2.out _ hz).mono ?_
                    rintro e w2 ⟨r, rfl, hr, hc, hE1⟩
                    exact ⟨_, rfl, ⟨r, rfl, hr, hc⟩, hE1⟩
                  intro v1
                  refine hK _ _ ?_
                  clear hK K
                  refine wpX_step (fun K hK => ?_)
                  go_simp
                  refine StepY.det (by rw [HSP.out]; rfl) ?_ ?_
                  · intro wz hz hF
                    obtain ⟨wa', ea, r, hv1, hr, hc⟩ := hF.any 13 (by kernel_rfl) (by rw [HSP.out]; rfl)
                    clear hF hz
                    simp only [asFun, List.nil_append, List.cons_append, List.getD_cons_succ, List.getD_cons_zero] at hv1
                    subst hv1
                    go_simp
                    refine (HL4.out r _ hr).mono ?_
                    rintro e w5 ⟨rfl, rfl⟩
                    exact ⟨_, rfl, by rw [hc]; rfl, Ext.refl _⟩
                  refine hK _ _ ?_
                  clear hK K
                  iterate 2
                    refine wpX_step (fun K hK => ?_)
                    go_simp
                    refine StepY.det (by rw [HSP.out]; rfl) ?_ ?_
                    · intro wz hz hF
                      clear hz hF
                      go_simp
                      exact ⟨rfl, Ext.refl _⟩
                    refine hK _ _ ?_
                    clear hK K
                  refine wpX_step (fun K hK => ?_)
                  go_simp
                  refine StepY.det (by rw [HSP.out]; rfl) ?_ ?_
                  · intro wz hz hF
                    rw [HS.out] at hz
                    have c1 := hz.ptr hj
                    obtain ⟨d0, d1, d2, d3, d4, d5, d6⟩ := hz.doc7 hj
                    clear hz hF
                    go_simp
                    exact ⟨rfl, Ext.refl _⟩
                  refine hK _ _ ?_
                  clear hK K
                  refine wpX_step (fun K hK => ?_)
                  go_simp
                  refine StepY.det (by rw [HSP.out]; rfl) ?_ ?_
                  · intro wz hz hF
                    rw [HS.out] at hz
                    clear hF
                    go_simp
                    refine (HD2.out _ hz).mono ?_
                    rintro e w5 ⟨rfl, hE⟩
                    exact ⟨_, rfl, rfl, hE⟩
                  refine hK _ _ ?_
                  clear hK K
                  refine wpX_step (fun K hK => ?_)
                  go_simp
                  refine StepY.det (by rw [HSP.out]; rfl) ?_ ?_
                  · intro wz hz hF
                    clear hz hF
                    go_simp
                    exact ⟨rfl, Ext.refl _⟩
                  refine hK _ _ ?_
                  clear hK K
                  refine wpX_nil ?_
                  intro wq hz hF
                  clear hF
                  rw [HS.out] at hz
                  have hO := hz
                  clear hz HS HSP
                  have hf : True := trivial
                  go_wp2_with fail
                  go_roundw
                  case rel => exact ⟨j + 1, by go_num, by omega, hO⟩
                  case measure => simp [intOf]; omega
                · have w1' : decide ((j : Int) < 4) = false := decide_eq_false (by omega)
                  have hO2 := hO.toExt
                  go_wp2_with fail
                  refine (HL.out _).mono ?_
                  rintro e w9 ⟨rfl, hE⟩
                  go_wp2_with fail
                  go_ret
                  exact ⟨rfl, hO2.trans hE⟩

          · as_aux_lemma =>
              go_wp2_with fail
              go_loopw [12] (fun kv wr => ∃ j : Nat, kv = .int .i64 (j : Int) ∧ j ≤ 4 ∧ PS w [] ga gd G Z Z V wr) (fun kv _ => 4 - (intOf kv).toNat)
              case atStart => exact ⟨0, rfl, by omega, hO⟩
              case round =>
                obtain ⟨j, rfl, hj4, hOr⟩ := hrel
                clear hO
                have hO := hOr
                clear hOr
                by_cases hj : j < 4
                · have w1' : decide ((j : Int) < 4) = true := decide_eq_true (by omega)
                  have bj0 : (0 : Int) ≤ (j : Int) := by omega
                  have bj1 : (j : Int) < 4 := by omega
                  have HQ : Hid (∀ wz, PS w [] ga gd G Z Z V wz → Calls Tryz.prog 36 #[.pointer (some ⟨G j, 0, none⟩)] wz fun e w' => e = .returned (.int .i64 ((Z j).state)) ∧ wz = w') := Lib.hid (fun wz h => by
                    obtain ⟨L, hL⟩ := h.ask hj
                    exact tstate_S (Z j) hL)
                  have HD : Hid (∀ wz, PS w [] ga gd G Z Z V wz → Calls Tryz.prog 37 #[.agg #[.bool (V j).s, .slice (V j).A (V j).l (V j).c, .slice (V j).B (V j).k (V j).d, .bool (Z j).p, .bool (Z j).m, .bool (Z j).n, .int .u64 ((Z j).t : Int)]] wz fun e w' => e = .returned (.int .i64 ((Z j).state)) ∧ Ext wz w') := Lib.hid (fun wz h => dstate_any)
                  have HQ2 : Hid (∀ wz, PS w [] ga gd G Z Z V wz → Calls Tryz.prog 29 #[.pointer (some ⟨G j, 0, none⟩), .int .i64 1] wz (RetFl ((Z j).round 1) wz)) := Lib.hid (fun wz h => by
                    obtain ⟨L, hL⟩ := h.ask hj
                    exact tround_any (Z j) 1 (fun hs => (hg.out.ok hj).fit hs) hL)
                  have HD2 : Hid (∀ wz, PS w [] ga gd G Z Z V wz → Calls Tryz.prog 13 #[.agg #[.bool (V j).s, .slice (V j).A (V j).l (V j).c, .slice (V j).B (V j).k (V j).d, .bool (Z j).p, .bool (Z j).m, .bool (Z j).n, .int .u64 ((Z j).t : Int)], .int .i64 1] wz fun e w' => e = .returned (.int .u64 (((Z j).round 1 : Nat) : Int)) ∧ Ext wz w') := Lib.hid (fun wz h => dround_any (Z j) 1 (hg.out.nw (by omega) hj) (hg.out.dr hj) (h.rat hj))
                  have HL4 := Lib.hid (fun r w h => bits4_any r w h)
                  generalize (Z j).state = st at *
                  generalize (Z j).round 1 = Vq at *
                  have hf : True := trivial
                  clear v1
                  go_upto_region 60 with fail
                  obtain ⟨S, hS⟩ : ∃ S : World → Prop, S = PS w [] ga gd G Z Z V := ⟨_, rfl⟩
                  have hSE : ∀ w w', S w → Ext w w' → S w' := fun w w' h1 h2 => by rw [hS] at h1 ⊢; exact h1.ext h2
                  have hS1 : S wr.drew := by rw [hS]; exact hO.ext (Ext.refl wr).drew
                  have HS := Lib.hid hS
                  clear hS hO hf
                  obtain ⟨sp, hsp⟩ : ∃ sp : Nat → Sp, sp = ofList [det (.int .i64 (j : Int)), det (.pointer (some ⟨ga, j, none⟩)), det (.pointer (some ⟨G j, 0, none⟩)), det (.int .i64 st), det (.int .i64 (j : Int)), det (.pointer (some ⟨gd, j * 7, none⟩)), det (.agg #[.bool (V j).s, .slice (V j).A (V j).l (V j).c, .slice (V j).B (V j).k (V j).d, .bool (Z j).p, .bool (Z j).m, .bool (Z j).n, .int .u64 ((Z j).t : Int)]), det (.int .i64 st), det (.bool false), det (.bool false), det (.int .i64 (j : Int)), det (.pointer (some ⟨ga, j, none⟩)), det (.pointer (some ⟨G j, 0, none⟩)), anyOf (fun v wz => ∃ r, v = .float .f64 r ∧ r < 18446744073709551616 ∧ cn r = Vq), det (.int .u64 (Vq : Int)), det (.int .i64 (j : Int)), det (.pointer (some ⟨gd, j * 7, none⟩)), det (.agg #[.bool (V j).s, .slice (V j).A (V j).l (V j).c, .slice (V j).B (V j).k (V j).d, .bool (Z j).p, .bool (Z j).m, .bool (Z j).n, .int .u64 ((Z j).t : Int)]), det (.int .u64 (Vq : Int)), det (.bool false)] := ⟨_, rfl⟩
                  have HSP := Lib.hid hsp
                  clear hsp
                  refine wp_region_loose 20 S sp (by kernel_rfl) (by kernel_rfl) hS1 hSE ?_
                  simp only [List.take_succ_cons, List.take_zero, List.drop_succ_cons, List.drop_zero]
                  iterate 2
                    refine wpX_step (fun K hK => ?_)
                    go_simp
                    refine StepY.det (by rw [HSP.out]; rfl) ?_ ?_
                    · intro wz hz hF
                      clear hz hF
                      go_simp
                      exact ⟨rfl, Ext.refl _⟩
                    refine hK _ _ ?_
                    clear hK K
                  refine wpX_step (fun K hK => ?_)
                  go_simp
                  refine StepY.det (by rw [HSP.out]; rfl) ?_ ?_
                  · intro wz hz hF
                    rw [HS.out] at hz
                    have c1 := hz.ptr hj
                    obtain ⟨d0, d1, d2, d3, d4, d5, d6⟩ := hz.doc7 hj
                    clear hz hF
                    go_simp
                    exact ⟨rfl, Ext.refl _⟩
                  refine hK _ _ ?_
                  clear hK K
                  refine wpX_step (fun K hK => ?_)
                  go_simp
                  refine StepY.det (by rw [HSP.out]; rfl) ?_ ?_
                  · intro wz hz hF
                    rw [HS.out] at hz
                    clear hF
                    go_simp
                    refine (HQ.out _ hz).mono ?_
                    rintro e w5 ⟨rfl, rfl⟩
                    exact ⟨_, rfl, rfl, Ext.refl _⟩
                  refine hK _ _ ?_
                  clear hK K
                  iterate 2
                    refine wpX_step (fun K hK => ?_)
                    go_simp
                    refine StepY.det (by rw [HSP.out]; rfl) ?_ ?_
                    · intro wz hz hF
                      clear hz hF
                      go_simp
                      exact ⟨rfl, Ext.refl _⟩
                    refine hK _ _ ?_
                    clear hK K
                  refine wpX_step (fun K hK => ?_)
                  go_simp
                  refine StepY.det (by rw [HSP.out]; rfl) ?_ ?_
                  · intro wz hz hF
                    rw [HS.out] at hz
                    have c1 := hz.ptr hj
                    obtain ⟨d0, d1, d2, d3, d4, d5, d6⟩ := hz.doc7 hj
                    clear hz hF
                    go_simp
                    exact ⟨rfl, Ext.refl _⟩
                  refine hK _ _ ?_
                  clear hK K
                  refine wpX_step (fun K hK => ?_)
                  go_simp
                  refine StepY.det (by rw [HSP.out]; rfl) ?_ ?_
                  · intro wz hz hF
                    rw [HS.out] at hz
                    clear hF
                    go_simp
                    refine (HD.out _ hz).mono ?_
                    rintro e w5 ⟨rfl, hE⟩
                    exact ⟨_, rfl, rfl, hE⟩
                  refine hK _ _ ?_
                  clear hK K
                  iterate 4
                    refine wpX_step (fun K hK => ?_)
                    go_simp
                    refine StepY.det (by rw [HSP.out]; rfl) ?_ ?_
                    · intro wz hz hF
                      clear hz hF
                      go_simp
                      exact ⟨rfl, Ext.refl _⟩
                    refine hK _ _ ?_
                    clear hK K
                  refine wpX_step (fun K hK => ?_)
                  go_simp
                  refine StepY.det (by rw [HSP.out]; rfl) ?_ ?_
                  · intro wz hz hF
                    rw [HS.out] at hz
                    have c1 := hz.ptr hj
                    obtain ⟨d0, d1, d2, d3, d4, d5, d6⟩ := hz.doc7 hj
                    clear hz hF
                    go_simp
                    exact ⟨rfl, Ext.refl _⟩
                  refine hK _ _ ?_
                  clear hK K
                  refine wpX_step (fun K hK => ?_)
                  go_simp
                  refine StepY.any (by rw [HSP.out]; rfl) ?_ ?_
                  · intro wz hz hF
                    rw [HS.out] at hz
                    clear hF
                    go_simp
                    refine (HQ2.out _ hz).mono ?_
                    rintro e w2 ⟨r, rfl, hr, hc, hE1⟩
                    exact ⟨_, rfl, ⟨r, rfl, hr, hc⟩, hE1⟩
                  intro v1
                  refine hK _ _ ?_
                  clear hK K
                  refine wpX_step (fun K hK => ?_)
                  go_simp
                  refine StepY.det (by rw [HSP.out]; rfl) ?_ ?_
                  · intro wz hz hF
                    obtain ⟨wa', ea, r, hv1, hr, hc⟩ := hF.any 13 (by kernel_rfl) (by rw [HSP.out]; rfl)
                    clear hF hz
                    simp only [asFun, List.nil_append, List.cons_append, List.getD_cons_succ, List.getD_cons_zero] at hv1
                    subst hv1
                    go_simp
                    refine (HL4.out r _ hr).mono ?_
                    rintro e w5 ⟨rfl, rfl⟩
                    exact ⟨_, rfl, by rw [hc]; rfl, Ext.refl _⟩
                  refine hK _ _ ?_
                  clear hK K
                  iterate 2
                    refine wpX_step (fun K hK => ?_)
                    go_simp
                    refine StepY.det (by rw [HSP.out]; rfl) ?_ ?_
                    · intro wz hz hF
                      clear hz hF
                      go_simp
                      exact ⟨rfl, Ext.refl _⟩
                    refine hK _ _ ?_
                    clear hK K
                  refine wpX_step (fun K hK => ?_)
                  go_simp
                  refine StepY.det (by rw [HSP.out]; rfl) ?_ ?_
                  · intro wz hz hF
                    rw [HS.out] at hz
                    have c1 := hz.ptr hj
                    obtain ⟨d0, d1, d2, d3, d4, d5, d6⟩ := hz.doc7 hj
                    clear hz hF
                    go_simp
                    exact ⟨rfl, Ext.refl _⟩
                  refine hK _ _ ?_
                  clear hK K
                  refine wpX_step (fun K hK => ?_)
                  go_simp
                  refine StepY.det (by rw [HSP.out]; rfl) ?_ ?_
                  · intro wz hz hF
                    rw [HS.out] at hz
                    clear hF
                    go_simp
                    refine (HD2.out _ hz).mono ?_
                    rintro e w5 ⟨rfl, hE⟩
                    exact ⟨_, rfl, rfl, hE⟩
                  refine hK _ _ ?_
                  clear hK K
                  refine wpX_step (fun K hK => ?_)
                  go_simp
                  refine StepY.det (by rw [HSP.out]; rfl) ?_ ?_
                  · intro wz hz hF
                    clear hz hF
                    go_simp
                    exact ⟨rfl, Ext.refl _⟩
                  refine hK _ _ ?_
                  clear hK K
                  refine wpX_nil ?_
                  intro wq hz hF
                  clear hF
                  rw [HS.out] at hz
                  have hO := hz
                  clear hz HS HSP
                  have hf : True := trivial
                  go_wp2_with fail
                  go_roundw
                  case rel => exact ⟨j + 1, by go_num, by omega, hO⟩
                  case measure => simp [intOf]; omega
                · have w1' : decide ((j : Int) < 4) = false := decide_eq_false (by omega)
                  have hO2 := hO.toExt
                  go_wp2_with fail
                  refine (HL.out _).mono ?_
                  rintro e w9 ⟨rfl, hE⟩
                  go_wp2_with fail
                  go_ret
                  exact ⟨rfl, hO2.trans hE⟩
end Go.Proofs.YtfbjeifhpmdjaaaGreat
