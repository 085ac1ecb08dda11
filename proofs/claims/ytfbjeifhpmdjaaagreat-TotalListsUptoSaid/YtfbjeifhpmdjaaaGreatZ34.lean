/-
  The contracts of the document's Of. Conditions: those that each theorem names.
-/
import Derived.Test.YtfbjeifhpmdjaaaGreatZ32
import Derived.Test.YtfbjeifhpmdjaaaGreatZ33
namespace Go.Proofs.YtfbjeifhpmdjaaaGreat
open Go.RowKit Nm Rn
set_option maxRecDepth 100000
set_option linter.unusedVariables false
set_option linter.unusedSimpArgs false

theorem fold_nw {f : Sm → Nat → Sm} (hf : ∀ S x, (f S x).T.natAbs ≤ S.T.natAbs + BG) (xs : List Nat) {i : Nat} (hi : i ≤ 9223372036854775808) : nw ((xs.take i).foldl f Sm.nil).T.natAbs ≤ 1000 := by
  have h := fold_bd f hf (xs.take i) Sm.nil
  refine nw_bg (i := (xs.take i).length) (by rw [List.length_take]; omega) ?_
  have e : Sm.nil.T.natAbs = 0 := rfl
  rw [e, Nat.zero_add] at h
  exact h
theorem andn_top (x : Nat) (h : x < 18446744073709551616) : bits .andNot .u64 (x : Int) 9223372036854775808 = ((mg x : Nat) : Int) := andNot_top x h
set_option maxHeartbeats 8000000 in
theorem dof_0 (A : Option Addr) (n c : Nat) (xs : List Nat) (w : World) (h : Uds w A n c xs) (hn : n ≤ 1048576) :
    Calls Tryz.prog 14 #[.int .i64 0, .slice A n c] w (RetDS (sumL xs) w) := by
  have hO := Own.start w
  have hf : True := trivial
  have HH := Lib.hid h
  have HNK := Lib.hid (fun i (hi : i ≤ 9223372036854775808) => fold_nw (f := (fun S x => Sm.add S x)) (fun S x => add_bd S _) xs hi)
  have HOK := Lib.hid (fun i => foldl_ok (fun S x => Sm.add S x) (fun x => x < 18446744073709551616) (fun S x hS hx => hS.add hx) (xs.take i) Sm.nil Sm.Ok.nil (fun x hx => h.ws x (List.mem_of_mem_take hx)))
  have HNEW := Lib.hid (fun w => dnew_any (w := w))
  have HAL : Hid ((xs.take n).foldl (fun S x => Sm.add S x) Sm.nil = sumL xs) := Lib.hid (by rw [List.take_of_length_le (by have := h.len; omega)]; rfl)
  clear h
  go_enter Tryz.func14, Tryz.ntmps14
  go_upto_region 1 with ((with_reducible refine at_alloc ?_); refine own_alloc hO zero_ds rfl rfl ?_; clear hO; intro gr wa hO; clear hf; have hf := hO.cells; simp only [BC, CC, Nat.zero_add, Nat.reduceAdd, and_true] at hf)
  go_wp2_with fail
  refine (HNEW.out _).mono ?_
  rintro e w3 ⟨s0, N0, D0, A0, l0, c0, B0, k0, d0, rfl, HD0, hR0, hE⟩
  have hO := ((hO.ext hE).add hR0.1).add hR0.2
  clear hE hR0
  clear hf
  have hf := hO.cells
  simp only [BC, CC, Nat.zero_add, Nat.reduceAdd, and_true] at hf
  go_wp2_with (first | ((with_reducible refine at_alloc ?_); refine own_alloc hO zero_ds rfl rfl ?_; clear hO; intro g wb hO; clear hf; have hf := hO.cells; simp only [BC, CC, Nat.zero_add, Nat.reduceAdd, and_true] at hf) | ((with_reducible refine at_store (T := 40) ?_); refine own_store (vs := [.bool s0, .slice A0 l0 c0, .slice B0 k0 d0, .bool Sm.nil.p, .bool Sm.nil.m, .bool Sm.nil.n, .int .u64 (Sm.nil.t : Int)]) (T := 40) hO 0 rfl rfl rfl size_ds rfl rfl rfl ?_; clear hO; intro wc hO; simp only [List.set_cons_zero, List.set_cons_succ, spl, List.take_succ_cons, List.take_zero, List.nil_append, List.cons_append, List.length_cons, List.length_nil, List.drop_succ_cons, List.drop_zero, List.drop_nil, Nat.reduceAdd, Nat.zero_add, List.append_nil] at hO; clear hf; have hf := hO.cells; simp only [BC, CC, Nat.zero_add, Nat.reduceAdd, and_true] at hf))
  go_loopw [6] (fun kv wr => ∃ i : Nat, kv = .int .i64 (i : Int) ∧ i ≤ n ∧ ∃ (sq : Bool) (Nq Dq : Nat) (A6 : Option Addr) (l6 c6 : Nat) (B6 : Option Addr) (k6 d6 : Nat), Hid (DR ((xs.take i).foldl (fun S x => Sm.add S x) Sm.nil).T sq Nq Dq) ∧ Own w [⟨g, 40, [.bool sq, .slice A6 l6 c6, .slice B6 k6 d6, .bool ((xs.take i).foldl (fun S x => Sm.add S x) Sm.nil).p, .bool ((xs.take i).foldl (fun S x => Sm.add S x) Sm.nil).m, .bool ((xs.take i).foldl (fun S x => Sm.add S x) Sm.nil).n, .int .u64 (((xs.take i).foldl (fun S x => Sm.add S x) Sm.nil).t : Int)]⟩, ⟨gr, 40, [.bool false, .slice none 0 0, .slice none 0 0, .bool false, .bool false, .bool false, .int .u64 0]⟩] [⟨B6, k6, d6, nd Dq⟩, ⟨A6, l6, c6, nd Nq⟩] wr) (fun kv _ => n - (intOf kv).toNat)
  case atStart => exact ⟨0, rfl, Nat.zero_le _, s0, N0, D0, A0, l0, c0, B0, k0, d0, HD0, hO⟩
  case round =>
    obtain ⟨i, rfl, hiK, sq, Nq, Dq, A6, l6, c6, B6, k6, d6, HDR, hOr⟩ := hrel
    clear hO hf
    have hO := hOr
    clear hOr
    by_cases hlt : i < n
    · obtain ⟨ad, hx1, hA, -, -⟩ := HH.out.at_ hlt
      subst hA
      obtain ⟨_, _, e1, _, c1⟩ := (HH.out.ext hO.toExt).at_ hlt
      injection e1 with e1
      subst e1
      have HQE : Hid ((xs.take (i + 1)).foldl (fun S x => Sm.add S x) Sm.nil = (fun S x => Sm.add S x) ((xs.take i).foldl (fun S x => Sm.add S x) Sm.nil) xs[i]) := Lib.hid (foldl_take (fun S x => Sm.add S x) hx1)
      have lX : xs[i] < 18446744073709551616 := HH.out.ws _ (List.getElem_mem hx1)
      generalize xs[i] = X at *
      have lV : X < 18446744073709551616 := by first | exact lX | (have := mg_lt X; omega)
      have hto := andn_top X lX
      have HMU := Lib.hid (fun w1 (hr : RatAt w1 A6 l6 c6 B6 k6 d6 Nq Dq) => dadd_any (w := w1) ((xs.take i).foldl (fun S x => Sm.add S x) Sm.nil) X lV (HOK.out i).1 (HNK.out i (by omega)) HDR.out hr)
      obtain ⟨Q, hQ⟩ : ∃ Q, Q = Sm.add ((xs.take i).foldl (fun S x => Sm.add S x) Sm.nil) X := ⟨_, rfl⟩
      rw [← hQ] at HMU
      have HQE := Lib.hid (hQ.trans HQE.out.symm)
      have bi0 : (0 : Int) ≤ (i : Int) := by omega
      have bi1 : (i : Int) < (n : Int) := by omega
      clear hQ lX lV
      have hf := hO.cells
      simp only [BC, CC, Nat.zero_add, Nat.reduceAdd, and_true] at hf
      go_wp2_with fail
      refine (HMU.out _ ⟨hO.wd 1 rfl, hO.wd 0 rfl⟩).mono ?_
      rintro e w9 ⟨s9, N9, D9, A9, l9, c9, B9, k9, d9, rfl, HD9, hR9, hE9⟩
      have hO := ((hO.ext hE9).add hR9.1).add hR9.2
      clear hR9 hE9
      clear hf
      have hf := hO.cells
      simp only [BC, CC, Nat.zero_add, Nat.reduceAdd, and_true] at hf
      go_wp2_with ((with_reducible refine at_store (T := 40) ?_); refine own_store (vs := [.bool s9, .slice A9 l9 c9, .slice B9 k9 d9, .bool Q.p, .bool Q.m, .bool Q.n, .int .u64 (Q.t : Int)]) (T := 40) hO 0 rfl rfl rfl size_ds rfl rfl rfl ?_; clear hO; intro w11 hO; simp only [List.set_cons_zero, List.set_cons_succ, spl, List.take_succ_cons, List.take_zero, List.nil_append, List.cons_append, List.length_cons, List.length_nil, List.drop_succ_cons, List.drop_zero, List.drop_nil, Nat.reduceAdd, Nat.zero_add, List.append_nil] at hO; clear hf; have hf := hO.cells; simp only [BC, CC, Nat.zero_add, Nat.reduceAdd, and_true] at hf)
      go_roundw
      case rel => exact ⟨i + 1, by go_num, by omega, s9, N9, D9, A9, l9, c9, B9, k9, d9, by rw [← HQE.out]; exact HD9, by rw [← HQE.out]; exact hO.forget (fun s hs => List.mem_of_mem_take (i := 2) hs)⟩
      case measure => simp [intOf]; omega
    · have hie : i = n := by omega
      rw [hie] at hO HDR
      rw [HAL.out] at hO HDR
      have hf := hO.cells
      simp only [BC, CC, Nat.zero_add, Nat.reduceAdd, and_true] at hf
      go_wp2_with ((with_reducible refine at_store (T := 40) ?_); refine own_store (vs := [.bool sq, .slice A6 l6 c6, .slice B6 k6 d6, .bool (sumL xs).p, .bool (sumL xs).m, .bool (sumL xs).n, .int .u64 ((sumL xs).t : Int)]) (T := 40) hO 1 rfl rfl rfl size_ds rfl rfl rfl ?_; clear hO; intro w11 hO; simp only [List.set_cons_zero, List.set_cons_succ, spl, List.take_succ_cons, List.take_zero, List.nil_append, List.cons_append, List.length_cons, List.length_nil, List.drop_succ_cons, List.drop_zero, List.drop_nil, Nat.reduceAdd, Nat.zero_add, List.append_nil] at hO; clear hf; have hf := hO.cells; simp only [BC, CC, Nat.zero_add, Nat.reduceAdd, and_true] at hf)
      exact own_ret hO 1 rfl rfl rfl agg_ds size_ds rfl ⟨sq, Nq, Dq, A6, l6, c6, B6, k6, d6, rfl, HDR, ⟨hO.wd 1 rfl, hO.wd 0 rfl⟩, hO.toExt⟩
set_option maxHeartbeats 8000000 in
theorem dof_1 (A : Option Addr) (n c : Nat) (xs : List Nat) (w : World) (h : Uds w A n c xs) (hn : n ≤ 1048576) :
    Calls Tryz.prog 14 #[.int .i64 1, .slice A n c] w (RetDS (abL xs) w) := by
  have hO := Own.start w
  have hf : True := trivial
  have HH := Lib.hid h
  have HNK := Lib.hid (fun i (hi : i ≤ 9223372036854775808) => fold_nw (f := (fun S x => Sm.add S (mg x))) (fun S x => add_bd S _) xs hi)
  have HOK := Lib.hid (fun i => foldl_ok (fun S x => Sm.add S (mg x)) (fun x => x < 18446744073709551616) (fun S x hS hx => hS.add (by have := mg_lt x; omega)) (xs.take i) Sm.nil Sm.Ok.nil (fun x hx => h.ws x (List.mem_of_mem_take hx)))
  have HNEW := Lib.hid (fun w => dnew_any (w := w))
  have HAL : Hid ((xs.take n).foldl (fun S x => Sm.add S (mg x)) Sm.nil = abL xs) := Lib.hid (by rw [List.take_of_length_le (by have := h.len; omega)]; rfl)
  clear h
  go_enter Tryz.func14, Tryz.ntmps14
  go_upto_region 1 with ((with_reducible refine at_alloc ?_); refine own_alloc hO zero_ds rfl rfl ?_; clear hO; intro gr wa hO; clear hf; have hf := hO.cells; simp only [BC, CC, Nat.zero_add, Nat.reduceAdd, and_true] at hf)
  go_wp2_with fail
  refine (HNEW.out _).mono ?_
  rintro e w3 ⟨s0, N0, D0, A0, l0, c0, B0, k0, d0, rfl, HD0, hR0, hE⟩
  have hO := ((hO.ext hE).add hR0.1).add hR0.2
  clear hE hR0
  clear hf
  have hf := hO.cells
  simp only [BC, CC, Nat.zero_add, Nat.reduceAdd, and_true] at hf
  go_wp2_with (first | ((with_reducible refine at_alloc ?_); refine own_alloc hO zero_ds rfl rfl ?_; clear hO; intro g wb hO; clear hf; have hf := hO.cells; simp only [BC, CC, Nat.zero_add, Nat.reduceAdd, and_true] at hf) | ((with_reducible refine at_store (T := 40) ?_); refine own_store (vs := [.bool s0, .slice A0 l0 c0, .slice B0 k0 d0, .bool Sm.nil.p, .bool Sm.nil.m, .bool Sm.nil.n, .int .u64 (Sm.nil.t : Int)]) (T := 40) hO 0 rfl rfl rfl size_ds rfl rfl rfl ?_; clear hO; intro wc hO; simp only [List.set_cons_zero, List.set_cons_succ, spl, List.take_succ_cons, List.take_zero, List.nil_append, List.cons_append, List.length_cons, List.length_nil, List.drop_succ_cons, List.drop_zero, List.drop_nil, Nat.reduceAdd, Nat.zero_add, List.append_nil] at hO; clear hf; have hf := hO.cells; simp only [BC, CC, Nat.zero_add, Nat.reduceAdd, and_true] at hf))
  go_loopw [6] (fun kv wr => ∃ i : Nat, kv = .int .i64 (i : Int) ∧ i ≤ n ∧ ∃ (sq : Bool) (Nq Dq : Nat) (A6 : Option Addr) (l6 c6 : Nat) (B6 : Option Addr) (k6 d6 : Nat), Hid (DR ((xs.take i).foldl (fun S x => Sm.add S (mg x)) Sm.nil).T sq Nq Dq) ∧ Own w [⟨g, 40, [.bool sq, .slice A6 l6 c6, .slice B6 k6 d6, .bool ((xs.take i).foldl (fun S x => Sm.add S (mg x)) Sm.nil).p, .bool ((xs.take i).foldl (fun S x => Sm.add S (mg x)) Sm.nil).m, .bool ((xs.take i).foldl (fun S x => Sm.add S (mg x)) Sm.nil).n, .int .u64 (((xs.take i).foldl (fun S x => Sm.add S (mg x)) Sm.nil).t : Int)]⟩, ⟨gr, 40, [.bool false, .slice none 0 0, .slice none 0 0, .bool false, .bool false, .bool false, .int .u64 0]⟩] [⟨B6, k6, d6, nd Dq⟩, ⟨A6, l6, c6, nd Nq⟩] wr) (fun kv _ => n - (intOf kv).toNat)
  case atStart => exact ⟨0, rfl, Nat.zero_le _, s0, N0, D0, A0, l0, c0, B0, k0, d0, HD0, hO⟩
  case round =>
    obtain ⟨i, rfl, hiK, sq, Nq, Dq, A6, l6, c6, B6, k6, d6, HDR, hOr⟩ := hrel
    clear hO hf
    have hO := hOr
    clear hOr
    by_cases hlt : i < n
    · obtain ⟨ad, hx1, hA, -, -⟩ := HH.out.at_ hlt
      subst hA
      obtain ⟨_, _, e1, _, c1⟩ := (HH.out.ext hO.toExt).at_ hlt
      injection e1 with e1
      subst e1
      have HQE : Hid ((xs.take (i + 1)).foldl (fun S x => Sm.add S (mg x)) Sm.nil = (fun S x => Sm.add S (mg x)) ((xs.take i).foldl (fun S x => Sm.add S (mg x)) Sm.nil) xs[i]) := Lib.hid (foldl_take (fun S x => Sm.add S (mg x)) hx1)
      have lX : xs[i] < 18446744073709551616 := HH.out.ws _ (List.getElem_mem hx1)
      generalize xs[i] = X at *
      have lV : (mg X) < 18446744073709551616 := by first | exact lX | (have := mg_lt X; omega)
      have hto := andn_top X lX
      have HMU := Lib.hid (fun w1 (hr : RatAt w1 A6 l6 c6 B6 k6 d6 Nq Dq) => dadd_any (w := w1) ((xs.take i).foldl (fun S x => Sm.add S (mg x)) Sm.nil) (mg X) lV (HOK.out i).1 (HNK.out i (by omega)) HDR.out hr)
      obtain ⟨Q, hQ⟩ : ∃ Q, Q = Sm.add ((xs.take i).foldl (fun S x => Sm.add S (mg x)) Sm.nil) (mg X) := ⟨_, rfl⟩
      rw [← hQ] at HMU
      have HQE := Lib.hid (hQ.trans HQE.out.symm)
      have bi0 : (0 : Int) ≤ (i : Int) := by omega
      have bi1 : (i : Int) < (n : Int) := by omega
      clear hQ lX lV
      have hf := hO.cells
      simp only [BC, CC, Nat.zero_add, Nat.reduceAdd, and_true] at hf
      go_wp2_with fail
      refine (HMU.out _ ⟨hO.wd 1 rfl, hO.wd 0 rfl⟩).mono ?_
      rintro e w9 ⟨s9, N9, D9, A9, l9, c9, B9, k9, d9, rfl, HD9, hR9, hE9⟩
      have hO := ((hO.ext hE9).add hR9.1).add hR9.2
      clear hR9 hE9
      clear hf
      have hf := hO.cells
      simp only [BC, CC, Nat.zero_add, Nat.reduceAdd, and_true] at hf
      go_wp2_with ((with_reducible refine at_store (T := 40) ?_); refine own_store (vs := [.bool s9, .slice A9 l9 c9, .slice B9 k9 d9, .bool Q.p, .bool Q.m, .bool Q.n, .int .u64 (Q.t : Int)]) (T := 40) hO 0 rfl rfl rfl size_ds rfl rfl rfl ?_; clear hO; intro w11 hO; simp only [List.set_cons_zero, List.set_cons_succ, spl, List.take_succ_cons, List.take_zero, List.nil_append, List.cons_append, List.length_cons, List.length_nil, List.drop_succ_cons, List.drop_zero, List.drop_nil, Nat.reduceAdd, Nat.zero_add, List.append_nil] at hO; clear hf; have hf := hO.cells; simp only [BC, CC, Nat.zero_add, Nat.reduceAdd, and_true] at hf)
      go_roundw
      case rel => exact ⟨i + 1, by go_num, by omega, s9, N9, D9, A9, l9, c9, B9, k9, d9, by rw [← HQE.out]; exact HD9, by rw [← HQE.out]; exact hO.forget (fun s hs => List.mem_of_mem_take (i := 2) hs)⟩
      case measure => simp [intOf]; omega
    · have hie : i = n := by omega
      rw [hie] at hO HDR
      rw [HAL.out] at hO HDR
      have hf := hO.cells
      simp only [BC, CC, Nat.zero_add, Nat.reduceAdd, and_true] at hf
      go_wp2_with ((with_reducible refine at_store (T := 40) ?_); refine own_store (vs := [.bool sq, .slice A6 l6 c6, .slice B6 k6 d6, .bool (abL xs).p, .bool (abL xs).m, .bool (abL xs).n, .int .u64 ((abL xs).t : Int)]) (T := 40) hO 1 rfl rfl rfl size_ds rfl rfl rfl ?_; clear hO; intro w11 hO; simp only [List.set_cons_zero, List.set_cons_succ, spl, List.take_succ_cons, List.take_zero, List.nil_append, List.cons_append, List.length_cons, List.length_nil, List.drop_succ_cons, List.drop_zero, List.drop_nil, Nat.reduceAdd, Nat.zero_add, List.append_nil] at hO; clear hf; have hf := hO.cells; simp only [BC, CC, Nat.zero_add, Nat.reduceAdd, and_true] at hf)
      exact own_ret hO 1 rfl rfl rfl agg_ds size_ds rfl ⟨sq, Nq, Dq, A6, l6, c6, B6, k6, d6, rfl, HDR, ⟨hO.wd 1 rfl, hO.wd 0 rfl⟩, hO.toExt⟩
set_option maxHeartbeats 8000000 in
theorem dof_2 (A : Option Addr) (n c : Nat) (xs : List Nat) (w : World) (h : Uds w A n c xs) (hn : n ≤ 1048576) :
    Calls Tryz.prog 14 #[.int .i64 2, .slice A n c] w (RetDS (sqL xs) w) := by
  have hO := Own.start w
  have hf : True := trivial
  have HH := Lib.hid h
  have HNK := Lib.hid (fun i (hi : i ≤ 9223372036854775808) => fold_nw (f := (fun S x => Sm.mul S x x)) (fun S x => mul_bd S x x) xs hi)
  have HOK := Lib.hid (fun i => foldl_ok (fun S x => Sm.mul S x x) (fun x => x < 18446744073709551616) (fun S x hS hx => hS.mul hx hx) (xs.take i) Sm.nil Sm.Ok.nil (fun x hx => h.ws x (List.mem_of_mem_take hx)))
  have HNEW := Lib.hid (fun w => dnew_any (w := w))
  have HAL : Hid ((xs.take n).foldl (fun S x => Sm.mul S x x) Sm.nil = sqL xs) := Lib.hid (by rw [List.take_of_length_le (by have := h.len; omega)]; rfl)
  clear h
  go_enter Tryz.func14, Tryz.ntmps14
  go_upto_region 1 with ((with_reducible refine at_alloc ?_); refine own_alloc hO zero_ds rfl rfl ?_; clear hO; intro gr wa hO; clear hf; have hf := hO.cells; simp only [BC, CC, Nat.zero_add, Nat.reduceAdd, and_true] at hf)
  go_wp2_with fail
  refine (HNEW.out _).mono ?_
  rintro e w3 ⟨s0, N0, D0, A0, l0, c0, B0, k0, d0, rfl, HD0, hR0, hE⟩
  have hO := ((hO.ext hE).add hR0.1).add hR0.2
  clear hE hR0
  clear hf
  have hf := hO.cells
  simp only [BC, CC, Nat.zero_add, Nat.reduceAdd, and_true] at hf
  go_wp2_with (first | ((with_reducible refine at_alloc ?_); refine own_alloc hO zero_ds rfl rfl ?_; clear hO; intro g wb hO; clear hf; have hf := hO.cells; simp only [BC, CC, Nat.zero_add, Nat.reduceAdd, and_true] at hf) | ((with_reducible refine at_store (T := 40) ?_); refine own_store (vs := [.bool s0, .slice A0 l0 c0, .slice B0 k0 d0, .bool Sm.nil.p, .bool Sm.nil.m, .bool Sm.nil.n, .int .u64 (Sm.nil.t : Int)]) (T := 40) hO 0 rfl rfl rfl size_ds rfl rfl rfl ?_; clear hO; intro wc hO; simp only [List.set_cons_zero, List.set_cons_succ, spl, List.take_succ_cons, List.take_zero, List.nil_append, List.cons_append, List.length_cons, List.length_nil, List.drop_succ_cons, List.drop_zero, List.drop_nil, Nat.reduceAdd, Nat.zero_add, List.append_nil] at hO; clear hf; have hf := hO.cells; simp only [BC, CC, Nat.zero_add, Nat.reduceAdd, and_true] at hf))
  go_loopw [6] (fun kv wr => ∃ i : Nat, kv = .int .i64 (i : Int) ∧ i ≤ n ∧ ∃ (sq : Bool) (Nq Dq : Nat) (A6 : Option Addr) (l6 c6 : Nat) (B6 : Option Addr) (k6 d6 : Nat), Hid (DR ((xs.take i).foldl (fun S x => Sm.mul S x x) Sm.nil).T sq Nq Dq) ∧ Own w [⟨g, 40, [.bool sq, .slice A6 l6 c6, .slice B6 k6 d6, .bool ((xs.take i).foldl (fun S x => Sm.mul S x x) Sm.nil).p, .bool ((xs.take i).foldl (fun S x => Sm.mul S x x) Sm.nil).m, .bool ((xs.take i).foldl (fun S x => Sm.mul S x x) Sm.nil).n, .int .u64 (((xs.take i).foldl (fun S x => Sm.mul S x x) Sm.nil).t : Int)]⟩, ⟨gr, 40, [.bool false, .slice none 0 0, .slice none 0 0, .bool false, .bool false, .bool false, .int .u64 0]⟩] [⟨B6, k6, d6, nd Dq⟩, ⟨A6, l6, c6, nd Nq⟩] wr) (fun kv _ => n - (intOf kv).toNat)
  case atStart => exact ⟨0, rfl, Nat.zero_le _, s0, N0, D0, A0, l0, c0, B0, k0, d0, HD0, hO⟩
  case round =>
    obtain ⟨i, rfl, hiK, sq, Nq, Dq, A6, l6, c6, B6, k6, d6, HDR, hOr⟩ := hrel
    clear hO hf
    have hO := hOr
    clear hOr
    by_cases hlt : i < n
    · obtain ⟨ad, hx1, hA, -, -⟩ := HH.out.at_ hlt
      subst hA
      obtain ⟨_, _, e1, _, c1⟩ := (HH.out.ext hO.toExt).at_ hlt
      injection e1 with e1
      subst e1
      have HQE : Hid ((xs.take (i + 1)).foldl (fun S x => Sm.mul S x x) Sm.nil = (fun S x => Sm.mul S x x) ((xs.take i).foldl (fun S x => Sm.mul S x x) Sm.nil) xs[i]) := Lib.hid (foldl_take (fun S x => Sm.mul S x x) hx1)
      have lX : xs[i] < 18446744073709551616 := HH.out.ws _ (List.getElem_mem hx1)
      generalize xs[i] = X at *
      have lV : X < 18446744073709551616 := by first | exact lX | (have := mg_lt X; omega)
      have hto := andn_top X lX
      have HMU := Lib.hid (fun w1 (hr : RatAt w1 A6 l6 c6 B6 k6 d6 Nq Dq) => dmul_any (w := w1) ((xs.take i).foldl (fun S x => Sm.mul S x x) Sm.nil) X X lX lX (HOK.out i).1 (HNK.out i (by omega)) HDR.out hr)
      obtain ⟨Q, hQ⟩ : ∃ Q, Q = Sm.mul ((xs.take i).foldl (fun S x => Sm.mul S x x) Sm.nil) X X := ⟨_, rfl⟩
      rw [← hQ] at HMU
      have HQE := Lib.hid (hQ.trans HQE.out.symm)
      have bi0 : (0 : Int) ≤ (i : Int) := by omega
      have bi1 : (i : Int) < (n : Int) := by omega
      clear hQ lX lV
      have hf := hO.cells
      simp only [BC, CC, Nat.zero_add, Nat.reduceAdd, and_true] at hf
      go_wp2_with fail
      refine (HMU.out _ ⟨hO.wd 1 rfl, hO.wd 0 rfl⟩).mono ?_
      rintro e w9 ⟨s9, N9, D9, A9, l9, c9, B9, k9, d9, rfl, HD9, hR9, hE9⟩
      have hO := ((hO.ext hE9).add hR9.1).add hR9.2
      clear hR9 hE9
      clear hf
      have hf := hO.cells
      simp only [BC, CC, Nat.zero_add, Nat.reduceAdd, and_true] at hf
      go_wp2_with ((with_reducible refine at_store (T := 40) ?_); refine own_store (vs := [.bool s9, .slice A9 l9 c9, .slice B9 k9 d9, .bool Q.p, .bool Q.m, .bool Q.n, .int .u64 (Q.t : Int)]) (T := 40) hO 0 rfl rfl rfl size_ds rfl rfl rfl ?_; clear hO; intro w11 hO; simp only [List.set_cons_zero, List.set_cons_succ, spl, List.take_succ_cons, List.take_zero, List.nil_append, List.cons_append, List.length_cons, List.length_nil, List.drop_succ_cons, List.drop_zero, List.drop_nil, Nat.reduceAdd, Nat.zero_add, List.append_nil] at hO; clear hf; have hf := hO.cells; simp only [BC, CC, Nat.zero_add, Nat.reduceAdd, and_true] at hf)
      go_roundw
      case rel => exact ⟨i + 1, by go_num, by omega, s9, N9, D9, A9, l9, c9, B9, k9, d9, by rw [← HQE.out]; exact HD9, by rw [← HQE.out]; exact hO.forget (fun s hs => List.mem_of_mem_take (i := 2) hs)⟩
      case measure => simp [intOf]; omega
    · have hie : i = n := by omega
      rw [hie] at hO HDR
      rw [HAL.out] at hO HDR
      have hf := hO.cells
      simp only [BC, CC, Nat.zero_add, Nat.reduceAdd, and_true] at hf
      go_wp2_with ((with_reducible refine at_store (T := 40) ?_); refine own_store (vs := [.bool sq, .slice A6 l6 c6, .slice B6 k6 d6, .bool (sqL xs).p, .bool (sqL xs).m, .bool (sqL xs).n, .int .u64 ((sqL xs).t : Int)]) (T := 40) hO 1 rfl rfl rfl size_ds rfl rfl rfl ?_; clear hO; intro w11 hO; simp only [List.set_cons_zero, List.set_cons_succ, spl, List.take_succ_cons, List.take_zero, List.nil_append, List.cons_append, List.length_cons, List.length_nil, List.drop_succ_cons, List.drop_zero, List.drop_nil, Nat.reduceAdd, Nat.zero_add, List.append_nil] at hO; clear hf; have hf := hO.cells; simp only [BC, CC, Nat.zero_add, Nat.reduceAdd, and_true] at hf)
      exact own_ret hO 1 rfl rfl rfl agg_ds size_ds rfl ⟨sq, Nq, Dq, A6, l6, c6, B6, k6, d6, rfl, HDR, ⟨hO.wd 1 rfl, hO.wd 0 rfl⟩, hO.toExt⟩
end Go.Proofs.YtfbjeifhpmdjaaaGreat

/-
  The contract of the law's whole. Conditions: those that each theorem names.
-/
namespace Go.Proofs.YtfbjeifhpmdjaaaGreat
open Go.RowKit Nm Rn
set_option maxRecDepth 100000
set_option linter.unusedVariables false
set_option linter.unusedSimpArgs false

set_option maxHeartbeats 2000000 in
theorem lwhole_0 (d : Int) (A : Option Addr) (n c : Nat) (xs : List Nat) (w : World) (h : Fds w A n c xs) :
    Calls Tryz.prog 15 #[.int .i64 0, .int .i64 d, .slice A n c] w fun e w' => e = .returned (.int .u64 ((sumL xs).round d : Nat)) ∧ Ext w w' := by
  have HD := Lib.hid (ttotal_any d A n c xs w h)
  have HB := Lib.hid (fun r w h => bits4_any r w h)
  generalize (sumL xs).round d = V at *
  clear h
  go_enter Tryz.func15, Tryz.ntmps15
  go_wp2_with fail
  refine HD.out.mono ?_
  rintro e w2 ⟨r, rfl, hr, hc, hE⟩
  go_wp2_with fail
  refine (HB.out r _ hr).mono ?_
  rintro e w3 ⟨rfl, rfl⟩
  rw [hc]
  go_wp2_with fail
  go_ret
  exact ⟨rfl, hE⟩
set_option maxHeartbeats 2000000 in
theorem lwhole_1 (d : Int) (A : Option Addr) (n c : Nat) (xs : List Nat) (w : World) (h : Fds w A n c xs) :
    Calls Tryz.prog 15 #[.int .i64 1, .int .i64 d, .slice A n c] w fun e w' => e = .returned (.int .u64 ((abL xs).round d : Nat)) ∧ Ext w w' := by
  have HD := Lib.hid (tabs_any d A n c xs w h)
  have HB := Lib.hid (fun r w h => bits4_any r w h)
  generalize (abL xs).round d = V at *
  clear h
  go_enter Tryz.func15, Tryz.ntmps15
  go_wp2_with fail
  refine HD.out.mono ?_
  rintro e w2 ⟨r, rfl, hr, hc, hE⟩
  go_wp2_with fail
  refine (HB.out r _ hr).mono ?_
  rintro e w3 ⟨rfl, rfl⟩
  rw [hc]
  go_wp2_with fail
  go_ret
  exact ⟨rfl, hE⟩
set_option maxHeartbeats 2000000 in
theorem lwhole_2 (d : Int) (A : Option Addr) (n c : Nat) (xs : List Nat) (w : World) (h : Fds w A n c xs) :
    Calls Tryz.prog 15 #[.int .i64 2, .int .i64 d, .slice A n c] w fun e w' => e = .returned (.int .u64 ((sqL xs).round d : Nat)) ∧ Ext w w' := by
  have HD := Lib.hid (tsquares_any d A n c xs w h)
  have HB := Lib.hid (fun r w h => bits4_any r w h)
  generalize (sqL xs).round d = V at *
  clear h
  go_enter Tryz.func15, Tryz.ntmps15
  go_wp2_with fail
  refine HD.out.mono ?_
  rintro e w2 ⟨r, rfl, hr, hc, hE⟩
  go_wp2_with fail
  refine (HB.out r _ hr).mono ?_
  rintro e w3 ⟨rfl, rfl⟩
  rw [hc]
  go_wp2_with fail
  go_ret
  exact ⟨rfl, hE⟩
end Go.Proofs.YtfbjeifhpmdjaaaGreat

/-
  The walk of TotalLists. Conditions: those that each theorem names.
-/
namespace Go.Proofs.YtfbjeifhpmdjaaaGreat
open Go.RowKit Nm Rn
set_option maxRecDepth 100000
set_option linter.unusedVariables false
set_option linter.unusedSimpArgs false

/-- The other list; the list that is asked and written over. -/
structure D3 (w : World) (gv gx : Nat) (vs zs : List Nat) (wk : World) : Prop where
  rv : RowU wk gv vs
  rx : RowF wk gx (zs ++ GF)
  ext : Ext w wk
  nv : gv ≠ gx
theorem D3.ext_ {w : World} {gv gx : Nat} {vs zs : List Nat} {wk wl : World} (h : D3 w gv gx vs zs wk) (he : Ext wk wl) : D3 w gv gx vs zs wl := ⟨Blk.ext h.rv he, h.rx.ext he, h.ext.trans he, h.nv⟩
theorem D3.placed {w : World} {gv gx : Nat} {vs zs zs' : List Nat} {wk wl : World} (h : D3 w gv gx vs zs wk) (hr : RowF wl gx (zs' ++ GF)) (he : ExtO w gx wk wl) : D3 w gv gx vs zs' wl := ⟨h.rv.only h.nv he.2, hr, he.1, h.nv⟩
theorem sumL_nw (xs : List Nat) (h : xs.length ≤ 1048576) : nw (sumL xs).T.natAbs ≤ 1000 := by
  have := fold_nw (f := fun S x => Sm.add S x) (fun S x => add_bd S x) xs (i := xs.length) (by omega)
  rwa [List.take_length] at this
theorem abL_nw (xs : List Nat) (h : xs.length ≤ 1048576) : nw (abL xs).T.natAbs ≤ 1000 := by
  have := fold_nw (f := fun S x => Sm.add S (mg x)) (fun S x => add_bd S _) xs (i := xs.length) (by omega)
  rwa [List.take_length] at this
theorem sqL_nw (xs : List Nat) (h : xs.length ≤ 1048576) : nw (sqL xs).T.natAbs ≤ 1000 := by
  have := fold_nw (f := fun S x => Sm.mul S x x) (fun S x => mul_bd S x x) xs (i := xs.length) (by omega)
  rwa [List.take_length] at this
set_option maxHeartbeats 16000000 in
theorem lists_walk (d : Int) (A : Option Addr) (n c : Nat) (xs : List Nat) (w : World) (h : Uds w A n c xs) (hn : n ≤ 1048576) :
    Calls Tryz.prog 4 #[.int .i64 d, .slice A n c] w fun e w' => e = .returned (.bool true) ∧ Ext w w' := by
  have HX := Lib.hid h
  have HX6 := Lib.hid h.ws
  have HXL := Lib.hid h.len
  have HNN := Lib.hid hn
  clear h
  have HL := Lib.hid (fun w => lives4_any w)
  go_enter Tryz.func4, Tryz.ntmps4
  go_wp2_with fail
  refine (fother_any A n c xs _ HX.out HNN.out).mono ?_
  rintro e w1 ⟨gv, vs, rfl, hvl, hv6, hrv, hgv, hE⟩
  have HVL := Lib.hid hvl
  have HV6 := Lib.hid hv6
  clear hvl hv6
  go_wp2_with fail
  go_loopw [6] (fun kv wr => ∃ i : Nat, kv = .int .i64 (i : Int) ∧ i ≤ 3 ∧ RowU wr gv vs ∧ Ext w wr) (fun kv _ => 3 - (intOf kv).toNat)
  case atStart => exact ⟨0, rfl, by omega, hrv, hE⟩
  case round =>
    obtain ⟨i, rfl, hi3, hrv', hEr⟩ := hrel
    clear hrv hE
    have hrv := hrv'
    have hE := hEr
    clear hrv' hEr
    rcases (show i = 0 ∨ i = 1 ∨ i = 2 ∨ i = 3 by omega) with rfl | rfl | rfl | rfl
    · rw [show ((0 : Nat) : Int) = 0 from rfl]
      go_wp2_with fail
      refine (dof_0 A n c xs _ (HX.out.ext hE) HNN.out).mono ?_
      rintro e w2 ⟨s1, N1, D1, A1, l1, c1, B1, k1, d1, rfl, HDR, hR, hE2⟩
      have hE := hE.trans hE2
      have hrv : RowU w2 gv vs := Blk.ext hrv hE2
      clear hE2
      go_wp2_with fail
      refine (dround_any (sumL xs) d (sumL_nw xs (by rw [HXL.out]; exact HNN.out)) HDR.out hR).mono ?_
      rintro e w3 ⟨rfl, hE2⟩
      have hE := hE.trans hE2
      have hrv : RowU w3 gv vs := Blk.ext hrv hE2
      clear hE2 hR HDR
      obtain ⟨R1, HR1⟩ : ∃ R1, Hid (R1 = (sumL xs).round d) := ⟨_, Lib.hid rfl⟩
      rw [← HR1.out]
      go_wp2_with fail
      refine (froomy_any A n c xs _ (HX.out.ext hE) HNN.out).mono ?_
      rintro e w4 ⟨gx, rfl, hrx, hgx, hE2⟩
      have hvx : gv ≠ gx := by have := Blk.lt hrv; omega
      have hgx0 : w.heap.size ≤ gx := by have := hE.size; omega
      have hD : D3 w gv gx vs xs w4 := ⟨Blk.ext hrv hE2, hrx, hE.trans hE2, hvx⟩
      clear hE2 hrv hrx hvx hE hgx
      go_wp2_with fail
      refine (lwhole_0 d (some ⟨gx, 0, none⟩) n (n + 40) xs _ (hD.rx.fds HX6.out HXL.out HNN.out)).mono ?_
      rintro e w6 ⟨rfl, hE2⟩
      have hD := hD.ext_ hE2
      clear hE2
      rw [← HR1.out]
      go_wp2_with fail
      refine (fleft_any A n c gx xs _ (HX.out.ext hD.ext) hD.rx HNN.out).mono ?_
      rintro e w6 ⟨rfl, hE2⟩
      have hD := hD.ext_ hE2
      clear hE2
      go_wp2_with fail
      refine (lwhole_0 d (some ⟨gx, 0, none⟩) n (n + 40) xs _ (hD.rx.fds HX6.out HXL.out HNN.out)).mono ?_
      rintro e w6 ⟨rfl, hE2⟩
      have hD := hD.ext_ hE2
      clear hE2
      rw [← HR1.out]
      go_wp2_with fail
      refine (fplace_any gx n (n + 40) xs (some ⟨gv, 0, none⟩) n vs w _ hD.rx HXL.out HVL.out HNN.out (Lib.hid (fun w2 h2 => (hD.rv.only hD.nv h2.2).uds HV6.out HVL.out HNN.out)) hD.ext hgx0).mono ?_
      rintro e w7 ⟨rfl, hr2, hE2⟩
      have hD := hD.placed hr2 hE2
      clear hr2 hE2
      obtain ⟨R2, HR2⟩ : ∃ R2, Hid (R2 = (sumL vs).round d) := ⟨_, Lib.hid rfl⟩
      go_wp2_with fail
      refine (lwhole_0 d (some ⟨gx, 0, none⟩) n (n + 40) vs _ (hD.rx.fds HV6.out HVL.out HNN.out)).mono ?_
      rintro e w6 ⟨rfl, hE2⟩
      have hD := hD.ext_ hE2
      clear hE2
      rw [← HR2.out]
      go_wp2_with fail
      refine (dof_0 (some ⟨gv, 0, none⟩) n n vs _ (hD.rv.uds HV6.out HVL.out HNN.out) HNN.out).mono ?_
      rintro e w2 ⟨s1, N1, D1, A1, l1, c1, B1, k1, d1, rfl, HDR, hR, hE2⟩
      have hD := hD.ext_ hE2
      clear hE2
      go_wp2_with fail
      refine (dround_any (sumL vs) d (sumL_nw vs (by rw [HVL.out]; exact HNN.out)) HDR.out hR).mono ?_
      rintro e w3 ⟨rfl, hE2⟩
      rw [← HR2.out]
      have hD := hD.ext_ hE2
      clear hE2 hR HDR
      go_wp2_with fail
      refine (fleft_any (some ⟨gv, 0, none⟩) n n gx vs _ (hD.rv.uds HV6.out HVL.out HNN.out) hD.rx HNN.out).mono ?_
      rintro e w6 ⟨rfl, hE2⟩
      have hD := hD.ext_ hE2
      clear hE2
      go_wp2_with fail
      refine (fplace_any gx n (n + 40) vs A c xs w _ hD.rx HVL.out HXL.out HNN.out (Lib.hid (fun w2 h2 => HX.out.ext h2.1)) hD.ext hgx0).mono ?_
      rintro e w7 ⟨rfl, hr2, hE2⟩
      have hD := hD.placed hr2 hE2
      clear hr2 hE2
      go_wp2_with fail
      refine (lwhole_0 d (some ⟨gx, 0, none⟩) n (n + 40) xs _ (hD.rx.fds HX6.out HXL.out HNN.out)).mono ?_
      rintro e w6 ⟨rfl, hE2⟩
      have hD := hD.ext_ hE2
      clear hE2
      rw [← HR1.out]
      go_wp2_with fail
      refine (fleft_any A n c gx xs _ (HX.out.ext hD.ext) hD.rx HNN.out).mono ?_
      rintro e w6 ⟨rfl, hE2⟩
      have hD := hD.ext_ hE2
      clear hE2
      go_wp2_with fail
      go_roundw
      case rel => exact ⟨1, rfl, by omega, hD.rv, hD.ext⟩
      case measure => simp [intOf]
    · rw [show ((1 : Nat) : Int) = 1 from rfl]
      go_wp2_with fail
      refine (dof_1 A n c xs _ (HX.out.ext hE) HNN.out).mono ?_
      rintro e w2 ⟨s1, N1, D1, A1, l1, c1, B1, k1, d1, rfl, HDR, hR, hE2⟩
      have hE := hE.trans hE2
      have hrv : RowU w2 gv vs := Blk.ext hrv hE2
      clear hE2
      go_wp2_with fail
      refine (dround_any (abL xs) d (abL_nw xs (by rw [HXL.out]; exact HNN.out)) HDR.out hR).mono ?_
      rintro e w3 ⟨rfl, hE2⟩
      have hE := hE.trans hE2
      have hrv : RowU w3 gv vs := Blk.ext hrv hE2
      clear hE2 hR HDR
      obtain ⟨R1, HR1⟩ : ∃ R1, Hid (R1 = (abL xs).round d) := ⟨_, Lib.hid rfl⟩
      rw [← HR1.out]
      go_wp2_with fail
      refine (froomy_any A n c xs _ (HX.out.ext hE) HNN.out).mono ?_
      rintro e w4 ⟨gx, rfl, hrx, hgx, hE2⟩
      have hvx : gv ≠ gx := by have := Blk.lt hrv; omega
      have hgx0 : w.heap.size ≤ gx := by have := hE.size; omega
      have hD : D3 w gv gx vs xs w4 := ⟨Blk.ext hrv hE2, hrx, hE.trans hE2, hvx⟩
      clear hE2 hrv hrx hvx hE hgx
      go_wp2_with fail
      refine (lwhole_1 d (some ⟨gx, 0, none⟩) n (n + 40) xs _ (hD.rx.fds HX6.out HXL.out HNN.out)).mono ?_
      rintro e w6 ⟨rfl, hE2⟩
      have hD := hD.ext_ hE2
      clear hE2
      rw [← HR1.out]
      go_wp2_with fail
      refine (fleft_any A n c gx xs _ (HX.out.ext hD.ext) hD.rx HNN.out).mono ?_
      rintro e w6 ⟨rfl, hE2⟩
      have hD := hD.ext_ hE2
      clear hE2
      go_wp2_with fail
      refine (lwhole_1 d (some ⟨gx, 0, none⟩) n (n + 40) xs _ (hD.rx.fds HX6.out HXL.out HNN.out)).mono ?_
      rintro e w6 ⟨rfl, hE2⟩
      have hD := hD.ext_ hE2
      clear hE2
      rw [← HR1.out]
      go_wp2_with fail
      refine (fplace_any gx n (n + 40) xs (some ⟨gv, 0, none⟩) n vs w _ hD.rx HXL.out HVL.out HNN.out (Lib.hid (fun w2 h2 => (hD.rv.only hD.nv h2.2).uds HV6.out HVL.out HNN.out)) hD.ext hgx0).mono ?_
      rintro e w7 ⟨rfl, hr2, hE2⟩
      have hD := hD.placed hr2 hE2
      clear hr2 hE2
      obtain ⟨R2, HR2⟩ : ∃ R2, Hid (R2 = (abL vs).round d) := ⟨_, Lib.hid rfl⟩
      go_wp2_with fail
      refine (lwhole_1 d (some ⟨gx, 0, none⟩) n (n + 40) vs _ (hD.rx.fds HV6.out HVL.out HNN.out)).mono ?_
      rintro e w6 ⟨rfl, hE2⟩
      have hD := hD.ext_ hE2
      clear hE2
      rw [← HR2.out]
      go_wp2_with fail
      refine (dof_1 (some ⟨gv, 0, none⟩) n n vs _ (hD.rv.uds HV6.out HVL.out HNN.out) HNN.out).mono ?_
      rintro e w2 ⟨s1, N1, D1, A1, l1, c1, B1, k1, d1, rfl, HDR, hR, hE2⟩
      have hD := hD.ext_ hE2
      clear hE2
      go_wp2_with fail
      refine (dround_any (abL vs) d (abL_nw vs (by rw [HVL.out]; exact HNN.out)) HDR.out hR).mono ?_
      rintro e w3 ⟨rfl, hE2⟩
      rw [← HR2.out]
      have hD := hD.ext_ hE2
      clear hE2 hR HDR
      go_wp2_with fail
      refine (fleft_any (some ⟨gv, 0, none⟩) n n gx vs _ (hD.rv.uds HV6.out HVL.out HNN.out) hD.rx HNN.out).mono ?_
      rintro e w6 ⟨rfl, hE2⟩
      have hD := hD.ext_ hE2
      clear hE2
      go_wp2_with fail
      refine (fplace_any gx n (n + 40) vs A c xs w _ hD.rx HVL.out HXL.out HNN.out (Lib.hid (fun w2 h2 => HX.out.ext h2.1)) hD.ext hgx0).mono ?_
      rintro e w7 ⟨rfl, hr2, hE2⟩
      have hD := hD.placed hr2 hE2
      clear hr2 hE2
      go_wp2_with fail
      refine (lwhole_1 d (some ⟨gx, 0, none⟩) n (n + 40) xs _ (hD.rx.fds HX6.out HXL.out HNN.out)).mono ?_
      rintro e w6 ⟨rfl, hE2⟩
      have hD := hD.ext_ hE2
      clear hE2
      rw [← HR1.out]
      go_wp2_with fail
      refine (fleft_any A n c gx xs _ (HX.out.ext hD.ext) hD.rx HNN.out).mono ?_
      rintro e w6 ⟨rfl, hE2⟩
      have hD := hD.ext_ hE2
      clear hE2
      go_wp2_with fail
      go_roundw
      case rel => exact ⟨2, rfl, by omega, hD.rv, hD.ext⟩
      case measure => simp [intOf]
    · rw [show ((2 : Nat) : Int) = 2 from rfl]
      go_wp2_with fail
      refine (dof_2 A n c xs _ (HX.out.ext hE) HNN.out).mono ?_
      rintro e w2 ⟨s1, N1, D1, A1, l1, c1, B1, k1, d1, rfl, HDR, hR, hE2⟩
      have hE := hE.trans hE2
      have hrv : RowU w2 gv vs := Blk.ext hrv hE2
      clear hE2
      go_wp2_with fail
      refine (dround_any (sqL xs) d (sqL_nw xs (by rw [HXL.out]; exact HNN.out)) HDR.out hR).mono ?_
      rintro e w3 ⟨rfl, hE2⟩
      have hE := hE.trans hE2
      have hrv : RowU w3 gv vs := Blk.ext hrv hE2
      clear hE2 hR HDR
      obtain ⟨R1, HR1⟩ : ∃ R1, Hid (R1 = (sqL xs).round d) := ⟨_, Lib.hid rfl⟩
      rw [← HR1.out]
      go_wp2_with fail
      refine (froomy_any A n c xs _ (HX.out.ext hE) HNN.out).mono ?_
      rintro e w4 ⟨gx, rfl, hrx, hgx, hE2⟩
      have hvx : gv ≠ gx := by have := Blk.lt hrv; omega
      have hgx0 : w.heap.size ≤ gx := by have := hE.size; omega
      have hD : D3 w gv gx vs xs w4 := ⟨Blk.ext hrv hE2, hrx, hE.trans hE2, hvx⟩
      clear hE2 hrv hrx hvx hE hgx
      go_wp2_with fail
      refine (lwhole_2 d (some ⟨gx, 0, none⟩) n (n + 40) xs _ (hD.rx.fds HX6.out HXL.out HNN.out)).mono ?_
      rintro e w6 ⟨rfl, hE2⟩
      have hD := hD.ext_ hE2
      clear hE2
      rw [← HR1.out]
      go_wp2_with fail
      refine (fleft_any A n c gx xs _ (HX.out.ext hD.ext) hD.rx HNN.out).mono ?_
      rintro e w6 ⟨rfl, hE2⟩
      have hD := hD.ext_ hE2
      clear hE2
      go_wp2_with fail
      refine (lwhole_2 d (some ⟨gx, 0, none⟩) n (n + 40) xs _ (hD.rx.fds HX6.out HXL.out HNN.out)).mono ?_
      rintro e w6 ⟨rfl, hE2⟩
      have hD := hD.ext_ hE2
      clear hE2
      rw [← HR1.out]
      go_wp2_with fail
      refine (fplace_any gx n (n + 40) xs (some ⟨gv, 0, none⟩) n vs w _ hD.rx HXL.out HVL.out HNN.out (Lib.hid (fun w2 h2 => (hD.rv.only hD.nv h2.2).uds HV6.out HVL.out HNN.out)) hD.ext hgx0).mono ?_
      rintro e w7 ⟨rfl, hr2, hE2⟩
      have hD := hD.placed hr2 hE2
      clear hr2 hE2
      obtain ⟨R2, HR2⟩ : ∃ R2, Hid (R2 = (sqL vs).round d) := ⟨_, Lib.hid rfl⟩
      go_wp2_with fail
      refine (lwhole_2 d (some ⟨gx, 0, none⟩) n (n + 40) vs _ (hD.rx.fds HV6.out HVL.out HNN.out)).mono ?_
      rintro e w6 ⟨rfl, hE2⟩
      have hD := hD.ext_ hE2
      clear hE2
      rw [← HR2.out]
      go_wp2_with fail
      refine (dof_2 (some ⟨gv, 0, none⟩) n n vs _ (hD.rv.uds HV6.out HVL.out HNN.out) HNN.out).mono ?_
      rintro e w2 ⟨s1, N1, D1, A1, l1, c1, B1, k1, d1, rfl, HDR, hR, hE2⟩
      have hD := hD.ext_ hE2
      clear hE2
      go_wp2_with fail
      refine (dround_any (sqL vs) d (sqL_nw vs (by rw [HVL.out]; exact HNN.out)) HDR.out hR).mono ?_
      rintro e w3 ⟨rfl, hE2⟩
      rw [← HR2.out]
      have hD := hD.ext_ hE2
      clear hE2 hR HDR
      go_wp2_with fail
      refine (fleft_any (some ⟨gv, 0, none⟩) n n gx vs _ (hD.rv.uds HV6.out HVL.out HNN.out) hD.rx HNN.out).mono ?_
      rintro e w6 ⟨rfl, hE2⟩
      have hD := hD.ext_ hE2
      clear hE2
      go_wp2_with fail
      refine (fplace_any gx n (n + 40) vs A c xs w _ hD.rx HVL.out HXL.out HNN.out (Lib.hid (fun w2 h2 => HX.out.ext h2.1)) hD.ext hgx0).mono ?_
      rintro e w7 ⟨rfl, hr2, hE2⟩
      have hD := hD.placed hr2 hE2
      clear hr2 hE2
      go_wp2_with fail
      refine (lwhole_2 d (some ⟨gx, 0, none⟩) n (n + 40) xs _ (hD.rx.fds HX6.out HXL.out HNN.out)).mono ?_
      rintro e w6 ⟨rfl, hE2⟩
      have hD := hD.ext_ hE2
      clear hE2
      rw [← HR1.out]
      go_wp2_with fail
      refine (fleft_any A n c gx xs _ (HX.out.ext hD.ext) hD.rx HNN.out).mono ?_
      rintro e w6 ⟨rfl, hE2⟩
      have hD := hD.ext_ hE2
      clear hE2
      go_wp2_with fail
      go_roundw
      case rel => exact ⟨3, rfl, by omega, hD.rv, hD.ext⟩
      case measure => simp [intOf]
    · rw [show ((3 : Nat) : Int) = 3 from rfl]
      go_wp2_with fail
      refine (HL.out _).mono ?_
      rintro e w9 ⟨rfl, hE2⟩
      go_wp2_with fail
      go_ret
      exact ⟨rfl, hE.trans hE2⟩
end Go.Proofs.YtfbjeifhpmdjaaaGreat
