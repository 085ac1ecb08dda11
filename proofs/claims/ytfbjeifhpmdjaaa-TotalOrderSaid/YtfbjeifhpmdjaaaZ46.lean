/-
  The walk of TotalOrder. Conditions: those that each theorem names.
-/
import Derived.Test.YtfbjeifhpmdjaaaZ45
import Derived.Test.YtfbjeifhpmdjaaaZ05
import Derived.Test.YtfbjeifhpmdjaaaZ06
namespace Go.Proofs.Ytfbjeifhpmdjaaa
open Go.RowKit Nm Rn
set_option maxRecDepth 100000
set_option linter.unusedVariables false
set_option linter.unusedSimpArgs false

theorem zero_arr4 (w : World) : (zeroValue 56).run Try.prog w = .ok (.agg #[.pointer none, .pointer none, .pointer none]) w := by kernel_rfl
theorem size_ptr4 (w : World) : (sizeOf 25).run Try.prog w = .ok 1 w := by kernel_rfl
theorem Own.up {w0 w : World} {A L : List Bx} {b : Bx} {W : List Sw} (h : Own w0 (A ++ b :: L) W w) : Own w0 (b :: (A ++ L)) W w := h.perm List.perm_middle
theorem Own.down {w0 w : World} {A L : List Bx} {b : Bx} {W : List Sw} (h : Own w0 (b :: (A ++ L)) W w) : Own w0 (A ++ b :: L) W w := h.perm List.perm_middle.symm
theorem Own.mid2 {w0 w : World} {A L : List Bx} {x b : Bx} {W : List Sw} (h : Own w0 (x :: (A ++ b :: L)) W w) : Own w0 (x :: b :: (A ++ L)) W w := h.perm (List.Perm.cons _ List.perm_middle)
theorem take4_mid {w0 w : World} {A L : List Bx} {W : List Sw} {g : Nat} (Z : Sm) (X Y : Nat) (b : Bool) (hS : Z.Ok) (hX : X < 18446744073709551616) (hY : Y < 18446744073709551616) (hO : Own w0 (A ++ ⟨g, 36, Z.cs⟩ :: L) W w) :
    Calls Try.prog 14 #[.pointer (some ⟨g, 0, none⟩), .agg #[.int .u64 (X : Int), .int .u64 (Y : Int), .bool b]] w fun e w' => e = .returned (.tuple #[]) ∧ Own w0 (A ++ ⟨g, 36, (Z.take X Y b).cs⟩ :: L) W w' :=
  (take4_any Z X Y b hS hX hY hO.up).mono fun e w' h => ⟨h.1, h.2.down⟩
theorem fw_next {ts : List Tm} {i X Y : Nat} {b : Bool} (h : tmA ts i = (X, Y, b)) : fwS ts (i + 1) = (fwS ts i).take X Y b := by show tkA _ _ = _; rw [h]; rfl
theorem bw_next {ts : List Tm} {K i X Y : Nat} {b : Bool} (h : tmA ts (K - 1 - i) = (X, Y, b)) : bwS ts K (i + 1) = (bwS ts K i).take X Y b := by show tkA _ _ = _; rw [h]; rfl
theorem pt_next {ts : List Tm} {r i X Y : Nat} {b : Bool} (hr : i % 3 = r) (h : tmA ts i = (X, Y, b)) : ptS ts r (i + 1) = (ptS ts r i).take X Y b := by
  show (if i % 3 = r then tkA _ _ else _) = _
  rw [if_pos hr, h]; rfl
theorem pt_skip {ts : List Tm} {r i : Nat} (hr : i % 3 ≠ r) : ptS ts r (i + 1) = ptS ts r i := by
  show (if i % 3 = r then tkA _ _ else _) = _
  rw [if_neg hr]

set_option maxHeartbeats 16000000 in
theorem order_w (A : Option Addr) (n c : Nat) (ts : List Tm) (y : Int) (w : World) (h : Trs w A n c ts) (hy1 : -9223372036854775808 ≤ y) (hy2 : y < 9223372036854775808) :
    Calls Try.prog 6 #[.slice A n c, .int .i64 y] w fun e w' => e = .returned (.bool true) ∧ Ext w w' := by
  have HT := Lib.hid h
  have hn63 := h.small
  have hts := h.2.2.2.1
  have hlen := h.len
  clear h
  have HL := Lib.hid (fun w => lives4_any w)
  have HOF := Lib.hid (fun i => fwS_ok hts i)
  have HOP := Lib.hid (fun j i => ptS_ok hts j i)
  obtain ⟨K, hK⟩ : ∃ K : Nat, K = if 3000 < n then 3000 else n := ⟨_, rfl⟩
  have hK1 : K ≤ 3000 := by rw [hK]; split <;> omega
  have hKn : K ≤ n := by rw [hK]; split <;> omega
  have hKc : (decide (3000 < (n : Int)) = true ∧ (K : Int) = 3000) ∨ (decide (3000 < (n : Int)) = false ∧ (K : Int) = (n : Int)) := by
    rcases Nat.lt_or_ge 3000 n with h1 | h1
    · left; exact ⟨decide_eq_true (by omega), by rw [hK, if_pos h1]; rfl⟩
    · right; exact ⟨decide_eq_false (by omega), by rw [hK, if_neg (by omega)]⟩
  have HKC := Lib.hid hKc
  have HOB := Lib.hid (fun i => bwS_ok hts K i)
  have HOA := Lib.hid (alS_ok hts K)
  have HB1 := Lib.hid (bw_same ts hK1)
  have HB2 := Lib.hid (al_same ts hK1)
  clear hts hK hKc
  have hf : True := trivial
  have hO := Own.start w
  go_enter Try.func6, Try.ntmps6
  go_wp2_with (go_at_call 9; (with_reducible refine (HL.out _).mono ?_); rintro e w1 ⟨rfl, hE⟩; have hO := hO.ext hE; clear hE)
  refine (tnew_any hO).mono ?_
  rintro e w2 ⟨gs, rfl, hO2⟩
  clear hO
  have hO := hO2
  clear hO2
  go_wp2_with fail
  refine (tnew_any hO).mono ?_
  rintro e w3 ⟨gb, rfl, hO2⟩
  clear hO
  have hO := hO2
  clear hO2
  go_wp2_with ((with_reducible refine at_alloc ?_); refine own_alloc hO zero_arr4 rfl rfl ?_; clear hO; intro ga wa hO; clear hf; have hf := hO.cells; simp only [BC, CC, Nat.zero_add, Nat.reduceAdd, and_true] at hf)
  go_loopw [8] (fun kv wr => ∃ i : Nat, kv = .int .i64 (i : Int) ∧ i ≤ 3 ∧ ((i = 0 ∧ Own w [⟨ga, 56, [.pointer none, .pointer none, .pointer none]⟩, ⟨gb, 36, (Sm.nil).cs⟩, ⟨gs, 36, (Sm.nil).cs⟩] [] wr) ∨ (i = 1 ∧ ∃ g0, Own w [⟨ga, 56, [.pointer (some ⟨g0, 0, none⟩), .pointer none, .pointer none]⟩, ⟨g0, 36, (Sm.nil).cs⟩, ⟨gb, 36, (Sm.nil).cs⟩, ⟨gs, 36, (Sm.nil).cs⟩] [] wr) ∨ (i = 2 ∧ ∃ g0 g1, Own w [⟨ga, 56, [.pointer (some ⟨g0, 0, none⟩), .pointer (some ⟨g1, 0, none⟩), .pointer none]⟩, ⟨g1, 36, (Sm.nil).cs⟩, ⟨g0, 36, (Sm.nil).cs⟩, ⟨gb, 36, (Sm.nil).cs⟩, ⟨gs, 36, (Sm.nil).cs⟩] [] wr) ∨ (i = 3 ∧ ∃ g0 g1 g2, Own w [⟨ga, 56, [.pointer (some ⟨g0, 0, none⟩), .pointer (some ⟨g1, 0, none⟩), .pointer (some ⟨g2, 0, none⟩)]⟩, ⟨g2, 36, (Sm.nil).cs⟩, ⟨g1, 36, (Sm.nil).cs⟩, ⟨g0, 36, (Sm.nil).cs⟩, ⟨gb, 36, (Sm.nil).cs⟩, ⟨gs, 36, (Sm.nil).cs⟩] [] wr))) (fun kv _ => 3 - (intOf kv).toNat)
  case atStart => exact ⟨0, rfl, by omega, .inl ⟨rfl, hO⟩⟩
  case round =>
    obtain ⟨i, rfl, hi3, hcase⟩ := hrel
    clear hO
    rcases hcase with hcase | hcase | hcase | hcase
    · obtain ⟨rfl, hOr⟩ := hcase
      have hO := hOr
      clear hOr
      skip
      have hf := hO.cells
      simp only [BC, CC, Nat.zero_add, Nat.reduceAdd, and_true] at hf
      go_wp2_with fail
      refine (tnew_any hO).mono ?_
      rintro e w2 ⟨g0, rfl, hO2⟩
      clear hO
      have hO := hO2
      clear hO2
      clear hf
      have hf := hO.cells
      simp only [BC, CC, Nat.zero_add, Nat.reduceAdd, and_true] at hf
      go_wp2_with ((with_reducible refine at_store (T := 25) ?_); refine own_store (vs := [.pointer (some ⟨g0, 0, none⟩)]) (T := 25) hO 1 rfl rfl rfl size_ptr4 rfl rfl rfl ?_; clear hO; intro wb hO; simp only [List.set_cons_zero, List.set_cons_succ, spl, List.take_succ_cons, List.take_zero, List.nil_append, List.cons_append, List.length_cons, List.length_nil, List.drop_succ_cons, List.drop_zero, List.drop_nil, Nat.reduceAdd, Nat.zero_add, List.append_nil] at hO; clear hf; have hf := hO.cells; simp only [BC, CC, Nat.zero_add, Nat.reduceAdd, and_true] at hf)
      go_roundw
      case rel => exact ⟨1, rfl, by omega, .inr (.inl ⟨rfl, g0, hO.swap⟩)⟩
      case measure => simp [intOf]
    · obtain ⟨rfl, g0, hOr⟩ := hcase
      have hO := hOr
      clear hOr
      skip
      have hf := hO.cells
      simp only [BC, CC, Nat.zero_add, Nat.reduceAdd, and_true] at hf
      go_wp2_with fail
      refine (tnew_any hO).mono ?_
      rintro e w2 ⟨g1, rfl, hO2⟩
      clear hO
      have hO := hO2
      clear hO2
      clear hf
      have hf := hO.cells
      simp only [BC, CC, Nat.zero_add, Nat.reduceAdd, and_true] at hf
      go_wp2_with ((with_reducible refine at_store (T := 25) ?_); refine own_store (vs := [.pointer (some ⟨g1, 0, none⟩)]) (T := 25) hO 1 rfl rfl rfl size_ptr4 rfl rfl rfl ?_; clear hO; intro wb hO; simp only [List.set_cons_zero, List.set_cons_succ, spl, List.take_succ_cons, List.take_zero, List.nil_append, List.cons_append, List.length_cons, List.length_nil, List.drop_succ_cons, List.drop_zero, List.drop_nil, Nat.reduceAdd, Nat.zero_add, List.append_nil] at hO; clear hf; have hf := hO.cells; simp only [BC, CC, Nat.zero_add, Nat.reduceAdd, and_true] at hf)
      go_roundw
      case rel => exact ⟨2, rfl, by omega, .inr (.inr (.inl ⟨rfl, g0, g1, hO.swap⟩))⟩
      case measure => simp [intOf]
    · obtain ⟨rfl, g0, g1, hOr⟩ := hcase
      have hO := hOr
      clear hOr
      skip
      have hf := hO.cells
      simp only [BC, CC, Nat.zero_add, Nat.reduceAdd, and_true] at hf
      go_wp2_with fail
      refine (tnew_any hO).mono ?_
      rintro e w2 ⟨g2, rfl, hO2⟩
      clear hO
      have hO := hO2
      clear hO2
      clear hf
      have hf := hO.cells
      simp only [BC, CC, Nat.zero_add, Nat.reduceAdd, and_true] at hf
      go_wp2_with ((with_reducible refine at_store (T := 25) ?_); refine own_store (vs := [.pointer (some ⟨g2, 0, none⟩)]) (T := 25) hO 1 rfl rfl rfl size_ptr4 rfl rfl rfl ?_; clear hO; intro wb hO; simp only [List.set_cons_zero, List.set_cons_succ, spl, List.take_succ_cons, List.take_zero, List.nil_append, List.cons_append, List.length_cons, List.length_nil, List.drop_succ_cons, List.drop_zero, List.drop_nil, Nat.reduceAdd, Nat.zero_add, List.append_nil] at hO; clear hf; have hf := hO.cells; simp only [BC, CC, Nat.zero_add, Nat.reduceAdd, and_true] at hf)
      go_roundw
      case rel => exact ⟨3, rfl, by omega, .inr (.inr (.inr ( ⟨rfl, g0, g1, g2, hO.swap⟩)))⟩
      case measure => simp [intOf]
    · obtain ⟨rfl, g0, g1, g2, hOr⟩ := hcase
      have hO := hOr
      clear hOr hi3
      rw [show ((3 : Nat) : Int) = 3 from rfl]
      rcases HKC.out with ⟨u1, u2⟩ | ⟨u1, u2⟩
      · go_upto_region 13 with fail
        rw [← u2]
        clear u1 u2
        go_wp2_with fail
        have hpc : K ≤ n := hKn
        go_loopw [10] (fun kv wr => ∃ i : Nat, kv = .int .i64 (i : Int) ∧ i ≤ K ∧ Own w [⟨ga, 56, [.pointer (some ⟨g0, 0, none⟩), .pointer (some ⟨g1, 0, none⟩), .pointer (some ⟨g2, 0, none⟩)]⟩, ⟨g2, 36, (ptS ts 2 i).cs⟩, ⟨g1, 36, (ptS ts 1 i).cs⟩, ⟨g0, 36, (ptS ts 0 i).cs⟩, ⟨gb, 36, (bwS ts K i).cs⟩, ⟨gs, 36, (fwS ts i).cs⟩] [] wr) (fun kv _ => K - (intOf kv).toNat)
        case atStart => exact ⟨0, rfl, Nat.zero_le _, hO⟩
        case round =>
          obtain ⟨i, rfl, hiK, hOr⟩ := hrel
          clear hO hf
          have hO := hOr
          clear hOr
          by_cases hlt : i < K
          · obtain ⟨J, hJ⟩ : ∃ J, J = K - 1 - i := ⟨_, rfl⟩
            have hJn : J < n := by omega
            have hw2 : IntKind.i64.wrap ((K : Int) - 1 - (i : Int)) = (J : Int) := by rw [IntKind.wrap_i64]; omega
            have HJE := Lib.hid hJ
            clear hJ
            obtain ⟨ad1, X1, Y1, b1, hA1, hq1, lX1, lY1, _, _, _⟩ := HT.out.at_ (show i < n by omega)
            obtain ⟨ad, rfl⟩ : ∃ ad, A = some ad := ⟨_, hA1⟩
            injection hA1 with hA1
            subst hA1
            obtain ⟨ad2, X2, Y2, b2, hA2, hq2, lX2, lY2, _, _, _⟩ := HT.out.at_ (show J < n by omega)
            injection hA2 with hA2
            subst hA2
            obtain ⟨p1, hp1⟩ : ∃ p, (ad).add (i * 3) = p := ⟨_, rfl⟩
            have HC1 : Hid (∀ wz, Ext w wz → wz.cell? p1 = some (.int .u64 (X1 : Int)) ∧ wz.cell? ⟨p1.block, p1.off + 1, none⟩ = some (.int .u64 (Y1 : Int)) ∧ wz.cell? ⟨p1.block, p1.off + 2, none⟩ = some (.bool b1)) := Lib.hid (fun wz hz => by
              obtain ⟨ad', X', Y', b', e1, e2, _, _, e3⟩ := (HT.out.ext hz).at_ (show i < n by omega)
              rw [hq1] at e2
              injection e2 with e2
              injection e2 with e2 e4
              injection e4 with e4 e5
              injection e1 with e1
              subst e1 e2 e4 e5
              rw [← addr_add2, ← addr_add2, hp1] at e3
              exact e3)
            obtain ⟨p2, hp2⟩ : ∃ p, (ad).add (J * 3) = p := ⟨_, rfl⟩
            have HC2 : Hid (∀ wz, Ext w wz → wz.cell? p2 = some (.int .u64 (X2 : Int)) ∧ wz.cell? ⟨p2.block, p2.off + 1, none⟩ = some (.int .u64 (Y2 : Int)) ∧ wz.cell? ⟨p2.block, p2.off + 2, none⟩ = some (.bool b2)) := Lib.hid (fun wz hz => by
              obtain ⟨ad', X', Y', b', e1, e2, _, _, e3⟩ := (HT.out.ext hz).at_ (show J < n by omega)
              rw [hq2] at e2
              injection e2 with e2
              injection e2 with e2 e4
              injection e4 with e4 e5
              injection e1 with e1
              subst e1 e2 e4 e5
              rw [← addr_add2, ← addr_add2, hp2] at e3
              exact e3)
            have HTS : Hid (∀ w1, Own w [⟨ga, 56, [.pointer (some ⟨g0, 0, none⟩), .pointer (some ⟨g1, 0, none⟩), .pointer (some ⟨g2, 0, none⟩)]⟩, ⟨g2, 36, (ptS ts 2 i).cs⟩, ⟨g1, 36, (ptS ts 1 i).cs⟩, ⟨g0, 36, (ptS ts 0 i).cs⟩, ⟨gb, 36, (bwS ts K i).cs⟩, ⟨gs, 36, (fwS ts i).cs⟩] [] w1 → Calls Try.prog 14 #[.pointer (some ⟨gs, 0, none⟩), .agg #[.int .u64 (X1 : Int), .int .u64 (Y1 : Int), .bool b1]] w1 fun e w' => e = .returned (.tuple #[]) ∧ Own w [⟨ga, 56, [.pointer (some ⟨g0, 0, none⟩), .pointer (some ⟨g1, 0, none⟩), .pointer (some ⟨g2, 0, none⟩)]⟩, ⟨g2, 36, (ptS ts 2 i).cs⟩, ⟨g1, 36, (ptS ts 1 i).cs⟩, ⟨g0, 36, (ptS ts 0 i).cs⟩, ⟨gb, 36, (bwS ts K i).cs⟩, ⟨gs, 36, (fwS ts (i + 1)).cs⟩] [] w') := Lib.hid (fun w1 h => by
              have h1 := take4_mid (w0 := w) (A := [⟨ga, 56, [.pointer (some ⟨g0, 0, none⟩), .pointer (some ⟨g1, 0, none⟩), .pointer (some ⟨g2, 0, none⟩)]⟩, ⟨g2, 36, (ptS ts 2 i).cs⟩, ⟨g1, 36, (ptS ts 1 i).cs⟩, ⟨g0, 36, (ptS ts 0 i).cs⟩, ⟨gb, 36, (bwS ts K i).cs⟩]) (fwS ts i) X1 Y1 b1 (HOF.out i) lX1 lY1 h
              have h2 : fwS ts (i + 1) = (fwS ts i).take X1 Y1 b1 := fw_next (tmA_of hq1)
              rw [h2]
              exact h1)
            have HTB : Hid (∀ w1, Own w [⟨ga, 56, [.pointer (some ⟨g0, 0, none⟩), .pointer (some ⟨g1, 0, none⟩), .pointer (some ⟨g2, 0, none⟩)]⟩, ⟨g2, 36, (ptS ts 2 i).cs⟩, ⟨g1, 36, (ptS ts 1 i).cs⟩, ⟨g0, 36, (ptS ts 0 i).cs⟩, ⟨gb, 36, (bwS ts K i).cs⟩, ⟨gs, 36, (fwS ts (i + 1)).cs⟩] [] w1 → Calls Try.prog 14 #[.pointer (some ⟨gb, 0, none⟩), .agg #[.int .u64 (X2 : Int), .int .u64 (Y2 : Int), .bool b2]] w1 fun e w' => e = .returned (.tuple #[]) ∧ Own w [⟨ga, 56, [.pointer (some ⟨g0, 0, none⟩), .pointer (some ⟨g1, 0, none⟩), .pointer (some ⟨g2, 0, none⟩)]⟩, ⟨g2, 36, (ptS ts 2 i).cs⟩, ⟨g1, 36, (ptS ts 1 i).cs⟩, ⟨g0, 36, (ptS ts 0 i).cs⟩, ⟨gb, 36, (bwS ts K (i + 1)).cs⟩, ⟨gs, 36, (fwS ts (i + 1)).cs⟩] [] w') := Lib.hid (fun w1 h => by
              have h1 := take4_mid (w0 := w) (A := [⟨ga, 56, [.pointer (some ⟨g0, 0, none⟩), .pointer (some ⟨g1, 0, none⟩), .pointer (some ⟨g2, 0, none⟩)]⟩, ⟨g2, 36, (ptS ts 2 i).cs⟩, ⟨g1, 36, (ptS ts 1 i).cs⟩, ⟨g0, 36, (ptS ts 0 i).cs⟩]) (bwS ts K i) X2 Y2 b2 (HOB.out i) lX2 lY2 h
              have h2 : bwS ts K (i + 1) = (bwS ts K i).take X2 Y2 b2 := bw_next (by rw [← HJE.out]; exact tmA_of hq2)
              rw [h2]
              exact h1)
            have bi0 : (0 : Int) ≤ (i : Int) := by omega
            have bi1 : (i : Int) < (n : Int) := by omega
            have bj0 : (0 : Int) ≤ (J : Int) := by omega
            have bj1 : (J : Int) < (n : Int) := by omega
            have blt : decide ((i : Int) < (K : Int)) = true := decide_eq_true (by omega)
            have hw1 : IntKind.i64.wrap ((K : Int) - 1) = (K : Int) - 1 := by rw [IntKind.wrap_i64]; omega
            obtain ⟨c1, c2, c3⟩ := HC1.out _ hO.toExt
            have hf := hO.cells
            simp only [BC, CC, Nat.zero_add, Nat.reduceAdd, and_true] at hf
            go_upto_region 16 with fail
            go_wp2_with fail
            refine (HTS.out _ hO).mono ?_
            rintro e w3 ⟨rfl, hO2⟩
            clear hO hf c1 c2 c3 HTS
            have hO := hO2
            clear hO2
            obtain ⟨c1, c2, c3⟩ := HC2.out _ hO.toExt
            go_wp2_with fail
            refine (HTB.out _ hO).mono ?_
            rintro e w4 ⟨rfl, hO2⟩
            clear hO c1 c2 c3 HTB HC2 hJn bj0 bj1 hw1 hw2 hp2
            have hO := hO2
            clear hO2
            have hf := hO.cells
            simp only [BC, CC, Nat.zero_add, Nat.reduceAdd, and_true] at hf
            rcases (show i % 3 = 0 ∨ i % 3 = 1 ∨ i % 3 = 2 by omega) with hi3 | hi3 | hi3
            · have hme : (i : Int) % 3 = 0 := by omega
              have hmt : (i : Int).tmod 3 = 0 := by rw [Int.tmod_eq_emod_of_nonneg (by omega)]; omega
              have HTP : Hid (∀ w1, Own w [⟨ga, 56, [.pointer (some ⟨g0, 0, none⟩), .pointer (some ⟨g1, 0, none⟩), .pointer (some ⟨g2, 0, none⟩)]⟩, ⟨g2, 36, (ptS ts 2 i).cs⟩, ⟨g1, 36, (ptS ts 1 i).cs⟩, ⟨g0, 36, (ptS ts 0 i).cs⟩, ⟨gb, 36, (bwS ts K (i + 1)).cs⟩, ⟨gs, 36, (fwS ts (i + 1)).cs⟩] [] w1 → Calls Try.prog 14 #[.pointer (some ⟨g0, 0, none⟩), .agg #[.int .u64 (X1 : Int), .int .u64 (Y1 : Int), .bool b1]] w1 fun e w' => e = .returned (.tuple #[]) ∧ Own w [⟨ga, 56, [.pointer (some ⟨g0, 0, none⟩), .pointer (some ⟨g1, 0, none⟩), .pointer (some ⟨g2, 0, none⟩)]⟩, ⟨g2, 36, (ptS ts 2 i).cs⟩, ⟨g1, 36, (ptS ts 1 i).cs⟩, ⟨g0, 36, (ptS ts 0 (i + 1)).cs⟩, ⟨gb, 36, (bwS ts K (i + 1)).cs⟩, ⟨gs, 36, (fwS ts (i + 1)).cs⟩] [] w') := Lib.hid (fun w1 h => by
                have h1 := take4_mid (w0 := w) (A := [⟨ga, 56, [.pointer (some ⟨g0, 0, none⟩), .pointer (some ⟨g1, 0, none⟩), .pointer (some ⟨g2, 0, none⟩)]⟩, ⟨g2, 36, (ptS ts 2 i).cs⟩, ⟨g1, 36, (ptS ts 1 i).cs⟩]) (ptS ts 0 i) X1 Y1 b1 (HOP.out 0 i) lX1 lY1 h
                have h2 : ptS ts 0 (i + 1) = (ptS ts 0 i).take X1 Y1 b1 := pt_next hi3 (tmA_of hq1)
                rw [h2]
                exact h1)
              have HJ1 : Hid (ptS ts 1 (i + 1) = ptS ts 1 i) := Lib.hid (pt_skip (by omega))
              have HJ2 : Hid (ptS ts 2 (i + 1) = ptS ts 2 i) := Lib.hid (pt_skip (by omega))
              clear hi3
              go_upto_region 18 with fail
              obtain ⟨S, hS⟩ : ∃ S : World → Prop, S = Own w [⟨ga, 56, [.pointer (some ⟨g0, 0, none⟩), .pointer (some ⟨g1, 0, none⟩), .pointer (some ⟨g2, 0, none⟩)]⟩, ⟨g2, 36, (ptS ts 2 i).cs⟩, ⟨g1, 36, (ptS ts 1 i).cs⟩, ⟨g0, 36, (ptS ts 0 i).cs⟩, ⟨gb, 36, (bwS ts K (i + 1)).cs⟩, ⟨gs, 36, (fwS ts (i + 1)).cs⟩] [] := ⟨_, rfl⟩
              have hSE : ∀ w w', S w → Ext w w' → S w' := fun w w' h1 h2 => by rw [hS] at h1 ⊢; exact h1.ext h2
              have hS1 : S w4.drew := by rw [hS]; exact hO.ext (Ext.refl w4).drew
              have HS := Lib.hid hS
              clear hS hO hf
              obtain ⟨sp, hsp⟩ : ∃ sp : Nat → Sp, sp = ofList [det (.int .i64 (i : Int)), det (.int .i64 0), det (.pointer (some ⟨ga, 0, none⟩)), det (.pointer (some ⟨g0, 0, none⟩)), det (.slice (some ad) n c), det (.int .i64 (i : Int)), det (.pointer (some p1)), det (.agg #[.int .u64 (X1 : Int), .int .u64 (Y1 : Int), .bool b1])] := ⟨_, rfl⟩
              have HSP := Lib.hid hsp
              clear hsp
              refine wp_region_loose 8 S sp (by kernel_rfl) (by kernel_rfl) hS1 hSE ?_
              simp only [List.take_succ_cons, List.take_zero, List.drop_succ_cons, List.drop_zero]
              iterate 7
                refine wpX_step (fun K hK => ?_)
                go_simp
                refine StepY.det (by rw [HSP.out]; rfl) ?_ ?_
                · intro wz hz hF
                  rw [HS.out] at hz
                  have hf := hz.cells
                  simp only [BC, CC, Nat.zero_add, Nat.reduceAdd, and_true] at hf
                  clear hz hF
                  go_simp
                  exact ⟨rfl, Ext.refl _⟩
                refine hK _ _ ?_
                clear hK K
              refine wpX_step (fun K hK => ?_)
              go_simp
              refine StepY.det (by rw [HSP.out]; rfl) ?_ ?_
              · intro wz hz hF
                rw [HS.out] at hz
                obtain ⟨c1, c2, c3⟩ := HC1.out _ hz.toExt
                clear hz hF
                go_simp
                exact ⟨rfl, Ext.refl _⟩
              refine hK _ _ ?_
              clear hK K
              refine wpX_nil ?_
              intro wq hz hF
              clear hF
              rw [HS.out] at hz
              have hO := hz
              clear hz HS HSP
              have hf := hO.cells
              simp only [BC, CC, Nat.zero_add, Nat.reduceAdd, and_true] at hf
              go_wp2_with fail
              refine (HTP.out _ hO).mono ?_
              rintro e w5 ⟨rfl, hO2⟩
              clear hO hf
              have hO := hO2
              clear hO2
              skip
              have hf := hO.cells
              simp only [BC, CC, Nat.zero_add, Nat.reduceAdd, and_true] at hf
              go_wp2_with fail
              · have hf : True := trivial
                refine (tround_any (bwS ts K (i + 1)) (-1) (fun hs => (HOB.out (i + 1)).fit hs) (hO.up (A := [⟨ga, 56, [.pointer (some ⟨g0, 0, none⟩), .pointer (some ⟨g1, 0, none⟩), .pointer (some ⟨g2, 0, none⟩)]⟩, ⟨g2, 36, (ptS ts 2 i).cs⟩, ⟨g1, 36, (ptS ts 1 i).cs⟩, ⟨g0, 36, (ptS ts 0 (i + 1)).cs⟩]))).mono ?_
                rintro e w6 ⟨r6, rfl, _, _, hE6⟩
                have hO := hO.ext hE6
                clear hE6
                clear hf
                have hf := hO.cells
                simp only [BC, CC, Nat.zero_add, Nat.reduceAdd, and_true] at hf
                go_wp2_with fail
                refine (troot_any (ptS ts 0 (i + 1)) 1 (fun hs => (HOP.out 0 (i + 1)).fit hs) (hO.up (A := [⟨ga, 56, [.pointer (some ⟨g0, 0, none⟩), .pointer (some ⟨g1, 0, none⟩), .pointer (some ⟨g2, 0, none⟩)]⟩, ⟨g2, 36, (ptS ts 2 i).cs⟩, ⟨g1, 36, (ptS ts 1 i).cs⟩]))).mono ?_
                rintro e w7 ⟨r7, rfl, _, _, hE7⟩
                have hO := hO.ext hE7
                clear hE7
                go_wp2_with fail
                go_roundw

                case rel => exact ⟨i + 1, by go_num, by omega, by rw [HJ1.out]; rw [HJ2.out]; exact hO⟩
                case measure => simp [intOf]; omega
              · go_roundw

                case rel => exact ⟨i + 1, by go_num, by omega, by rw [HJ1.out]; rw [HJ2.out]; exact hO⟩
                case measure => simp [intOf]; omega
            · have hme : (i : Int) % 3 = 1 := by omega
              have hmt : (i : Int).tmod 3 = 1 := by rw [Int.tmod_eq_emod_of_nonneg (by omega)]; omega
              have HTP : Hid (∀ w1, Own w [⟨ga, 56, [.pointer (some ⟨g0, 0, none⟩), .pointer (some ⟨g1, 0, none⟩), .pointer (some ⟨g2, 0, none⟩)]⟩, ⟨g2, 36, (ptS ts 2 i).cs⟩, ⟨g1, 36, (ptS ts 1 i).cs⟩, ⟨g0, 36, (ptS ts 0 i).cs⟩, ⟨gb, 36, (bwS ts K (i + 1)).cs⟩, ⟨gs, 36, (fwS ts (i + 1)).cs⟩] [] w1 → Calls Try.prog 14 #[.pointer (some ⟨g1, 0, none⟩), .agg #[.int .u64 (X1 : Int), .int .u64 (Y1 : Int), .bool b1]] w1 fun e w' => e = .returned (.tuple #[]) ∧ Own w [⟨ga, 56, [.pointer (some ⟨g0, 0, none⟩), .pointer (some ⟨g1, 0, none⟩), .pointer (some ⟨g2, 0, none⟩)]⟩, ⟨g2, 36, (ptS ts 2 i).cs⟩, ⟨g1, 36, (ptS ts 1 (i + 1)).cs⟩, ⟨g0, 36, (ptS ts 0 i).cs⟩, ⟨gb, 36, (bwS ts K (i + 1)).cs⟩, ⟨gs, 36, (fwS ts (i + 1)).cs⟩] [] w') := Lib.hid (fun w1 h => by
                have h1 := take4_mid (w0 := w) (A := [⟨ga, 56, [.pointer (some ⟨g0, 0, none⟩), .pointer (some ⟨g1, 0, none⟩), .pointer (some ⟨g2, 0, none⟩)]⟩, ⟨g2, 36, (ptS ts 2 i).cs⟩]) (ptS ts 1 i) X1 Y1 b1 (HOP.out 1 i) lX1 lY1 h
                have h2 : ptS ts 1 (i + 1) = (ptS ts 1 i).take X1 Y1 b1 := pt_next hi3 (tmA_of hq1)
                rw [h2]
                exact h1)
              have HJ0 : Hid (ptS ts 0 (i + 1) = ptS ts 0 i) := Lib.hid (pt_skip (by omega))
              have HJ2 : Hid (ptS ts 2 (i + 1) = ptS ts 2 i) := Lib.hid (pt_skip (by omega))
              clear hi3
              go_upto_region 18 with fail
              obtain ⟨S, hS⟩ : ∃ S : World → Prop, S = Own w [⟨ga, 56, [.pointer (some ⟨g0, 0, none⟩), .pointer (some ⟨g1, 0, none⟩), .pointer (some ⟨g2, 0, none⟩)]⟩, ⟨g2, 36, (ptS ts 2 i).cs⟩, ⟨g1, 36, (ptS ts 1 i).cs⟩, ⟨g0, 36, (ptS ts 0 i).cs⟩, ⟨gb, 36, (bwS ts K (i + 1)).cs⟩, ⟨gs, 36, (fwS ts (i + 1)).cs⟩] [] := ⟨_, rfl⟩
              have hSE : ∀ w w', S w → Ext w w' → S w' := fun w w' h1 h2 => by rw [hS] at h1 ⊢; exact h1.ext h2
              have hS1 : S w4.drew := by rw [hS]; exact hO.ext (Ext.refl w4).drew
              have HS := Lib.hid hS
              clear hS hO hf
              obtain ⟨sp, hsp⟩ : ∃ sp : Nat → Sp, sp = ofList [det (.int .i64 (i : Int)), det (.int .i64 1), det (.pointer (some ⟨ga, 1, none⟩)), det (.pointer (some ⟨g1, 0, none⟩)), det (.slice (some ad) n c), det (.int .i64 (i : Int)), det (.pointer (some p1)), det (.agg #[.int .u64 (X1 : Int), .int .u64 (Y1 : Int), .bool b1])] := ⟨_, rfl⟩
              have HSP := Lib.hid hsp
              clear hsp
              refine wp_region_loose 8 S sp (by kernel_rfl) (by kernel_rfl) hS1 hSE ?_
              simp only [List.take_succ_cons, List.take_zero, List.drop_succ_cons, List.drop_zero]
              iterate 7
                refine wpX_step (fun K hK => ?_)
                go_simp
                refine StepY.det (by rw [HSP.out]; rfl) ?_ ?_
                · intro wz hz hF
                  rw [HS.out] at hz
                  have hf := hz.cells
                  simp only [BC, CC, Nat.zero_add, Nat.reduceAdd, and_true] at hf
                  clear hz hF
                  go_simp
                  exact ⟨rfl, Ext.refl _⟩
                refine hK _ _ ?_
                clear hK K
              refine wpX_step (fun K hK => ?_)
              go_simp
              refine StepY.det (by rw [HSP.out]; rfl) ?_ ?_
              · intro wz hz hF
                rw [HS.out] at hz
                obtain ⟨c1, c2, c3⟩ := HC1.out _ hz.toExt
                clear hz hF
                go_simp
                exact ⟨rfl, Ext.refl _⟩
              refine hK _ _ ?_
              clear hK K
              refine wpX_nil ?_
              intro wq hz hF
              clear hF
              rw [HS.out] at hz
              have hO := hz
              clear hz HS HSP
              have hf := hO.cells
              simp only [BC, CC, Nat.zero_add, Nat.reduceAdd, and_true] at hf
              go_wp2_with fail
              refine (HTP.out _ hO).mono ?_
              rintro e w5 ⟨rfl, hO2⟩
              clear hO hf
              have hO := hO2
              clear hO2
              skip
              have hf := hO.cells
              simp only [BC, CC, Nat.zero_add, Nat.reduceAdd, and_true] at hf
              go_wp2_with fail
              · have hf : True := trivial
                refine (tround_any (bwS ts K (i + 1)) (-1) (fun hs => (HOB.out (i + 1)).fit hs) (hO.up (A := [⟨ga, 56, [.pointer (some ⟨g0, 0, none⟩), .pointer (some ⟨g1, 0, none⟩), .pointer (some ⟨g2, 0, none⟩)]⟩, ⟨g2, 36, (ptS ts 2 i).cs⟩, ⟨g1, 36, (ptS ts 1 (i + 1)).cs⟩, ⟨g0, 36, (ptS ts 0 i).cs⟩]))).mono ?_
                rintro e w6 ⟨r6, rfl, _, _, hE6⟩
                have hO := hO.ext hE6
                clear hE6
                clear hf
                have hf := hO.cells
                simp only [BC, CC, Nat.zero_add, Nat.reduceAdd, and_true] at hf
                go_wp2_with fail
                refine (troot_any (ptS ts 1 (i + 1)) 1 (fun hs => (HOP.out 1 (i + 1)).fit hs) (hO.up (A := [⟨ga, 56, [.pointer (some ⟨g0, 0, none⟩), .pointer (some ⟨g1, 0, none⟩), .pointer (some ⟨g2, 0, none⟩)]⟩, ⟨g2, 36, (ptS ts 2 i).cs⟩]))).mono ?_
                rintro e w7 ⟨r7, rfl, _, _, hE7⟩
                have hO := hO.ext hE7
                clear hE7
                go_wp2_with fail
                go_roundw

                case rel => exact ⟨i + 1, by go_num, by omega, by rw [HJ0.out]; rw [HJ2.out]; exact hO⟩
                case measure => simp [intOf]; omega
              · go_roundw

                case rel => exact ⟨i + 1, by go_num, by omega, by rw [HJ0.out]; rw [HJ2.out]; exact hO⟩
                case measure => simp [intOf]; omega
            · have hme : (i : Int) % 3 = 2 := by omega
              have hmt : (i : Int).tmod 3 = 2 := by rw [Int.tmod_eq_emod_of_nonneg (by omega)]; omega
              have HTP : Hid (∀ w1, Own w [⟨ga, 56, [.pointer (some ⟨g0, 0, none⟩), .pointer (some ⟨g1, 0, none⟩), .pointer (some ⟨g2, 0, none⟩)]⟩, ⟨g2, 36, (ptS ts 2 i).cs⟩, ⟨g1, 36, (ptS ts 1 i).cs⟩, ⟨g0, 36, (ptS ts 0 i).cs⟩, ⟨gb, 36, (bwS ts K (i + 1)).cs⟩, ⟨gs, 36, (fwS ts (i + 1)).cs⟩] [] w1 → Calls Try.prog 14 #[.pointer (some ⟨g2, 0, none⟩), .agg #[.int .u64 (X1 : Int), .int .u64 (Y1 : Int), .bool b1]] w1 fun e w' => e = .returned (.tuple #[]) ∧ Own w [⟨ga, 56, [.pointer (some ⟨g0, 0, none⟩), .pointer (some ⟨g1, 0, none⟩), .pointer (some ⟨g2, 0, none⟩)]⟩, ⟨g2, 36, (ptS ts 2 (i + 1)).cs⟩, ⟨g1, 36, (ptS ts 1 i).cs⟩, ⟨g0, 36, (ptS ts 0 i).cs⟩, ⟨gb, 36, (bwS ts K (i + 1)).cs⟩, ⟨gs, 36, (fwS ts (i + 1)).cs⟩] [] w') := Lib.hid (fun w1 h => by
                have h1 := take4_mid (w0 := w) (A := [⟨ga, 56, [.pointer (some ⟨g0, 0, none⟩), .pointer (some ⟨g1, 0, none⟩), .pointer (some ⟨g2, 0, none⟩)]⟩]) (ptS ts 2 i) X1 Y1 b1 (HOP.out 2 i) lX1 lY1 h
                have h2 : ptS ts 2 (i + 1) = (ptS ts 2 i).take X1 Y1 b1 := pt_next hi3 (tmA_of hq1)
                rw [h2]
                exact h1)
              have HJ0 : Hid (ptS ts 0 (i + 1) = ptS ts 0 i) := Lib.hid (pt_skip (by omega))
              have HJ1 : Hid (ptS ts 1 (i + 1) = ptS ts 1 i) := Lib.hid (pt_skip (by omega))
              clear hi3
              go_upto_region 18 with fail
              obtain ⟨S, hS⟩ : ∃ S : World → Prop, S = Own w [⟨ga, 56, [.pointer (some ⟨g0, 0, none⟩), .pointer (some ⟨g1, 0, none⟩), .pointer (some ⟨g2, 0, none⟩)]⟩, ⟨g2, 36, (ptS ts 2 i).cs⟩, ⟨g1, 36, (ptS ts 1 i).cs⟩, ⟨g0, 36, (ptS ts 0 i).cs⟩, ⟨gb, 36, (bwS ts K (i + 1)).cs⟩, ⟨gs, 36, (fwS ts (i + 1)).cs⟩] [] := ⟨_, rfl⟩
              have hSE : ∀ w w', S w → Ext w w' → S w' := fun w w' h1 h2 => by rw [hS] at h1 ⊢; exact h1.ext h2
              have hS1 : S w4.drew := by rw [hS]; exact hO.ext (Ext.refl w4).drew
              have HS := Lib.hid hS
              clear hS hO hf
              obtain ⟨sp, hsp⟩ : ∃ sp : Nat → Sp, sp = ofList [det (.int .i64 (i : Int)), det (.int .i64 2), det (.pointer (some ⟨ga, 2, none⟩)), det (.pointer (some ⟨g2, 0, none⟩)), det (.slice (some ad) n c), det (.int .i64 (i : Int)), det (.pointer (some p1)), det (.agg #[.int .u64 (X1 : Int), .int .u64 (Y1 : Int), .bool b1])] := ⟨_, rfl⟩
              have HSP := Lib.hid hsp
              clear hsp
              refine wp_region_loose 8 S sp (by kernel_rfl) (by kernel_rfl) hS1 hSE ?_
              simp only [List.take_succ_cons, List.take_zero, List.drop_succ_cons, List.drop_zero]
              iterate 7
                refine wpX_step (fun K hK => ?_)
                go_simp
                refine StepY.det (by rw [HSP.out]; rfl) ?_ ?_
                · intro wz hz hF
                  rw [HS.out] at hz
                  have hf := hz.cells
                  simp only [BC, CC, Nat.zero_add, Nat.reduceAdd, and_true] at hf
                  clear hz hF
                  go_simp
                  exact ⟨rfl, Ext.refl _⟩
                refine hK _ _ ?_
                clear hK K
              refine wpX_step (fun K hK => ?_)
              go_simp
              refine StepY.det (by rw [HSP.out]; rfl) ?_ ?_
              · intro wz hz hF
                rw [HS.out] at hz
                obtain ⟨c1, c2, c3⟩ := HC1.out _ hz.toExt
                clear hz hF
                go_simp
                exact ⟨rfl, Ext.refl _⟩
              refine hK _ _ ?_
              clear hK K
              refine wpX_nil ?_
              intro wq hz hF
              clear hF
              rw [HS.out] at hz
              have hO := hz
              clear hz HS HSP
              have hf := hO.cells
              simp only [BC, CC, Nat.zero_add, Nat.reduceAdd, and_true] at hf
              go_wp2_with fail
              refine (HTP.out _ hO).mono ?_
              rintro e w5 ⟨rfl, hO2⟩
              clear hO hf
              have hO := hO2
              clear hO2
              skip
              have hf := hO.cells
              simp only [BC, CC, Nat.zero_add, Nat.reduceAdd, and_true] at hf
              go_wp2_with fail
              · have hf : True := trivial
                refine (tround_any (bwS ts K (i + 1)) (-1) (fun hs => (HOB.out (i + 1)).fit hs) (hO.up (A := [⟨ga, 56, [.pointer (some ⟨g0, 0, none⟩), .pointer (some ⟨g1, 0, none⟩), .pointer (some ⟨g2, 0, none⟩)]⟩, ⟨g2, 36, (ptS ts 2 (i + 1)).cs⟩, ⟨g1, 36, (ptS ts 1 i).cs⟩, ⟨g0, 36, (ptS ts 0 i).cs⟩]))).mono ?_
                rintro e w6 ⟨r6, rfl, _, _, hE6⟩
                have hO := hO.ext hE6
                clear hE6
                clear hf
                have hf := hO.cells
                simp only [BC, CC, Nat.zero_add, Nat.reduceAdd, and_true] at hf
                go_wp2_with fail
                refine (troot_any (ptS ts 2 (i + 1)) 1 (fun hs => (HOP.out 2 (i + 1)).fit hs) (hO.up (A := [⟨ga, 56, [.pointer (some ⟨g0, 0, none⟩), .pointer (some ⟨g1, 0, none⟩), .pointer (some ⟨g2, 0, none⟩)]⟩]))).mono ?_
                rintro e w7 ⟨r7, rfl, _, _, hE7⟩
                have hO := hO.ext hE7
                clear hE7
                go_wp2_with fail
                go_roundw

                case rel => exact ⟨i + 1, by go_num, by omega, by rw [HJ0.out]; rw [HJ1.out]; exact hO⟩
                case measure => simp [intOf]; omega
              · go_roundw

                case rel => exact ⟨i + 1, by go_num, by omega, by rw [HJ0.out]; rw [HJ1.out]; exact hO⟩
                case measure => simp [intOf]; omega
          · have hie : i = K := by omega
            rw [hie] at hO
            have blt : decide ((i : Int) < (K : Int)) = false := decide_eq_false (by omega)
            have hf : True := trivial
            go_wp2_with fail
            refine (tnew_any hO).mono ?_
            rintro e w2 ⟨gl, rfl, hO2⟩
            clear hO
            have hO : Own w [⟨gl, 36, (Sm.nil).cs⟩, ⟨g2, 36, (ptS ts 2 K).cs⟩, ⟨ga, 56, [.pointer (some ⟨g0, 0, none⟩), .pointer (some ⟨g1, 0, none⟩), .pointer (some ⟨g2, 0, none⟩)]⟩, ⟨g1, 36, (ptS ts 1 K).cs⟩, ⟨g0, 36, (ptS ts 0 K).cs⟩, ⟨gb, 36, (bwS ts K K).cs⟩, ⟨gs, 36, (fwS ts K).cs⟩] [] w2 := Own.mid2 (A := [⟨ga, 56, [.pointer (some ⟨g0, 0, none⟩), .pointer (some ⟨g1, 0, none⟩), .pointer (some ⟨g2, 0, none⟩)]⟩]) hO2
            clear hO2
            clear hf
            have hf := hO.cells
            simp only [BC, CC, Nat.zero_add, Nat.reduceAdd, and_true] at hf
            go_wp2_with fail
            refine (tmerge_any _ _ _ Sm.Ok.nil.1 (HOP.out 2 K).1 hO).mono ?_
            rintro e w3 ⟨rfl, hO2⟩
            clear hO
            have hO : Own w [⟨gl, 36, (Sm.nil.merge (ptS ts 2 K)).cs⟩, ⟨g0, 36, (ptS ts 0 K).cs⟩, ⟨g2, 36, (ptS ts 2 K).cs⟩, ⟨ga, 56, [.pointer (some ⟨g0, 0, none⟩), .pointer (some ⟨g1, 0, none⟩), .pointer (some ⟨g2, 0, none⟩)]⟩, ⟨g1, 36, (ptS ts 1 K).cs⟩, ⟨gb, 36, (bwS ts K K).cs⟩, ⟨gs, 36, (fwS ts K).cs⟩] [] w3 := Own.mid2 (A := [⟨g2, 36, (ptS ts 2 K).cs⟩, ⟨ga, 56, [.pointer (some ⟨g0, 0, none⟩), .pointer (some ⟨g1, 0, none⟩), .pointer (some ⟨g2, 0, none⟩)]⟩, ⟨g1, 36, (ptS ts 1 K).cs⟩]) hO2
            clear hO2
            clear hf
            have hf := hO.cells
            simp only [BC, CC, Nat.zero_add, Nat.reduceAdd, and_true] at hf
            go_wp2_with fail
            refine (tmerge_any _ _ _ (Sm.Ok.nil.merge (HOP.out 2 K)).1 (HOP.out 0 K).1 hO).mono ?_
            rintro e w4 ⟨rfl, hO2⟩
            clear hO
            have hO : Own w [⟨g1, 36, (ptS ts 1 K).cs⟩, ⟨gl, 36, ((Sm.nil.merge (ptS ts 2 K)).merge (ptS ts 0 K)).cs⟩, ⟨g0, 36, (ptS ts 0 K).cs⟩, ⟨g2, 36, (ptS ts 2 K).cs⟩, ⟨ga, 56, [.pointer (some ⟨g0, 0, none⟩), .pointer (some ⟨g1, 0, none⟩), .pointer (some ⟨g2, 0, none⟩)]⟩, ⟨gb, 36, (bwS ts K K).cs⟩, ⟨gs, 36, (fwS ts K).cs⟩] [] w4 := Own.up (A := [⟨gl, 36, ((Sm.nil.merge (ptS ts 2 K)).merge (ptS ts 0 K)).cs⟩, ⟨g0, 36, (ptS ts 0 K).cs⟩, ⟨g2, 36, (ptS ts 2 K).cs⟩, ⟨ga, 56, [.pointer (some ⟨g0, 0, none⟩), .pointer (some ⟨g1, 0, none⟩), .pointer (some ⟨g2, 0, none⟩)]⟩]) hO2
            clear hO2
            clear hf
            have hf := hO.cells
            simp only [BC, CC, Nat.zero_add, Nat.reduceAdd, and_true] at hf
            go_wp2_with fail
            refine (tmerge_any _ _ _ (HOP.out 1 K).1 ((Sm.Ok.nil.merge (HOP.out 2 K)).merge (HOP.out 0 K)).1 hO).mono ?_
            rintro e w5 ⟨rfl, hO2⟩
            clear hO
            have hO : Own w [⟨gs, 36, (fwS ts K).cs⟩, ⟨g1, 36, (alS ts K).cs⟩, ⟨gl, 36, ((Sm.nil.merge (ptS ts 2 K)).merge (ptS ts 0 K)).cs⟩, ⟨g0, 36, (ptS ts 0 K).cs⟩, ⟨g2, 36, (ptS ts 2 K).cs⟩, ⟨ga, 56, [.pointer (some ⟨g0, 0, none⟩), .pointer (some ⟨g1, 0, none⟩), .pointer (some ⟨g2, 0, none⟩)]⟩, ⟨gb, 36, (bwS ts K K).cs⟩] [] w5 := Own.up (A := [⟨g1, 36, (alS ts K).cs⟩, ⟨gl, 36, ((Sm.nil.merge (ptS ts 2 K)).merge (ptS ts 0 K)).cs⟩, ⟨g0, 36, (ptS ts 0 K).cs⟩, ⟨g2, 36, (ptS ts 2 K).cs⟩, ⟨ga, 56, [.pointer (some ⟨g0, 0, none⟩), .pointer (some ⟨g1, 0, none⟩), .pointer (some ⟨g2, 0, none⟩)]⟩, ⟨gb, 36, (bwS ts K K).cs⟩]) hO2
            clear hO2
            clear hf
            have hf := hO.cells
            simp only [BC, CC, Nat.zero_add, Nat.reduceAdd, and_true] at hf
            go_wp2_with fail
            refine (alike_any (fwS ts K) (bwS ts K K) y hy2 HB1.out.1 HB1.out.2 (HOF.out K) (HOB.out K) (Own.mid2 (A := [⟨g1, 36, (alS ts K).cs⟩, ⟨gl, 36, ((Sm.nil.merge (ptS ts 2 K)).merge (ptS ts 0 K)).cs⟩, ⟨g0, 36, (ptS ts 0 K).cs⟩, ⟨g2, 36, (ptS ts 2 K).cs⟩, ⟨ga, 56, [.pointer (some ⟨g0, 0, none⟩), .pointer (some ⟨g1, 0, none⟩), .pointer (some ⟨g2, 0, none⟩)]⟩]) hO)).mono ?_
            rintro e w6 ⟨rfl, hE6⟩
            have hO := hO.ext hE6
            clear hE6
            clear hf
            have hf := hO.cells
            simp only [BC, CC, Nat.zero_add, Nat.reduceAdd, and_true] at hf
            go_wp2_with fail
            refine (alike_any (fwS ts K) (alS ts K) y hy2 HB2.out.1 HB2.out.2 (HOF.out K) HOA.out hO).mono ?_
            rintro e w7 ⟨rfl, hE6⟩
            have hO := hO.ext hE6
            clear hE6
            go_wp2_with fail
            refine (HL.out _).mono ?_
            rintro e w8 ⟨rfl, hE6⟩
            have hO := hO.ext hE6
            clear hE6
            go_wp2_with fail
            go_ret
            exact ⟨rfl, hO.toExt⟩
      · go_upto_region 13 with fail
        rw [← u2]
        clear u1 u2
        go_wp2_with fail
        have hpc : K ≤ n := hKn
        go_loopw [10] (fun kv wr => ∃ i : Nat, kv = .int .i64 (i : Int) ∧ i ≤ K ∧ Own w [⟨ga, 56, [.pointer (some ⟨g0, 0, none⟩), .pointer (some ⟨g1, 0, none⟩), .pointer (some ⟨g2, 0, none⟩)]⟩, ⟨g2, 36, (ptS ts 2 i).cs⟩, ⟨g1, 36, (ptS ts 1 i).cs⟩, ⟨g0, 36, (ptS ts 0 i).cs⟩, ⟨gb, 36, (bwS ts K i).cs⟩, ⟨gs, 36, (fwS ts i).cs⟩] [] wr) (fun kv _ => K - (intOf kv).toNat)
        case atStart => exact ⟨0, rfl, Nat.zero_le _, hO⟩
        case round =>
          obtain ⟨i, rfl, hiK, hOr⟩ := hrel
          clear hO hf
          have hO := hOr
          clear hOr
          by_cases hlt : i < K
          · obtain ⟨J, hJ⟩ : ∃ J, J = K - 1 - i := ⟨_, rfl⟩
            have hJn : J < n := by omega
            have hw2 : IntKind.i64.wrap ((K : Int) - 1 - (i : Int)) = (J : Int) := by rw [IntKind.wrap_i64]; omega
            have HJE := Lib.hid hJ
            clear hJ
            obtain ⟨ad1, X1, Y1, b1, hA1, hq1, lX1, lY1, _, _, _⟩ := HT.out.at_ (show i < n by omega)
            obtain ⟨ad, rfl⟩ : ∃ ad, A = some ad := ⟨_, hA1⟩
            injection hA1 with hA1
            subst hA1
            obtain ⟨ad2, X2, Y2, b2, hA2, hq2, lX2, lY2, _, _, _⟩ := HT.out.at_ (show J < n by omega)
            injection hA2 with hA2
            subst hA2
            obtain ⟨p1, hp1⟩ : ∃ p, (ad).add (i * 3) = p := ⟨_, rfl⟩
            have HC1 : Hid (∀ wz, Ext w wz → wz.cell? p1 = some (.int .u64 (X1 : Int)) ∧ wz.cell? ⟨p1.block, p1.off + 1, none⟩ = some (.int .u64 (Y1 : Int)) ∧ wz.cell? ⟨p1.block, p1.off + 2, none⟩ = some (.bool b1)) := Lib.hid (fun wz hz => by
              obtain ⟨ad', X', Y', b', e1, e2, _, _, e3⟩ := (HT.out.ext hz).at_ (show i < n by omega)
              rw [hq1] at e2
              injection e2 with e2
              injection e2 with e2 e4
              injection e4 with e4 e5
              injection e1 with e1
              subst e1 e2 e4 e5
              rw [← addr_add2, ← addr_add2, hp1] at e3
              exact e3)
            obtain ⟨p2, hp2⟩ : ∃ p, (ad).add (J * 3) = p := ⟨_, rfl⟩
            have HC2 : Hid (∀ wz, Ext w wz → wz.cell? p2 = some (.int .u64 (X2 : Int)) ∧ wz.cell? ⟨p2.block, p2.off + 1, none⟩ = some (.int .u64 (Y2 : Int)) ∧ wz.cell? ⟨p2.block, p2.off + 2, none⟩ = some (.bool b2)) := Lib.hid (fun wz hz => by
              obtain ⟨ad', X', Y', b', e1, e2, _, _, e3⟩ := (HT.out.ext hz).at_ (show J < n by omega)
              rw [hq2] at e2
              injection e2 with e2
              injection e2 with e2 e4
              injection e4 with e4 e5
              injection e1 with e1
              subst e1 e2 e4 e5
              rw [← addr_add2, ← addr_add2, hp2] at e3
              exact e3)
            have HTS : Hid (∀ w1, Own w [⟨ga, 56, [.pointer (some ⟨g0, 0, none⟩), .pointer (some ⟨g1, 0, none⟩), .pointer (some ⟨g2, 0, none⟩)]⟩, ⟨g2, 36, (ptS ts 2 i).cs⟩, ⟨g1, 36, (ptS ts 1 i).cs⟩, ⟨g0, 36, (ptS ts 0 i).cs⟩, ⟨gb, 36, (bwS ts K i).cs⟩, ⟨gs, 36, (fwS ts i).cs⟩] [] w1 → Calls Try.prog 14 #[.pointer (some ⟨gs, 0, none⟩), .agg #[.int .u64 (X1 : Int), .int .u64 (Y1 : Int), .bool b1]] w1 fun e w' => e = .returned (.tuple #[]) ∧ Own w [⟨ga, 56, [.pointer (some ⟨g0, 0, none⟩), .pointer (some ⟨g1, 0, none⟩), .pointer (some ⟨g2, 0, none⟩)]⟩, ⟨g2, 36, (ptS ts 2 i).cs⟩, ⟨g1, 36, (ptS ts 1 i).cs⟩, ⟨g0, 36, (ptS ts 0 i).cs⟩, ⟨gb, 36, (bwS ts K i).cs⟩, ⟨gs, 36, (fwS ts (i + 1)).cs⟩] [] w') := Lib.hid (fun w1 h => by
              have h1 := take4_mid (w0 := w) (A := [⟨ga, 56, [.pointer (some ⟨g0, 0, none⟩), .pointer (some ⟨g1, 0, none⟩), .pointer (some ⟨g2, 0, none⟩)]⟩, ⟨g2, 36, (ptS ts 2 i).cs⟩, ⟨g1, 36, (ptS ts 1 i).cs⟩, ⟨g0, 36, (ptS ts 0 i).cs⟩, ⟨gb, 36, (bwS ts K i).cs⟩]) (fwS ts i) X1 Y1 b1 (HOF.out i) lX1 lY1 h
              have h2 : fwS ts (i + 1) = (fwS ts i).take X1 Y1 b1 := fw_next (tmA_of hq1)
              rw [h2]
              exact h1)
            have HTB : Hid (∀ w1, Own w [⟨ga, 56, [.pointer (some ⟨g0, 0, none⟩), .pointer (some ⟨g1, 0, none⟩), .pointer (some ⟨g2, 0, none⟩)]⟩, ⟨g2, 36, (ptS ts 2 i).cs⟩, ⟨g1, 36, (ptS ts 1 i).cs⟩, ⟨g0, 36, (ptS ts 0 i).cs⟩, ⟨gb, 36, (bwS ts K i).cs⟩, ⟨gs, 36, (fwS ts (i + 1)).cs⟩] [] w1 → Calls Try.prog 14 #[.pointer (some ⟨gb, 0, none⟩), .agg #[.int .u64 (X2 : Int), .int .u64 (Y2 : Int), .bool b2]] w1 fun e w' => e = .returned (.tuple #[]) ∧ Own w [⟨ga, 56, [.pointer (some ⟨g0, 0, none⟩), .pointer (some ⟨g1, 0, none⟩), .pointer (some ⟨g2, 0, none⟩)]⟩, ⟨g2, 36, (ptS ts 2 i).cs⟩, ⟨g1, 36, (ptS ts 1 i).cs⟩, ⟨g0, 36, (ptS ts 0 i).cs⟩, ⟨gb, 36, (bwS ts K (i + 1)).cs⟩, ⟨gs, 36, (fwS ts (i + 1)).cs⟩] [] w') := Lib.hid (fun w1 h => by
              have h1 := take4_mid (w0 := w) (A := [⟨ga, 56, [.pointer (some ⟨g0, 0, none⟩), .pointer (some ⟨g1, 0, none⟩), .pointer (some ⟨g2, 0, none⟩)]⟩, ⟨g2, 36, (ptS ts 2 i).cs⟩, ⟨g1, 36, (ptS ts 1 i).cs⟩, ⟨g0, 36, (ptS ts 0 i).cs⟩]) (bwS ts K i) X2 Y2 b2 (HOB.out i) lX2 lY2 h
              have h2 : bwS ts K (i + 1) = (bwS ts K i).take X2 Y2 b2 := bw_next (by rw [← HJE.out]; exact tmA_of hq2)
              rw [h2]
              exact h1)
            have bi0 : (0 : Int) ≤ (i : Int) := by omega
            have bi1 : (i : Int) < (n : Int) := by omega
            have bj0 : (0 : Int) ≤ (J : Int) := by omega
            have bj1 : (J : Int) < (n : Int) := by omega
            have blt : decide ((i : Int) < (K : Int)) = true := decide_eq_true (by omega)
            have hw1 : IntKind.i64.wrap ((K : Int) - 1) = (K : Int) - 1 := by rw [IntKind.wrap_i64]; omega
            obtain ⟨c1, c2, c3⟩ := HC1.out _ hO.toExt
            have hf := hO.cells
            simp only [BC, CC, Nat.zero_add, Nat.reduceAdd, and_true] at hf
            go_upto_region 16 with fail
            go_wp2_with fail
            refine (HTS.out _ hO).mono ?_
            rintro e w3 ⟨rfl, hO2⟩
            clear hO hf c1 c2 c3 HTS
            have hO := hO2
            clear hO2
            obtain ⟨c1, c2, c3⟩ := HC2.out _ hO.toExt
            go_wp2_with fail
            refine (HTB.out _ hO).mono ?_
            rintro e w4 ⟨rfl, hO2⟩
            clear hO c1 c2 c3 HTB HC2 hJn bj0 bj1 hw1 hw2 hp2
            have hO := hO2
            clear hO2
            have hf := hO.cells
            simp only [BC, CC, Nat.zero_add, Nat.reduceAdd, and_true] at hf
            rcases (show i % 3 = 0 ∨ i % 3 = 1 ∨ i % 3 = 2 by omega) with hi3 | hi3 | hi3
            · have hme : (i : Int) % 3 = 0 := by omega
              have hmt : (i : Int).tmod 3 = 0 := by rw [Int.tmod_eq_emod_of_nonneg (by omega)]; omega
              have HTP : Hid (∀ w1, Own w [⟨ga, 56, [.pointer (some ⟨g0, 0, none⟩), .pointer (some ⟨g1, 0, none⟩), .pointer (some ⟨g2, 0, none⟩)]⟩, ⟨g2, 36, (ptS ts 2 i).cs⟩, ⟨g1, 36, (ptS ts 1 i).cs⟩, ⟨g0, 36, (ptS ts 0 i).cs⟩, ⟨gb, 36, (bwS ts K (i + 1)).cs⟩, ⟨gs, 36, (fwS ts (i + 1)).cs⟩] [] w1 → Calls Try.prog 14 #[.pointer (some ⟨g0, 0, none⟩), .agg #[.int .u64 (X1 : Int), .int .u64 (Y1 : Int), .bool b1]] w1 fun e w' => e = .returned (.tuple #[]) ∧ Own w [⟨ga, 56, [.pointer (some ⟨g0, 0, none⟩), .pointer (some ⟨g1, 0, none⟩), .pointer (some ⟨g2, 0, none⟩)]⟩, ⟨g2, 36, (ptS ts 2 i).cs⟩, ⟨g1, 36, (ptS ts 1 i).cs⟩, ⟨g0, 36, (ptS ts 0 (i + 1)).cs⟩, ⟨gb, 36, (bwS ts K (i + 1)).cs⟩, ⟨gs, 36, (fwS ts (i + 1)).cs⟩] [] w') := Lib.hid (fun w1 h => by
                have h1 := take4_mid (w0 := w) (A := [⟨ga, 56, [.pointer (some ⟨g0, 0, none⟩), .pointer (some ⟨g1, 0, none⟩), .pointer (some ⟨g2, 0, none⟩)]⟩, ⟨g2, 36, (ptS ts 2 i).cs⟩, ⟨g1, 36, (ptS ts 1 i).cs⟩]) (ptS ts 0 i) X1 Y1 b1 (HOP.out 0 i) lX1 lY1 h
                have h2 : ptS ts 0 (i + 1) = (ptS ts 0 i).take X1 Y1 b1 := pt_next hi3 (tmA_of hq1)
                rw [h2]
                exact h1)
              have HJ1 : Hid (ptS ts 1 (i + 1) = ptS ts 1 i) := Lib.hid (pt_skip (by omega))
              have HJ2 : Hid (ptS ts 2 (i + 1) = ptS ts 2 i) := Lib.hid (pt_skip (by omega))
              clear hi3
              go_upto_region 18 with fail
              obtain ⟨S, hS⟩ : ∃ S : World → Prop, S = Own w [⟨ga, 56, [.pointer (some ⟨g0, 0, none⟩), .pointer (some ⟨g1, 0, none⟩), .pointer (some ⟨g2, 0, none⟩)]⟩, ⟨g2, 36, (ptS ts 2 i).cs⟩, ⟨g1, 36, (ptS ts 1 i).cs⟩, ⟨g0, 36, (ptS ts 0 i).cs⟩, ⟨gb, 36, (bwS ts K (i + 1)).cs⟩, ⟨gs, 36, (fwS ts (i + 1)).cs⟩] [] := ⟨_, rfl⟩
              have hSE : ∀ w w', S w → Ext w w' → S w' := fun w w' h1 h2 => by rw [hS] at h1 ⊢; exact h1.ext h2
              have hS1 : S w4.drew := by rw [hS]; exact hO.ext (Ext.refl w4).drew
              have HS := Lib.hid hS
              clear hS hO hf
              obtain ⟨sp, hsp⟩ : ∃ sp : Nat → Sp, sp = ofList [det (.int .i64 (i : Int)), det (.int .i64 0), det (.pointer (some ⟨ga, 0, none⟩)), det (.pointer (some ⟨g0, 0, none⟩)), det (.slice (some ad) n c), det (.int .i64 (i : Int)), det (.pointer (some p1)), det (.agg #[.int .u64 (X1 : Int), .int .u64 (Y1 : Int), .bool b1])] := ⟨_, rfl⟩
              have HSP := Lib.hid hsp
              clear hsp
              refine wp_region_loose 8 S sp (by kernel_rfl) (by kernel_rfl) hS1 hSE ?_
              simp only [List.take_succ_cons, List.take_zero, List.drop_succ_cons, List.drop_zero]
              iterate 7
                refine wpX_step (fun K hK => ?_)
                go_simp
                refine StepY.det (by rw [HSP.out]; rfl) ?_ ?_
                · intro wz hz hF
                  rw [HS.out] at hz
                  have hf := hz.cells
                  simp only [BC, CC, Nat.zero_add, Nat.reduceAdd, and_true] at hf
                  clear hz hF
                  go_simp
                  exact ⟨rfl, Ext.refl _⟩
                refine hK _ _ ?_
                clear hK K
              refine wpX_step (fun K hK => ?_)
              go_simp
              refine StepY.det (by rw [HSP.out]; rfl) ?_ ?_
              · intro wz hz hF
                rw [HS.out] at hz
                obtain ⟨c1, c2, c3⟩ := HC1.out _ hz.toExt
                clear hz hF
                go_simp
                exact ⟨rfl, Ext.refl _⟩
              refine hK _ _ ?_
              clear hK K
              refine wpX_nil ?_
              intro wq hz hF
              clear hF
              rw [HS.out] at hz
              have hO := hz
              clear hz HS HSP
              have hf := hO.cells
              simp only [BC, CC, Nat.zero_add, Nat.reduceAdd, and_true] at hf
              go_wp2_with fail
              refine (HTP.out _ hO).mono ?_
              rintro e w5 ⟨rfl, hO2⟩
              clear hO hf
              have hO := hO2
              clear hO2
              skip
              have hf := hO.cells
              simp only [BC, CC, Nat.zero_add, Nat.reduceAdd, and_true] at hf
              go_wp2_with fail
              · have hf : True := trivial
                refine (tround_any (bwS ts K (i + 1)) (-1) (fun hs => (HOB.out (i + 1)).fit hs) (hO.up (A := [⟨ga, 56, [.pointer (some ⟨g0, 0, none⟩), .pointer (some ⟨g1, 0, none⟩), .pointer (some ⟨g2, 0, none⟩)]⟩, ⟨g2, 36, (ptS ts 2 i).cs⟩, ⟨g1, 36, (ptS ts 1 i).cs⟩, ⟨g0, 36, (ptS ts 0 (i + 1)).cs⟩]))).mono ?_
                rintro e w6 ⟨r6, rfl, _, _, hE6⟩
                have hO := hO.ext hE6
                clear hE6
                clear hf
                have hf := hO.cells
                simp only [BC, CC, Nat.zero_add, Nat.reduceAdd, and_true] at hf
                go_wp2_with fail
                refine (troot_any (ptS ts 0 (i + 1)) 1 (fun hs => (HOP.out 0 (i + 1)).fit hs) (hO.up (A := [⟨ga, 56, [.pointer (some ⟨g0, 0, none⟩), .pointer (some ⟨g1, 0, none⟩), .pointer (some ⟨g2, 0, none⟩)]⟩, ⟨g2, 36, (ptS ts 2 i).cs⟩, ⟨g1, 36, (ptS ts 1 i).cs⟩]))).mono ?_
                rintro e w7 ⟨r7, rfl, _, _, hE7⟩
                have hO := hO.ext hE7
                clear hE7
                go_wp2_with fail
                go_roundw

                case rel => exact ⟨i + 1, by go_num, by omega, by rw [HJ1.out]; rw [HJ2.out]; exact hO⟩
                case measure => simp [intOf]; omega
              · go_roundw

                case rel => exact ⟨i + 1, by go_num, by omega, by rw [HJ1.out]; rw [HJ2.out]; exact hO⟩
                case measure => simp [intOf]; omega
            · have hme : (i : Int) % 3 = 1 := by omega
              have hmt : (i : Int).tmod 3 = 1 := by rw [Int.tmod_eq_emod_of_nonneg (by omega)]; omega
              have HTP : Hid (∀ w1, Own w [⟨ga, 56, [.pointer (some ⟨g0, 0, none⟩), .pointer (some ⟨g1, 0, none⟩), .pointer (some ⟨g2, 0, none⟩)]⟩, ⟨g2, 36, (ptS ts 2 i).cs⟩, ⟨g1, 36, (ptS ts 1 i).cs⟩, ⟨g0, 36, (ptS ts 0 i).cs⟩, ⟨gb, 36, (bwS ts K (i + 1)).cs⟩, ⟨gs, 36, (fwS ts (i + 1)).cs⟩] [] w1 → Calls Try.prog 14 #[.pointer (some ⟨g1, 0, none⟩), .agg #[.int .u64 (X1 : Int), .int .u64 (Y1 : Int), .bool b1]] w1 fun e w' => e = .returned (.tuple #[]) ∧ Own w [⟨ga, 56, [.pointer (some ⟨g0, 0, none⟩), .pointer (some ⟨g1, 0, none⟩), .pointer (some ⟨g2, 0, none⟩)]⟩, ⟨g2, 36, (ptS ts 2 i).cs⟩, ⟨g1, 36, (ptS ts 1 (i + 1)).cs⟩, ⟨g0, 36, (ptS ts 0 i).cs⟩, ⟨gb, 36, (bwS ts K (i + 1)).cs⟩, ⟨gs, 36, (fwS ts (i + 1)).cs⟩] [] w') := Lib.hid (fun w1 h => by
                have h1 := take4_mid (w0 := w) (A := [⟨ga, 56, [.pointer (some ⟨g0, 0, none⟩), .pointer (some ⟨g1, 0, none⟩), .pointer (some ⟨g2, 0, none⟩)]⟩, ⟨g2, 36, (ptS ts 2 i).cs⟩]) (ptS ts 1 i) X1 Y1 b1 (HOP.out 1 i) lX1 lY1 h
                have h2 : ptS ts 1 (i + 1) = (ptS ts 1 i).take X1 Y1 b1 := pt_next hi3 (tmA_of hq1)
                rw [h2]
                exact h1)
              have HJ0 : Hid (ptS ts 0 (i + 1) = ptS ts 0 i) := Lib.hid (pt_skip (by omega))
              have HJ2 : Hid (ptS ts 2 (i + 1) = ptS ts 2 i) := Lib.hid (pt_skip (by omega))
              clear hi3
              go_upto_region 18 with fail
              obtain ⟨S, hS⟩ : ∃ S : World → Prop, S = Own w [⟨ga, 56, [.pointer (some ⟨g0, 0, none⟩), .pointer (some ⟨g1, 0, none⟩), .pointer (some ⟨g2, 0, none⟩)]⟩, ⟨g2, 36, (ptS ts 2 i).cs⟩, ⟨g1, 36, (ptS ts 1 i).cs⟩, ⟨g0, 36, (ptS ts 0 i).cs⟩, ⟨gb, 36, (bwS ts K (i + 1)).cs⟩, ⟨gs, 36, (fwS ts (i + 1)).cs⟩] [] := ⟨_, rfl⟩
              have hSE : ∀ w w', S w → Ext w w' → S w' := fun w w' h1 h2 => by rw [hS] at h1 ⊢; exact h1.ext h2
              have hS1 : S w4.drew := by rw [hS]; exact hO.ext (Ext.refl w4).drew
              have HS := Lib.hid hS
              clear hS hO hf
              obtain ⟨sp, hsp⟩ : ∃ sp : Nat → Sp, sp = ofList [det (.int .i64 (i : Int)), det (.int .i64 1), det (.pointer (some ⟨ga, 1, none⟩)), det (.pointer (some ⟨g1, 0, none⟩)), det (.slice (some ad) n c), det (.int .i64 (i : Int)), det (.pointer (some p1)), det (.agg #[.int .u64 (X1 : Int), .int .u64 (Y1 : Int), .bool b1])] := ⟨_, rfl⟩
              have HSP := Lib.hid hsp
              clear hsp
              refine wp_region_loose 8 S sp (by kernel_rfl) (by kernel_rfl) hS1 hSE ?_
              simp only [List.take_succ_cons, List.take_zero, List.drop_succ_cons, List.drop_zero]
              iterate 7
                refine wpX_step (fun K hK => ?_)
                go_simp
                refine StepY.det (by rw [HSP.out]; rfl) ?_ ?_
                · intro wz hz hF
                  rw [HS.out] at hz
                  have hf := hz.cells
                  simp only [BC, CC, Nat.zero_add, Nat.reduceAdd, and_true] at hf
                  clear hz hF
                  go_simp
                  exact ⟨rfl, Ext.refl _⟩
                refine hK _ _ ?_
                clear hK K
              refine wpX_step (fun K hK => ?_)
              go_simp
              refine StepY.det (by rw [HSP.out]; rfl) ?_ ?_
              · intro wz hz hF
                rw [HS.out] at hz
                obtain ⟨c1, c2, c3⟩ := HC1.out _ hz.toExt
                clear hz hF
                go_simp
                exact ⟨rfl, Ext.refl _⟩
              refine hK _ _ ?_
              clear hK K
              refine wpX_nil ?_
              intro wq hz hF
              clear hF
              rw [HS.out] at hz
              have hO := hz
              clear hz HS HSP
              have hf := hO.cells
              simp only [BC, CC, Nat.zero_add, Nat.reduceAdd, and_true] at hf
              go_wp2_with fail
              refine (HTP.out _ hO).mono ?_
              rintro e w5 ⟨rfl, hO2⟩
              clear hO hf
              have hO := hO2
              clear hO2
              skip
              have hf := hO.cells
              simp only [BC, CC, Nat.zero_add, Nat.reduceAdd, and_true] at hf
              go_wp2_with fail
              · have hf : True := trivial
                refine (tround_any (bwS ts K (i + 1)) (-1) (fun hs => (HOB.out (i + 1)).fit hs) (hO.up (A := [⟨ga, 56, [.pointer (some ⟨g0, 0, none⟩), .pointer (some ⟨g1, 0, none⟩), .pointer (some ⟨g2, 0, none⟩)]⟩, ⟨g2, 36, (ptS ts 2 i).cs⟩, ⟨g1, 36, (ptS ts 1 (i + 1)).cs⟩, ⟨g0, 36, (ptS ts 0 i).cs⟩]))).mono ?_
                rintro e w6 ⟨r6, rfl, _, _, hE6⟩
                have hO := hO.ext hE6
                clear hE6
                clear hf
                have hf := hO.cells
                simp only [BC, CC, Nat.zero_add, Nat.reduceAdd, and_true] at hf
                go_wp2_with fail
                refine (troot_any (ptS ts 1 (i + 1)) 1 (fun hs => (HOP.out 1 (i + 1)).fit hs) (hO.up (A := [⟨ga, 56, [.pointer (some ⟨g0, 0, none⟩), .pointer (some ⟨g1, 0, none⟩), .pointer (some ⟨g2, 0, none⟩)]⟩, ⟨g2, 36, (ptS ts 2 i).cs⟩]))).mono ?_
                rintro e w7 ⟨r7, rfl, _, _, hE7⟩
                have hO := hO.ext hE7
                clear hE7
                go_wp2_with fail
                go_roundw

                case rel => exact ⟨i + 1, by go_num, by omega, by rw [HJ0.out]; rw [HJ2.out]; exact hO⟩
                case measure => simp [intOf]; omega
              · go_roundw

                case rel => exact ⟨i + 1, by go_num, by omega, by rw [HJ0.out]; rw [HJ2.out]; exact hO⟩
                case measure => simp [intOf]; omega
            · have hme : (i : Int) % 3 = 2 := by omega
              have hmt : (i : Int).tmod 3 = 2 := by rw [Int.tmod_eq_emod_of_nonneg (by omega)]; omega
              have HTP : Hid (∀ w1, Own w [⟨ga, 56, [.pointer (some ⟨g0, 0, none⟩), .pointer (some ⟨g1, 0, none⟩), .pointer (some ⟨g2, 0, none⟩)]⟩, ⟨g2, 36, (ptS ts 2 i).cs⟩, ⟨g1, 36, (ptS ts 1 i).cs⟩, ⟨g0, 36, (ptS ts 0 i).cs⟩, ⟨gb, 36, (bwS ts K (i + 1)).cs⟩, ⟨gs, 36, (fwS ts (i + 1)).cs⟩] [] w1 → Calls Try.prog 14 #[.pointer (some ⟨g2, 0, none⟩), .agg #[.int .u64 (X1 : Int), .int .u64 (Y1 : Int), .bool b1]] w1 fun e w' => e = .returned (.tuple #[]) ∧ Own w [⟨ga, 56, [.pointer (some ⟨g0, 0, none⟩), .pointer (some ⟨g1, 0, none⟩), .pointer (some ⟨g2, 0, none⟩)]⟩, ⟨g2, 36, (ptS ts 2 (i + 1)).cs⟩, ⟨g1, 36, (ptS ts 1 i).cs⟩, ⟨g0, 36, (ptS ts 0 i).cs⟩, ⟨gb, 36, (bwS ts K (i + 1)).cs⟩, ⟨gs, 36, (fwS ts (i + 1)).cs⟩] [] w') := Lib.hid (fun w1 h => by
                have h1 := take4_mid (w0 := w) (A := [⟨ga, 56, [.pointer (some ⟨g0, 0, none⟩), .pointer (some ⟨g1, 0, none⟩), .pointer (some ⟨g2, 0, none⟩)]⟩]) (ptS ts 2 i) X1 Y1 b1 (HOP.out 2 i) lX1 lY1 h
                have h2 : ptS ts 2 (i + 1) = (ptS ts 2 i).take X1 Y1 b1 := pt_next hi3 (tmA_of hq1)
                rw [h2]
                exact h1)
              have HJ0 : Hid (ptS ts 0 (i + 1) = ptS ts 0 i) := Lib.hid (pt_skip (by omega))
              have HJ1 : Hid (ptS ts 1 (i + 1) = ptS ts 1 i) := Lib.hid (pt_skip (by omega))
              clear hi3
              go_upto_region 18 with fail
              obtain ⟨S, hS⟩ : ∃ S : World → Prop, S = Own w [⟨ga, 56, [.pointer (some ⟨g0, 0, none⟩), .pointer (some ⟨g1, 0, none⟩), .pointer (some ⟨g2, 0, none⟩)]⟩, ⟨g2, 36, (ptS ts 2 i).cs⟩, ⟨g1, 36, (ptS ts 1 i).cs⟩, ⟨g0, 36, (ptS ts 0 i).cs⟩, ⟨gb, 36, (bwS ts K (i + 1)).cs⟩, ⟨gs, 36, (fwS ts (i + 1)).cs⟩] [] := ⟨_, rfl⟩
              have hSE : ∀ w w', S w → Ext w w' → S w' := fun w w' h1 h2 => by rw [hS] at h1 ⊢; exact h1.ext h2
              have hS1 : S w4.drew := by rw [hS]; exact hO.ext (Ext.refl w4).drew
              have HS := Lib.hid hS
              clear hS hO hf
              obtain ⟨sp, hsp⟩ : ∃ sp : Nat → Sp, sp = ofList [det (.int .i64 (i : Int)), det (.int .i64 2), det (.pointer (some ⟨ga, 2, none⟩)), det (.pointer (some ⟨g2, 0, none⟩)), det (.slice (some ad) n c), det (.int .i64 (i : Int)), det (.pointer (some p1)), det (.agg #[.int .u64 (X1 : Int), .int .u64 (Y1 : Int), .bool b1])] := ⟨_, rfl⟩
              have HSP := Lib.hid hsp
              clear hsp
              refine wp_region_loose 8 S sp (by kernel_rfl) (by kernel_rfl) hS1 hSE ?_
              simp only [List.take_succ_cons, List.take_zero, List.drop_succ_cons, List.drop_zero]
              iterate 7
                refine wpX_step (fun K hK => ?_)
                go_simp
                refine StepY.det (by rw [HSP.out]; rfl) ?_ ?_
                · intro wz hz hF
                  rw [HS.out] at hz
                  have hf := hz.cells
                  simp only [BC, CC, Nat.zero_add, Nat.reduceAdd, and_true] at hf
                  clear hz hF
                  go_simp
                  exact ⟨rfl, Ext.refl _⟩
                refine hK _ _ ?_
                clear hK K
              refine wpX_step (fun K hK => ?_)
              go_simp
              refine StepY.det (by rw [HSP.out]; rfl) ?_ ?_
              · intro wz hz hF
                rw [HS.out] at hz
                obtain ⟨c1, c2, c3⟩ := HC1.out _ hz.toExt
                clear hz hF
                go_simp
                exact ⟨rfl, Ext.refl _⟩
              refine hK _ _ ?_
              clear hK K
              refine wpX_nil ?_
              intro wq hz hF
              clear hF
              rw [HS.out] at hz
              have hO := hz
              clear hz HS HSP
              have hf := hO.cells
              simp only [BC, CC, Nat.zero_add, Nat.reduceAdd, and_true] at hf
              go_wp2_with fail
              refine (HTP.out _ hO).mono ?_
              rintro e w5 ⟨rfl, hO2⟩
              clear hO hf
              have hO := hO2
              clear hO2
              skip
              have hf := hO.cells
              simp only [BC, CC, Nat.zero_add, Nat.reduceAdd, and_true] at hf
              go_wp2_with fail
              · have hf : True := trivial
                refine (tround_any (bwS ts K (i + 1)) (-1) (fun hs => (HOB.out (i + 1)).fit hs) (hO.up (A := [⟨ga, 56, [.pointer (some ⟨g0, 0, none⟩), .pointer (some ⟨g1, 0, none⟩), .pointer (some ⟨g2, 0, none⟩)]⟩, ⟨g2, 36, (ptS ts 2 (i + 1)).cs⟩, ⟨g1, 36, (ptS ts 1 i).cs⟩, ⟨g0, 36, (ptS ts 0 i).cs⟩]))).mono ?_
                rintro e w6 ⟨r6, rfl, _, _, hE6⟩
                have hO := hO.ext hE6
                clear hE6
                clear hf
                have hf := hO.cells
                simp only [BC, CC, Nat.zero_add, Nat.reduceAdd, and_true] at hf
                go_wp2_with fail
                refine (troot_any (ptS ts 2 (i + 1)) 1 (fun hs => (HOP.out 2 (i + 1)).fit hs) (hO.up (A := [⟨ga, 56, [.pointer (some ⟨g0, 0, none⟩), .pointer (some ⟨g1, 0, none⟩), .pointer (some ⟨g2, 0, none⟩)]⟩]))).mono ?_
                rintro e w7 ⟨r7, rfl, _, _, hE7⟩
                have hO := hO.ext hE7
                clear hE7
                go_wp2_with fail
                go_roundw

                case rel => exact ⟨i + 1, by go_num, by omega, by rw [HJ0.out]; rw [HJ1.out]; exact hO⟩
                case measure => simp [intOf]; omega
              · go_roundw

                case rel => exact ⟨i + 1, by go_num, by omega, by rw [HJ0.out]; rw [HJ1.out]; exact hO⟩
                case measure => simp [intOf]; omega
          · have hie : i = K := by omega
            rw [hie] at hO
            have blt : decide ((i : Int) < (K : Int)) = false := decide_eq_false (by omega)
            have hf : True := trivial
            go_wp2_with fail
            refine (tnew_any hO).mono ?_
            rintro e w2 ⟨gl, rfl, hO2⟩
            clear hO
            have hO : Own w [⟨gl, 36, (Sm.nil).cs⟩, ⟨g2, 36, (ptS ts 2 K).cs⟩, ⟨ga, 56, [.pointer (some ⟨g0, 0, none⟩), .pointer (some ⟨g1, 0, none⟩), .pointer (some ⟨g2, 0, none⟩)]⟩, ⟨g1, 36, (ptS ts 1 K).cs⟩, ⟨g0, 36, (ptS ts 0 K).cs⟩, ⟨gb, 36, (bwS ts K K).cs⟩, ⟨gs, 36, (fwS ts K).cs⟩] [] w2 := Own.mid2 (A := [⟨ga, 56, [.pointer (some ⟨g0, 0, none⟩), .pointer (some ⟨g1, 0, none⟩), .pointer (some ⟨g2, 0, none⟩)]⟩]) hO2
            clear hO2
            clear hf
            have hf := hO.cells
            simp only [BC, CC, Nat.zero_add, Nat.reduceAdd, and_true] at hf
            go_wp2_with fail
            refine (tmerge_any _ _ _ Sm.Ok.nil.1 (HOP.out 2 K).1 hO).mono ?_
            rintro e w3 ⟨rfl, hO2⟩
            clear hO
            have hO : Own w [⟨gl, 36, (Sm.nil.merge (ptS ts 2 K)).cs⟩, ⟨g0, 36, (ptS ts 0 K).cs⟩, ⟨g2, 36, (ptS ts 2 K).cs⟩, ⟨ga, 56, [.pointer (some ⟨g0, 0, none⟩), .pointer (some ⟨g1, 0, none⟩), .pointer (some ⟨g2, 0, none⟩)]⟩, ⟨g1, 36, (ptS ts 1 K).cs⟩, ⟨gb, 36, (bwS ts K K).cs⟩, ⟨gs, 36, (fwS ts K).cs⟩] [] w3 := Own.mid2 (A := [⟨g2, 36, (ptS ts 2 K).cs⟩, ⟨ga, 56, [.pointer (some ⟨g0, 0, none⟩), .pointer (some ⟨g1, 0, none⟩), .pointer (some ⟨g2, 0, none⟩)]⟩, ⟨g1, 36, (ptS ts 1 K).cs⟩]) hO2
            clear hO2
            clear hf
            have hf := hO.cells
            simp only [BC, CC, Nat.zero_add, Nat.reduceAdd, and_true] at hf
            go_wp2_with fail
            refine (tmerge_any _ _ _ (Sm.Ok.nil.merge (HOP.out 2 K)).1 (HOP.out 0 K).1 hO).mono ?_
            rintro e w4 ⟨rfl, hO2⟩
            clear hO
            have hO : Own w [⟨g1, 36, (ptS ts 1 K).cs⟩, ⟨gl, 36, ((Sm.nil.merge (ptS ts 2 K)).merge (ptS ts 0 K)).cs⟩, ⟨g0, 36, (ptS ts 0 K).cs⟩, ⟨g2, 36, (ptS ts 2 K).cs⟩, ⟨ga, 56, [.pointer (some ⟨g0, 0, none⟩), .pointer (some ⟨g1, 0, none⟩), .pointer (some ⟨g2, 0, none⟩)]⟩, ⟨gb, 36, (bwS ts K K).cs⟩, ⟨gs, 36, (fwS ts K).cs⟩] [] w4 := Own.up (A := [⟨gl, 36, ((Sm.nil.merge (ptS ts 2 K)).merge (ptS ts 0 K)).cs⟩, ⟨g0, 36, (ptS ts 0 K).cs⟩, ⟨g2, 36, (ptS ts 2 K).cs⟩, ⟨ga, 56, [.pointer (some ⟨g0, 0, none⟩), .pointer (some ⟨g1, 0, none⟩), .pointer (some ⟨g2, 0, none⟩)]⟩]) hO2
            clear hO2
            clear hf
            have hf := hO.cells
            simp only [BC, CC, Nat.zero_add, Nat.reduceAdd, and_true] at hf
            go_wp2_with fail
            refine (tmerge_any _ _ _ (HOP.out 1 K).1 ((Sm.Ok.nil.merge (HOP.out 2 K)).merge (HOP.out 0 K)).1 hO).mono ?_
            rintro e w5 ⟨rfl, hO2⟩
            clear hO
            have hO : Own w [⟨gs, 36, (fwS ts K).cs⟩, ⟨g1, 36, (alS ts K).cs⟩, ⟨gl, 36, ((Sm.nil.merge (ptS ts 2 K)).merge (ptS ts 0 K)).cs⟩, ⟨g0, 36, (ptS ts 0 K).cs⟩, ⟨g2, 36, (ptS ts 2 K).cs⟩, ⟨ga, 56, [.pointer (some ⟨g0, 0, none⟩), .pointer (some ⟨g1, 0, none⟩), .pointer (some ⟨g2, 0, none⟩)]⟩, ⟨gb, 36, (bwS ts K K).cs⟩] [] w5 := Own.up (A := [⟨g1, 36, (alS ts K).cs⟩, ⟨gl, 36, ((Sm.nil.merge (ptS ts 2 K)).merge (ptS ts 0 K)).cs⟩, ⟨g0, 36, (ptS ts 0 K).cs⟩, ⟨g2, 36, (ptS ts 2 K).cs⟩, ⟨ga, 56, [.pointer (some ⟨g0, 0, none⟩), .pointer (some ⟨g1, 0, none⟩), .pointer (some ⟨g2, 0, none⟩)]⟩, ⟨gb, 36, (bwS ts K K).cs⟩]) hO2
            clear hO2
            clear hf
            have hf := hO.cells
            simp only [BC, CC, Nat.zero_add, Nat.reduceAdd, and_true] at hf
            go_wp2_with fail
            refine (alike_any (fwS ts K) (bwS ts K K) y hy2 HB1.out.1 HB1.out.2 (HOF.out K) (HOB.out K) (Own.mid2 (A := [⟨g1, 36, (alS ts K).cs⟩, ⟨gl, 36, ((Sm.nil.merge (ptS ts 2 K)).merge (ptS ts 0 K)).cs⟩, ⟨g0, 36, (ptS ts 0 K).cs⟩, ⟨g2, 36, (ptS ts 2 K).cs⟩, ⟨ga, 56, [.pointer (some ⟨g0, 0, none⟩), .pointer (some ⟨g1, 0, none⟩), .pointer (some ⟨g2, 0, none⟩)]⟩]) hO)).mono ?_
            rintro e w6 ⟨rfl, hE6⟩
            have hO := hO.ext hE6
            clear hE6
            clear hf
            have hf := hO.cells
            simp only [BC, CC, Nat.zero_add, Nat.reduceAdd, and_true] at hf
            go_wp2_with fail
            refine (alike_any (fwS ts K) (alS ts K) y hy2 HB2.out.1 HB2.out.2 (HOF.out K) HOA.out hO).mono ?_
            rintro e w7 ⟨rfl, hE6⟩
            have hO := hO.ext hE6
            clear hE6
            go_wp2_with fail
            refine (HL.out _).mono ?_
            rintro e w8 ⟨rfl, hE6⟩
            have hO := hO.ext hE6
            clear hE6
            go_wp2_with fail
            go_ret
            exact ⟨rfl, hO.toExt⟩
end Go.Proofs.Ytfbjeifhpmdjaaa
