/-
  The contracts of the program's sums, third part: Add, Mul. Conditions: those that each theorem names.
-/
import Derived.Test.YtfbjeifhpmdjaaaGreatP17
import Derived.Test.YtfbjeifhpmdjaaaGreatP18
import Derived.Test.YtfbjeifhpmdjaaaGreatP22
import Derived.Test.YtfbjeifhpmdjaaaGreatP06
namespace Go.Proofs.YtfbjeifhpmdjaaaGreat
open Go.RowKit Nm Rn
set_option maxRecDepth 100000
set_option linter.unusedVariables false
set_option linter.unusedSimpArgs false

set_option maxHeartbeats 400000 in
theorem tinfp_any (b : Nat) (w : World) (h : b < 18446744073709551616) :
    Calls Tryz.prog 48 #[.float .f64 b, .int .i64 1] w fun e w' => e = .returned (.bool (isInf b && !sg b)) ∧ w = w' := by
  have hq := fo_gt h (show 9218868437227405311 < 18446744073709551616 by omega)
  have e : ltB 9218868437227405311 b = (isInf b && !sg b) := by
    have hi := infR_val
    have k1 : key 9218868437227405311 = 9218868437227405311 := by decide
    have n1 : isNaN 9218868437227405311 = false := by decide
    unfold ltB
    rw [k1, n1]
    unfold isNaN isInf key
    rw [Bool.eq_iff_iff]
    cases sg b
    all_goals (simp; try omega)
  rw [e] at hq
  clear e h
  go_enter Tryz.func48, Tryz.ntmps48
  go_wp2
  go_ret
  exact ⟨rfl, rfl⟩
set_option maxHeartbeats 400000 in
theorem tinfm_any (b : Nat) (w : World) (h : b < 18446744073709551616) :
    Calls Tryz.prog 48 #[.float .f64 b, .int .i64 (-1)] w fun e w' => e = .returned (.bool (isInf b && sg b)) ∧ w = w' := by
  have hq := fo_gt (ng_lt h) (show 9218868437227405311 < 18446744073709551616 by omega)
  have hn := fun w => run_ng h w
  have e : ltB 9218868437227405311 (ng b) = (isInf b && sg b) := by
    have hi := infR_val
    have k1 : key 9218868437227405311 = 9218868437227405311 := by decide
    have n1 : isNaN 9218868437227405311 = false := by decide
    unfold ltB
    rw [k1, n1]
    unfold isNaN isInf key
    rw [mg_ng h, sg_ng h, Bool.eq_iff_iff]
    cases sg b
    all_goals (simp; try omega)
  rw [e] at hq
  clear e h
  go_enter Tryz.func48, Tryz.ntmps48
  go_wp2
  go_ret
  exact ⟨rfl, rfl⟩

section
variable {w0 w : World} {L : List Bx} {W : List Sw} {g : Nat}
/-- A call that turns the sum in box g. -/
def Turns (f : Nat) (g : Nat) (args : Array Value) (S S' : Sm) : Prop := ∀ (w0 w : World) (L : List Bx) (W : List Sw), Own w0 (⟨g, 55, S.cs⟩ :: L) W w → Calls Tryz.prog f args w fun e w' => e = .returned (.tuple #[]) ∧ Own w0 (⟨g, 55, S'.cs⟩ :: L) W w'
theorem run_some {x y r : Nat} (h : Ieee.double.mul x y = some r) (w : World) : (binOp .mul 57 (.float .f64 x) (.float .f64 y)).run Tryz.prog w = .ok (.float .f64 r) w := by
  have h1 : FloatKind.f64.format.mul x y = some r := h
  simp [binOp, Op.floatArith, floatBits, h1, Question.forced]
theorem tcount1 {ws : List Nat} {p m b : Bool} {t : Nat} (hl : ws.length = 68) (ht : t ≤ 4611686018427387904) (hO : Own w0 (⟨g, 55, sc ws p m b t⟩ :: L) W w) :
    Calls Tryz.prog 46 #[.pointer (some ⟨g, 0, none⟩), .int .u64 1] w fun e w' => e = .returned (.tuple #[]) ∧ Own w0 (⟨g, 55, sc ws p m (cntN b t 1) (cnt t 1)⟩ :: L) W w' := tcount_any 1 hl ht (by omega) hO

set_option maxHeartbeats 2000000 in
theorem tadd_any (S : Sm) (x : Nat) (ht : S.t ≤ 4611686018427387904) (hx : x < 18446744073709551616) (hO : Own w0 (⟨g, 55, S.cs⟩ :: L) W w) :
    Calls Tryz.prog 19 #[.pointer (some ⟨g, 0, none⟩), .float .f64 x] w fun e w' => e = .returned (.tuple #[]) ∧ Own w0 (⟨g, 55, (S.add x).cs⟩ :: L) W w' := by
  have HC := Lib.hid (fun w h => tcount1 (w0 := w0) (w := w) (L := L) (W := W) (g := g) (p := S.p) (m := S.m) (b := S.n) (t := S.t) (sw_len S.T) ht h)
  have HN := Lib.hid (fun w => mnan_any x w hx)
  have HP := Lib.hid (fun w => tinfp_any x w hx)
  have HM := Lib.hid (fun w => tinfm_any x w hx)
  have HS := Lib.hid (fun w => tsplit_any x w hx)
  have HL := Lib.hid (sw_len S.T)
  unfold Sm.cs at hO ⊢
  unfold Sm.add
  obtain ⟨b', hb'⟩ : ∃ b', b' = cntN S.n S.t 1 := ⟨_, rfl⟩
  obtain ⟨t', ht'⟩ : ∃ t', t' = cnt S.t 1 := ⟨_, rfl⟩
  unfold Sm.more
  rw [← hb', ← ht'] at HC
  rw [← hb', ← ht']
  clear hb' ht' ht
  generalize S.p = p at *
  generalize S.m = m at *
  generalize S.n = b at *
  generalize S.t = t at *
  generalize S.T = T at *
  obtain ⟨i, k, hik, hk, hi⟩ := at_one x
  have hLY := fun w h => tlay_any (w0 := w0) (w := w) (L := L) (W := W) (g := g) (p := p) (m := m) (b := b') (t := t') (sg x) 0 (fbSig x) i k T (by omega) (by have := fbSig_lt x; omega) hi hk h
  rw [← hik, lay_one hik, show ((0 : Nat) : Int) = 0 from rfl] at hLY
  have HLY := Lib.hid hLY
  have hw : IntKind.i64.wrap (fbExp x + 2148) = fbExp x + 2148 := by rw [hik, IntKind.wrap_i64]; omega
  have hw2 : fbExp x - -2148 = fbExp x + 2148 := by omega
  clear hLY hik hk hi hx
  cases hn : isNaN x
  · cases hi : isInf x
    · rw [hn] at HN
      rw [hi] at HP HM
      simp only [Bool.false_and] at HP HM
      simp only [Bool.false_eq_true, if_false, Sm.lay]
      clear hn hi
      go_enter Tryz.func19, Tryz.ntmps19
      go_wp2_with (first | (go_at_call 46; (with_reducible refine (HC.out _ hO).mono ?_); rintro e w1 ⟨rfl, hO1⟩; clear hO; have hO := hO1; clear hO1) | (go_at_call 47; (with_reducible refine (HN.out _).mono ?_); rintro e w2 ⟨rfl, rfl⟩) | (go_at_call 48; (with_reducible refine (HP.out _).mono ?_); rintro e w2 ⟨rfl, rfl⟩) | (go_at_call 48; (with_reducible refine (HM.out _).mono ?_); rintro e w2 ⟨rfl, rfl⟩) | (go_at_call 49; (with_reducible refine (HS.out _).mono ?_); rintro e w2 ⟨rfl, rfl⟩) | (go_at_call 50; (with_reducible refine (HLY.out _ hO).mono ?_); rintro e w1 ⟨rfl, hO1⟩; clear hO; have hO := hO1; clear hO1))
      go_end0
      exact ⟨rfl, hO⟩
    · cases hs : sg x
      · rw [hn] at HN
        rw [hi, hs] at HP HM
        simp only [Bool.true_and, Bool.not_true, Bool.not_false] at HP HM
        simp only [Bool.false_eq_true, if_false, if_true]
        clear hn hi hs HLY HS hw hw2
        go_enter Tryz.func19, Tryz.ntmps19
        go_wp2_with (first | (go_at_call 46; (with_reducible refine (HC.out _ hO).mono ?_); rintro e w1 ⟨rfl, hO1⟩; clear hO; have hO := hO1; clear hO1) | (go_at_call 47; (with_reducible refine (HN.out _).mono ?_); rintro e w2 ⟨rfl, rfl⟩) | (go_at_call 48; (with_reducible refine (HP.out _).mono ?_); rintro e w2 ⟨rfl, rfl⟩) | (go_at_call 48; (with_reducible refine (HM.out _).mono ?_); rintro e w2 ⟨rfl, rfl⟩) | (((with_reducible refine at_store (T := 4) ?_); refine own_store (vs := [.bool true]) (T := 4) hO 0 rfl rfl rfl size_bool rfl rfl (by rw [sc_len HL.out]; rfl) ?_; clear hO; intro w3 hO; simp only [List.set_cons_zero, List.set_cons_succ, spl, sc_setp HL.out] at hO; skip)))
        go_end0
        exact ⟨rfl, hO⟩
      · rw [hn] at HN
        rw [hi, hs] at HP HM
        simp only [Bool.true_and, Bool.not_true, Bool.not_false] at HP HM
        simp only [Bool.false_eq_true, if_false, if_true]
        clear hn hi hs HLY HS hw hw2
        go_enter Tryz.func19, Tryz.ntmps19
        go_wp2_with (first | (go_at_call 46; (with_reducible refine (HC.out _ hO).mono ?_); rintro e w1 ⟨rfl, hO1⟩; clear hO; have hO := hO1; clear hO1) | (go_at_call 47; (with_reducible refine (HN.out _).mono ?_); rintro e w2 ⟨rfl, rfl⟩) | (go_at_call 48; (with_reducible refine (HP.out _).mono ?_); rintro e w2 ⟨rfl, rfl⟩) | (go_at_call 48; (with_reducible refine (HM.out _).mono ?_); rintro e w2 ⟨rfl, rfl⟩) | (((with_reducible refine at_store (T := 4) ?_); refine own_store (vs := [.bool true]) (T := 4) hO 0 rfl rfl rfl size_bool rfl rfl (by rw [sc_len HL.out]; rfl) ?_; clear hO; intro w3 hO; simp only [List.set_cons_zero, List.set_cons_succ, spl, sc_setm HL.out] at hO; skip)))
        go_end0
        exact ⟨rfl, hO⟩
  · rw [hn] at HN
    simp only [if_true]
    clear hn HLY HS HP HM hw hw2
    go_enter Tryz.func19, Tryz.ntmps19
    go_wp2_with (first | (go_at_call 46; (with_reducible refine (HC.out _ hO).mono ?_); rintro e w1 ⟨rfl, hO1⟩; clear hO; have hO := hO1; clear hO1) | (go_at_call 47; (with_reducible refine (HN.out _).mono ?_); rintro e w2 ⟨rfl, rfl⟩) | (((with_reducible refine at_store (T := 4) ?_); refine own_store (vs := [.bool true]) (T := 4) hO 0 rfl rfl rfl size_bool rfl rfl (by rw [sc_len HL.out]; rfl) ?_; clear hO; intro w3 hO; simp only [List.set_cons_zero, List.set_cons_succ, spl, sc_setn HL.out] at hO; skip)))
    go_end0
    exact ⟨rfl, hO⟩

set_option maxHeartbeats 2000000 in
theorem tmul_any (S : Sm) (x y : Nat) (ht : S.t ≤ 4611686018427387904) (hx : x < 18446744073709551616) (hy : y < 18446744073709551616) (hO : Own w0 (⟨g, 55, S.cs⟩ :: L) W w) :
    Calls Tryz.prog 22 #[.pointer (some ⟨g, 0, none⟩), .float .f64 x, .float .f64 y] w fun e w' => e = .returned (.tuple #[]) ∧ Own w0 (⟨g, 55, (S.mul x y).cs⟩ :: L) W w' := by
  have HNX := Lib.hid (fun w => mnan_any x w hx)
  have HNY := Lib.hid (fun w => mnan_any y w hy)
  have HIX := Lib.hid (fun w => misinf_any x w hx)
  have HIY := Lib.hid (fun w => misinf_any y w hy)
  unfold Sm.mul
  cases hod : (oddP x || oddP y)
  · rw [if_neg (by simp)]
    have h4 : isNaN x = false ∧ isInf x = false ∧ isNaN y = false ∧ isInf y = false := by
      unfold oddP at hod
      revert hod
      cases isNaN x <;> cases isInf x <;> cases isNaN y <;> cases isInf y <;> simp
    obtain ⟨nx, ix, ny, iy⟩ := h4
    rw [nx] at HNX
    rw [ny] at HNY
    rw [ix] at HIX
    rw [iy] at HIY
    have HC := Lib.hid (fun w h => tcount1 (w0 := w0) (w := w) (L := L) (W := W) (g := g) (p := S.p) (m := S.m) (b := S.n) (t := S.t) (sw_len S.T) ht h)
    have HSX := Lib.hid (fun w => tsplit_any x w hx)
    have HSY := Lib.hid (fun w => tsplit_any y w hy)
    have b1 := fbSig_lt x
    have b2 := fbSig_lt y
    have HML := Lib.hid (fun w => tmul64_any (fbSig x) (fbSig y) w (by omega) (by omega))
    unfold Sm.cs at hO ⊢
    unfold Sm.more Sm.lay
    obtain ⟨b', hb'⟩ : ∃ b', b' = cntN S.n S.t 1 := ⟨_, rfl⟩
    obtain ⟨t', ht'⟩ : ∃ t', t' = cnt S.t 1 := ⟨_, rfl⟩
    rw [← hb', ← ht'] at HC
    rw [← hb', ← ht']
    clear hb' ht' ht
    generalize S.p = p at *
    generalize S.m = m at *
    generalize S.n = b at *
    generalize S.t = t at *
    generalize S.T = T at *
    obtain ⟨i, k, hik, hk, hi⟩ := at_two x y
    have b3 : fbSig x * fbSig y < 18446744073709551616 * 18446744073709551616 := Nat.mul_lt_mul'' (by omega) (by omega)
    have hLY := fun w h => tlay_any (w0 := w0) (w := w) (L := L) (W := W) (g := g) (p := p) (m := m) (b := b') (t := t') (sg x != sg y) (fbSig x * fbSig y / 18446744073709551616) (fbSig x * fbSig y % 18446744073709551616) i k T (by omega) (by omega) hi hk h
    rw [← hik, lay_two hik] at hLY
    obtain ⟨sgn, hsg⟩ : ∃ q, q = (sg x != sg y) := ⟨_, rfl⟩
    rw [← hsg] at hLY
    have hsg2 : (!(sg x == sg y)) = sgn := hsg.symm
    have e1 := fbExp_lo x
    have e2 := fbExp_hi x
    have e3 := fbExp_lo y
    have e4 := fbExp_hi y
    generalize fbSig x * fbSig y / 18446744073709551616 = H1 at *
    generalize fbSig x * fbSig y % 18446744073709551616 = H2 at *
    generalize fbExp x = E1 at *
    generalize fbExp y = E2 at *
    generalize fbSig x = F1 at *
    generalize fbSig y = F2 at *
    have HLY := Lib.hid hLY
    have hw : IntKind.i64.wrap (E1 + E2) = E1 + E2 := by rw [IntKind.wrap_i64]; omega
    have hw2 : IntKind.i64.wrap (E1 + E2 + 2148) = E1 + E2 + 2148 := by rw [IntKind.wrap_i64]; omega
    have hw3 : E1 + E2 - -2148 = E1 + E2 + 2148 := by omega
    clear hLY hik hk hi hx hy nx ny ix iy hod b1 b2 b3 hsg e1 e2 e3 e4
    go_enter Tryz.func22, Tryz.ntmps22
    go_wp2_with (first | (go_at_call 48; (with_reducible refine (HIX.out _).mono ?_); rintro e w2 ⟨rfl, rfl⟩) | (go_at_call 48; (with_reducible refine (HIY.out _).mono ?_); rintro e w2 ⟨rfl, rfl⟩) | (go_at_call 47; (with_reducible refine (HNX.out _).mono ?_); rintro e w2 ⟨rfl, rfl⟩) | (go_at_call 47; (with_reducible refine (HNY.out _).mono ?_); rintro e w2 ⟨rfl, rfl⟩) | (go_at_call 46; (with_reducible refine (HC.out _ hO).mono ?_); rintro e w1 ⟨rfl, hO1⟩; clear hO; have hO := hO1; clear hO1) | (go_at_call 49; (with_reducible refine (HSX.out _).mono ?_); rintro e w2 ⟨rfl, rfl⟩) | (go_at_call 49; (with_reducible refine (HSY.out _).mono ?_); rintro e w2 ⟨rfl, rfl⟩) | (go_at_call 58; (with_reducible refine (HML.out _).mono ?_); rintro e w2 ⟨rfl, rfl⟩) | (go_at_call 50; (with_reducible refine (HLY.out _ hO).mono ?_); rintro e w1 ⟨rfl, hO1⟩; clear hO; have hO := hO1; clear hO1))
    go_end0
    exact ⟨rfl, hO⟩
  · rw [if_pos rfl]
    have h4 : (isInf x = true) ∨ (isInf x = false ∧ isInf y = true) ∨ (isInf x = false ∧ isInf y = false ∧ isNaN x = true) ∨ (isInf x = false ∧ isInf y = false ∧ isNaN x = false ∧ isNaN y = true) := by
      unfold oddP at hod
      revert hod
      cases isNaN x <;> cases isInf x <;> cases isNaN y <;> cases isInf y <;> simp
    have HAD := Lib.hid (fun r w h hr => tadd_any (w0 := w0) (w := w) (L := L) (W := W) (g := g) S r ht hr h)
    obtain ⟨S', hS'⟩ : ∃ S', S' = S.add (mulR 0 x y) := ⟨_, rfl⟩
    rw [← hS']
    rcases mul_odd hx hy (by unfold oddP at hod; exact hod) with ⟨hm, h2⟩ | ⟨s, hm, h2⟩
    · have HR : Hid (∀ w, S.add (nanOf w x y) = S') := Lib.hid (fun w => by rw [hS', h2 0]; exact Sm.add_nan (nanOf_nan _ _ _) NaNc_nan)
      have hrun := fun w => run_nan (op := .mul) (x := x) (y := y) hm (by simp) w
      have HB := Lib.hid (fun w => nanOf_lt w x y)
      clear hm h2 hod hS' hx hy ht
      rcases h4 with q1 | ⟨q1, q2⟩ | ⟨q1, q2, q3⟩ | ⟨q1, q2, q3, q4⟩
      all_goals
        (try rw [q1] at HIX)
        (try rw [q2] at HIY)
        (try rw [q3] at HNX)
        (try rw [q4] at HNY)
        go_enter Tryz.func22, Tryz.ntmps22
        go_wp2_with (first | (go_at_call 48; (with_reducible refine (HIX.out _).mono ?_); rintro e w2 ⟨rfl, rfl⟩) | (go_at_call 48; (with_reducible refine (HIY.out _).mono ?_); rintro e w2 ⟨rfl, rfl⟩) | (go_at_call 47; (with_reducible refine (HNX.out _).mono ?_); rintro e w2 ⟨rfl, rfl⟩) | (go_at_call 47; (with_reducible refine (HNY.out _).mono ?_); rintro e w2 ⟨rfl, rfl⟩) | (go_at_call 19; (with_reducible refine (HAD.out _ _ (hO.ext (Ext.refl _).drew) (HB.out _)).mono ?_); rintro e w1 ⟨rfl, hO1⟩; rw [HR.out] at hO1; clear hO; have hO := hO1; clear hO1))
        (try simp only [Exit.inBlock, Exit.then])
        refine bodyPost_ret (results_none rfl _ _ _) rfl ?_
        exact ⟨rfl, hO⟩
    · have HR : Hid (S.add (infP s) = S') := Lib.hid (by rw [hS', h2 0])
      have HB : Hid (infP s < 18446744073709551616) := Lib.hid (by unfold infP; cases s <;> decide)
      have hrun : ∀ w, (binOp .mul 57 (.float .f64 x) (.float .f64 y)).run Tryz.prog w = .ok (.float .f64 (infP s)) w := fun w => run_some hm w
      clear hm h2 hod hS' hx hy ht
      rcases h4 with q1 | ⟨q1, q2⟩ | ⟨q1, q2, q3⟩ | ⟨q1, q2, q3, q4⟩
      all_goals
        (try rw [q1] at HIX)
        (try rw [q2] at HIY)
        (try rw [q3] at HNX)
        (try rw [q4] at HNY)
        go_enter Tryz.func22, Tryz.ntmps22
        go_wp2_with (first | (go_at_call 48; (with_reducible refine (HIX.out _).mono ?_); rintro e w2 ⟨rfl, rfl⟩) | (go_at_call 48; (with_reducible refine (HIY.out _).mono ?_); rintro e w2 ⟨rfl, rfl⟩) | (go_at_call 47; (with_reducible refine (HNX.out _).mono ?_); rintro e w2 ⟨rfl, rfl⟩) | (go_at_call 47; (with_reducible refine (HNY.out _).mono ?_); rintro e w2 ⟨rfl, rfl⟩) | (go_at_call 19; (with_reducible refine (HAD.out _ _ hO HB.out).mono ?_); rintro e w1 ⟨rfl, hO1⟩; rw [HR.out] at hO1; clear hO; have hO := hO1; clear hO1))
        (try simp only [Exit.inBlock, Exit.then])
        refine bodyPost_ret (results_none rfl _ _ _) rfl ?_
        exact ⟨rfl, hO⟩
end
end Go.Proofs.YtfbjeifhpmdjaaaGreat

/-
  The contracts of the program's sums, fourth part: Merge, Neg. Conditions: those that each theorem names.
-/
namespace Go.Proofs.YtfbjeifhpmdjaaaGreat
open Go.RowKit Nm Rn
set_option maxRecDepth 100000
set_option linter.unusedVariables false
set_option linter.unusedSimpArgs false

def zsum : List Value := sc (List.replicate 68 0) false false false 0
theorem zero_sum (w : World) : (zeroValue 55).run Tryz.prog w = .ok (.agg zsum.toArray) w := by kernel_rfl
theorem size_sum (w : World) : (sizeOf 55).run Tryz.prog w = .ok 72 w := by kernel_rfl
theorem agg_sum (w : World) : (isAgg 55).run Tryz.prog w = .ok true w := by kernel_rfl
theorem size_a68 (w : World) : (sizeOf 53).run Tryz.prog w = .ok 68 w := by kernel_rfl
theorem agg_a68 (w : World) : (isAgg 53).run Tryz.prog w = .ok true w := by kernel_rfl
theorem spl_zsum {vs : List Value} (h : vs.length = 72) : spl zsum 0 vs = vs := spl_all (by rw [h]; rfl)
theorem sw_nil : sw 0 = List.replicate 68 0 := by
  refine (sw_of (by simp) (fun x hx => by rw [List.eq_of_mem_replicate hx]; omega) ?_).symm
  have h : vl (List.replicate 68 0) = 0 := by decide
  rw [h]; simp
theorem Sm.nil_cs : Sm.nil.cs = zsum := by
  unfold Sm.cs Sm.nil zsum
  rw [sw_nil]
theorem run_idx68 {ws : List Nat} {j x : Nat} (hj : j < 68) (hx : ws[j]? = some x) (w : World) : (Instr.index 53 (.agg (u64s ws).toArray) (.int .i64 (j : Int))).run Tryz.prog w = .ok (.int .u64 (x : Int)) w := by
  have h1 : (u64s ws)[j]? = some (.int .u64 (x : Int)) := by unfold u64s; rw [List.getElem?_map, hx]; rfl
  have h2 : (u64s ws).toArray[j]? = some (.int .u64 (x : Int)) := by simpa using h1
  have hs := size_u64 w
  have hp := run_part_plain (P := Tryz.prog) w (e := 24) (by kernel_rfl) (off := j) h2
  simp [Instr.index, run_underlying Tryz.underlying53, asIntOf, hj, hs, hp, Result.andThen]
theorem nat_flip {x : Nat} (h : x < 18446744073709551616) : 18446744073709551615 ^^^ x = 18446744073709551615 - x := by
  have h1 : (~~~(BitVec.ofNat 64 x)).toNat = 2 ^ 64 - 1 - (BitVec.ofNat 64 x).toNat := BitVec.toNat_not
  rw [BitVec.not_def, BitVec.toNat_xor, BitVec.toNat_allOnes, BitVec.toNat_ofNat, Nat.mod_eq_of_lt h] at h1
  exact h1
theorem tnot_u64 (p : Nat) (h : p < 18446744073709551616) : bits .xor .u64 IntKind.u64.max (p : Int) = ((18446744073709551615 - p : Nat) : Int) := by
  have e : IntKind.u64.max = ((18446744073709551615 : Nat) : Int) := rfl
  rw [e, u64_xor_nat _ _ (by omega) h, nat_flip h]
theorem vl_take_all {l : List Nat} (h : l.length = 68) : l.take 68 = l := List.take_of_length_le (by omega)

section
variable {w0 w : World} {L : List Bx} {W : List Sw} {g : Nat}
set_option maxHeartbeats 4000000 in
theorem tmerge_core (S O : Sm) (go ko : Nat) (hko : (⟨g, 55, S.cs⟩ :: L : List Bx)[ko]? = some ⟨go, 55, O.cs⟩) (ht : S.t ≤ 4611686018427387904) (hto : O.t ≤ 4611686018427387904) (hO : Own w0 (⟨g, 55, S.cs⟩ :: L) W w) :
    Calls Tryz.prog 24 #[.pointer (some ⟨g, 0, none⟩), .pointer (some ⟨go, 0, none⟩)] w fun e w' => e = .returned (.tuple #[]) ∧ Own w0 (⟨g, 55, (S.merge O).cs⟩ :: L) W w' := by
  have hC := fun ws hl w L h => tcount_any (w0 := w0) (w := w) (L := L) (W := W) (g := g) (ws := ws) (p := S.p) (m := S.m) (b := S.n) (t := S.t) O.t hl ht hto h
  unfold Sm.merge
  unfold Sm.cs at hO hko ⊢
  obtain ⟨nb, hnb⟩ : ∃ b', b' = cntN S.n S.t O.t := ⟨_, rfl⟩
  obtain ⟨nt, hnt⟩ : ∃ t', t' = cnt S.t O.t := ⟨_, rfl⟩
  rw [← hnb, ← hnt] at hC ⊢
  have HC := Lib.hid hC
  clear hnb hnt ht hto hC
  obtain ⟨S, p, m, b, t⟩ := S
  obtain ⟨O, p2, m2, b2, t2⟩ := O
  simp only at hko hO HC ⊢
  have HLO := Lib.hid (sw_len O)
  have HLS := Lib.hid (sw_len S)
  have HKO := Lib.hid hko
  clear hko
  go_enter Tryz.func24, Tryz.ntmps24
  go_wp2_with (first | ((with_reducible refine at_load (T := 55) ?_); refine own_load (T := 55) hO ko HKO.out rfl agg_sum size_sum (by rw [sc_len HLO.out]; rfl) (vs := sc (sw O) p2 m2 b2 t2) (by rw [List.drop_zero, List.take_of_length_le (by rw [sc_len HLO.out]; omega)]) ?_) | ((with_reducible refine at_alloc (T := 55) ?_); refine own_alloc hO zero_sum rfl sc_noU ?_; clear hO; intro gt wa hO) | ((with_reducible refine at_store (T := 55) ?_); refine own_store (vs := sc (sw O) p2 m2 b2 t2) (T := 55) hO 0 rfl rfl rfl (fun w => by rw [sc_len HLO.out]; exact size_sum w) (sc_one _ _ _ _ _) sc_noU (by rw [sc_len HLO.out]; rfl) ?_; clear hO; intro wb hO; simp only [List.set_cons_zero, spl_zsum (sc_len HLO.out)] at hO) | ((with_reducible refine at_load (T := 53) ?_); refine own_load (T := 53) hO 0 rfl rfl agg_a68 size_a68 (by rw [sc_len HLO.out]; rfl) (vs := u64s (sw O)) (sc_words HLO.out) ?_))
  have hini : (vl (sw S) : Int) + sn false (0 * 18446744073709551616 ^ 0) = (vl (sw S) : Int) + (vl ((sw O).take 0) : Int) := by simp [sn, vl]
  obtain ⟨V, hV⟩ : ∃ V : Int, V = (vl (sw S) : Int) := ⟨_, rfl⟩
  have HV := Lib.hid hV
  rw [← hV] at hini
  have hs6 := sw_w6 S
  have hsl := sw_len S
  rw [hV] at hini
  go_loopw [5, 13] (fun cv kv wr => ∃ (j c : Nat) (l : List Nat), kv = .int .i64 (j : Int) ∧ cv = .int .u64 (c : Int) ∧ j ≤ 68 ∧ Hid (c ≤ 1 ∧ l.length = 68 ∧ W6 l ∧ (vl l : Int) + sn false (c * 18446744073709551616 ^ j) = (vl (sw S) : Int) + (vl ((sw O).take j) : Int)) ∧ Own w0 (⟨gt, 55, sc (sw O) p2 m2 b2 t2⟩ :: ⟨g, 55, sc l p m b t⟩ :: L) W wr) (fun _ kv _ => 68 - (intOf kv).toNat)
  case atStart => exact ⟨0, 0, sw S, rfl, rfl, by omega, Lib.hid ⟨by omega, hsl, hs6, hini⟩, hO⟩
  case round =>
    obtain ⟨j, c, l, rfl, rfl, hj68, hinv, hOr⟩ := hrel
    clear hO hini hs6 hsl hV
    by_cases hlt : j < 68
    · have hjl : j < l.length := by rw [hinv.out.2.1]; exact hlt
      have hjo : j < (sw O).length := by rw [HLO.out]; exact hlt
      have hc2 := (hOr.cell 1 rfl j).trans (sc_word hjl)
      have hf2 := hOr.frozen 1 (b := ⟨g, 55, sc l p m b t⟩) rfl j
      have hidx := run_idx68 (ws := sw O) hlt (List.getElem?_eq_getElem hjo)
      have hx64 := hinv.out.2.2.1.get hjl
      have hy64 := (sw_w6 O).get hjo
      obtain ⟨o, ho⟩ : ∃ o, o = l[j] := ⟨_, rfl⟩
      obtain ⟨x, hx⟩ : ∃ x, x = (sw O)[j] := ⟨_, rfl⟩
      rw [← ho] at hc2 hx64
      rw [← hx] at hidx hy64
      have hc1 := hinv.out.1
      have hcall := run_badd o x c hc1
      have hN1 : Hid ((o + x + c) / 18446744073709551616 ≤ 1 ∧ (l.set j ((o + x + c) % 18446744073709551616)).length = 68 ∧ W6 (l.set j ((o + x + c) % 18446744073709551616)) ∧ (vl (l.set j ((o + x + c) % 18446744073709551616)) : Int) + sn false ((o + x + c) / 18446744073709551616 * 18446744073709551616 ^ (j + 1)) = (vl (sw S) : Int) + (vl ((sw O).take (j + 1)) : Int)) := by
        obtain ⟨i1, i2, i3, i4⟩ := hinv.out
        refine Lib.hid ⟨by omega, by rw [List.length_set]; exact i2, i3.set _ (by omega), ?_⟩
        rw [vl_take_succ hjo, ← hx, Int.natCast_add]
        have := lay_step (s := false) hjl (by rw [← ho]; exact add_word (x := o) (y := x) (c := c)) i4
        rw [Nat.mul_comm (18446744073709551616 ^ j)]
        exact this
      have hOst : Own w0 (⟨gt, 55, sc (sw O) p2 m2 b2 t2⟩ :: ⟨g, 55, sc (l.set j ((o + x + c) % 18446744073709551616)) p m b t⟩ :: L) W (wr.setCell ⟨g, j, none⟩ (.int .u64 (((o + x + c) % 18446744073709551616 : Nat) : Int))) := by
        have := hOr.set 1 rfl j (.int .u64 (((o + x + c) % 18446744073709551616 : Nat) : Int)) rfl
        simp only [List.set_cons_succ, List.set_cons_zero] at this
        rw [sc_setw hjl] at this
        exact this
      generalize (o + x + c) % 18446744073709551616 = r at *
      generalize (o + x + c) / 18446744073709551616 = c' at *
      have HOST := Lib.hid hOst
      have d0 : decide ((j : Int) < 68) = true := decide_eq_true (by omega)
      have bp0 : (0 : Int) ≤ (j : Int) := by omega
      have bp1 : (j : Int) < 68 := by omega
      clear hOst hinv hOr hx64 hy64 ho hx hjl hjo
      go_wp2_with fail
      go_region_with (fail)
      go_wp2_with fail
      go_roundw
      case rel => exact ⟨j + 1, c', l.set j r, by go_num, rfl, by omega, hN1, HOST.out.ext (Ext.refl _).drew⟩
      case measure => simp [intOf]; omega
    · have hje : j = 68 := by omega
      have hd : l = sw (S + O) := by
        obtain ⟨i1, i2, i3, i4⟩ := hinv.out
        rw [hje, vl_take_all (sw_len O)] at i4
        refine (lay_end (c := (c : Int)) (T := S) i2 i3 (X := vl (sw O)) ?_).trans (sw_congr ?_)
        · rw [← i4]
          unfold sn MM
          simp
        · rw [vl_sw, Int.add_emod, Int.emod_emod_of_dvd _ (Int.dvd_refl _), ← Int.add_emod]
      have HL := Lib.hid (sw_len (S + O))
      subst hd
      have d0 : decide ((j : Int) < 68) = false := decide_eq_false (by omega)
      have hc71 := (hOr.cell 0 rfl 71).trans (sc_t HLO.out)
      clear hinv hje HV
      have hO := hOr
      clear hOr
      cases p <;> cases m <;> cases nb
      all_goals
        go_wp2_with (first | (go_at_call 46; (with_reducible refine (HC.out _ (sw_len _) _ _ hO.swap).mono ?_); rintro e w1 ⟨rfl, hO1⟩; clear hO; have hO := hO1.swap; clear hO1; have c1 := (hO.cell 1 rfl 68).trans (sc_p HL.out); have c2 := (hO.cell 1 rfl 69).trans (sc_m HL.out); have c3 := (hO.cell 1 rfl 70).trans (sc_n HL.out); have c4 := (hO.cell 0 rfl 68).trans (sc_p HLO.out); have c5 := (hO.cell 0 rfl 69).trans (sc_m HLO.out); have c6 := (hO.cell 0 rfl 70).trans (sc_n HLO.out)) | ((with_reducible refine at_store (T := 4) ?_); refine own_store (vs := [.bool true]) (T := 4) hO 1 rfl rfl rfl size_bool rfl rfl (by rw [sc_len HL.out]; rfl) ?_; clear hO; intro w3 hO; simp only [List.set_cons_zero, List.set_cons_succ, spl, sc_setp HL.out, sc_setm HL.out, sc_setn HL.out] at hO; have c1 := (hO.cell 1 rfl 68).trans (sc_p HL.out); have c2 := (hO.cell 1 rfl 69).trans (sc_m HL.out); have c3 := (hO.cell 1 rfl 70).trans (sc_n HL.out); have c4 := (hO.cell 0 rfl 68).trans (sc_p HLO.out); have c5 := (hO.cell 0 rfl 69).trans (sc_m HLO.out); have c6 := (hO.cell 0 rfl 70).trans (sc_n HLO.out)) | ((with_reducible refine at_store (T := 4) ?_); refine own_store (vs := [.bool p2]) (T := 4) hO 1 rfl rfl rfl size_bool rfl rfl (by rw [sc_len HL.out]; rfl) ?_; clear hO; intro w3 hO; simp only [List.set_cons_zero, List.set_cons_succ, spl, sc_setp HL.out, sc_setm HL.out, sc_setn HL.out] at hO; have c1 := (hO.cell 1 rfl 68).trans (sc_p HL.out); have c2 := (hO.cell 1 rfl 69).trans (sc_m HL.out); have c3 := (hO.cell 1 rfl 70).trans (sc_n HL.out); have c4 := (hO.cell 0 rfl 68).trans (sc_p HLO.out); have c5 := (hO.cell 0 rfl 69).trans (sc_m HLO.out); have c6 := (hO.cell 0 rfl 70).trans (sc_n HLO.out)) | ((with_reducible refine at_store (T := 4) ?_); refine own_store (vs := [.bool m2]) (T := 4) hO 1 rfl rfl rfl size_bool rfl rfl (by rw [sc_len HL.out]; rfl) ?_; clear hO; intro w3 hO; simp only [List.set_cons_zero, List.set_cons_succ, spl, sc_setp HL.out, sc_setm HL.out, sc_setn HL.out] at hO; have c1 := (hO.cell 1 rfl 68).trans (sc_p HL.out); have c2 := (hO.cell 1 rfl 69).trans (sc_m HL.out); have c3 := (hO.cell 1 rfl 70).trans (sc_n HL.out); have c4 := (hO.cell 0 rfl 68).trans (sc_p HLO.out); have c5 := (hO.cell 0 rfl 69).trans (sc_m HLO.out); have c6 := (hO.cell 0 rfl 70).trans (sc_n HLO.out)) | ((with_reducible refine at_store (T := 4) ?_); refine own_store (vs := [.bool b2]) (T := 4) hO 1 rfl rfl rfl size_bool rfl rfl (by rw [sc_len HL.out]; rfl) ?_; clear hO; intro w3 hO; simp only [List.set_cons_zero, List.set_cons_succ, spl, sc_setp HL.out, sc_setm HL.out, sc_setn HL.out] at hO; have c1 := (hO.cell 1 rfl 68).trans (sc_p HL.out); have c2 := (hO.cell 1 rfl 69).trans (sc_m HL.out); have c3 := (hO.cell 1 rfl 70).trans (sc_n HL.out); have c4 := (hO.cell 0 rfl 68).trans (sc_p HLO.out); have c5 := (hO.cell 0 rfl 69).trans (sc_m HLO.out); have c6 := (hO.cell 0 rfl 70).trans (sc_n HLO.out)))
        go_end0
        exact ⟨rfl, hO.tail⟩
theorem tmerge_any (S O : Sm) (go : Nat) (ht : S.t ≤ 4611686018427387904) (hto : O.t ≤ 4611686018427387904) (hO : Own w0 (⟨g, 55, S.cs⟩ :: ⟨go, 55, O.cs⟩ :: L) W w) :
    Calls Tryz.prog 24 #[.pointer (some ⟨g, 0, none⟩), .pointer (some ⟨go, 0, none⟩)] w fun e w' => e = .returned (.tuple #[]) ∧ Own w0 (⟨g, 55, (S.merge O).cs⟩ :: ⟨go, 55, O.cs⟩ :: L) W w' := tmerge_core S O go 1 rfl ht hto hO
theorem tmerge_self (S : Sm) (ht : S.t ≤ 4611686018427387904) (hO : Own w0 (⟨g, 55, S.cs⟩ :: L) W w) :
    Calls Tryz.prog 24 #[.pointer (some ⟨g, 0, none⟩), .pointer (some ⟨g, 0, none⟩)] w fun e w' => e = .returned (.tuple #[]) ∧ Own w0 (⟨g, 55, (S.merge S).cs⟩ :: L) W w' := tmerge_core S S g 0 rfl ht ht hO

set_option maxHeartbeats 4000000 in
theorem tneg_any (S : Sm) (hO : Own w0 (⟨g, 55, S.cs⟩ :: L) W w) :
    Calls Tryz.prog 26 #[.pointer (some ⟨g, 0, none⟩)] w fun e w' => e = .returned (.tuple #[]) ∧ Own w0 (⟨g, 55, S.neg.cs⟩ :: L) W w' := by
  unfold Sm.neg
  unfold Sm.cs at hO ⊢
  obtain ⟨S, p, m, b, t⟩ := S
  simp only at hO ⊢
  have HLO := Lib.hid (sw_len S)
  go_enter Tryz.func26, Tryz.ntmps26
  go_wp2_with ((with_reducible refine at_load (T := 53) ?_); refine own_load (T := 53) hO 0 rfl rfl agg_a68 size_a68 (by rw [sc_len HLO.out]; rfl) (vs := u64s (sw S)) (sc_words HLO.out) ?_)
  have hini : (vl (sw S) : Int) + (1 : Nat) * (18446744073709551616 ^ 0 : Nat) = vl (sw S) - 2 * vl ((sw S).take 0) + (18446744073709551616 ^ 0 : Nat) := by simp [vl]
  have hs6 := sw_w6 S
  have hsl := sw_len S
  go_loopw [2, 9] (fun cv kv wr => ∃ (j c : Nat) (l : List Nat), kv = .int .i64 (j : Int) ∧ cv = .int .u64 (c : Int) ∧ j ≤ 68 ∧ Hid (c ≤ 1 ∧ l.length = 68 ∧ W6 l ∧ l.drop j = (sw S).drop j ∧ (vl l : Int) + c * (18446744073709551616 ^ j : Nat) = vl (sw S) - 2 * vl ((sw S).take j) + (18446744073709551616 ^ j : Nat)) ∧ Own w0 (⟨g, 55, sc l p m b t⟩ :: L) W wr) (fun _ kv _ => 68 - (intOf kv).toNat)
  case atStart => exact ⟨0, 1, sw S, rfl, rfl, by omega, Lib.hid ⟨by omega, hsl, hs6, rfl, hini⟩, hO⟩
  case round =>
    obtain ⟨j, c, l, rfl, rfl, hj68, hinv, hOr⟩ := hrel
    clear hO hini hs6 hsl
    by_cases hlt : j < 68
    · have hjl : j < l.length := by rw [hinv.out.2.1]; exact hlt
      have hjo : j < (sw S).length := by rw [HLO.out]; exact hlt
      have hf2 := hOr.frozen 0 (b := ⟨g, 55, sc l p m b t⟩) rfl j
      have hthere := (hOr.cell 0 rfl j).trans (sc_word hjl)
      obtain ⟨z, hz⟩ : ∃ z, z = l[j] := ⟨_, rfl⟩
      rw [← hz] at hthere
      have hidx := run_idx68 (ws := sw S) hlt (List.getElem?_eq_getElem hjo)
      have hx64 := (sw_w6 S).get hjo
      have hlx : l[j] = (sw S)[j] := by
        have := congrArg (fun z : List Nat => z[0]?) hinv.out.2.2.2.1
        simp only [List.getElem?_drop, Nat.add_zero] at this
        rw [List.getElem?_eq_getElem hjl, List.getElem?_eq_getElem hjo] at this
        exact Option.some.inj this
      obtain ⟨x, hx⟩ : ∃ x, x = (sw S)[j] := ⟨_, rfl⟩
      rw [← hx] at hidx hx64
      have hc1 := hinv.out.1
      have hxor := tnot_u64 x hx64
      obtain ⟨y, hy⟩ : ∃ y, y = 18446744073709551615 - x := ⟨_, rfl⟩
      have hcall : ∀ w, (callFunc 62 #[.int .u64 (y : Int), .int .u64 0, .int .u64 (c : Int)]).run Tryz.prog w = .ok (.value (.tuple #[.int .u64 (((y + 0 + c) % 18446744073709551616 : Nat) : Int), .int .u64 (((y + 0 + c) / 18446744073709551616 : Nat) : Int)])) w := run_badd y 0 c hc1
      rw [Nat.add_zero] at hcall
      rw [← hy] at hxor
      have hN1 : Hid ((y + c) / 18446744073709551616 ≤ 1 ∧ (l.set j ((y + c) % 18446744073709551616)).length = 68 ∧ W6 (l.set j ((y + c) % 18446744073709551616)) ∧ (l.set j ((y + c) % 18446744073709551616)).drop (j + 1) = (sw S).drop (j + 1) ∧ (vl (l.set j ((y + c) % 18446744073709551616)) : Int) + ((y + c) / 18446744073709551616 : Nat) * (18446744073709551616 ^ (j + 1) : Nat) = vl (sw S) - 2 * vl ((sw S).take (j + 1)) + (18446744073709551616 ^ (j + 1) : Nat)) := by
        obtain ⟨i1, i2, i3, i4, i5⟩ := hinv.out
        refine Lib.hid ⟨by omega, by rw [List.length_set]; exact i2, i3.set _ (by omega), ?_, ?_⟩
        · rw [List.drop_set_of_lt (by omega), ← List.drop_drop, i4, List.drop_drop]
        · exact neg_step hjl hjo hlx (by rw [← hx, ← hy]; omega) (by rw [← hx]; exact hx64) i5
      have hOst : Own w0 (⟨g, 55, sc (l.set j ((y + c) % 18446744073709551616)) p m b t⟩ :: L) W (wr.setCell ⟨g, j, none⟩ (.int .u64 (((y + c) % 18446744073709551616 : Nat) : Int))) := by
        have := hOr.set 0 rfl j (.int .u64 (((y + c) % 18446744073709551616 : Nat) : Int)) rfl
        simp only [List.set_cons_zero] at this
        rw [sc_setw hjl] at this
        exact this
      generalize (y + c) % 18446744073709551616 = r at *
      generalize (y + c) / 18446744073709551616 = c' at *
      have HOST := Lib.hid hOst
      have d0 : decide ((j : Int) < 68) = true := decide_eq_true (by omega)
      have bp0 : (0 : Int) ≤ (j : Int) := by omega
      have bp1 : (j : Int) < 68 := by omega
      clear hOst hinv hOr hx64 hx hlx hy hz hjl hjo
      go_wp2_with fail
      go_region_with (fail)
      go_wp2_with fail
      go_roundw
      case rel => exact ⟨j + 1, c', l.set j r, by go_num, rfl, by omega, hN1, HOST.out.ext (Ext.refl _).drew⟩
      case measure => simp [intOf]; omega
    · have hje : j = 68 := by omega
      have hd : l = sw (-S) := by
        obtain ⟨i1, i2, i3, i4, i5⟩ := hinv.out
        rw [hje, vl_take_all (sw_len S), vl_sw] at i5
        refine (sw_end (T := -(S % (MM : Int)) + 1 * (MM : Int)) (c := (c : Int)) i2 i3 ?_).trans (sw_congr ?_)
        · rw [show (MM : Int) = ((18446744073709551616 ^ 68 : Nat) : Int) from rfl, i5]
          unfold MM
          omega
        · rw [Int.add_mul_emod_self_right, show -(S % (MM : Int)) = -S + (S / (MM : Int)) * (MM : Int) by rw [Int.emod_def, Int.mul_comm]; omega, Int.add_mul_emod_self_right]
      have HL := Lib.hid (sw_len (-S))
      subst hd
      have d0 : decide ((j : Int) < 68) = false := decide_eq_false (by omega)
      have hf0 := hOr.frozen 0 (b := ⟨g, 55, sc (sw (-S)) p m b t⟩) rfl 68
      have hf1 := hOr.frozen 0 (b := ⟨g, 55, sc (sw (-S)) p m b t⟩) rfl 69
      have hc0 := (hOr.cell 0 rfl 68).trans (sc_p HL.out)
      have hc1 := (hOr.cell 0 rfl 69).trans (sc_m HL.out)
      have hO1 := (hOr.set 0 rfl 68 (.bool m) rfl)
      simp only [List.set_cons_zero, sc_setp HL.out] at hO1
      have hO2 := (hO1.set 0 rfl 69 (.bool p) rfl)
      simp only [List.set_cons_zero, sc_setm HL.out] at hO2
      have HO2 := Lib.hid hO2
      clear hinv hje hOr hO1 hO2
      go_wp2_with fail
      go_region_with (fail)
      all_goals
        go_wp2_with fail
        go_end0
        exact ⟨rfl, HO2.out.ext (Ext.refl _).drew⟩
end
end Go.Proofs.YtfbjeifhpmdjaaaGreat

/-
  Plain: what Of answers, for every exponent. Conditions: those that each theorem names.
-/
set_option linter.unusedVariables false
set_option linter.unusedSimpArgs false
namespace Go.Proofs.YtfbjeifhpmdjaaaGreat.Rn
open Nm

def holdZ (e : Int) : Int := min (max e (-1099511627776)) 1099511627776
/-- What Of answers. -/
def ofR (d : Int) (neg : Bool) (V : Nat) (e : Int) : Nat :=
  if 524288 < bl V then NaNc
  else if V = 0 then 0
  else if (bl V : Int) + e < -1076 then rnd d neg 1
  else if 1023 < (bl V : Int) - 1 + e then pat neg (if twB d neg then infR - 1 else infR)
  else rnd d neg (zd (2 * V) (e - 1))

theorem zd_tiny {V : Nat} {e : Int} (hV : V ≠ 0) (h : (bl V : Int) + e < -1076) : zd (2 * V) (e - 1) = 1 := by
  obtain ⟨B, hB⟩ : ∃ B : Nat, (B : Int) = -(e + 1074) := ⟨(-(e + 1074)).toNat, by omega⟩
  rw [zd_of (A := 0) (B := B) (by omega), Nat.pow_zero, Nat.mul_one]
  have hlt : 2 * V < 2 ^ B := by
    have h1 := lt_pow_bl V
    have h2 : 2 ^ (bl V + 1) ≤ 2 ^ B := Nat.pow_le_pow_right (by omega) (by omega)
    rw [Nat.pow_succ] at h2
    omega
  unfold zq
  rw [Nat.div_eq_of_lt hlt, Nat.mod_eq_of_lt hlt, if_neg (by omega)]
theorem ofR_tiny {d : Int} {neg : Bool} {V : Nat} {e : Int} (hV : V ≠ 0) (hb : bl V ≤ 524288) (h : (bl V : Int) + e < -1076) : ofR d neg V e = rnd d neg 1 := by
  unfold ofR
  rw [if_neg (by omega), if_neg hV, if_pos h]
/-- A held exponent: where it is not tiny. -/
theorem ofR_hold {d : Int} {neg : Bool} {V : Nat} {e : Int} (hb : bl V ≤ 524288) (h : V = 0 ∨ -1100 ≤ (bl V : Int) + holdZ e) : ofR d neg V e = rnd d neg (zd (2 * V) (holdZ e - 1)) := by
  unfold ofR
  rw [if_neg (by omega)]
  by_cases h0 : V = 0
  · rw [if_pos h0, h0, Nat.mul_zero, zd_zero, rnd_zero]
  · rw [if_neg h0]
    have h := h.resolve_left h0
    have hbp := bl_pos h0
    by_cases h1 : (bl V : Int) + e < -1076
    · rw [if_pos h1]
      have h2 : (bl V : Int) + holdZ e < -1076 := by unfold holdZ at h ⊢; omega
      rw [zd_tiny h0 h2]
    · rw [if_neg h1]
      by_cases h2 : 1023 < (bl V : Int) - 1 + e
      · rw [if_pos h2]
        have h3 : 1023 < (bl V : Int) - 1 + holdZ e := by unfold holdZ; omega
        have := rnd_big (m := 0) h0 h3 d neg
        rw [Nat.add_zero] at this
        exact this.symm
      · rw [if_neg h2]
        have h3 : holdZ e = e := by unfold holdZ; omega
        rw [h3]
theorem zd_two (V : Nat) (e : Int) : zd (2 * V) (e - 1) = zd V e := by
  obtain ⟨A, B, hAB⟩ : ∃ A B : Nat, (A : Int) - B = e + 1075 := ⟨(e + 1075).toNat, (-(e + 1075)).toNat, by omega⟩
  rw [zd_of hAB, zd_of (A := A) (B := B + 1) (by omega)]
  refine zq_congr (two_pow_pos _) (two_pow_pos _) ?_
  rw [Nat.pow_succ]
  have : 2 * V * 2 ^ A * 2 ^ B = 2 * (V * 2 ^ A * 2 ^ B) := by rw [Nat.mul_assoc, Nat.mul_assoc, Nat.mul_assoc]
  rw [this]
  have : V * 2 ^ A * (2 ^ B * 2) = 2 * (V * 2 ^ A * 2 ^ B) := by rw [← Nat.mul_assoc, Nat.mul_comm]
  rw [this]
end Go.Proofs.YtfbjeifhpmdjaaaGreat.Rn
