/-
  Lists of terms: how such an argument is opened. Conditions: those that each theorem names.
-/
import Derived.Test.YtfbjeifhpmdjaaaZ27
import Derived.ProofKit
import Derived.ChangeOld
import Derived.OpenShut
import Derived.Test.YtfbjeifhpmdjaaaZ10
import Derived.Test.YtfbjeifhpmdjaaaZ11
namespace Go.Proofs.Ytfbjeifhpmdjaaa
open Go.ChangeShapes Go.WideShapes Go.ChangeAt Go.RowKit
set_option linter.unusedVariables false
set_option linter.unusedSimpArgs false

/-- The slice '.slice A n c' of terms reads as the list ts. -/
def Trs (w : World) (A : Option Addr) (n c : Nat) (ts : List (Nat × Nat × Bool)) : Prop :=
  ts.length = n ∧ n ≤ c ∧ c ≤ maxLen ∧ (∀ q ∈ ts, q.1 < 18446744073709551616 ∧ q.2.1 < 18446744073709551616) ∧
    (0 < n → ∃ ad, A = some ad ∧ ad.block < w.heap.size ∧ ∀ (k : Nat) (q : Nat × Nat × Bool), ts[k]? = some q → w.cell? (ad.add (k * 3)) = some (.int .u64 (q.1 : Int)) ∧ w.cell? (ad.add (k * 3 + 1)) = some (.int .u64 (q.2.1 : Int)) ∧ w.cell? (ad.add (k * 3 + 2)) = some (.bool q.2.2))
section
variable {w w' : World} {n c : Nat} {A : Option Addr} {ts : List (Nat × Nat × Bool)}
theorem Trs.len (h : Trs w A n c ts) : ts.length = n := h.1
theorem Trs.small (h : Trs w A n c ts) : n ≤ 9223372036854775807 := by have h1 := h.2.1; have h2 := h.2.2.1; unfold maxLen at h2; omega
theorem Trs.ext (h : Trs w A n c ts) (he : Ext w w') : Trs w' A n c ts :=
  ⟨h.1, h.2.1, h.2.2.1, h.2.2.2.1, fun hn => by
    obtain ⟨ad, e, hb, hc⟩ := h.2.2.2.2 hn
    refine ⟨ad, e, Nat.lt_of_lt_of_le hb he.size, fun k q hq => ?_⟩
    obtain ⟨h1, h2, h3⟩ := hc k q hq
    exact ⟨by rw [he.cell (by rw [block_of_add]; exact hb)]; exact h1, by rw [he.cell (by rw [block_of_add]; exact hb)]; exact h2, by rw [he.cell (by rw [block_of_add]; exact hb)]; exact h3⟩⟩
theorem Trs.at_ {k : Nat} (h : Trs w A n c ts) (hk : k < n) : ∃ ad X Y b, A = some ad ∧ ts[k]? = some (X, Y, b) ∧ X < 18446744073709551616 ∧ Y < 18446744073709551616 ∧ w.cell? (ad.add (k * 3)) = some (.int .u64 (X : Int)) ∧ w.cell? (ad.add (k * 3 + 1)) = some (.int .u64 (Y : Int)) ∧ w.cell? (ad.add (k * 3 + 2)) = some (.bool b) := by
  obtain ⟨ad, e, hb, hc⟩ := h.2.2.2.2 (by omega)
  have hl : k < ts.length := by have := h.1; omega
  have hq : ts[k]? = some ts[k] := List.getElem?_eq_getElem hl
  obtain ⟨l1, l2⟩ := h.2.2.2.1 _ (List.getElem_mem hl)
  obtain ⟨h1, h2, h3⟩ := hc k _ hq
  exact ⟨ad, _, _, _, e, hq, l1, l2, h1, h2, h3⟩
end
theorem list_of {α : Type} (Q : Nat → α → Prop) : ∀ n, (∀ i, i < n → ∃ q, Q i q) → ∃ ts : List α, ts.length = n ∧ ∀ i q, ts[i]? = some q → Q i q
  | 0, _ => ⟨[], rfl, fun i q h => by simp at h⟩
  | n + 1, h => by
    obtain ⟨ts, h1, h2⟩ := list_of Q n (fun i hi => h i (by omega))
    obtain ⟨q, hq⟩ := h n (by omega)
    refine ⟨ts ++ [q], by simp [h1], fun i r hr => ?_⟩
    rcases Nat.lt_or_ge i n with hi | hi
    · rw [List.getElem?_append_left (by omega)] at hr
      exact h2 i r hr
    · rw [List.getElem?_append_right (by omega)] at hr
      have hi0 : i = n := by
        rcases Nat.eq_or_lt_of_le hi with e | e
        · exact e.symm
        · rw [List.getElem?_eq_none (by simp; omega)] at hr; cases hr
      subst hi0
      rw [h1, Nat.sub_self] at hr
      simp at hr
      rw [← hr]
      exact hq
theorem cell_in {w : World} {a : Addr} {v : Value} (h : w.cell? a = some v) : a.block < w.heap.size := by
  rcases Nat.lt_or_ge a.block w.heap.size with hl | hl
  · exact hl
  · unfold World.cell? at h
    rw [Array.getElem?_eq_none hl] at h
    cases h
theorem addr_add2 (a : Addr) (i j : Nat) : (a.add i).add j = a.add (i + j) := add_of_add a i j

theorem open_terms {H : Type} {enc : TypeId × Value → H} {P : Program} {W : World} {sp : Nat → Bool} {held : Bool} {r : Reach} {b0 : Nat} {t te : TypeId} {f0 f1 f2 : Field} {v : Value} {d : DataW H} {ps : List MemPlace}
    (ht : P.underlying t = some (.slice te)) (hs : P.underlying te = some (.struct #[f0, f1, f2])) (u0 : P.underlying f0.type = some (.int .u64)) (u1 : P.underlying f1.type = some (.int .u64)) (u2 : P.underlying f2.type = some .bool)
    (o0 : f0.offset = 0) (o1 : f1.offset = 1) (o2 : f2.offset = 2) (c3 : P.cellsOf te = 3) (c0 : P.cellsOf f0.type = 1) (c1 : P.cellsOf f1.type = 1) (c2 : P.cellsOf f2.type = 1)
    (hval : Value.okWide P W r b0 t v) (hd : DataW.Trod enc P W 0 sp held t v d ps) : ∃ A n c ts, v = .slice A n c ∧ Trs W A n c ts := by
  obtain ⟨a0, n0, k0, rfl⟩ := okWide_slice ht hval
  obtain ⟨fuel, hf⟩ := hd
  rcases DataW.trod_slice ht hf with ⟨h1, _⟩ | ⟨a, len, cap, elems, rest, n, _, h1, _, _, hl, hm, hlen, hel, _, _⟩
  · simp [Value.cells] at h1
    obtain ⟨rfl, rfl, rfl⟩ := h1
    exact ⟨none, 0, 0, [], rfl, rfl, Nat.le_refl _, Nat.zero_le _, (fun q hq => nomatch hq), fun h => absurd h (by omega)⟩
  · simp [Value.cells] at h1
    obtain ⟨rfl, rfl, rfl⟩ := h1
    have each : ∀ i, i < n0 → ∃ q : Nat × Nat × Bool, q.1 < 18446744073709551616 ∧ q.2.1 < 18446744073709551616 ∧ W.cell? (a.add (i * 3)) = some (.int .u64 (q.1 : Int)) ∧ W.cell? (a.add (i * 3 + 1)) = some (.int .u64 (q.2.1 : Int)) ∧ W.cell? (a.add (i * 3 + 2)) = some (.bool q.2.2) := fun i hi => by
      have h2 := hel i hi
      rw [List.getElem?_eq_getElem (by omega), Option.bind_eq_some_iff, c3] at h2
      obtain ⟨cs, hcs, hy⟩ := h2
      obtain ⟨_, hcl, hcc⟩ := World.cells?_some hcs
      obtain ⟨xs, m, _, _, _, hxl, hx⟩ := DataW.trod_struct hs hy
      match cs, hcl with
      | [v0, v1, v2], _ =>
        have x0 := hx 0 f0 rfl
        have x1 := hx 1 f1 rfl
        have x2 := hx 2 f2 rfl
        match xs, hxl with
        | [y0, y1, y2], _ =>
          rw [o0, c0] at x0
          rw [o1, c1] at x1
          rw [o2, c2] at x2
          simp at x0 x1 x2
          obtain ⟨m0, e0, _, w0⟩ := DataW.trod_int u0 x0
          obtain ⟨m1, e1, _, w1⟩ := DataW.trod_int u1 x1
          obtain ⟨b2, e2, _⟩ := DataW.trod_bool u2 x2
          simp at e0 e1 e2
          subst e0 e1 e2
          have b0 := bounds_u64 w0
          have b1 := bounds_u64 w1
          obtain ⟨X, rfl⟩ := Int.eq_ofNat_of_zero_le b0.1
          obtain ⟨Y, rfl⟩ := Int.eq_ofNat_of_zero_le b1.1
          have k0 := hcc 0 (by omega)
          have k1 := hcc 1 (by omega)
          have k2 := hcc 2 (by omega)
          rw [addr_add2] at k0 k1 k2
          exact ⟨(X, Y, b2), by simp; omega, by simp; omega, by simpa using k0, by simpa using k1, by simpa using k2⟩
    obtain ⟨ts, g1, g2⟩ := list_of _ n0 each
    refine ⟨some a, n0, k0, ts, rfl, g1, hl, hm, fun q hq => ?_, fun h0 => ⟨a, rfl, ?_, fun k q hq => ?_⟩⟩
    · obtain ⟨i, hi⟩ := List.getElem?_of_mem hq
      have := g2 i q hi
      exact ⟨this.1, this.2.1⟩
    · obtain ⟨q, hq⟩ := each 0 h0
      have := cell_in hq.2.2.1
      rw [block_of_add] at this
      exact this
    · have := g2 k q hq
      exact ⟨this.2.2.1, this.2.2.2.1, this.2.2.2.2⟩
end Go.Proofs.Ytfbjeifhpmdjaaa

/-
  Plain: what Div answers; / where an operand is no number or nought. Conditions: those that each theorem names.
-/
set_option linter.unusedVariables false
set_option linter.unusedSimpArgs false
namespace Go.Proofs.Ytfbjeifhpmdjaaa.Rn
open Nm

/-- What Div answers. -/
def divR (d : Int) (x y : Nat) : Nat :=
  if isNaN x || isNaN y || (isInf x && isInf y) || (decide (mg x = 0) && decide (mg y = 0)) then NaNc
  else if mg y = 0 then infP (sg x && decide (mg x ≠ 0))
  else if isInf x then infP (sg x != sg y)
  else if isInf y then 0
  else rnd d (sg x != sg y) (zq (rv (mg x) * K75) (rv (mg y)))

/-- The document's quotient. -/
theorem quo_ref (d : Int) (x y : Nat) (hy : mg y ≠ 0) {n m : Bool} (hn : n = (sg x && decide (mg x ≠ 0))) (hm : m = (sg y && decide (mg y ≠ 0))) :
    rnd d ((n != m) && decide (fbN x * fbD y ≠ 0)) (zr (fracN (fbN x * fbD y) (fbD x * fbN y) 0) (fracD (fbN x * fbD y) (fbD x * fbN y) 0)) = rnd d (sg x != sg y) (zq (rv (mg x) * K75) (rv (mg y))) := by
  have hNy : fbN y ≠ 0 := fun h => hy ((fbN_zero y).1 h)
  have hp : fbD x * fbN y ≠ 0 := by
    have := Nat.mul_pos (fbD_pos x) (show 0 < fbN y by omega)
    omega
  have hry : 0 < rv (mg y) := by
    rcases Nat.eq_zero_or_pos (rv (mg y)) with h | h
    · exact absurd (rv_eq_zero.1 h) hy
    · exact h
  have h1 := frac_val (n := fbN x * fbD y) (d := fbD x * fbN y) (e := 0) (p := 0) (q := 0) rfl
  rw [Nat.pow_zero, Nat.mul_one, Nat.mul_one] at h1
  have h2 := fb_val x
  have h3 := fb_val y
  have hz : zr (fracN (fbN x * fbD y) (fbD x * fbN y) 0) (fracD (fbN x * fbD y) (fbD x * fbN y) 0) = zq (rv (mg x) * K75) (rv (mg y)) := by
    have e1 : zq (rv (mg x) * K75) (rv (mg y)) = zr (rv (mg x)) (rv (mg y)) := rfl
    rw [e1]
    have e2 : zr (fracN (fbN x * fbD y) (fbD x * fbN y) 0) (fracD (fbN x * fbD y) (fbD x * fbN y) 0) = zr (fbN x * fbD y) (fbD x * fbN y) := zr_congr (fracD_pos _ hp) (by omega) h1
    rw [e2]
    refine zr_congr (by omega) hry ?_
    have hK := K74_pos
    have hD := fbD_pos y
    refine Nat.eq_of_mul_eq_mul_right (Nat.mul_pos hK hD) ?_
    have a1 : fbN x * fbD y * rv (mg y) * (K74 * fbD y) = (fbN x * K74) * (rv (mg y) * fbD y) * fbD y := by
      simp only [Nat.mul_assoc, Nat.mul_comm, Nat.mul_left_comm]
    have a2 : rv (mg x) * (fbD x * fbN y) * (K74 * fbD y) = (rv (mg x) * fbD x) * (fbN y * K74) * fbD y := by
      simp only [Nat.mul_assoc, Nat.mul_comm, Nat.mul_left_comm]
    rw [a1, a2, h2, h3]
  rw [hz]
  by_cases hx : mg x = 0
  · rw [hx, rv_zero, Nat.zero_mul]
    have : zq 0 (rv (mg y)) = 0 := by simp [zq]
    rw [this, rnd_zero, rnd_zero]
  · have hNx : fbN x ≠ 0 := fun h => hx ((fbN_zero x).1 h)
    have hpos := Nat.mul_pos (show 0 < fbN x by omega) (fbD_pos y)
    rw [hn, hm, decide_eq_true hx, decide_eq_true hy, decide_eq_true (show fbN x * fbD y ≠ 0 by omega), Bool.and_true, Bool.and_true, Bool.and_true]
end Go.Proofs.Ytfbjeifhpmdjaaa.Rn

/-
  Plain: / where an operand is no number, or the second one nought. Conditions: those that each theorem names.
-/
set_option linter.unusedVariables false
set_option linter.unusedSimpArgs false
namespace Go.Proofs.Ytfbjeifhpmdjaaa.Rn
open Nm

theorem pl_zero {y : Nat} (h : mg y = 0) (hy : y < 18446744073709551616) : pl y = 0 := by
  unfold pl
  unfold mg at h
  by_cases h0 : y = 9223372036854775808
  · rw [if_pos h0]
  · rw [if_neg h0]; omega
theorem pl_same {y : Nat} (h : mg y ≠ 0) : pl y = y := by
  unfold pl
  by_cases h0 : y = 9223372036854775808
  · exact absurd (by rw [h0]; rfl) h
  · rw [if_neg h0]
theorem mg_pl (y : Nat) (hy : y < 18446744073709551616) : mg (pl y) = mg y := by
  by_cases h : mg y = 0
  · rw [pl_zero h hy, h]; rfl
  · rw [pl_same h]
theorem write_zero (s : Bool) : Ieee.double.write (.number s 0 0) = if s then 9223372036854775808 else 0 := by cases s <;> rfl

/-- A quotient with an operand that is no number, or by nought. -/
theorem div_odd {x y : Nat} (hx : x < 18446744073709551616) (hy : y < 18446744073709551616) (h : (isNaN x || isInf x || (isNaN y || isInf y) || decide (mg y = 0)) = true) :
    (Ieee.double.div x (pl y) = none ∧ ∀ d, divR d x y = NaNc) ∨ ∃ s, Ieee.double.div x (pl y) = some s ∧ s < 18446744073709551616 ∧ isNaN s = false ∧ ∀ d, divR d x y = pl s := by
  have hinf : ∀ s, infP s < 18446744073709551616 ∧ isNaN (infP s) = false ∧ pl (infP s) = infP s := by intro s; cases s <;> exact ⟨by decide, rfl, rfl⟩
  have z : ∀ {b m : Nat} {e : Int}, m * 2 ^ (e + 1074).toNat = rv (mg b) → (m = 0 ↔ mg b = 0) := by
    intro b m e h
    constructor
    · intro hm; rw [hm, Nat.zero_mul] at h; exact rv_eq_zero.1 h.symm
    · intro hm; rw [hm, rv_zero] at h; rcases Nat.mul_eq_zero.1 h with h2 | h2; exact h2; have := two_pow_pos (e + 1074).toNat; omega
  have hIz : ¬ infR = 0 := by rw [infR_val]; omega
  unfold divR Ieee.Format.div
  rcases kind x with ⟨n1, i1, k1⟩ | ⟨n1, i1, k1⟩ | ⟨n1, i1, k1⟩
  · left
    rw [read_nan hx k1, n1]
    exact ⟨rfl, fun d => rfl⟩
  · have hx0 : mg x ≠ 0 := by rw [k1]; exact hIz
    rcases kind y with ⟨n2, i2, k2⟩ | ⟨n2, i2, k2⟩ | ⟨n2, i2, k2⟩
    · left
      have hy0 : mg y ≠ 0 := by omega
      rw [pl_same hy0, read_nan hy k2, read_inf hx k1, n2, n1]
      exact ⟨rfl, fun d => rfl⟩
    · left
      have hy0 : mg y ≠ 0 := by rw [k2]; exact hIz
      rw [pl_same hy0, read_inf hy k2, read_inf hx k1, n1, n2, i1, i2]
      exact ⟨rfl, fun d => rfl⟩
    · right
      rw [n1, n2, i1, i2, decide_eq_false hx0]
      simp only [Bool.false_or, Bool.and_false, Bool.false_and, Bool.or_false, Bool.false_eq_true, if_false, if_true]
      by_cases h0 : mg y = 0
      · rw [pl_zero h0 hy, read_inf hx k1]
        obtain ⟨m, e, hr, -, hv⟩ := read_fin (b := 0) (by omega) (by rw [show mg 0 = 0 from rfl, infR_val]; omega)
        rw [hr]
        refine ⟨infP (sg x), ?_, (hinf _).1, (hinf _).2.1, fun d => ?_⟩
        · show some (Ieee.double.write (.infinity (sg x ^^ sg 0))) = _
          rw [show sg 0 = false from rfl, Bool.xor_false, write_inf]
        · rw [if_pos h0, decide_eq_true hx0, Bool.and_true, (hinf _).2.2]
      · rw [pl_same h0, read_inf hx k1]
        obtain ⟨m, e, hr, -, hv⟩ := read_fin hy k2
        rw [hr]
        refine ⟨infP (sg x ^^ sg y), ?_, (hinf _).1, (hinf _).2.1, fun d => ?_⟩
        · show some (Ieee.double.write (.infinity (sg x ^^ sg y))) = _
          rw [write_inf]
        · rw [if_neg h0, (hinf _).2.2]
  · rcases kind y with ⟨n2, i2, k2⟩ | ⟨n2, i2, k2⟩ | ⟨n2, i2, k2⟩
    · left
      have hy0 : mg y ≠ 0 := by omega
      obtain ⟨m, e, hr, -, hv⟩ := read_fin hx k1
      rw [pl_same hy0, read_nan hy k2, hr, n2, n1]
      exact ⟨rfl, fun d => rfl⟩
    · right
      have hy0 : mg y ≠ 0 := by rw [k2]; exact hIz
      obtain ⟨m, e, hr, -, hv⟩ := read_fin hx k1
      rw [pl_same hy0, read_inf hy k2, hr, n2, n1, i1, i2, decide_eq_false hy0]
      simp only [Bool.false_or, Bool.and_false, Bool.false_and, Bool.or_false, Bool.false_eq_true, if_false, if_true]
      refine ⟨if (sg x ^^ sg y) then 9223372036854775808 else 0, ?_, ?_, ?_, fun d => ?_⟩
      · show some (Ieee.double.write (.number (sg x ^^ sg y) 0 0)) = _
        rw [write_zero]
      · cases (sg x ^^ sg y) <;> decide
      · cases (sg x ^^ sg y) <;> rfl
      · rw [if_neg hy0]
        cases (sg x ^^ sg y) <;> rfl
    · rw [n1, n2, i1, i2] at h
      have h0 : mg y = 0 := by simpa using h
      obtain ⟨m, e, hr, -, hv⟩ := read_fin hx k1
      rw [pl_zero h0 hy, hr, n1, n2, i1, i2, h0]
      have hz : Ieee.double.read 0 = .number false 0 (-1074) := by
        obtain ⟨m', e', hr', he', hv'⟩ := read_fin (b := 0) (by omega) (by rw [show mg 0 = 0 from rfl, infR_val]; omega)
        rfl
      rw [hz]
      simp only [Bool.false_or, Bool.and_false, Bool.false_and, Bool.or_false, Bool.false_eq_true, if_false, if_true, decide_true, Bool.and_true]
      by_cases hx0 : mg x = 0
      · left
        have hm := (z hv).2 hx0
        subst hm
        refine ⟨rfl, fun d => ?_⟩
        rw [if_pos (by simpa using hx0)]
      · right
        have hm : m ≠ 0 := fun h => hx0 ((z hv).1 h)
        refine ⟨infP (sg x), ?_, (hinf _).1, (hinf _).2.1, fun d => ?_⟩
        · show Option.map _ (if m = 0 then none else some (Ieee.Datum.infinity (sg x ^^ false))) = _
          rw [if_neg hm, Bool.xor_false]
          show some (Ieee.double.write _) = _
          rw [write_inf]
        · rw [if_neg (by simpa using hx0), decide_eq_true hx0, Bool.and_true, (hinf _).2.2]
end Go.Proofs.Ytfbjeifhpmdjaaa.Rn

/-
  Plain: what is answered of the negatives, in the other direction; what does not hang on the order. Conditions: those that each theorem names.
-/
set_option linter.unusedVariables false
set_option linter.unusedSimpArgs false
namespace Go.Proofs.Ytfbjeifhpmdjaaa.Rn
open Nm

/-- The negative of a pattern that was answered. -/
def mirP (b : Nat) : Nat := if b = 0 ∨ b = NaNc then b else ng b
theorem mirP_pat {neg : Bool} {r : Nat} (h : r ≤ infR) : mirP (pat (!neg) r) = pat neg r := by
  rw [infR_val] at h
  unfold mirP pat NaNc ng
  by_cases h0 : r = 0
  · rw [if_pos h0, if_pos h0, if_pos (.inl rfl)]
  · rw [if_neg h0, if_neg h0]
    have hs : sg (9223372036854775808 + r) = true := by unfold sg; exact decide_eq_true (by omega)
    have hs2 : sg r = false := by unfold sg; exact decide_eq_false (by omega)
    cases neg
    · simp only [Bool.not_false, if_true, Bool.false_eq_true, if_false]
      rw [if_neg (by omega), hs]
      simp only [if_true]; omega
    · simp only [Bool.not_true, if_true, Bool.false_eq_true, if_false]
      rw [if_neg (by omega), hs2]
      simp only [Bool.false_eq_true, if_false]; omega
theorem rr_mir (d : Int) (neg : Bool) (Z : Nat) (hd : d = -1 ∨ d = 0 ∨ d = 1) : rr (-d) (!neg) Z = rr d neg Z := by
  unfold rr away
  rcases hd with rfl | rfl | rfl <;> cases neg <;> simp
theorem rnd_mir (d : Int) (neg : Bool) (Z : Nat) (hd : d = -1 ∨ d = 0 ∨ d = 1) : mirP (rnd (-d) (!neg) Z) = rnd d neg Z := by
  unfold rnd
  rw [rr_mir d neg Z hd]
  exact mirP_pat (rr_le d neg Z)
theorem mirP_zero : mirP 0 = 0 := rfl
theorem mirP_nan : mirP NaNc = NaNc := rfl
theorem mirP_inf (s : Bool) : mirP (infP (!s)) = infP s := by cases s <;> decide
theorem ng_infP (s : Bool) : ng (infP s) = infP (!s) := by cases s <;> decide
theorem rT_mir (d T : Int) (hd : d = -1 ∨ d = 0 ∨ d = 1) : mirP (rT (-d) (-T)) = rT d T := by
  by_cases h : T = 0
  · rw [h, Int.neg_zero, rT_zero, rT_zero, mirP_zero]
  · unfold rT
    rw [Int.natAbs_neg]
    have e : decide (-T < 0) = !decide (T < 0) := by
      rcases Int.lt_trichotomy T 0 with c | c | c
      · rw [decide_eq_false (by omega), decide_eq_true c]; rfl
      · exact absurd c h
      · rw [decide_eq_true (by omega), decide_eq_false (by omega)]; rfl
    rw [e, rnd_mir _ _ _ hd]
theorem nan_ng {x : Nat} (h : x < 18446744073709551616) : isNaN (ng x) = isNaN x := by unfold isNaN; rw [mg_ng h]
theorem inf_ng {x : Nat} (h : x < 18446744073709551616) : isInf (ng x) = isInf x := by unfold isInf; rw [mg_ng h]
theorem sg_ng_ {x : Nat} (h : x < 18446744073709551616) : sg (ng x) = !sg x := sg_ng h
theorem ng_of1 {x : Nat} (h : sg x = true) : ng x = x - 9223372036854775808 := by unfold ng; rw [h]; exact if_pos rfl
theorem ng_of0 {x : Nat} (h : sg x = false) : ng x = x + 9223372036854775808 := by unfold ng; rw [h]; exact if_neg (by decide)
theorem ng_ng_ {x : Nat} (h : x < 18446744073709551616) : ng (ng x) = x := by
  have e := sg_ng h
  have hx : sg x = decide (9223372036854775808 ≤ x) := rfl
  cases hs : sg x
  · rw [hs] at e
    rw [ng_of1 e, ng_of0 hs]; omega
  · rw [hs] at e hx
    have := of_decide_eq_true hx.symm
    rw [ng_of0 e, ng_of1 hs]; omega
theorem ng_ne {x y : Nat} (hx : x < 18446744073709551616) (hy : y < 18446744073709551616) : (ng x ≠ ng y) ↔ (x ≠ y) := by
  constructor
  · intro h e; exact h (by rw [e])
  · intro h e; exact h (by rw [← ng_ng_ hx, e, ng_ng_ hy])
theorem mirP_ng {x : Nat} (hx : x < 18446744073709551616) (hi : isInf x = true) : mirP (ng x) = x := by
  have h := (isInf_iff x).1 hi
  have h2 := mg_ng hx
  have h3 : ng x ≠ 0 := by intro e; rw [e] at h2; rw [← h2, infR_val] at h; exact absurd h (by decide)
  have h4 : ng x ≠ NaNc := by intro e; rw [e] at h2; rw [← h2, infR_val] at h; exact absurd h (by decide)
  unfold mirP
  rw [if_neg (by intro c; rcases c with c | c; exact h3 c; exact h4 c), ng_ng_ hx]
theorem add_mir (d : Int) {x y : Nat} (hx : x < 18446744073709551616) (hy : y < 18446744073709551616) (hd : d = -1 ∨ d = 0 ∨ d = 1) : mirP (addR (-d) (ng x) (ng y)) = addR d x y := by
  unfold addR
  rw [nan_ng hx, nan_ng hy, inf_ng hx, inf_ng hy, decide_eq_decide.2 (ng_ne hx hy), sv_ng hx, sv_ng hy]
  cases h1 : (isNaN x || isNaN y)
  · cases h2 : (isInf x && isInf y && decide (x ≠ y))
    · cases h3 : isInf x
      · cases h4 : isInf y
        · simp only [Bool.false_eq_true, if_false]
          rw [← Int.neg_add, Int.neg_mul]
          exact rT_mir _ _ hd
        · simp only [Bool.false_eq_true, if_false, if_true]
          exact mirP_ng hy h4
      · simp only [Bool.false_eq_true, if_false, if_true]
        exact mirP_ng hx h3
    · simp only [Bool.false_eq_true, if_false, if_true]; rfl
  · simp only [if_true]; rfl
theorem mul_mir (d : Int) {x y : Nat} (hx : x < 18446744073709551616) (hd : d = -1 ∨ d = 0 ∨ d = 1) : mirP (mulR (-d) (ng x) y) = mulR d x y := by
  unfold mulR
  rw [nan_ng hx, inf_ng hx, sv_ng hx, mg_ng hx, sg_ng_ hx]
  cases h1 : (isNaN x || isNaN y)
  · cases h2 : (isInf x || isInf y)
    · simp only [Bool.false_eq_true, if_false]
      rw [Int.neg_mul]
      exact rT_mir _ _ hd
    · simp only [Bool.false_eq_true, if_false, if_true]
      by_cases h3 : mg x = 0 ∨ mg y = 0
      · rw [if_pos h3, if_pos h3]; rfl
      · rw [if_neg h3, if_neg h3, show ((!sg x) != sg y) = !(sg x != sg y) by cases sg x <;> cases sg y <;> rfl]
        exact mirP_inf _
  · simp only [if_true]; rfl
theorem div_mir (d : Int) {x y : Nat} (hx : x < 18446744073709551616) (hd : d = -1 ∨ d = 0 ∨ d = 1) : mirP (divR (-d) (ng x) y) = divR d x y := by
  unfold divR
  rw [nan_ng hx, inf_ng hx, mg_ng hx, sg_ng_ hx]
  have e : ((!sg x) != sg y) = !(sg x != sg y) := by cases sg x <;> cases sg y <;> rfl
  rw [e]
  cases h1 : (isNaN x || isNaN y || (isInf x && isInf y) || (decide (mg x = 0) && decide (mg y = 0)))
  · simp only [Bool.false_eq_true, if_false]
    by_cases h2 : mg y = 0
    · rw [if_pos h2, if_pos h2]
      have h3 : mg x ≠ 0 := by
        intro h3
        rw [h2, h3] at h1
        simp at h1
      rw [decide_eq_true h3, Bool.and_true, Bool.and_true]
      exact mirP_inf _
    · rw [if_neg h2, if_neg h2]
      cases h3 : isInf x
      · simp only [Bool.false_eq_true, if_false]
        cases h4 : isInf y
        · simp only [Bool.false_eq_true, if_false]
          exact rnd_mir _ _ _ hd
        · simp only [if_true]; rfl
      · simp only [if_true]
        exact mirP_inf _
  · simp only [if_true]; rfl
theorem odd_ng {x : Nat} (h : x < 18446744073709551616) : oddP (ng x) = oddP x := by unfold oddP; rw [nan_ng h, inf_ng h]
theorem cn_mir {z : Nat} (hz : z < 18446744073709551616) (h : oddP z = true) : mirP (cn (ng z)) = cn z := by
  unfold cn
  rw [nan_ng hz]
  unfold oddP at h
  cases h1 : isNaN z
  · rw [h1, Bool.false_or] at h
    simp only [Bool.false_eq_true, if_false]
    exact mirP_ng hz h
  · simp only [if_true]; rfl
theorem infP_lt_ (s : Bool) : infP s < 18446744073709551616 := by cases s <;> decide
theorem fma_mir (d : Int) {x y z : Nat} (hx : x < 18446744073709551616) (hy : y < 18446744073709551616) (hz : z < 18446744073709551616) (hd : d = -1 ∨ d = 0 ∨ d = 1) : mirP (fmaR (-d) (ng x) y (ng z)) = fmaR d x y z := by
  have hM := mul_mir d (y := y) hx hd
  unfold fmaR
  rw [odd_ng hx, odd_ng hz]
  cases ho : (oddP x || oddP y)
  · simp only [Bool.false_eq_true, if_false]
    cases h2 : oddP z
    · simp only [Bool.false_eq_true, if_false]
      rw [sv_ng hx, sv_ng hz, Int.neg_mul, Int.neg_mul, ← Int.neg_add]
      exact rT_mir _ _ hd
    · simp only [if_true]
      exact cn_mir hz h2
  · simp only [if_true]
    have ho2 : (isNaN (ng x) || isInf (ng x) || (isNaN y || isInf y)) = true := by
      rw [nan_ng hx, inf_ng hx]; exact ho
    rcases mul_odd (ng_lt hx) hy ho2 with ⟨_, h1⟩ | ⟨s, _, h1⟩
    · rw [h1 (-d)] at hM ⊢
      rw [← hM, mirP_nan, addR_nan _ NaNc_nan, addR_nan _ NaNc_nan]; rfl
    · rw [h1 (-d)] at hM ⊢
      have e : infP s = ng (infP (!s)) := by rw [ng_infP, Bool.not_not]
      have e2 : mirP (infP s) = infP (!s) := by have := mirP_inf (!s); rw [Bool.not_not] at this; exact this
      rw [← hM, e2, e]
      exact add_mir d (infP_lt_ _) hz hd
theorem addR_comm (d : Int) (x y : Nat) : addR d x y = addR d y x := by
  unfold addR
  rw [Bool.or_comm (isNaN x), Bool.and_comm (isInf x), Int.add_comm (sv x), show decide (x ≠ y) = decide (y ≠ x) from decide_eq_decide.2 ⟨Ne.symm, Ne.symm⟩]
  cases h1 : (isNaN y || isNaN x)
  · cases h3 : isInf x <;> cases h4 : isInf y
    · simp
    · simp
    · simp
    · by_cases e : y = x
      · subst e; simp
      · simp [e]
  · simp
theorem mulR_comm (d : Int) (x y : Nat) : mulR d x y = mulR d y x := by
  unfold mulR
  rw [Bool.or_comm (isNaN x), Bool.or_comm (isInf x), Int.mul_comm (sv x), show (sg x != sg y) = (sg y != sg x) by cases sg x <;> cases sg y <;> rfl]
  have e : (if mg x = 0 ∨ mg y = 0 then NaNc else infP (sg y != sg x)) = (if mg y = 0 ∨ mg x = 0 then NaNc else infP (sg y != sg x)) := by
    by_cases h : mg x = 0 ∨ mg y = 0
    · rw [if_pos h, if_pos (Or.symm h)]
    · rw [if_neg h, if_neg (fun k => h (Or.symm k))]
  rw [e]
theorem fmaR_comm (d : Int) (x y z : Nat) : fmaR d x y z = fmaR d y x z := by
  unfold fmaR
  rw [Bool.or_comm (oddP x), mulR_comm d x y, Int.mul_comm (sv x)]
/-- What asked answers. -/
def askR (k : Nat) (d : Int) (x y z : Nat) : Nat := if k = 0 then addR d x y else if k = 1 then addR d x (ng y) else if k = 2 then mulR d x y else if k = 3 then divR d x y else fmaR d x y z
theorem ask_mir1 {k : Nat} {d : Int} {x y z : Nat} (hk : k < 2) (hx : x < 18446744073709551616) (hy : y < 18446744073709551616) (hd : d = -1 ∨ d = 0 ∨ d = 1) : mirP (askR k (-d) (ng x) (ng y) z) = askR k d x y z := by
  unfold askR
  have : k = 0 ∨ k = 1 := by omega
  rcases this with rfl | rfl
  · simp only [if_true]; exact add_mir d hx hy hd
  · simp only [show ¬ (1 = 0) by omega, if_false, if_true]; exact add_mir d hx (ng_lt hy) hd
theorem ask_mir2 {k : Nat} {d : Int} {x y z : Nat} (hk : 2 ≤ k) (hx : x < 18446744073709551616) (hy : y < 18446744073709551616) (hz : z < 18446744073709551616) (hd : d = -1 ∨ d = 0 ∨ d = 1) : mirP (askR k (-d) (ng x) y (ng z)) = askR k d x y z := by
  unfold askR
  simp only [show ¬ k = 0 by omega, show ¬ k = 1 by omega, if_false]
  by_cases h2 : k = 2
  · simp only [h2, if_true]; exact mul_mir d hx hd
  · simp only [h2, if_false]
    by_cases h3 : k = 3
    · simp only [h3, if_true]; exact div_mir d hx hd
    · simp only [h3, if_false]; exact fma_mir d hx hy hz hd
end Go.Proofs.Ytfbjeifhpmdjaaa.Rn

/-
  Plain: terms that are taken, and their negatives behind them. Conditions: those that each theorem names.
-/
namespace Go.Proofs.Ytfbjeifhpmdjaaa
open Nm Rn
set_option linter.unusedVariables false
set_option linter.unusedSimpArgs false

abbrev Tm := Nat × Nat × Bool
/-- A term as one of numbers, taken; its negative, taken. -/
def tkN (S : Sm) (q : Tm) : Sm := S.take (numP q.1) (numP q.2.1) q.2.2
def tkM (S : Sm) (q : Tm) : Sm := S.take (ng (numP q.1)) (numP q.2.1) q.2.2
def tval (q : Tm) : Int := if q.2.2 then sv (numP q.1) * sv (numP q.2.1) else sv (numP q.1) * (K74 : Int)
theorem tkN_eq (S : Sm) (q : Tm) : tkN S q = (S.more 1).lay (tval q) := by
  unfold tkN tval Sm.take
  split
  · exact mul_fin (numP_fin _) (numP_fin _)
  · exact add_fin (numP_fin _)
theorem tkM_eq (S : Sm) (q : Tm) (h : q.1 < 18446744073709551616) : tkM S q = (S.more 1).lay (-tval q) := by
  have h1 := numP_lt h
  have hf : mg (ng (numP q.1)) < infR := by rw [mg_ng h1]; exact numP_fin _
  unfold tkM tval Sm.take
  split
  · rw [mul_fin hf (numP_fin _), sv_ng h1, Int.neg_mul]
  · rw [add_fin hf, sv_ng h1, Int.neg_mul]
/-- A fold of terms that are laid. -/
theorem fold_lay {f : Sm → Tm → Sm} {v : Tm → Int} : ∀ (l : List Tm) (S : Sm), (∀ S, ∀ q ∈ l, f S q = (S.more 1).lay (v q)) → S.p = false → S.m = false → S.n = false → S.t + l.length ≤ 4611686018427387904 →
    (l.foldl f S).T = S.T + (l.map v).sum ∧ (l.foldl f S).p = false ∧ (l.foldl f S).m = false ∧ (l.foldl f S).n = false ∧ (l.foldl f S).t = S.t + l.length
  | [], S, _, h1, h2, h3, h4 => ⟨by simp, h1, h2, h3, rfl⟩
  | q :: l, S, hf, h1, h2, h3, h4 => by
    rw [List.length_cons] at h4
    have hn : cntN S.n S.t 1 = false := by unfold cntN; rw [h3, decide_eq_false (by omega)]; rfl
    have ht : cnt S.t 1 = S.t + 1 := by unfold cnt; rw [if_neg (by omega)]
    obtain ⟨g1, g2, g3, g4, g5⟩ := fold_lay l (f S q) (fun S r hr => hf S r (by simp [hr])) (by rw [hf S q (by simp)]; exact h1) (by rw [hf S q (by simp)]; exact h2) (by rw [hf S q (by simp)]; exact hn) (by rw [hf S q (by simp)]; show cnt S.t 1 + _ ≤ _; rw [ht]; omega)
    rw [List.foldl_cons]
    refine ⟨?_, g2, g3, g4, ?_⟩
    · rw [g1, hf S q (by simp), List.map_cons, List.sum_cons]
      show S.T + v q + _ = _
      omega
    · rw [g5, hf S q (by simp), List.length_cons]
      show cnt S.t 1 + _ = _
      rw [ht]; omega
theorem sum_neg : ∀ (l : List Tm) (v : Tm → Int), (l.map fun q => -v q).sum = -(l.map v).sum
  | [], _ => rfl
  | q :: l, v => by rw [List.map_cons, List.sum_cons, sum_neg l v, List.map_cons, List.sum_cons]; omega
/-- The sum with so many terms; with their negatives behind them. -/
def cnA (N : Nat) (ts : List Tm) (i : Nat) : Sm := (ts.take i).foldl tkN (Sm.nil.add N)
def cnB (N : Nat) (ts : List Tm) (K i : Nat) : Sm := (ts.take i).foldl tkM (cnA N ts K)
theorem fold_next {f : Sm → Tm → Sm} {S : Sm} {ts : List Tm} {i : Nat} {q : Tm} (h : ts[i]? = some q) : (ts.take (i + 1)).foldl f S = f ((ts.take i).foldl f S) q := by
  obtain ⟨h1, h2⟩ := List.getElem?_eq_some_iff.1 h
  rw [List.take_succ_eq_append_getElem h1, List.foldl_append, h2]; rfl
theorem fold_ok {f : Sm → Tm → Sm} (hf : ∀ S q, S.Ok → q.1 < 18446744073709551616 ∧ q.2.1 < 18446744073709551616 → (f S q).Ok) : ∀ (l : List Tm) (S : Sm), S.Ok → (∀ q ∈ l, q.1 < 18446744073709551616 ∧ q.2.1 < 18446744073709551616) → (l.foldl f S).Ok
  | [], S, h, _ => h
  | q :: l, S, h, hl => fold_ok hf l _ (hf S q h (hl q (by simp))) (fun r hr => hl r (by simp [hr]))
theorem tkN_ok {S : Sm} {q : Tm} (h : S.Ok) (g : q.1 < 18446744073709551616 ∧ q.2.1 < 18446744073709551616) : (tkN S q).Ok := h.take (numP_lt g.1) (numP_lt g.2)
theorem tkM_ok {S : Sm} {q : Tm} (h : S.Ok) (g : q.1 < 18446744073709551616 ∧ q.2.1 < 18446744073709551616) : (tkM S q).Ok := h.take (ng_lt (numP_lt g.1)) (numP_lt g.2)
section
variable {N K : Nat} {ts : List Tm} (hN : N < 18446744073709551616) (hf : mg N < infR) (ht : ∀ q ∈ ts, q.1 < 18446744073709551616 ∧ q.2.1 < 18446744073709551616)
include hN ht in
theorem cnA_ok (i : Nat) : (cnA N ts i).Ok := fold_ok (fun S q => tkN_ok) _ _ (Sm.Ok.nil.add hN) (fun q hq => ht q (List.mem_of_mem_take hq))
include hN ht in
theorem cnB_ok (i : Nat) : (cnB N ts K i).Ok := fold_ok (fun S q => tkM_ok) _ _ (cnA_ok hN ht K) (fun q hq => ht q (List.mem_of_mem_take hq))
include hf in
theorem cnA_val (hK : K ≤ 3000) : (cnA N ts K).T = sv N * (K74 : Int) + ((ts.take K).map tval).sum ∧ (cnA N ts K).p = false ∧ (cnA N ts K).m = false ∧ (cnA N ts K).n = false ∧ (cnA N ts K).t = 1 + (ts.take K).length := by
  have hl : (ts.take K).length ≤ 3000 := by rw [List.length_take]; omega
  have e := add_fin (S := Sm.nil) hf
  obtain ⟨g1, g2, g3, g4, g5⟩ := fold_lay (f := tkN) (v := tval) (ts.take K) (Sm.nil.add N) (fun S q _ => tkN_eq S q) (by rw [e]; rfl) (by rw [e]; rfl) (by rw [e]; rfl) (by rw [e]; show 1 + _ ≤ _; omega)
  refine ⟨?_, g2, g3, g4, by rw [show cnA N ts K = (ts.take K).foldl tkN (Sm.nil.add N) from rfl, g5, e]; rfl⟩
  rw [show cnA N ts K = (ts.take K).foldl tkN (Sm.nil.add N) from rfl, g1, e]
  show 0 + _ + _ = _
  omega
include hf in
theorem cnA_state (hK : K ≤ 3000) : (cnA N ts K).state = 0 := by
  obtain ⟨_, h2, h3, h4, _⟩ := cnA_val (ts := ts) hf hK
  unfold Sm.state
  rw [h2, h3, h4]; rfl
include hf ht in
theorem cnB_end (hK : K ≤ 3000) : (cnB N ts K K).T = sv N * (K74 : Int) ∧ (cnB N ts K K).state = 0 := by
  have hl : (ts.take K).length ≤ 3000 := by rw [List.length_take]; omega
  obtain ⟨h1, h2, h3, h4, h5⟩ := cnA_val (ts := ts) hf hK
  obtain ⟨g1, g2, g3, g4, g5⟩ := fold_lay (f := tkM) (v := fun q => -tval q) (ts.take K) (cnA N ts K) (fun S q hq => tkM_eq S q (ht q (List.mem_of_mem_take hq)).1) h2 h3 h4 (by rw [h5]; omega)
  constructor
  · rw [show cnB N ts K K = (ts.take K).foldl tkM (cnA N ts K) from rfl, g1, h1, sum_neg]
    omega
  · unfold Sm.state
    rw [show cnB N ts K K = (ts.take K).foldl tkM (cnA N ts K) from rfl, g2, g3, g4]; rfl
end
/-- What is answered of a finite sum is no NaN and no -0. -/
theorem rT_kind (d T : Int) : isNaN (rT d T) = false ∧ rT d T ≠ 9223372036854775808 ∧ rT d T < 18446744073709551616 ∧ cn (rT d T) = rT d T := by
  unfold rT rnd
  have h := rr_le d (decide (T < 0)) (zq T.natAbs (2 ^ 1073))
  generalize rr d (decide (T < 0)) (zq T.natAbs (2 ^ 1073)) = r at h ⊢
  rw [infR_val] at h
  have hm : isNaN (pat (decide (T < 0)) r) = false := by
    unfold isNaN mg pat
    rw [infR_val]
    refine decide_eq_false ?_
    split
    · omega
    · split <;> omega
  refine ⟨hm, ?_, ?_, cn_num hm⟩
  · unfold pat
    split
    · omega
    · split <;> omega
  · unfold pat
    split
    · omega
    · split <;> omega
/-- The two answers are each other's negatives. -/
theorem mir_eq (d T : Int) (hd : d = -1 ∨ d = 0 ∨ d = 1) : eqB (rT d T) (ng (rT (-d) (-T))) = true := by
  have h := rT_mir d T hd
  obtain ⟨n1, n2, n3, _⟩ := rT_kind d T
  obtain ⟨m1, m2, m3, _⟩ := rT_kind (-d) (-T)
  generalize rT d T = a at *
  generalize rT (-d) (-T) = b at *
  unfold mirP at h
  by_cases h0 : b = 0
  · rw [if_pos (.inl h0)] at h
    rw [← h, h0]
    decide
  · have hb : b ≠ NaNc := by
      intro e
      rw [e, NaNc_nan] at m1
      cases m1
    rw [if_neg (by simp [h0, hb])] at h
    rw [h]
    unfold eqB
    rw [n1]
    simp
theorem sign_fin {S : Sm} (h : S.state = 0) : S.sign = if S.T < 0 then -1 else if S.T = 0 then 0 else 1 := by
  unfold Sm.sign
  rw [h]
  rfl
theorem sign_mir {S : Sm} (h : S.state = 0) : S.sign = -S.neg.sign := by
  have h2 : S.neg.state = 0 := by
    unfold Sm.state stt at h ⊢
    unfold Sm.neg
    revert h
    cases S.p <;> cases S.m <;> cases S.n <;> simp
  rw [sign_fin h, sign_fin h2]
  show _ = -(if -S.T < 0 then (-1 : Int) else if -S.T = 0 then 0 else 1)
  rcases Int.lt_trichotomy S.T 0 with c | c | c
  · rw [if_pos c, if_neg (by omega), if_neg (by omega)]
  · rw [if_neg (by omega), if_pos c, if_neg (by omega), if_pos (by omega)]; rfl
  · rw [if_neg (by omega), if_neg (by omega), if_pos (by omega)]; rfl
theorem neg_state {S : Sm} (h : S.state = 0) : S.neg.state = 0 := by
  unfold Sm.state stt at h ⊢
  unfold Sm.neg
  revert h
  cases S.p <;> cases S.m <;> cases S.n <;> simp
theorem round_fin {S : Sm} (h : S.state = 0) (d : Int) : S.round d = rT d S.T := by
  unfold Sm.round
  rw [h]; rfl
/-- One number, rounded. -/
theorem rT_num (d : Int) {N : Nat} (h : N < 18446744073709551616) (hf : mg N < infR) : rT d (sv N * (K74 : Int)) = pl N := by
  rw [← (DR.one N).rnd d]
  exact rnd_bits d h hf
theorem pl_num {N : Nat} (hf : mg N < infR) : plN N = pl N := by
  unfold plN pl
  rw [fin_nan hf]
  simp
theorem num_zero {N : Nat} (h : N < 18446744073709551616) (hf : mg N < infR) : sv N * (K74 : Int) = 0 ↔ pl N = 0 := by
  have hK := K74_pos
  have h1 : sv N * (K74 : Int) = 0 ↔ sv N = 0 := by
    constructor
    · intro h0
      rcases Int.mul_eq_zero.1 h0 with h0 | h0
      · exact h0
      · omega
    · intro h0; rw [h0, Int.zero_mul]
  have h2 : sv N = 0 ↔ mg N = 0 := by
    have h3 := @rv_eq_zero (mg N)
    unfold sv
    split <;> omega
  rw [h1, h2]
  unfold pl mg
  split <;> omega
end Go.Proofs.Ytfbjeifhpmdjaaa
