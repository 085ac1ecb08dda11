/-
  Plain: the document's ratio of a sum: a whole number of 2^-2148. Conditions: those that each theorem names.
-/
import Derived.Test.YtfbjeifhpmdjaaaGreatP06
import Derived.Test.YtfbjeifhpmdjaaaGreatRows
import Derived.Test.YtfbjeifhpmdjaaaGreatP01
import Derived.WalkKit
import Derived.WalkSpells
import Derived.WalkLawsBesides
import Derived.Below
import Derived.Laws.OwnMore
import Derived.Deep.AppendLies
import Derived.Deep.Draws
import Derived.Lib.Hide
namespace Go.Proofs.YtfbjeifhpmdjaaaGreat
open Nm Rn
set_option linter.unusedVariables false
set_option linter.unusedSimpArgs false

theorem odd_pow : ∀ (a t m : Nat), 2 ^ a = 2 ^ t * m → m % 2 = 1 → m = 1
  | 0, t, m, h, _ => by
    have h1 : 2 ^ t * m = 1 := by rw [← h]
    exact Nat.eq_one_of_mul_eq_one_left h1
  | a + 1, 0, m, h, ho => by
    rw [Nat.pow_zero, Nat.one_mul, Nat.pow_succ] at h
    omega
  | a + 1, t + 1, m, h, ho => by
    rw [Nat.pow_succ, Nat.pow_succ, Nat.mul_right_comm] at h
    exact odd_pow a t m (by omega) ho
theorem tz_two (a : Nat) : 2 ^ a / 2 ^ tz (2 ^ a) = 1 := by
  have hp := two_pow_pos a
  have h1 := tz_div (n := 2 ^ a)
  exact odd_pow a (tz (2 ^ a)) _ (by rw [Nat.mul_comm]; exact h1.symm) (tz_bit (by omega))

/-- A ratio of the document, in its form, is T / 2^2148. -/
def DR (T : Int) (neg : Bool) (N D : Nat) : Prop := sn neg N * ((K74 * K74 : Nat) : Int) = T * (D : Int) ∧ (∃ a, D = 2 ^ a ∧ (a = 0 ∨ N % 2 = 1)) ∧ (N = 0 → neg = false)
theorem DR.of {neg : Bool} {n a p q : Nat} {e T : Int} (hpq : (p : Int) - q = e) (h : sn neg n * ((2 ^ p : Nat) : Int) * ((K74 * K74 : Nat) : Int) = T * ((2 ^ a * 2 ^ q : Nat) : Int)) : DR T (neg && decide (n ≠ 0)) (fracN n (2 ^ a) e) (fracD n (2 ^ a) e) := by
  refine ⟨?_, ?_, ?_⟩
  · have h1 := sn_frac (neg := neg) (n := n) (d := 2 ^ a) hpq
    have hp : (0 : Int) < ((2 ^ a * 2 ^ q : Nat) : Int) := by have := Nat.mul_pos (two_pow_pos a) (two_pow_pos q); omega
    refine Int.eq_of_mul_eq_mul_right (Int.ne_of_gt hp) ?_
    rw [Int.mul_right_comm, h1, Int.natCast_mul (2 ^ p), ← Int.mul_assoc, Int.mul_right_comm, h, Int.mul_right_comm]
  · unfold fracD fracN
    by_cases hn : n = 0
    · rw [if_pos hn, if_pos hn]; exact ⟨0, rfl, .inl rfl⟩
    · rw [if_neg hn, if_neg hn, tz_two, Nat.one_mul]
      refine ⟨_, rfl, ?_⟩
      by_cases hx : (-(e + tz n - tz (2 ^ a))).toNat = 0
      · exact .inl hx
      · right
        rw [show (e + tz n - tz (2 ^ a)).toNat = 0 by omega, Nat.pow_zero, Nat.mul_one]
        exact tz_bit hn
  · intro h0
    rw [fracN_eq_zero.1 h0]
    simp
section
variable {T S : Int} {neg : Bool} {N D : Nat}
theorem DR.pos (h : DR T neg N D) : 0 < D := by obtain ⟨_, ⟨a, rfl, _⟩, _⟩ := h; exact two_pow_pos a
theorem DR.abs (h : DR T neg N D) : N * (K74 * K74) = T.natAbs * D := by
  have h1 := congrArg Int.natAbs h.1
  rwa [Int.natAbs_mul, Int.natAbs_mul, sn_abs, Int.natAbs_natCast, Int.natAbs_natCast] at h1
theorem DR.zero (h : DR T neg N D) : N = 0 ↔ T = 0 := by
  have h1 := h.abs
  have h2 := h.pos
  have h3 := Nat.mul_pos K74_pos K74_pos
  constructor
  · rintro rfl
    rw [Nat.zero_mul] at h1
    rcases Nat.mul_eq_zero.1 h1.symm with h4 | h4 <;> omega
  · rintro rfl
    rw [show Int.natAbs 0 = 0 from rfl, Nat.zero_mul] at h1
    rcases Nat.mul_eq_zero.1 h1 with h4 | h4 <;> omega
theorem DR.sign (h : DR T neg N D) : neg = decide (T < 0) := by
  by_cases hN : N = 0
  · rw [h.2.2 hN, h.zero.1 hN]; rfl
  · refine (sn_neg (neg := neg) hN).symm.trans ?_
    refine decide_eq_decide.2 ?_
    have h1 := h.1
    have h2 : (0 : Int) < (D : Int) := by have := h.pos; omega
    have h3 : (0 : Int) < ((K74 * K74 : Nat) : Int) := by have := Nat.mul_pos K74_pos K74_pos; omega
    constructor
    · intro hs
      have := Int.mul_neg_of_neg_of_pos hs h3
      rw [h1] at this
      rcases Int.lt_or_le T 0 with h4 | h4
      · exact h4
      · have := Int.mul_nonneg h4 (Int.le_of_lt h2); omega
    · intro hs
      have := Int.mul_neg_of_neg_of_pos hs h2
      rw [← h1] at this
      rcases Int.lt_or_le (sn neg N) 0 with h4 | h4
      · exact h4
      · have := Int.mul_nonneg h4 (Int.le_of_lt h3); omega
theorem DR.exp (h : DR T neg N D) : ∃ a, D = 2 ^ a ∧ a ≤ 2148 := by
  obtain ⟨_, ⟨a, rfl, ho⟩, _⟩ := id h
  refine ⟨a, rfl, ?_⟩
  rcases ho with rfl | ho
  · omega
  · refine Nat.le_of_not_lt fun hlt => ?_
    have h1 := h.abs
    have hK := Nat.mul_pos K74_pos K74_pos
    obtain ⟨c, hc⟩ : ∃ c, c = 1074 := ⟨_, rfl⟩
    obtain ⟨r, hr⟩ : ∃ r, a = c + c + (r + 1) := ⟨a - (c + c) - 1, by omega⟩
    have e : 2 ^ a = K74 * K74 * (2 ^ r * 2) := by
      rw [K74_def, ← hc, hr, pow_add_, pow_add_ c c, Nat.pow_succ]
    rw [e] at h1
    have h2 : N = T.natAbs * 2 ^ r * 2 := Nat.eq_of_mul_eq_mul_right hK (by rw [h1, Nat.mul_comm (K74 * K74), Nat.mul_assoc T.natAbs, Nat.mul_assoc T.natAbs])
    omega
theorem DR.leD (h : DR T neg N D) : D ≤ K74 * K74 := by
  obtain ⟨a, rfl, ha⟩ := h.exp
  obtain ⟨c, hc⟩ : ∃ c, c = 1074 := ⟨_, rfl⟩
  rw [K74_def, ← hc, ← pow_add_]
  exact Nat.pow_le_pow_right (by omega) (by omega)
theorem DR.leN (h : DR T neg N D) : N ≤ T.natAbs := by
  have h1 := h.abs
  have h2 := Nat.mul_le_mul_left T.natAbs h.leD
  rw [← h1] at h2
  exact Nat.le_of_mul_le_mul_right h2 (Nat.mul_pos K74_pos K74_pos)
theorem DR.blD (h : DR T neg N D) : bl D ≤ 2149 := by
  obtain ⟨a, rfl, ha⟩ := h.exp
  have h2 : ∀ c, a < c → bl (2 ^ a) ≤ c := fun c h => (bl_le_iff _ _).2 (Nat.pow_lt_pow_right (by omega) h)
  exact h2 2149 (by omega)
theorem DR.nwD (h : DR T neg N D) : nw D ≤ 68 := by have := h.blD; rw [nw_bl]; omega
theorem DR.nwN (h : DR T neg N D) : nw N ≤ nw T.natAbs := nw_mono h.leN
/-- It is rounded so. -/
theorem DR.rnd (h : DR T neg N D) (d : Int) : rnd d neg (zr N D) = rT d T := rT_rat h.pos h.1
end
/-- A sum of two. -/
theorem DR.add {T S : Int} {n m : Bool} {N D N' D' : Nat} (h : DR T n N D) (g : DR S m N' D') : DR (T + S) (aNeg n m (N * D') (N' * D) && decide (aMag n m (N * D') (N' * D) ≠ 0)) (fracN (aMag n m (N * D') (N' * D)) (D * D') 0) (fracD (aMag n m (N * D') (N' * D)) (D * D') 0) := by
  obtain ⟨h1, ⟨a, rfl, _⟩, _⟩ := h
  obtain ⟨g1, ⟨b, rfl, _⟩, _⟩ := g
  rw [← pow_add_]
  refine DR.of (p := 0) (q := 0) rfl ?_
  rw [sn_sum, Nat.pow_zero, Nat.mul_one, ← sn_mul, ← sn_mul, pow_add_]
  push_cast at h1 g1 ⊢
  generalize (K74 : Int) * (K74 : Int) = K at *
  generalize sn n N = x at *
  generalize sn m N' = y at *
  generalize (2 : Int) ^ a = u at *
  generalize (2 : Int) ^ b = v at *
  rw [Int.mul_one, Int.add_mul, Int.mul_right_comm x v K, h1, Int.mul_right_comm y u K, g1, Int.add_mul, Int.mul_assoc T, Int.mul_assoc S, Int.mul_comm v u]
/-- A number. -/
theorem DR.one (b : Nat) : DR (sv b * (K74 : Int)) (sg b && decide (mg b ≠ 0)) (fbN b) (fbD b) := by
  obtain ⟨c, hc⟩ : ∃ c, c = 1074 := ⟨_, rfl⟩
  have h := DR.of (neg := sg b) (n := fbSig b) (a := 0) (p := (fbExp b + 1074).toNat) (q := c) (e := fbExp b) (T := sv b * (K74 : Int)) (by have := fbExp_lo b; omega) (by
    rw [part_sv, Nat.pow_zero, Nat.one_mul, hc, ← K74_def, Int.natCast_mul, ← Int.mul_assoc])
  have e : (sg b && decide (fbSig b ≠ 0)) = (sg b && decide (mg b ≠ 0)) := by
    congr 1
    exact decide_eq_decide.2 (not_congr (fbSig_zero b))
  rw [e] at h
  exact h
/-- A product of two. -/
theorem DR.two (x y : Nat) {n m : Bool} (hn : n = (sg x && decide (mg x ≠ 0))) (hm : m = (sg y && decide (mg y ≠ 0))) : DR (sv x * sv y) ((n != m) && decide (fbN x * fbN y ≠ 0)) (fracN (fbN x * fbN y) (fbD x * fbD y) 0) (fracD (fbN x * fbN y) (fbD x * fbD y) 0) := by
  obtain ⟨h1, ⟨a, ha, _⟩, _⟩ := DR.one x
  obtain ⟨g1, ⟨b, hb, _⟩, _⟩ := DR.one y
  rw [← hn] at h1
  rw [← hm] at g1
  rw [ha] at h1 ⊢
  rw [hb] at g1 ⊢
  rw [← pow_add_]
  refine DR.of (p := 0) (q := 0) rfl ?_
  rw [sn_bne, Nat.pow_zero, Nat.mul_one, pow_add_]
  push_cast at h1 g1 ⊢
  have hK : (0 : Int) < (K74 : Int) := by have := K74_pos; omega
  have h2 : sn n (fbN x) * (K74 : Int) = sv x * 2 ^ a := Int.eq_of_mul_eq_mul_right (Int.ne_of_gt hK) (by rw [Int.mul_assoc, h1, Int.mul_right_comm])
  have g2 : sn m (fbN y) * (K74 : Int) = sv y * 2 ^ b := Int.eq_of_mul_eq_mul_right (Int.ne_of_gt hK) (by rw [Int.mul_assoc, g1, Int.mul_right_comm])
  generalize (K74 : Int) = K at *
  generalize sn n (fbN x) = p at *
  generalize sn m (fbN y) = q at *
  generalize (2 : Int) ^ a = u at *
  generalize (2 : Int) ^ b = v at *
  rw [Int.mul_one, Int.mul_assoc p q, ← Int.mul_assoc q K K, Int.mul_comm (q * K) K, ← Int.mul_assoc p K, h2, g2, Int.mul_assoc, Int.mul_left_comm u, ← Int.mul_assoc]
/-- The negative. -/
theorem DR.neg {T : Int} {n : Bool} {N D : Nat} (h : DR T n N D) : DR (-T) (!n && decide (N ≠ 0)) N D := by
  refine ⟨?_, h.2.1, fun h0 => by simp [h0]⟩
  have h1 := h.1
  have h3 : sn (!n && decide (N ≠ 0)) N = - sn n N := by
    unfold sn
    by_cases h0 : N = 0
    · simp [h0]
    · cases n <;> simp [h0]
  rw [h3, Int.neg_mul, h1, Int.neg_mul]
theorem DR.nil : DR 0 false 0 1 := ⟨by simp [sn], ⟨0, rfl, .inl rfl⟩, fun _ => rfl⟩
end Go.Proofs.YtfbjeifhpmdjaaaGreat

/-
  Words for memory: a slice of uint32 that reads as a list of words; what keeps it. Conditions: none but those that each theorem names.
-/
namespace Go.Proofs.YtfbjeifhpmdjaaaGreat
open Go.RowKit Nm

theorem block_of_add (a : Addr) (n : Nat) : (a.add n).block = a.block := by unfold Addr.add; split <;> rfl
theorem add_of_add (a : Addr) (i j : Nat) : (a.add i).add j = a.add (i + j) := by
  unfold Addr.add
  by_cases hi : i = 0 <;> by_cases hj : j = 0 <;> simp [hi, hj, Nat.add_assoc]

/-- The slice '.slice A n c' of uint32 reads as the words xs. -/
def Wds (w : World) (A : Option Addr) (n c : Nat) (xs : List Nat) : Prop :=
  xs.length = n ∧ n ≤ c ∧ c ≤ maxLen ∧ Ws xs ∧ (0 < n → ∃ ad, A = some ad ∧ ad.block < w.heap.size ∧ ∀ (k x : Nat), xs[k]? = some x → w.cell? (ad.add k) = some (.int .u32 (x : Int)))

section
variable {w w' : World} {n c : Nat} {A : Option Addr} {xs : List Nat}
theorem Wds.len (h : Wds w A n c xs) : xs.length = n := h.1
theorem Wds.ws (h : Wds w A n c xs) : Ws xs := h.2.2.2.1
theorem Wds.lec (h : Wds w A n c xs) : n ≤ c := h.2.1
theorem Wds.cmax (h : Wds w A n c xs) : c ≤ maxLen := h.2.2.1
theorem Wds.at_ {k : Nat} (h : Wds w A n c xs) (hk : k < n) : ∃ ad, ∃ hx : k < xs.length, A = some ad ∧ ad.block < w.heap.size ∧ w.cell? (ad.add k) = some (.int .u32 (xs[k] : Int)) := by
  obtain ⟨ad, e, hb, hc⟩ := h.2.2.2.2 (by omega)
  have hl : k < xs.length := by have := h.1; omega
  exact ⟨ad, hl, e, hb, hc k _ (List.getElem?_eq_getElem hl)⟩
theorem Wds.keep (h : Wds w A n c xs) (hs : w.heap.size ≤ w'.heap.size) (hk : ∀ p : Addr, p.block < w.heap.size → w'.cell? p = w.cell? p) : Wds w' A n c xs :=
  ⟨h.1, h.2.1, h.2.2.1, h.2.2.2.1, fun hn => by
    obtain ⟨ad, e, hb, hc⟩ := h.2.2.2.2 hn
    exact ⟨ad, e, by omega, fun k x hu => (hk _ (by rw [block_of_add]; exact hb)).trans (hc k x hu)⟩⟩
theorem Wds.below (h : Wds w A n c xs) (hb : Below w.heap.size w w') : Wds w' A n c xs := h.keep hb.size fun _ hp => hb.cell hp
theorem Wds.drew (h : Wds w A n c xs) : Wds w.drew A n c xs := h
theorem Wds.drewN (h : Wds w A n c xs) (k : Nat) : Wds (w.drewN k) A n c xs := h
theorem Wds.alloc (h : Wds w A n c xs) (o : Obj) : Wds (w.alloc o) A n c xs := h.keep (by simp) fun p hp => World.cell?_alloc_lt w o p (by omega)
theorem Wds.nil_ (hc : c ≤ maxLen) : Wds w A 0 c [] := ⟨rfl, Nat.zero_le _, hc, Ws.nil, fun h => absurd h (by omega)⟩
end

/-- w' is w, but for new blocks and draws. -/
def Ext (w w' : World) : Prop := Below w.heap.size w w'
section
variable {w w' w'' : World}
theorem Ext.refl (w : World) : Ext w w := Below.refl _ _
theorem Ext.trans (h : Ext w w') (k : Ext w' w'') : Ext w w'' := Below.trans h (Below.mono k (Below.size h))
theorem Ext.size (h : Ext w w') : w.heap.size ≤ w'.heap.size := Below.size h
theorem Ext.drew (h : Ext w w') : Ext w w'.drew := Below.drew h
theorem Ext.drewN (h : Ext w w') (n : Nat) : Ext w (w'.drewN n) := by
  have hb : Below w.heap.size w w' := h
  exact ⟨hb.os, hb.tape, hb.output, hb.size, hb.block⟩
theorem Ext.alloc (h : Ext w w') (o : Obj) : Ext w (w'.alloc o) := Below.alloc h (Below.size h) o
theorem Ext.setCell (h : Ext w w') {p : Addr} (hp : w.heap.size ≤ p.block) (u : Value) : Ext w (w'.setCell p u) := Below.setCell h hp u
theorem Ext.cell (h : Ext w w') {p : Addr} (hp : p.block < w.heap.size) : w'.cell? p = w.cell? p := Below.cell h hp
theorem Ext.frozen (h : Ext w w') {p : Addr} (hp : p.block < w.heap.size) : w'.frozen? p = w.frozen? p := Below.frozen h hp
theorem Ext.grown (h : Ext w w') {row : Option Nat} (hg : w'.grownBy w'' row) (hr : ∀ k, row = some k → w.heap.size ≤ k) : Ext w w'' := Below.grown h hg (Below.size h) hr
theorem Wds.ext {n c : Nat} {A : Option Addr} {xs : List Nat} (h : Wds w A n c xs) (hb : Ext w w') : Wds w' A n c xs := h.below hb
theorem Wds.set_new {n c : Nat} {A : Option Addr} {xs : List Nat} {p : Addr} (h : Wds w A n c xs) (hx : Ext w w') (hp : w.heap.size ≤ p.block) (u : Value) : Wds (w'.setCell p u) A n c xs := h.ext (hx.setCell hp u)
end

/-- Words as cells. -/
def u32s (xs : List Nat) : List Value := xs.map fun (x : Nat) => Value.int .u32 (x : Int)
theorem u32s_length (xs : List Nat) : (u32s xs).length = xs.length := by simp [u32s]
theorem u32s_get {xs : List Nat} {k x : Nat} (h : xs[k]? = some x) : (u32s xs)[k]? = some (Value.int .u32 (x : Int)) := by
  simp [u32s, h]
theorem u32s_snoc (xs : List Nat) (x : Nat) : u32s xs ++ [Value.int .u32 (x : Int)] = u32s (xs ++ [x]) := by simp [u32s]
theorem u32s_nil : u32s [] = [] := rfl

/-- A row of the call's own reads as its words. -/
theorem Wds.of_own {w : World} {base : Nat} {e : TypeId} {v : Value} {n : Nat} {xs : List Nat} (h : w.ownsRow base e 1 v n (u32s xs)) (hw : Ws xs) :
    ∃ A c, v = .slice A n c ∧ Wds w A n c xs := by
  have hl : xs.length = n := by have := h.1; rw [u32s_length] at this; omega
  rcases h.2 with ⟨rfl, rfl⟩ | ⟨g, cap, cur, rfl, _, hh, hnc, hcm, _⟩
  · exact ⟨none, 0, rfl, hl, Nat.le_refl _, by unfold maxLen; omega, hw, fun h => absurd h (by omega)⟩
  · refine ⟨_, cap, rfl, hl, hnc, hcm, hw, fun _ => ⟨_, rfl, ?_, fun k x hx => h.cells (g := g) rfl k _ (u32s_get hx)⟩⟩
    rcases Nat.lt_or_ge g w.heap.size with hlt | hge
    · exact hlt
    · rw [Array.getElem?_eq_none hge] at hh; cases hh

/-- What is answered: a list of the words of V, in memory; what was there is as it was. -/
def RetW (V : Nat) (w : World) (e : Ending) (w' : World) : Prop := ∃ A n c, e = .returned (.slice A n c) ∧ Wds w' A n c (nd V) ∧ Ext w w'

theorem val_int {k : IntKind} {a b : Int} (h : a = b) : Value.int k a = Value.int k b := by rw [h]
theorem and_mask (v lo : Nat) (hv : v < 18446744073709551616) (h : lo = v % 4294967296) : bits .and .u64 (v : Int) 4294967295 = (lo : Int) := by
  rw [u64_and _ _ (by omega) (by omega) (by omega) (by omega)]
  rw [Int.toNat_natCast, show (4294967295 : Int).toNat = 4294967295 from rfl, nat_mask32, h]
theorem ret_int {k : IntKind} {a b : Int} (h : a = b) : Ending.returned (.int k a) = .returned (.int k b) := by rw [h]
theorem ret_bool {a b : Bool} (h : a = b) : Ending.returned (.bool a) = .returned (.bool b) := by rw [h]
theorem ret_float {k : FloatKind} {a b : Nat} (h : a = b) : Ending.returned (.float k a) = .returned (.float k b) := by rw [h]
end Go.Proofs.YtfbjeifhpmdjaaaGreat

/-
  Words for memory: a block known whole, without integers in it; a list of words beside it. Conditions: none but those that each theorem names.
-/
namespace Go.Proofs.YtfbjeifhpmdjaaaGreat
open Go.RowKit Nm
set_option linter.unusedVariables false
set_option linter.unusedSimpArgs false

/-- Block g is just the cells cs of element type t, none frozen. -/
def Blk (w : World) (g : Nat) (t : TypeId) (cs : Array Value) : Prop := w.heap[g]? = some (.cells cs t (0, 0))
/-- No cell is an integer. -/
def NoInt (cs : Array Value) : Prop := ∀ (i : Nat) (k : IntKind) (x : Int), cs[i]? ≠ some (Value.int k x)

section
variable {w w' : World} {g : Nat} {t : TypeId} {cs : Array Value}
theorem Blk.lt (h : Blk w g t cs) : g < w.heap.size := by
  rcases Nat.lt_or_ge g w.heap.size with hlt | hge
  · exact hlt
  · unfold Blk at h; rw [Array.getElem?_eq_none hge] at h; cases h
theorem Blk.cell (h : Blk w g t cs) (i : Nat) : w.cell? ⟨g, i, none⟩ = cs[i]? := cell_of_row w g i cs t (0, 0) h
theorem Blk.frozen (h : Blk w g t cs) (i : Nat) : w.frozen? ⟨g, i, none⟩ = false := by
  unfold Blk at h
  simp [World.frozen?, h]
theorem Blk.new (w : World) (t : TypeId) (cs : Array Value) : Blk (w.alloc (.cells cs t)) w.heap.size t cs := heap_alloc_new w _
theorem Blk.ext (h : Blk w g t cs) (hb : Ext w w') : Blk w' g t cs := (Below.block hb g h.lt).trans h
theorem Blk.set_ (h : Blk w g t cs) (i : Nat) (u : Value) : Blk (w.setCell ⟨g, i, none⟩ u) g t (cs.setIfInBounds i u) := by
  unfold Blk at h ⊢
  simp [World.setCell, Array.getElem?_modify, h]
theorem Blk.far (h : Blk w g t cs) {p : Addr} (hp : g ≠ p.block) (u : Value) : Blk (w.setCell p u) g t cs := (Below.heap_setCell w p u g hp).trans h
theorem NoInt.set {cs : Array Value} (h : NoInt cs) (i : Nat) {u : Value} (hu : ∀ (k : IntKind) (x : Int), u ≠ Value.int k x) : NoInt (cs.setIfInBounds i u) := by
  intro j k x hj
  rw [Array.getElem?_setIfInBounds] at hj
  split at hj
  · split at hj
    · injection hj with hj; exact hu k x hj
    · cases hj
  · exact h j k x hj
/-- A store into a block without integers leaves every list of words as it was. -/
theorem Wds.set_box {A : Option Addr} {n c : Nat} {xs : List Nat} (h : Wds w A n c xs) (hb : Blk w g t cs) (hcs : NoInt cs) (i : Nat) (u : Value) : Wds (w.setCell ⟨g, i, none⟩ u) A n c xs := by
  refine ⟨h.1, h.2.1, h.2.2.1, h.2.2.2.1, fun hn => ?_⟩
  obtain ⟨ad, e, hlt, hc⟩ := h.2.2.2.2 hn
  have hne : ad.block ≠ g := by
    intro hg
    have hx1 : 0 < xs.length := by have := h.1; omega
    have h1 := hc 0 _ (List.getElem?_eq_getElem hx1)
    have h2 : w.heap[(ad.add 0).block]? = some (.cells cs t (0, 0)) := by rw [block_of_add, hg]; exact hb
    unfold World.cell? at h1
    rw [h2] at h1
    simp only at h1
    split at h1
    · cases h1
    · exact hcs _ _ _ h1
  refine ⟨ad, e, by simpa [World.setCell] using hlt, fun k x hk => ?_⟩
  rw [← hc k x hk]
  exact World.cell?_of_block (Below.heap_setCell w ⟨g, i, none⟩ u _ (by rw [block_of_add]; exact hne))
theorem Wds.set_box3 {A : Option Addr} {n c : Nat} {xs : List Nat} (h : Wds w A n c xs) (hb : Blk w g t cs) (hcs : NoInt cs) {u0 u1 u2 : Value} (h0 : ∀ (k : IntKind) (x : Int), u0 ≠ Value.int k x) (h1 : ∀ (k : IntKind) (x : Int), u1 ≠ Value.int k x) :
    Wds (((w.setCell ⟨g, 0, none⟩ u0).setCell ⟨g, 1, none⟩ u1).setCell ⟨g, 2, none⟩ u2) A n c xs :=
  ((h.set_box hb hcs 0 u0).set_box (hb.set_ 0 u0) (hcs.set 0 h0) 1 u1).set_box ((hb.set_ 0 u0).set_ 1 u1) ((hcs.set 0 h0).set 1 h1) 2 u2
theorem Ext.set3 {w0 : World} (h : Ext w0 w) (hg : w0.heap.size ≤ g) (u0 u1 u2 : Value) : Ext w0 (((w.setCell ⟨g, 0, none⟩ u0).setCell ⟨g, 1, none⟩ u1).setCell ⟨g, 2, none⟩ u2) :=
  ((h.setCell hg u0).setCell hg u1).setCell hg u2
end
theorem noInt3 (b : Bool) (A : Option Addr) (n c : Nat) (B : Option Addr) (m d : Nat) : NoInt #[.bool b, .slice A n c, .slice B m d] := by
  intro i k x h
  match i, h with
  | 0, h => simp at h
  | 1, h => simp at h
  | 2, h => simp at h
  | i + 3, h => simp at h

end Go.Proofs.YtfbjeifhpmdjaaaGreat

/-
  Plain, over whatever program: what a call owns: its boxes, known whole, and the lists of words that it may read; what a store, a new box or a call leaves of them. Conditions: those that each theorem names.
-/
namespace Go.Proofs.YtfbjeifhpmdjaaaGreat
open Go Go.RowKit Nm
set_option linter.unusedVariables false
set_option linter.unusedSimpArgs false

/-- A box of the call's own: its block, its type, its cells. -/
structure Bx where
  g : Nat
  t : TypeId
  cs : List Value
/-- A list of words in memory. -/
structure Sw where
  A : Option Addr
  n : Nat
  c : Nat
  xs : List Nat

def isU : Value → Bool
  | .int .u32 _ => true
  | _ => false

def Own (w0 : World) (L : List Bx) (W : List Sw) (w : World) : Prop :=
  Ext w0 w ∧ (∀ b ∈ L, w0.heap.size ≤ b.g ∧ Blk w b.g b.t b.cs.toArray ∧ b.cs.any isU = false) ∧ (L.map Bx.g).Nodup ∧ ∀ s ∈ W, Wds w s.A s.n s.c s.xs

/-- The cells of a box, one by one. -/
def CF (w : World) (g : Nat) : Nat → List Value → Prop
  | _, [] => True
  | i, v :: vs => w.cell? ⟨g, i, none⟩ = some v ∧ w.frozen? ⟨g, i, none⟩ = false ∧ CF w g (i + 1) vs
def BF (w : World) : List Bx → Prop
  | [] => True
  | b :: L => b.g < w.heap.size ∧ CF w b.g 0 b.cs ∧ BF w L

section
variable {w0 w w' : World} {L : List Bx} {W : List Sw}
theorem CF.of {g : Nat} {t : TypeId} {full : List Value} (h : Blk w g t full.toArray) : ∀ (cs : List Value) (i : Nat), full.drop i = cs → CF w g i cs := by
  intro cs
  induction cs with
  | nil => intro i _; exact trivial
  | cons v vs ih =>
    intro i hi
    have h1 : full[i]? = some v := by
      have : (full.drop i)[0]? = some v := by rw [hi]; rfl
      simpa using this
    refine ⟨?_, h.frozen i, ih (i + 1) ?_⟩
    · rw [h.cell i]; simpa using h1
    · rw [← List.drop_drop, hi]; rfl
theorem BF.of : ∀ {L : List Bx}, (∀ b ∈ L, w0.heap.size ≤ b.g ∧ Blk w b.g b.t b.cs.toArray ∧ b.cs.any isU = false) → BF w L
  | [], _ => trivial
  | b :: L, h => ⟨(h b List.mem_cons_self).2.1.lt, CF.of (h b List.mem_cons_self).2.1 _ 0 rfl, BF.of fun b' hb => h b' (List.mem_cons_of_mem _ hb)⟩
theorem Own.facts (h : Own w0 L W w) : BF w L := BF.of h.2.1
theorem Own.toExt (h : Own w0 L W w) : Ext w0 w := h.1
theorem Own.start (w : World) : Own w [] [] w := ⟨Ext.refl w, (fun b hb => by cases hb), List.nodup_nil, (fun s hs => by cases hs)⟩
theorem Own.ext (h : Own w0 L W w) (e : Ext w w') : Own w0 L W w' :=
  ⟨h.1.trans e, fun b hb => ⟨(h.2.1 b hb).1, (h.2.1 b hb).2.1.ext e, (h.2.1 b hb).2.2⟩, h.2.2.1, fun s hs => (h.2.2.2 s hs).ext e⟩
theorem Own.add {A : Option Addr} {n c : Nat} {xs : List Nat} (h : Own w0 L W w) (k : Wds w A n c xs) : Own w0 L (⟨A, n, c, xs⟩ :: W) w :=
  ⟨h.1, h.2.1, h.2.2.1, fun s hs => by rcases List.mem_cons.1 hs with rfl | hs; exact k; exact h.2.2.2 s hs⟩
theorem Own.wd {A : Option Addr} {n c : Nat} {xs : List Nat} (h : Own w0 L W w) (i : Nat) (hi : W[i]? = some ⟨A, n, c, xs⟩) : Wds w A n c xs :=
  h.2.2.2 _ (List.mem_of_getElem? hi)
theorem Own.blk {g : Nat} {t : TypeId} {cs : List Value} (h : Own w0 L W w) (i : Nat) (hi : L[i]? = some ⟨g, t, cs⟩) : Blk w g t cs.toArray :=
  (h.2.1 _ (List.mem_of_getElem? hi)).2.1
theorem Own.alloc (h : Own w0 L W w) (t : TypeId) (cs : List Value) (hu : cs.any isU = false) : Own w0 (⟨w.heap.size, t, cs⟩ :: L) W (w.alloc (.cells cs.toArray t)) := by
  have e : Ext w (w.alloc (.cells cs.toArray t)) := (Ext.refl w).alloc _
  refine ⟨h.1.trans e, fun b hb => ?_, ?_, fun s hs => (h.2.2.2 s hs).ext e⟩
  · rcases List.mem_cons.1 hb with rfl | hb
    · exact ⟨h.1.size, Blk.new w t _, hu⟩
    · exact ⟨(h.2.1 b hb).1, (h.2.1 b hb).2.1.ext e, (h.2.1 b hb).2.2⟩
  · rw [List.map_cons, List.nodup_cons]
    refine ⟨fun hm => ?_, h.2.2.1⟩
    obtain ⟨b, hb, hg⟩ := List.mem_map.1 hm
    have := (h.2.1 b hb).2.1.lt
    rw [hg] at this
    exact Nat.lt_irrefl _ this

theorem Wds.set_nu {g : Nat} {t : TypeId} {cs : Array Value} {A : Option Addr} {n c : Nat} {xs : List Nat} (h : Wds w A n c xs) (hb : Blk w g t cs) (hcs : ∀ (i : Nat) (x : Int), cs[i]? ≠ some (Value.int .u32 x)) (i : Nat) (u : Value) : Wds (w.setCell ⟨g, i, none⟩ u) A n c xs := by
  refine ⟨h.1, h.2.1, h.2.2.1, h.2.2.2.1, fun hn => ?_⟩
  obtain ⟨ad, e, hlt, hc⟩ := h.2.2.2.2 hn
  have hne : ad.block ≠ g := by
    intro hg
    have hx1 : 0 < xs.length := by have := h.1; omega
    have h1 := hc 0 _ (List.getElem?_eq_getElem hx1)
    have h2 : w.heap[(ad.add 0).block]? = some (.cells cs t (0, 0)) := by rw [block_of_add, hg]; exact hb
    unfold World.cell? at h1
    rw [h2] at h1
    simp only at h1
    split at h1
    · cases h1
    · exact hcs _ _ h1
  refine ⟨ad, e, by simpa [World.setCell] using hlt, fun k x hk => ?_⟩
  rw [← hc k x hk]
  exact World.cell?_of_block (Below.heap_setCell w ⟨g, i, none⟩ u _ (by rw [block_of_add]; exact hne))

theorem any_isU {cs : List Value} (h : cs.any isU = false) : ∀ (i : Nat) (x : Int), cs.toArray[i]? ≠ some (Value.int .u32 x) := by
  intro i x hx
  have h1 : cs[i]? = some (Value.int .u32 x) := by simpa using hx
  have h2 := List.mem_of_getElem? h1
  have : cs.any isU = true := List.any_eq_true.2 ⟨_, h2, rfl⟩
  rw [h] at this; cases this

/-- One cell of one box is written. -/
theorem Own.set (h : Own w0 L W w) (i : Nat) {b : Bx} (hi : L[i]? = some b) (j : Nat) (u : Value) (hu : isU u = false) :
    Own w0 (L.set i ⟨b.g, b.t, b.cs.set j u⟩) W (w.setCell ⟨b.g, j, none⟩ u) := by
  have hbm := List.mem_of_getElem? hi
  obtain ⟨hb0, hb1, hb2⟩ := h.2.1 b hbm
  have hil : i < L.length := (List.getElem?_eq_some_iff.1 hi).1
  have hmap : (L.set i ⟨b.g, b.t, b.cs.set j u⟩).map Bx.g = L.map Bx.g := by
    rw [List.map_set]
    apply List.ext_getElem?
    intro k
    rw [List.getElem?_set]
    split
    · rename_i hk
      subst hk
      rw [List.getElem?_map, hi]
      simp [hil]
    · rfl
  refine ⟨h.1.setCell hb0 u, fun c hc => ?_, by rw [hmap]; exact h.2.2.1, fun s hs => (h.2.2.2 s hs).set_nu hb1 (any_isU hb2) j u⟩
  obtain ⟨k, hk⟩ := List.getElem?_of_mem hc
  rw [List.getElem?_set] at hk
  split at hk
  · rename_i hik
    injection hk with hk
    subst hk
    refine ⟨hb0, ?_, ?_⟩
    · have := hb1.set_ j u
      simpa using this
    · apply Bool.eq_false_iff.2
      intro ha
      obtain ⟨v, hv, hv1⟩ := List.any_eq_true.1 ha
      rcases List.mem_or_eq_of_mem_set hv with hv | rfl
      · have : b.cs.any isU = true := List.any_eq_true.2 ⟨v, hv, hv1⟩
        rw [hb2] at this; cases this
      · rw [hu] at hv1; cases hv1
  · rename_i hik
    have hcm := List.mem_of_getElem? hk
    obtain ⟨hc0, hc1, hc2⟩ := h.2.1 c hcm
    refine ⟨hc0, hc1.far ?_ u, hc2⟩
    intro hg
    have hg' : c.g = b.g := hg
    have n := h.2.2.1
    rw [List.nodup_iff_pairwise_ne, List.pairwise_iff_getElem] at n
    have hkl : k < L.length := (List.getElem?_eq_some_iff.1 hk).1
    have a1 : L[i] = b := (List.getElem?_eq_some_iff.1 hi).2
    have a2 : L[k] = c := (List.getElem?_eq_some_iff.1 hk).2
    rcases Nat.lt_trichotomy i k with h3 | h3 | h3
    · have := n i k (by simpa using hil) (by simpa using hkl) h3
      simp [a1, a2, hg'] at this
    · exact hik h3
    · have := n k i (by simpa using hkl) (by simpa using hil) h3
      simp [a1, a2, hg'] at this

/-- Cells of one box are written, from one place on. -/
def spl : List Value → Nat → List Value → List Value
  | cs, _, [] => cs
  | cs, j, v :: vs => spl (cs.set j v) (j + 1) vs
def setN (w : World) (g : Nat) : Nat → List Value → World
  | _, [] => w
  | j, v :: vs => setN (w.setCell ⟨g, j, none⟩ v) g (j + 1) vs

theorem Own.setN : ∀ (vs : List Value) {w : World} {L : List Bx} (h : Own w0 L W w) (i : Nat) {b : Bx} (hi : L[i]? = some b) (j : Nat) (hu : vs.any isU = false),
    Own w0 (L.set i ⟨b.g, b.t, spl b.cs j vs⟩) W (setN w b.g j vs)
  | [], w, L, h, i, b, hi, j, _ => by
    have : L.set i ⟨b.g, b.t, spl b.cs j []⟩ = L := by
      apply List.ext_getElem?
      intro k
      rw [List.getElem?_set]
      split
      · rename_i hk; subst hk
        have hil : i < L.length := (List.getElem?_eq_some_iff.1 hi).1
        rw [if_pos hil, hi]; rfl
      · rfl
    rw [this]; exact h
  | v :: vs, w, L, h, i, b, hi, j, hu => by
    rw [List.any_cons, Bool.or_eq_false_iff] at hu
    have h1 := h.set i hi j v hu.1
    have hil : i < L.length := (List.getElem?_eq_some_iff.1 hi).1
    have h2 := Own.setN vs h1 i (b := ⟨b.g, b.t, b.cs.set j v⟩) (by simp [hil]) (j + 1) hu.2
    rw [List.set_set] at h2
    exact h2
end

section
variable {P : Program} {ops : Array Oper} {Q : Exit → Act → World → Prop} {a : Act} {w w0 : World} {rest : List Oper} {L : List Bx} {W : List Sw} {T ty : TypeId} {ps : String} {af : Array Edge} {x y : Operand} {d : Tmp}

theorem wpList_of_run {o : Oper} (hg : o.guard = none) {v : Value} {w' : World} (hr : (execOp a.eval o).run P w = .ok (.value v) w') (h : wpList P ops Q rest (a.put o.dst v) w') : wpList P ops Q (o :: rest) a w := by
  refine wpList_plain hg fun K hK => ?_
  unfold Oper.wp
  rw [hr]
  exact hK _ _ h
theorem wpList_of_skip {o : Oper} (hg : o.guard = none) {w' : World} (hr : (execOp a.eval o).run P w = .ok .skip w') (h : wpList P ops Q rest (a.put o.dst undef) w') : wpList P ops Q (o :: rest) a w := by
  refine wpList_plain hg fun K hK => ?_
  unfold Oper.wp
  rw [hr]
  exact hK _ _ h

/-- A value is put into a box of its own. -/
theorem own_box (hO : Own w0 L W w) {cs : List Value} (hcs : (a.eval x).cells = cs.toArray) (hu : cs.any isU = false)
    (h : ∀ g w', Own w0 (⟨g, T, cs⟩ :: L) W w' → wpList P ops Q rest (a.put (some d) (.pointer (some ⟨g, 0, none⟩))) w') :
    wpList P ops Q ({ dst := some d, op := .box T x, type := ty, pos := ps, after := af, guard := none } :: rest) a w := by
  refine wpList_of_run rfl ?_ (h _ _ (hO.alloc T cs hu))
  simp [execOp, Instr.box, newVar, newRow, hcs]

/-- A new box of a type. -/
theorem own_alloc (hO : Own w0 L W w) {z : Value} (hz : ∀ w, (zeroValue T).run P w = .ok z w) {cs : List Value} (hcs : z.cells = cs.toArray) (hu : cs.any isU = false)
    (h : ∀ g w', Own w0 (⟨g, T, cs⟩ :: L) W w' → wpList P ops Q rest (a.put (some d) (.pointer (some ⟨g, 0, none⟩))) w') :
    wpList P ops Q ({ dst := some d, op := .alloc T, type := ty, pos := ps, after := af, guard := none } :: rest) a w := by
  refine wpList_of_run rfl ?_ (h _ _ (hO.alloc T cs hu))
  simp [execOp, Instr.alloc, newVar, newRow, hcs, hz]

theorem run_storeCells : ∀ (vs : List Value) (w : World) (g off i : Nat) (t : TypeId) (cs : List Value), Blk w g t cs.toArray → off + i + vs.length ≤ cs.length → vs.all Value.oneCell' = true →
    (storeCells ⟨g, off, none⟩ vs i).run P w = .ok () (setN w g (off + i) vs)
  | [], w, g, off, i, t, cs, _, _, _ => by simp [storeCells, setN]
  | v :: vs, w, g, off, i, t, cs, hb, hl, h1 => by
    rw [List.all_cons, Bool.and_eq_true] at h1
    rw [List.length_cons] at hl
    have hadd : (⟨g, off, none⟩ : Addr).add i = ⟨g, off + i, none⟩ := Addr.add_lit g off i
    have hc : w.cell? ⟨g, off + i, none⟩ = some (cs[off + i]'(by omega)) := by rw [hb.cell]; simp
    have hf := hb.frozen (off + i)
    have hb2 := hb.set_ (off + i) v
    have ih := run_storeCells vs (w.setCell ⟨g, off + i, none⟩ v) g off (i + 1) t (cs.set (off + i) v) (by simpa using hb2) (by simp; omega) h1.2
    simp only [storeCells, hadd, Sem.run_bind, run_store P w _ v _ h1.1, hc, hf, Bool.false_eq_true, if_false, Result.andThen, ih]
    rfl

/-- A store into one of the boxes. -/
theorem own_store (hO : Own w0 L W w) (i : Nat) {b : Bx} (hb : L[i]? = some b) {off : Nat} (hx : a.eval x = .pointer (some ⟨b.g, off, none⟩)) {vs : List Value} (hvs : (a.eval y).cells = vs.toArray)
    (hsz : ∀ w, (sizeOf T).run P w = .ok vs.length w) (h1 : vs.all Value.oneCell' = true) (hu : vs.any isU = false) (hle : Nat.ble (off + vs.length) b.cs.length = true)
    (h : ∀ w', Own w0 (L.set i ⟨b.g, b.t, spl b.cs off vs⟩) W w' → wpList P ops Q rest a w') :
    wpList P ops Q ({ dst := none, op := .store T x y, type := ty, pos := ps, after := af, guard := none } :: rest) a w := by
  refine wpList_of_skip rfl ?_ (h _ (hO.setN vs i hb off hu))
  have hB := (hO.2.1 b (List.mem_of_getElem? hb)).2.1
  have := run_storeCells (P := P) vs w b.g off 0 b.t b.cs hB (by have := Nat.le_of_ble_eq_true hle; omega) h1
  simp [execOp, Instr.storeAt, hx, Instr.sureAddr, storeVar, hvs, hsz, this]

theorem run_loadCells {g off : Nat} {t : TypeId} {cs : List Value} (hb : Blk w g t cs.toArray) : ∀ (n i : Nat) (acc : Array Value), off + i + n ≤ cs.length →
    (loadCellsFrom ⟨g, off, none⟩ i n acc).run P w = .ok (acc ++ ((cs.drop (off + i)).take n).toArray) w
  | 0, i, acc, _ => by simp [loadCellsFrom]
  | n + 1, i, acc, hl => by
    have hadd : (⟨g, off, none⟩ : Addr).add i = ⟨g, off + i, none⟩ := Addr.add_lit g off i
    have hc : w.cell? ⟨g, off + i, none⟩ = some (cs[off + i]'(by omega)) := by rw [hb.cell]; simp
    have ih := run_loadCells (off := off) hb n (i + 1) (acc.push (cs[off + i]'(by omega))) (by omega)
    simp only [loadCellsFrom, hadd, Sem.run_bind, run_load, hc, Result.andThen, ih]
    congr 1
    rw [List.drop_eq_getElem_cons (show off + i < cs.length by omega), List.take_succ_cons, show off + (i + 1) = off + i + 1 by omega]
    apply Array.toList_inj.1
    simp
theorem run_loadBox {g : Nat} {t : TypeId} {cs : List Value} (hb : Blk w g t cs.toArray) (hag : (isAgg T).run P w = .ok true w) (hsz : (sizeOf T).run P w = .ok cs.length w) :
    (loadVar T ⟨g, 0, none⟩).run P w = .ok (.agg cs.toArray) w := by
  have := run_loadCells (P := P) (off := 0) hb cs.length 0 #[] (by omega)
  simp [loadVar, hag, hsz, loadCells, this]

/-- The end of a walk whose result lies in a box. -/
theorem own_ret {fn : Func} {R : Ending → World → Prop} (hO : Own w0 L W w) (i : Nat) {g : Nat} {t : TypeId} {cs : List Value} (hb : L[i]? = some ⟨g, t, cs⟩) (hr : fn.results = #[.cell d T]) (ha : a.tmps.getD d undef = .pointer (some ⟨g, 0, none⟩))
    (hag : ∀ w, (isAgg T).run P w = .ok true w) (hsz : ∀ w, (sizeOf T).run P w = .ok cs.length w) (hd : a.defers = []) (hR : R (.returned (.agg cs.toArray)) w) : bodyPost P fn R .ret a w := by
  have h1 := run_loadBox (P := P) (hO.blk i hb) (hag w) (hsz w)
  refine bodyPost_ret (v := .agg cs.toArray) ?_ hd hR
  rw [Array.getD_eq_getD_getElem?] at ha
  simp [results, hr, ha, asAddr, h1]
end

/-- A slice from its head on: the same place. -/
@[go_sem high] theorem sliced_zero (a : Option Addr) (h m s : Nat) : sliced a 0 h m s = .slice a h m := by
  unfold sliced
  simp only [Nat.zero_mul, Nat.sub_zero]
  congr 1
  split
  · rfl
  · cases a <;> simp [Addr.add]
end Go.Proofs.YtfbjeifhpmdjaaaGreat

/-
  The document's ratios: their zero and their size. Conditions: those that each theorem names.
-/
namespace Go.Proofs.YtfbjeifhpmdjaaaGreat
open Go.RowKit Nm
set_option maxRecDepth 100000
set_option linter.unusedVariables false
set_option linter.unusedSimpArgs false

theorem nw_mul2 (a b : Nat) : nw (a * b) ≤ nw a + nw b := by
  have h1 := lt_pow_nw a
  have h2 := lt_pow_nw b
  refine (nw_le_iff _ _).2 ?_
  rw [Nat.pow_add]
  exact Nat.mul_lt_mul'' h1 h2
theorem zero_rat (w : World) : (zeroValue 38).run Tryz.prog w = .ok (.agg #[.bool false, .slice none 0 0, .slice none 0 0]) w := by kernel_rfl
theorem agg_rat (w : World) : (isAgg 38).run Tryz.prog w = .ok true w := by kernel_rfl
theorem size_rat (w : World) : (sizeOf 38).run Tryz.prog w = .ok 3 w := by kernel_rfl

end Go.Proofs.YtfbjeifhpmdjaaaGreat
