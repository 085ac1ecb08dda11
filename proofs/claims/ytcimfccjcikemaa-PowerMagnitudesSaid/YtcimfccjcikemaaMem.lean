/-
  Words for memory: a slice of uint32 that reads as a list of words; what keeps it. Conditions: none but those that each theorem names.
-/
import Derived.Test.YtcimfccjcikemaaRows
import Derived.Test.YtcimfccjcikemaaNum
import Derived.WalkKit
import Derived.WalkSpells
import Derived.WalkLawsBesides
import Derived.Below
import Derived.Laws.OwnMore
import Derived.Deep.AppendLies
import Derived.Deep.Draws
import Derived.Lib.Hide
namespace Go.Proofs.Ytcimfccjcikemaa
open Go.RowKit Nm

theorem block_of_add (a : Addr) (n : Nat) : (a.add n).block = a.block := by unfold Addr.add; split <;> rfl
theorem add_of_add (a : Addr) (i j : Nat) : (a.add i).add j = a.add (i + j) := by
  unfold Addr.add
  by_cases hi : i = 0 <;> by_cases hj : j = 0 <;> simp [hi, hj, Nat.add_assoc]

/-- The slice '.slice A n c' of uint32 reads as the words xs. -/
def Wds (w : World) (A : Option Addr) (n c : Nat) (xs : List Nat) : Prop :=
  xs.length = n ∧ n ≤ c ∧ c ≤ maxLen ∧ Ws xs ∧ (0 < n → ∃ ad, A = some ad ∧ ad.block < w.heap.size ∧ ∀ (k x : Nat), xs[k]? = some x → w.cell? (ad.add k) = some (.int .u32 (x : Int)))

section
variable {w w' : World} {n c : Nat} {A : Option Addr} {xs : List Nat}
theorem Wds.len (h : Wds w A n c xs) : xs.length = n := h.1
theorem Wds.ws (h : Wds w A n c xs) : Ws xs := h.2.2.2.1
theorem Wds.lec (h : Wds w A n c xs) : n ≤ c := h.2.1
theorem Wds.cmax (h : Wds w A n c xs) : c ≤ maxLen := h.2.2.1
theorem Wds.at_ {k : Nat} (h : Wds w A n c xs) (hk : k < n) : ∃ ad, ∃ hx : k < xs.length, A = some ad ∧ ad.block < w.heap.size ∧ w.cell? (ad.add k) = some (.int .u32 (xs[k] : Int)) := by
  obtain ⟨ad, e, hb, hc⟩ := h.2.2.2.2 (by omega)
  have hl : k < xs.length := by have := h.1; omega
  exact ⟨ad, hl, e, hb, hc k _ (List.getElem?_eq_getElem hl)⟩
theorem Wds.keep (h : Wds w A n c xs) (hs : w.heap.size ≤ w'.heap.size) (hk : ∀ p : Addr, p.block < w.heap.size → w'.cell? p = w.cell? p) : Wds w' A n c xs :=
  ⟨h.1, h.2.1, h.2.2.1, h.2.2.2.1, fun hn => by
    obtain ⟨ad, e, hb, hc⟩ := h.2.2.2.2 hn
    exact ⟨ad, e, by omega, fun k x hu => (hk _ (by rw [block_of_add]; exact hb)).trans (hc k x hu)⟩⟩
theorem Wds.below (h : Wds w A n c xs) (hb : Below w.heap.size w w') : Wds w' A n c xs := h.keep hb.size fun _ hp => hb.cell hp
theorem Wds.drew (h : Wds w A n c xs) : Wds w.drew A n c xs := h
theorem Wds.drewN (h : Wds w A n c xs) (k : Nat) : Wds (w.drewN k) A n c xs := h
theorem Wds.alloc (h : Wds w A n c xs) (o : Obj) : Wds (w.alloc o) A n c xs := h.keep (by simp) fun p hp => World.cell?_alloc_lt w o p (by omega)
theorem Wds.nil_ (hc : c ≤ maxLen) : Wds w A 0 c [] := ⟨rfl, Nat.zero_le _, hc, Ws.nil, fun h => absurd h (by omega)⟩
end

/-- w' is w, but for new blocks and draws. -/
def Ext (w w' : World) : Prop := Below w.heap.size w w'
section
variable {w w' w'' : World}
theorem Ext.refl (w : World) : Ext w w := Below.refl _ _
theorem Ext.trans (h : Ext w w') (k : Ext w' w'') : Ext w w'' := Below.trans h (Below.mono k (Below.size h))
theorem Ext.size (h : Ext w w') : w.heap.size ≤ w'.heap.size := Below.size h
theorem Ext.drew (h : Ext w w') : Ext w w'.drew := Below.drew h
theorem Ext.drewN (h : Ext w w') (n : Nat) : Ext w (w'.drewN n) := by
  have hb : Below w.heap.size w w' := h
  exact ⟨hb.os, hb.tape, hb.output, hb.size, hb.block⟩
theorem Ext.alloc (h : Ext w w') (o : Obj) : Ext w (w'.alloc o) := Below.alloc h (Below.size h) o
theorem Ext.setCell (h : Ext w w') {p : Addr} (hp : w.heap.size ≤ p.block) (u : Value) : Ext w (w'.setCell p u) := Below.setCell h hp u
theorem Ext.cell (h : Ext w w') {p : Addr} (hp : p.block < w.heap.size) : w'.cell? p = w.cell? p := Below.cell h hp
theorem Ext.frozen (h : Ext w w') {p : Addr} (hp : p.block < w.heap.size) : w'.frozen? p = w.frozen? p := Below.frozen h hp
theorem Ext.grown (h : Ext w w') {row : Option Nat} (hg : w'.grownBy w'' row) (hr : ∀ k, row = some k → w.heap.size ≤ k) : Ext w w'' := Below.grown h hg (Below.size h) hr
theorem Wds.ext {n c : Nat} {A : Option Addr} {xs : List Nat} (h : Wds w A n c xs) (hb : Ext w w') : Wds w' A n c xs := h.below hb
theorem Wds.set_new {n c : Nat} {A : Option Addr} {xs : List Nat} {p : Addr} (h : Wds w A n c xs) (hx : Ext w w') (hp : w.heap.size ≤ p.block) (u : Value) : Wds (w'.setCell p u) A n c xs := h.ext (hx.setCell hp u)
end

/-- Words as cells. -/
def u32s (xs : List Nat) : List Value := xs.map fun (x : Nat) => Value.int .u32 (x : Int)
theorem u32s_length (xs : List Nat) : (u32s xs).length = xs.length := by simp [u32s]
theorem u32s_get {xs : List Nat} {k x : Nat} (h : xs[k]? = some x) : (u32s xs)[k]? = some (Value.int .u32 (x : Int)) := by
  simp [u32s, h]
theorem u32s_snoc (xs : List Nat) (x : Nat) : u32s xs ++ [Value.int .u32 (x : Int)] = u32s (xs ++ [x]) := by simp [u32s]
theorem u32s_nil : u32s [] = [] := rfl

/-- A row of the call's own reads as its words. -/
theorem Wds.of_own {w : World} {base : Nat} {e : TypeId} {v : Value} {n : Nat} {xs : List Nat} (h : w.ownsRow base e 1 v n (u32s xs)) (hw : Ws xs) :
    ∃ A c, v = .slice A n c ∧ Wds w A n c xs := by
  have hl : xs.length = n := by have := h.1; rw [u32s_length] at this; omega
  rcases h.2 with ⟨rfl, rfl⟩ | ⟨g, cap, cur, rfl, _, hh, hnc, hcm, _⟩
  · exact ⟨none, 0, rfl, hl, Nat.le_refl _, by unfold maxLen; omega, hw, fun h => absurd h (by omega)⟩
  · refine ⟨_, cap, rfl, hl, hnc, hcm, hw, fun _ => ⟨_, rfl, ?_, fun k x hx => h.cells (g := g) rfl k _ (u32s_get hx)⟩⟩
    rcases Nat.lt_or_ge g w.heap.size with hlt | hge
    · exact hlt
    · rw [Array.getElem?_eq_none hge] at hh; cases hh

/-- What is answered: a list of the words of V, in memory; what was there is as it was. -/
def RetW (V : Nat) (w : World) (e : Ending) (w' : World) : Prop := ∃ A n c, e = .returned (.slice A n c) ∧ Wds w' A n c (nd V) ∧ Ext w w'

theorem val_int {k : IntKind} {a b : Int} (h : a = b) : Value.int k a = Value.int k b := by rw [h]
theorem and_mask (v lo : Nat) (hv : v < 18446744073709551616) (h : lo = v % 4294967296) : bits .and .u64 (v : Int) 4294967295 = (lo : Int) := by
  rw [u64_and _ _ (by omega) (by omega) (by omega) (by omega)]
  rw [Int.toNat_natCast, show (4294967295 : Int).toNat = 4294967295 from rfl, nat_mask32, h]
theorem ret_int {k : IntKind} {a b : Int} (h : a = b) : Ending.returned (.int k a) = .returned (.int k b) := by rw [h]
theorem ret_bool {a b : Bool} (h : a = b) : Ending.returned (.bool a) = .returned (.bool b) := by rw [h]
theorem ret_float {k : FloatKind} {a b : Nat} (h : a = b) : Ending.returned (.float k a) = .returned (.float k b) := by rw [h]
end Go.Proofs.Ytcimfccjcikemaa
