/-
 The contracts of the program's own naturals, third part: the length of a word, Len. Conditions: those that each theorem names.
-/
import Derived.Test.YtbcaggdgoidlaaaGreatDoorH07
import Derived.Test.YtbcaggdgoidlaaaGreatDoorH06
import Derived.Laws.CopyOwn
namespace Go.Proofs.YtbcaggdgoidlaaaGreatDoor
open Go.RowKit Nm
set_option maxRecDepth 100000
set_option linter.unusedVariables false
set_option linter.unusedSimpArgs false
set_option maxHeartbeats 1000000 in
theorem len32_small (x : Nat) (w : World) (h : x < 256) :
   Calls Tryz.prog 113 #[.int .u32 (x : Int)] w fun e w' => e = .returned (.int .i64 (bl x : Int)) ∧ w = w' := by
 have g1 : decide ((65536 : Int) ≤ (x : Int)) = false := decide_eq_false (by omega)
 have g2 : decide ((256 : Int) ≤ (x : Int)) = false := decide_eq_false (by omega)
 have g3 : (x : Int) % 256 = (x : Int) := by omega
 go_enter Tryz.func113, Tryz.ntmps113
 go_wp2
 go_ret
 refine ⟨ret_int ?_, rfl⟩
 clear g1 g2 g3
 rename_i h2
 have h3 : x < 256 := h
 clear h
 revert h2
 revert h3
 revert x
 decide +kernel
theorem bl_shift (k x : Nat) (h : 2 ^ k ≤ x) : bl x = k + bl (x / 2 ^ k) := by
 have hp : 0 < 2 ^ k := Nat.two_pow_pos k
 apply Nat.le_antisymm
 · rw [bl_le_iff, Nat.pow_add, Nat.mul_comm]
   exact (Nat.div_lt_iff_lt_mul hp).1 ((bl_le_iff _ _).1 (Nat.le_refl _))
 · have hx := (bl_le_iff x (bl x)).1 (Nat.le_refl _)
   have hk : k ≤ bl x := by
     rcases Nat.lt_or_ge (bl x) k with e | e
     · have := Nat.pow_le_pow_right (n := 2) (by omega) (Nat.le_of_lt e); omega
     · exact e
   have : bl (x / 2 ^ k) ≤ bl x - k := by
     rw [bl_le_iff, Nat.div_lt_iff_lt_mul hp, ← Nat.pow_add, Nat.sub_add_cancel hk]
     exact hx
   omega
set_option maxHeartbeats 1000000 in
theorem len32_big (x : Nat) (w : World) (h : x < 4294967296) (c1 : 65536 ≤ x) :
   Calls Tryz.prog 113 #[.int .u32 (x : Int)] w fun e w' => e = .returned (.int .i64 (bl x : Int)) ∧ w = w' := by
 have g1 : decide ((65536 : Int) ≤ (x : Int)) = true := decide_eq_true (by omega)
 have hb := bl_shift 16 x (by omega)
 rw [show 2 ^ 16 = 65536 from rfl] at hb
 have HB := Lib.hid hb
 have HX := Lib.hid h
 clear h c1 hb
 go_enter Tryz.func113, Tryz.ntmps113
 go_wp2
 all_goals
   go_ret
   refine ⟨ret_int ?_, rfl⟩
 · have hy : x / 65536 / 256 < 256 := by have := HX.out; omega
   have hb2 := bl_shift 8 (x / 65536) (by omega)
   rw [show 2 ^ 8 = 256 from rfl] at hb2
   rw [HB.out, hb2, ← getElem!_pos]
   clear HB HX g1 hb2
   rename_i h1 h2
   clear h1 h2
   rw [Nat.mod_eq_of_lt hy]
   revert hy
   generalize x / 65536 / 256 = y
   revert y
   decide +kernel
 · have hy : x / 65536 < 256 := by omega
   rw [HB.out, ← getElem!_pos]
   clear HB HX g1
   rename_i h1 h2
   clear h1 h2
   revert hy
   generalize x / 65536 = y
   revert y
   decide +kernel
set_option maxHeartbeats 1000000 in
theorem len32_mid (x : Nat) (w : World) (c1 : x < 65536) (c2 : 256 ≤ x) :
   Calls Tryz.prog 113 #[.int .u32 (x : Int)] w fun e w' => e = .returned (.int .i64 (bl x : Int)) ∧ w = w' := by
 have g1 : decide ((65536 : Int) ≤ (x : Int)) = false := decide_eq_false (by omega)
 have g2 : decide ((256 : Int) ≤ (x : Int)) = true := decide_eq_true (by omega)
 have hb := bl_shift 8 x (by omega)
 rw [show 2 ^ 8 = 256 from rfl] at hb
 have HB := Lib.hid hb
 have HX := Lib.hid c1
 clear c1 c2 hb
 go_enter Tryz.func113, Tryz.ntmps113
 go_wp2
 go_ret
 refine ⟨ret_int ?_, rfl⟩
 have hy : x / 256 < 256 := by have := HX.out; omega
 rw [HB.out, ← getElem!_pos, Nat.mod_eq_of_lt hy]
 clear HB HX g1 g2
 rename_i h1
 clear h1
 revert hy
 generalize x / 256 = y
 revert y
 decide +kernel
theorem len32_any (x : Nat) (w : World) (h : x < 4294967296) :
   Calls Tryz.prog 113 #[.int .u32 (x : Int)] w fun e w' => e = .returned (.int .i64 (bl x : Int)) ∧ w = w' := by
 by_cases c1 : 65536 ≤ x
 · exact len32_big x w h c1
 · by_cases c2 : 256 ≤ x
   · exact len32_mid x w (by omega) c2
   · exact len32_small x w (by omega)
end Go.Proofs.YtbcaggdgoidlaaaGreatDoor

namespace Go.Proofs.YtbcaggdgoidlaaaGreatDoor
open Go.RowKit Nm
set_option maxRecDepth 100000
set_option linter.unusedVariables false
set_option linter.unusedSimpArgs false
set_option maxHeartbeats 1000000 in
theorem nlen_any (A : Option Addr) (n c : Nat) (xs : List Nat) (w : World) (h : Wds w A n c xs) (hn : n ≤ 35184372088832) :
   Calls Tryz.prog 99 #[.slice A n c] w fun e w' => e = .returned (.int .i64 (bl (nv xs) : Int)) ∧ w = w' := by
 have hxl : nw (nv xs) ≤ xs.length := nw_nv_le h.ws
 have hlen := h.len
 by_cases h0 : nv xs = 0
 · have hz : nw (nv xs) ≤ 0 := by rw [h0, nw_zero]; omega
   have hf : (0 : Int) = (bl (nv xs) : Int) := by rw [h0]; rfl
   have HF := Lib.hid hf
   clear hf h0
   go_enter Tryz.func99, Tryz.ntmps99
   go_wp2_with (go_at_call 111; refine (nwords_any _ _ _ _ _ h hn).mono ?_; rintro e w' ⟨rfl, rfl⟩)
   go_ret
   exact ⟨ret_int HF.out, rfl⟩
 · obtain ⟨hk, ht, htop⟩ := top_word h.ws h0
   have hnp : 0 < nw (nv xs) := by
     rcases Nat.eq_zero_or_pos (nw (nv xs)) with e | e
     · exact absurd (nw_eq_zero.1 e) h0
     · exact e
   clear h0
   obtain ⟨ad, hx, rfl, hb, hc⟩ := h.at_ (k := nw (nv xs) - 1) (by omega)
   have hX := h.ws.get hx
   have HT := Lib.hid htop
   clear htop
   generalize hXe : xs[nw (nv xs) - 1] = X at *
   have HX := Lib.hid hXe
   clear hXe
   have HL := Lib.hid (fun w => len32_any X w hX)
   go_enter Tryz.func99, Tryz.ntmps99
   go_wp2_with (first | (go_at_call 111; refine (nwords_any _ _ _ _ _ h hn).mono ?_; rintro e w' ⟨rfl, rfl⟩) | (go_at_call 113; refine (HL.out _).mono ?_; rintro e w' ⟨rfl, rfl⟩))
   go_ret
   exact ⟨ret_int (by have h1 := HT.out; have h2 : bl X ≤ 32 := (bl_le_iff X 32).2 hX; unfold wrap64; omega), rfl⟩
end Go.Proofs.YtbcaggdgoidlaaaGreatDoor

namespace Go.Proofs.YtbcaggdgoidlaaaGreatDoor
open Go.RowKit Nm
set_option linter.unusedVariables false
set_option linter.unusedSimpArgs false
def Blk (w : World) (g : Nat) (t : TypeId) (cs : Array Value) : Prop := w.heap[g]? = some (.cells cs t (0, 0))
def NoInt (cs : Array Value) : Prop := ∀ (i : Nat) (k : IntKind) (x : Int), cs[i]? ≠ some (Value.int k x)
section
variable {w w' : World} {g : Nat} {t : TypeId} {cs : Array Value}
theorem Blk.lt (h : Blk w g t cs) : g < w.heap.size := by
 rcases Nat.lt_or_ge g w.heap.size with hlt | hge
 · exact hlt
 · unfold Blk at h; rw [Array.getElem?_eq_none hge] at h; cases h
theorem Blk.cell (h : Blk w g t cs) (i : Nat) : w.cell? ⟨g, i, none⟩ = cs[i]? := cell_of_row w g i cs t (0, 0) h
theorem Blk.frozen (h : Blk w g t cs) (i : Nat) : w.frozen? ⟨g, i, none⟩ = false := by
 unfold Blk at h
 simp [World.frozen?, h]
theorem Blk.new (w : World) (t : TypeId) (cs : Array Value) : Blk (w.alloc (.cells cs t)) w.heap.size t cs := heap_alloc_new w _
theorem Blk.ext (h : Blk w g t cs) (hb : Ext w w') : Blk w' g t cs := (Below.block hb g h.lt).trans h
theorem Blk.set_ (h : Blk w g t cs) (i : Nat) (u : Value) : Blk (w.setCell ⟨g, i, none⟩ u) g t (cs.setIfInBounds i u) := by
 unfold Blk at h ⊢
 simp [World.setCell, Array.getElem?_modify, h]
theorem Blk.far (h : Blk w g t cs) {p : Addr} (hp : g ≠ p.block) (u : Value) : Blk (w.setCell p u) g t cs := (Below.heap_setCell w p u g hp).trans h
theorem NoInt.set {cs : Array Value} (h : NoInt cs) (i : Nat) {u : Value} (hu : ∀ (k : IntKind) (x : Int), u ≠ Value.int k x) : NoInt (cs.setIfInBounds i u) := by
 intro j k x hj
 rw [Array.getElem?_setIfInBounds] at hj
 split at hj
 · split at hj
   · injection hj with hj; exact hu k x hj
   · cases hj
 · exact h j k x hj
theorem Wds.set_box {A : Option Addr} {n c : Nat} {xs : List Nat} (h : Wds w A n c xs) (hb : Blk w g t cs) (hcs : NoInt cs) (i : Nat) (u : Value) : Wds (w.setCell ⟨g, i, none⟩ u) A n c xs := by
 refine ⟨h.1, h.2.1, h.2.2.1, h.2.2.2.1, fun hn => ?_⟩
 obtain ⟨ad, e, hlt, hc⟩ := h.2.2.2.2 hn
 have hne : ad.block ≠ g := by
   intro hg
   have hx1 : 0 < xs.length := by have := h.1; omega
   have h1 := hc 0 _ (List.getElem?_eq_getElem hx1)
   have h2 : w.heap[(ad.add 0).block]? = some (.cells cs t (0, 0)) := by rw [block_of_add, hg]; exact hb
   unfold World.cell? at h1
   rw [h2] at h1
   simp only at h1
   split at h1
   · cases h1
   · exact hcs _ _ _ h1
 refine ⟨ad, e, by simpa [World.setCell] using hlt, fun k x hk => ?_⟩
 rw [← hc k x hk]
 exact World.cell?_of_block (Below.heap_setCell w ⟨g, i, none⟩ u _ (by rw [block_of_add]; exact hne))
theorem Wds.set_box3 {A : Option Addr} {n c : Nat} {xs : List Nat} (h : Wds w A n c xs) (hb : Blk w g t cs) (hcs : NoInt cs) {u0 u1 u2 : Value} (h0 : ∀ (k : IntKind) (x : Int), u0 ≠ Value.int k x) (h1 : ∀ (k : IntKind) (x : Int), u1 ≠ Value.int k x) :
   Wds (((w.setCell ⟨g, 0, none⟩ u0).setCell ⟨g, 1, none⟩ u1).setCell ⟨g, 2, none⟩ u2) A n c xs :=
 ((h.set_box hb hcs 0 u0).set_box (hb.set_ 0 u0) (hcs.set 0 h0) 1 u1).set_box ((hb.set_ 0 u0).set_ 1 u1) ((hcs.set 0 h0).set 1 h1) 2 u2
theorem Ext.set3 {w0 : World} (h : Ext w0 w) (hg : w0.heap.size ≤ g) (u0 u1 u2 : Value) : Ext w0 (((w.setCell ⟨g, 0, none⟩ u0).setCell ⟨g, 1, none⟩ u1).setCell ⟨g, 2, none⟩ u2) :=
 ((h.setCell hg u0).setCell hg u1).setCell hg u2
end
theorem noInt3 (b : Bool) (A : Option Addr) (n c : Nat) (B : Option Addr) (m d : Nat) : NoInt #[.bool b, .slice A n c, .slice B m d] := by
 intro i k x h
 match i, h with
 | 0, h => simp at h
 | 1, h => simp at h
 | 2, h => simp at h
 | i + 3, h => simp at h
end Go.Proofs.YtbcaggdgoidlaaaGreatDoor

namespace Go.Proofs.YtbcaggdgoidlaaaGreatDoor
open Go Go.RowKit Nm
set_option linter.unusedVariables false
set_option linter.unusedSimpArgs false
structure Bx where
 g : Nat
 t : TypeId
 cs : List Value
structure Sw where
 A : Option Addr
 n : Nat
 c : Nat
 xs : List Nat
def isU : Value → Bool
 | .int .u32 _ => true
 | _ => false
def Own (w0 : World) (L : List Bx) (W : List Sw) (w : World) : Prop :=
 Ext w0 w ∧ (∀ b ∈ L, w0.heap.size ≤ b.g ∧ Blk w b.g b.t b.cs.toArray ∧ b.cs.any isU = false) ∧ (L.map Bx.g).Nodup ∧ ∀ s ∈ W, Wds w s.A s.n s.c s.xs
def CF (w : World) (g : Nat) : Nat → List Value → Prop
 | _, [] => True
 | i, v :: vs => w.cell? ⟨g, i, none⟩ = some v ∧ w.frozen? ⟨g, i, none⟩ = false ∧ CF w g (i + 1) vs
def BF (w : World) : List Bx → Prop
 | [] => True
 | b :: L => b.g < w.heap.size ∧ CF w b.g 0 b.cs ∧ BF w L
section
variable {w0 w w' : World} {L : List Bx} {W : List Sw}
theorem CF.of {g : Nat} {t : TypeId} {full : List Value} (h : Blk w g t full.toArray) : ∀ (cs : List Value) (i : Nat), full.drop i = cs → CF w g i cs := by
 intro cs
 induction cs with
 | nil => intro i _; exact trivial
 | cons v vs ih =>
   intro i hi
   have h1 : full[i]? = some v := by
     have : (full.drop i)[0]? = some v := by rw [hi]; rfl
     simpa using this
   refine ⟨?_, h.frozen i, ih (i + 1) ?_⟩
   · rw [h.cell i]; simpa using h1
   · rw [← List.drop_drop, hi]; rfl
theorem BF.of : ∀ {L : List Bx}, (∀ b ∈ L, w0.heap.size ≤ b.g ∧ Blk w b.g b.t b.cs.toArray ∧ b.cs.any isU = false) → BF w L
 | [], _ => trivial
 | b :: L, h => ⟨(h b List.mem_cons_self).2.1.lt, CF.of (h b List.mem_cons_self).2.1 _ 0 rfl, BF.of fun b' hb => h b' (List.mem_cons_of_mem _ hb)⟩
theorem Own.facts (h : Own w0 L W w) : BF w L := BF.of h.2.1
theorem Own.toExt (h : Own w0 L W w) : Ext w0 w := h.1
theorem Own.start (w : World) : Own w [] [] w := ⟨Ext.refl w, (fun b hb => by cases hb), List.nodup_nil, (fun s hs => by cases hs)⟩
theorem Own.ext (h : Own w0 L W w) (e : Ext w w') : Own w0 L W w' :=
 ⟨h.1.trans e, fun b hb => ⟨(h.2.1 b hb).1, (h.2.1 b hb).2.1.ext e, (h.2.1 b hb).2.2⟩, h.2.2.1, fun s hs => (h.2.2.2 s hs).ext e⟩
theorem Own.add {A : Option Addr} {n c : Nat} {xs : List Nat} (h : Own w0 L W w) (k : Wds w A n c xs) : Own w0 L (⟨A, n, c, xs⟩ :: W) w :=
 ⟨h.1, h.2.1, h.2.2.1, fun s hs => by rcases List.mem_cons.1 hs with rfl | hs; exact k; exact h.2.2.2 s hs⟩
theorem Own.wd {A : Option Addr} {n c : Nat} {xs : List Nat} (h : Own w0 L W w) (i : Nat) (hi : W[i]? = some ⟨A, n, c, xs⟩) : Wds w A n c xs :=
 h.2.2.2 _ (List.mem_of_getElem? hi)
theorem Own.blk {g : Nat} {t : TypeId} {cs : List Value} (h : Own w0 L W w) (i : Nat) (hi : L[i]? = some ⟨g, t, cs⟩) : Blk w g t cs.toArray :=
 (h.2.1 _ (List.mem_of_getElem? hi)).2.1
theorem Own.alloc (h : Own w0 L W w) (t : TypeId) (cs : List Value) (hu : cs.any isU = false) : Own w0 (⟨w.heap.size, t, cs⟩ :: L) W (w.alloc (.cells cs.toArray t)) := by
 have e : Ext w (w.alloc (.cells cs.toArray t)) := (Ext.refl w).alloc _
 refine ⟨h.1.trans e, fun b hb => ?_, ?_, fun s hs => (h.2.2.2 s hs).ext e⟩
 · rcases List.mem_cons.1 hb with rfl | hb
   · exact ⟨h.1.size, Blk.new w t _, hu⟩
   · exact ⟨(h.2.1 b hb).1, (h.2.1 b hb).2.1.ext e, (h.2.1 b hb).2.2⟩
 · rw [List.map_cons, List.nodup_cons]
   refine ⟨fun hm => ?_, h.2.2.1⟩
   obtain ⟨b, hb, hg⟩ := List.mem_map.1 hm
   have := (h.2.1 b hb).2.1.lt
   rw [hg] at this
   exact Nat.lt_irrefl _ this
theorem Wds.set_nu {g : Nat} {t : TypeId} {cs : Array Value} {A : Option Addr} {n c : Nat} {xs : List Nat} (h : Wds w A n c xs) (hb : Blk w g t cs) (hcs : ∀ (i : Nat) (x : Int), cs[i]? ≠ some (Value.int .u32 x)) (i : Nat) (u : Value) : Wds (w.setCell ⟨g, i, none⟩ u) A n c xs := by
 refine ⟨h.1, h.2.1, h.2.2.1, h.2.2.2.1, fun hn => ?_⟩
 obtain ⟨ad, e, hlt, hc⟩ := h.2.2.2.2 hn
 have hne : ad.block ≠ g := by
   intro hg
   have hx1 : 0 < xs.length := by have := h.1; omega
   have h1 := hc 0 _ (List.getElem?_eq_getElem hx1)
   have h2 : w.heap[(ad.add 0).block]? = some (.cells cs t (0, 0)) := by rw [block_of_add, hg]; exact hb
   unfold World.cell? at h1
   rw [h2] at h1
   simp only at h1
   split at h1
   · cases h1
   · exact hcs _ _ h1
 refine ⟨ad, e, by simpa [World.setCell] using hlt, fun k x hk => ?_⟩
 rw [← hc k x hk]
 exact World.cell?_of_block (Below.heap_setCell w ⟨g, i, none⟩ u _ (by rw [block_of_add]; exact hne))
theorem any_isU {cs : List Value} (h : cs.any isU = false) : ∀ (i : Nat) (x : Int), cs.toArray[i]? ≠ some (Value.int .u32 x) := by
 intro i x hx
 have h1 : cs[i]? = some (Value.int .u32 x) := by simpa using hx
 have h2 := List.mem_of_getElem? h1
 have : cs.any isU = true := List.any_eq_true.2 ⟨_, h2, rfl⟩
 rw [h] at this; cases this
theorem Own.set (h : Own w0 L W w) (i : Nat) {b : Bx} (hi : L[i]? = some b) (j : Nat) (u : Value) (hu : isU u = false) :
   Own w0 (L.set i ⟨b.g, b.t, b.cs.set j u⟩) W (w.setCell ⟨b.g, j, none⟩ u) := by
 have hbm := List.mem_of_getElem? hi
 obtain ⟨hb0, hb1, hb2⟩ := h.2.1 b hbm
 have hil : i < L.length := (List.getElem?_eq_some_iff.1 hi).1
 have hmap : (L.set i ⟨b.g, b.t, b.cs.set j u⟩).map Bx.g = L.map Bx.g := by
   rw [List.map_set]
   apply List.ext_getElem?
   intro k
   rw [List.getElem?_set]
   split
   · rename_i hk
     subst hk
     rw [List.getElem?_map, hi]
     simp [hil]
   · rfl
 refine ⟨h.1.setCell hb0 u, fun c hc => ?_, by rw [hmap]; exact h.2.2.1, fun s hs => (h.2.2.2 s hs).set_nu hb1 (any_isU hb2) j u⟩
 obtain ⟨k, hk⟩ := List.getElem?_of_mem hc
 rw [List.getElem?_set] at hk
 split at hk
 · rename_i hik
   injection hk with hk
   subst hk
   refine ⟨hb0, ?_, ?_⟩
   · have := hb1.set_ j u
     simpa using this
   · apply Bool.eq_false_iff.2
     intro ha
     obtain ⟨v, hv, hv1⟩ := List.any_eq_true.1 ha
     rcases List.mem_or_eq_of_mem_set hv with hv | rfl
     · have : b.cs.any isU = true := List.any_eq_true.2 ⟨v, hv, hv1⟩
       rw [hb2] at this; cases this
     · rw [hu] at hv1; cases hv1
 · rename_i hik
   have hcm := List.mem_of_getElem? hk
   obtain ⟨hc0, hc1, hc2⟩ := h.2.1 c hcm
   refine ⟨hc0, hc1.far ?_ u, hc2⟩
   intro hg
   have hg' : c.g = b.g := hg
   have n := h.2.2.1
   rw [List.nodup_iff_pairwise_ne, List.pairwise_iff_getElem] at n
   have hkl : k < L.length := (List.getElem?_eq_some_iff.1 hk).1
   have a1 : L[i] = b := (List.getElem?_eq_some_iff.1 hi).2
   have a2 : L[k] = c := (List.getElem?_eq_some_iff.1 hk).2
   rcases Nat.lt_trichotomy i k with h3 | h3 | h3
   · have := n i k (by simpa using hil) (by simpa using hkl) h3
     simp [a1, a2, hg'] at this
   · exact hik h3
   · have := n k i (by simpa using hkl) (by simpa using hil) h3
     simp [a1, a2, hg'] at this
def spl : List Value → Nat → List Value → List Value
 | cs, _, [] => cs
 | cs, j, v :: vs => spl (cs.set j v) (j + 1) vs
def setN (w : World) (g : Nat) : Nat → List Value → World
 | _, [] => w
 | j, v :: vs => setN (w.setCell ⟨g, j, none⟩ v) g (j + 1) vs
theorem Own.setN : ∀ (vs : List Value) {w : World} {L : List Bx} (h : Own w0 L W w) (i : Nat) {b : Bx} (hi : L[i]? = some b) (j : Nat) (hu : vs.any isU = false),
   Own w0 (L.set i ⟨b.g, b.t, spl b.cs j vs⟩) W (setN w b.g j vs)
 | [], w, L, h, i, b, hi, j, _ => by
   have : L.set i ⟨b.g, b.t, spl b.cs j []⟩ = L := by
     apply List.ext_getElem?
     intro k
     rw [List.getElem?_set]
     split
     · rename_i hk; subst hk
       have hil : i < L.length := (List.getElem?_eq_some_iff.1 hi).1
       rw [if_pos hil, hi]; rfl
     · rfl
   rw [this]; exact h
 | v :: vs, w, L, h, i, b, hi, j, hu => by
   rw [List.any_cons, Bool.or_eq_false_iff] at hu
   have h1 := h.set i hi j v hu.1
   have hil : i < L.length := (List.getElem?_eq_some_iff.1 hi).1
   have h2 := Own.setN vs h1 i (b := ⟨b.g, b.t, b.cs.set j v⟩) (by simp [hil]) (j + 1) hu.2
   rw [List.set_set] at h2
   exact h2
end
section
variable {P : Program} {ops : Array Oper} {Q : Exit → Act → World → Prop} {a : Act} {w w0 : World} {rest : List Oper} {L : List Bx} {W : List Sw} {T ty : TypeId} {ps : String} {af : Array Edge} {x y : Operand} {d : Tmp}
theorem wpList_of_run {o : Oper} (hg : o.guard = none) {v : Value} {w' : World} (hr : (execOp a.eval o).run P w = .ok (.value v) w') (h : wpList P ops Q rest (a.put o.dst v) w') : wpList P ops Q (o :: rest) a w := by
 refine wpList_plain hg fun K hK => ?_
 unfold Oper.wp
 rw [hr]
 exact hK _ _ h
theorem wpList_of_skip {o : Oper} (hg : o.guard = none) {w' : World} (hr : (execOp a.eval o).run P w = .ok .skip w') (h : wpList P ops Q rest (a.put o.dst undef) w') : wpList P ops Q (o :: rest) a w := by
 refine wpList_plain hg fun K hK => ?_
 unfold Oper.wp
 rw [hr]
 exact hK _ _ h
theorem own_box (hO : Own w0 L W w) {cs : List Value} (hcs : (a.eval x).cells = cs.toArray) (hu : cs.any isU = false)
   (h : ∀ g w', Own w0 (⟨g, T, cs⟩ :: L) W w' → wpList P ops Q rest (a.put (some d) (.pointer (some ⟨g, 0, none⟩))) w') :
   wpList P ops Q ({ dst := some d, op := .box T x, type := ty, pos := ps, after := af, guard := none } :: rest) a w := by
 refine wpList_of_run rfl ?_ (h _ _ (hO.alloc T cs hu))
 simp [execOp, Instr.box, newVar, newRow, hcs]
theorem own_alloc (hO : Own w0 L W w) {z : Value} (hz : ∀ w, (zeroValue T).run P w = .ok z w) {cs : List Value} (hcs : z.cells = cs.toArray) (hu : cs.any isU = false)
   (h : ∀ g w', Own w0 (⟨g, T, cs⟩ :: L) W w' → wpList P ops Q rest (a.put (some d) (.pointer (some ⟨g, 0, none⟩))) w') :
   wpList P ops Q ({ dst := some d, op := .alloc T, type := ty, pos := ps, after := af, guard := none } :: rest) a w := by
 refine wpList_of_run rfl ?_ (h _ _ (hO.alloc T cs hu))
 simp [execOp, Instr.alloc, newVar, newRow, hcs, hz]
theorem run_storeCells : ∀ (vs : List Value) (w : World) (g off i : Nat) (t : TypeId) (cs : List Value), Blk w g t cs.toArray → off + i + vs.length ≤ cs.length → vs.all Value.oneCell' = true →
   (storeCells ⟨g, off, none⟩ vs i).run P w = .ok () (setN w g (off + i) vs)
 | [], w, g, off, i, t, cs, _, _, _ => by simp [storeCells, setN]
 | v :: vs, w, g, off, i, t, cs, hb, hl, h1 => by
   rw [List.all_cons, Bool.and_eq_true] at h1
   rw [List.length_cons] at hl
   have hadd : (⟨g, off, none⟩ : Addr).add i = ⟨g, off + i, none⟩ := Addr.add_lit g off i
   have hc : w.cell? ⟨g, off + i, none⟩ = some (cs[off + i]'(by omega)) := by rw [hb.cell]; simp
   have hf := hb.frozen (off + i)
   have hb2 := hb.set_ (off + i) v
   have ih := run_storeCells vs (w.setCell ⟨g, off + i, none⟩ v) g off (i + 1) t (cs.set (off + i) v) (by simpa using hb2) (by simp; omega) h1.2
   simp only [storeCells, hadd, Sem.run_bind, run_store P w _ v _ h1.1, hc, hf, Bool.false_eq_true, if_false, Result.andThen, ih]
   rfl
theorem own_store (hO : Own w0 L W w) (i : Nat) {b : Bx} (hb : L[i]? = some b) {off : Nat} (hx : a.eval x = .pointer (some ⟨b.g, off, none⟩)) {vs : List Value} (hvs : (a.eval y).cells = vs.toArray)
   (hsz : ∀ w, (sizeOf T).run P w = .ok vs.length w) (h1 : vs.all Value.oneCell' = true) (hu : vs.any isU = false) (hle : Nat.ble (off + vs.length) b.cs.length = true)
   (h : ∀ w', Own w0 (L.set i ⟨b.g, b.t, spl b.cs off vs⟩) W w' → wpList P ops Q rest a w') :
   wpList P ops Q ({ dst := none, op := .store T x y, type := ty, pos := ps, after := af, guard := none } :: rest) a w := by
 refine wpList_of_skip rfl ?_ (h _ (hO.setN vs i hb off hu))
 have hB := (hO.2.1 b (List.mem_of_getElem? hb)).2.1
 have := run_storeCells (P := P) vs w b.g off 0 b.t b.cs hB (by have := Nat.le_of_ble_eq_true hle; omega) h1
 simp [execOp, Instr.storeAt, hx, Instr.sureAddr, storeVar, hvs, hsz, this]
theorem run_loadCells {g off : Nat} {t : TypeId} {cs : List Value} (hb : Blk w g t cs.toArray) : ∀ (n i : Nat) (acc : Array Value), off + i + n ≤ cs.length →
   (loadCellsFrom ⟨g, off, none⟩ i n acc).run P w = .ok (acc ++ ((cs.drop (off + i)).take n).toArray) w
 | 0, i, acc, _ => by simp [loadCellsFrom]
 | n + 1, i, acc, hl => by
   have hadd : (⟨g, off, none⟩ : Addr).add i = ⟨g, off + i, none⟩ := Addr.add_lit g off i
   have hc : w.cell? ⟨g, off + i, none⟩ = some (cs[off + i]'(by omega)) := by rw [hb.cell]; simp
   have ih := run_loadCells (off := off) hb n (i + 1) (acc.push (cs[off + i]'(by omega))) (by omega)
   simp only [loadCellsFrom, hadd, Sem.run_bind, run_load, hc, Result.andThen, ih]
   congr 1
   rw [List.drop_eq_getElem_cons (show off + i < cs.length by omega), List.take_succ_cons, show off + (i + 1) = off + i + 1 by omega]
   apply Array.toList_inj.1
   simp
theorem run_loadBox {g : Nat} {t : TypeId} {cs : List Value} (hb : Blk w g t cs.toArray) (hag : (isAgg T).run P w = .ok true w) (hsz : (sizeOf T).run P w = .ok cs.length w) :
   (loadVar T ⟨g, 0, none⟩).run P w = .ok (.agg cs.toArray) w := by
 have := run_loadCells (P := P) (off := 0) hb cs.length 0 #[] (by omega)
 simp [loadVar, hag, hsz, loadCells, this]
theorem own_ret {fn : Func} {R : Ending → World → Prop} (hO : Own w0 L W w) (i : Nat) {g : Nat} {t : TypeId} {cs : List Value} (hb : L[i]? = some ⟨g, t, cs⟩) (hr : fn.results = #[.cell d T]) (ha : a.tmps.getD d undef = .pointer (some ⟨g, 0, none⟩))
   (hag : ∀ w, (isAgg T).run P w = .ok true w) (hsz : ∀ w, (sizeOf T).run P w = .ok cs.length w) (hd : a.defers = []) (hR : R (.returned (.agg cs.toArray)) w) : bodyPost P fn R .ret a w := by
 have h1 := run_loadBox (P := P) (hO.blk i hb) (hag w) (hsz w)
 refine bodyPost_ret (v := .agg cs.toArray) ?_ hd hR
 rw [Array.getD_eq_getD_getElem?] at ha
 simp [results, hr, ha, asAddr, h1]
end
@[go_sem high] theorem sliced_zero (a : Option Addr) (h m s : Nat) : sliced a 0 h m s = .slice a h m := by
 unfold sliced
 simp only [Nat.zero_mul, Nat.sub_zero]
 congr 1
 split
 · rfl
 · cases a <;> simp [Addr.add]
end Go.Proofs.YtbcaggdgoidlaaaGreatDoor

namespace Go.Proofs.YtbcaggdgoidlaaaGreatDoor
open Go.RowKit Nm
set_option maxRecDepth 100000
set_option linter.unusedVariables false
set_option linter.unusedSimpArgs false
def RetWE (V : Nat) (x : Int) (w : World) (e : Ending) (w' : World) : Prop := ∃ A n c, e = .returned (.tuple #[.slice A n c, .int .i64 x]) ∧ Wds w' A n c (nd V) ∧ Ext w w'
def isLong (s : Sw) : Bool := decide (16384 < nw (nv s.xs))
set_option maxHeartbeats 1000000 in
theorem nlong_any (g k c : Nat) (ss : List Sw) (w : World) (hk : ss.length = k) (hkb : k ≤ 1000) (hc : ∀ i s, ss[i]? = some s → w.cell? ⟨g, i, none⟩ = some (.slice s.A s.n s.c)) (hs : ∀ s ∈ ss, Wds w s.A s.n s.c s.xs ∧ s.n ≤ 35184372088832) :
   Calls Tryz.prog 96 #[.slice (some ⟨g, 0, none⟩) k c] w fun e w' => e = .returned (.bool (ss.any isLong)) ∧ w = w' := by
 have HC := Lib.hid hc
 have HS := Lib.hid hs
 clear hc hs
 go_enter Tryz.func96, Tryz.ntmps96
 go_wp2
 go_loop [7] (fun t => ∃ i : Nat, i ≤ k ∧ t = .int .i64 i ∧ Hid ((ss.take i).any isLong = false)) (fun t => k - (intOf t).toNat)
 case atStart => exact ⟨0, Nat.zero_le _, rfl, Lib.hid rfl⟩
 case round =>
   obtain ⟨i, hi, rfl, hno⟩ := hrel
   by_cases hlt : i < k
   · obtain ⟨s, hsi⟩ : ∃ s, ss[i]? = some s := ⟨ss[i]'(by omega), List.getElem?_eq_getElem (by omega)⟩
     have hcell := HC.out i s hsi
     have hw := HS.out s (List.mem_of_getElem? hsi)
     have hnw := nwords_any s.A s.n s.c s.xs w hw.1 hw.2
     have hst : (ss.take (i + 1)).any isLong = isLong s := by
       rw [List.take_add_one, List.any_append, hno.out, hsi]; simp
     have HST := Lib.hid hst
     have HMEM := Lib.hid (List.mem_of_getElem? hsi)
     obtain ⟨m, hm⟩ : ∃ m, m = nw (nv s.xs) := ⟨_, rfl⟩
     have hL : isLong s = decide (16384 < m) := by rw [hm]; rfl
     rw [← hm] at hnw
     have HN := Lib.hid hnw
     have HLL := Lib.hid hL
     clear hst hnw hw hm hL hsi
     by_cases hb : 16384 < m
     · go_wp2_with (go_at_call 111; refine HN.out.mono ?_; rintro e w' ⟨rfl, rfl⟩)
       go_ret
       exact ⟨ret_bool (by
         symm
         exact List.any_eq_true.2 ⟨s, HMEM.out, by rw [HLL.out]; exact decide_eq_true hb⟩), rfl⟩
     · go_wp2_with (go_at_call 111; refine HN.out.mono ?_; rintro e w' ⟨rfl, rfl⟩)
       go_round
       case rel => exact ⟨i + 1, by omega, by go_num, Lib.hid (by rw [HST.out, HLL.out]; exact decide_eq_false hb)⟩
       case measure => simp [intOf]; omega
   · have HF : Hid (ss.any isLong = false) := Lib.hid (by
       have := hno.out
       rwa [List.take_of_length_le (by omega)] at this)
     go_wp2
     go_ret
     exact ⟨ret_bool HF.out.symm, rfl⟩
set_option maxHeartbeats 1000000 in
theorem nfit_any (A : Option Addr) (n c : Nat) (xs : List Nat) (w : World) (h : Wds w A n c xs) (hn : n ≤ 35184372088832) (hs : nw (nv xs) ≤ 16384) :
   Calls Tryz.prog 130 #[.slice A n c] w (RetWE (nv xs) 0 w) := by
 go_enter Tryz.func130, Tryz.ntmps130
 go_wp2_with (go_at_call 100; refine (ncut_any _ _ _ _ _ h hn).mono ?_; rintro e w' ⟨A2, m, c2, rfl, hR, hE⟩; have hm := Lib.hid hR.len; have hm2 : m ≤ 16384 := by (rw [← hm.out, nd_length]; exact hs))
 go_ret2
 exact ⟨_, _, _, rfl, hR, hE⟩
theorem copy32 (dT sT ty : TypeId) (g m : Nat) (A : Option Addr) (n c : Nat) (L xs : List Nat) (w : World) (hr : Row w g L) (hL : L.length = m) (h : Wds w A n c xs) (hmn : m ≤ n) (hu : Tryz.prog.underlying dT = some (.slice 61)) :
   ∃ w', (Builtin.copy_ #[dT, sT] ty #[.slice (some ⟨g, 0, none⟩) m m, .slice A n c]).run Tryz.prog w = .ok (.int .i64 (m : Int)) w' ∧ Row w' g (xs.take m) ∧ ∀ w0 : World, Ext w0 w → w0.heap.size ≤ g → Ext w0 w' := by
 have hn0 : 0 < n → ∃ ad, A = some ad ∧ ad.block < w.heap.size ∧ ∀ (k x : Nat), xs[k]? = some x → w.cell? (ad.add k) = some (.int .u32 (x : Int)) := h.2.2.2.2
 have hsz : (Tryz.prog.info? 61).map (·.size) = some 1 := by kernel_rfl
 have hxl := h.len
 have key : ∀ a : Addr, (∀ (k x : Nat), xs[k]? = some x → w.cell? (a.add k) = some (.int .u32 (x : Int))) → A = some a →
     ∃ w', (Builtin.copy_ #[dT, sT] ty #[.slice (some ⟨g, 0, none⟩) m m, .slice A n c]).run Tryz.prog w = .ok (.int .i64 (m : Int)) w' ∧ Row w' g (xs.take m) ∧ ∀ w0 : World, Ext w0 w → w0.heap.size ≤ g → Ext w0 w' := by
   intro a hc hA
   subst hA
   have hcs : (u32s (xs.take m)).length = m := by rw [u32s_length, List.length_take]; omega
   have hrun := run_copy_row Tryz.prog w dT sT ty 61 g 0 m m a n c (u32s L).toArray 61 (u32s (xs.take m)) hu hsz hr (by rw [hcs]; exact (Nat.min_eq_right hmn).symm) (fun j v hj => by
     have h1 : (u32s xs)[j]? = some v := by
       unfold u32s at hj ⊢
       rw [List.map_take] at hj
       rw [List.getElem?_take] at hj
       split at hj
       · exact hj
       · cases hj
     unfold u32s at h1
     rw [List.getElem?_map] at h1
     cases hx : xs[j]? with
     | none => rw [hx] at h1; cases h1
     | some x => rw [hx] at h1; injection h1 with h1; subst h1; exact hc j x hx) (by rw [hcs]; simp [u32s, hL]) (fun v hv => by
     unfold u32s at hv
     obtain ⟨x, _, rfl⟩ := List.mem_map.1 hv
     rfl)
   rw [hcs] at hrun
   refine ⟨_, hrun, ?_, fun w0 hE hg => ?_⟩
   · have : (List.take 0 (u32s L).toArray.toList ++ u32s (List.take m xs) ++ List.drop (0 + m) (u32s L).toArray.toList) = u32s (xs.take m) := by
       rw [List.drop_of_length_le (by simp [u32s, hL])]; simp
     rw [this]
     exact setRow_heap w g _ _ _ _ hr
   · exact below_setRow hE hg _
 by_cases h0 : n = 0
 · have hm0 : m = 0 := by omega
   have hx0 : xs = [] := List.length_eq_zero_iff.1 (by omega)
   cases A with
   | some ad => exact key ad (fun k x hx => by rw [hx0] at hx; simp at hx) rfl
   | none =>
     subst h0 hm0
     refine ⟨w, ?_, by rw [hx0]; rw [List.length_eq_zero_iff.1 hL] at hr; exact hr, fun w0 hE _ => hE⟩
     cases hq : Tryz.prog.info? 61 with
     | none => simp [hq] at hsz
     | some i => simp [Builtin.copy_, run_underlying hu, Builtin.lenOf, Builtin.firstCells, sizeOf, typeInfo, hq, storeCells, goInt]
 · obtain ⟨ad, e, _, hc⟩ := hn0 (by omega)
   exact key ad hc e
set_option maxHeartbeats 1000000 in
theorem nnorm_any (A : Option Addr) (n c : Nat) (xs : List Nat) (w : World) (h : Wds w A n c xs) (hn : n ≤ 35184372088832) :
   Calls Tryz.prog 98 #[.slice A n c] w fun e w' => ∃ g m, e = .returned (.slice (some ⟨g, 0, none⟩) m m) ∧ Row w' g (nd (nv xs)) ∧ w.heap.size ≤ g ∧ m = nw (nv xs) ∧ Ext w w' := by
 have hnw := nwords_any A n c xs w h hn
 have hle : nw (nv xs) ≤ n := by have := nw_nv_le h.ws; have := h.len; omega
 obtain ⟨m, hm⟩ : ∃ m, m = nw (nv xs) := ⟨_, rfl⟩
 rw [← hm] at hnw hle
 have hmk := run_make32 m (by omega) w
 have hr0 := Row.new w (List.replicate m 0)
 have hE0 : Ext w (w.alloc (.cells (u32s (List.replicate m 0)).toArray 61)) := (Ext.refl w).alloc _
 have h1 := h.ext hE0
 obtain ⟨w1, hw1⟩ : ∃ w1, w1 = w.alloc (.cells (u32s (List.replicate m 0)).toArray 61) := ⟨_, rfl⟩
 rw [← hw1] at hmk hr0 hE0 h1
 clear hw1
 obtain ⟨g, hg⟩ : ∃ g, g = w.heap.size := ⟨_, rfl⟩
 rw [← hg] at hmk hr0
 have hgl : w.heap.size ≤ g := by omega
 clear hg
 obtain ⟨w2, hcp, hr2, hE2⟩ := copy32 35 35 3 g m A n c (List.replicate m 0) xs w1 hr0 (by simp) h1 hle Tryz.underlying35
 have hE3 := hE2 w hE0 hgl
 have ht : xs.take m = nd (nv xs) := by rw [hm]; exact (nd_take h.ws).symm
 rw [ht] at hr2
 have HN := Lib.hid hnw
 have HM := Lib.hid hm
 have HR := Lib.hid hr2
 have HE := Lib.hid hE3
 clear hnw hm hr2 hE3 hE2 hr0 hE0 h1 h ht
 go_enter Tryz.func98, Tryz.ntmps98
 go_wp2_with (go_at_call 111; refine HN.out.mono ?_; rintro e w' ⟨rfl, rfl⟩)
 go_ret
 exact ⟨g, m, rfl, HR.out, hgl, HM.out, HE.out⟩
end Go.Proofs.YtbcaggdgoidlaaaGreatDoor
