/-
  Plain, over whatever program: what a call owns: its boxes, known whole, and the lists of words that it may read; what a store, a new box or a call leaves of them. Conditions: those that each theorem names.
-/
import Derived.Test.YtadijoeeaineaaaGreatDoorQ07
import Derived.Test.YtadijoeeaineaaaGreatDoorQ01
namespace Go.Proofs.YtadijoeeaineaaaGreatDoor
open Go Go.RowKit Nm
set_option linter.unusedVariables false
set_option linter.unusedSimpArgs false

/-- A box of the call's own: its block, its type, its cells. -/
structure Bx where
  g : Nat
  t : TypeId
  cs : List Value
/-- A list of words in memory. -/
structure Sw where
  A : Option Addr
  n : Nat
  c : Nat
  xs : List Nat

def isU : Value → Bool
  | .int .u32 _ => true
  | _ => false

def Own (w0 : World) (L : List Bx) (W : List Sw) (w : World) : Prop :=
  Ext w0 w ∧ (∀ b ∈ L, w0.heap.size ≤ b.g ∧ Blk w b.g b.t b.cs.toArray ∧ b.cs.any isU = false) ∧ (L.map Bx.g).Nodup ∧ ∀ s ∈ W, Wds w s.A s.n s.c s.xs

/-- The cells of a box, one by one. -/
def CF (w : World) (g : Nat) : Nat → List Value → Prop
  | _, [] => True
  | i, v :: vs => w.cell? ⟨g, i, none⟩ = some v ∧ w.frozen? ⟨g, i, none⟩ = false ∧ CF w g (i + 1) vs
def BF (w : World) : List Bx → Prop
  | [] => True
  | b :: L => b.g < w.heap.size ∧ CF w b.g 0 b.cs ∧ BF w L

section
variable {w0 w w' : World} {L : List Bx} {W : List Sw}
theorem CF.of {g : Nat} {t : TypeId} {full : List Value} (h : Blk w g t full.toArray) : ∀ (cs : List Value) (i : Nat), full.drop i = cs → CF w g i cs := by
  intro cs
  induction cs with
  | nil => intro i _; exact trivial
  | cons v vs ih =>
    intro i hi
    have h1 : full[i]? = some v := by
      have : (full.drop i)[0]? = some v := by rw [hi]; rfl
      simpa using this
    refine ⟨?_, h.frozen i, ih (i + 1) ?_⟩
    · rw [h.cell i]; simpa using h1
    · rw [← List.drop_drop, hi]; rfl
theorem BF.of : ∀ {L : List Bx}, (∀ b ∈ L, w0.heap.size ≤ b.g ∧ Blk w b.g b.t b.cs.toArray ∧ b.cs.any isU = false) → BF w L
  | [], _ => trivial
  | b :: L, h => ⟨(h b List.mem_cons_self).2.1.lt, CF.of (h b List.mem_cons_self).2.1 _ 0 rfl, BF.of fun b' hb => h b' (List.mem_cons_of_mem _ hb)⟩
theorem Own.facts (h : Own w0 L W w) : BF w L := BF.of h.2.1
theorem Own.toExt (h : Own w0 L W w) : Ext w0 w := h.1
theorem Own.start (w : World) : Own w [] [] w := ⟨Ext.refl w, (fun b hb => by cases hb), List.nodup_nil, (fun s hs => by cases hs)⟩
theorem Own.ext (h : Own w0 L W w) (e : Ext w w') : Own w0 L W w' :=
  ⟨h.1.trans e, fun b hb => ⟨(h.2.1 b hb).1, (h.2.1 b hb).2.1.ext e, (h.2.1 b hb).2.2⟩, h.2.2.1, fun s hs => (h.2.2.2 s hs).ext e⟩
theorem Own.add {A : Option Addr} {n c : Nat} {xs : List Nat} (h : Own w0 L W w) (k : Wds w A n c xs) : Own w0 L (⟨A, n, c, xs⟩ :: W) w :=
  ⟨h.1, h.2.1, h.2.2.1, fun s hs => by rcases List.mem_cons.1 hs with rfl | hs; exact k; exact h.2.2.2 s hs⟩
theorem Own.wd {A : Option Addr} {n c : Nat} {xs : List Nat} (h : Own w0 L W w) (i : Nat) (hi : W[i]? = some ⟨A, n, c, xs⟩) : Wds w A n c xs :=
  h.2.2.2 _ (List.mem_of_getElem? hi)
theorem Own.blk {g : Nat} {t : TypeId} {cs : List Value} (h : Own w0 L W w) (i : Nat) (hi : L[i]? = some ⟨g, t, cs⟩) : Blk w g t cs.toArray :=
  (h.2.1 _ (List.mem_of_getElem? hi)).2.1
theorem Own.alloc (h : Own w0 L W w) (t : TypeId) (cs : List Value) (hu : cs.any isU = false) : Own w0 (⟨w.heap.size, t, cs⟩ :: L) W (w.alloc (.cells cs.toArray t)) := by
  have e : Ext w (w.alloc (.cells cs.toArray t)) := (Ext.refl w).alloc _
  refine ⟨h.1.trans e, fun b hb => ?_, ?_, fun s hs => (h.2.2.2 s hs).ext e⟩
  · rcases List.mem_cons.1 hb with rfl | hb
    · exact ⟨h.1.size, Blk.new w t _, hu⟩
    · exact ⟨(h.2.1 b hb).1, (h.2.1 b hb).2.1.ext e, (h.2.1 b hb).2.2⟩
  · rw [List.map_cons, List.nodup_cons]
    refine ⟨fun hm => ?_, h.2.2.1⟩
    obtain ⟨b, hb, hg⟩ := List.mem_map.1 hm
    have := (h.2.1 b hb).2.1.lt
    rw [hg] at this
    exact Nat.lt_irrefl _ this

theorem Wds.set_nu {g : Nat} {t : TypeId} {cs : Array Value} {A : Option Addr} {n c : Nat} {xs : List Nat} (h : Wds w A n c xs) (hb : Blk w g t cs) (hcs : ∀ (i : Nat) (x : Int), cs[i]? ≠ some (Value.int .u32 x)) (i : Nat) (u : Value) : Wds (w.setCell ⟨g, i, none⟩ u) A n c xs := by
  refine ⟨h.1, h.2.1, h.2.2.1, h.2.2.2.1, fun hn => ?_⟩
  obtain ⟨ad, e, hlt, hc⟩ := h.2.2.2.2 hn
  have hne : ad.block ≠ g := by
    intro hg
    have hx1 : 0 < xs.length := by have := h.1; omega
    have h1 := hc 0 _ (List.getElem?_eq_getElem hx1)
    have h2 : w.heap[(ad.add 0).block]? = some (.cells cs t (0, 0)) := by rw [block_of_add, hg]; exact hb
    unfold World.cell? at h1
    rw [h2] at h1
    simp only at h1
    split at h1
    · cases h1
    · exact hcs _ _ h1
  refine ⟨ad, e, by simpa [World.setCell] using hlt, fun k x hk => ?_⟩
  rw [← hc k x hk]
  exact World.cell?_of_block (Below.heap_setCell w ⟨g, i, none⟩ u _ (by rw [block_of_add]; exact hne))

theorem any_isU {cs : List Value} (h : cs.any isU = false) : ∀ (i : Nat) (x : Int), cs.toArray[i]? ≠ some (Value.int .u32 x) := by
  intro i x hx
  have h1 : cs[i]? = some (Value.int .u32 x) := by simpa using hx
  have h2 := List.mem_of_getElem? h1
  have : cs.any isU = true := List.any_eq_true.2 ⟨_, h2, rfl⟩
  rw [h] at this; cases this

/-- One cell of one box is written. -/
theorem Own.set (h : Own w0 L W w) (i : Nat) {b : Bx} (hi : L[i]? = some b) (j : Nat) (u : Value) (hu : isU u = false) :
    Own w0 (L.set i ⟨b.g, b.t, b.cs.set j u⟩) W (w.setCell ⟨b.g, j, none⟩ u) := by
  have hbm := List.mem_of_getElem? hi
  obtain ⟨hb0, hb1, hb2⟩ := h.2.1 b hbm
  have hil : i < L.length := (List.getElem?_eq_some_iff.1 hi).1
  have hmap : (L.set i ⟨b.g, b.t, b.cs.set j u⟩).map Bx.g = L.map Bx.g := by
    rw [List.map_set]
    apply List.ext_getElem?
    intro k
    rw [List.getElem?_set]
    split
    · rename_i hk
      subst hk
      rw [List.getElem?_map, hi]
      simp [hil]
    · rfl
  refine ⟨h.1.setCell hb0 u, fun c hc => ?_, by rw [hmap]; exact h.2.2.1, fun s hs => (h.2.2.2 s hs).set_nu hb1 (any_isU hb2) j u⟩
  obtain ⟨k, hk⟩ := List.getElem?_of_mem hc
  rw [List.getElem?_set] at hk
  split at hk
  · rename_i hik
    injection hk with hk
    subst hk
    refine ⟨hb0, ?_, ?_⟩
    · have := hb1.set_ j u
      simpa using this
    · apply Bool.eq_false_iff.2
      intro ha
      obtain ⟨v, hv, hv1⟩ := List.any_eq_true.1 ha
      rcases List.mem_or_eq_of_mem_set hv with hv | rfl
      · have : b.cs.any isU = true := List.any_eq_true.2 ⟨v, hv, hv1⟩
        rw [hb2] at this; cases this
      · rw [hu] at hv1; cases hv1
  · rename_i hik
    have hcm := List.mem_of_getElem? hk
    obtain ⟨hc0, hc1, hc2⟩ := h.2.1 c hcm
    refine ⟨hc0, hc1.far ?_ u, hc2⟩
    intro hg
    have hg' : c.g = b.g := hg
    have n := h.2.2.1
    rw [List.nodup_iff_pairwise_ne, List.pairwise_iff_getElem] at n
    have hkl : k < L.length := (List.getElem?_eq_some_iff.1 hk).1
    have a1 : L[i] = b := (List.getElem?_eq_some_iff.1 hi).2
    have a2 : L[k] = c := (List.getElem?_eq_some_iff.1 hk).2
    rcases Nat.lt_trichotomy i k with h3 | h3 | h3
    · have := n i k (by simpa using hil) (by simpa using hkl) h3
      simp [a1, a2, hg'] at this
    · exact hik h3
    · have := n k i (by simpa using hkl) (by simpa using hil) h3
      simp [a1, a2, hg'] at this

/-- Cells of one box are written, from one place on. -/
def spl : List Value → Nat → List Value → List Value
  | cs, _, [] => cs
  | cs, j, v :: vs => spl (cs.set j v) (j + 1) vs
def setN (w : World) (g : Nat) : Nat → List Value → World
  | _, [] => w
  | j, v :: vs => setN (w.setCell ⟨g, j, none⟩ v) g (j + 1) vs

theorem Own.setN : ∀ (vs : List Value) {w : World} {L : List Bx} (h : Own w0 L W w) (i : Nat) {b : Bx} (hi : L[i]? = some b) (j : Nat) (hu : vs.any isU = false),
    Own w0 (L.set i ⟨b.g, b.t, spl b.cs j vs⟩) W (setN w b.g j vs)
  | [], w, L, h, i, b, hi, j, _ => by
    have : L.set i ⟨b.g, b.t, spl b.cs j []⟩ = L := by
      apply List.ext_getElem?
      intro k
      rw [List.getElem?_set]
      split
      · rename_i hk; subst hk
        have hil : i < L.length := (List.getElem?_eq_some_iff.1 hi).1
        rw [if_pos hil, hi]; rfl
      · rfl
    rw [this]; exact h
  | v :: vs, w, L, h, i, b, hi, j, hu => by
    rw [List.any_cons, Bool.or_eq_false_iff] at hu
    have h1 := h.set i hi j v hu.1
    have hil : i < L.length := (List.getElem?_eq_some_iff.1 hi).1
    have h2 := Own.setN vs h1 i (b := ⟨b.g, b.t, b.cs.set j v⟩) (by simp [hil]) (j + 1) hu.2
    rw [List.set_set] at h2
    exact h2
end

section
variable {P : Program} {ops : Array Oper} {Q : Exit → Act → World → Prop} {a : Act} {w w0 : World} {rest : List Oper} {L : List Bx} {W : List Sw} {T ty : TypeId} {ps : String} {af : Array Edge} {x y : Operand} {d : Tmp}

theorem wpList_of_run {o : Oper} (hg : o.guard = none) {v : Value} {w' : World} (hr : (execOp a.eval o).run P w = .ok (.value v) w') (h : wpList P ops Q rest (a.put o.dst v) w') : wpList P ops Q (o :: rest) a w := by
  refine wpList_plain hg fun K hK => ?_
  unfold Oper.wp
  rw [hr]
  exact hK _ _ h
theorem wpList_of_skip {o : Oper} (hg : o.guard = none) {w' : World} (hr : (execOp a.eval o).run P w = .ok .skip w') (h : wpList P ops Q rest (a.put o.dst undef) w') : wpList P ops Q (o :: rest) a w := by
  refine wpList_plain hg fun K hK => ?_
  unfold Oper.wp
  rw [hr]
  exact hK _ _ h

/-- A value is put into a box of its own. -/
theorem own_box (hO : Own w0 L W w) {cs : List Value} (hcs : (a.eval x).cells = cs.toArray) (hu : cs.any isU = false)
    (h : ∀ g w', Own w0 (⟨g, T, cs⟩ :: L) W w' → wpList P ops Q rest (a.put (some d) (.pointer (some ⟨g, 0, none⟩))) w') :
    wpList P ops Q ({ dst := some d, op := .box T x, type := ty, pos := ps, after := af, guard := none } :: rest) a w := by
  refine wpList_of_run rfl ?_ (h _ _ (hO.alloc T cs hu))
  simp [execOp, Instr.box, newVar, newRow, hcs]

/-- A new box of a type. -/
theorem own_alloc (hO : Own w0 L W w) {z : Value} (hz : ∀ w, (zeroValue T).run P w = .ok z w) {cs : List Value} (hcs : z.cells = cs.toArray) (hu : cs.any isU = false)
    (h : ∀ g w', Own w0 (⟨g, T, cs⟩ :: L) W w' → wpList P ops Q rest (a.put (some d) (.pointer (some ⟨g, 0, none⟩))) w') :
    wpList P ops Q ({ dst := some d, op := .alloc T, type := ty, pos := ps, after := af, guard := none } :: rest) a w := by
  refine wpList_of_run rfl ?_ (h _ _ (hO.alloc T cs hu))
  simp [execOp, Instr.alloc, newVar, newRow, hcs, hz]

theorem run_storeCells : ∀ (vs : List Value) (w : World) (g off i : Nat) (t : TypeId) (cs : List Value), Blk w g t cs.toArray → off + i + vs.length ≤ cs.length → vs.all Value.oneCell' = true →
    (storeCells ⟨g, off, none⟩ vs i).run P w = .ok () (setN w g (off + i) vs)
  | [], w, g, off, i, t, cs, _, _, _ => by simp [storeCells, setN]
  | v :: vs, w, g, off, i, t, cs, hb, hl, h1 => by
    rw [List.all_cons, Bool.and_eq_true] at h1
    rw [List.length_cons] at hl
    have hadd : (⟨g, off, none⟩ : Addr).add i = ⟨g, off + i, none⟩ := Addr.add_lit g off i
    have hc : w.cell? ⟨g, off + i, none⟩ = some (cs[off + i]'(by omega)) := by rw [hb.cell]; simp
    have hf := hb.frozen (off + i)
    have hb2 := hb.set_ (off + i) v
    have ih := run_storeCells vs (w.setCell ⟨g, off + i, none⟩ v) g off (i + 1) t (cs.set (off + i) v) (by simpa using hb2) (by simp; omega) h1.2
    simp only [storeCells, hadd, Sem.run_bind, run_store P w _ v _ h1.1, hc, hf, Bool.false_eq_true, if_false, Result.andThen, ih]
    rfl

/-- A store into one of the boxes. -/
theorem own_store (hO : Own w0 L W w) (i : Nat) {b : Bx} (hb : L[i]? = some b) {off : Nat} (hx : a.eval x = .pointer (some ⟨b.g, off, none⟩)) {vs : List Value} (hvs : (a.eval y).cells = vs.toArray)
    (hsz : ∀ w, (sizeOf T).run P w = .ok vs.length w) (h1 : vs.all Value.oneCell' = true) (hu : vs.any isU = false) (hle : Nat.ble (off + vs.length) b.cs.length = true)
    (h : ∀ w', Own w0 (L.set i ⟨b.g, b.t, spl b.cs off vs⟩) W w' → wpList P ops Q rest a w') :
    wpList P ops Q ({ dst := none, op := .store T x y, type := ty, pos := ps, after := af, guard := none } :: rest) a w := by
  refine wpList_of_skip rfl ?_ (h _ (hO.setN vs i hb off hu))
  have hB := (hO.2.1 b (List.mem_of_getElem? hb)).2.1
  have := run_storeCells (P := P) vs w b.g off 0 b.t b.cs hB (by have := Nat.le_of_ble_eq_true hle; omega) h1
  simp [execOp, Instr.storeAt, hx, Instr.sureAddr, storeVar, hvs, hsz, this]

theorem run_loadCells {g off : Nat} {t : TypeId} {cs : List Value} (hb : Blk w g t cs.toArray) : ∀ (n i : Nat) (acc : Array Value), off + i + n ≤ cs.length →
    (loadCellsFrom ⟨g, off, none⟩ i n acc).run P w = .ok (acc ++ ((cs.drop (off + i)).take n).toArray) w
  | 0, i, acc, _ => by simp [loadCellsFrom]
  | n + 1, i, acc, hl => by
    have hadd : (⟨g, off, none⟩ : Addr).add i = ⟨g, off + i, none⟩ := Addr.add_lit g off i
    have hc : w.cell? ⟨g, off + i, none⟩ = some (cs[off + i]'(by omega)) := by rw [hb.cell]; simp
    have ih := run_loadCells (off := off) hb n (i + 1) (acc.push (cs[off + i]'(by omega))) (by omega)
    simp only [loadCellsFrom, hadd, Sem.run_bind, run_load, hc, Result.andThen, ih]
    congr 1
    rw [List.drop_eq_getElem_cons (show off + i < cs.length by omega), List.take_succ_cons, show off + (i + 1) = off + i + 1 by omega]
    apply Array.toList_inj.1
    simp
theorem run_loadBox {g : Nat} {t : TypeId} {cs : List Value} (hb : Blk w g t cs.toArray) (hag : (isAgg T).run P w = .ok true w) (hsz : (sizeOf T).run P w = .ok cs.length w) :
    (loadVar T ⟨g, 0, none⟩).run P w = .ok (.agg cs.toArray) w := by
  have := run_loadCells (P := P) (off := 0) hb cs.length 0 #[] (by omega)
  simp [loadVar, hag, hsz, loadCells, this]

/-- The end of a walk whose result lies in a box. -/
theorem own_ret {fn : Func} {R : Ending → World → Prop} (hO : Own w0 L W w) (i : Nat) {g : Nat} {t : TypeId} {cs : List Value} (hb : L[i]? = some ⟨g, t, cs⟩) (hr : fn.results = #[.cell d T]) (ha : a.tmps.getD d undef = .pointer (some ⟨g, 0, none⟩))
    (hag : ∀ w, (isAgg T).run P w = .ok true w) (hsz : ∀ w, (sizeOf T).run P w = .ok cs.length w) (hd : a.defers = []) (hR : R (.returned (.agg cs.toArray)) w) : bodyPost P fn R .ret a w := by
  have h1 := run_loadBox (P := P) (hO.blk i hb) (hag w) (hsz w)
  refine bodyPost_ret (v := .agg cs.toArray) ?_ hd hR
  rw [Array.getD_eq_getD_getElem?] at ha
  simp [results, hr, ha, asAddr, h1]
end

/-- A slice from its head on: the same place. -/
@[go_sem high] theorem sliced_zero (a : Option Addr) (h m s : Nat) : sliced a 0 h m s = .slice a h m := by
  unfold sliced
  simp only [Nat.zero_mul, Nat.sub_zero]
  congr 1
  split
  · rfl
  · cases a <;> simp [Addr.add]
end Go.Proofs.YtadijoeeaineaaaGreatDoor

/-
  The document's ratios: their zero and their size. Conditions: those that each theorem names.
-/
namespace Go.Proofs.YtadijoeeaineaaaGreatDoor
open Go.RowKit Nm
set_option maxRecDepth 100000
set_option linter.unusedVariables false
set_option linter.unusedSimpArgs false

theorem nw_mul2 (a b : Nat) : nw (a * b) ≤ nw a + nw b := by
  have h1 := lt_pow_nw a
  have h2 := lt_pow_nw b
  refine (nw_le_iff _ _).2 ?_
  rw [Nat.pow_add]
  exact Nat.mul_lt_mul'' h1 h2
theorem zero_rat (w : World) : (zeroValue 40).run Tryz.prog w = .ok (.agg #[.bool false, .slice none 0 0, .slice none 0 0]) w := by kernel_rfl
theorem agg_rat (w : World) : (isAgg 40).run Tryz.prog w = .ok true w := by kernel_rfl
theorem size_rat (w : World) : (sizeOf 40).run Tryz.prog w = .ok 3 w := by kernel_rfl

end Go.Proofs.YtadijoeeaineaaaGreatDoor

/-
  Plain, over whatever program: the boxes' cells alone; where a walk stands. Conditions: those that each theorem names.
-/
namespace Go.Proofs.YtadijoeeaineaaaGreatDoor
open Go Go.RowKit Nm
set_option linter.unusedVariables false
set_option linter.unusedSimpArgs false

/-- The cells of the boxes alone: what is told so keeps a store from being walked cell by cell. -/
def CC (w : World) (g : Nat) : Nat → List Value → Prop
  | _, [] => True
  | i, v :: vs => w.cell? ⟨g, i, none⟩ = some v ∧ CC w g (i + 1) vs
def BC (w : World) : List Bx → Prop
  | [] => True
  | b :: L => CC w b.g 0 b.cs ∧ BC w L
theorem CC.of {w : World} {g : Nat} : ∀ {i : Nat} {cs : List Value}, CF w g i cs → CC w g i cs
  | _, [], _ => trivial
  | _, _ :: _, h => ⟨h.1, CC.of h.2.2⟩
theorem BC.of {w : World} : ∀ {L : List Bx}, BF w L → BC w L
  | [], _ => trivial
  | _ :: _, h => ⟨CC.of h.2.1, BC.of h.2.2⟩
theorem Own.cells {w0 w : World} {L : List Bx} {W : List Sw} (h : Own w0 L W w) : BC w L := BC.of h.facts
section
variable {P : Program} {ops : Array Oper} {Q : Exit → Act → World → Prop} {a : Act} {w : World} {rest : List Oper} {T ty : TypeId} {ps : String} {af : Array Edge} {x y : Operand} {d : Tmp}
/-- Where the walk stands: each of these says nothing, and lets an arm be passed by quickly. -/
theorem at_store (h : wpList P ops Q ({ dst := none, op := .store T x y, type := ty, pos := ps, after := af, guard := none } :: rest) a w) : wpList P ops Q ({ dst := none, op := .store T x y, type := ty, pos := ps, after := af, guard := none } :: rest) a w := h
theorem at_box (h : wpList P ops Q ({ dst := some d, op := .box T x, type := ty, pos := ps, after := af, guard := none } :: rest) a w) : wpList P ops Q ({ dst := some d, op := .box T x, type := ty, pos := ps, after := af, guard := none } :: rest) a w := h
theorem at_alloc (h : wpList P ops Q ({ dst := some d, op := .alloc T, type := ty, pos := ps, after := af, guard := none } :: rest) a w) : wpList P ops Q ({ dst := some d, op := .alloc T, type := ty, pos := ps, after := af, guard := none } :: rest) a w := h
end
end Go.Proofs.YtadijoeeaineaaaGreatDoor
