/-
  Plain, over whatever program: what a call owns: its boxes, known whole, and the lists of words that it may read; what a store, a new box or a call leaves of them. Conditions: those that each theorem names.
-/
import Derived.Test.YtadijoeeaineaaaGreatDoorW09
import Derived.Laws.CopyOwn
namespace Go.Proofs.YtadijoeeaineaaaGreatDoor
open Go Go.RowKit Nm
set_option linter.unusedVariables false
set_option linter.unusedSimpArgs false

/-- A box of the call's own: its block, its type, its cells. -/
structure Bx where
  g : Nat
  t : TypeId
  cs : List Value
/-- A list of words in memory. -/
structure Sw where
  A : Option Addr
  n : Nat
  c : Nat
  xs : List Nat

def isU : Value → Bool
  | .int .u32 _ => true
  | _ => false

def Own (w0 : World) (L : List Bx) (W : List Sw) (w : World) : Prop :=
  Ext w0 w ∧ (∀ b ∈ L, w0.heap.size ≤ b.g ∧ Blk w b.g b.t b.cs.toArray ∧ b.cs.any isU = false) ∧ (L.map Bx.g).Nodup ∧ ∀ s ∈ W, Wds w s.A s.n s.c s.xs

/-- The cells of a box, one by one. -/
def CF (w : World) (g : Nat) : Nat → List Value → Prop
  | _, [] => True
  | i, v :: vs => w.cell? ⟨g, i, none⟩ = some v ∧ w.frozen? ⟨g, i, none⟩ = false ∧ CF w g (i + 1) vs
def BF (w : World) : List Bx → Prop
  | [] => True
  | b :: L => b.g < w.heap.size ∧ CF w b.g 0 b.cs ∧ BF w L

section
variable {w0 w w' : World} {L : List Bx} {W : List Sw}
theorem CF.of {g : Nat} {t : TypeId} {full : List Value} (h : Blk w g t full.toArray) : ∀ (cs : List Value) (i : Nat), full.drop i = cs → CF w g i cs := by
  intro cs
  induction cs with
  | nil => intro i _; exact trivial
  | cons v vs ih =>
    intro i hi
    have h1 : full[i]? = some v := by
      have : (full.drop i)[0]? = some v := by rw [hi]; rfl
      simpa using this
    refine ⟨?_, h.frozen i, ih (i + 1) ?_⟩
    · rw [h.cell i]; simpa using h1
    · rw [← List.drop_drop, hi]; rfl
theorem BF.of : ∀ {L : List Bx}, (∀ b ∈ L, w0.heap.size ≤ b.g ∧ Blk w b.g b.t b.cs.toArray ∧ b.cs.any isU = false) → BF w L
  | [], _ => trivial
  | b :: L, h => ⟨(h b List.mem_cons_self).2.1.lt, CF.of (h b List.mem_cons_self).2.1 _ 0 rfl, BF.of fun b' hb => h b' (List.mem_cons_of_mem _ hb)⟩
theorem Own.facts (h : Own w0 L W w) : BF w L := BF.of h.2.1
theorem Own.toExt (h : Own w0 L W w) : Ext w0 w := h.1
theorem Own.start (w : World) : Own w [] [] w := ⟨Ext.refl w, (fun b hb => by cases hb), List.nodup_nil, (fun s hs => by cases hs)⟩
theorem Own.ext (h : Own w0 L W w) (e : Ext w w') : Own w0 L W w' :=
  ⟨h.1.trans e, fun b hb => ⟨(h.2.1 b hb).1, (h.2.1 b hb).2.1.ext e, (h.2.1 b hb).2.2⟩, h.2.2.1, fun s hs => (h.2.2.2 s hs).ext e⟩
theorem Own.add {A : Option Addr} {n c : Nat} {xs : List Nat} (h : Own w0 L W w) (k : Wds w A n c xs) : Own w0 L (⟨A, n, c, xs⟩ :: W) w :=
  ⟨h.1, h.2.1, h.2.2.1, fun s hs => by rcases List.mem_cons.1 hs with rfl | hs; exact k; exact h.2.2.2 s hs⟩
theorem Own.wd {A : Option Addr} {n c : Nat} {xs : List Nat} (h : Own w0 L W w) (i : Nat) (hi : W[i]? = some ⟨A, n, c, xs⟩) : Wds w A n c xs :=
  h.2.2.2 _ (List.mem_of_getElem? hi)
theorem Own.blk {g : Nat} {t : TypeId} {cs : List Value} (h : Own w0 L W w) (i : Nat) (hi : L[i]? = some ⟨g, t, cs⟩) : Blk w g t cs.toArray :=
  (h.2.1 _ (List.mem_of_getElem? hi)).2.1
theorem Own.alloc (h : Own w0 L W w) (t : TypeId) (cs : List Value) (hu : cs.any isU = false) : Own w0 (⟨w.heap.size, t, cs⟩ :: L) W (w.alloc (.cells cs.toArray t)) := by
  have e : Ext w (w.alloc (.cells cs.toArray t)) := (Ext.refl w).alloc _
  refine ⟨h.1.trans e, fun b hb => ?_, ?_, fun s hs => (h.2.2.2 s hs).ext e⟩
  · rcases List.mem_cons.1 hb with rfl | hb
    · exact ⟨h.1.size, Blk.new w t _, hu⟩
    · exact ⟨(h.2.1 b hb).1, (h.2.1 b hb).2.1.ext e, (h.2.1 b hb).2.2⟩
  · rw [List.map_cons, List.nodup_cons]
    refine ⟨fun hm => ?_, h.2.2.1⟩
    obtain ⟨b, hb, hg⟩ := List.mem_map.1 hm
    have := (h.2.1 b hb).2.1.lt
    rw [hg] at this
    exact Nat.lt_irrefl _ this

theorem Wds.set_nu {g : Nat} {t : TypeId} {cs : Array Value} {A : Option Addr} {n c : Nat} {xs : List Nat} (h : Wds w A n c xs) (hb : Blk w g t cs) (hcs : ∀ (i : Nat) (x : Int), cs[i]? ≠ some (Value.int .u32 x)) (i : Nat) (u : Value) : Wds (w.setCell ⟨g, i, none⟩ u) A n c xs := by
  refine ⟨h.1, h.2.1, h.2.2.1, h.2.2.2.1, fun hn => ?_⟩
  obtain ⟨ad, e, hlt, hc⟩ := h.2.2.2.2 hn
  have hne : ad.block ≠ g := by
    intro hg
    have hx1 : 0 < xs.length := by have := h.1; omega
    have h1 := hc 0 _ (List.getElem?_eq_getElem hx1)
    have h2 : w.heap[(ad.add 0).block]? = some (.cells cs t (0, 0)) := by rw [block_of_add, hg]; exact hb
    unfold World.cell? at h1
    rw [h2] at h1
    simp only at h1
    split at h1
    · cases h1
    · exact hcs _ _ h1
  refine ⟨ad, e, by simpa [World.setCell] using hlt, fun k x hk => ?_⟩
  rw [← hc k x hk]
  exact World.cell?_of_block (Below.heap_setCell w ⟨g, i, none⟩ u _ (by rw [block_of_add]; exact hne))

theorem any_isU {cs : List Value} (h : cs.any isU = false) : ∀ (i : Nat) (x : Int), cs.toArray[i]? ≠ some (Value.int .u32 x) := by
  intro i x hx
  have h1 : cs[i]? = some (Value.int .u32 x) := by simpa using hx
  have h2 := List.mem_of_getElem? h1
  have : cs.any isU = true := List.any_eq_true.2 ⟨_, h2, rfl⟩
  rw [h] at this; cases this

/-- One cell of one box is written. -/
theorem Own.set (h : Own w0 L W w) (i : Nat) {b : Bx} (hi : L[i]? = some b) (j : Nat) (u : Value) (hu : isU u = false) :
    Own w0 (L.set i ⟨b.g, b.t, b.cs.set j u⟩) W (w.setCell ⟨b.g, j, none⟩ u) := by
  have hbm := List.mem_of_getElem? hi
  obtain ⟨hb0, hb1, hb2⟩ := h.2.1 b hbm
  have hil : i < L.length := (List.getElem?_eq_some_iff.1 hi).1
  have hmap : (L.set i ⟨b.g, b.t, b.cs.set j u⟩).map Bx.g = L.map Bx.g := by
    rw [List.map_set]
    apply List.ext_getElem?
    intro k
    rw [List.getElem?_set]
    split
    · rename_i hk
      subst hk
      rw [List.getElem?_map, hi]
      simp [hil]
    · rfl
  refine ⟨h.1.setCell hb0 u, fun c hc => ?_, by rw [hmap]; exact h.2.2.1, fun s hs => (h.2.2.2 s hs).set_nu hb1 (any_isU hb2) j u⟩
  obtain ⟨k, hk⟩ := List.getElem?_of_mem hc
  rw [List.getElem?_set] at hk
  split at hk
  · rename_i hik
    injection hk with hk
    subst hk
    refine ⟨hb0, ?_, ?_⟩
    · have := hb1.set_ j u
      simpa using this
    · apply Bool.eq_false_iff.2
      intro ha
      obtain ⟨v, hv, hv1⟩ := List.any_eq_true.1 ha
      rcases List.mem_or_eq_of_mem_set hv with hv | rfl
      · have : b.cs.any isU = true := List.any_eq_true.2 ⟨v, hv, hv1⟩
        rw [hb2] at this; cases this
      · rw [hu] at hv1; cases hv1
  · rename_i hik
    have hcm := List.mem_of_getElem? hk
    obtain ⟨hc0, hc1, hc2⟩ := h.2.1 c hcm
    refine ⟨hc0, hc1.far ?_ u, hc2⟩
    intro hg
    have hg' : c.g = b.g := hg
    have n := h.2.2.1
    rw [List.nodup_iff_pairwise_ne, List.pairwise_iff_getElem] at n
    have hkl : k < L.length := (List.getElem?_eq_some_iff.1 hk).1
    have a1 : L[i] = b := (List.getElem?_eq_some_iff.1 hi).2
    have a2 : L[k] = c := (List.getElem?_eq_some_iff.1 hk).2
    rcases Nat.lt_trichotomy i k with h3 | h3 | h3
    · have := n i k (by simpa using hil) (by simpa using hkl) h3
      simp [a1, a2, hg'] at this
    · exact hik h3
    · have := n k i (by simpa using hkl) (by simpa using hil) h3
      simp [a1, a2, hg'] at this

/-- Cells of one box are written, from one place on. -/
def spl : List Value → Nat → List Value → List Value
  | cs, _, [] => cs
  | cs, j, v :: vs => spl (cs.set j v) (j + 1) vs
def setN (w : World) (g : Nat) : Nat → List Value → World
  | _, [] => w
  | j, v :: vs => setN (w.setCell ⟨g, j, none⟩ v) g (j + 1) vs

theorem Own.setN : ∀ (vs : List Value) {w : World} {L : List Bx} (h : Own w0 L W w) (i : Nat) {b : Bx} (hi : L[i]? = some b) (j : Nat) (hu : vs.any isU = false),
    Own w0 (L.set i ⟨b.g, b.t, spl b.cs j vs⟩) W (setN w b.g j vs)
  | [], w, L, h, i, b, hi, j, _ => by
    have : L.set i ⟨b.g, b.t, spl b.cs j []⟩ = L := by
      apply List.ext_getElem?
      intro k
      rw [List.getElem?_set]
      split
      · rename_i hk; subst hk
        have hil : i < L.length := (List.getElem?_eq_some_iff.1 hi).1
        rw [if_pos hil, hi]; rfl
      · rfl
    rw [this]; exact h
  | v :: vs, w, L, h, i, b, hi, j, hu => by
    rw [List.any_cons, Bool.or_eq_false_iff] at hu
    have h1 := h.set i hi j v hu.1
    have hil : i < L.length := (List.getElem?_eq_some_iff.1 hi).1
    have h2 := Own.setN vs h1 i (b := ⟨b.g, b.t, b.cs.set j v⟩) (by simp [hil]) (j + 1) hu.2
    rw [List.set_set] at h2
    exact h2
end

section
variable {P : Program} {ops : Array Oper} {Q : Exit → Act → World → Prop} {a : Act} {w w0 : World} {rest : List Oper} {L : List Bx} {W : List Sw} {T ty : TypeId} {ps : String} {af : Array Edge} {x y : Operand} {d : Tmp}

theorem wpList_of_run {o : Oper} (hg : o.guard = none) {v : Value} {w' : World} (hr : (execOp a.eval o).run P w = .ok (.value v) w') (h : wpList P ops Q rest (a.put o.dst v) w') : wpList P ops Q (o :: rest) a w := by
  refine wpList_plain hg fun K hK => ?_
  unfold Oper.wp
  rw [hr]
  exact hK _ _ h
theorem wpList_of_skip {o : Oper} (hg : o.guard = none) {w' : World} (hr : (execOp a.eval o).run P w = .ok .skip w') (h : wpList P ops Q rest (a.put o.dst undef) w') : wpList P ops Q (o :: rest) a w := by
  refine wpList_plain hg fun K hK => ?_
  unfold Oper.wp
  rw [hr]
  exact hK _ _ h

/-- A value is put into a box of its own. -/
theorem own_box (hO : Own w0 L W w) {cs : List Value} (hcs : (a.eval x).cells = cs.toArray) (hu : cs.any isU = false)
    (h : ∀ g w', Own w0 (⟨g, T, cs⟩ :: L) W w' → wpList P ops Q rest (a.put (some d) (.pointer (some ⟨g, 0, none⟩))) w') :
    wpList P ops Q ({ dst := some d, op := .box T x, type := ty, pos := ps, after := af, guard := none } :: rest) a w := by
  refine wpList_of_run rfl ?_ (h _ _ (hO.alloc T cs hu))
  simp [execOp, Instr.box, newVar, newRow, hcs]

/-- A new box of a type. -/
theorem own_alloc (hO : Own w0 L W w) {z : Value} (hz : ∀ w, (zeroValue T).run P w = .ok z w) {cs : List Value} (hcs : z.cells = cs.toArray) (hu : cs.any isU = false)
    (h : ∀ g w', Own w0 (⟨g, T, cs⟩ :: L) W w' → wpList P ops Q rest (a.put (some d) (.pointer (some ⟨g, 0, none⟩))) w') :
    wpList P ops Q ({ dst := some d, op := .alloc T, type := ty, pos := ps, after := af, guard := none } :: rest) a w := by
  refine wpList_of_run rfl ?_ (h _ _ (hO.alloc T cs hu))
  simp [execOp, Instr.alloc, newVar, newRow, hcs, hz]

theorem run_storeCells : ∀ (vs : List Value) (w : World) (g off i : Nat) (t : TypeId) (cs : List Value), Blk w g t cs.toArray → off + i + vs.length ≤ cs.length → vs.all Value.oneCell' = true →
    (storeCells ⟨g, off, none⟩ vs i).run P w = .ok () (setN w g (off + i) vs)
  | [], w, g, off, i, t, cs, _, _, _ => by simp [storeCells, setN]
  | v :: vs, w, g, off, i, t, cs, hb, hl, h1 => by
    rw [List.all_cons, Bool.and_eq_true] at h1
    rw [List.length_cons] at hl
    have hadd : (⟨g, off, none⟩ : Addr).add i = ⟨g, off + i, none⟩ := Addr.add_lit g off i
    have hc : w.cell? ⟨g, off + i, none⟩ = some (cs[off + i]'(by omega)) := by rw [hb.cell]; simp
    have hf := hb.frozen (off + i)
    have hb2 := hb.set_ (off + i) v
    have ih := run_storeCells vs (w.setCell ⟨g, off + i, none⟩ v) g off (i + 1) t (cs.set (off + i) v) (by simpa using hb2) (by simp; omega) h1.2
    simp only [storeCells, hadd, Sem.run_bind, run_store P w _ v _ h1.1, hc, hf, Bool.false_eq_true, if_false, Result.andThen, ih]
    rfl

/-- A store into one of the boxes. -/
theorem own_store (hO : Own w0 L W w) (i : Nat) {b : Bx} (hb : L[i]? = some b) {off : Nat} (hx : a.eval x = .pointer (some ⟨b.g, off, none⟩)) {vs : List Value} (hvs : (a.eval y).cells = vs.toArray)
    (hsz : ∀ w, (sizeOf T).run P w = .ok vs.length w) (h1 : vs.all Value.oneCell' = true) (hu : vs.any isU = false) (hle : Nat.ble (off + vs.length) b.cs.length = true)
    (h : ∀ w', Own w0 (L.set i ⟨b.g, b.t, spl b.cs off vs⟩) W w' → wpList P ops Q rest a w') :
    wpList P ops Q ({ dst := none, op := .store T x y, type := ty, pos := ps, after := af, guard := none } :: rest) a w := by
  refine wpList_of_skip rfl ?_ (h _ (hO.setN vs i hb off hu))
  have hB := (hO.2.1 b (List.mem_of_getElem? hb)).2.1
  have := run_storeCells (P := P) vs w b.g off 0 b.t b.cs hB (by have := Nat.le_of_ble_eq_true hle; omega) h1
  simp [execOp, Instr.storeAt, hx, Instr.sureAddr, storeVar, hvs, hsz, this]

theorem run_loadCells {g off : Nat} {t : TypeId} {cs : List Value} (hb : Blk w g t cs.toArray) : ∀ (n i : Nat) (acc : Array Value), off + i + n ≤ cs.length →
    (loadCellsFrom ⟨g, off, none⟩ i n acc).run P w = .ok (acc ++ ((cs.drop (off + i)).take n).toArray) w
  | 0, i, acc, _ => by simp [loadCellsFrom]
  | n + 1, i, acc, hl => by
    have hadd : (⟨g, off, none⟩ : Addr).add i = ⟨g, off + i, none⟩ := Addr.add_lit g off i
    have hc : w.cell? ⟨g, off + i, none⟩ = some (cs[off + i]'(by omega)) := by rw [hb.cell]; simp
    have ih := run_loadCells (off := off) hb n (i + 1) (acc.push (cs[off + i]'(by omega))) (by omega)
    simp only [loadCellsFrom, hadd, Sem.run_bind, run_load, hc, Result.andThen, ih]
    congr 1
    rw [List.drop_eq_getElem_cons (show off + i < cs.length by omega), List.take_succ_cons, show off + (i + 1) = off + i + 1 by omega]
    apply Array.toList_inj.1
    simp
theorem run_loadBox {g : Nat} {t : TypeId} {cs : List Value} (hb : Blk w g t cs.toArray) (hag : (isAgg T).run P w = .ok true w) (hsz : (sizeOf T).run P w = .ok cs.length w) :
    (loadVar T ⟨g, 0, none⟩).run P w = .ok (.agg cs.toArray) w := by
  have := run_loadCells (P := P) (off := 0) hb cs.length 0 #[] (by omega)
  simp [loadVar, hag, hsz, loadCells, this]

/-- The end of a walk whose result lies in a box. -/
theorem own_ret {fn : Func} {R : Ending → World → Prop} (hO : Own w0 L W w) (i : Nat) {g : Nat} {t : TypeId} {cs : List Value} (hb : L[i]? = some ⟨g, t, cs⟩) (hr : fn.results = #[.cell d T]) (ha : a.tmps.getD d undef = .pointer (some ⟨g, 0, none⟩))
    (hag : ∀ w, (isAgg T).run P w = .ok true w) (hsz : ∀ w, (sizeOf T).run P w = .ok cs.length w) (hd : a.defers = []) (hR : R (.returned (.agg cs.toArray)) w) : bodyPost P fn R .ret a w := by
  have h1 := run_loadBox (P := P) (hO.blk i hb) (hag w) (hsz w)
  refine bodyPost_ret (v := .agg cs.toArray) ?_ hd hR
  rw [Array.getD_eq_getD_getElem?] at ha
  simp [results, hr, ha, asAddr, h1]
end

/-- A slice from its head on: the same place. -/
@[go_sem high] theorem sliced_zero (a : Option Addr) (h m s : Nat) : sliced a 0 h m s = .slice a h m := by
  unfold sliced
  simp only [Nat.zero_mul, Nat.sub_zero]
  congr 1
  split
  · rfl
  · cases a <;> simp [Addr.add]
end Go.Proofs.YtadijoeeaineaaaGreatDoor

/-
  The contracts of the program's own naturals, fifth part: long, fit, Norm. Conditions: those that each theorem names.
-/
namespace Go.Proofs.YtadijoeeaineaaaGreatDoor
open Go.RowKit Nm
set_option maxRecDepth 100000
set_option linter.unusedVariables false
set_option linter.unusedSimpArgs false

/-- What is answered: a list of words and an error's number. -/
def RetWE (V : Nat) (x : Int) (w : World) (e : Ending) (w' : World) : Prop := ∃ A n c, e = .returned (.tuple #[.slice A n c, .int .i64 x]) ∧ Wds w' A n c (nd V) ∧ Ext w w'
def isLong (s : Sw) : Bool := decide (16384 < nw (nv s.xs))

set_option maxHeartbeats 1000000 in
theorem nlong_any (g k c : Nat) (ss : List Sw) (w : World) (hk : ss.length = k) (hkb : k ≤ 1000) (hc : ∀ i s, ss[i]? = some s → w.cell? ⟨g, i, none⟩ = some (.slice s.A s.n s.c)) (hs : ∀ s ∈ ss, Wds w s.A s.n s.c s.xs ∧ s.n ≤ 35184372088832) :
    Calls Tryz.prog 107 #[.slice (some ⟨g, 0, none⟩) k c] w fun e w' => e = .returned (.bool (ss.any isLong)) ∧ w = w' := by
  have HC := Lib.hid hc
  have HS := Lib.hid hs
  clear hc hs
  go_enter Tryz.func107, Tryz.ntmps107
  go_wp2
  go_loop [7] (fun t => ∃ i : Nat, i ≤ k ∧ t = .int .i64 i ∧ Hid ((ss.take i).any isLong = false)) (fun t => k - (intOf t).toNat)
  case atStart => exact ⟨0, Nat.zero_le _, rfl, Lib.hid rfl⟩
  case round =>
    obtain ⟨i, hi, rfl, hno⟩ := hrel
    by_cases hlt : i < k
    · obtain ⟨s, hsi⟩ : ∃ s, ss[i]? = some s := ⟨ss[i]'(by omega), List.getElem?_eq_getElem (by omega)⟩
      have hcell := HC.out i s hsi
      have hw := HS.out s (List.mem_of_getElem? hsi)
      have hnw := nwords_any s.A s.n s.c s.xs w hw.1 hw.2
      have hst : (ss.take (i + 1)).any isLong = isLong s := by
        rw [List.take_add_one, List.any_append, hno.out, hsi]; simp
      have HST := Lib.hid hst
      have HMEM := Lib.hid (List.mem_of_getElem? hsi)
      obtain ⟨m, hm⟩ : ∃ m, m = nw (nv s.xs) := ⟨_, rfl⟩
      have hL : isLong s = decide (16384 < m) := by rw [hm]; rfl
      rw [← hm] at hnw
      have HN := Lib.hid hnw
      have HLL := Lib.hid hL
      clear hst hnw hw hm hL hsi
      by_cases hb : 16384 < m
      · go_wp2_with (go_at_call 131; refine HN.out.mono ?_; rintro e w' ⟨rfl, rfl⟩)
        go_ret
        exact ⟨ret_bool (by
          symm
          exact List.any_eq_true.2 ⟨s, HMEM.out, by rw [HLL.out]; exact decide_eq_true hb⟩), rfl⟩
      · go_wp2_with (go_at_call 131; refine HN.out.mono ?_; rintro e w' ⟨rfl, rfl⟩)
        go_round
        case rel => exact ⟨i + 1, by omega, by go_num, Lib.hid (by rw [HST.out, HLL.out]; exact decide_eq_false hb)⟩
        case measure => simp [intOf]; omega
    · have HF : Hid (ss.any isLong = false) := Lib.hid (by
        have := hno.out
        rwa [List.take_of_length_le (by omega)] at this)
      go_wp2
      go_ret
      exact ⟨ret_bool HF.out.symm, rfl⟩

set_option maxHeartbeats 1000000 in
theorem nfit_any (A : Option Addr) (n c : Nat) (xs : List Nat) (w : World) (h : Wds w A n c xs) (hn : n ≤ 35184372088832) (hs : nw (nv xs) ≤ 16384) :
    Calls Tryz.prog 153 #[.slice A n c] w (RetWE (nv xs) 0 w) := by
  go_enter Tryz.func153, Tryz.ntmps153
  go_wp2_with (go_at_call 111; refine (ncut_any _ _ _ _ _ h hn).mono ?_; rintro e w' ⟨A2, m, c2, rfl, hR, hE⟩; have hm := Lib.hid hR.len; have hm2 : m ≤ 16384 := by (rw [← hm.out, nd_length]; exact hs))
  go_ret2
  exact ⟨_, _, _, rfl, hR, hE⟩
set_option maxHeartbeats 1000000 in
theorem nfit_long (A : Option Addr) (n c : Nat) (xs : List Nat) (w : World) (h : Wds w A n c xs) (hn : n ≤ 35184372088832) (hs : 16384 < nw (nv xs)) :
    Calls Tryz.prog 153 #[.slice A n c] w (RetWE 0 2 w) := by
  go_enter Tryz.func153, Tryz.ntmps153
  go_wp2_with (go_at_call 111; refine (ncut_any _ _ _ _ _ h hn).mono ?_; rintro e w' ⟨A2, m, c2, rfl, hR, hE⟩; have hm := Lib.hid hR.len; have hm2 : 16384 < m := by (rw [← hm.out, nd_length]; exact hs))
  go_ret2
  exact ⟨_, _, _, rfl, Wds.nil_ (by unfold maxLen; omega), hE⟩

/-- copy onto a row of the call's own. -/
theorem copy32 (dT sT ty : TypeId) (g m : Nat) (A : Option Addr) (n c : Nat) (L xs : List Nat) (w : World) (hr : Row w g L) (hL : L.length = m) (h : Wds w A n c xs) (hmn : m ≤ n) (hu : Tryz.prog.underlying dT = some (.slice 65)) :
    ∃ w', (Builtin.copy_ #[dT, sT] ty #[.slice (some ⟨g, 0, none⟩) m m, .slice A n c]).run Tryz.prog w = .ok (.int .i64 (m : Int)) w' ∧ Row w' g (xs.take m) ∧ ∀ w0 : World, Ext w0 w → w0.heap.size ≤ g → Ext w0 w' := by
  have hn0 : 0 < n → ∃ ad, A = some ad ∧ ad.block < w.heap.size ∧ ∀ (k x : Nat), xs[k]? = some x → w.cell? (ad.add k) = some (.int .u32 (x : Int)) := h.2.2.2.2
  have hsz : (Tryz.prog.info? 65).map (·.size) = some 1 := by kernel_rfl
  have hxl := h.len
  have key : ∀ a : Addr, (∀ (k x : Nat), xs[k]? = some x → w.cell? (a.add k) = some (.int .u32 (x : Int))) → A = some a →
      ∃ w', (Builtin.copy_ #[dT, sT] ty #[.slice (some ⟨g, 0, none⟩) m m, .slice A n c]).run Tryz.prog w = .ok (.int .i64 (m : Int)) w' ∧ Row w' g (xs.take m) ∧ ∀ w0 : World, Ext w0 w → w0.heap.size ≤ g → Ext w0 w' := by
    intro a hc hA
    subst hA
    have hcs : (u32s (xs.take m)).length = m := by rw [u32s_length, List.length_take]; omega
    have hrun := run_copy_row Tryz.prog w dT sT ty 65 g 0 m m a n c (u32s L).toArray 65 (u32s (xs.take m)) hu hsz hr (by rw [hcs]; exact (Nat.min_eq_right hmn).symm) (fun j v hj => by
      have h1 : (u32s xs)[j]? = some v := by
        unfold u32s at hj ⊢
        rw [List.map_take] at hj
        rw [List.getElem?_take] at hj
        split at hj
        · exact hj
        · cases hj
      unfold u32s at h1
      rw [List.getElem?_map] at h1
      cases hx : xs[j]? with
      | none => rw [hx] at h1; cases h1
      | some x => rw [hx] at h1; injection h1 with h1; subst h1; exact hc j x hx) (by rw [hcs]; simp [u32s, hL]) (fun v hv => by
      unfold u32s at hv
      obtain ⟨x, _, rfl⟩ := List.mem_map.1 hv
      rfl)
    rw [hcs] at hrun
    refine ⟨_, hrun, ?_, fun w0 hE hg => ?_⟩
    · have : (List.take 0 (u32s L).toArray.toList ++ u32s (List.take m xs) ++ List.drop (0 + m) (u32s L).toArray.toList) = u32s (xs.take m) := by
        rw [List.drop_of_length_le (by simp [u32s, hL])]; simp
      rw [this]
      exact setRow_heap w g _ _ _ _ hr
    · exact below_setRow hE hg _
  by_cases h0 : n = 0
  · have hm0 : m = 0 := by omega
    have hx0 : xs = [] := List.length_eq_zero_iff.1 (by omega)
    cases A with
    | some ad => exact key ad (fun k x hx => by rw [hx0] at hx; simp at hx) rfl
    | none =>
      subst h0 hm0
      refine ⟨w, ?_, by rw [hx0]; rw [List.length_eq_zero_iff.1 hL] at hr; exact hr, fun w0 hE _ => hE⟩
      cases hq : Tryz.prog.info? 65 with
      | none => simp [hq] at hsz
      | some i => simp [Builtin.copy_, run_underlying hu, Builtin.lenOf, Builtin.firstCells, sizeOf, typeInfo, hq, storeCells, goInt]
  · obtain ⟨ad, e, _, hc⟩ := hn0 (by omega)
    exact key ad hc e

set_option maxHeartbeats 1000000 in
theorem nnorm_any (A : Option Addr) (n c : Nat) (xs : List Nat) (w : World) (h : Wds w A n c xs) (hn : n ≤ 35184372088832) :
    Calls Tryz.prog 109 #[.slice A n c] w fun e w' => ∃ g m, e = .returned (.slice (some ⟨g, 0, none⟩) m m) ∧ Row w' g (nd (nv xs)) ∧ w.heap.size ≤ g ∧ m = nw (nv xs) ∧ Ext w w' := by
  have hnw := nwords_any A n c xs w h hn
  have hle : nw (nv xs) ≤ n := by have := nw_nv_le h.ws; have := h.len; omega
  obtain ⟨m, hm⟩ : ∃ m, m = nw (nv xs) := ⟨_, rfl⟩
  rw [← hm] at hnw hle
  have hmk := run_make32 m (by omega) w
  have hr0 := Row.new w (List.replicate m 0)
  have hE0 : Ext w (w.alloc (.cells (u32s (List.replicate m 0)).toArray 65)) := (Ext.refl w).alloc _
  have h1 := h.ext hE0
  obtain ⟨w1, hw1⟩ : ∃ w1, w1 = w.alloc (.cells (u32s (List.replicate m 0)).toArray 65) := ⟨_, rfl⟩
  rw [← hw1] at hmk hr0 hE0 h1
  clear hw1
  obtain ⟨g, hg⟩ : ∃ g, g = w.heap.size := ⟨_, rfl⟩
  rw [← hg] at hmk hr0
  have hgl : w.heap.size ≤ g := by omega
  clear hg
  obtain ⟨w2, hcp, hr2, hE2⟩ := copy32 38 38 3 g m A n c (List.replicate m 0) xs w1 hr0 (by simp) h1 hle Tryz.underlying38
  have hE3 := hE2 w hE0 hgl
  have ht : xs.take m = nd (nv xs) := by rw [hm]; exact (nd_take h.ws).symm
  rw [ht] at hr2
  have HN := Lib.hid hnw
  have HM := Lib.hid hm
  have HR := Lib.hid hr2
  have HE := Lib.hid hE3
  clear hnw hm hr2 hE3 hE2 hr0 hE0 h1 h ht
  go_enter Tryz.func109, Tryz.ntmps109
  go_wp2_with (go_at_call 131; refine HN.out.mono ?_; rintro e w' ⟨rfl, rfl⟩)
  go_ret
  exact ⟨g, m, rfl, HR.out, hgl, HM.out, HE.out⟩
/-- Norm, as a list of words. -/
theorem nnorm_ret (A : Option Addr) (n c : Nat) (xs : List Nat) (w : World) (h : Wds w A n c xs) (hn : n ≤ 35184372088832) :
    Calls Tryz.prog 109 #[.slice A n c] w (RetW (nv xs) w) :=
  (nnorm_any A n c xs w h hn).mono fun e w' ⟨g, m, he, hr, hg, hm, hE⟩ => by
    have hle : nw (nv xs) ≤ n := by have := nw_nv_le h.ws; have := h.len; omega
    exact ⟨_, _, _, he, hr.wds (Ws.nd _) (by rw [nd_length]; exact hm.symm) (Nat.le_refl _) (by unfold maxLen; omega), hE⟩
end Go.Proofs.YtadijoeeaineaaaGreatDoor

/-
  The contracts of the program's own naturals, sixth part: shift, up, Shl. Conditions: those that each theorem names.
-/
namespace Go.Proofs.YtadijoeeaineaaaGreatDoor
open Go.RowKit Nm
set_option maxRecDepth 100000
set_option linter.unusedVariables false
set_option linter.unusedSimpArgs false

theorem take_set_self {l : List Nat} {k : Nat} (x : Nat) : (l.set k x).take k = l.take k := by
  apply List.ext_getElem?
  intro j
  rw [List.getElem?_take, List.getElem?_take, List.getElem?_set]
  split
  · rw [if_neg (by omega)]
  · rfl
theorem shift_step {L xs : List Nat} {i cr x s v lo hi : Nat} (hiL : i < L.length) (hix : i < xs.length) (hx : xs[i] = x) (hx32 : x < 4294967296) (hcr : cr < 2 ^ s) (hinv : nv (L.take i) + 4294967296 ^ i * cr = nv (xs.take i) * 2 ^ s)
    (hv : v = cr + x * 2 ^ s) (hlo : lo = v % 4294967296) (hhi : hi = v / 4294967296) :
    nv ((L.set i lo).take (i + 1)) + 4294967296 ^ (i + 1) * hi = nv (xs.take (i + 1)) * 2 ^ s ∧ hi < 2 ^ s := by
  constructor
  · rw [nv_take_succ (l := L.set i lo) (by simpa using hiL), nv_take_succ hix, take_set_self, List.getElem_set_self, hx, Nat.add_mul, ← hinv, Nat.pow_succ]
    have e : lo + 4294967296 * hi = cr + x * 2 ^ s := by rw [hlo, hhi, ← hv]; exact Nat.mod_add_div _ _
    have e1 : 4294967296 ^ i * (lo + 4294967296 * hi) = 4294967296 ^ i * (cr + x * 2 ^ s) := by rw [e]
    rw [Nat.mul_add, Nat.mul_add, ← Nat.mul_assoc, ← Nat.mul_assoc] at e1
    omega
  · rw [hhi, Nat.div_lt_iff_lt_mul (by omega), hv]
    have : x * 2 ^ s ≤ 4294967295 * 2 ^ s := Nat.mul_le_mul_right _ (by omega)
    rw [Nat.mul_comm (2 ^ s)]
    omega
theorem or_shift (cr x s : Nat) (hs : s < 32) (hcr : cr < 2 ^ s) (hx : x < 4294967296) : ∃ p : Nat, (x : Int) * 2 ^ s = (p : Int) ∧ p < 18446744073709551616 ∧ bits .or .u64 (cr : Int) (p : Int) = ((cr + x * 2 ^ s : Nat) : Int) ∧ cr + x * 2 ^ s < 18446744073709551616 := by
  have h1 : 2 ^ s ≤ 2147483648 := Nat.pow_le_pow_right (n := 2) (by omega) (show s ≤ 31 by omega)
  have h2 : x * 2 ^ s ≤ 4294967295 * 2147483648 := Nat.mul_le_mul (by omega) h1
  have e1 : ((x : Nat) : Int) * 2 ^ s = ((x * 2 ^ s : Nat) : Int) := by push_cast; rfl
  refine ⟨x * 2 ^ s, e1, by omega, ?_, by omega⟩
  rw [u64_or_nat _ _ (by omega) (by omega), Nat.or_comm, nat_join s _ _ (Nat.mul_mod_left _ _) hcr]
  omega

set_option maxHeartbeats 1000000 in
theorem nshift_any (A : Option Addr) (n c : Nat) (xs : List Nat) (s : Nat) (w : World) (h : Wds w A n c xs) (hn : n ≤ 17592186044416) (hs : s < 32) :
    Calls Tryz.prog 141 #[.slice A n c, .int .i64 (s : Int)] w fun e w' => ∃ g L, e = .returned (.slice (some ⟨g, 0, none⟩) (n + 1) (n + 1)) ∧ Row w' g L ∧ Ws L ∧ L.length = n + 1 ∧ nv L = nv xs * 2 ^ s ∧ w.heap.size ≤ g ∧ Ext w w' := by
  have hlx := h.len
  have hmk := run_make32 (n + 1) (by omega) w
  push_cast at hmk
  have hr0 := Row.new w (List.replicate (n + 1) 0)
  have hE0 : Ext w (w.alloc (.cells (u32s (List.replicate (n + 1) 0)).toArray 65)) := (Ext.refl w).alloc _
  obtain ⟨w1, hw1⟩ : ∃ w1, w1 = w.alloc (.cells (u32s (List.replicate (n + 1) 0)).toArray 65) := ⟨_, rfl⟩
  rw [← hw1] at hmk hr0 hE0
  clear hw1
  obtain ⟨g, hg⟩ : ∃ g, g = w.heap.size := ⟨_, rfl⟩
  rw [← hg] at hmk hr0
  have hgl : w.heap.size ≤ g := by omega
  clear hg
  have hp : 0 < 2 ^ s := Nat.two_pow_pos s
  go_enter Tryz.func141, Tryz.ntmps141
  go_wp2
  clear hmk
  go_loopw [6, 15] (fun cv iv wr => ∃ (i cr : Nat) (L : List Nat), i ≤ n ∧ iv = .int .i64 i ∧ cv = .int .u64 (cr : Int) ∧ Hid (cr < 2 ^ s) ∧ cr < 4294967296 ∧ Row wr g L ∧ Ws L ∧ Hid (L.length = n + 1) ∧ Hid (nv (L.take i) + 4294967296 ^ i * cr = nv (xs.take i) * 2 ^ s) ∧ Ext w wr) (fun _ iv _ => n - (intOf iv).toNat)
  case atStart => exact ⟨0, 0, _, Nat.zero_le _, rfl, rfl, Lib.hid hp, by omega, hr0, Ws.replicate _ (by omega), Lib.hid (by simp), Lib.hid (by simp [nv]), hE0⟩
  case round =>
    obtain ⟨i, cr, L, hi, rfl, rfl, hcr, hcr32, hrow, hL, hLl, hinv, hE⟩ := hrel
    by_cases hlt : i < n
    · obtain ⟨ad, hx, rfl, _, hcX⟩ := (h.ext hE).at_ (k := i) hlt
      have hX32 := h.ws.get hx
      have hiL : i < L.length := by rw [hLl.out]; omega
      have hst := fun v lo hi' => shift_step (s := s) (v := v) (lo := lo) (hi := hi') hiL hx rfl hX32 hcr.out hinv.out
      obtain ⟨x, hxe⟩ : ∃ x, x = xs[i] := ⟨_, rfl⟩
      rw [← hxe] at hcX hX32 hst
      have hor := or_shift cr x s hs hcr.out hX32
      obtain ⟨v, hv⟩ : ∃ v, v = cr + x * 2 ^ s := ⟨_, rfl⟩
      rw [← hv] at hor
      obtain ⟨p, hp1, hp2, hor1, hv64⟩ := hor
      have hst' := hst v (v % 4294967296) (v / 4294967296) hv rfl rfl
      have hc1 := hrow.cell hiL
      have hf1 := hrow.frozen i
      have hrow' := hrow.set_ i (v % 4294967296)
      have e1 : (v : Int) % 4294967296 = ((v % 4294967296 : Nat) : Int) := by omega
      have e2 : (v : Int) / 4294967296 = ((v / 4294967296 : Nat) : Int) := by omega
      have hlo32 : v % 4294967296 < 4294967296 := by omega
      have hhi32 : v / 4294967296 < 4294967296 := by omega
      obtain ⟨lo, hlo⟩ : ∃ lo, lo = v % 4294967296 := ⟨_, rfl⟩
      obtain ⟨hi', hhi⟩ : ∃ hi', hi' = v / 4294967296 := ⟨_, rfl⟩
      rw [← hlo] at e1 hrow' hlo32 hst'
      rw [← hhi] at e2 hhi32 hst'
      have HST := Lib.hid hst'
      have Hlx := Lib.hid hlx
      have Hx := Lib.hid hxe
      clear hst hst' hlo hhi hv hxe hlx
      go_wp2
      go_roundw
      case rel => exact ⟨i + 1, hi', _, by omega, by go_num, rfl, Lib.hid HST.out.2, hhi32, hrow', hL.set _ hlo32, Lib.hid (by simp [hLl.out]), Lib.hid HST.out.1, hE.setCell hgl _⟩
      case measure => simp [intOf]; omega
    · have hie : i = n := by omega
      subst hie
      have hiL : i < L.length := by rw [hLl.out]; omega
      have hc1 := hrow.cell hiL
      have hf1 := hrow.frozen i
      have hrow' := hrow.set_ i cr
      have hval : Hid (nv (L.set i cr) = nv xs * 2 ^ s) := Lib.hid (by
        have h1 := hinv.out
        rw [List.take_of_length_le (show xs.length ≤ i by omega)] at h1
        rw [← h1, ← List.take_of_length_le (show (L.set i cr).length ≤ i + 1 by simp [hLl.out]), nv_take_succ (l := L.set i cr) (by simpa using hiL), take_set_self, List.getElem_set_self])
      go_wp2
      go_ret
      exact ⟨g, _, rfl, hrow', hL.set _ hcr32, by simp [hLl.out], hval.out, hgl, hE.setCell hgl _⟩

/-- make([]uint32, n, m). -/
theorem run_make32c (n m : Nat) (hnm : n ≤ m) (hm : m ≤ 70368744177664) (w : World) :
    (Instr.makeSlice 38 (.int .i64 (n : Int)) (.int .i64 (m : Int))).run Tryz.prog w = .ok (.slice (some ⟨w.heap.size, 0, none⟩) n m) (w.alloc (.cells (u32s (List.replicate m 0)).toArray 65)) := by
  obtain ⟨i0, hi0, hz0, hz1, hz2⟩ := info_parts info_u32
  have hr := run_make (P := Tryz.prog) w 38 65 i0 (.int .u32 0) Tryz.underlying38 hi0 hz0 .i64 .i64 n m (by omega) (by omega) (by rw [hz2]; omega) (by omega)
  simp only [Int.toNat_natCast] at hr
  rw [hr, hz1, cells_replicate]
theorem Row.own_cap {w : World} {g : Nat} {L : List Nat} (h : Row w g L) {base n m : Nat} (hb : base ≤ g) (hn : L.length = m) (hnm : n ≤ m) (hm : m ≤ maxLen) : w.ownsRow base 65 1 (.slice (some ⟨g, 0, none⟩) n m) n (u32s (L.take n)) :=
  ⟨by rw [u32s_length, List.length_take]; omega, .inr ⟨g, m, _, rfl, hb, h, hnm, hm, by simp [u32s_length, hn], by simp [u32s, List.map_take]⟩⟩
theorem nv_zeros_append (k : Nat) (L : List Nat) : nv (List.replicate k 0 ++ L) = 4294967296 ^ k * nv L := by
  rw [nv_append, nv_replicate, List.length_replicate, Nat.zero_add]

/-- A row is appended to a row of the call's own. -/
theorem wp_appRow {ops : Array Oper} {rest : List Oper} {o : Oper} {a : Act} {Q : Exit → Act → World → Prop} (hgd : o.guard = none) (s x : Operand)
    (ho : o.op = .call { callee := .builtin .append, args := #[s, x], argTypes := #[38, 38] })
    {w0 w : World} {v : Value} {j m c : Nat} {acc L : List Nat} {g : Nat} (hs : a.eval s = v) (hown : w.ownsRow w0.heap.size 65 1 v j (u32s acc)) (hb : Ext w0 w)
    (hx : a.eval x = .slice (some ⟨g, 0, none⟩) m c) (hr : Row w g L) (hl : L.length = m) (hj : j + m ≤ 35184372088000)
    (h : ∀ v' w1, w1.ownsRow w0.heap.size 65 1 v' (j + m) (u32s (acc ++ L)) → Ext w0 w1 → wpList Tryz.prog ops Q rest (a.put o.dst v') w1) :
    wpList Tryz.prog ops Q (o :: rest) a w := by
  obtain ⟨i0, hi0, hz0, hz1, hz2⟩ := info_parts info_u32
  refine wpList_append_own _ hgd s x _ ho w0.heap.size 65 i0 (.int .u32 0) 1 4 Tryz.underlying38 hi0 hz0 hz1 hz2 rfl (by decide) _ _ _ hs hown ⟨g, 0, none⟩ m c (u32s L) hx (by rw [u32s_length, hl]; omega) (fun k u hk => ?_) (fun u hu => ?_) (by simp only [maxLen]; omega) (by omega) hb.size ?_
  · unfold u32s at hk
    rw [List.getElem?_map] at hk
    cases hx : L[k]? with
    | none => rw [hx] at hk; cases hk
    | some y =>
      rw [hx] at hk
      injection hk with hk
      subst hk
      obtain ⟨hkl, hky⟩ := List.getElem?_eq_some_iff.1 hx
      rw [Addr.add_lit, Nat.zero_add, hr.cell hkl, hky]
  · unfold u32s at hu
    obtain ⟨y, _, rfl⟩ := List.mem_map.1 hu
    rfl
  · intro v' w1 hown' hgrow _
    have e : u32s acc ++ u32s L = u32s (acc ++ L) := by simp [u32s]
    rw [e] at hown'
    exact h v' w1 hown' (hb.grown hgrow fun q hq => (hown.lt q hq).1)

set_option maxHeartbeats 1000000 in
theorem nup_any (A : Option Addr) (n c : Nat) (xs : List Nat) (s : Nat) (w : World) (h : Wds w A n c xs) (hn : n ≤ 1099511627776) (hs : s ≤ 35184372088832) :
    Calls Tryz.prog 137 #[.slice A n c, .int .i64 (s : Int)] w (RetW (nv xs * 2 ^ s) w) := by
  obtain ⟨D, S, hS, hsD⟩ : ∃ D S, S < 32 ∧ s = 32 * D + S := ⟨s / 32, s % 32, Nat.mod_lt _ (by omega), by omega⟩
  have hq : (s : Int) / 32 = (D : Int) := by omega
  have hr : (s : Int) % 32 = (S : Int) := by omega
  have hV : nv xs * 2 ^ s = 4294967296 ^ D * (nv xs * 2 ^ S) := by
    rw [hsD, Nat.pow_add, Nat.pow_mul, show (2 ^ 32 : Nat) = 4294967296 from rfl]
    simp only [Nat.mul_assoc, Nat.mul_comm, Nat.mul_left_comm]
  rw [hV]
  have hmk := run_make32c D (D + n + 1) (by omega) (by omega) w
  push_cast at hmk
  have hr0 := Row.new w (List.replicate (D + n + 1) 0)
  have hE0 : Ext w (w.alloc (.cells (u32s (List.replicate (D + n + 1) 0)).toArray 65)) := (Ext.refl w).alloc _
  obtain ⟨w1, hw1⟩ : ∃ w1, w1 = w.alloc (.cells (u32s (List.replicate (D + n + 1) 0)).toArray 65) := ⟨_, rfl⟩
  rw [← hw1] at hmk hr0 hE0
  clear hw1
  obtain ⟨g, hg⟩ : ∃ g, g = w.heap.size := ⟨_, rfl⟩
  rw [← hg] at hmk hr0
  have hgl : w.heap.size ≤ g := by omega
  clear hg hV hsD
  go_enter Tryz.func137, Tryz.ntmps137
  go_wp2_with fail
  refine (nshift_any _ _ _ _ S _ (h.ext hE0) (by omega) hS).mono ?_
  rintro e w2 ⟨g2, L, rfl, hr2, hL, hLl, hLv, hg2, hE2⟩
  have hown := Row.own_cap (hr0.ext hE2) hgl (show _ = D + n + 1 by simp) (show D ≤ D + n + 1 by omega) (by unfold maxLen; omega)
  have ht : (List.replicate (D + n + 1) 0).take D = List.replicate D 0 := by rw [List.take_replicate]; congr 1; omega
  rw [ht] at hown
  have HL := Lib.hid hLv
  have hE := hE0.trans hE2
  clear hmk ht hLv
  go_wp2_with (at_builtin; refine wp_appRow rfl (.tmp 15) (.tmp 19) rfl rfl hown hE rfl hr2 hLl (by omega) ?_; intro v' w3 hown' hE3)
  obtain ⟨A3, c3, rfl, hW⟩ := Wds.of_own hown' (Ws.append (Ws.replicate _ (by omega)) hL)
  refine (ncut_any _ _ _ _ _ hW (by omega)).mono ?_
  rintro e w4 ⟨A4, n4, c4, rfl, hR, hE4⟩
  rw [nv_zeros_append, HL.out] at hR
  clear hown hown' hW
  go_wp2
  go_ret
  exact ⟨_, _, _, rfl, hR, hE3.trans hE4⟩
end Go.Proofs.YtadijoeeaineaaaGreatDoor
