/-
  Contracts of the document's ratios beside a sum: what they are worth. Conditions: those that each theorem names.
-/
import Derived.Test.YtfbjeifhpmdjaaaZ37
import Derived.Test.YtfbjeifhpmdjaaaZ40
import Derived.Test.YtfbjeifhpmdjaaaZ38
import Derived.Test.YtfbjeifhpmdjaaaZ39
import Derived.Test.YtfbjeifhpmdjaaaZ27
namespace Go.Proofs.Ytfbjeifhpmdjaaa
open Go.RowKit Nm Rn
set_option maxRecDepth 100000
set_option linter.unusedVariables false
set_option linter.unusedSimpArgs false

def RetDR (T : Int) (w : World) (e : Ending) (w' : World) : Prop :=
  ∃ s N D A l c B k d, e = .returned (.agg #[.bool s, .slice A l c, .slice B k d]) ∧ Hid (DR T s N D) ∧ RatAt w' A l c B k d N D ∧ Ext w w'
def QR (T : Int) (m : Nat) (s : Bool) (N D : Nat) : Prop := Tg (sn s N * (K74 : Int)) (D : Int) (qT (-1) T m) (qT 1 T m) (qT 0 T m) ∧ 0 < D ∧ nw N ≤ 300 ∧ nw D ≤ 300
def RetOv (T : Int) (m : Nat) (w : World) (e : Ending) (w' : World) : Prop :=
  ∃ s N D A l c B k d, e = .returned (.agg #[.bool s, .slice A l c, .slice B k d]) ∧ Hid (QR T m s N D) ∧ RatAt w' A l c B k d N D ∧ Ext w w'
def AtQ (T : Int) (m : Nat) (v : Value) (w : World) : Prop := ∃ s N D A l c B k d, v = .agg #[.bool s, .slice A l c, .slice B k d] ∧ Hid (QR T m s N D) ∧ RatAt w A l c B k d N D
section
variable {w : World} {T V : Int} {s r : Bool} {N D M E m : Nat} {A B C F : Option Addr} {l c k d l' c' k' d' : Nat}
theorem rmul_dr {x y : Nat} (hs : s = (sg x && decide (mg x ≠ 0))) (hr : r = (sg y && decide (mg y ≠ 0))) (h : RatAt w A l c B k d (fbN x) (fbD x)) (h' : RatAt w C l' c' F k' d' (fbN y) (fbD y)) :
    Calls Try.prog 23 #[.agg #[.bool s, .slice A l c, .slice B k d], .agg #[.bool r, .slice C l' c', .slice F k' d']] w (RetDR (sv x * sv y) w) := by
  have b1 := fbN_bits x
  have b2 := fbD_bits x
  have b3 := fbN_bits y
  have b4 := fbD_bits y
  have hp := Nat.mul_pos (fbD_pos x) (fbD_pos y)
  refine (rmulq_any _ _ A l c B k d (fbN x) (fbD x) C l' c' F k' d' (fbN y) (fbD y) w h h' (by omega) (by omega) (by omega) (by omega) hp).mono ?_
  rintro e w' ⟨A1, n1, c1, A2, n2, c2, rfl, h1, h2, hE⟩
  exact ⟨_, _, _, _, _, _, _, _, _, rfl, Lib.hid (DR.two x y hs hr), ⟨h1, h2⟩, hE⟩
theorem radd_dr (h : DR T s N D) (g : DR V r M E) (hT : nw T.natAbs ≤ 136) (hV : nw V.natAbs ≤ 136) (hr : RatAt w A l c B k d N D) (hr' : RatAt w C l' c' F k' d' M E) :
    Calls Try.prog 24 #[.agg #[.bool s, .slice A l c, .slice B k d], .agg #[.bool r, .slice C l' c', .slice F k' d']] w (RetDR (T + V) w) := by
  have b1 := h.nwN
  have b2 := h.nwD
  have b3 := g.nwN
  have b4 := g.nwD
  refine (radd_any _ _ A l c B k d N D C l' c' F k' d' M E w hr hr' (by omega) (by omega) (by omega) (by omega) (Nat.mul_pos h.pos g.pos)).mono ?_
  rintro e w' ⟨A1, n1, c1, A2, n2, c2, rfl, h1, h2, hE⟩
  exact ⟨_, _, _, _, _, _, _, _, _, rfl, Lib.hid (h.add g), ⟨h1, h2⟩, hE⟩
theorem rsign_dr (h : DR T s N D) (hT : nw T.natAbs ≤ 136) (hr : RatAt w A l c B k d N D) :
    Calls Try.prog 25 #[.agg #[.bool s, .slice A l c, .slice B k d]] w fun e w' => e = .returned (.int .i64 (if T < 0 then -1 else if T = 0 then 0 else 1)) ∧ Ext w w' := by
  have h1 := h.nwN
  have h2 := hr.lenN
  have := rsign_any s A l c (nd N) B k d w hr.1 (by omega)
  rwa [nv_nd, sgnZ_dr h] at this
theorem about_dr (h : DR T s N D) (hT : nw T.natAbs ≤ 136) (hr : RatAt w A l c B k d N D) :
    Calls Try.prog 26 #[.agg #[.bool s, .slice A l c, .slice B k d], .int .u64 (rT (-1) T : Nat), .int .u64 (rT 1 T : Nat)] w fun e w' => e = .returned (.bool true) ∧ Ext w w' := by
  have h1 := h.nwN
  have h2 := h.nwD
  exact about_any s A l c B k d N D _ _ _ w hr h.pos (tg_self h) (by omega) (by omega)
theorem about_q (h : QR T m s N D) (hr : RatAt w A l c B k d N D) :
    Calls Try.prog 26 #[.agg #[.bool s, .slice A l c, .slice B k d], .int .u64 (qT (-1) T m : Nat), .int .u64 (qT 1 T m : Nat)] w fun e w' => e = .returned (.bool true) ∧ Ext w w' := by
  obtain ⟨h1, h2, h3, h4⟩ := h
  exact about_any s A l c B k d N D _ _ _ w hr h2 h1 (by omega) (by omega)
theorem rquo_dr (h : DR T s N D) (hm : 0 < m) (hm2 : m < 9223372036854775808) (hT : nw T.natAbs ≤ 136) (hr : RatAt w A l c B k d N D) (hr' : RatAt w C l' c' F k' d' (fracN m 1 0) (fracD m 1 0)) :
    Calls Try.prog 27 #[.agg #[.bool s, .slice A l c, .slice B k d], .agg #[.bool false, .slice C l' c', .slice F k' d']] w (RetOv T m w) := by
  obtain ⟨b1, b2, b3, b4, b5, b6, b7, b8⟩ := quo_size h hm hm2 hT
  refine (rquoq_any _ _ A l c B k d N D C l' c' F k' d' _ _ w hr hr' (by omega) (by omega) (by omega) (by omega) b7).mono ?_
  rintro e w' ⟨A1, n1, c1, A2, n2, c2, rfl, h1, h2, hE⟩
  exact ⟨_, _, _, _, _, _, _, _, _, rfl, Lib.hid ⟨tg_quo h hm, b8, b5, b6⟩, ⟨h1, h2⟩, hE⟩
end
theorem zero_term (w : World) : (zeroValue 33).run Try.prog w = .ok (.agg #[.int .u64 0, .int .u64 0, .bool false]) w := by kernel_rfl
theorem agg_term (w : World) : (isAgg 33).run Try.prog w = .ok true w := by kernel_rfl
theorem size_term (w : World) : (sizeOf 33).run Try.prog w = .ok 3 w := by kernel_rfl
/-- A new box in an order-open region. -/
theorem gives_alloc {P : Program} {wz w0 : World} {L : List Bx} {W : List Sw} {o : Oper} {e : Operand → Value} {T : TypeId} {z : Value} {cs : List Value} (hO : Own w0 L W wz) (ho : o.op = .alloc T) (hz : ∀ w, (zeroValue T).run P w = .ok z w) (hcs : z.cells = cs.toArray) (hu : cs.any isU = false) :
    GivesL P (anyOf fun v wy => ∃ g, v = .pointer (some ⟨g, 0, none⟩) ∧ Own w0 (⟨g, T, cs⟩ :: L) W wy) wz ((execOp e o).run P wz) := by
  have : (execOp e o).run P wz = .ok (.value (.pointer (some ⟨wz.heap.size, 0, none⟩))) (wz.alloc (.cells cs.toArray T)) := by
    unfold execOp
    rw [ho]
    simp [Instr.alloc, newVar, newRow, hcs, hz]
  rw [this]
  exact ⟨⟨_, rfl, hO.alloc T cs hu⟩, (Ext.refl wz).alloc _⟩
end Go.Proofs.Ytfbjeifhpmdjaaa
