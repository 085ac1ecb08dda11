/-
  Plain, over whatever program: the boxes' cells alone; where a walk stands. Conditions: those that each theorem names.
-/
import Derived.Test.YtjblogfbcglnmaaZ08
namespace Go.Proofs.Ytjblogfbcglnmaa
open Go Go.RowKit Nm
set_option linter.unusedVariables false
set_option linter.unusedSimpArgs false

/-- The cells of the boxes alone: what is told so keeps a store from being walked cell by cell. -/
def CC (w : World) (g : Nat) : Nat → List Value → Prop
  | _, [] => True
  | i, v :: vs => w.cell? ⟨g, i, none⟩ = some v ∧ CC w g (i + 1) vs
def BC (w : World) : List Bx → Prop
  | [] => True
  | b :: L => CC w b.g 0 b.cs ∧ BC w L
theorem CC.of {w : World} {g : Nat} : ∀ {i : Nat} {cs : List Value}, CF w g i cs → CC w g i cs
  | _, [], _ => trivial
  | _, _ :: _, h => ⟨h.1, CC.of h.2.2⟩
theorem BC.of {w : World} : ∀ {L : List Bx}, BF w L → BC w L
  | [], _ => trivial
  | _ :: _, h => ⟨CC.of h.2.1, BC.of h.2.2⟩
theorem Own.cells {w0 w : World} {L : List Bx} {W : List Sw} (h : Own w0 L W w) : BC w L := BC.of h.facts
section
variable {P : Program} {ops : Array Oper} {Q : Exit → Act → World → Prop} {a : Act} {w : World} {rest : List Oper} {T ty : TypeId} {ps : String} {af : Array Edge} {x y : Operand} {d : Tmp}
/-- Where the walk stands: each of these says nothing, and lets an arm be passed by quickly. -/
theorem at_store (h : wpList P ops Q ({ dst := none, op := .store T x y, type := ty, pos := ps, after := af, guard := none } :: rest) a w) : wpList P ops Q ({ dst := none, op := .store T x y, type := ty, pos := ps, after := af, guard := none } :: rest) a w := h
theorem at_box (h : wpList P ops Q ({ dst := some d, op := .box T x, type := ty, pos := ps, after := af, guard := none } :: rest) a w) : wpList P ops Q ({ dst := some d, op := .box T x, type := ty, pos := ps, after := af, guard := none } :: rest) a w := h
theorem at_alloc (h : wpList P ops Q ({ dst := some d, op := .alloc T, type := ty, pos := ps, after := af, guard := none } :: rest) a w) : wpList P ops Q ({ dst := some d, op := .alloc T, type := ty, pos := ps, after := af, guard := none } :: rest) a w := h
end
end Go.Proofs.Ytjblogfbcglnmaa
