/-
  Plain, over whatever program: an array of two numbers by value, opened and shut. Conditions: those that each theorem names.
-/
import Derived.ProofKit
import Derived.WideKeyArr2
import Derived.Lib.SmallJoins
namespace Go.Proofs.YtadijoeeaineaaaDoor
open Go Go.ChangeShapes Go.WideShapes Go.ChangeAt Go.RowKit Go.Joins
set_option linter.unusedVariables false
set_option linter.unusedSimpArgs false
section
variable {H : Type} {enc : TypeId × Value → H} {P : Program} {k e : TypeId} {q : IntKind} {w : World} {base : Nat} {sp : Nat → Bool} {held : Bool}
theorem open_arr2 {r : Reach} {b0 : Nat} {v : Value} {d : DataW H} {p : List MemPlace} (hu : P.underlying k = some (.array 2 e)) (he : P.underlying e = some (.int q)) (h1 : P.cellsOf e = 1) (h2 : P.cellsOf k = 2)
    (hv : Value.okWide P w r b0 k v) (h : DataW.Trod enc P w base sp held k v d p) :
    ∃ a b : Int, v = .agg #[.int q a, .int q b] ∧ d = .agg [.lit (.int q a), .lit (.int q b)] ∧ p = [] ∧ (Lit.int q a).wf = true ∧ (Lit.int q b).wf = true := by
  simp only [Value.okWide, hu] at hv
  obtain ⟨cs, rfl, hsz, -⟩ := hv
  obtain ⟨c0, c1, rfl⟩ := array2 (hsz.trans h2)
  obtain ⟨fuel, hf⟩ := h
  cases fuel with
  | zero => simp [DataW.trod] at hf
  | succ m =>
    rw [DataW.trod_step] at hf
    unfold DataW.trodStep at hf
    simp only [hu, Value.cells] at hf
    rw [if_pos (by rw [h2]; rfl)] at hf
    simp only [Option.map_eq_some_iff] at hf
    obtain ⟨ys, hy, e1⟩ := hf
    rw [show List.range 2 = [0, 1] from rfl] at hy
    simp only [List.mapM_cons, List.mapM_nil, bind, Option.bind_eq_some_iff, pure, Option.some.injEq, h1] at hy
    obtain ⟨y0, k0, ys1, ⟨y1, k1, ys2, rfl, rfl⟩, rfl⟩ := hy
    obtain ⟨a, ea, rfl, wa⟩ := DataW.trod_int he k0
    obtain ⟨b, eb, rfl, wb⟩ := DataW.trod_int he k1
    simp at ea eb
    subst ea eb
    simp at e1
    exact ⟨a, b, rfl, e1.1.symm, e1.2, wa, wb⟩
theorem shut_arr2 {a b : Int} (hu : P.underlying k = some (.array 2 e)) (he : P.underlying e = some (.int q)) (h1 : P.cellsOf e = 1) (h2 : P.cellsOf k = 2) (wa : (Lit.int q a).wf = true) (wb : (Lit.int q b).wf = true) :
    DataW.Trod enc P w base sp held k (.agg #[.int q a, .int q b]) (.agg [.lit (.int q a), .lit (.int q b)]) [] := by
  refine ⟨2, ?_⟩
  rw [DataW.trod_step]
  unfold DataW.trodStep
  simp only [hu, Value.cells]
  rw [if_pos (by rw [h2]; rfl), show List.range 2 = [0, 1] from rfl]
  have t0 := trod_int_mk (enc := enc) (w := w) (base := base) (spare := sp) (held := held) 0 he wa
  have t1 := trod_int_mk (enc := enc) (w := w) (base := base) (spare := sp) (held := held) 0 he wb
  simp only [List.mapM_cons, List.mapM_nil, h1]
  simp [t0, t1]
end
end Go.Proofs.YtadijoeeaineaaaDoor
