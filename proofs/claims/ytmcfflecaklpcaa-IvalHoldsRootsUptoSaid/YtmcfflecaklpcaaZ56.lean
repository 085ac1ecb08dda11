/-
  Plain, over whatever program: a struct of a struct of two one-cell fields and one of three, by value, opened and shut. Conditions: those that each theorem names.
-/
import Derived.Test.YtmcfflecaklpcaaZ55
namespace Go.Proofs.Ytmcfflecaklpcaa
open Go Go.ChangeShapes Go.WideShapes Go.ChangeAt Go.RowKit Go.Joins Go.Deep Nm
set_option linter.unusedVariables false
set_option linter.unusedSimpArgs false
section
variable {H : Type} {enc : TypeId × Value → H} {P : Program} {w : World} {base : Nat} {spare : Nat → Bool} {held : Bool}
theorem list2 {α : Type} {l : List α} (h : l.length = 2) : ∃ c0 c1, l = [c0, c1] := by
  match l, h with
  | [c0, c1], _ => exact ⟨c0, c1, rfl⟩
theorem list3 {α : Type} {l : List α} (h : l.length = 3) : ∃ c0 c1 c2, l = [c0, c1, c2] := by
  match l, h with
  | [c0, c1, c2], _ => exact ⟨c0, c1, c2, rfl⟩
theorem open_n23 {r : Reach} {b0 : Nat} {t : TypeId} {f0 f1 g0 g1 k0 k1 k2 : Field} {v : Value} {d : DataW H} {p : List MemPlace} (hs : P.underlying t = some (.struct #[f0, f1])) (hC : P.cellsOf t = 5) (o0 : f0.offset = 0 ∧ P.cellsOf f0.type = 2) (o1 : f1.offset = 2 ∧ P.cellsOf f1.type = 3)
    (s0 : P.underlying f0.type = some (.struct #[g0, g1])) (one0 : oneCellFields P #[g0, g1] = true) (s1 : P.underlying f1.type = some (.struct #[k0, k1, k2])) (one1 : oneCellFields P #[k0, k1, k2] = true)
    (hv : Value.okWide P w r b0 t v) (h : DataW.Trod enc P w base spare held t v d p) :
    ∃ (v0 v1 v2 v3 v4 : Value) (y0 y1 y2 y3 y4 : DataW H × List MemPlace) (n : Nat), v = .agg #[v0, v1, v2, v3, v4] ∧ d = .agg [.agg [y0.1, y1.1], .agg [y2.1, y3.1, y4.1]] ∧ p = (y0.2 ++ y1.2) ++ (y2.2 ++ (y3.2 ++ y4.2)) ∧
      DataW.trod enc P w base spare held n g0.type [v0] = some y0 ∧ DataW.trod enc P w base spare held n g1.type [v1] = some y1 ∧ DataW.trod enc P w base spare held n k0.type [v2] = some y2 ∧ DataW.trod enc P w base spare held n k1.type [v3] = some y3 ∧ DataW.trod enc P w base spare held n k2.type [v4] = some y4 := by
  obtain ⟨cs, rfl, hsz⟩ := okWide_struct hs hv
  obtain ⟨c0, c1, c2, c3, c4, rfl⟩ := array5 (hsz.trans hC)
  obtain ⟨fuel, hf⟩ := h
  obtain ⟨xs, n, _, hx, _, hlen, hff⟩ := DataW.trod_struct hs hf
  obtain ⟨z0, z1, rfl⟩ := list2 hlen
  have h0 := hff 0 f0 rfl
  have h1 := hff 1 f1 rfl
  simp only [Value.cells, o0.1, o0.2] at h0
  simp only [Value.cells, o1.1, o1.2] at h1
  simp only [Prod.mk.injEq] at hx
  obtain ⟨xs0, n0, hn0, hx0, _, hlen0, hff0⟩ := DataW.trod_struct s0 (show DataW.trod enc P w base spare held n f0.type [c0, c1] = some z0 by simpa using h0)
  obtain ⟨xs1, n1, hn1, hx1, _, hlen1, hff1⟩ := DataW.trod_struct s1 (show DataW.trod enc P w base spare held n f1.type [c2, c3, c4] = some z1 by simpa using h1)
  obtain ⟨y0, y1, rfl⟩ := list2 hlen0
  obtain ⟨y2, y3, y4, rfl⟩ := list3 hlen1
  obtain ⟨p0, q0⟩ := hone_of one0 0 g0 rfl
  obtain ⟨p1, q1⟩ := hone_of one0 1 g1 rfl
  obtain ⟨p2, q2⟩ := hone_of one1 0 k0 rfl
  obtain ⟨p3, q3⟩ := hone_of one1 1 k1 rfl
  obtain ⟨p4, q4⟩ := hone_of one1 2 k2 rfl
  have e0 := hff0 0 g0 rfl
  have e1 := hff0 1 g1 rfl
  have e2 := hff1 0 k0 rfl
  have e3 := hff1 1 k1 rfl
  have e4 := hff1 2 k2 rfl
  have hnn : n1 = n0 := by omega
  subst hnn
  subst hx0 hx1
  exact ⟨c0, c1, c2, c3, c4, y0, y1, y2, y3, y4, n1, rfl, by simpa using hx.1, by simpa using hx.2, by simpa [p0, q0] using e0, by simpa [p1, q1] using e1, by simpa [p2, q2] using e2, by simpa [p3, q3] using e3, by simpa [p4, q4] using e4⟩
theorem shut_n23 {t : TypeId} {f0 f1 g0 g1 k0 k1 k2 : Field} {v0 v1 v2 v3 v4 : Value} {y0 y1 y2 y3 y4 : DataW H × List MemPlace} (hs : P.underlying t = some (.struct #[f0, f1])) (hC : P.cellsOf t = 5) (o0 : f0.offset = 0 ∧ P.cellsOf f0.type = 2) (o1 : f1.offset = 2 ∧ P.cellsOf f1.type = 3)
    (s0 : P.underlying f0.type = some (.struct #[g0, g1])) (one0 : oneCellFields P #[g0, g1] = true) (s1 : P.underlying f1.type = some (.struct #[k0, k1, k2])) (one1 : oneCellFields P #[k0, k1, k2] = true)
    (t0 : ∃ n, DataW.trod enc P w base spare held n g0.type [v0] = some y0) (t1 : ∃ n, DataW.trod enc P w base spare held n g1.type [v1] = some y1) (t2 : ∃ n, DataW.trod enc P w base spare held n k0.type [v2] = some y2) (t3 : ∃ n, DataW.trod enc P w base spare held n k1.type [v3] = some y3) (t4 : ∃ n, DataW.trod enc P w base spare held n k2.type [v4] = some y4) :
    DataW.Trod enc P w base spare held t (.agg #[v0, v1, v2, v3, v4]) (.agg [.agg [y0.1, y1.1], .agg [y2.1, y3.1, y4.1]]) ((y0.2 ++ y1.2) ++ (y2.2 ++ (y3.2 ++ y4.2))) := by
  obtain ⟨n0, t0⟩ := t0
  obtain ⟨n1, t1⟩ := t1
  obtain ⟨n2, t2⟩ := t2
  obtain ⟨n3, t3⟩ := t3
  obtain ⟨n4, t4⟩ := t4
  obtain ⟨p0, q0⟩ := hone_of one0 0 g0 rfl
  obtain ⟨p1, q1⟩ := hone_of one0 1 g1 rfl
  obtain ⟨p2, q2⟩ := hone_of one1 0 k0 rfl
  obtain ⟨p3, q3⟩ := hone_of one1 1 k1 rfl
  obtain ⟨p4, q4⟩ := hone_of one1 2 k2 rfl
  obtain ⟨N, hN⟩ : ∃ N, N = n0 + n1 + n2 + n3 + n4 := ⟨_, rfl⟩
  have e0 := DataW.trod_le (show n0 ≤ N by omega) t0
  have e1 := DataW.trod_le (show n1 ≤ N by omega) t1
  have e2 := DataW.trod_le (show n2 ≤ N by omega) t2
  have e3 := DataW.trod_le (show n3 ≤ N by omega) t3
  have e4 := DataW.trod_le (show n4 ≤ N by omega) t4
  have a0 := trod_struct_mk (enc := enc) (w := w) (base := base) (spare := spare) (held := held) (n := N) (cs := [v0, v1]) (xs := [y0, y1]) s0 (by simp [o0.2]) (by simp [p0, q0, p1, q1, e0, e1])
  have a1 := trod_struct_mk (enc := enc) (w := w) (base := base) (spare := spare) (held := held) (n := N) (cs := [v2, v3, v4]) (xs := [y2, y3, y4]) s1 (by simp [o1.2]) (by simp [p2, q2, p3, q3, p4, q4, e2, e3, e4])
  have ts := trod_struct2_mk (enc := enc) (w := w) (base := base) (spare := spare) (held := held) (n := N + 1) (cs := [v0, v1, v2, v3, v4]) hs (by simp [hC]) (by simpa [o0.1, o0.2] using a0) (by simpa [o1.1, o1.2] using a1)
  exact ⟨_, by simpa [Value.cells] using ts⟩
end
end Go.Proofs.Ytmcfflecaklpcaa
