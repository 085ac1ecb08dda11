/-
  Plain, over whatever program: a struct of five one-cell fields by value, opened and shut; a list of words opened, and read again where what was there stands. Conditions: those that each theorem names.
-/
import Derived.Test.YtjblogfbcglnmaaZ02
import Derived.Test.YtjblogfbcglnmaaZ10
import Derived.ProofKit
import Derived.OpenShut
import Derived.ChangeSlices
import Derived.Lib.SmallJoins
import Derived.Below
import Derived.Deep.Fields
namespace Go.Proofs.Ytjblogfbcglnmaa
open Go Go.ChangeShapes Go.WideShapes Go.ChangeAt Go.RowKit Go.Joins Go.Deep Nm
set_option linter.unusedVariables false
set_option linter.unusedSimpArgs false
section
variable {H : Type} {enc : TypeId × Value → H} {P : Program} {w : World} {base : Nat} {spare : Nat → Bool} {held : Bool}
theorem array5 {α : Type} {cs : Array α} (h : cs.size = 5) : ∃ c0 c1 c2 c3 c4, cs = #[c0, c1, c2, c3, c4] := by
  obtain ⟨l⟩ := cs
  match l, h with
  | [c0, c1, c2, c3, c4], _ => exact ⟨c0, c1, c2, c3, c4, rfl⟩
theorem list5 {α : Type} {l : List α} (h : l.length = 5) : ∃ c0 c1 c2 c3 c4, l = [c0, c1, c2, c3, c4] := by
  match l, h with
  | [c0, c1, c2, c3, c4], _ => exact ⟨c0, c1, c2, c3, c4, rfl⟩
theorem open_agg5 {r : Reach} {b0 : Nat} {t : TypeId} {f0 f1 f2 f3 f4 : Field} {v : Value} {d : DataW H} {p : List MemPlace} (hs : P.underlying t = some (.struct #[f0, f1, f2, f3, f4])) (hone : oneCellFields P #[f0, f1, f2, f3, f4] = true) (hC : P.cellsOf t = 5)
    (hv : Value.okWide P w r b0 t v) (h : DataW.Trod enc P w base spare held t v d p) :
    ∃ (v0 v1 v2 v3 v4 : Value) (y0 y1 y2 y3 y4 : DataW H × List MemPlace) (n : Nat), v = .agg #[v0, v1, v2, v3, v4] ∧ d = .agg [y0.1, y1.1, y2.1, y3.1, y4.1] ∧ p = y0.2 ++ (y1.2 ++ (y2.2 ++ (y3.2 ++ y4.2))) ∧
      DataW.trod enc P w base spare held n f0.type [v0] = some y0 ∧ DataW.trod enc P w base spare held n f1.type [v1] = some y1 ∧ DataW.trod enc P w base spare held n f2.type [v2] = some y2 ∧ DataW.trod enc P w base spare held n f3.type [v3] = some y3 ∧ DataW.trod enc P w base spare held n f4.type [v4] = some y4 := by
  obtain ⟨cs, rfl, hsz⟩ := okWide_struct hs hv
  obtain ⟨c0, c1, c2, c3, c4, rfl⟩ := array5 (hsz.trans hC)
  obtain ⟨fuel, hf⟩ := h
  obtain ⟨xs, n, _, hx, _, hlen, hff⟩ := DataW.trod_struct hs hf
  obtain ⟨y0, y1, y2, y3, y4, rfl⟩ := list5 hlen
  obtain ⟨o0, k0⟩ := hone_of hone 0 f0 rfl
  obtain ⟨o1, k1⟩ := hone_of hone 1 f1 rfl
  obtain ⟨o2, k2⟩ := hone_of hone 2 f2 rfl
  obtain ⟨o3, k3⟩ := hone_of hone 3 f3 rfl
  obtain ⟨o4, k4⟩ := hone_of hone 4 f4 rfl
  simp only [Prod.mk.injEq] at hx
  have h0 := hff 0 f0 rfl
  have h1 := hff 1 f1 rfl
  have h2 := hff 2 f2 rfl
  have h3 := hff 3 f3 rfl
  have h4 := hff 4 f4 rfl
  exact ⟨c0, c1, c2, c3, c4, y0, y1, y2, y3, y4, n, rfl, hx.1, by simpa using hx.2, by simpa [Value.cells, o0, k0] using h0, by simpa [Value.cells, o1, k1] using h1, by simpa [Value.cells, o2, k2] using h2, by simpa [Value.cells, o3, k3] using h3, by simpa [Value.cells, o4, k4] using h4⟩
theorem shut_agg5 {t : TypeId} {f0 f1 f2 f3 f4 : Field} {v0 v1 v2 v3 v4 : Value} {y0 y1 y2 y3 y4 : DataW H × List MemPlace} (hs : P.underlying t = some (.struct #[f0, f1, f2, f3, f4])) (hone : oneCellFields P #[f0, f1, f2, f3, f4] = true) (hC : P.cellsOf t = 5)
    (t0 : ∃ n, DataW.trod enc P w base spare held n f0.type [v0] = some y0) (t1 : ∃ n, DataW.trod enc P w base spare held n f1.type [v1] = some y1) (t2 : ∃ n, DataW.trod enc P w base spare held n f2.type [v2] = some y2) (t3 : ∃ n, DataW.trod enc P w base spare held n f3.type [v3] = some y3) (t4 : ∃ n, DataW.trod enc P w base spare held n f4.type [v4] = some y4) :
    DataW.Trod enc P w base spare held t (.agg #[v0, v1, v2, v3, v4]) (.agg [y0.1, y1.1, y2.1, y3.1, y4.1]) (y0.2 ++ (y1.2 ++ (y2.2 ++ (y3.2 ++ y4.2)))) := by
  obtain ⟨n0, t0⟩ := t0
  obtain ⟨n1, t1⟩ := t1
  obtain ⟨n2, t2⟩ := t2
  obtain ⟨n3, t3⟩ := t3
  obtain ⟨n4, t4⟩ := t4
  obtain ⟨o0, k0⟩ := hone_of hone 0 f0 rfl
  obtain ⟨o1, k1⟩ := hone_of hone 1 f1 rfl
  obtain ⟨o2, k2⟩ := hone_of hone 2 f2 rfl
  obtain ⟨o3, k3⟩ := hone_of hone 3 f3 rfl
  obtain ⟨o4, k4⟩ := hone_of hone 4 f4 rfl
  obtain ⟨N, hN⟩ : ∃ N, N = n0 + n1 + n2 + n3 + n4 := ⟨_, rfl⟩
  have e0 := DataW.trod_le (show n0 ≤ N by omega) t0
  have e1 := DataW.trod_le (show n1 ≤ N by omega) t1
  have e2 := DataW.trod_le (show n2 ≤ N by omega) t2
  have e3 := DataW.trod_le (show n3 ≤ N by omega) t3
  have e4 := DataW.trod_le (show n4 ≤ N by omega) t4
  have ts := trod_struct_mk (enc := enc) (w := w) (base := base) (spare := spare) (held := held) (n := N) (cs := [v0, v1, v2, v3, v4]) (xs := [y0, y1, y2, y3, y4]) hs (by simp [hC]) (by simp [o0, k0, o1, k1, o2, k2, o3, k3, o4, k4, e0, e1, e2, e3, e4])
  exact ⟨_, by simpa [Value.cells] using ts⟩
end
theorem cell_lt {w : World} {p : Addr} {v : Value} (h : w.cell? p = some v) : p.block < w.heap.size := by
  rcases Nat.lt_or_ge p.block w.heap.size with c | c
  · exact c
  · exfalso
    have : w.heap[p.block]? = none := Array.getElem?_eq_none c
    unfold World.cell? at h
    rw [this] at h
    simp at h
section
variable {H : Type} {enc : TypeId × Value → H} {P : Program}
/-- A list of words that came in: what it holds, and that it reads as it did where what was there stands. -/
theorem open_words {w : World} {held : Bool} {t e : TypeId} {v : Value} {y : DataW H × List MemPlace} {fuel : Nat} (ht : P.underlying t = some (.slice e)) (he : P.underlying e = some (.int .u32)) (hc : P.cellsOf e = 1)
    (h : DataW.trod enc P w 0 (fun _ => true) held fuel t [v] = some y) :
    ∃ A n c xs, v = .slice A n c ∧ Wds w A n c xs ∧ ((y.1 = .nil ∧ n = 0) ∨ ∃ es rs, y.1 = .slice es rs ∧ es.length = n) ∧
      ∀ (w' : World) (sp : Nat → Bool), Below w.heap.size w w' → (∀ p ∈ y.2, sp p.block = true) → ∃ m, DataW.trod enc P w' 0 sp held m t [v] = some y := by
  rcases open_ints ht he hc h with ⟨e1, e2⟩ | ⟨a, len, cap, zs, e1, hb, hl, hm, hz, e2, hcell, hwf⟩
  · simp at e1
    subst e1 e2
    refine ⟨none, 0, 0, [], rfl, Wds.nil_ (by unfold maxLen; omega), .inl ⟨rfl, rfl⟩, fun w' sp _ _ => ⟨1, ?_⟩⟩
    simp [DataW.trod, ht]
  · simp at e1
    subst e1 e2
    simp only [if_true] at hz
    have hzw : ∀ i, i < zs.length → 0 ≤ zs.getD i 0 ∧ zs.getD i 0 < 4294967296 := fun i hi => by
      have e : zs.getD i 0 = zs[i] := by simp [List.getD, hi]
      have := bounds_u32 (hwf _ (List.getElem_mem hi))
      rw [e]; omega
    refine ⟨some a, len, cap, (zs.take len).map Int.toNat, rfl, ⟨by simp; omega, hl, hm, ?_, fun h0 => ⟨a, rfl, ?_, fun k x hk => ?_⟩⟩, .inr ⟨_, _, rfl, by simp [lits]; omega⟩, fun w' sp hbel hsp => ?_⟩
    · intro x hx
      rw [List.mem_map] at hx
      obtain ⟨z, hz1, rfl⟩ := hx
      have := bounds_u32 (hwf z (List.mem_of_mem_take hz1))
      omega
    · have := cell_lt (hcell 0 (by omega))
      rw [block_of_add] at this
      exact this
    · rw [List.getElem?_map, List.getElem?_take] at hk
      split at hk
      · rename_i hkl
        have hkz : k < zs.length := by omega
        rw [List.getElem?_eq_getElem hkz] at hk
        simp at hk
        have e : zs.getD k 0 = zs[k] := by simp [List.getD, hkz]
        have hb2 := hzw k hkz
        rw [hcell k hkz, e]
        rw [e] at hb2
        congr 2
        omega
      · simp at hk
    · refine ⟨2, shut_ints 0 ht he hc hb hl hm ?_ (fun i hi => ?_) hwf⟩
      · rcases Nat.eq_zero_or_pos cap with h0 | h0
        · split <;> omega
        · have hs : sp a.block = true := hsp (.cell a.block (a.off + 0)) (List.mem_map.2 ⟨0, List.mem_range.2 (by omega), rfl⟩)
          rw [hs]; exact hz
      · rw [hbel.cell (by have := cell_lt (hcell i hi); exact this)]
        exact hcell i hi
end
end Go.Proofs.Ytjblogfbcglnmaa
