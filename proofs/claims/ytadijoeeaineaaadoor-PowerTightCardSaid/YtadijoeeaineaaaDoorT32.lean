/-
  Plain, over whatever program: a slice literal, and an append that grows, among a call's own boxes. Conditions: those that each theorem names.
-/
import Derived.Test.YtadijoeeaineaaaDoorT08
import Derived.Great.Walk
import Derived.ArgAppend
namespace Go.Proofs.YtadijoeeaineaaaDoor
open Go.RowKit
set_option linter.unusedVariables false
set_option linter.unusedSimpArgs false

section
variable {P : Program} {w0 w : World} {L : List Bx} {W : List Sw} {ops : Array Oper} {rest : List Oper} {a : Act} {Q : Exit → Act → World → Prop}
theorem zeros_u64 (n : Nat) : (Builtin.zeroCells (Value.int .u64 0).cells n) = (List.replicate n (Value.int .u64 0)).toArray := by
  apply Array.ext
  · simp [Builtin.zeroCells, Value.cells]
  · intro i h1 h2
    simp [Builtin.zeroCells, Value.cells, Nat.mod_one]
theorem own_slice (hO : Own w0 L W w) {t e : TypeId} {len : Nat} {parts : Array (Nat × Operand)} {d ty ps af} (hu : P.underlying t = some (.slice e)) {cs : List Value} (hf : P.builtSlice e len (parts.map fun (i, x) => (i, a.eval x)).toList = some cs.toArray) (hn : cs.any isU = false)
    (h : ∀ g w', Own w0 (⟨g, e, cs⟩ :: L) W w' → wpList P ops Q rest (a.put (some d) (.slice (some ⟨g, 0, none⟩) len len)) w') :
    wpList P ops Q ({ dst := some d, op := .buildSlice t len parts, type := ty, pos := ps, after := af, guard := none } :: rest) a w :=
  Great.wpList_buildSliceTo rfl t e len parts rfl _ rfl (some d) rfl hu cs.toArray hf (h _ _ (hO.alloc e cs hn))
theorem own_append (hO : Own w0 L W w) {s x : Operand} {t e : TypeId} {i : TypeInfo} {d ty ps af} {bytes : Nat} (h1 : P.underlying t = some (.slice e)) (h2 : P.info? e = some i) (h3 : i.zero = some (.int .u64 0)) (h4 : i.size = 1) (h5 : i.bytes = bytes)
    (g n g2 m : Nat) (olds news : List Value) (k1 k2 : Nat) (hk1 : L[k1]? = some ⟨g, e, olds⟩) (hk2 : L[k2]? = some ⟨g2, e, news⟩) (hs : a.eval s = .slice (some ⟨g, 0, none⟩) n n) (hlo : olds.length = n) (hx : a.eval x = .slice (some ⟨g2, 0, none⟩) m m) (hn : news.length = m) (h0 : 0 < m) (hb1 : n + m ≤ 1000) (hb2 : bytes ≤ 1000)
    (h : ∀ g' k cap w', Own w0 (⟨g', e, olds ++ news ++ List.replicate k (.int .u64 0)⟩ :: L) W w' → wpList P ops Q rest (a.put (some d) (.slice (some ⟨g', 0, none⟩) (n + m) cap)) w') :
    wpList P ops Q ({ dst := some d, op := .call { callee := .builtin .append, args := #[s, x], argTypes := #[t, t] }, type := ty, pos := ps, after := af, guard := none } :: rest) a w := by
  have b1 := hO.2.1 _ (List.mem_of_getElem? hk1)
  have b2 := hO.2.1 _ (List.mem_of_getElem? hk2)
  have hadd : ∀ g j, (⟨g, 0, none⟩ : Addr).add j = ⟨g, j, none⟩ := fun g j => by rw [Addr.add_lit, Nat.zero_add]
  have hrun := run_append_grow (P := P) w t ty e i _ h1 h2 h3 ⟨g, 0, none⟩ n n olds (by rw [h4, hlo, Nat.mul_one])
    (fun j v hj => by rw [hadd, b1.2.1.cell]; simpa using hj) ⟨g2, 0, none⟩ m m news (by rw [h4, hn, Nat.mul_one]) (fun j v hj => by rw [hadd, b2.2.1.cell]; simpa using hj) (by omega) (by omega)
    (growslice_fits (by omega) (by rw [h5]; exact Nat.le_trans (Nat.mul_le_mul hb1 hb2) (by decide)))
  rw [zeros_u64] at hrun
  generalize hk : grownCap w (n + m) n e - (n + m) = k at hrun
  generalize grownCap w (n + m) n e = cap at hrun
  have hOn := (hO.ext (Ext.refl w).drew).alloc e (olds ++ news ++ List.replicate k (.int .u64 0)) (by
    rw [List.any_append, List.any_append, b1.2.2, b2.2.2]
    simp [List.any_replicate, isU])
  rw [show (olds ++ news ++ List.replicate k (Value.int .u64 0)).toArray = olds.toArray ++ news.toArray ++ (List.replicate k (Value.int .u64 0)).toArray by simp] at hOn
  refine wpList_plain rfl fun K hK' => ?_
  unfold Oper.wp
  simp [execOp, resolve, invoke, builtin, hs, hx, hrun, Result.andThen]
  exact hK' _ _ (h _ _ _ _ (by simpa using hOn))
end
end Go.Proofs.YtadijoeeaineaaaDoor
