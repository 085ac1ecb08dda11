/-
  The law IvalHoldsRoots holds where what comes in is of bulk at most 1048576: a rational number that is not below 0, and whose square is an element of an interval, lies in the root of the interval; nothing below 0 does. Condition: that bulk.
-/
import Derived.Test.YtmcfflecaklpcaaRows
import Derived.Test.YtmcfflecaklpcaaZ55
import Derived.Test.YtmcfflecaklpcaaZ56
import Derived.ProofKit
import Derived.ChangeOld
import Derived.Below
import Derived.OpenShut
import Derived.JoinedCond
import Derived.Lib.SmallJoins
namespace Go.Proofs.Ytmcfflecaklpcaa.ivalHoldsRootsUpto
open Go.ChangeShapes Go.WideShapes Go.ChangeAt Go.RowKit Go.Joins Go.Deep Go.Proofs.Ytmcfflecaklpcaa
set_option linter.unusedVariables false

theorem own : ownKnob Try.prog.godebug = none := by kernel_rfl
theorem cellsX : Try.prog.cellsOf 58 = 5 := by kernel_rfl
theorem cellsE : Try.prog.cellsOf 80 = 1 := by kernel_rfl

theorem len_le {H : Type} (l : List (DataW H)) : l.length ≤ Rows.uptoBulkAll l := by
  induction l with
  | nil => simp [Rows.uptoBulkAll]
  | cons x r ih =>
    have : 1 ≤ Rows.uptoBulk x := by
      cases x with
      | lit l => cases l <;> simp [Rows.uptoBulk]
      | _ => simp [Rows.uptoBulk]
    simp only [Rows.uptoBulkAll, List.length_cons]
    omega
theorem short {H : Type} {y0 y1 y2 y3 y4 : DataW H} {n m : Nat} (hk : Rows.uptoSmall H [.agg [.agg [y0, y1], .agg [y2, y3, y4]]] = true) (h2 : (y3 = .nil ∧ n = 0) ∨ ∃ es rs, y3 = .slice es rs ∧ es.length = n) (h3 : (y4 = .nil ∧ m = 0) ∨ ∃ es rs, y4 = .slice es rs ∧ es.length = m) : n ≤ 1048576 ∧ m ≤ 1048576 := by
  have h : Rows.uptoBulkAll [DataW.agg (H := H) [.agg [y0, y1], .agg [y2, y3, y4]]] ≤ 1048576 := of_decide_eq_true hk
  simp only [Rows.uptoBulkAll, Rows.uptoBulk] at h
  have one : ∀ {y : DataW H} {n : Nat}, ((y = .nil ∧ n = 0) ∨ ∃ es rs, y = .slice es rs ∧ es.length = n) → n ≤ Rows.uptoBulk y := by
    intro y n hy
    rcases hy with ⟨rfl, rfl⟩ | ⟨es, rs, rfl, rfl⟩
    · omega
    · have := len_le es
      simp only [Rows.uptoBulk]
      omega
  have a2 := one h2
  have a3 := one h3
  omega
theorem off0 : (0 : Nat) = 0 ∧ Try.prog.cellsOf 49 = 2 := ⟨rfl, by kernel_rfl⟩
theorem off1 : (2 : Nat) = 2 ∧ Try.prog.cellsOf 35 = 3 := ⟨rfl, by kernel_rfl⟩

set_option maxRecDepth 100000 in
theorem lifted (os : Os) (started : os.Started) (H : Type) (enc : TypeId × Value → H) (F : Stop.Interp) :
    ReturnsInHanded {} Try.checked os 8 .any ((Rows.OpenSpec.upto Rows.ivalHoldsRootsSpec).pre6 enc Try.prog Try.f8 Rows.ivalHoldsRootsUptoRow.domain false) (((Rows.OpenSpec.upto Rows.ivalHoldsRootsSpec).at F).post enc Try.prog Try.f8 false true false false) := by
  refine returnsInHanded_of_cond (C := Try.checked) (s := Rows.OpenSpec.upto Rows.ivalHoldsRootsSpec) (k := Rows.uptoSmall) rfl own started (by kernel_rfl) Try.func8
    (OpenSpec.witness (enc := enc) (C := Try.checked) (s := Rows.OpenSpec.upto Rows.ivalHoldsRootsSpec) (k := Rows.uptoSmall) rfl false ⟨#[], #[.agg #[.int .u64 0, .int .u64 0, .bool false, .slice none 0 0, .slice none 0 0]], []⟩ 8 (by kernel_rfl) (by kernel_rfl) (by kernel_rfl)
      (x := ([.agg [.agg [.lit (.int .u64 0), .lit (.int .u64 0)], .agg [.lit (.bool false), .nil, .nil]]], [], [])) (by kernel_rfl) rfl (by kernel_rfl)) ?_
  intro W base args ds gs before hval0 hW _ hk _
  have hval : ∀ (j : Nat) t v, Try.f8.params[j]? = some t → args[j]? = some v → Value.okWide Try.prog W .any base t v := hval0
  have hW' := hW
  obtain ⟨p, q, hA0, hV, rfl, hfz, hnd⟩ := hW
  have hA : DataW.TrodAll enc Try.prog W 0 (fun _ => true) true Try.f8.params.toList args.toList ds p := hA0
  rw [Try.params8] at hA hval
  obtain ⟨v0, d0, rfl, rfl, h0⟩ := trodAll_one hA
  obtain ⟨rfl, rfl⟩ := trodVars_none hV
  obtain ⟨c0, c1, c2, c3, c4, y0, y1, y2, y3, y4, fu, rfl, rfl, rfl, t0, t1, t2, t3, t4⟩ := open_n23 Try.underlying58 cellsX off0 off1 Try.underlying49 (by kernel_rfl) Try.underlying35 (by kernel_rfl) (hval 0 58 v0 rfl rfl) h0
  obtain ⟨a, ea, rfl, wa⟩ := DataW.trod_int Try.underlying22 t0
  obtain ⟨b, eb, rfl, wb⟩ := DataW.trod_int Try.underlying22 t1
  obtain ⟨z, ez, rfl⟩ := DataW.trod_bool Try.underlying4 t2
  obtain ⟨A, n, c, xs, rfl, hX, hn, kX⟩ := open_words Try.underlying33 Try.underlying80 cellsE t3
  obtain ⟨B, m, c', ys, rfl, hY, hm, kY⟩ := open_words Try.underlying33 Try.underlying80 cellsE t4
  simp at ea eb ez
  subst ea eb ez
  clear hA0 hval0
  simp only [List.append_nil] at hW' hk
  obtain ⟨sn, sm⟩ := short hk hn hm
  have g1 := bounds_u64 wa
  have g2 := bounds_u64 wb
  obtain ⟨x1, rfl⟩ := Int.eq_ofNat_of_zero_le g1.1
  obtain ⟨x2, rfl⟩ := Int.eq_ofNat_of_zero_le g2.1
  refine (hroots_walk x1 x2 z A n c xs B m c' ys W (by omega) (by omega) hX hY sn sm).mono fun e W' ⟨he, hb⟩ => ?_
  subst he
  have bel : Below W.heap.size W W' := hb
  have hsp : ∀ p ∈ ([] ++ [] ++ ([] ++ (y3.2 ++ y4.2))), (fun b => decide (b < W.heap.size)) p.block = true := fun p hp => by
    have := hW'.lt p (by simpa using hp)
    simpa using this
  have hback := shut_n23 (enc := enc) (P := Try.prog) (w := W') (base := 0) (spare := fun b => decide (b < W.heap.size)) (held := true) (y0 := (.lit (.int .u64 (x1 : Int)), [])) (y1 := (.lit (.int .u64 (x2 : Int)), [])) (y2 := (.lit (.bool z), [])) (y3 := y3) (y4 := y4) Try.underlying58 cellsX off0 off1 Try.underlying49 (by kernel_rfl) Try.underlying35 (by kernel_rfl) ⟨1, trod_int_mk 0 Try.underlying22 wa⟩ ⟨1, trod_int_mk 0 Try.underlying22 wb⟩ (shut_bool Try.underlying4 z) (kX W' _ bel (fun p hp => hsp p (by simp [hp]))) (kY W' _ bel (fun p hp => hsp p (by simp [hp])))
  simp only [List.append_nil] at hback
  exact ⟨_, rfl, _, _, _, [], _, [], hW', trodAll_mk1 (shut_bool Try.underlying4 _), trodAll_mk1 hback, rfl, bel.frame _, fun h => by cases h⟩

/-- The statement. -/
theorem proved : Rows.IvalHoldsRootsUptoSaid :=
  OpenClaim.holds_of_cond 8 Try.f8 rfl rfl rfl rfl rfl rfl rfl ⟨rfl, rfl, rfl, rfl, rfl⟩ rfl rfl rfl rfl rfl (by kernel_rfl) Try.func8 (by kernel_rfl)
    (of_decide_eq_true (by kernel_rfl)) (by unfold Func.isWrapper; first | (rw [if_pos (by decide +kernel)]; kernel_rfl) | (rw [if_neg (by decide +kernel)]; exact ⟨rfl, rfl⟩))
    (fun os started H enc _ F => lifted os started H enc F)
#print axioms proved
end Go.Proofs.Ytmcfflecaklpcaa.ivalHoldsRootsUpto
