/-
  The contracts of the document's own intervals, third part: validity. Conditions: those that each theorem names.
-/
import Derived.Test.YtcimfccjcikemaaRefL
import Derived.Outline
namespace Go.Proofs.Ytcimfccjcikemaa
open Go.RowKit Nm Rn
set_option maxRecDepth 100000
set_option linter.unusedVariables false
set_option linter.unusedSimpArgs false

/-- Two pairs of patterns are one. -/
theorem eqI (a b c d : Int) (w : World) : (binOp .eql 24 (.agg #[.int .u64 a, .int .u64 b]) (.agg #[.int .u64 c, .int .u64 d])).run Try.prog w = .ok (.bool (a == c && b == d)) w := by
  cases h1 : (a == c) <;> cases h2 : (b == d) <;> go_simp <;> simp [h1, h2]
theorem eqI' {a b c d : Int} {E : Bool} (h : (a == c && b == d) = E) (w : World) : (binOp .eql 24 (.agg #[.int .u64 a, .int .u64 b]) (.agg #[.int .u64 c, .int .u64 d])).run Try.prog w = .ok (.bool E) w := by rw [eqI, h]

set_option maxHeartbeats 1000000 in
theorem valid6_any (lo hi : Nat) (w : World) (hl : lo < 18446744073709551616) (hh : hi < 18446744073709551616) :
    Calls Try.prog 20 #[.agg #[.int .u64 (lo : Int), .int .u64 (hi : Int)]] w fun e w' => e = .returned (.bool (vldB lo hi)) ∧ Ext w w' := by
  have hs := fun w => sound6_any lo hi w hl hh
  have hF : vldB lo hi = vldB lo hi := rfl
  conv at hF => rhs; unfold vldB
  have hE : ((lo : Int) == (infR : Nat) && (hi : Int) == (minf : Nat)) = (decide (lo = infR) && decide (hi = minf)) := by
    congr 1
    · rw [Bool.eq_iff_iff, beq_iff_eq, decide_eq_true_iff]; omega
    · rw [Bool.eq_iff_iff, beq_iff_eq, decide_eq_true_iff]; omega
  have HC := Lib.hid (show ((lo : Int) != 9223372036854775808) = decide (lo ≠ 9223372036854775808) by rw [Bool.eq_iff_iff, bne_iff_ne, decide_eq_true_iff]; omega)
  have HD := Lib.hid (show ((hi : Int) != 9223372036854775808) = decide (hi ≠ 9223372036854775808) by rw [Bool.eq_iff_iff, bne_iff_ne, decide_eq_true_iff]; omega)
  obtain ⟨E, hEE⟩ : ∃ E, E = (decide (lo = infR) && decide (hi = minf)) := ⟨_, rfl⟩
  obtain ⟨c, hc⟩ : ∃ c, c = decide (lo ≠ 9223372036854775808) := ⟨_, rfl⟩
  obtain ⟨d, hd⟩ : ∃ d, d = decide (hi ≠ 9223372036854775808) := ⟨_, rfl⟩
  rw [← hEE, ← hc, ← hd] at hF
  rw [← hEE] at hE
  rw [← hc] at HC
  rw [← hd] at HD
  have hC := HC.out
  have hD := HD.out
  have hq := eqI' hE
  obtain ⟨R, hR⟩ : ∃ R, R = vldB lo hi := ⟨_, rfl⟩
  rw [← hR] at hF ⊢
  obtain ⟨V, hV⟩ : ∃ V, V = sndB lo hi := ⟨_, rfl⟩
  rw [← hV] at hF hs
  have HF := Lib.hid hF
  have HS := Lib.hid hs
  clear hEE hc hd HC HD hR hE hs hF hV hl hh
  go_enter Try.func20, Try.ntmps20
  go_wp2_with fail
  go_region_with (go_at_call 24; refine (empty6_any _).mono ?_; rintro e w2 ⟨rfl, hE2⟩; have hbx := Blk.ext (w := (w.alloc (.cells #[.int .u64 (lo : Int), .int .u64 (hi : Int)] 24)).drew) (Blk.new w 24 #[.int .u64 (lo : Int), .int .u64 (hi : Int)]) hE2; have b0 : w2.cell? ⟨w.heap.size, 0, none⟩ = some (.int .u64 (lo : Int)) := hbx.cell 0; have b1 : w2.cell? ⟨w.heap.size, 1, none⟩ = some (.int .u64 (hi : Int)) := hbx.cell 1; have hlt := hbx.lt; clear hbx)
  all_goals
    have hEw : Ext w w2 := (((Ext.refl w).alloc _).drew).trans hE2
    have HE := Lib.hid hEw
    clear hEw hE2 hq
    cases E
    · cases V <;> cases c <;> cases d
      all_goals
        go_wp2_with fail
        refine (HS.out _).mono ?_
        rintro e w3 ⟨rfl, hE3⟩
        have b2 : w3.cell? ⟨w.heap.size, 0, none⟩ = some (.int .u64 (lo : Int)) := (hE3.cell (p := ⟨w.heap.size, 0, none⟩) hlt).trans b0
        have b3 : w3.cell? ⟨w.heap.size, 1, none⟩ = some (.int .u64 (hi : Int)) := (hE3.cell (p := ⟨w.heap.size, 1, none⟩) hlt).trans b1
        go_wp2
        go_ret
        exact ⟨ret_bool (by rw [HF.out]; rfl), HE.out.trans hE3⟩
    · go_wp2
      go_ret
      exact ⟨ret_bool (by rw [HF.out]; rfl), HE.out⟩
end Go.Proofs.Ytcimfccjcikemaa
