/-
  The walk of the law PowerMagnitudes: it answers true. Conditions: those that each theorem names.
-/
import Derived.Test.YtcimfccjcikemaaMakesE
import Derived.Test.YtcimfccjcikemaaIvI
import Derived.Test.YtcimfccjcikemaaRefMm
import Derived.Test.YtcimfccjcikemaaSteady
namespace Go.Proofs.Ytcimfccjcikemaa
open Go.RowKit Nm Rn
set_option maxRecDepth 100000
set_option linter.unusedVariables false
set_option linter.unusedSimpArgs false

set_option maxHeartbeats 8000000 in
theorem magnitudes_walk (x1 x2 y1 y2 : Nat) (w : World) (hx1 : x1 < 18446744073709551616) (hx2 : x2 < 18446744073709551616) (hy1 : y1 < 18446744073709551616) (hy2 : y2 < 18446744073709551616) :
    Calls Try.prog 6 #[.agg #[.int .u64 (x1 : Int), .int .u64 (x2 : Int)], .agg #[.int .u64 (y1 : Int), .int .u64 (y2 : Int)]] w fun e w' => e = .returned (.bool true) ∧ Ext w w' := by
  have h1 := fun w => pabs_any x1 x2 w hx1 hx2
  have h2 := fun w => abs7_any x1 x2 w hx1 hx2
  have h3 := fun w => pmin_any x1 x2 y1 y2 w hx1 hx2 hy1 hy2
  have h4 := fun w => min7_any x1 x2 y1 y2 w hx1 hx2 hy1 hy2
  have h5 := fun w => pmax_any x1 x2 y1 y2 w hx1 hx2 hy1 hy2
  have h6 := fun w => max7_any x1 x2 y1 y2 w hx1 hx2 hy1 hy2
  obtain ⟨a1, ha1⟩ : ∃ a, a = abLo x1 x2 := ⟨_, rfl⟩
  obtain ⟨a2, ha2⟩ : ∃ a, a = abHi x1 x2 := ⟨_, rfl⟩
  obtain ⟨b1, hb1⟩ : ∃ a, a = minLo x1 x2 y1 y2 := ⟨_, rfl⟩
  obtain ⟨b2, hb2⟩ : ∃ a, a = minHi x1 x2 y1 y2 := ⟨_, rfl⟩
  obtain ⟨c1, hc1⟩ : ∃ a, a = maxLo x1 x2 y1 y2 := ⟨_, rfl⟩
  obtain ⟨c2, hc2⟩ : ∃ a, a = maxHi x1 x2 y1 y2 := ⟨_, rfl⟩
  rw [← ha1, ← ha2] at h1 h2
  rw [← hb1, ← hb2] at h3 h4
  rw [← hc1, ← hc2] at h5 h6
  have H1 := Lib.hid h1
  have H2 := Lib.hid h2
  have H3 := Lib.hid h3
  have H4 := Lib.hid h4
  have H5 := Lib.hid h5
  have H6 := Lib.hid h6
  have he1 := eqI_self (a1 : Int) a2
  have he2 := eqI_self (b1 : Int) b2
  have he3 := eqI_self (c1 : Int) c2
  clear ha1 ha2 hb1 hb2 hc1 hc2 h1 h2 h3 h4 h5 h6 hx1 hx2 hy1 hy2
  obtain ⟨S, hS⟩ : ∃ S : World → Prop, S = fun wz => Blk wz w.heap.size 24 #[.int .u64 (x1 : Int), .int .u64 (x2 : Int)] ∧ Blk wz (w.heap.size + 1) 24 #[.int .u64 (y1 : Int), .int .u64 (y2 : Int)] ∧ Ext w wz := ⟨_, rfl⟩
  have hSE : ∀ w w', S w → Ext w w' → S w' := fun w w' h1 h2 => by rw [hS] at h1 ⊢; exact ⟨h1.1.ext h2, h1.2.1.ext h2, h1.2.2.trans h2⟩
  have hS0 : S ((w.alloc (.cells #[.int .u64 (x1 : Int), .int .u64 (x2 : Int)] 24)).alloc (.cells #[.int .u64 (y1 : Int), .int .u64 (y2 : Int)] 24)) := by
    rw [hS]; exact ⟨(Blk.new w _ _).ext ((Ext.refl _).alloc _), Blk.next w _ _ _, ((Ext.refl w).alloc _).alloc _⟩
  have HSS := Lib.hid hS
  have HSE := Lib.hid hSE
  clear hS hSE
  go_enter Try.func6, Try.ntmps6
  go_wp2_with fail
  generalize (w.alloc (.cells #[.int .u64 (x1 : Int), .int .u64 (x2 : Int)] 24)).alloc (.cells #[.int .u64 (y1 : Int), .int .u64 (y2 : Int)] 24) = w1 at hS0 ⊢
  have hS1 : S { w1 with drawn := w1.drawn + 1 } := HSE.out _ _ hS0 (Ext.refl w1).drew
  clear hS0
  refine wp_region_steady S (by kernel_rfl) (by kernel_rfl) hS1 ?_
  repeat (refine wpG_step (fun K hK => ?_)
          go_simp
          first
          | (refine hK _ ?_
             clear hK K)
          | (apply StepG.mk
             intro wz hz
             have hz' := hz
             rw [HSS.out] at hz'
             have g0 := hz'.1.cell 0
             have g1 := hz'.1.cell 1
             have g2 := hz'.2.1.cell 0
             have g3 := hz'.2.1.cell 1
             clear hz'
             simp only [List.getElem?_toArray, List.getElem?_cons_zero, List.getElem?_cons_succ] at g0 g1 g2 g3
             go_simp
             first
             | exact ⟨rfl, hz⟩
             | (go_at_call 31; exact (in7_any _ _ _).mono fun e w5 h5 => ⟨h5.1, HSE.out _ _ hz h5.2⟩)
             | (go_at_call 29; exact (out7_any _ _ _).mono fun e w5 h5 => ⟨h5.1, HSE.out _ _ hz h5.2⟩)
             | (go_at_call 30; exact (H1.out _).mono fun e w5 h5 => ⟨h5.1, HSE.out _ _ hz h5.2⟩)
             | (go_at_call 32; exact (H2.out _).mono fun e w5 h5 => ⟨h5.1, HSE.out _ _ hz h5.2⟩)
             | (go_at_call 33; exact (H3.out _).mono fun e w5 h5 => ⟨h5.1, HSE.out _ _ hz h5.2⟩)
             | (go_at_call 34; exact (H4.out _).mono fun e w5 h5 => ⟨h5.1, HSE.out _ _ hz h5.2⟩)
             | (go_at_call 35; exact (H5.out _).mono fun e w5 h5 => ⟨h5.1, HSE.out _ _ hz h5.2⟩)
             | (go_at_call 36; exact (H6.out _).mono fun e w5 h5 => ⟨h5.1, HSE.out _ _ hz h5.2⟩)
             refine hK _ ?_
             clear hK K))
  refine wpG_nil ?_
  intro w5 hw5
  rw [HSS.out] at hw5
  have HE5 := Lib.hid hw5.2.2
  clear hw5 hS1
  go_wp2
  go_ret
  exact ⟨rfl, HE5.out⟩
end Go.Proofs.Ytcimfccjcikemaa
