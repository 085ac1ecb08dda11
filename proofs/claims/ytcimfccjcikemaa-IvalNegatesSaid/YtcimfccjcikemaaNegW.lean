/-
  The walk of the law IvalNegates: it answers true. Conditions: those that each theorem names.
-/
import Derived.Test.YtcimfccjcikemaaMakesE
import Derived.Test.YtcimfccjcikemaaIvE
import Derived.Test.YtcimfccjcikemaaRefT
import Derived.Test.YtcimfccjcikemaaSteady
namespace Go.Proofs.Ytcimfccjcikemaa
open Go.RowKit Nm Rn
set_option maxRecDepth 100000
set_option linter.unusedVariables false
set_option linter.unusedSimpArgs false

set_option maxHeartbeats 8000000 in
theorem negates_walk (lo hi : Nat) (w : World) (hl : lo < 18446744073709551616) (hh : hi < 18446744073709551616) :
    Calls Try.prog 5 #[.agg #[.int .u64 (lo : Int), .int .u64 (hi : Int)]] w fun e w' => e = .returned (.bool true) ∧ Ext w w' := by
  have h3 := fun w => ineg_any lo hi w hl hh
  have h4 := fun w => neg6_any lo hi w hl hh
  obtain ⟨a, ha⟩ : ∃ a, a = ngLo lo hi := ⟨_, rfl⟩
  obtain ⟨b, hb⟩ : ∃ b, b = ngHi lo hi := ⟨_, rfl⟩
  rw [← ha, ← hb] at h3 h4
  have H3 := Lib.hid h3
  have H4 := Lib.hid h4
  have he1 := eqI_self (a : Int) b
  clear ha hb h3 h4 hl hh
  obtain ⟨S, hS⟩ : ∃ S : World → Prop, S = fun wz => Blk wz w.heap.size 24 #[.int .u64 (lo : Int), .int .u64 (hi : Int)] ∧ Ext w wz := ⟨_, rfl⟩
  have hS1 : S { w.alloc (.cells #[.int .u64 (lo : Int), .int .u64 (hi : Int)] 24) with drawn := (w.alloc (.cells #[.int .u64 (lo : Int), .int .u64 (hi : Int)] 24)).drawn + 1 } := by
    rw [hS]; exact ⟨Blk.new w _ _, ((Ext.refl w).alloc _).drew⟩
  have HSS := Lib.hid hS
  clear hS
  go_enter Try.func5, Try.ntmps5
  go_wp2_with fail
  refine wp_region_steady S (by kernel_rfl) (by kernel_rfl) hS1 ?_
  repeat (refine wpG_step (fun K hK => ?_)
          go_simp
          first
          | (refine hK _ ?_
             clear hK K)
          | (apply StepG.mk
             intro wz hz
             have hz' := hz
             rw [HSS.out] at hz'
             have g0 := hz'.1.cell 0
             have g1 := hz'.1.cell 1
             have hk : ∀ w5, Ext wz w5 → S w5 := fun w5 h5 => by rw [HSS.out]; exact ⟨hz'.1.ext h5, hz'.2.trans h5⟩
             have HK := Lib.hid hk
             clear hk hz'
             simp only [List.getElem?_toArray, List.getElem?_cons_zero, List.getElem?_cons_succ] at g0 g1
             go_simp
             first
             | exact ⟨rfl, hz⟩
             | (go_at_call 19; exact (in6_any _ _ _).mono fun e w5 h5 => ⟨h5.1, HK.out _ h5.2⟩)
             | (go_at_call 16; exact (out6_any _ _ _).mono fun e w5 h5 => ⟨h5.1, HK.out _ h5.2⟩)
             | (go_at_call 27; exact (H3.out _).mono fun e w5 h5 => ⟨h5.1, HK.out _ h5.2⟩)
             | (go_at_call 28; exact (H4.out _).mono fun e w5 h5 => ⟨h5.1, HK.out _ h5.2⟩)
             refine hK _ ?_
             clear hK K))
  refine wpG_nil ?_
  intro w5 hw5
  rw [HSS.out] at hw5
  have HE5 := Lib.hid hw5.2
  clear hw5 hS1
  go_wp2
  go_ret
  exact ⟨rfl, HE5.out⟩
end Go.Proofs.Ytcimfccjcikemaa
