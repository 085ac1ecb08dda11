/-
  The walk of the law IvalRoots: it answers true. Conditions: those that each theorem names.
-/
import Derived.Test.YtmcfflecaklpcaaZ40
import Derived.Test.YtmcfflecaklpcaaZ39
import Derived.Test.YtmcfflecaklpcaaZ12
namespace Go.Proofs.Ytmcfflecaklpcaa
open Go.RowKit Nm Rn
set_option maxRecDepth 100000
set_option linter.unusedVariables false
set_option linter.unusedSimpArgs false

set_option maxHeartbeats 4000000 in
theorem iroots_walk (x1 x2 : Nat) (w : World) (hx1 : x1 < 18446744073709551616) (hx2 : x2 < 18446744073709551616) :
    Calls Try.prog 7 #[.agg #[.int .u64 (x1 : Int), .int .u64 (x2 : Int)]] w fun e w' => e = .returned (.bool true) ∧ Ext w w' := by
  have h3 := fun w => isqrt_any x1 x2 w hx1 hx2
  have h4 := fun w => sqrt6_any x1 x2 w hx1 hx2
  obtain ⟨a, ha⟩ : ∃ a, a = irLo x1 x2 := ⟨_, rfl⟩
  obtain ⟨b, hb⟩ : ∃ b, b = irHi x1 x2 := ⟨_, rfl⟩
  rw [← ha, ← hb] at h3 h4
  have H3 := Lib.hid h3
  have H4 := Lib.hid h4
  have he1 := eqI_self (a : Int) b
  clear ha hb h3 h4 hx1 hx2
  have hO := Own.start w
  have hf : True := trivial
  go_enter Try.func7, Try.ntmps7
  go_wp2_with (first | ((with_reducible refine at_box ?_); refine own_box (cs := [.int .u64 (x1 : Int), .int .u64 (x2 : Int)]) hO rfl rfl ?_; clear hO; intro ga wa hO; clear hf; have hf := hO.cells; simp only [BC, CC, Nat.zero_add, Nat.reduceAdd, and_true] at hf))
  obtain ⟨S, hS⟩ : ∃ S : World → Prop, S = Own w [⟨ga, 49, [.int .u64 (x1 : Int), .int .u64 (x2 : Int)]⟩] [] := ⟨_, rfl⟩
  have hS1 : S wa.drew := by rw [hS]; exact hO.ext (Ext.refl wa).drew
  have HSS := Lib.hid hS
  clear hS hO hf
  refine wp_region_steady S (by kernel_rfl) (by kernel_rfl) hS1 ?_
  repeat (refine wpG_step (fun K hK => ?_)
          go_simp
          first
          | (refine hK _ ?_
             clear hK K)
          | (apply StepG.mk
             intro wz hz
             have hz' := hz
             rw [HSS.out] at hz'
             have hf := hz'.facts
             simp only [BF, CF, Nat.zero_add, Nat.reduceAdd, and_true] at hf
             have hk : ∀ w5, Ext wz w5 → S w5 := fun w5 h5 => by rw [HSS.out]; exact hz'.ext h5
             have HK := Lib.hid hk
             clear hk hz'
             go_simp
             first
             | exact ⟨rfl, hz⟩
             | (go_at_call 28; exact (in6_any _ _ _).mono fun e w5 h5 => ⟨h5.1, HK.out _ h5.2⟩)
             | (go_at_call 26; exact (out6_any _ _ _).mono fun e w5 h5 => ⟨h5.1, HK.out _ h5.2⟩)
             | (go_at_call 27; exact (H3.out _).mono fun e w5 h5 => ⟨h5.1, HK.out _ h5.2⟩)
             | (go_at_call 29; exact (H4.out _).mono fun e w5 h5 => ⟨h5.1, HK.out _ h5.2⟩)
             refine hK _ ?_
             clear hK K))
  refine wpG_nil ?_
  intro w5 hw5
  rw [HSS.out] at hw5
  have HE5 := Lib.hid hw5.toExt
  clear hw5 hS1
  go_wp2
  go_ret
  exact ⟨rfl, HE5.out⟩
end Go.Proofs.Ytmcfflecaklpcaa
