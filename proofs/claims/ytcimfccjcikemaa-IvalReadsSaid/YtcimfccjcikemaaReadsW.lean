/-
  The walk of the law IvalReads: it answers true. Conditions: those that each theorem names.
-/
import Derived.Test.YtcimfccjcikemaaMakesE
import Derived.Test.YtcimfccjcikemaaIvD
import Derived.Test.YtcimfccjcikemaaRefM
namespace Go.Proofs.Ytcimfccjcikemaa
open Go.RowKit Nm Rn
set_option maxRecDepth 100000
set_option linter.unusedVariables false
set_option linter.unusedSimpArgs false

set_option maxHeartbeats 8000000 in
theorem reads_walk (lo hi : Nat) (w : World) (hl : lo < 18446744073709551616) (hh : hi < 18446744073709551616) :
    Calls Try.prog 4 #[.agg #[.int .u64 (lo : Int), .int .u64 (hi : Int)]] w fun e w' => e = .returned (.bool true) ∧ Ext w w' := by
  have h1 := fun w => ivalid_any lo hi w hl hh
  have h2 := fun w => valid6_any lo hi w hl hh
  have h3 := fun w => iread_any lo hi w hl hh
  have h4 := fun w => read6_any lo hi w hl hh
  obtain ⟨V, hV⟩ : ∃ V, V = vldB lo hi := ⟨_, rfl⟩
  obtain ⟨a, ha⟩ : ∃ a, a = rdLo lo hi := ⟨_, rfl⟩
  obtain ⟨b, hb⟩ : ∃ b, b = rdHi lo hi := ⟨_, rfl⟩
  rw [← hV] at h1 h2
  rw [← ha, ← hb] at h3 h4
  have H1 := Lib.hid h1
  have H2 := Lib.hid h2
  have H3 := Lib.hid h3
  have H4 := Lib.hid h4
  have hvv : (V != V) = false := by cases V <;> rfl
  have hne := neqI_self (a : Int) b
  have he1 := eqI_self (infR : Int) minf
  have he2 := eqI_self (minf : Int) infR
  clear hV ha hb h1 h2 h3 h4 hl hh
  obtain ⟨S, hS⟩ : ∃ S : World → Prop, S = fun wz => Blk wz w.heap.size 24 #[.int .u64 (lo : Int), .int .u64 (hi : Int)] ∧ Ext w wz := ⟨_, rfl⟩
  have hS1 : S { w.alloc (.cells #[.int .u64 (lo : Int), .int .u64 (hi : Int)] 24) with drawn := (w.alloc (.cells #[.int .u64 (lo : Int), .int .u64 (hi : Int)] 24)).drawn + 1 } := by
    rw [hS]; exact ⟨Blk.new w _ _, ((Ext.refl w).alloc _).drew⟩
  have HSS := Lib.hid hS
  clear hS
  go_enter Try.func4, Try.ntmps4
  go_wp2_with fail
  refine wp_region_steady S (by kernel_rfl) (by kernel_rfl) hS1 ?_
  repeat (refine wpG_step (fun K hK => ?_)
          go_simp
          first
          | (refine hK _ ?_
             clear hK K)
          | (apply StepG.mk
             intro wz hz
             have hz' := hz
             rw [HSS.out] at hz'
             have g0 := hz'.1.cell 0
             have g1 := hz'.1.cell 1
             have hk : ∀ w5, Ext wz w5 → S w5 := fun w5 h5 => by rw [HSS.out]; exact ⟨hz'.1.ext h5, hz'.2.trans h5⟩
             have HK := Lib.hid hk
             clear hk hz'
             simp only [List.getElem?_toArray, List.getElem?_cons_zero, List.getElem?_cons_succ] at g0 g1
             go_simp
             first
             | exact ⟨rfl, hz⟩
             | (go_at_call 19; exact (in6_any _ _ _).mono fun e w5 h5 => ⟨h5.1, HK.out _ h5.2⟩)
             | (go_at_call 16; exact (out6_any _ _ _).mono fun e w5 h5 => ⟨h5.1, HK.out _ h5.2⟩)
             | (go_at_call 18; exact (H1.out _).mono fun e w5 h5 => ⟨h5.1, HK.out _ h5.2⟩)
             | (go_at_call 20; exact (H2.out _).mono fun e w5 h5 => ⟨h5.1, HK.out _ h5.2⟩)
             | (go_at_call 21; exact (H3.out _).mono fun e w5 h5 => ⟨h5.1, HK.out _ h5.2⟩)
             | (go_at_call 22; exact (H4.out _).mono fun e w5 h5 => ⟨h5.1, HK.out _ h5.2⟩)
             refine hK _ ?_
             clear hK K))
  refine wpG_nil ?_
  intro w5 hw5
  rw [HSS.out] at hw5
  have HE5 := Lib.hid hw5.2
  clear hw5 hS1
  go_wp2_with fail
  refine (iempty_any _).mono ?_
  rintro e w6 ⟨rfl, hE6⟩
  go_wp2_with fail
  refine (out6_any _ _ _).mono ?_
  rintro e w7 ⟨rfl, hE7⟩
  go_wp2_with fail
  refine (empty6_any _).mono ?_
  rintro e w8 ⟨rfl, hE8⟩
  go_wp2_with fail
  refine (ientire_any _).mono ?_
  rintro e w9 ⟨rfl, hE9⟩
  go_wp2_with fail
  refine (out6_any _ _ _).mono ?_
  rintro e w10 ⟨rfl, hE10⟩
  go_wp2_with fail
  refine (entire6_any _).mono ?_
  rintro e w11 ⟨rfl, hE11⟩
  go_wp2
  go_ret
  exact ⟨rfl, (((((HE5.out.trans hE6).trans hE7).trans hE8).trans hE9).trans hE10).trans hE11⟩
end Go.Proofs.Ytcimfccjcikemaa
