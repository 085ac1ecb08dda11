/-
  Pairs of patterns against themselves. Conditions: those that each theorem names.
-/
import Derived.Test.YtmcfflecaklpcaaY25
import Derived.Test.YtmcfflecaklpcaaY21
import Derived.Deep.DeepCutAuto
import Derived.Deep.RegionHeld3
import Derived.Test.YtmcfflecaklpcaaY11
import Derived.Test.YtmcfflecaklpcaaY26
import Derived.Test.YtmcfflecaklpcaaY24
namespace Go.Proofs.Ytmcfflecaklpcaa
open Go.RowKit Nm Rn
set_option maxRecDepth 100000
set_option linter.unusedVariables false
set_option linter.unusedSimpArgs false

theorem neqI_self (a b : Int) (w : World) : (binOp .neq 49 (.agg #[.int .u64 a, .int .u64 b]) (.agg #[.int .u64 a, .int .u64 b])).run Try.prog w = .ok (.bool false) w := by
  go_simp <;> simp
theorem eqI_self (a b : Int) (w : World) : (binOp .eql 49 (.agg #[.int .u64 a, .int .u64 b]) (.agg #[.int .u64 a, .int .u64 b])).run Try.prog w = .ok (.bool true) w := by
  rw [eqI]; simp
end Go.Proofs.Ytmcfflecaklpcaa

/-
  The walk through PowerSteps. Conditions: those that each theorem names.
-/
namespace Go.Proofs.Ytmcfflecaklpcaa
open Go.RowKit Nm Rn
set_option maxRecDepth 100000
set_option linter.unusedVariables false
set_option linter.unusedSimpArgs false

set_option maxHeartbeats 4000000 in
theorem psteps_walk (x1 x2 : Nat) (w : World) (hx1 : x1 < 18446744073709551616) (hx2 : x2 < 18446744073709551616) :
    Calls Try.prog 9 #[.agg #[.int .u64 (x1 : Int), .int .u64 (x2 : Int)]] w fun e w' => e = .returned (.bool true) ∧ Ext w w' := by
  have HIN := Lib.hid (fun w => in7_any x1 x2 w)
  have HST : Hid (∀ k : Nat, k < 6 → ∃ a b : Nat, (∀ w, Calls Try.prog 35 #[.int .i64 (k : Int), .agg #[.float .f64 x1, .float .f64 x2]] w (RetF a b w)) ∧ (∀ w, Calls Try.prog 37 #[.int .i64 (k : Int), .agg #[.int .u64 (x1 : Int), .int .u64 (x2 : Int)]] w (RetI a b w))) := Lib.hid (fun k hk => by
    obtain ⟨e1, e2⟩ := steps_eq k x1 x2 hx1 hx2
    refine ⟨piLo k x1 x2, piHi k x1 x2, fun w => step_all k x1 x2 w hk hx1 hx2, fun w => ?_⟩
    rw [e1, e2]
    exact steps7_any k x1 x2 w hk hx1 hx2)
  clear hx1 hx2
  have hO := Own.start w
  have hf : True := trivial
  go_enter Try.func9, Try.ntmps9
  go_wp2_with (first | ((with_reducible refine at_box ?_); refine own_box (cs := [.int .u64 (x1 : Int), .int .u64 (x2 : Int)]) hO rfl rfl ?_; clear hO; intro ga wa hO; clear hf; have hf := hO.cells; simp only [BC, CC, Nat.zero_add, Nat.reduceAdd, and_true] at hf))
  obtain ⟨S, hS⟩ : ∃ S : World → Prop, S = Own w [⟨ga, 49, [.int .u64 (x1 : Int), .int .u64 (x2 : Int)]⟩] [] := ⟨_, rfl⟩
  have HSE : Hid (∀ w w', S w → Ext w w' → S w') := Lib.hid (fun w w' h1 h2 => by rw [hS] at h1 ⊢; exact h1.ext h2)
  rw [← hS] at hO
  have HS := Lib.hid hS
  clear hS hf
  go_loopw [3] (fun kv wr => ∃ k : Nat, kv = .int .i64 (k : Int) ∧ k ≤ 6 ∧ S wr) (fun kv _ => 6 - (intOf kv).toNat)
  case atStart => exact ⟨0, rfl, by omega, hO⟩
  case round =>
    obtain ⟨k, rfl, hk6, hSr⟩ := hrel
    clear hO
    by_cases hk : k < 6
    · obtain ⟨a, b, h1, h2⟩ := HST.out k hk
      have H1 := Lib.hid h1
      have H2 := Lib.hid h2
      have hq := neqI_self (a : Int) (b : Int)
      clear h1 h2
      go_wp2_with fail
      have hS1 := HSE.out _ _ hSr (Ext.refl _).drew
      clear hSr
      obtain ⟨sp, hsp⟩ : ∃ sp : Nat → Sp, sp = ofList [det (.int .i64 (k : Int)), det (.agg #[.int .u64 (x1 : Int), .int .u64 (x2 : Int)]), det (.agg #[.float .f64 x1, .float .f64 x2]), det (.agg #[.float .f64 a, .float .f64 b]), det (.agg #[.int .u64 (a : Int), .int .u64 (b : Int)]), det (.int .i64 (k : Int)), det (.agg #[.int .u64 (x1 : Int), .int .u64 (x2 : Int)]), det (.agg #[.int .u64 (a : Int), .int .u64 (b : Int)])] := ⟨_, rfl⟩
      have HSP := Lib.hid hsp
      clear hsp
      refine wp_region_loose 8 S sp (by kernel_rfl) (by kernel_rfl) hS1 HSE.out ?_
      simp only [List.take_succ_cons, List.take_zero, List.drop_succ_cons, List.drop_zero]
      iterate 8
        refine wpX_step (fun K hK => ?_)
        go_simp
        refine StepY.det (by rw [HSP.out]; rfl) ?_ ?_
        · intro wz hz hF
          rw [HS.out] at hz
          have hf := hz.cells
          simp only [BC, CC, Nat.zero_add, Nat.reduceAdd, and_true] at hf
          clear hz hF
          go_simp
          first
          | exact ⟨rfl, Ext.refl _⟩
          | ((with_reducible refine (HIN.out _).mono ?_)
             rintro e w5 ⟨rfl, hE5⟩
             exact ⟨_, rfl, rfl, hE5⟩)
          | ((with_reducible refine (H1.out _).mono ?_)
             rintro e w5 ⟨rfl, hE5⟩
             exact ⟨_, rfl, rfl, hE5⟩)
          | ((with_reducible refine (H2.out _).mono ?_)
             rintro e w5 ⟨rfl, hE5⟩
             exact ⟨_, rfl, rfl, hE5⟩)
          | ((with_reducible refine (out7_any _ _ _).mono ?_)
             rintro e w5 ⟨rfl, hE5⟩
             exact ⟨_, rfl, rfl, hE5⟩)
        refine hK _ _ ?_
        clear hK K
      refine wpX_nil ?_
      intro w5 hz5 hF
      clear hF hS1 HSP
      go_wp2
      go_roundw
      case rel => exact ⟨k + 1, by go_num, by omega, hz5⟩
      case measure => simp [intOf]; omega
    · have hke : k = 6 := by omega
      subst hke
      have hE := (HS.out ▸ hSr).toExt
      go_wp2
      go_ret
      exact ⟨by first | rfl | simp, hE⟩
end Go.Proofs.Ytmcfflecaklpcaa
