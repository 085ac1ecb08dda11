/-
  The contract of the document's Root. Conditions: those that each theorem names.
-/
import Derived.Test.YtmcfflecaklpcaaZ29
import Derived.Test.YtmcfflecaklpcaaZ03
import Derived.Test.YtmcfflecaklpcaaZ28
import Derived.Test.YtmcfflecaklpcaaZ26
import Derived.Test.YtmcfflecaklpcaaZ18
import Derived.Test.YtmcfflecaklpcaaZ07
import Derived.Test.YtmcfflecaklpcaaZ24
namespace Go.Proofs.Ytmcfflecaklpcaa
open Go.RowKit Nm Rn
set_option maxRecDepth 100000
set_option linter.unusedVariables false
set_option linter.unusedSimpArgs false

theorem rootV_congr {N D N' D' n : Nat} (hD : 0 < D) (hD' : 0 < D') (he : N * D' = N' * D) (d : Int) (neg : Bool) : rootV d neg N D n = rootV d neg N' D' n := by
  have e : RootAt N D n = RootAt N' D' n := by
    funext k r o
    exact propext ⟨fun h => h.congr hD hD' he, fun h => h.congr hD' hD he.symm⟩
  unfold rootV
  rw [e]

/-- The mark below 0, of the document. -/
def ngB (x : Nat) : Bool := sg x && decide (mg x ≠ 0)
theorem neg3_ngB (x : Nat) (w : World) (hx : x < 18446744073709551616) : Calls Try.prog 46 #[.int .u64 (x : Int)] w fun e w' => e = .returned (.bool (ngB x)) ∧ w = w' := by
  refine (neg3_any x w).mono ?_
  rintro e w' ⟨rfl, h⟩
  refine ⟨ret_bool ?_, h⟩
  unfold ngB
  by_cases hm : mg x = 0
  · rw [decide_eq_false (show ¬ (mg x ≠ 0) by omega), Bool.and_false]
    refine decide_eq_false ?_
    unfold mg at hm
    omega
  · rw [decide_eq_true (show mg x ≠ 0 from hm), Bool.and_true]
    unfold sg
    unfold mg at hm
    exact decide_eq_decide.2 (by omega)

set_option maxHeartbeats 2000000 in
theorem rootof_zero (d : Int) (neg : Bool) (A : Option Addr) (l c : Nat) (B : Option Addr) (k dd D n : Nat) (w : World) (h : RatAt w A l c B k dd 0 D) (bD : bl D ≤ 1300) :
    Calls Try.prog 48 #[.int .i64 d, .agg #[.bool neg, .slice A l c, .slice B k dd], .int .i64 (n : Int)] w fun e w' => e = .returned (.int .u64 (0 : Nat)) ∧ Ext w w' := by
  have hl := h.lenN
  have hnw : nw 0 = 0 := nw_zero
  have hRS := fun w h => rsign_any neg A l c (nd 0) B k dd w h (by omega)
  rw [nv_nd, show sgnZ neg 0 = 0 by unfold sgnZ; rw [if_pos rfl]] at hRS
  have HRS := Lib.hid hRS
  have hO := ((Own.start w).add h.1).add h.2
  clear hRS hl hnw h
  go_enter Try.func48, Try.ntmps48
  go_wp2_with (first | ((with_reducible refine at_box (T := 35) ?_); refine own_box (cs := [.bool neg, .slice A l c, .slice B k dd]) hO rfl rfl ?_; clear hO; intro ga wa hO; have hf := hO.cells; simp only [BC, CC, Nat.zero_add, Nat.reduceAdd, and_true] at hf))
  refine (HRS.out _ (hO.wd 1 rfl)).mono ?_
  rintro e w1 ⟨rfl, hE1⟩
  have hE := hO.toExt.trans hE1
  go_wp2
  go_ret
  exact ⟨rfl, hE⟩

set_option maxHeartbeats 1000000 in
theorem root3_n1 (d : Int) (x : Nat) (n : Int) (w : World) (hx : x < 18446744073709551616) (h1 : isNaN x = true) :
    Calls Try.prog 13 #[.int .i64 d, .int .u64 (x : Int), .int .i64 n] w fun e w' => e = .returned (.int .u64 (NaNc : Nat)) ∧ Ext w w' := by
  have HNX := Lib.hid (fun w => isnan_any x w hx)
  have HIX := Lib.hid (fun w => isinf3_any x w hx)
  have HGX := Lib.hid (fun w => neg3_ngB x w hx)
  have HV : Hid ((9221120237041090561 : Int) = (NaNc : Nat)) := Lib.hid rfl
  rw [h1] at HNX
  clear h1
  clear hx
  go_enter Try.func13, Try.ntmps13
  go_wp2_with (first | (go_at_call 45; ((with_reducible refine (HNX.out _).mono ?_); rintro e w' ⟨rfl, rfl⟩)) | (go_at_call 47; ((with_reducible refine (HIX.out _).mono ?_); rintro e w' ⟨rfl, rfl⟩)) | (go_at_call 46; ((with_reducible refine (HGX.out _).mono ?_); rintro e w' ⟨rfl, rfl⟩)))
  go_ret
  exact ⟨ret_int HV.out, Ext.refl _⟩

set_option maxHeartbeats 1000000 in
theorem root3_n2 (d : Int) (x : Nat) (n : Int) (w : World) (hx : x < 18446744073709551616) (h1 : isNaN x = false) (hn : n < 1) :
    Calls Try.prog 13 #[.int .i64 d, .int .u64 (x : Int), .int .i64 n] w fun e w' => e = .returned (.int .u64 (NaNc : Nat)) ∧ Ext w w' := by
  have HNX := Lib.hid (fun w => isnan_any x w hx)
  have HIX := Lib.hid (fun w => isinf3_any x w hx)
  have HGX := Lib.hid (fun w => neg3_ngB x w hx)
  have HV : Hid ((9221120237041090561 : Int) = (NaNc : Nat)) := Lib.hid rfl
  rw [h1] at HNX
  clear h1
  clear hx
  go_enter Try.func13, Try.ntmps13
  go_wp2_with (first | (go_at_call 45; ((with_reducible refine (HNX.out _).mono ?_); rintro e w' ⟨rfl, rfl⟩)) | (go_at_call 47; ((with_reducible refine (HIX.out _).mono ?_); rintro e w' ⟨rfl, rfl⟩)) | (go_at_call 46; ((with_reducible refine (HGX.out _).mono ?_); rintro e w' ⟨rfl, rfl⟩)))
  go_ret
  exact ⟨ret_int HV.out, Ext.refl _⟩

set_option maxHeartbeats 1000000 in
theorem root3_n3 (d : Int) (x : Nat) (n : Int) (w : World) (hx : x < 18446744073709551616) (h1 : isNaN x = false) (hn : 1024 < n) :
    Calls Try.prog 13 #[.int .i64 d, .int .u64 (x : Int), .int .i64 n] w fun e w' => e = .returned (.int .u64 (NaNc : Nat)) ∧ Ext w w' := by
  have HNX := Lib.hid (fun w => isnan_any x w hx)
  have HIX := Lib.hid (fun w => isinf3_any x w hx)
  have HGX := Lib.hid (fun w => neg3_ngB x w hx)
  have HV : Hid ((9221120237041090561 : Int) = (NaNc : Nat)) := Lib.hid rfl
  rw [h1] at HNX
  clear h1
  have hn2 : ¬ (n < 1) := by omega
  clear hx
  go_enter Try.func13, Try.ntmps13
  go_wp2_with (first | (go_at_call 45; ((with_reducible refine (HNX.out _).mono ?_); rintro e w' ⟨rfl, rfl⟩)) | (go_at_call 47; ((with_reducible refine (HIX.out _).mono ?_); rintro e w' ⟨rfl, rfl⟩)) | (go_at_call 46; ((with_reducible refine (HGX.out _).mono ?_); rintro e w' ⟨rfl, rfl⟩)))
  go_ret
  exact ⟨ret_int HV.out, Ext.refl _⟩

set_option maxHeartbeats 1000000 in
theorem root3_n4 (d : Int) (x : Nat) (n : Nat) (w : World) (hx : x < 18446744073709551616) (h1 : isNaN x = false) (n1 : 1 ≤ n) (n2 : n ≤ 1024) (hp : n % 2 = 0) (hg : ngB x = true) :
    Calls Try.prog 13 #[.int .i64 d, .int .u64 (x : Int), .int .i64 (n : Int)] w fun e w' => e = .returned (.int .u64 (NaNc : Nat)) ∧ Ext w w' := by
  have HNX := Lib.hid (fun w => isnan_any x w hx)
  have HIX := Lib.hid (fun w => isinf3_any x w hx)
  have HGX := Lib.hid (fun w => neg3_ngB x w hx)
  have HV : Hid ((9221120237041090561 : Int) = (NaNc : Nat)) := Lib.hid rfl
  rw [h1] at HNX
  rw [hg] at HGX
  clear h1 hg
  have hp2 : (n : Int) % 2 = 0 := by omega
  clear hp
  clear hx
  go_enter Try.func13, Try.ntmps13
  go_wp2_with (first | (go_at_call 45; ((with_reducible refine (HNX.out _).mono ?_); rintro e w' ⟨rfl, rfl⟩)) | (go_at_call 47; ((with_reducible refine (HIX.out _).mono ?_); rintro e w' ⟨rfl, rfl⟩)) | (go_at_call 46; ((with_reducible refine (HGX.out _).mono ?_); rintro e w' ⟨rfl, rfl⟩)))
  go_ret
  exact ⟨ret_int HV.out, Ext.refl _⟩

set_option maxHeartbeats 1000000 in
theorem root3_ie (d : Int) (x : Nat) (n : Nat) (w : World) (hx : x < 18446744073709551616) (h1 : isNaN x = false) (n1 : 1 ≤ n) (n2 : n ≤ 1024) (hp : n % 2 = 0) (hg : ngB x = false) (hi : isInf x = true) :
    Calls Try.prog 13 #[.int .i64 d, .int .u64 (x : Int), .int .i64 (n : Int)] w fun e w' => e = .returned (.int .u64 (x : Nat)) ∧ Ext w w' := by
  have HNX := Lib.hid (fun w => isnan_any x w hx)
  have HIX := Lib.hid (fun w => isinf3_any x w hx)
  have HGX := Lib.hid (fun w => neg3_ngB x w hx)
  have HV : Hid ((9221120237041090561 : Int) = (NaNc : Nat)) := Lib.hid rfl
  rw [h1] at HNX
  rw [hi] at HIX
  rw [hg] at HGX
  clear hi
  clear h1 hg
  have hp2 : (n : Int) % 2 = 0 := by omega
  clear hp
  clear hx
  go_enter Try.func13, Try.ntmps13
  go_wp2_with (first | (go_at_call 45; ((with_reducible refine (HNX.out _).mono ?_); rintro e w' ⟨rfl, rfl⟩)) | (go_at_call 47; ((with_reducible refine (HIX.out _).mono ?_); rintro e w' ⟨rfl, rfl⟩)) | (go_at_call 46; ((with_reducible refine (HGX.out _).mono ?_); rintro e w' ⟨rfl, rfl⟩)))
  go_ret
  exact ⟨rfl, Ext.refl _⟩

set_option maxHeartbeats 1000000 in
theorem root3_fe (d : Int) (x : Nat) (n : Nat) (w : World) (hx : x < 18446744073709551616) (h1 : isNaN x = false) (n1 : 1 ≤ n) (n2 : n ≤ 1024) (hp : n % 2 = 0) (hg : ngB x = false) (hi : isInf x = false) (R : Nat) (hR : ∀ (A : Option Addr) (l c : Nat) (B : Option Addr) (k dd : Nat) (w : World), RatAt w A l c B k dd (fbN x) (fbD x) → Calls Try.prog 48 #[.int .i64 d, .agg #[.bool (ngB x), .slice A l c, .slice B k dd], .int .i64 (n : Int)] w fun e w' => e = .returned (.int .u64 (R : Nat)) ∧ Ext w w') :
    Calls Try.prog 13 #[.int .i64 d, .int .u64 (x : Int), .int .i64 (n : Int)] w fun e w' => e = .returned (.int .u64 (R : Nat)) ∧ Ext w w' := by
  have HNX := Lib.hid (fun w => isnan_any x w hx)
  have HIX := Lib.hid (fun w => isinf3_any x w hx)
  have HGX := Lib.hid (fun w => neg3_ngB x w hx)
  have HV : Hid ((9221120237041090561 : Int) = (NaNc : Nat)) := Lib.hid rfl
  rw [h1] at HNX
  rw [hi] at HIX
  rw [hg] at HGX
  have HRO := Lib.hid hR
  have HFB : Hid (∀ w, Calls Try.prog 17 #[.int .u64 (x : Int)] w (RetR (ngB x) (fbN x) (fbD x) w)) := Lib.hid (fun w => frombits_any x w hx)
  clear hi hR
  clear h1 hg
  have hp2 : (n : Int) % 2 = 0 := by omega
  clear hp
  clear hx
  go_enter Try.func13, Try.ntmps13
  go_wp2_with (first | (go_at_call 45; ((with_reducible refine (HNX.out _).mono ?_); rintro e w' ⟨rfl, rfl⟩)) | (go_at_call 47; ((with_reducible refine (HIX.out _).mono ?_); rintro e w' ⟨rfl, rfl⟩)) | (go_at_call 46; ((with_reducible refine (HGX.out _).mono ?_); rintro e w' ⟨rfl, rfl⟩)))
  refine (HFB.out _).mono ?_
  rintro e w1 ⟨A1, n1', c1, A2, n2', c2, rfl, hW1, hW2, hE1⟩
  go_wp2_with fail
  refine (HRO.out _ _ _ _ _ _ _ ⟨hW1, hW2⟩).mono ?_
  rintro e w2 ⟨rfl, hE2⟩
  go_wp2
  go_ret
  exact ⟨rfl, hE1.trans hE2⟩

set_option maxHeartbeats 1000000 in
theorem root3_io (d : Int) (x : Nat) (n : Nat) (w : World) (hx : x < 18446744073709551616) (h1 : isNaN x = false) (n1 : 1 ≤ n) (n2 : n ≤ 1024) (hp : n % 2 = 1) (hi : isInf x = true) :
    Calls Try.prog 13 #[.int .i64 d, .int .u64 (x : Int), .int .i64 (n : Int)] w fun e w' => e = .returned (.int .u64 (x : Nat)) ∧ Ext w w' := by
  have HNX := Lib.hid (fun w => isnan_any x w hx)
  have HIX := Lib.hid (fun w => isinf3_any x w hx)
  have HGX := Lib.hid (fun w => neg3_ngB x w hx)
  have HV : Hid ((9221120237041090561 : Int) = (NaNc : Nat)) := Lib.hid rfl
  rw [h1] at HNX
  rw [hi] at HIX
  clear hi
  clear h1
  have hp2 : (n : Int) % 2 = 1 := by omega
  clear hp
  clear hx
  go_enter Try.func13, Try.ntmps13
  go_wp2_with (first | (go_at_call 45; ((with_reducible refine (HNX.out _).mono ?_); rintro e w' ⟨rfl, rfl⟩)) | (go_at_call 47; ((with_reducible refine (HIX.out _).mono ?_); rintro e w' ⟨rfl, rfl⟩)) | (go_at_call 46; ((with_reducible refine (HGX.out _).mono ?_); rintro e w' ⟨rfl, rfl⟩)))
  go_ret
  exact ⟨rfl, Ext.refl _⟩

set_option maxHeartbeats 1000000 in
theorem root3_fo (d : Int) (x : Nat) (n : Nat) (w : World) (hx : x < 18446744073709551616) (h1 : isNaN x = false) (n1 : 1 ≤ n) (n2 : n ≤ 1024) (hp : n % 2 = 1) (hi : isInf x = false) (R : Nat) (hR : ∀ (A : Option Addr) (l c : Nat) (B : Option Addr) (k dd : Nat) (w : World), RatAt w A l c B k dd (fbN x) (fbD x) → Calls Try.prog 48 #[.int .i64 d, .agg #[.bool (ngB x), .slice A l c, .slice B k dd], .int .i64 (n : Int)] w fun e w' => e = .returned (.int .u64 (R : Nat)) ∧ Ext w w') :
    Calls Try.prog 13 #[.int .i64 d, .int .u64 (x : Int), .int .i64 (n : Int)] w fun e w' => e = .returned (.int .u64 (R : Nat)) ∧ Ext w w' := by
  have HNX := Lib.hid (fun w => isnan_any x w hx)
  have HIX := Lib.hid (fun w => isinf3_any x w hx)
  have HGX := Lib.hid (fun w => neg3_ngB x w hx)
  have HV : Hid ((9221120237041090561 : Int) = (NaNc : Nat)) := Lib.hid rfl
  rw [h1] at HNX
  rw [hi] at HIX
  have HRO := Lib.hid hR
  have HFB : Hid (∀ w, Calls Try.prog 17 #[.int .u64 (x : Int)] w (RetR (ngB x) (fbN x) (fbD x) w)) := Lib.hid (fun w => frombits_any x w hx)
  clear hi hR
  clear h1
  have hp2 : (n : Int) % 2 = 1 := by omega
  clear hp
  clear hx
  go_enter Try.func13, Try.ntmps13
  go_wp2_with (first | (go_at_call 45; ((with_reducible refine (HNX.out _).mono ?_); rintro e w' ⟨rfl, rfl⟩)) | (go_at_call 47; ((with_reducible refine (HIX.out _).mono ?_); rintro e w' ⟨rfl, rfl⟩)) | (go_at_call 46; ((with_reducible refine (HGX.out _).mono ?_); rintro e w' ⟨rfl, rfl⟩)))
  refine (HFB.out _).mono ?_
  rintro e w1 ⟨A1, n1', c1, A2, n2', c2, rfl, hW1, hW2, hE1⟩
  go_wp2_with fail
  refine (HRO.out _ _ _ _ _ _ _ ⟨hW1, hW2⟩).mono ?_
  rintro e w2 ⟨rfl, hE2⟩
  go_wp2
  go_ret
  exact ⟨rfl, hE1.trans hE2⟩


theorem root3_of (d : Int) (x n : Nat) (w : World) (n1 : 1 ≤ n) (n2 : n ≤ 1024) (A : Option Addr) (l c : Nat) (B : Option Addr) (k dd : Nat) (h : RatAt w A l c B k dd (fbN x) (fbD x)) :
    Calls Try.prog 48 #[.int .i64 d, .agg #[.bool (ngB x), .slice A l c, .slice B k dd], .int .i64 (n : Int)] w fun e w' => e = .returned (.int .u64 ((if mg x = 0 then 0 else rootV d (sg x) (rv (mg x)) K74 n : Nat) : Nat)) ∧ Ext w w' := by
  have hD := fbD_pos x
  have hbN : bl (fbN x) ≤ 1300 := by have := fbN_bits x; have := nw_bl (fbN x); omega
  have hbD : bl (fbD x) ≤ 1300 := by have := fbD_bits x; have := nw_bl (fbD x); omega
  have hv := fb_val x
  have hK : 0 < K74 := K74_pos
  by_cases hm : mg x = 0
  · rw [if_pos hm]
    have hN : fbN x = 0 := by
      rw [show rv (mg x) = 0 by rw [hm]; exact rv_zero, Nat.zero_mul] at hv
      rcases Nat.mul_eq_zero.1 hv with e | e
      · exact e
      · omega
    rw [hN] at h
    exact rootof_zero d _ A l c B k dd _ n w h hbD
  · rw [if_neg hm]
    have hN : fbN x ≠ 0 := fun e => by
      rw [e, Nat.zero_mul] at hv
      have := Nat.mul_pos (Nat.pos_of_ne_zero fun e => hm (rv_eq_zero.1 e)) hD
      omega
    have e : ngB x = sg x := by unfold ngB; rw [decide_eq_true hm, Bool.and_true]
    rw [e]
    rw [← rootV_congr hD hK hv d (sg x)]
    exact rootof_any d (sg x) A l c B k dd _ _ n w h hN (by omega) hbN hbD n1 n2

theorem root3_any (d : Int) (x : Nat) (n : Int) (w : World) (hx : x < 18446744073709551616) :
    Calls Try.prog 13 #[.int .i64 d, .int .u64 (x : Int), .int .i64 n] w fun e w' => e = .returned (.int .u64 (rootR d x n : Nat)) ∧ Ext w w' := by
  cases h1 : isNaN x
  case true =>
    have e : rootR d x n = NaNc := by unfold rootR; rw [h1]; simp
    rw [e]
    exact root3_n1 d x n w hx h1
  case false =>
    by_cases hn : n < 1
    · have e : rootR d x n = NaNc := by unfold rootR; rw [decide_eq_true hn]; simp
      rw [e]
      exact root3_n2 d x n w hx h1 hn
    · by_cases hn2 : 1024 < n
      · have e : rootR d x n = NaNc := by unfold rootR; rw [decide_eq_true hn2]; simp
        rw [e]
        exact root3_n3 d x n w hx h1 hn2
      · obtain ⟨k, rfl⟩ : ∃ k : Nat, n = (k : Int) := ⟨n.toNat, by omega⟩
        have k1 : 1 ≤ k := by omega
        have k2 : k ≤ 1024 := by omega
        have e : rootR d x (k : Int) = if (decide ((k : Int) % 2 = 0) && ngB x) = true then NaNc else if isInf x then x else if mg x = 0 then 0 else rootV d (sg x) (rv (mg x)) K74 k := by
          unfold rootR
          rw [h1, decide_eq_false hn, decide_eq_false hn2, Bool.false_or, Bool.false_or, Bool.false_or, Int.toNat_natCast]
          rfl
        rw [e]
        clear e
        rcases Nat.mod_two_eq_zero_or_one k with hp | hp
        · cases hg : ngB x
          case true =>
            rw [if_pos (by rw [decide_eq_true (show (k : Int) % 2 = 0 by omega)]; rfl)]
            exact root3_n4 d x k w hx h1 k1 k2 hp hg
          case false =>
            rw [if_neg (by simp)]
            cases hi : isInf x
            case true => exact root3_ie d x k w hx h1 k1 k2 hp hg hi
            case false => exact root3_fe d x k w hx h1 k1 k2 hp hg hi _ (fun A l c B m dd w h => root3_of d x k w k1 k2 A l c B m dd h)
        · rw [if_neg (by rw [decide_eq_false (show ¬ (k : Int) % 2 = 0 by omega)]; simp)]
          cases hi : isInf x
          case true => exact root3_io d x k w hx h1 k1 k2 hp hi
          case false => exact root3_fo d x k w hx h1 k1 k2 hp hi _ (fun A l c B m dd w h => root3_of d x k w k1 k2 A l c B m dd h)
end Go.Proofs.Ytmcfflecaklpcaa

/-
  The walk through RoundRoots. Conditions: those that each theorem names.
-/
namespace Go.Proofs.Ytmcfflecaklpcaa
open Go.RowKit Nm Rn
set_option maxRecDepth 100000
set_option linter.unusedVariables false
set_option linter.unusedSimpArgs false

set_option maxHeartbeats 1000000 in
theorem roots_walk (d : Int) (x : Nat) (n : Int) (w : World) (hx : x < 18446744073709551616) :
    Calls Try.prog 3 #[.int .i64 d, .int .u64 (x : Int), .int .i64 n] w fun e w' => e = .returned (.bool true) ∧ Ext w w' := by
  have HA := Lib.hid (fun w => rroot_any d x n w hx)
  have HB := Lib.hid (fun w => root3_any d x n w hx)
  have HL := Lib.hid (fun r w h => lbits_any r w h)
  obtain ⟨V, hV⟩ : ∃ V, V = rootR d x n := ⟨_, rfl⟩
  rw [← hV] at HA HB
  clear hV hx
  go_enter Try.func3, Try.ntmps3
  go_wp2_with (go_at_call 12; refine (fl_any _ _).mono ?_; rintro e w' ⟨rfl, rfl⟩)
  refine (HA.out _).mono ?_
  rintro e w1 ⟨r, rfl, hr, hc, hE⟩
  go_wp2_with fail
  refine (HL.out r _ hr).mono ?_
  rintro e w2 ⟨rfl, rfl⟩
  rw [hc]
  clear hc hr
  go_wp2_with fail
  refine (HB.out _).mono ?_
  rintro e w3 ⟨rfl, hE3⟩
  go_wp2
  go_ret
  exact ⟨by simp, hE.trans hE3⟩
end Go.Proofs.Ytmcfflecaklpcaa
