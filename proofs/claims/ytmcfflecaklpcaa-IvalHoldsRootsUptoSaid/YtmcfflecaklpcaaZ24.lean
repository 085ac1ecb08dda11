/-
  The contract of the program's Root. Conditions: those that each theorem names.
-/
import Derived.Test.YtmcfflecaklpcaaZ22
import Derived.Test.YtmcfflecaklpcaaZ23
import Derived.Test.YtmcfflecaklpcaaZ18
import Derived.Test.YtmcfflecaklpcaaZ08
namespace Go.Proofs.Ytmcfflecaklpcaa
open Go.RowKit Nm Rn
set_option maxRecDepth 100000
set_option linter.unusedVariables false
set_option linter.unusedSimpArgs false

theorem rootV_ok (d : Int) (neg : Bool) (N D n : Nat) : rootV d neg N D n < 18446744073709551616 ∧ isNaN (rootV d neg N D n) = false := by
  unfold rootV
  split
  · rename_i h
    obtain ⟨k, r, o, -, -, e⟩ := Classical.choose_spec h
    rw [e]
    exact rnd_ok _ _ _
  · exact ⟨by omega, by decide⟩
/-- Below 0. -/
def ngP (x : Nat) : Bool := sg x && decide (mg x ≠ 0)
theorem ltB_zero {x : Nat} (h : isNaN x = false) : ltB x 0 = ngP x := by
  unfold ltB ngP
  rw [h, show isNaN 0 = false by decide, show key 0 = 0 by decide]
  unfold key
  cases sg x
  · simp
  · simp
    by_cases hm : mg x = 0 <;> simp [hm] <;> omega
theorem eqB_zero {x : Nat} (h : isNaN x = false) : eqB x 0 = decide (mg x = 0) := by
  unfold eqB
  rw [h, show isNaN 0 = false by decide, show key 0 = 0 by decide]
  unfold key
  cases sg x
  · simp
  · simp

set_option maxHeartbeats 1000000 in
theorem rroot_n1 (d : Int) (x : Nat) (n : Int) (w : World) (hx : x < 18446744073709551616) (h1 : isNaN x = true) :
    Calls Try.prog 11 #[.int .i64 d, .float .f64 x, .int .i64 n] w (RetFl NaNc w) := by
  have HNX := Lib.hid (fun w => mnan_any x w hx)
  have HIX := Lib.hid (fun w => misinf_any x w hx)
  have HPT := Lib.hid (fun w => part_any x w hx)
  rw [h1] at HNX
  clear h1 hx
  go_enter Try.func11, Try.ntmps11
  go_wp2_with (first | (go_at_call 39; ((with_reducible refine (HNX.out _).mono ?_); rintro e w' ⟨rfl, rfl⟩)) | (go_at_call 41; ((with_reducible refine (HIX.out _).mono ?_); rintro e w' ⟨rfl, rfl⟩)) | (go_at_call 40; ((with_reducible refine (mnanc_any _).mono ?_); rintro e w' ⟨rfl, rfl⟩)))
  go_ret
  exact ⟨NaNc, rfl, by decide, by decide, Ext.refl _⟩

set_option maxHeartbeats 1000000 in
theorem rroot_n2 (d : Int) (x : Nat) (n : Int) (w : World) (hx : x < 18446744073709551616) (h1 : isNaN x = false) (hn : n < 1) :
    Calls Try.prog 11 #[.int .i64 d, .float .f64 x, .int .i64 n] w (RetFl NaNc w) := by
  have HNX := Lib.hid (fun w => mnan_any x w hx)
  have HIX := Lib.hid (fun w => misinf_any x w hx)
  have HPT := Lib.hid (fun w => part_any x w hx)
  rw [h1] at HNX
  clear h1 hx
  go_enter Try.func11, Try.ntmps11
  go_wp2_with (first | (go_at_call 39; ((with_reducible refine (HNX.out _).mono ?_); rintro e w' ⟨rfl, rfl⟩)) | (go_at_call 41; ((with_reducible refine (HIX.out _).mono ?_); rintro e w' ⟨rfl, rfl⟩)) | (go_at_call 40; ((with_reducible refine (mnanc_any _).mono ?_); rintro e w' ⟨rfl, rfl⟩)))
  go_ret
  exact ⟨NaNc, rfl, by decide, by decide, Ext.refl _⟩

set_option maxHeartbeats 1000000 in
theorem rroot_n3 (d : Int) (x : Nat) (n : Int) (w : World) (hx : x < 18446744073709551616) (h1 : isNaN x = false) (hn : 1024 < n) :
    Calls Try.prog 11 #[.int .i64 d, .float .f64 x, .int .i64 n] w (RetFl NaNc w) := by
  have HNX := Lib.hid (fun w => mnan_any x w hx)
  have HIX := Lib.hid (fun w => misinf_any x w hx)
  have HPT := Lib.hid (fun w => part_any x w hx)
  rw [h1] at HNX
  clear h1 hx
  have hn2 : ¬ (n < 1) := by omega
  go_enter Try.func11, Try.ntmps11
  go_wp2_with (first | (go_at_call 39; ((with_reducible refine (HNX.out _).mono ?_); rintro e w' ⟨rfl, rfl⟩)) | (go_at_call 41; ((with_reducible refine (HIX.out _).mono ?_); rintro e w' ⟨rfl, rfl⟩)) | (go_at_call 40; ((with_reducible refine (mnanc_any _).mono ?_); rintro e w' ⟨rfl, rfl⟩)))
  go_ret
  exact ⟨NaNc, rfl, by decide, by decide, Ext.refl _⟩

set_option maxHeartbeats 1000000 in
theorem rroot_n4 (d : Int) (x : Nat) (n : Nat) (w : World) (hx : x < 18446744073709551616) (h1 : isNaN x = false) (n1 : 1 ≤ n) (n2 : n ≤ 1024) (hp : n % 2 = 0) (hg : ngP x = true) :
    Calls Try.prog 11 #[.int .i64 d, .float .f64 x, .int .i64 (n : Int)] w (RetFl NaNc w) := by
  have HNX := Lib.hid (fun w => mnan_any x w hx)
  have HIX := Lib.hid (fun w => misinf_any x w hx)
  have HPT := Lib.hid (fun w => part_any x w hx)
  rw [h1] at HNX
  have q1 := fo_lt hx (show 0 < 18446744073709551616 by omega)
  have q2 := fo_eq hx (show 0 < 18446744073709551616 by omega)
  rw [ltB_zero h1] at q1
  rw [eqB_zero h1] at q2
  rw [hg] at q1
  clear h1 hg q2 hx
  have hp2 : (n : Int) % 2 = 0 := by omega
  clear hp
  go_enter Try.func11, Try.ntmps11
  go_wp2_with (first | (go_at_call 39; ((with_reducible refine (HNX.out _).mono ?_); rintro e w' ⟨rfl, rfl⟩)) | (go_at_call 41; ((with_reducible refine (HIX.out _).mono ?_); rintro e w' ⟨rfl, rfl⟩)) | (go_at_call 40; ((with_reducible refine (mnanc_any _).mono ?_); rintro e w' ⟨rfl, rfl⟩)))
  go_ret
  exact ⟨NaNc, rfl, by decide, by decide, Ext.refl _⟩

set_option maxHeartbeats 1000000 in
theorem rroot_ze (d : Int) (x : Nat) (n : Nat) (w : World) (hx : x < 18446744073709551616) (h1 : isNaN x = false) (n1 : 1 ≤ n) (n2 : n ≤ 1024) (hp : n % 2 = 0) (hg : ngP x = false) (hz : mg x = 0) :
    Calls Try.prog 11 #[.int .i64 d, .float .f64 x, .int .i64 (n : Int)] w (RetFl 0 w) := by
  have HNX := Lib.hid (fun w => mnan_any x w hx)
  have HIX := Lib.hid (fun w => misinf_any x w hx)
  have HPT := Lib.hid (fun w => part_any x w hx)
  rw [h1] at HNX
  have q1 := fo_lt hx (show 0 < 18446744073709551616 by omega)
  have q2 := fo_eq hx (show 0 < 18446744073709551616 by omega)
  rw [ltB_zero h1] at q1
  rw [eqB_zero h1] at q2
  rw [hg] at q1
  rw [decide_eq_true hz] at q2
  clear hz h1
  clear hg
  have hp2 : (n : Int) % 2 = 0 := by omega
  clear hp
  go_enter Try.func11, Try.ntmps11
  go_wp2_with (first | (go_at_call 39; ((with_reducible refine (HNX.out _).mono ?_); rintro e w' ⟨rfl, rfl⟩)) | (go_at_call 41; ((with_reducible refine (HIX.out _).mono ?_); rintro e w' ⟨rfl, rfl⟩)) | (go_at_call 40; ((with_reducible refine (mnanc_any _).mono ?_); rintro e w' ⟨rfl, rfl⟩)))
  go_ret
  exact ⟨0, rfl, by omega, by decide, Ext.refl _⟩

set_option maxHeartbeats 1000000 in
theorem rroot_ie (d : Int) (x : Nat) (n : Nat) (w : World) (hx : x < 18446744073709551616) (h1 : isNaN x = false) (n1 : 1 ≤ n) (n2 : n ≤ 1024) (hp : n % 2 = 0) (hg : ngP x = false) (hz : mg x ≠ 0) (hi : isInf x = true) :
    Calls Try.prog 11 #[.int .i64 d, .float .f64 x, .int .i64 (n : Int)] w (RetFl x w) := by
  have HNX := Lib.hid (fun w => mnan_any x w hx)
  have HIX := Lib.hid (fun w => misinf_any x w hx)
  have HPT := Lib.hid (fun w => part_any x w hx)
  rw [h1] at HNX
  have q1 := fo_lt hx (show 0 < 18446744073709551616 by omega)
  have q2 := fo_eq hx (show 0 < 18446744073709551616 by omega)
  rw [ltB_zero h1] at q1
  rw [eqB_zero h1] at q2
  rw [hg] at q1
  rw [decide_eq_false hz] at q2
  rw [hi] at HIX
  have HC := Lib.hid (cn_num h1)
  clear hz hi h1
  clear hg
  have hp2 : (n : Int) % 2 = 0 := by omega
  clear hp
  go_enter Try.func11, Try.ntmps11
  go_wp2_with (first | (go_at_call 39; ((with_reducible refine (HNX.out _).mono ?_); rintro e w' ⟨rfl, rfl⟩)) | (go_at_call 41; ((with_reducible refine (HIX.out _).mono ?_); rintro e w' ⟨rfl, rfl⟩)) | (go_at_call 40; ((with_reducible refine (mnanc_any _).mono ?_); rintro e w' ⟨rfl, rfl⟩)))
  go_ret
  exact ⟨x, rfl, hx, HC.out, Ext.refl _⟩

set_option maxHeartbeats 1000000 in
theorem rroot_fe (d : Int) (x : Nat) (n : Nat) (w : World) (hx : x < 18446744073709551616) (h1 : isNaN x = false) (n1 : 1 ≤ n) (n2 : n ≤ 1024) (hp : n % 2 = 0) (hg : ngP x = false) (hz : mg x ≠ 0) (hi : isInf x = false) :
    Calls Try.prog 11 #[.int .i64 d, .float .f64 x, .int .i64 (n : Int)] w (RetFl (rootV d (sg x) (rv (mg x)) K74 n) w) := by
  have HNX := Lib.hid (fun w => mnan_any x w hx)
  have HIX := Lib.hid (fun w => misinf_any x w hx)
  have HPT := Lib.hid (fun w => part_any x w hx)
  rw [h1] at HNX
  have q1 := fo_lt hx (show 0 < 18446744073709551616 by omega)
  have q2 := fo_eq hx (show 0 < 18446744073709551616 by omega)
  rw [ltB_zero h1] at q1
  rw [eqB_zero h1] at q2
  rw [hg] at q1
  rw [decide_eq_false hz] at q2
  rw [hi] at HIX
  have HRO := Lib.hid (fun A l c w h => root_any d (sg x) A l c (fbSig x) (fbExp x + 1074).toNat n (fbExp x) w h (by rcases Nat.eq_zero_or_pos (fbSig x) with e | e; exact absurd ((fbSig_zero x).1 e) hz; exact e) (by rw [bl_le_iff]; exact fbSig_lt x) (by have := fbExp_lo x; omega) (by have := fbExp_hi x; omega) n1 n2)
  rw [← fb_rv] at HRO
  have HK := Lib.hid (rootV_ok d (sg x) (rv (mg x)) K74 n)
  obtain ⟨R, hR⟩ : ∃ R, R = rootV d (sg x) (rv (mg x)) K74 n := ⟨_, rfl⟩
  rw [← hR] at HRO HK ⊢
  clear hz hi h1 hR hx
  clear hg
  have hp2 : (n : Int) % 2 = 0 := by omega
  clear hp
  go_enter Try.func11, Try.ntmps11
  go_wp2_with (first | (go_at_call 39; ((with_reducible refine (HNX.out _).mono ?_); rintro e w' ⟨rfl, rfl⟩)) | (go_at_call 41; ((with_reducible refine (HIX.out _).mono ?_); rintro e w' ⟨rfl, rfl⟩)) | (go_at_call 40; ((with_reducible refine (mnanc_any _).mono ?_); rintro e w' ⟨rfl, rfl⟩)))
  refine (HPT.out _).mono ?_
  rintro e w1 ⟨A1, n1', c1, rfl, hW1, hE1⟩
  go_wp2_with fail
  refine (HRO.out _ _ _ _ hW1).mono ?_
  rintro e w2 ⟨rfl, hE2⟩
  go_wp2
  go_ret
  exact ⟨_, rfl, HK.out.1, cn_num HK.out.2, hE1.trans hE2⟩

set_option maxHeartbeats 1000000 in
theorem rroot_zo (d : Int) (x : Nat) (n : Nat) (w : World) (hx : x < 18446744073709551616) (h1 : isNaN x = false) (n1 : 1 ≤ n) (n2 : n ≤ 1024) (hp : n % 2 = 1) (hz : mg x = 0) :
    Calls Try.prog 11 #[.int .i64 d, .float .f64 x, .int .i64 (n : Int)] w (RetFl 0 w) := by
  have HNX := Lib.hid (fun w => mnan_any x w hx)
  have HIX := Lib.hid (fun w => misinf_any x w hx)
  have HPT := Lib.hid (fun w => part_any x w hx)
  rw [h1] at HNX
  have q1 := fo_lt hx (show 0 < 18446744073709551616 by omega)
  have q2 := fo_eq hx (show 0 < 18446744073709551616 by omega)
  rw [ltB_zero h1] at q1
  rw [eqB_zero h1] at q2
  clear q1
  rw [decide_eq_true hz] at q2
  clear hz h1
  have hp2 : (n : Int) % 2 = 1 := by omega
  clear hp
  go_enter Try.func11, Try.ntmps11
  go_wp2_with (first | (go_at_call 39; ((with_reducible refine (HNX.out _).mono ?_); rintro e w' ⟨rfl, rfl⟩)) | (go_at_call 41; ((with_reducible refine (HIX.out _).mono ?_); rintro e w' ⟨rfl, rfl⟩)) | (go_at_call 40; ((with_reducible refine (mnanc_any _).mono ?_); rintro e w' ⟨rfl, rfl⟩)))
  go_ret
  exact ⟨0, rfl, by omega, by decide, Ext.refl _⟩

set_option maxHeartbeats 1000000 in
theorem rroot_io (d : Int) (x : Nat) (n : Nat) (w : World) (hx : x < 18446744073709551616) (h1 : isNaN x = false) (n1 : 1 ≤ n) (n2 : n ≤ 1024) (hp : n % 2 = 1) (hz : mg x ≠ 0) (hi : isInf x = true) :
    Calls Try.prog 11 #[.int .i64 d, .float .f64 x, .int .i64 (n : Int)] w (RetFl x w) := by
  have HNX := Lib.hid (fun w => mnan_any x w hx)
  have HIX := Lib.hid (fun w => misinf_any x w hx)
  have HPT := Lib.hid (fun w => part_any x w hx)
  rw [h1] at HNX
  have q1 := fo_lt hx (show 0 < 18446744073709551616 by omega)
  have q2 := fo_eq hx (show 0 < 18446744073709551616 by omega)
  rw [ltB_zero h1] at q1
  rw [eqB_zero h1] at q2
  clear q1
  rw [decide_eq_false hz] at q2
  rw [hi] at HIX
  have HC := Lib.hid (cn_num h1)
  clear hz hi h1
  have hp2 : (n : Int) % 2 = 1 := by omega
  clear hp
  go_enter Try.func11, Try.ntmps11
  go_wp2_with (first | (go_at_call 39; ((with_reducible refine (HNX.out _).mono ?_); rintro e w' ⟨rfl, rfl⟩)) | (go_at_call 41; ((with_reducible refine (HIX.out _).mono ?_); rintro e w' ⟨rfl, rfl⟩)) | (go_at_call 40; ((with_reducible refine (mnanc_any _).mono ?_); rintro e w' ⟨rfl, rfl⟩)))
  go_ret
  exact ⟨x, rfl, hx, HC.out, Ext.refl _⟩

set_option maxHeartbeats 1000000 in
theorem rroot_fo (d : Int) (x : Nat) (n : Nat) (w : World) (hx : x < 18446744073709551616) (h1 : isNaN x = false) (n1 : 1 ≤ n) (n2 : n ≤ 1024) (hp : n % 2 = 1) (hz : mg x ≠ 0) (hi : isInf x = false) :
    Calls Try.prog 11 #[.int .i64 d, .float .f64 x, .int .i64 (n : Int)] w (RetFl (rootV d (sg x) (rv (mg x)) K74 n) w) := by
  have HNX := Lib.hid (fun w => mnan_any x w hx)
  have HIX := Lib.hid (fun w => misinf_any x w hx)
  have HPT := Lib.hid (fun w => part_any x w hx)
  rw [h1] at HNX
  have q1 := fo_lt hx (show 0 < 18446744073709551616 by omega)
  have q2 := fo_eq hx (show 0 < 18446744073709551616 by omega)
  rw [ltB_zero h1] at q1
  rw [eqB_zero h1] at q2
  clear q1
  rw [decide_eq_false hz] at q2
  rw [hi] at HIX
  have HRO := Lib.hid (fun A l c w h => root_any d (sg x) A l c (fbSig x) (fbExp x + 1074).toNat n (fbExp x) w h (by rcases Nat.eq_zero_or_pos (fbSig x) with e | e; exact absurd ((fbSig_zero x).1 e) hz; exact e) (by rw [bl_le_iff]; exact fbSig_lt x) (by have := fbExp_lo x; omega) (by have := fbExp_hi x; omega) n1 n2)
  rw [← fb_rv] at HRO
  have HK := Lib.hid (rootV_ok d (sg x) (rv (mg x)) K74 n)
  obtain ⟨R, hR⟩ : ∃ R, R = rootV d (sg x) (rv (mg x)) K74 n := ⟨_, rfl⟩
  rw [← hR] at HRO HK ⊢
  clear hz hi h1 hR hx
  have hp2 : (n : Int) % 2 = 1 := by omega
  clear hp
  go_enter Try.func11, Try.ntmps11
  go_wp2_with (first | (go_at_call 39; ((with_reducible refine (HNX.out _).mono ?_); rintro e w' ⟨rfl, rfl⟩)) | (go_at_call 41; ((with_reducible refine (HIX.out _).mono ?_); rintro e w' ⟨rfl, rfl⟩)) | (go_at_call 40; ((with_reducible refine (mnanc_any _).mono ?_); rintro e w' ⟨rfl, rfl⟩)))
  refine (HPT.out _).mono ?_
  rintro e w1 ⟨A1, n1', c1, rfl, hW1, hE1⟩
  go_wp2_with fail
  refine (HRO.out _ _ _ _ hW1).mono ?_
  rintro e w2 ⟨rfl, hE2⟩
  go_wp2
  go_ret
  exact ⟨_, rfl, HK.out.1, cn_num HK.out.2, hE1.trans hE2⟩


theorem rroot_any (d : Int) (x : Nat) (n : Int) (w : World) (hx : x < 18446744073709551616) :
    Calls Try.prog 11 #[.int .i64 d, .float .f64 x, .int .i64 n] w (RetFl (rootR d x n) w) := by
  cases h1 : isNaN x
  case true =>
    have e : rootR d x n = NaNc := by unfold rootR; rw [h1]; simp
    rw [e]
    exact rroot_n1 d x n w hx h1
  case false =>
    by_cases hn : n < 1
    · have e : rootR d x n = NaNc := by unfold rootR; rw [decide_eq_true hn]; simp
      rw [e]
      exact rroot_n2 d x n w hx h1 hn
    · by_cases hn2 : 1024 < n
      · have e : rootR d x n = NaNc := by unfold rootR; rw [decide_eq_true hn2]; simp
        rw [e]
        exact rroot_n3 d x n w hx h1 hn2
      · obtain ⟨k, rfl⟩ : ∃ k : Nat, n = (k : Int) := ⟨n.toNat, by omega⟩
        have k1 : 1 ≤ k := by omega
        have k2 : k ≤ 1024 := by omega
        have e : rootR d x (k : Int) = if (decide ((k : Int) % 2 = 0) && ngP x) = true then NaNc else if isInf x then x else if mg x = 0 then 0 else rootV d (sg x) (rv (mg x)) K74 k := by
          unfold rootR
          rw [h1, decide_eq_false hn, decide_eq_false hn2, Bool.false_or, Bool.false_or, Bool.false_or, Int.toNat_natCast]
          rfl
        rw [e]
        clear e
        have zi : mg x = 0 → isInf x = false := fun h => by unfold isInf; rw [h]; decide
        have hrest : (isInf x = true ∧ mg x ≠ 0) ∨ (isInf x = false ∧ mg x = 0) ∨ (isInf x = false ∧ mg x ≠ 0) := by
          by_cases hz : mg x = 0
          · exact .inr (.inl ⟨zi hz, hz⟩)
          · cases hi : isInf x
            · exact .inr (.inr ⟨rfl, hz⟩)
            · exact .inl ⟨rfl, hz⟩
        rcases Nat.mod_two_eq_zero_or_one k with hp | hp
        · cases hg : ngP x
          case true =>
            rw [if_pos (by rw [decide_eq_true (show (k : Int) % 2 = 0 by omega)]; rfl)]
            exact rroot_n4 d x k w hx h1 k1 k2 hp hg
          case false =>
            rw [if_neg (by simp)]
            rcases hrest with ⟨hi, hz⟩ | ⟨hi, hz⟩ | ⟨hi, hz⟩
            · rw [if_pos hi]; exact rroot_ie d x k w hx h1 k1 k2 hp hg hz hi
            · rw [if_neg (by rw [hi]; simp), if_pos hz]; exact rroot_ze d x k w hx h1 k1 k2 hp hg hz
            · rw [if_neg (by rw [hi]; simp), if_neg hz]; exact rroot_fe d x k w hx h1 k1 k2 hp hg hz hi
        · rw [if_neg (by rw [decide_eq_false (show ¬ (k : Int) % 2 = 0 by omega)]; simp)]
          rcases hrest with ⟨hi, hz⟩ | ⟨hi, hz⟩ | ⟨hi, hz⟩
          · rw [if_pos hi]; exact rroot_io d x k w hx h1 k1 k2 hp hz hi
          · rw [if_neg (by rw [hi]; simp), if_pos hz]; exact rroot_zo d x k w hx h1 k1 k2 hp hz
          · rw [if_neg (by rw [hi]; simp), if_neg hz]; exact rroot_fo d x k w hx h1 k1 k2 hp hz hi
end Go.Proofs.Ytmcfflecaklpcaa

/-
  The contracts of the reference's naturals, third part: sums and differences. Conditions: those that each theorem names.
-/
namespace Go.Proofs.Ytmcfflecaklpcaa
open Go.RowKit Nm
set_option maxRecDepth 100000
set_option linter.unusedVariables false
set_option linter.unusedSimpArgs false

set_option maxHeartbeats 1000000 in
theorem plus_any (A : Option Addr) (n c : Nat) (xs : List Nat) (B : Option Addr) (m d : Nat) (ys : List Nat) (w : World) (h : Wds w A n c xs) (hn : n ≤ 17592186044416) (k : Wds w B m d ys) (hm : m ≤ 17592186044416) :
    Calls Try.prog 100 #[.slice A n c, .slice B m d] w (RetW (nv xs + nv ys) w) := by
  have hlx := h.len
  have hly := k.len
  obtain ⟨i0, hi0, hz0, hz1, hz2⟩ := info_parts info_u32
  go_enter Try.func100, Try.ntmps100
  go_wp2
  go_loopw [5, 6, 7] (fun v cv i wr => ∃ (j cr : Nat) (acc : List Nat), j ≤ max n m ∧ i = .int .i64 j ∧ cv = .int .u64 (cr : Int) ∧ cr ≤ 1 ∧ Ws acc ∧ Hid (acc.length = j) ∧ Hid (nv acc + 4294967296 ^ j * cr = nv (xs.take j) + nv (ys.take j)) ∧ wr.ownsRow w.heap.size 80 1 v j (u32s acc) ∧ Ext w wr) (fun _ _ i _ => max n m - (intOf i).toNat)
  case atStart => exact ⟨0, 0, [], by omega, rfl, rfl, by omega, Ws.nil, Lib.hid rfl, Lib.hid (by simp [nv]), World.ownsRow_nil _ _ _ _, Ext.refl _⟩
  case round =>
    obtain ⟨j, cr, acc, hj, rfl, rfl, hcr, hacc, hal, hsum, hown, hb⟩ := hrel
    have hX : j < n → ∃ ad, ∃ X : Nat, A = some ad ∧ X < 4294967296 ∧ Hid (X = xs.getD j 0) ∧ wr.cell? (ad.add j) = some (.int .u32 (X : Int)) := fun hl => by
      obtain ⟨ad, hx, e, _, hc⟩ := (h.ext hb).at_ hl
      exact ⟨ad, xs[j], e, h.ws.get hx, Lib.hid (by simp [List.getD, hx]), hc⟩
    have hY : j < m → ∃ ad, ∃ Y : Nat, B = some ad ∧ Y < 4294967296 ∧ Hid (Y = ys.getD j 0) ∧ wr.cell? (ad.add j) = some (.int .u32 (Y : Int)) := fun hl => by
      obtain ⟨ad, hx, e, _, hc⟩ := (k.ext hb).at_ hl
      exact ⟨ad, ys[j], e, k.ws.get hx, Lib.hid (by simp [List.getD, hx]), hc⟩
    have hnX : n ≤ j → Hid (0 = xs.getD j 0) := fun hl => Lib.hid (by simp [List.getD, show ¬ j < xs.length by omega])
    have hnY : m ≤ j → Hid (0 = ys.getD j 0) := fun hl => Lib.hid (by simp [List.getD, show ¬ j < ys.length by omega])
    by_cases h1 : j < n
    · obtain ⟨ad, X, rfl, hX32, hXe, hcX⟩ := hX h1
      clear hX hnX
      by_cases h2 : j < m
      · obtain ⟨bd, Y, rfl, hY32, hYe, hcY⟩ := hY h2
        clear hY hnY
        obtain ⟨lo, hlo⟩ : ∃ lo, lo = (cr + X + Y) % 4294967296 := ⟨_, rfl⟩
        have hand := and_mask (cr + X + Y) lo (by omega) hlo
        have HL := Lib.hid hlo
        have hlo32 : lo < 4294967296 := by omega
        clear hlo
        push_cast at hand
        go_wp2_with (at_builtin; refine wpList_append_own _ rfl (.tmp 42) (.tmp 46) _ rfl w.heap.size 80 i0 (.int .u32 0) 1 4 Try.underlying33 hi0 hz0 hz1 hz2 rfl (by decide) _ _ _ rfl (hown.alloc _) ⟨wr.heap.size, 0, none⟩ 1 1 [.int .u32 (lo : Int)] rfl rfl (cell_one_new _ _ _) (by simp [Value.oneCell']) (by simp only [maxLen]; omega) (by omega) (by have := hb.size; simp; omega) ?_; intro v' w1 hown' hgrow _)
        go_roundw
        case rel => exact ⟨j + 1, (cr + X + Y) / 4294967296, acc ++ [lo], by omega, by go_num, val_int (by omega), by omega, hacc.append (Ws.cons hlo32 Ws.nil), Lib.hid (by simp [hal.out]), Lib.hid (sum_step hal.out hXe.out hYe.out hsum.out HL.out), by rw [← u32s_snoc]; exact hown', (hb.alloc _).grown hgrow fun q hq => (hown.lt q hq).1⟩
        case measure => simp [intOf]; omega
      · have hYe := hnY (by omega)
        clear hY hnY
        obtain ⟨lo, hlo⟩ : ∃ lo, lo = (cr + X + 0) % 4294967296 := ⟨_, rfl⟩
        have hand := and_mask (cr + X) lo (by omega) hlo
        have HL := Lib.hid hlo
        have hlo32 : lo < 4294967296 := by omega
        clear hlo
        push_cast at hand
        go_wp2_with (at_builtin; refine wpList_append_own _ rfl (.tmp 42) (.tmp 46) _ rfl w.heap.size 80 i0 (.int .u32 0) 1 4 Try.underlying33 hi0 hz0 hz1 hz2 rfl (by decide) _ _ _ rfl (hown.alloc _) ⟨wr.heap.size, 0, none⟩ 1 1 [.int .u32 (lo : Int)] rfl rfl (cell_one_new _ _ _) (by simp [Value.oneCell']) (by simp only [maxLen]; omega) (by omega) (by have := hb.size; simp; omega) ?_; intro v' w1 hown' hgrow _)
        go_roundw
        case rel => exact ⟨j + 1, (cr + X + 0) / 4294967296, acc ++ [lo], by omega, by go_num, val_int (by omega), by omega, hacc.append (Ws.cons hlo32 Ws.nil), Lib.hid (by simp [hal.out]), Lib.hid (sum_step hal.out hXe.out hYe.out hsum.out HL.out), by rw [← u32s_snoc]; exact hown', (hb.alloc _).grown hgrow fun q hq => (hown.lt q hq).1⟩
        case measure => simp [intOf]; omega
    · have hXe := hnX (by omega)
      clear hX hnX
      by_cases h2 : j < m
      · obtain ⟨bd, Y, rfl, hY32, hYe, hcY⟩ := hY h2
        clear hY hnY
        obtain ⟨lo, hlo⟩ : ∃ lo, lo = (cr + 0 + Y) % 4294967296 := ⟨_, rfl⟩
        have hand := and_mask (cr + Y) lo (by omega) (by omega)
        have HL := Lib.hid hlo
        have hlo32 : lo < 4294967296 := by omega
        clear hlo
        push_cast at hand
        go_wp2_with (at_builtin; refine wpList_append_own _ rfl (.tmp 42) (.tmp 46) _ rfl w.heap.size 80 i0 (.int .u32 0) 1 4 Try.underlying33 hi0 hz0 hz1 hz2 rfl (by decide) _ _ _ rfl (hown.alloc _) ⟨wr.heap.size, 0, none⟩ 1 1 [.int .u32 (lo : Int)] rfl rfl (cell_one_new _ _ _) (by simp [Value.oneCell']) (by simp only [maxLen]; omega) (by omega) (by have := hb.size; simp; omega) ?_; intro v' w1 hown' hgrow _)
        go_roundw
        case rel => exact ⟨j + 1, (cr + 0 + Y) / 4294967296, acc ++ [lo], by omega, by go_num, val_int (by omega), by omega, hacc.append (Ws.cons hlo32 Ws.nil), Lib.hid (by simp [hal.out]), Lib.hid (sum_step hal.out hXe.out hYe.out hsum.out HL.out), by rw [← u32s_snoc]; exact hown', (hb.alloc _).grown hgrow fun q hq => (hown.lt q hq).1⟩
        case measure => simp [intOf]; omega
      · have hfin := hsum.out
        rw [List.take_of_length_le (by omega), List.take_of_length_le (by omega)] at hfin
        have HF := Lib.hid (hfin)
        clear hfin hY hnY
        have hcr32 : cr < 4294967296 := by omega
        go_wp2_with (at_builtin; refine wpList_append_own _ rfl (.tmp 50) (.tmp 53) _ rfl w.heap.size 80 i0 (.int .u32 0) 1 4 Try.underlying33 hi0 hz0 hz1 hz2 rfl (by decide) _ _ _ rfl (hown.alloc _) ⟨wr.heap.size, 0, none⟩ 1 1 [.int .u32 (cr : Int)] rfl rfl (cell_one_new _ _ _) (by simp [Value.oneCell']) (by simp only [maxLen]; omega) (by omega) (by have := hb.size; simp; omega) ?_; intro v' w1 hown' hgrow _)
        rw [u32s_snoc] at hown'
        have hE1 : Ext w w1 := (hb.alloc _).grown hgrow fun q hq => (hown.lt q hq).1
        obtain ⟨A', c', rfl, hW⟩ := Wds.of_own hown' (hacc.append (Ws.cons hcr32 Ws.nil))
        go_wp2_with (go_at_call 65; refine (norm_any _ _ _ _ _ hW (by omega)).mono ?_; rintro e w2 ⟨A2, n2, c2, rfl, hR, hE2⟩)
        go_ret
        exact ⟨A2, n2, c2, rfl, by
          have e : nv (acc ++ [cr]) = nv xs + nv ys := by
            rw [nv_append, hal.out]; simp only [nv, Nat.mul_zero, Nat.add_zero]; exact HF.out
          rw [← e]; exact hR, hE1.trans hE2⟩

set_option maxHeartbeats 1000000 in
theorem minus_any (A : Option Addr) (n c : Nat) (xs : List Nat) (B : Option Addr) (m d : Nat) (ys : List Nat) (w : World) (h : Wds w A n c xs) (hn : n ≤ 17592186044416) (k : Wds w B m d ys) (hm : m ≤ 17592186044416) (hle : nv ys ≤ nv xs) :
    Calls Try.prog 113 #[.slice A n c, .slice B m d] w (RetW (nv xs - nv ys) w) := by
  have hlx := h.len
  have hly := k.len
  have HLE := Lib.hid hle
  clear hle
  go_enter Try.func113, Try.ntmps113
  go_wp2
  go_loopw [5, 6, 7] (fun v cv i wr => ∃ (j br : Nat) (acc : List Nat), j ≤ n ∧ i = .int .i64 j ∧ cv = .int .u64 (br : Int) ∧ br ≤ 1 ∧ Ws acc ∧ Hid (acc.length = j) ∧ Hid (nv acc + nv (ys.take j) = nv (xs.take j) + 4294967296 ^ j * br) ∧ wr.ownsRow w.heap.size 80 1 v j (u32s acc) ∧ Ext w wr) (fun _ _ i _ => n - (intOf i).toNat)
  case atStart => exact ⟨0, 0, [], by omega, rfl, rfl, by omega, Ws.nil, Lib.hid rfl, Lib.hid (by simp [nv]), World.ownsRow_nil _ _ _ _, Ext.refl _⟩
  case round =>
    obtain ⟨j, br, acc, hj, rfl, rfl, hbr, hacc, hal, hsum, hown, hb⟩ := hrel
    by_cases h1 : j < n
    · obtain ⟨ad, hx, rfl, _, hcX⟩ := (h.ext hb).at_ h1
      have hX32 := h.ws.get hx
      have hXe := Lib.hid (getD_of hx)
      generalize xs[j] = X at *
      have hY : (j < m ∧ ∃ bd, ∃ Y : Nat, B = some bd ∧ Y < 4294967296 ∧ Hid (Y = ys.getD j 0) ∧ wr.cell? (bd.add j) = some (.int .u32 (Y : Int))) ∨ (m ≤ j ∧ ∃ Y : Nat, Y ≤ 0 ∧ Hid (Y = ys.getD j 0)) := by
        by_cases hl : j < m
        · obtain ⟨bd, hy, e, _, hc⟩ := (k.ext hb).at_ hl
          exact .inl ⟨hl, bd, ys[j], e, k.ws.get hy, Lib.hid (getD_of hy), hc⟩
        · exact .inr ⟨by omega, 0, by omega, Lib.hid (getD_out (by omega))⟩
      rcases hY with ⟨hjm, bd, Y, rfl, hY32, hYe, hcY⟩ | ⟨hjm, Y, hY0, hYe⟩
      all_goals
        by_cases hlt : X < br + Y
        · go_wp2_with (at_builtin; refine wp_app32 rfl (.tmp 38) (.tmp 43) rfl (X + 4294967296 - (br + Y)) rfl hown hb rfl (by omega) (by omega) ?_; intro v' w1 hown' hE')
          go_roundw
          case rel => exact ⟨j + 1, 1, acc ++ [X + 4294967296 - (br + Y)], by omega, by go_num, rfl, by omega, hacc.append (Ws.cons (by omega) Ws.nil), Lib.hid (by simp [hal.out]), Lib.hid (diff_step hal.out hXe.out hYe.out hsum.out (by omega)), hown', hE'⟩
          case measure => simp [intOf]; omega
        · go_wp2_with (at_builtin; refine wp_app32 rfl (.tmp 38) (.tmp 43) rfl (X - (br + Y)) rfl hown hb rfl (by omega) (by omega) ?_; intro v' w1 hown' hE')
          go_roundw
          case rel => exact ⟨j + 1, 0, acc ++ [X - (br + Y)], by omega, by go_num, rfl, by omega, hacc.append (Ws.cons (by omega) Ws.nil), Lib.hid (by simp [hal.out]), Lib.hid (diff_step hal.out hXe.out hYe.out hsum.out (by omega)), hown', hE'⟩
          case measure => simp [intOf]; omega
    · have HF := Lib.hid (diff_end h.ws hacc (hal.out.trans (by omega)) hlx HLE.out (by rw [show n = j by omega]; exact hsum.out))
      obtain ⟨A', c', rfl, hW⟩ := Wds.of_own hown hacc
      go_wp2_with (go_at_call 65; refine (norm_any _ _ _ _ _ hW (by omega)).mono ?_; rintro e w2 ⟨A2, n2, c2, rfl, hR, hE2⟩)
      go_ret
      exact ⟨A2, n2, c2, rfl, by rw [← HF.out]; exact hR, hb.trans hE2⟩
end Go.Proofs.Ytmcfflecaklpcaa
