/-
  The contract of the document's FMA. Conditions: those that each theorem names.
-/
import Derived.Test.YtjblogfbcglnmaaZ25
import Derived.Test.YtjblogfbcglnmaaZ26
import Derived.Test.YtjblogfbcglnmaaZ07
import Derived.Test.YtjblogfbcglnmaaZ22
import Derived.Test.YtjblogfbcglnmaaZ14
import Derived.StillTailTactics
import Derived.ProofKit
import Derived.WideKeyArr2
import Derived.Lib.SmallJoins
set_option linter.unusedSimpArgs false
set_option linter.unusedVariables false
namespace Go.Proofs.Ytjblogfbcglnmaa.Rn
open Nm
/-- The product's value. -/
theorem mul_val (x y : Nat) {n m : Bool} (hn : n = (sg x && decide (mg x ≠ 0))) (hm : m = (sg y && decide (mg y ≠ 0))) :
    sn ((n != m) && decide (fbN x * fbN y ≠ 0)) (fracN (fbN x * fbN y) (fbD x * fbD y) 0) * ((K74 * K74 : Nat) : Int) = sv x * sv y * (fracD (fbN x * fbN y) (fbD x * fbD y) 0 : Int) := by
  have hp : 0 < fbD x * fbD y := Nat.mul_pos (fbD_pos x) (fbD_pos y)
  have h1 := sn_frac (neg := n != m) (n := fbN x * fbN y) (d := fbD x * fbD y) (e := 0) (p := 0) (q := 0) rfl
  rw [sn_bne] at h1
  have h2 := fb_sv x
  have h3 := fb_sv y
  rw [← hn] at h2
  rw [← hm] at h3
  obtain ⟨F, hF⟩ : ∃ F, F = sn ((n != m) && decide (fbN x * fbN y ≠ 0)) (fracN (fbN x * fbN y) (fbD x * fbD y) 0) := ⟨_, rfl⟩
  obtain ⟨G, hG⟩ : ∃ G, G = fracD (fbN x * fbN y) (fbD x * fbD y) 0 := ⟨_, rfl⟩
  rw [← hF, ← hG] at h1 ⊢
  obtain ⟨a, ha⟩ : ∃ a, a = sn n (fbN x) := ⟨_, rfl⟩
  obtain ⟨b, hb⟩ : ∃ b, b = sn m (fbN y) := ⟨_, rfl⟩
  rw [← ha, ← hb] at h1
  rw [← ha] at h2
  rw [← hb] at h3
  have hpi : (0 : Int) < ((fbD x * fbD y : Nat) : Int) := by omega
  refine Int.eq_of_mul_eq_mul_right (Int.ne_of_gt hpi) ?_
  have e1 : ((fbD x * fbD y * 2 ^ 0 : Nat) : Int) = ((fbD x * fbD y : Nat) : Int) := by simp
  have e2 : ((2 ^ 0 * G : Nat) : Int) = (G : Int) := by simp
  rw [e1, e2] at h1
  have e3 : F * ((K74 * K74 : Nat) : Int) * ((fbD x * fbD y : Nat) : Int) = (a * K74) * (b * K74) * G := by
    rw [Int.mul_right_comm, h1]
    push_cast
    simp only [Int.mul_assoc, Int.mul_comm, Int.mul_left_comm]
  rw [e3, h2, h3]
  push_cast
  simp only [Int.mul_assoc, Int.mul_comm, Int.mul_left_comm]
/-- The sum of two ratios, reduced and rounded. -/
theorem add_gen (d : Int) {a b : Bool} {N1 D1 N2 D2 : Nat} {T1 T2 : Int} (hD1 : 0 < D1) (hD2 : 0 < D2) (h1 : sn a N1 * ((K74 * K74 : Nat) : Int) = T1 * (D1 : Int)) (h2 : sn b N2 * ((K74 * K74 : Nat) : Int) = T2 * (D2 : Int)) :
    rnd d (aNeg a b (N1 * D2) (N2 * D1) && decide (aMag a b (N1 * D2) (N2 * D1) ≠ 0)) (zr (fracN (aMag a b (N1 * D2) (N2 * D1)) (D1 * D2) 0) (fracD (aMag a b (N1 * D2) (N2 * D1)) (D1 * D2) 0)) = rT d (T1 + T2) := by
  have hp : 0 < D1 * D2 := Nat.mul_pos hD1 hD2
  obtain ⟨X, hX⟩ : ∃ X, X = aMag a b (N1 * D2) (N2 * D1) := ⟨_, rfl⟩
  obtain ⟨z, hz⟩ : ∃ z, z = aNeg a b (N1 * D2) (N2 * D1) := ⟨_, rfl⟩
  have hs := sn_sum a b (N1 * D2) (N2 * D1)
  rw [← hX, ← hz] at hs ⊢
  have h0 := sn_frac (neg := z) (n := X) (d := D1 * D2) (e := 0) (p := 0) (q := 0) rfl
  rw [hs, ← sn_mul, ← sn_mul] at h0
  refine rT_rat (fracD_pos _ (by omega)) ?_
  obtain ⟨F, hF⟩ : ∃ F, F = sn (z && decide (X ≠ 0)) (fracN X (D1 * D2) 0) := ⟨_, rfl⟩
  obtain ⟨G, hG⟩ : ∃ G, G = fracD X (D1 * D2) 0 := ⟨_, rfl⟩
  rw [← hF, ← hG] at h0 ⊢
  obtain ⟨u, hu⟩ : ∃ u, u = sn a N1 := ⟨_, rfl⟩
  obtain ⟨v, hv⟩ : ∃ v, v = sn b N2 := ⟨_, rfl⟩
  obtain ⟨K, hK⟩ : ∃ K, K = K74 * K74 := ⟨_, rfl⟩
  rw [← hu, ← hv] at h0
  rw [← hu, ← hK] at h1
  rw [← hv, ← hK] at h2
  rw [← hK]
  have hpi : (0 : Int) < ((D1 * D2 : Nat) : Int) := by omega
  refine Int.eq_of_mul_eq_mul_right (Int.ne_of_gt hpi) ?_
  have e1 : ((D1 * D2 * 2 ^ 0 : Nat) : Int) = ((D1 * D2 : Nat) : Int) := by simp
  have e2 : ((2 ^ 0 * G : Nat) : Int) = (G : Int) := by simp
  rw [e1, e2] at h0
  have e3 : F * (K : Int) * ((D1 * D2 : Nat) : Int) = (u * K) * D2 * G + (v * K) * D1 * G := by
    rw [Int.mul_right_comm, h0, Int.add_mul, Int.add_mul]
    simp only [Int.mul_assoc, Int.mul_comm, Int.mul_left_comm]
  rw [e3, h1, h2, Int.add_mul, Int.add_mul]
  push_cast
  simp only [Int.mul_assoc, Int.mul_comm, Int.mul_left_comm]
theorem one_val (z : Nat) {k : Bool} (hk : k = (sg z && decide (mg z ≠ 0))) : sn k (fbN z) * ((K74 * K74 : Nat) : Int) = sv z * (K74 : Int) * (fbD z : Int) := by
  have h := fb_sv z
  rw [← hk] at h
  push_cast
  rw [← Int.mul_assoc, h]
  simp only [Int.mul_assoc, Int.mul_comm, Int.mul_left_comm]
end Go.Proofs.Ytjblogfbcglnmaa.Rn
namespace Go.Proofs.Ytjblogfbcglnmaa
open Go.RowKit Nm Rn
set_option maxRecDepth 100000
set_option linter.unusedVariables false
set_option linter.unusedSimpArgs false

set_option maxHeartbeats 1000000 in
theorem fma3_n1 (d : Int) (x y z : Nat) (w : World) (hx : x < 18446744073709551616) (hy : y < 18446744073709551616) (hz : z < 18446744073709551616) (h1 : isNaN x = true) :
    Calls Try.prog 37 #[.int .i64 d, .int .u64 (x : Int), .int .u64 (y : Int), .int .u64 (z : Int)] w fun e w' => e = .returned (.int .u64 (NaNc : Nat)) ∧ Ext w w' := by
  have HNX := Lib.hid (fun w => isnan_any x w hx)
  have HNY := Lib.hid (fun w => isnan_any y w hy)
  have HNZ := Lib.hid (fun w => isnan_any z w hz)
  rw [h1] at HNX
  have HV : Hid ((9221120237041090561 : Int) = (NaNc : Nat)) := Lib.hid rfl
  clear hx hy hz h1
  go_enter Try.func37, Try.ntmps37
  go_wp2_with (first | (go_at_call 58; ((with_reducible refine (HNX.out _).mono ?_); rintro e w' ⟨rfl, rfl⟩)) | (go_at_call 58; ((with_reducible refine (HNY.out _).mono ?_); rintro e w' ⟨rfl, rfl⟩)) | (go_at_call 58; ((with_reducible refine (HNZ.out _).mono ?_); rintro e w' ⟨rfl, rfl⟩)))
  go_ret
  exact ⟨ret_int HV.out, Ext.refl _⟩

set_option maxHeartbeats 1000000 in
theorem fma3_n2 (d : Int) (x y z : Nat) (w : World) (hx : x < 18446744073709551616) (hy : y < 18446744073709551616) (hz : z < 18446744073709551616) (h1 : isNaN x = false) (h2 : isNaN y = true) :
    Calls Try.prog 37 #[.int .i64 d, .int .u64 (x : Int), .int .u64 (y : Int), .int .u64 (z : Int)] w fun e w' => e = .returned (.int .u64 (NaNc : Nat)) ∧ Ext w w' := by
  have HNX := Lib.hid (fun w => isnan_any x w hx)
  have HNY := Lib.hid (fun w => isnan_any y w hy)
  have HNZ := Lib.hid (fun w => isnan_any z w hz)
  rw [h1] at HNX
  rw [h2] at HNY
  have HV : Hid ((9221120237041090561 : Int) = (NaNc : Nat)) := Lib.hid rfl
  clear hx hy hz h1 h2
  go_enter Try.func37, Try.ntmps37
  go_wp2_with (first | (go_at_call 58; ((with_reducible refine (HNX.out _).mono ?_); rintro e w' ⟨rfl, rfl⟩)) | (go_at_call 58; ((with_reducible refine (HNY.out _).mono ?_); rintro e w' ⟨rfl, rfl⟩)) | (go_at_call 58; ((with_reducible refine (HNZ.out _).mono ?_); rintro e w' ⟨rfl, rfl⟩)))
  go_ret
  exact ⟨ret_int HV.out, Ext.refl _⟩

set_option maxHeartbeats 1000000 in
theorem fma3_n3 (d : Int) (x y z : Nat) (w : World) (hx : x < 18446744073709551616) (hy : y < 18446744073709551616) (hz : z < 18446744073709551616) (h1 : isNaN x = false) (h2 : isNaN y = false) (h3 : isNaN z = true) :
    Calls Try.prog 37 #[.int .i64 d, .int .u64 (x : Int), .int .u64 (y : Int), .int .u64 (z : Int)] w fun e w' => e = .returned (.int .u64 (NaNc : Nat)) ∧ Ext w w' := by
  have HNX := Lib.hid (fun w => isnan_any x w hx)
  have HNY := Lib.hid (fun w => isnan_any y w hy)
  have HNZ := Lib.hid (fun w => isnan_any z w hz)
  rw [h1] at HNX
  rw [h2] at HNY
  rw [h3] at HNZ
  have HV : Hid ((9221120237041090561 : Int) = (NaNc : Nat)) := Lib.hid rfl
  clear hx hy hz h1 h2 h3
  go_enter Try.func37, Try.ntmps37
  go_wp2_with (first | (go_at_call 58; ((with_reducible refine (HNX.out _).mono ?_); rintro e w' ⟨rfl, rfl⟩)) | (go_at_call 58; ((with_reducible refine (HNY.out _).mono ?_); rintro e w' ⟨rfl, rfl⟩)) | (go_at_call 58; ((with_reducible refine (HNZ.out _).mono ?_); rintro e w' ⟨rfl, rfl⟩)))
  go_ret
  exact ⟨ret_int HV.out, Ext.refl _⟩

set_option maxHeartbeats 2000000 in
theorem fma3_i1_inf (d : Int) (x y z : Nat) (w : World) (hx : x < 18446744073709551616) (hy : y < 18446744073709551616) (hz : z < 18446744073709551616) (h1 : isNaN x = false) (h2 : isNaN y = false) (h3 : isNaN z = false) (h4 : isInf x = true) (hpl : mulR d x y < 18446744073709551616) (hp1 : isInf (mulR d x y) = true) (hp2 : isNaN (mulR d x y) = false) :
    Calls Try.prog 37 #[.int .i64 d, .int .u64 (x : Int), .int .u64 (y : Int), .int .u64 (z : Int)] w fun e w' => e = .returned (.int .u64 (addR d (mulR d x y) z : Nat)) ∧ Ext w w' := by
  have HNX := Lib.hid (fun w => isnan_any x w hx)
  have HNY := Lib.hid (fun w => isnan_any y w hy)
  have HNZ := Lib.hid (fun w => isnan_any z w hz)
  have HIX := Lib.hid (fun w => isinf3_any x w hx)
  have HIY := Lib.hid (fun w => isinf3_any y w hy)
  have HIZ := Lib.hid (fun w => isinf3_any z w hz)
  rw [h1] at HNX
  rw [h2] at HNY
  rw [h3] at HNZ
  rw [h4] at HIX
  have HM := Lib.hid (fun w => mul3_any d x y w hx hy)
  have HA := Lib.hid (fun w => add3_any d (mulR d x y) z w hpl hz)
  obtain ⟨V, hV⟩ : ∃ V, V = addR d (mulR d x y) z := ⟨_, rfl⟩
  rw [← hV] at HA ⊢
  clear hV
  generalize mulR d x y = p at *
  have HIP := Lib.hid (fun w => isinf3_any p w hpl)
  have HNP := Lib.hid (fun w => isnan_any p w hpl)
  rw [hp1] at HIP
  rw [hp2] at HNP
  clear hx hy hz hpl hp1 hp2 h1 h2 h3 h4
  go_enter Try.func37, Try.ntmps37
  go_wp2_with (first | (go_at_call 58; ((with_reducible refine (HNX.out _).mono ?_); rintro e w' ⟨rfl, rfl⟩)) | (go_at_call 58; ((with_reducible refine (HNY.out _).mono ?_); rintro e w' ⟨rfl, rfl⟩)) | (go_at_call 58; ((with_reducible refine (HNZ.out _).mono ?_); rintro e w' ⟨rfl, rfl⟩)) | (go_at_call 59; ((with_reducible refine (HIX.out _).mono ?_); rintro e w' ⟨rfl, rfl⟩)) | (go_at_call 59; ((with_reducible refine (HIY.out _).mono ?_); rintro e w' ⟨rfl, rfl⟩)) | (go_at_call 59; ((with_reducible refine (HIZ.out _).mono ?_); rintro e w' ⟨rfl, rfl⟩)))
  refine (HM.out _).mono ?_
  rintro e w1 ⟨rfl, hE1⟩
  go_wp2_with (first | (go_at_call 59; ((with_reducible refine (HIP.out _).mono ?_); rintro e w' ⟨rfl, rfl⟩)) | (go_at_call 58; ((with_reducible refine (HNP.out _).mono ?_); rintro e w' ⟨rfl, rfl⟩)))
  refine (HA.out _).mono ?_
  rintro e w2 ⟨rfl, hE2⟩
  go_wp2
  go_ret
  exact ⟨rfl, hE1.trans hE2⟩

set_option maxHeartbeats 2000000 in
theorem fma3_i2_inf (d : Int) (x y z : Nat) (w : World) (hx : x < 18446744073709551616) (hy : y < 18446744073709551616) (hz : z < 18446744073709551616) (h1 : isNaN x = false) (h2 : isNaN y = false) (h3 : isNaN z = false) (h4 : isInf x = false) (h5 : isInf y = true) (hpl : mulR d x y < 18446744073709551616) (hp1 : isInf (mulR d x y) = true) (hp2 : isNaN (mulR d x y) = false) :
    Calls Try.prog 37 #[.int .i64 d, .int .u64 (x : Int), .int .u64 (y : Int), .int .u64 (z : Int)] w fun e w' => e = .returned (.int .u64 (addR d (mulR d x y) z : Nat)) ∧ Ext w w' := by
  have HNX := Lib.hid (fun w => isnan_any x w hx)
  have HNY := Lib.hid (fun w => isnan_any y w hy)
  have HNZ := Lib.hid (fun w => isnan_any z w hz)
  have HIX := Lib.hid (fun w => isinf3_any x w hx)
  have HIY := Lib.hid (fun w => isinf3_any y w hy)
  have HIZ := Lib.hid (fun w => isinf3_any z w hz)
  rw [h1] at HNX
  rw [h2] at HNY
  rw [h3] at HNZ
  rw [h4] at HIX
  rw [h5] at HIY
  have HM := Lib.hid (fun w => mul3_any d x y w hx hy)
  have HA := Lib.hid (fun w => add3_any d (mulR d x y) z w hpl hz)
  obtain ⟨V, hV⟩ : ∃ V, V = addR d (mulR d x y) z := ⟨_, rfl⟩
  rw [← hV] at HA ⊢
  clear hV
  generalize mulR d x y = p at *
  have HIP := Lib.hid (fun w => isinf3_any p w hpl)
  have HNP := Lib.hid (fun w => isnan_any p w hpl)
  rw [hp1] at HIP
  rw [hp2] at HNP
  clear hx hy hz hpl hp1 hp2 h1 h2 h3 h4 h5
  go_enter Try.func37, Try.ntmps37
  go_wp2_with (first | (go_at_call 58; ((with_reducible refine (HNX.out _).mono ?_); rintro e w' ⟨rfl, rfl⟩)) | (go_at_call 58; ((with_reducible refine (HNY.out _).mono ?_); rintro e w' ⟨rfl, rfl⟩)) | (go_at_call 58; ((with_reducible refine (HNZ.out _).mono ?_); rintro e w' ⟨rfl, rfl⟩)) | (go_at_call 59; ((with_reducible refine (HIX.out _).mono ?_); rintro e w' ⟨rfl, rfl⟩)) | (go_at_call 59; ((with_reducible refine (HIY.out _).mono ?_); rintro e w' ⟨rfl, rfl⟩)) | (go_at_call 59; ((with_reducible refine (HIZ.out _).mono ?_); rintro e w' ⟨rfl, rfl⟩)))
  refine (HM.out _).mono ?_
  rintro e w1 ⟨rfl, hE1⟩
  go_wp2_with (first | (go_at_call 59; ((with_reducible refine (HIP.out _).mono ?_); rintro e w' ⟨rfl, rfl⟩)) | (go_at_call 58; ((with_reducible refine (HNP.out _).mono ?_); rintro e w' ⟨rfl, rfl⟩)))
  refine (HA.out _).mono ?_
  rintro e w2 ⟨rfl, hE2⟩
  go_wp2
  go_ret
  exact ⟨rfl, hE1.trans hE2⟩

set_option maxHeartbeats 2000000 in
theorem fma3_i1_nan (d : Int) (x y z : Nat) (w : World) (hx : x < 18446744073709551616) (hy : y < 18446744073709551616) (hz : z < 18446744073709551616) (h1 : isNaN x = false) (h2 : isNaN y = false) (h3 : isNaN z = false) (h4 : isInf x = true) (hpl : mulR d x y < 18446744073709551616) (hp1 : isInf (mulR d x y) = false) (hp2 : isNaN (mulR d x y) = true) :
    Calls Try.prog 37 #[.int .i64 d, .int .u64 (x : Int), .int .u64 (y : Int), .int .u64 (z : Int)] w fun e w' => e = .returned (.int .u64 (addR d (mulR d x y) z : Nat)) ∧ Ext w w' := by
  have HNX := Lib.hid (fun w => isnan_any x w hx)
  have HNY := Lib.hid (fun w => isnan_any y w hy)
  have HNZ := Lib.hid (fun w => isnan_any z w hz)
  have HIX := Lib.hid (fun w => isinf3_any x w hx)
  have HIY := Lib.hid (fun w => isinf3_any y w hy)
  have HIZ := Lib.hid (fun w => isinf3_any z w hz)
  rw [h1] at HNX
  rw [h2] at HNY
  rw [h3] at HNZ
  rw [h4] at HIX
  have HM := Lib.hid (fun w => mul3_any d x y w hx hy)
  have HA := Lib.hid (fun w => add3_any d (mulR d x y) z w hpl hz)
  obtain ⟨V, hV⟩ : ∃ V, V = addR d (mulR d x y) z := ⟨_, rfl⟩
  rw [← hV] at HA ⊢
  clear hV
  generalize mulR d x y = p at *
  have HIP := Lib.hid (fun w => isinf3_any p w hpl)
  have HNP := Lib.hid (fun w => isnan_any p w hpl)
  rw [hp1] at HIP
  rw [hp2] at HNP
  clear hx hy hz hpl hp1 hp2 h1 h2 h3 h4
  go_enter Try.func37, Try.ntmps37
  go_wp2_with (first | (go_at_call 58; ((with_reducible refine (HNX.out _).mono ?_); rintro e w' ⟨rfl, rfl⟩)) | (go_at_call 58; ((with_reducible refine (HNY.out _).mono ?_); rintro e w' ⟨rfl, rfl⟩)) | (go_at_call 58; ((with_reducible refine (HNZ.out _).mono ?_); rintro e w' ⟨rfl, rfl⟩)) | (go_at_call 59; ((with_reducible refine (HIX.out _).mono ?_); rintro e w' ⟨rfl, rfl⟩)) | (go_at_call 59; ((with_reducible refine (HIY.out _).mono ?_); rintro e w' ⟨rfl, rfl⟩)) | (go_at_call 59; ((with_reducible refine (HIZ.out _).mono ?_); rintro e w' ⟨rfl, rfl⟩)))
  refine (HM.out _).mono ?_
  rintro e w1 ⟨rfl, hE1⟩
  go_wp2_with (first | (go_at_call 59; ((with_reducible refine (HIP.out _).mono ?_); rintro e w' ⟨rfl, rfl⟩)) | (go_at_call 58; ((with_reducible refine (HNP.out _).mono ?_); rintro e w' ⟨rfl, rfl⟩)))
  refine (HA.out _).mono ?_
  rintro e w2 ⟨rfl, hE2⟩
  go_wp2
  go_ret
  exact ⟨rfl, hE1.trans hE2⟩

set_option maxHeartbeats 2000000 in
theorem fma3_i2_nan (d : Int) (x y z : Nat) (w : World) (hx : x < 18446744073709551616) (hy : y < 18446744073709551616) (hz : z < 18446744073709551616) (h1 : isNaN x = false) (h2 : isNaN y = false) (h3 : isNaN z = false) (h4 : isInf x = false) (h5 : isInf y = true) (hpl : mulR d x y < 18446744073709551616) (hp1 : isInf (mulR d x y) = false) (hp2 : isNaN (mulR d x y) = true) :
    Calls Try.prog 37 #[.int .i64 d, .int .u64 (x : Int), .int .u64 (y : Int), .int .u64 (z : Int)] w fun e w' => e = .returned (.int .u64 (addR d (mulR d x y) z : Nat)) ∧ Ext w w' := by
  have HNX := Lib.hid (fun w => isnan_any x w hx)
  have HNY := Lib.hid (fun w => isnan_any y w hy)
  have HNZ := Lib.hid (fun w => isnan_any z w hz)
  have HIX := Lib.hid (fun w => isinf3_any x w hx)
  have HIY := Lib.hid (fun w => isinf3_any y w hy)
  have HIZ := Lib.hid (fun w => isinf3_any z w hz)
  rw [h1] at HNX
  rw [h2] at HNY
  rw [h3] at HNZ
  rw [h4] at HIX
  rw [h5] at HIY
  have HM := Lib.hid (fun w => mul3_any d x y w hx hy)
  have HA := Lib.hid (fun w => add3_any d (mulR d x y) z w hpl hz)
  obtain ⟨V, hV⟩ : ∃ V, V = addR d (mulR d x y) z := ⟨_, rfl⟩
  rw [← hV] at HA ⊢
  clear hV
  generalize mulR d x y = p at *
  have HIP := Lib.hid (fun w => isinf3_any p w hpl)
  have HNP := Lib.hid (fun w => isnan_any p w hpl)
  rw [hp1] at HIP
  rw [hp2] at HNP
  clear hx hy hz hpl hp1 hp2 h1 h2 h3 h4 h5
  go_enter Try.func37, Try.ntmps37
  go_wp2_with (first | (go_at_call 58; ((with_reducible refine (HNX.out _).mono ?_); rintro e w' ⟨rfl, rfl⟩)) | (go_at_call 58; ((with_reducible refine (HNY.out _).mono ?_); rintro e w' ⟨rfl, rfl⟩)) | (go_at_call 58; ((with_reducible refine (HNZ.out _).mono ?_); rintro e w' ⟨rfl, rfl⟩)) | (go_at_call 59; ((with_reducible refine (HIX.out _).mono ?_); rintro e w' ⟨rfl, rfl⟩)) | (go_at_call 59; ((with_reducible refine (HIY.out _).mono ?_); rintro e w' ⟨rfl, rfl⟩)) | (go_at_call 59; ((with_reducible refine (HIZ.out _).mono ?_); rintro e w' ⟨rfl, rfl⟩)))
  refine (HM.out _).mono ?_
  rintro e w1 ⟨rfl, hE1⟩
  go_wp2_with (first | (go_at_call 59; ((with_reducible refine (HIP.out _).mono ?_); rintro e w' ⟨rfl, rfl⟩)) | (go_at_call 58; ((with_reducible refine (HNP.out _).mono ?_); rintro e w' ⟨rfl, rfl⟩)))
  refine (HA.out _).mono ?_
  rintro e w2 ⟨rfl, hE2⟩
  go_wp2
  go_ret
  exact ⟨rfl, hE1.trans hE2⟩

set_option maxHeartbeats 2000000 in
theorem fma3_i3 (d : Int) (x y z : Nat) (w : World) (hx : x < 18446744073709551616) (hy : y < 18446744073709551616) (hz : z < 18446744073709551616) (h1 : isNaN x = false) (h2 : isNaN y = false) (h3 : isNaN z = false) (h4 : isInf x = false) (h5 : isInf y = false) (h6 : isInf z = true) :
    Calls Try.prog 37 #[.int .i64 d, .int .u64 (x : Int), .int .u64 (y : Int), .int .u64 (z : Int)] w fun e w' => e = .returned (.int .u64 (z : Nat)) ∧ Ext w w' := by
  have HNX := Lib.hid (fun w => isnan_any x w hx)
  have HNY := Lib.hid (fun w => isnan_any y w hy)
  have HNZ := Lib.hid (fun w => isnan_any z w hz)
  have HIX := Lib.hid (fun w => isinf3_any x w hx)
  have HIY := Lib.hid (fun w => isinf3_any y w hy)
  have HIZ := Lib.hid (fun w => isinf3_any z w hz)
  rw [h1] at HNX
  rw [h2] at HNY
  rw [h3] at HNZ
  rw [h4] at HIX
  rw [h5] at HIY
  rw [h6] at HIZ
  have HI0 : Hid (∀ w, Calls Try.prog 59 #[.int .u64 0] w fun e w' => e = .returned (.bool false) ∧ w = w') := Lib.hid (fun w => isinf3_any 0 w (by omega))
  have HN0 : Hid (∀ w, Calls Try.prog 58 #[.int .u64 0] w fun e w' => e = .returned (.bool false) ∧ w = w') := Lib.hid (fun w => isnan_any 0 w (by omega))
  clear hx hy hz h1 h2 h3 h4 h5 h6
  go_enter Try.func37, Try.ntmps37
  go_wp2_with (first | (go_at_call 58; ((with_reducible refine (HNX.out _).mono ?_); rintro e w' ⟨rfl, rfl⟩)) | (go_at_call 58; ((with_reducible refine (HNY.out _).mono ?_); rintro e w' ⟨rfl, rfl⟩)) | (go_at_call 58; ((with_reducible refine (HNZ.out _).mono ?_); rintro e w' ⟨rfl, rfl⟩)) | (go_at_call 59; ((with_reducible refine (HIX.out _).mono ?_); rintro e w' ⟨rfl, rfl⟩)) | (go_at_call 59; ((with_reducible refine (HIY.out _).mono ?_); rintro e w' ⟨rfl, rfl⟩)) | (go_at_call 59; ((with_reducible refine (HIZ.out _).mono ?_); rintro e w' ⟨rfl, rfl⟩)) | (go_at_call 59; ((with_reducible refine (HI0.out _).mono ?_); rintro e w' ⟨rfl, rfl⟩)) | (go_at_call 58; ((with_reducible refine (HN0.out _).mono ?_); rintro e w' ⟨rfl, rfl⟩)))
  go_ret
  exact ⟨rfl, Ext.refl _⟩

set_option maxHeartbeats 2000000 in
theorem fma3_fin (d : Int) (x y z : Nat) (w : World) (hx : x < 18446744073709551616) (hy : y < 18446744073709551616) (hz : z < 18446744073709551616) (h1 : isNaN x = false) (h2 : isNaN y = false) (h3 : isNaN z = false) (h4 : isInf x = false) (h5 : isInf y = false) (h6 : isInf z = false) :
    Calls Try.prog 37 #[.int .i64 d, .int .u64 (x : Int), .int .u64 (y : Int), .int .u64 (z : Int)] w fun e w' => e = .returned (.int .u64 (rT d (sv x * sv y + sv z * (K74 : Int)) : Nat)) ∧ Ext w w' := by
  have HNX := Lib.hid (fun w => isnan_any x w hx)
  have HNY := Lib.hid (fun w => isnan_any y w hy)
  have HNZ := Lib.hid (fun w => isnan_any z w hz)
  have HIX := Lib.hid (fun w => isinf3_any x w hx)
  have HIY := Lib.hid (fun w => isinf3_any y w hy)
  have HIZ := Lib.hid (fun w => isinf3_any z w hz)
  rw [h1] at HNX
  rw [h2] at HNY
  rw [h3] at HNZ
  rw [h4] at HIX
  rw [h5] at HIY
  rw [h6] at HIZ
  obtain ⟨n, hn⟩ : ∃ n, n = (sg x && decide (mg x ≠ 0)) := ⟨_, rfl⟩
  obtain ⟨m, hm⟩ : ∃ m, m = (sg y && decide (mg y ≠ 0)) := ⟨_, rfl⟩
  obtain ⟨k, hk⟩ : ∃ k, k = (sg z && decide (mg z ≠ 0)) := ⟨_, rfl⟩
  have v1 := mul_val x y hn hm
  have v2 := one_val z hk
  have hF1 := fun w => frombits_any x w hx
  have hF2 := fun w => frombits_any y w hy
  have hF3 := fun w => frombits_any z w hz
  rw [← hn] at hF1
  rw [← hm] at hF2
  rw [← hk] at hF3
  have b1 := fbN_bits x
  have b2 := fbD_bits x
  have b3 := fbN_bits y
  have b4 := fbD_bits y
  have b5 := fbN_bits z
  have b6 := fbD_bits z
  have p1 := fbD_pos x
  have p2 := fbD_pos y
  have p3 := fbD_pos z
  have hQ := Nat.mul_pos p1 p2
  have c1 := nw_mul2 (fbN x) (fbN y)
  have c2 := nw_mul2 (fbD x) (fbD y)
  have c3 := nw_le_of (fracN_le0 (fbN x * fbN y) (fbD x * fbD y)) (Nat.le_refl _)
  have c4 := nw_le_of (fracD_le0 (n := fbN x * fbN y) (d := fbD x * fbD y) (by omega)) (Nat.le_refl _)
  have HM := Lib.hid (fun A l c B k e A' l' c' B' k' e' w h h' => rmulq_any n m A l c B k e (fbN x) (fbD x) A' l' c' B' k' e' (fbN y) (fbD y) w h h' (by omega) (by omega) (by omega) (by omega) hQ)
  have p4 : 0 < fracD (fbN x * fbN y) (fbD x * fbD y) 0 := fracD_pos _ (by omega)
  obtain ⟨N1, hN1⟩ : ∃ N1, N1 = fracN (fbN x * fbN y) (fbD x * fbD y) 0 := ⟨_, rfl⟩
  obtain ⟨D1, hD1⟩ : ∃ D1, D1 = fracD (fbN x * fbN y) (fbD x * fbD y) 0 := ⟨_, rfl⟩
  rw [← hN1] at c3 v1 HM
  rw [← hD1] at c4 v1 HM p4
  generalize ((n != m) && decide (fbN x * fbN y ≠ 0)) = yy at HM v1
  have hf := add_gen d p4 p3 v1 v2
  have hQ2 := Nat.mul_pos p4 p3
  have c5 := nw_mul2 N1 (fbD z)
  have c6 := nw_mul2 (fbN z) D1
  have c7 := nw_mul2 D1 (fbD z)
  have c8 := aMag_nw (n := yy) (m := k) (P := N1 * fbD z) (Q := fbN z * D1) (k := 200) (by omega) (by omega)
  have HA := Lib.hid (fun A l c B e2 e A' l' c' B' k' e' w h h' => radd_any yy k A l c B e2 e N1 D1 A' l' c' B' k' e' (fbN z) (fbD z) w h h' (by omega) (by omega) (by omega) (by omega) hQ2)
  obtain ⟨X, hX⟩ : ∃ X, X = aMag yy k (N1 * fbD z) (fbN z * D1) := ⟨_, rfl⟩
  obtain ⟨D, hD⟩ : ∃ D, D = D1 * fbD z := ⟨_, rfl⟩
  rw [← hX] at c8 HA hf
  rw [← hD] at hQ2 c7 HA hf
  have c9 := nw_le_of (fracN_le0 X D) (Nat.le_refl _)
  have c0 := nw_le_of (fracD_le0 (n := X) (d := D) (by omega)) (Nat.le_refl _)
  have HB := Lib.hid (fun A l c B e2 e w h => bits3_any d (aNeg yy k (N1 * fbD z) (fbN z * D1) && decide (X ≠ 0)) A l c B e2 e (fracN X D 0) (fracD X D 0) w h (by omega) (by omega) (Nat.ne_of_gt (fracD_pos _ (by omega))))
  rw [hf] at HB
  generalize (aNeg yy k (N1 * fbD z) (fbN z * D1) && decide (X ≠ 0)) = zz at HA HB
  obtain ⟨V, hV⟩ : ∃ V, V = rT d (sv x * sv y + sv z * (K74 : Int)) := ⟨_, rfl⟩
  rw [← hV] at HB ⊢
  have HF1 := Lib.hid hF1
  have HF2 := Lib.hid hF2
  have HF3 := Lib.hid hF3
  clear hf hF1 hF2 hF3 hV hx hy hz b1 b2 b3 b4 b5 b6 p1 p2 p3 p4 hQ hQ2 c1 c2 c3 c4 c5 c6 c7 c8 c9 c0 hn hm hk hX hD hN1 hD1 v1 v2 h1 h2 h3 h4 h5 h6
  go_enter Try.func37, Try.ntmps37
  go_wp2_with (first | (go_at_call 58; ((with_reducible refine (HNX.out _).mono ?_); rintro e w' ⟨rfl, rfl⟩)) | (go_at_call 58; ((with_reducible refine (HNY.out _).mono ?_); rintro e w' ⟨rfl, rfl⟩)) | (go_at_call 58; ((with_reducible refine (HNZ.out _).mono ?_); rintro e w' ⟨rfl, rfl⟩)) | (go_at_call 59; ((with_reducible refine (HIX.out _).mono ?_); rintro e w' ⟨rfl, rfl⟩)) | (go_at_call 59; ((with_reducible refine (HIY.out _).mono ?_); rintro e w' ⟨rfl, rfl⟩)) | (go_at_call 59; ((with_reducible refine (HIZ.out _).mono ?_); rintro e w' ⟨rfl, rfl⟩)))
  refine (HF1.out _).mono ?_
  rintro e w2 ⟨A1, n1, c1, B1, k1, d1, rfl, hA1, hB1, hE1⟩
  go_wp2_with fail
  refine (HF2.out _).mono ?_
  rintro e w3 ⟨A2, n2, c2, B2, k2, d2, rfl, hA2, hB2, hE2⟩
  go_wp2_with fail
  refine (HM.out _ _ _ _ _ _ _ _ _ _ _ _ _ ⟨hA1.ext hE2, hB1.ext hE2⟩ ⟨hA2, hB2⟩).mono ?_
  rintro e w4 ⟨A3, n3, c3, B3, k3, d3, rfl, hA3, hB3, hE3⟩
  go_wp2_with fail
  refine (HF3.out _).mono ?_
  rintro e w5 ⟨A4, n4, c4, B4, k4, d4, rfl, hA4, hB4, hE4⟩
  go_wp2_with fail
  refine (HA.out _ _ _ _ _ _ _ _ _ _ _ _ _ ⟨hA3.ext hE4, hB3.ext hE4⟩ ⟨hA4, hB4⟩).mono ?_
  rintro e w6 ⟨A5, n5, c5, B5, k5, d5, rfl, hA5, hB5, hE5⟩
  go_wp2_with fail
  refine (HB.out _ _ _ _ _ _ _ ⟨hA5, hB5⟩).mono ?_
  rintro e w7 ⟨rfl, hE6⟩
  go_wp2
  go_ret
  exact ⟨rfl, ((((hE1.trans hE2).trans hE3).trans hE4).trans hE5).trans hE6⟩

theorem fma3_any (d : Int) (x y z : Nat) (w : World) (hx : x < 18446744073709551616) (hy : y < 18446744073709551616) (hz : z < 18446744073709551616) :
    Calls Try.prog 37 #[.int .i64 d, .int .u64 (x : Int), .int .u64 (y : Int), .int .u64 (z : Int)] w fun e w' => e = .returned (.int .u64 (fmaR d x y z : Nat)) ∧ Ext w w' := by
  have hodd : ∀ b, oddP b = (isNaN b || isInf b) := fun b => rfl
  cases h1 : isNaN x
  case true =>
    have e : fmaR d x y z = NaNc := by
      unfold fmaR mulR
      rw [hodd x, h1, Bool.true_or, Bool.true_or, if_pos rfl, Bool.true_or, if_pos rfl]
      exact addR_nan d NaNc_nan
    rw [e]
    exact fma3_n1 d x y z w hx hy hz h1
  case false =>
    cases h2 : isNaN y
    case true =>
      have e : fmaR d x y z = NaNc := by
        unfold fmaR mulR
        rw [hodd y, h1, h2, Bool.true_or, Bool.or_true, if_pos rfl, Bool.or_true, if_pos rfl]
        exact addR_nan d NaNc_nan
      rw [e]
      exact fma3_n2 d x y z w hx hy hz h1 h2
    case false =>
      cases h3 : isNaN z
      case true =>
        have e : fmaR d x y z = NaNc := by
          unfold fmaR
          split
          · unfold addR
            rw [h3, Bool.or_true, if_pos rfl]
          · rw [hodd z, h3, Bool.true_or, if_pos rfl]
            unfold cn; rw [h3]; rfl
        rw [e]
        exact fma3_n3 d x y z w hx hy hz h1 h2 h3
      case false =>
        cases h4 : isInf x
        case true =>
          have e : fmaR d x y z = addR d (mulR d x y) z := by unfold fmaR; rw [hodd x, h4, Bool.or_true, Bool.true_or, if_pos rfl]
          rw [e]
          rcases mul_odd hx hy (by rw [h1, h4]; rfl) with ⟨-, hr⟩ | ⟨s, -, hr⟩
          · exact fma3_i1_nan d x y z w hx hy hz h1 h2 h3 h4 (by rw [hr, NaNc_val]; omega) (by rw [hr]; rfl) (by rw [hr]; rfl)
          · exact fma3_i1_inf d x y z w hx hy hz h1 h2 h3 h4 (by rw [hr]; cases s <;> decide) (by rw [hr]; cases s <;> rfl) (by rw [hr]; cases s <;> rfl)
        case false =>
          cases h5 : isInf y
          case true =>
            have e : fmaR d x y z = addR d (mulR d x y) z := by unfold fmaR; rw [hodd y, h5, Bool.or_true, Bool.or_true, if_pos rfl]
            rw [e]
            rcases mul_odd hx hy (by rw [h5, Bool.or_true, Bool.or_true]) with ⟨-, hr⟩ | ⟨s, -, hr⟩
            · exact fma3_i2_nan d x y z w hx hy hz h1 h2 h3 h4 h5 (by rw [hr, NaNc_val]; omega) (by rw [hr]; rfl) (by rw [hr]; rfl)
            · exact fma3_i2_inf d x y z w hx hy hz h1 h2 h3 h4 h5 (by rw [hr]; cases s <;> decide) (by rw [hr]; cases s <;> rfl) (by rw [hr]; cases s <;> rfl)
          case false =>
            have hxy : (oddP x || oddP y) = false := by rw [hodd, hodd, h1, h2, h4, h5]; rfl
            cases h6 : isInf z
            case true =>
              have e : fmaR d x y z = z := by
                unfold fmaR
                rw [hxy, if_neg (by simp), hodd z, h6, Bool.or_true, if_pos rfl]
                unfold cn; rw [h3]; rfl
              rw [e]
              exact fma3_i3 d x y z w hx hy hz h1 h2 h3 h4 h5 h6
            case false =>
              have e : fmaR d x y z = rT d (sv x * sv y + sv z * (K74 : Int)) := by
                unfold fmaR
                rw [hxy, if_neg (by simp), hodd z, h3, h6, Bool.or_false, if_neg (by simp)]
              rw [e]
              exact fma3_fin d x y z w hx hy hz h1 h2 h3 h4 h5 h6
end Go.Proofs.Ytjblogfbcglnmaa

/-
  The walk through RoundFused. Conditions: those that each theorem names.
-/
namespace Go.Proofs.Ytjblogfbcglnmaa
open Go.RowKit Nm Rn
set_option maxRecDepth 100000
set_option linter.unusedVariables false
set_option linter.unusedSimpArgs false

set_option maxHeartbeats 4000000 in
theorem fused_walk (d : Int) (x y z : Nat) (w : World) (hx : x < 18446744073709551616) (hy : y < 18446744073709551616) (hz : z < 18446744073709551616) :
    Calls Try.prog 9 #[.int .i64 d, .agg #[.int .u64 (x : Int), .int .u64 (y : Int), .int .u64 (z : Int)]] w fun e w' => e = .returned (.bool true) ∧ Ext w w' := by
  have HA := Lib.hid (fun w => rfma_any d x y z w hx hy hz)
  have HB := Lib.hid (fun w => fma3_any d x y z w hx hy hz)
  have HL := Lib.hid (fun r w h => lbits_any r w h)
  obtain ⟨V, hV⟩ : ∃ V, V = fmaR d x y z := ⟨_, rfl⟩
  rw [← hV] at HA HB
  clear hV hx hy hz
  have hO := Own.start w
  go_enter Try.func9, Try.ntmps9
  go_upto_region 1 with ((with_reducible refine at_box ?_); refine own_box (cs := [.int .u64 (x : Int), .int .u64 (y : Int), .int .u64 (z : Int)]) hO rfl rfl ?_; clear hO; intro g w1 hO)
  obtain ⟨S, hS⟩ : ∃ S : World → Prop, S = Own w [⟨g, 49, [.int .u64 (x : Int), .int .u64 (y : Int), .int .u64 (z : Int)]⟩] [] := ⟨_, rfl⟩
  have hSE : ∀ w w', S w → Ext w w' → S w' := fun w w' h1 h2 => by rw [hS] at h1 ⊢; exact h1.ext h2
  have hS1 : S w1.drew := by rw [hS]; exact hO.ext (Ext.refl w1).drew
  have HS := Lib.hid hS
  clear hS hO
  obtain ⟨sp, hsp⟩ : ∃ sp : Nat → Sp, sp = ofList [det (.int .i64 d), det (.pointer (some ⟨g, 0, none⟩)), det (.int .u64 (x : Int)), det (.float .f64 x), det (.pointer (some ⟨g, 1, none⟩)), det (.int .u64 (y : Int)), det (.float .f64 y), det (.pointer (some ⟨g, 2, none⟩)), det (.int .u64 (z : Int)), det (.float .f64 z),
    anyOf (fun v wz => ∃ r, v = .float .f64 r ∧ r < 18446744073709551616 ∧ cn r = V), det (.int .u64 (V : Int)), det (.int .i64 d), det (.pointer (some ⟨g, 0, none⟩)), det (.int .u64 (x : Int)), det (.pointer (some ⟨g, 1, none⟩)), det (.int .u64 (y : Int)), det (.pointer (some ⟨g, 2, none⟩)), det (.int .u64 (z : Int))] := ⟨_, rfl⟩
  have HSP := Lib.hid hsp
  clear hsp
  refine wp_region_loose 19 S sp (by kernel_rfl) (by kernel_rfl) hS1 hSE ?_
  simp only [List.take_succ_cons, List.take_zero, List.drop_succ_cons, List.drop_zero]
  iterate 19
    refine wpX_step (fun K hK => ?_)
    go_simp
    first
    | (refine ⟨by rw [HSP.out]; rfl, hK _ _ ?_⟩
       clear hK K)
    | (refine StepY.any (by rw [HSP.out]; rfl) ?_ ?_
       · intro wz hz hF
         clear hF hz
         go_simp
         go_at_call 36
         refine (HA.out _).mono ?_
         rintro e w2 ⟨r, rfl, hr, hc, hE1⟩
         exact ⟨_, rfl, ⟨r, rfl, hr, hc⟩, hE1⟩
       intro v
       refine hK _ _ ?_
       clear hK K)
    | (refine StepY.det (by rw [HSP.out]; rfl) ?_ ?_
       · intro wz hz hF
         first
         | (rw [HS.out] at hz
            have hf := hz.cells
            simp only [BC, CC, Nat.zero_add, Nat.reduceAdd, and_true] at hf
            clear hz hF
            go_simp
            first
            | exact ⟨rfl, Ext.refl _⟩
            | (go_at_call 18
               refine (fl_any _ _).mono ?_
               rintro e w5 ⟨rfl, rfl⟩
               exact ⟨_, rfl, rfl, Ext.refl _⟩))
         | (obtain ⟨wa', ea, r, hv1, hr, hc⟩ := hF.any 10 (by kernel_rfl) (by rw [HSP.out]; rfl)
            clear hF
            simp only [asFun, List.nil_append, List.cons_append, List.getD_cons_succ, List.getD_cons_zero] at hv1
            subst hv1
            go_simp
            go_at_call 24
            refine (HL.out r _ hr).mono ?_
            rintro e w5 ⟨rfl, rfl⟩
            exact ⟨_, rfl, by rw [hc]; rfl, Ext.refl _⟩)
       refine hK _ _ ?_
       clear hK K)
  refine wpX_nil ?_
  intro w3 hz hF
  clear hF
  rw [HS.out] at hz
  have hE := hz.toExt
  clear hz
  go_wp2_with fail
  refine (HB.out _).mono ?_
  rintro e w4 ⟨rfl, hE4⟩
  go_wp2
  go_ret
  exact ⟨by simp, hE.trans hE4⟩
end Go.Proofs.Ytjblogfbcglnmaa

/-
  Plain, over whatever program: an array of three numbers by value, opened and shut. Conditions: those that each theorem names.
-/
namespace Go.Proofs.Ytjblogfbcglnmaa
open Go Go.ChangeShapes Go.WideShapes Go.ChangeAt Go.RowKit Go.Joins
set_option linter.unusedVariables false
set_option linter.unusedSimpArgs false
section
variable {H : Type} {enc : TypeId × Value → H} {P : Program} {k e : TypeId} {q : IntKind} {w : World} {base : Nat} {sp : Nat → Bool} {held : Bool}
theorem open_arr3 {r : Reach} {b0 : Nat} {v : Value} {d : DataW H} {p : List MemPlace} (hu : P.underlying k = some (.array 3 e)) (he : P.underlying e = some (.int q)) (h1 : P.cellsOf e = 1) (h3 : P.cellsOf k = 3)
    (hv : Value.okWide P w r b0 k v) (h : DataW.Trod enc P w base sp held k v d p) :
    ∃ a b c : Int, v = .agg #[.int q a, .int q b, .int q c] ∧ d = .agg [.lit (.int q a), .lit (.int q b), .lit (.int q c)] ∧ p = [] ∧ (Lit.int q a).wf = true ∧ (Lit.int q b).wf = true ∧ (Lit.int q c).wf = true := by
  simp only [Value.okWide, hu] at hv
  obtain ⟨cs, rfl, hsz, -⟩ := hv
  obtain ⟨c0, c1, c2, rfl⟩ := array3 (hsz.trans h3)
  obtain ⟨fuel, hf⟩ := h
  cases fuel with
  | zero => simp [DataW.trod] at hf
  | succ m =>
    rw [DataW.trod_step] at hf
    unfold DataW.trodStep at hf
    simp only [hu, Value.cells] at hf
    rw [if_pos (by rw [h3]; rfl)] at hf
    simp only [Option.map_eq_some_iff] at hf
    obtain ⟨ys, hy, e1⟩ := hf
    rw [show List.range 3 = [0, 1, 2] from rfl] at hy
    simp only [List.mapM_cons, List.mapM_nil, bind, Option.bind_eq_some_iff, pure, Option.some.injEq, h1] at hy
    obtain ⟨y0, k0, ys1, ⟨y1, k1, ys2, ⟨y2, k2, ys3, rfl, rfl⟩, rfl⟩, rfl⟩ := hy
    obtain ⟨a, ea, rfl, wa⟩ := DataW.trod_int he k0
    obtain ⟨b, eb, rfl, wb⟩ := DataW.trod_int he k1
    obtain ⟨c, ec, rfl, wc⟩ := DataW.trod_int he k2
    simp at ea eb ec
    subst ea eb ec
    simp at e1
    exact ⟨a, b, c, rfl, e1.1.symm, e1.2, wa, wb, wc⟩
theorem shut_arr3 {a b c : Int} (hu : P.underlying k = some (.array 3 e)) (he : P.underlying e = some (.int q)) (h1 : P.cellsOf e = 1) (h3 : P.cellsOf k = 3) (wa : (Lit.int q a).wf = true) (wb : (Lit.int q b).wf = true) (wc : (Lit.int q c).wf = true) :
    DataW.Trod enc P w base sp held k (.agg #[.int q a, .int q b, .int q c]) (.agg [.lit (.int q a), .lit (.int q b), .lit (.int q c)]) [] := by
  refine ⟨2, ?_⟩
  rw [DataW.trod_step]
  unfold DataW.trodStep
  simp only [hu, Value.cells]
  rw [if_pos (by rw [h3]; rfl), show List.range 3 = [0, 1, 2] from rfl]
  have t0 := trod_int_mk (enc := enc) (w := w) (base := base) (spare := sp) (held := held) 0 he wa
  have t1 := trod_int_mk (enc := enc) (w := w) (base := base) (spare := sp) (held := held) 0 he wb
  have t2 := trod_int_mk (enc := enc) (w := w) (base := base) (spare := sp) (held := held) 0 he wc
  simp only [List.mapM_cons, List.mapM_nil, h1]
  simp [t0, t1, t2]
end
end Go.Proofs.Ytjblogfbcglnmaa
