/-
 The contracts of the program's power with an exponent below 0, and of its Pow. Conditions: those that each theorem names.
-/
import Derived.Test.YtbcaggdgoidlaaaGreatDoorH22
import Derived.Test.YtbcaggdgoidlaaaGreatDoorH20
import Derived.Test.YtbcaggdgoidlaaaGreatDoorH06
namespace Go.Proofs.YtbcaggdgoidlaaaGreatDoor
open Go.RowKit Nm Rn
set_option maxRecDepth 100000
set_option linter.unusedVariables false
set_option linter.unusedSimpArgs false
set_option maxHeartbeats 2000000 in
theorem rpower_n (d : Int) (s : Bool) (A : Option Addr) (l c : Nat) (sig : Nat) (E : Int) (m : Nat) (w : World) (h : Wds w A l c (nd sig)) (hT : Tab w) (hsg : sig < 9007199254740992) (hE1 : -1074 ≤ E) (hE2 : E ≤ 972) (hm1 : 1 ≤ m) (hm2 : m ≤ 1024) :
   Calls Tryz.prog 68 #[.int .i64 d, .agg #[.bool s, .slice A l c, .int .i64 E], .int .i64 (-(m : Int))] w (RetFl (ratR d (pwS s m) 1 ((sig / 2 ^ tz sig) ^ m) (-((E + tz sig) * m))) w) := by
 have hbl : bl sig ≤ 53 := by rw [bl_le_iff]; have : (2 : Nat) ^ 53 = 9007199254740992 := by decide
                              omega
 have hnw : nw sig ≤ 2 := by have := nw_bl sig; omega
 have hl : l = nw sig := by have := h.len; rw [nd_length] at this; omega
 have htz : tz sig ≤ 53 := by
   by_cases h0 : sig = 0
   · rw [h0]; decide
   · have := tz_lt h0; omega
 have HZE : Hid (∀ w, Wds w A l c (nd sig) → Tab w → Calls Tryz.prog 82 #[.slice A l c] w fun e w' => e = .returned (.int .i64 (tz sig : Nat)) ∧ w = w') := Lib.hid (fun w h hT => by
   have := nzeros_any A l c (nd sig) w h (by omega) hT
   rwa [nv_nd] at this)
 have HSH : Hid (∀ w, Wds w A l c (nd sig) → Calls Tryz.prog 83 #[.slice A l c, .int .i64 (tz sig : Int)] w (RetWBE (sig / 2 ^ tz sig) (lostB sig (tz sig)) 0 w)) := Lib.hid (fun w h => by
   have := nshr_any A l c (nd sig) (tz sig) w h (by omega) (by omega) (by rw [nv_nd]; omega)
   rwa [nv_nd] at this)
 obtain ⟨z, hz⟩ : ∃ z, z = tz sig := ⟨_, rfl⟩
 obtain ⟨O, hO0⟩ : ∃ O, O = sig / 2 ^ tz sig := ⟨_, rfl⟩
 have hOb : bl O ≤ 53 := by
   rw [hO0]
   exact Nat.le_trans (bl_mono (Nat.div_le_self _ _)) hbl
 rw [← hO0] at HSH ⊢
 rw [← hz] at HZE HSH htz ⊢
 have HPW : Hid (∀ (A2 : Option Addr) (l2 c2 : Nat) w, Wds w A2 l2 c2 (nd O) → Calls Tryz.prog 84 #[.slice A2 l2 c2, .int .i64 (m : Int)] w (RetWE (O ^ m) 0 w)) := Lib.hid (fun A2 l2 c2 w h2 => by
   have h3 := h2.len
   rw [nd_length] at h3
   have h4 : nw O ≤ 2 := by have := nw_bl O; omega
   have h5 : bl O * m ≤ 53 * 1024 := Nat.mul_le_mul hOb hm2
   have := npow_any A2 l2 c2 (nd O) m w h2 (by omega) (by omega) (by rw [nv_nd]; omega) (by rw [nv_nd]; omega)
   rwa [nv_nd] at this)
 have hbp : nw (O ^ m) ≤ 4000 := by
   have h1 := lt_pow_bl O
   have h2 : O ^ m ≤ (2 ^ 53) ^ m := Nat.pow_le_pow_left (Nat.le_trans (Nat.le_of_lt h1) (Nat.pow_le_pow_right (by omega) hOb)) m
   rw [← Nat.pow_mul] at h2
   have h3 : 53 * m ≤ 54272 := by omega
   obtain ⟨T, hT'⟩ : ∃ T : Nat, T = 54273 := ⟨_, rfl⟩
   have h4 : bl (O ^ m) ≤ T := by
     rw [bl_le_iff]
     have h5 : 2 ^ (53 * m) < 2 ^ T := Nat.pow_lt_pow_right (by omega) (by omega)
     omega
   have := nw_bl (O ^ m)
   omega
 obtain ⟨V, hV⟩ : ∃ V, V = O ^ m := ⟨_, rfl⟩
 rw [← hV] at HPW hbp ⊢
 obtain ⟨F, hF⟩ : ∃ F : Int, F = (E + z) * m := ⟨_, rfl⟩
 have hFb : -1099776 ≤ F ∧ F ≤ 1126400 := by
   have a1 := Int.mul_le_mul_of_nonneg_right (show E + (z : Int) ≤ 1025 by omega) (show (0 : Int) ≤ (m : Int) by omega)
   have a2 := Int.mul_le_mul_of_nonneg_right (show -1074 ≤ E + (z : Int) by omega) (show (0 : Int) ≤ (m : Int) by omega)
   rw [← hF] at a1 a2
   omega
 have hWF : IntKind.i64.wrap (-(E + (z : Int)) * (m : Int)) = -F := by
   rw [Int.neg_mul, ← hF]
   simp [IntKind.wrap, IntKind.bits, IntKind.signed]
   omega
 have HRT : Hid (∀ (A2 : Option Addr) (l2 c2 : Nat) (t : Bool) (w : World), Wds w A2 l2 c2 (nd V) → Calls Tryz.prog 85 #[.int .i64 d, .bool t, .slice (some ⟨w.heap.size, 0, none⟩) 1 1, .slice A2 l2 c2, .int .i64 (-F)] (w.alloc (.cells #[.int .u32 1] 61)) (RetFl (ratR d t 1 V (-F)) (w.alloc (.cells #[.int .u32 1] 61)))) := Lib.hid (fun A2 l2 c2 t w h2 => by
   have h3 := h2.len
   rw [nd_length] at h3
   have := pratio_any d t (some ⟨w.heap.size, 0, none⟩) 1 1 [1] A2 l2 c2 (nd V) (-F) (w.alloc (.cells #[.int .u32 1] 61)) (one_wds w rfl) (by omega) (h2.alloc _) (by omega)
   rwa [nv_nd, show nv [1] = 1 from rfl] at this)
 rw [← hF]
 have hm3 : decide (-(m : Int) < 0) = true := decide_eq_true (by omega)
 have hm4 : 0 < (m : Int) := by omega
 obtain ⟨par, hpar⟩ : ∃ b, b = decide (m % 2 = 1) := ⟨_, rfl⟩
 have hq : ((m : Int) % 2 == 1) = par := by
   rw [hpar, Bool.eq_iff_iff, beq_iff_eq, decide_eq_true_eq]
   omega
 have hps : pwS s m = (s && par) := by unfold pwS; rw [hpar]
 rw [hps]
 have hO := (Own.start w).add h
 have hf : True := trivial
 have hT' := hT
 clear h hz hO0 hV hF hpar hps hbl hnw hsg hOb hbp hl hT
 cases s
 all_goals
   go_enter Tryz.func68, Tryz.ntmps68
   go_wp2_with (first | ((with_reducible refine at_box ?_); (first | refine own_box (cs := [.bool false, .slice A l c, .int .i64 E]) hO rfl rfl ?_ | refine own_box (cs := [.bool true, .slice A l c, .int .i64 E]) hO rfl rfl ?_); clear hO; intro ga wa hO; clear hf; have hf := hO.cells; simp only [BC, CC, Nat.zero_add, Nat.reduceAdd, and_true] at hf))
   refine (HZE.out _ (hO.wd 0 rfl) (hT'.ext hO.toExt)).mono ?_
   rintro e w' ⟨rfl, rfl⟩
   go_wp2_with fail
   refine (HSH.out _ (hO.wd 0 rfl)).mono ?_
   rintro e w2 ⟨A2, l2, c2, rfl, hW2, hE2⟩
   have hO := (hO.ext hE2).add hW2
   clear hW2 hE2
   clear hf
   have hf := hO.cells
   simp only [BC, CC, Nat.zero_add, Nat.reduceAdd, and_true] at hf
   go_wp2_with fail
   refine (HPW.out _ _ _ _ (hO.wd 0 rfl)).mono ?_
   rintro e w3 ⟨A3, l3, c3, rfl, hW3, hE3⟩
   have hO := (hO.ext hE3).add hW3
   clear hW3 hE3
   clear hf
   have hf := hO.cells
   simp only [BC, CC, Nat.zero_add, Nat.reduceAdd, and_true] at hf
   go_upto_region 9 with fail
   have hW4 := hO.wd 0 rfl
   have HO1 := Lib.hid (hO.toExt.trans ((Ext.refl w3).alloc (.cells #[.int .u32 1] 61)))
   have HR := Lib.hid (fun t => HRT.out _ _ _ t _ hW4)
   clear hO hf hW4
   go_wp2_with fail
   refine (HR.out _).mono ?_
   rintro e w4 ⟨r, rfl, hr, hc, hE4⟩
   go_wp2
   go_ret
   exact ⟨r, rfl, hr, by first | exact hc | simpa using hc, HO1.out.trans hE4⟩
def powR (d : Int) (x : Nat) (n : Int) : Nat :=
 if isNaN x = true ∨ n < -1024 ∨ 1024 < n then NaNc
 else if n = 0 then 4607182418800017408
 else if isInf x = true then (if n < 0 then 0 else if (sg x && decide (n % 2 ≠ 0)) = true then minf else infR)
 else if mg x = 0 ∧ n < 0 then infR
 else if 0 < n then rnd d (pwS (sg x) n.toNat) (zr (fracN (fbN x ^ n.toNat) (fbD x ^ n.toNat) 0) (fracD (fbN x ^ n.toNat) (fbD x ^ n.toNat) 0))
 else rnd d (pwS (sg x) (-n).toNat) (zr (fracN (1 * fracD (fbN x ^ (-n).toNat) (fbD x ^ (-n).toNat) 0) (1 * fracN (fbN x ^ (-n).toNat) (fbD x ^ (-n).toNat) 0) 0) (fracD (1 * fracD (fbN x ^ (-n).toNat) (fbD x ^ (-n).toNat) 0) (1 * fracN (fbN x ^ (-n).toNat) (fbD x ^ (-n).toNat) 0) 0))
theorem eqB_zero_ {x : Nat} (h : isNaN x = false) : eqB x 0 = decide (mg x = 0) := by
 unfold eqB
 rw [h, show isNaN 0 = false by decide, show key 0 = 0 by decide]
 unfold key
 cases sg x
 · simp
 · simp
set_option maxHeartbeats 400000 in
theorem misinfm_any (b : Nat) (w : World) (h : b < 18446744073709551616) :
   Calls Tryz.prog 67 #[.float .f64 b, .int .i64 (-1)] w fun e w' => e = .returned (.bool (isInf b && sg b)) ∧ w = w' := by
 have hq := fo_gt (ng_lt h) (show 9218868437227405311 < 18446744073709551616 by omega)
 have hn := fun w => run_ng h w
 have e : ltB 9218868437227405311 (ng b) = (isInf b && sg b) := by
   have hi := infR_val
   have k1 : key 9218868437227405311 = 9218868437227405311 := by decide
   have n1 : isNaN 9218868437227405311 = false := by decide
   unfold ltB
   rw [k1, n1]
   unfold isNaN isInf key
   rw [mg_ng h, sg_ng h, Bool.eq_iff_iff]
   cases sg b
   all_goals (simp; try omega)
 rw [e] at hq
 clear e h
 go_enter Tryz.func67, Tryz.ntmps67
 go_wp2
 go_ret
 exact ⟨rfl, rfl⟩
set_option maxHeartbeats 1000000 in
theorem rpow_n1 (d : Int) (x : Nat) (n : Int) (w : World) (hx : x < 18446744073709551616) (h1 : isNaN x = true) :
   Calls Tryz.prog 39 #[.int .i64 d, .float .f64 x, .int .i64 n] w (RetFl (NaNc) w) := by
 have HNX := Lib.hid (fun w => mnan_any x w hx)
 have HIX := Lib.hid (fun w => misinf_any x w hx)
 have HIM := Lib.hid (fun w => misinfm_any x w hx)
 rw [h1] at HNX
 clear h1 hx
 go_enter Tryz.func39, Tryz.ntmps39
 go_wp2_with (first | (go_at_call 65; ((with_reducible refine (HNX.out _).mono ?_); rintro e w' ⟨rfl, rfl⟩)) | (go_at_call 67; ((with_reducible refine (HIX.out _).mono ?_); rintro e w' ⟨rfl, rfl⟩)) | (go_at_call 67; ((with_reducible refine (HIM.out _).mono ?_); rintro e w' ⟨rfl, rfl⟩)) | (go_at_call 66; ((with_reducible refine (mnanc_any _).mono ?_); rintro e w' ⟨rfl, rfl⟩)) | (go_at_call 40; ((with_reducible refine (inf_p _).mono ?_); rintro e w' ⟨rfl, rfl⟩)))
 go_ret
 exact ⟨NaNc, rfl, by first | decide | omega, by first | decide | exact cn_num (by decide), Ext.refl _⟩
set_option maxHeartbeats 1000000 in
theorem rpow_n2 (d : Int) (x : Nat) (n : Int) (w : World) (hx : x < 18446744073709551616) (h1 : isNaN x = false) (hn : n < -1024) :
   Calls Tryz.prog 39 #[.int .i64 d, .float .f64 x, .int .i64 n] w (RetFl (NaNc) w) := by
 have HNX := Lib.hid (fun w => mnan_any x w hx)
 have HIX := Lib.hid (fun w => misinf_any x w hx)
 have HIM := Lib.hid (fun w => misinfm_any x w hx)
 rw [h1] at HNX
 have r1 : decide (n < -1024) = true := decide_eq_true hn
 clear h1 hx hn
 go_enter Tryz.func39, Tryz.ntmps39
 go_wp2_with (first | (go_at_call 65; ((with_reducible refine (HNX.out _).mono ?_); rintro e w' ⟨rfl, rfl⟩)) | (go_at_call 67; ((with_reducible refine (HIX.out _).mono ?_); rintro e w' ⟨rfl, rfl⟩)) | (go_at_call 67; ((with_reducible refine (HIM.out _).mono ?_); rintro e w' ⟨rfl, rfl⟩)) | (go_at_call 66; ((with_reducible refine (mnanc_any _).mono ?_); rintro e w' ⟨rfl, rfl⟩)) | (go_at_call 40; ((with_reducible refine (inf_p _).mono ?_); rintro e w' ⟨rfl, rfl⟩)))
 go_ret
 exact ⟨NaNc, rfl, by first | decide | omega, by first | decide | exact cn_num (by decide), Ext.refl _⟩
set_option maxHeartbeats 1000000 in
theorem rpow_n3 (d : Int) (x : Nat) (n : Int) (w : World) (hx : x < 18446744073709551616) (h1 : isNaN x = false) (hn : 1024 < n) :
   Calls Tryz.prog 39 #[.int .i64 d, .float .f64 x, .int .i64 n] w (RetFl (NaNc) w) := by
 have HNX := Lib.hid (fun w => mnan_any x w hx)
 have HIX := Lib.hid (fun w => misinf_any x w hx)
 have HIM := Lib.hid (fun w => misinfm_any x w hx)
 rw [h1] at HNX
 have r1 : decide (n < -1024) = false := decide_eq_false (by omega)
 have r2 : decide (1024 < n) = true := decide_eq_true hn
 clear h1 hx hn
 go_enter Tryz.func39, Tryz.ntmps39
 go_wp2_with (first | (go_at_call 65; ((with_reducible refine (HNX.out _).mono ?_); rintro e w' ⟨rfl, rfl⟩)) | (go_at_call 67; ((with_reducible refine (HIX.out _).mono ?_); rintro e w' ⟨rfl, rfl⟩)) | (go_at_call 67; ((with_reducible refine (HIM.out _).mono ?_); rintro e w' ⟨rfl, rfl⟩)) | (go_at_call 66; ((with_reducible refine (mnanc_any _).mono ?_); rintro e w' ⟨rfl, rfl⟩)) | (go_at_call 40; ((with_reducible refine (inf_p _).mono ?_); rintro e w' ⟨rfl, rfl⟩)))
 go_ret
 exact ⟨NaNc, rfl, by first | decide | omega, by first | decide | exact cn_num (by decide), Ext.refl _⟩
set_option maxHeartbeats 1000000 in
theorem rpow_0 (d : Int) (x : Nat) (n : Int) (w : World) (hx : x < 18446744073709551616) (h1 : isNaN x = false) (hn : n = 0) :
   Calls Tryz.prog 39 #[.int .i64 d, .float .f64 x, .int .i64 n] w (RetFl (4607182418800017408) w) := by
 have HNX := Lib.hid (fun w => mnan_any x w hx)
 have HIX := Lib.hid (fun w => misinf_any x w hx)
 have HIM := Lib.hid (fun w => misinfm_any x w hx)
 rw [h1] at HNX
 subst hn
 clear h1 hx
 go_enter Tryz.func39, Tryz.ntmps39
 go_wp2_with (first | (go_at_call 65; ((with_reducible refine (HNX.out _).mono ?_); rintro e w' ⟨rfl, rfl⟩)) | (go_at_call 67; ((with_reducible refine (HIX.out _).mono ?_); rintro e w' ⟨rfl, rfl⟩)) | (go_at_call 67; ((with_reducible refine (HIM.out _).mono ?_); rintro e w' ⟨rfl, rfl⟩)) | (go_at_call 66; ((with_reducible refine (mnanc_any _).mono ?_); rintro e w' ⟨rfl, rfl⟩)) | (go_at_call 40; ((with_reducible refine (inf_p _).mono ?_); rintro e w' ⟨rfl, rfl⟩)))
 go_ret
 exact ⟨4607182418800017408, rfl, by first | decide | omega, by first | decide | exact cn_num (by decide), Ext.refl _⟩
set_option maxHeartbeats 1000000 in
theorem rpow_im (d : Int) (x : Nat) (n : Int) (w : World) (hx : x < 18446744073709551616) (h1 : isNaN x = false) (g1 : -1024 ≤ n) (g2 : n ≤ 1024) (hi : isInf x = true) (hn : n < 0) :
   Calls Tryz.prog 39 #[.int .i64 d, .float .f64 x, .int .i64 n] w (RetFl (0) w) := by
 have HNX := Lib.hid (fun w => mnan_any x w hx)
 have HIX := Lib.hid (fun w => misinf_any x w hx)
 have HIM := Lib.hid (fun w => misinfm_any x w hx)
 rw [h1] at HNX
 have r1 : decide (n < -1024) = false := decide_eq_false (by omega)
 have r2 : decide (1024 < n) = false := decide_eq_false (by omega)
 have r3 : (n == 0) = false := by rw [beq_eq_false_iff_ne]; omega
 rw [hi] at HIX HIM
 have r4 : decide (n < 0) = true := decide_eq_true hn
 clear h1 hx hn hi g1 g2
 go_enter Tryz.func39, Tryz.ntmps39
 go_wp2_with (first | (go_at_call 65; ((with_reducible refine (HNX.out _).mono ?_); rintro e w' ⟨rfl, rfl⟩)) | (go_at_call 67; ((with_reducible refine (HIX.out _).mono ?_); rintro e w' ⟨rfl, rfl⟩)) | (go_at_call 67; ((with_reducible refine (HIM.out _).mono ?_); rintro e w' ⟨rfl, rfl⟩)) | (go_at_call 66; ((with_reducible refine (mnanc_any _).mono ?_); rintro e w' ⟨rfl, rfl⟩)) | (go_at_call 40; ((with_reducible refine (inf_p _).mono ?_); rintro e w' ⟨rfl, rfl⟩)))
 go_ret
 exact ⟨0, rfl, by first | decide | omega, by first | decide | exact cn_num (by decide), Ext.refl _⟩
set_option maxHeartbeats 1000000 in
theorem rpow_ip (d : Int) (x : Nat) (n : Int) (w : World) (hx : x < 18446744073709551616) (h1 : isNaN x = false) (g1 : -1024 ≤ n) (g2 : n ≤ 1024) (hi : isInf x = true) (hs : sg x = false) (hn : 0 < n) :
   Calls Tryz.prog 39 #[.int .i64 d, .float .f64 x, .int .i64 n] w (RetFl (cn x) w) := by
 have HNX := Lib.hid (fun w => mnan_any x w hx)
 have HXL := Lib.hid hx
 have HIX := Lib.hid (fun w => misinf_any x w hx)
 have HIM := Lib.hid (fun w => misinfm_any x w hx)
 rw [h1] at HNX
 have r1 : decide (n < -1024) = false := decide_eq_false (by omega)
 have r2 : decide (1024 < n) = false := decide_eq_false (by omega)
 have r3 : (n == 0) = false := by rw [beq_eq_false_iff_ne]; omega
 rw [hi] at HIX HIM
 rw [hs, Bool.and_false] at HIM
 have r4 : decide (n < 0) = false := decide_eq_false (by omega)
 clear h1 hx hn hi g1 g2 hs
 go_enter Tryz.func39, Tryz.ntmps39
 go_wp2_with (first | (go_at_call 65; ((with_reducible refine (HNX.out _).mono ?_); rintro e w' ⟨rfl, rfl⟩)) | (go_at_call 67; ((with_reducible refine (HIX.out _).mono ?_); rintro e w' ⟨rfl, rfl⟩)) | (go_at_call 67; ((with_reducible refine (HIM.out _).mono ?_); rintro e w' ⟨rfl, rfl⟩)) | (go_at_call 66; ((with_reducible refine (mnanc_any _).mono ?_); rintro e w' ⟨rfl, rfl⟩)) | (go_at_call 40; ((with_reducible refine (inf_p _).mono ?_); rintro e w' ⟨rfl, rfl⟩)))
 go_ret
 exact ⟨x, rfl, HXL.out, rfl, Ext.refl _⟩
set_option maxHeartbeats 1000000 in
theorem rpow_io (d : Int) (x : Nat) (n : Int) (w : World) (hx : x < 18446744073709551616) (h1 : isNaN x = false) (g1 : -1024 ≤ n) (g2 : n ≤ 1024) (hi : isInf x = true) (hs : sg x = true) (hn : 0 < n) (hp : n % 2 = 1) :
   Calls Tryz.prog 39 #[.int .i64 d, .float .f64 x, .int .i64 n] w (RetFl (cn x) w) := by
 have HNX := Lib.hid (fun w => mnan_any x w hx)
 have HIX := Lib.hid (fun w => misinf_any x w hx)
 have HIM := Lib.hid (fun w => misinfm_any x w hx)
 rw [h1] at HNX
 have r1 : decide (n < -1024) = false := decide_eq_false (by omega)
 have r2 : decide (1024 < n) = false := decide_eq_false (by omega)
 have r3 : (n == 0) = false := by rw [beq_eq_false_iff_ne]; omega
 rw [hi] at HIX HIM
 rw [hs, Bool.and_true] at HIM
 have r4 : decide (n < 0) = false := decide_eq_false (by omega)
 have hn0 : 0 ≤ n := by omega
 have r5 : (n % 2 == 0) = false := by rw [beq_eq_false_iff_ne]; omega
 have HXL := Lib.hid hx
 clear h1 hx hn hi g1 g2 hs hp
 go_enter Tryz.func39, Tryz.ntmps39
 go_wp2_with (first | (go_at_call 65; ((with_reducible refine (HNX.out _).mono ?_); rintro e w' ⟨rfl, rfl⟩)) | (go_at_call 67; ((with_reducible refine (HIX.out _).mono ?_); rintro e w' ⟨rfl, rfl⟩)) | (go_at_call 67; ((with_reducible refine (HIM.out _).mono ?_); rintro e w' ⟨rfl, rfl⟩)) | (go_at_call 66; ((with_reducible refine (mnanc_any _).mono ?_); rintro e w' ⟨rfl, rfl⟩)) | (go_at_call 40; ((with_reducible refine (inf_p _).mono ?_); rintro e w' ⟨rfl, rfl⟩)))
 go_ret
 exact ⟨x, rfl, HXL.out, rfl, Ext.refl _⟩
set_option maxHeartbeats 1000000 in
theorem rpow_ie (d : Int) (x : Nat) (n : Int) (w : World) (hx : x < 18446744073709551616) (h1 : isNaN x = false) (g1 : -1024 ≤ n) (g2 : n ≤ 1024) (hi : isInf x = true) (hs : sg x = true) (hn : 0 < n) (hp : n % 2 = 0) :
   Calls Tryz.prog 39 #[.int .i64 d, .float .f64 x, .int .i64 n] w (RetFl (infR) w) := by
 have HNX := Lib.hid (fun w => mnan_any x w hx)
 have HIX := Lib.hid (fun w => misinf_any x w hx)
 have HIM := Lib.hid (fun w => misinfm_any x w hx)
 rw [h1] at HNX
 have r1 : decide (n < -1024) = false := decide_eq_false (by omega)
 have r2 : decide (1024 < n) = false := decide_eq_false (by omega)
 have r3 : (n == 0) = false := by rw [beq_eq_false_iff_ne]; omega
 rw [hi] at HIX HIM
 rw [hs, Bool.and_true] at HIM
 have r4 : decide (n < 0) = false := decide_eq_false (by omega)
 have hn0 : 0 ≤ n := by omega
 have r5 : (n % 2 == 0) = true := by rw [beq_iff_eq]; omega
 clear h1 hx hn hi g1 g2 hs hp
 go_enter Tryz.func39, Tryz.ntmps39
 go_wp2_with (first | (go_at_call 65; ((with_reducible refine (HNX.out _).mono ?_); rintro e w' ⟨rfl, rfl⟩)) | (go_at_call 67; ((with_reducible refine (HIX.out _).mono ?_); rintro e w' ⟨rfl, rfl⟩)) | (go_at_call 67; ((with_reducible refine (HIM.out _).mono ?_); rintro e w' ⟨rfl, rfl⟩)) | (go_at_call 66; ((with_reducible refine (mnanc_any _).mono ?_); rintro e w' ⟨rfl, rfl⟩)) | (go_at_call 40; ((with_reducible refine (inf_p _).mono ?_); rintro e w' ⟨rfl, rfl⟩)))
 go_ret
 exact ⟨infR, rfl, by first | decide | omega, by first | decide | exact cn_num (by decide), Ext.refl _⟩
set_option maxHeartbeats 1000000 in
theorem rpow_zm (d : Int) (x : Nat) (n : Int) (w : World) (hx : x < 18446744073709551616) (h1 : isNaN x = false) (g1 : -1024 ≤ n) (g2 : n ≤ 1024) (hi : isInf x = false) (hz : mg x = 0) (hn : n < 0) :
   Calls Tryz.prog 39 #[.int .i64 d, .float .f64 x, .int .i64 n] w (RetFl (infR) w) := by
 have HNX := Lib.hid (fun w => mnan_any x w hx)
 have HIX := Lib.hid (fun w => misinf_any x w hx)
 have HIM := Lib.hid (fun w => misinfm_any x w hx)
 have h0 := fo_eq hx (show 0 < 18446744073709551616 by omega)
 rw [eqB_zero_ h1] at h0
 rw [h1] at HNX
 have r1 : decide (n < -1024) = false := decide_eq_false (by omega)
 have r2 : decide (1024 < n) = false := decide_eq_false (by omega)
 have r3 : (n == 0) = false := by rw [beq_eq_false_iff_ne]; omega
 rw [hi] at HIX HIM
 rw [Bool.false_and] at HIM
 rw [decide_eq_true hz] at h0
 have r4 : decide (n < 0) = true := decide_eq_true hn
 clear h1 hx hn hi g1 g2 hz
 go_enter Tryz.func39, Tryz.ntmps39
 go_wp2_with (first | (go_at_call 65; ((with_reducible refine (HNX.out _).mono ?_); rintro e w' ⟨rfl, rfl⟩)) | (go_at_call 67; ((with_reducible refine (HIX.out _).mono ?_); rintro e w' ⟨rfl, rfl⟩)) | (go_at_call 67; ((with_reducible refine (HIM.out _).mono ?_); rintro e w' ⟨rfl, rfl⟩)) | (go_at_call 66; ((with_reducible refine (mnanc_any _).mono ?_); rintro e w' ⟨rfl, rfl⟩)) | (go_at_call 40; ((with_reducible refine (inf_p _).mono ?_); rintro e w' ⟨rfl, rfl⟩)))
 go_ret
 exact ⟨infR, rfl, by first | decide | omega, by first | decide | exact cn_num (by decide), Ext.refl _⟩
set_option maxHeartbeats 1000000 in
theorem rpow_fp (d : Int) (x : Nat) (n : Int) (w : World) (hx : x < 18446744073709551616) (h1 : isNaN x = false) (g1 : -1024 ≤ n) (g2 : n ≤ 1024) (hi : isInf x = false) (hTb : Tab w) (hn : 0 < n) (R : Nat) (HRR : R = ofR d (pwS (sg x) n.toNat) ((fbSig x / 2 ^ tz (fbSig x)) ^ n.toNat) ((fbExp x + tz (fbSig x)) * (n.toNat : Int))) :
   Calls Tryz.prog 39 #[.int .i64 d, .float .f64 x, .int .i64 n] w (RetFl (R) w) := by
 have HNX := Lib.hid (fun w => mnan_any x w hx)
 have HIX := Lib.hid (fun w => misinf_any x w hx)
 have HIM := Lib.hid (fun w => misinfm_any x w hx)
 have h0 := fo_eq hx (show 0 < 18446744073709551616 by omega)
 rw [eqB_zero_ h1] at h0
 rw [h1] at HNX
 have r1 : decide (n < -1024) = false := decide_eq_false (by omega)
 have r2 : decide (1024 < n) = false := decide_eq_false (by omega)
 have r3 : (n == 0) = false := by rw [beq_eq_false_iff_ne]; omega
 rw [hi] at HIX HIM
 rw [Bool.false_and] at HIM
 have r4 : decide (n < 0) = false := decide_eq_false (by omega)
 have HT := Lib.hid hTb
 have HPT := Lib.hid (fun w => part_any x w hx)
 have hb1 := fbSig_lt x
 have hb2 := fbExp_lo x
 have hb3 := fbExp_hi x
 have HPW : Hid (∀ (A : Option Addr) (l c : Nat) w, Wds w A l c (nd (fbSig x)) → Tab w → Calls Tryz.prog 68 #[.int .i64 d, .agg #[.bool (sg x), .slice A l c, .int .i64 (fbExp x)], .int .i64 n] w (RetFl R w)) := Lib.hid (fun A l c w h hT => by
   have := rpower_p d (sg x) A l c (fbSig x) (fbExp x) n.toNat w h hT hb1 hb2 hb3 (by omega) (by omega)
   rw [← HRR] at this
   rw [show ((n.toNat : Nat) : Int) = n by omega] at this
   exact this)
 generalize fbSig x = SG at *
 generalize fbExp x = EX at *
 clear h1 hx hn hi g1 g2 hTb hb1 hb2 hb3 HRR
 go_enter Tryz.func39, Tryz.ntmps39
 go_wp2_with (first | (go_at_call 65; ((with_reducible refine (HNX.out _).mono ?_); rintro e w' ⟨rfl, rfl⟩)) | (go_at_call 67; ((with_reducible refine (HIX.out _).mono ?_); rintro e w' ⟨rfl, rfl⟩)) | (go_at_call 67; ((with_reducible refine (HIM.out _).mono ?_); rintro e w' ⟨rfl, rfl⟩)) | (go_at_call 66; ((with_reducible refine (mnanc_any _).mono ?_); rintro e w' ⟨rfl, rfl⟩)) | (go_at_call 40; ((with_reducible refine (inf_p _).mono ?_); rintro e w' ⟨rfl, rfl⟩)) | (go_at_call 69; ((with_reducible refine (HPT.out _).mono ?_); rintro e w2 ⟨A2, n2, c2, rfl, hW2, hE2⟩; have HPP := Lib.hid (HPW.out A2 n2 c2 _ hW2 (HT.out.ext hE2)); have HE2 := Lib.hid hE2; clear hW2 HPW hE2)) | (go_at_call 68; ((with_reducible refine HPP.out.mono ?_); rintro e w3 ⟨r, rfl, hr, hc, hE3⟩)))
 all_goals
   go_ret
   exact ⟨r, rfl, hr, hc, HE2.out.trans hE3⟩
set_option maxHeartbeats 1000000 in
theorem rpow_fm (d : Int) (x : Nat) (n : Int) (w : World) (hx : x < 18446744073709551616) (h1 : isNaN x = false) (g1 : -1024 ≤ n) (g2 : n ≤ 1024) (hi : isInf x = false) (hTb : Tab w) (hz : mg x ≠ 0) (hn : n < 0) (R : Nat) (HRR : R = ratR d (pwS (sg x) (-n).toNat) 1 ((fbSig x / 2 ^ tz (fbSig x)) ^ (-n).toNat) (-((fbExp x + tz (fbSig x)) * ((-n).toNat : Int)))) :
   Calls Tryz.prog 39 #[.int .i64 d, .float .f64 x, .int .i64 n] w (RetFl (R) w) := by
 have HNX := Lib.hid (fun w => mnan_any x w hx)
 have HIX := Lib.hid (fun w => misinf_any x w hx)
 have HIM := Lib.hid (fun w => misinfm_any x w hx)
 have h0 := fo_eq hx (show 0 < 18446744073709551616 by omega)
 rw [eqB_zero_ h1] at h0
 rw [h1] at HNX
 have r1 : decide (n < -1024) = false := decide_eq_false (by omega)
 have r2 : decide (1024 < n) = false := decide_eq_false (by omega)
 have r3 : (n == 0) = false := by rw [beq_eq_false_iff_ne]; omega
 rw [hi] at HIX HIM
 rw [Bool.false_and] at HIM
 rw [decide_eq_false hz] at h0
 have r4 : decide (n < 0) = true := decide_eq_true hn
 clear hz
 have HT := Lib.hid hTb
 have HPT := Lib.hid (fun w => part_any x w hx)
 have hb1 := fbSig_lt x
 have hb2 := fbExp_lo x
 have hb3 := fbExp_hi x
 have HPW : Hid (∀ (A : Option Addr) (l c : Nat) w, Wds w A l c (nd (fbSig x)) → Tab w → Calls Tryz.prog 68 #[.int .i64 d, .agg #[.bool (sg x), .slice A l c, .int .i64 (fbExp x)], .int .i64 n] w (RetFl R w)) := Lib.hid (fun A l c w h hT => by
   have := rpower_n d (sg x) A l c (fbSig x) (fbExp x) (-n).toNat w h hT hb1 hb2 hb3 (by omega) (by omega)
   rw [← HRR] at this
   rw [show -(((-n).toNat : Nat) : Int) = n by omega] at this
   exact this)
 generalize fbSig x = SG at *
 generalize fbExp x = EX at *
 clear h1 hx hn hi g1 g2 hTb hb1 hb2 hb3 HRR
 go_enter Tryz.func39, Tryz.ntmps39
 go_wp2_with (first | (go_at_call 65; ((with_reducible refine (HNX.out _).mono ?_); rintro e w' ⟨rfl, rfl⟩)) | (go_at_call 67; ((with_reducible refine (HIX.out _).mono ?_); rintro e w' ⟨rfl, rfl⟩)) | (go_at_call 67; ((with_reducible refine (HIM.out _).mono ?_); rintro e w' ⟨rfl, rfl⟩)) | (go_at_call 66; ((with_reducible refine (mnanc_any _).mono ?_); rintro e w' ⟨rfl, rfl⟩)) | (go_at_call 40; ((with_reducible refine (inf_p _).mono ?_); rintro e w' ⟨rfl, rfl⟩)) | (go_at_call 69; ((with_reducible refine (HPT.out _).mono ?_); rintro e w2 ⟨A2, n2, c2, rfl, hW2, hE2⟩; have HPP := Lib.hid (HPW.out A2 n2 c2 _ hW2 (HT.out.ext hE2)); have HE2 := Lib.hid hE2; clear hW2 HPW hE2)) | (go_at_call 68; ((with_reducible refine HPP.out.mono ?_); rintro e w3 ⟨r, rfl, hr, hc, hE3⟩)))
 all_goals
   go_ret
   exact ⟨r, rfl, hr, hc, HE2.out.trans hE3⟩
theorem cn_inf_ {x : Nat} (h : isInf x = true) : cn x = x := cn_num (by unfold isInf at h; unfold isNaN; have := of_decide_eq_true h; exact decide_eq_false (by omega))
theorem rpow_prog (d : Int) (x : Nat) (n : Int) (w : World) (hx : x < 18446744073709551616) (hT : Tab w) :
   Calls Tryz.prog 39 #[.int .i64 d, .float .f64 x, .int .i64 n] w (RetFl (powR d x n) w) := by
 unfold powR
 by_cases hb : isNaN x = true ∨ n < -1024 ∨ 1024 < n
 · rw [if_pos hb]
   cases h1 : isNaN x
   · rcases hb with h | h | h
     · rw [h1] at h; cases h
     · exact rpow_n2 d x n w hx h1 h
     · exact rpow_n3 d x n w hx h1 h
   · exact rpow_n1 d x n w hx h1
 · rw [if_neg hb]
   have h1 : isNaN x = false := by cases h : isNaN x; rfl; exact absurd (.inl h) hb
   have g1 : -1024 ≤ n := by omega
   have g2 : n ≤ 1024 := by omega
   by_cases h0 : n = 0
   · rw [if_pos h0]; exact rpow_0 d x n w hx h1 h0
   · rw [if_neg h0]
     by_cases hi : isInf x = true
     · rw [if_pos hi]
       by_cases hn : n < 0
       · rw [if_pos hn]
         exact rpow_im d x n w hx h1 g1 g2 hi hn
       · rw [if_neg hn]
         have hmi : mg x = infR := by unfold isInf at hi; exact of_decide_eq_true hi
         have hsp := split_pat hx
         cases hs : sg x
         · rw [Bool.false_and, if_neg (by simp)]
           have := rpow_ip d x n w hx h1 g1 g2 hi hs (by omega)
           rw [cn_inf_ hi] at this
           rw [hs, hmi] at hsp
           simp only [Bool.false_eq_true, if_false] at hsp
           rw [hsp] at this ⊢
           exact this
         · rw [Bool.true_and]
           rcases (by omega : n % 2 = 0 ∨ n % 2 = 1) with hp | hp
           · rw [if_neg (by rw [hp]; simp)]
             exact rpow_ie d x n w hx h1 g1 g2 hi hs (by omega) hp
           · rw [if_pos (by rw [hp]; rfl)]
             have := rpow_io d x n w hx h1 g1 g2 hi hs (by omega) hp
             rw [cn_inf_ hi] at this
             rw [hs, hmi] at hsp
             simp only [if_true] at hsp
             have e : x = minf := hsp
             rw [e] at this ⊢
             exact this
     · rw [if_neg hi]
       have hi' : isInf x = false := by cases h : isInf x; rfl; exact absurd h hi
       by_cases hzn : mg x = 0 ∧ n < 0
       · rw [if_pos hzn]
         exact rpow_zm d x n w hx h1 g1 g2 hi' hzn.1 hzn.2
       · rw [if_neg hzn]
         by_cases hn : 0 < n
         · rw [if_pos hn]
           have he := pow_pos_eq d (pwS (sg x) n.toNat) x (m := n.toNat) (by omega)
           unfold odS odE at he
           exact rpow_fp d x n w hx h1 g1 g2 hi' hT hn _ he.symm
         · rw [if_neg hn]
           have hz : mg x ≠ 0 := fun h => hzn ⟨h, by omega⟩
           have he := (pow_neg_eq d (pwS (sg x) (-n).toNat) hz (m := (-n).toNat) (by omega) _ _ rfl rfl).2.2
           unfold odS odE at he
           exact rpow_fm d x n w hx h1 g1 g2 hi' hT hz (by omega) _ he.symm
end Go.Proofs.YtbcaggdgoidlaaaGreatDoor

namespace Go.Proofs.YtbcaggdgoidlaaaGreatDoor
open Nm Rn
set_option linter.unusedVariables false
set_option linter.unusedSimpArgs false
theorem pl_facts {x : Nat} (hx : x < 18446744073709551616) (nx : isNaN x = false) : pl x < 18446744073709551616 ∧ isNaN (pl x) = false ∧ key (pl x) = key x ∧ pl x ≠ 9223372036854775808 := by
 unfold pl
 by_cases h : x = 9223372036854775808
 · rw [if_pos h, h]; decide
 · rw [if_neg h]; exact ⟨hx, nx, rfl, h⟩
theorem sz_key {p q : Nat} : key (szLo p q) ≤ key (szHi p q) ∧ 0 ≤ key (szLo p q) := by
 have k1 := @mx_key p
 have k2 := @mx_key q
 have k0 : key 0 = 0 := rfl
 unfold szLo szHi
 split
 · rw [k0]
   constructor
   · split
     · revert k1; split <;> (intro k1; omega)
     · revert k2; split <;> (intro k2; omega)
   · omega
 · revert k1 k2
   split <;> split <;> split <;> (intro k1 k2; constructor <;> omega)
def pnA (p q : Nat) (n : Int) : Nat := if n.tmod 2 = 0 then pl (szLo p q) else p
def pnB (p q : Nat) (n : Int) : Nat := if n.tmod 2 = 0 then pl (szHi p q) else q
def pwLo (a b : Nat) (n : Int) : Nat :=
 if 0 < n then powR (-1) a n else if mg a = 0 ∧ mg b = 0 then infR else if key a < 0 ∧ 0 < key b then minf else if mg b = 0 then minf else powR (-1) b n
def pwHi (a b : Nat) (n : Int) : Nat :=
 if 0 < n then powR 1 b n else if mg a = 0 ∧ mg b = 0 then minf else if key a < 0 ∧ 0 < key b then infR else if mg a = 0 then infR else powR 1 a n
def pwnLo (lo hi : Nat) (n : Int) : Nat :=
 if emp lo hi then infR else if n < -1024 ∨ 1024 < n then minf else if n = 0 then 4607182418800017408
 else pwLo (pnA (rdLo lo hi) (rdHi lo hi) n) (pnB (rdLo lo hi) (rdHi lo hi) n) n
def pwnHi (lo hi : Nat) (n : Int) : Nat :=
 if emp lo hi then minf else if n < -1024 ∨ 1024 < n then infR else if n = 0 then 4607182418800017408
 else pwHi (pnA (rdLo lo hi) (rdHi lo hi) n) (pnB (rdLo lo hi) (rdHi lo hi) n) n
structure PnE (a b : Nat) : Prop where
 la : a < 18446744073709551616
 lb : b < 18446744073709551616
 na : isNaN a = false
 nb : isNaN b = false
 ki : key a ≤ key b
 ma : a ≠ 9223372036854775808
 mb : b ≠ 9223372036854775808
 ia : a ≠ infR
 ib : b ≠ minf
theorem pnE_rd {lo hi : Nat} (hl : lo < 18446744073709551616) (hh : hi < 18446744073709551616) (he : ¬ emp lo hi) : PnE (rdLo lo hi) (rdHi lo hi) := by
 obtain ⟨g1, g2, g3, g4, g5, g6, _, g8⟩ := rd_ends hl hh he
 have pn : ∀ {x : Nat}, plN x = x → x ≠ 9223372036854775808 := fun h h2 => by
   rw [h2] at h; revert h; decide
 exact ⟨g1, g2, g3, g4, g8, pn (rdLo_pl lo hi), pn (rdHi_pl lo hi), g5, g6⟩
theorem pnE_sz {p q : Nat} (h : PnE p q) : PnE (pl (szLo p q)) (pl (szHi p q)) := by
 obtain ⟨k1, k2, k3, k4, k5, k6⟩ := sz_ends h.la h.lb h.na h.nb h.ia h.ib
 obtain ⟨a1, a2, a3, a4⟩ := pl_facts k1 k2
 obtain ⟨b1, b2, b3, b4⟩ := pl_facts k4 k5
 have hs := @sz_key p q
 refine ⟨a1, b1, a2, b2, by rw [a3, b3]; exact hs.1, a4, b4, fun e => ?_, fun e => ?_⟩
 · rw [e, key_inf] at a3
   have := (key_eq_inf k1 k2).1 a3.symm
   exact k3 this
 · rw [e, key_minf] at b3
   have := (key_eq_minf k4 k5).1 b3.symm
   exact k6 this
theorem pnE_n {p q : Nat} (h : PnE p q) (n : Int) : PnE (pnA p q n) (pnB p q n) := by
 unfold pnA pnB
 by_cases hn : n.tmod 2 = 0
 · rw [if_pos hn, if_pos hn]; exact pnE_sz h
 · rw [if_neg hn, if_neg hn]; exact h
theorem powR_ok {d : Int} {x : Nat} {n : Int} (h1 : isNaN x = false) (h2 : ¬ (n < -1024 ∨ 1024 < n)) : isNaN (powR d x n) = false ∧ powR d x n < 18446744073709551616 := by
 unfold powR
 rw [if_neg (by rw [h1]; simp; omega)]
 split
 · decide
 · split
   · split
     · decide
     · split <;> decide
   · split
     · decide
     · split
       · exact ⟨(rnd_ok _ _ _).2, (rnd_ok _ _ _).1⟩
       · exact ⟨(rnd_ok _ _ _).2, (rnd_ok _ _ _).1⟩
end Go.Proofs.YtbcaggdgoidlaaaGreatDoor
