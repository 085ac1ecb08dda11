/-
 Plain: a power's own ends, and those of a power of an interval, lie about it. Conditions: those that each theorem names.
-/
import Derived.Test.YtbcaggdgoidlaaaGreatDoorH24
import Derived.Test.YtbcaggdgoidlaaaGreatDoorH27
import Derived.Test.YtbcaggdgoidlaaaGreatDoorH03
import Derived.Test.YtbcaggdgoidlaaaGreatDoorH20
import Derived.Test.YtbcaggdgoidlaaaGreatDoorH07
import Derived.Test.YtbcaggdgoidlaaaGreatDoorH08
import Derived.StillTailTactics
import Derived.Deep.QuietTactic
import Derived.BigQuiet
import Derived.Test.YtbcaggdgoidlaaaGreatDoorH09
import Derived.Deep.RegionWith
import Derived.Test.YtbcaggdgoidlaaaGreatDoorH04
import Derived.Outline
import Derived.Test.YtbcaggdgoidlaaaGreatDoorH06
namespace Go.Proofs.YtbcaggdgoidlaaaGreatDoor
open Nm Rn
set_option linter.unusedVariables false
set_option linter.unusedSimpArgs false
def tiS (x m : Nat) : Bool := pwS (sg x && decide (mg x ≠ 0)) m && decide (fbN x ^ m ≠ 0)
def tiN (x m : Nat) : Nat := fracN (fbN x ^ m) (fbD x ^ m) 0
def tiD (x m : Nat) : Nat := fracD (fbN x ^ m) (fbD x ^ m) 0
theorem tiD_pos (x m : Nat) : 0 < tiD x m := fracD_pos 0 (Nat.ne_of_gt (Nat.pow_pos (fbD_pos x)))
theorem tiS_zero {x m : Nat} (h : tiN x m = 0) : tiS x m = false := by
 unfold tiN at h
 have := fracN_eq_zero.1 h
 have hz : ¬ (fbN x ^ m ≠ 0) := fun h => h this
 unfold tiS
 rw [decide_eq_false hz, Bool.and_false]
theorem ti_rnd {d : Int} {x m : Nat} {n : Int} (nx : isNaN x = false) (fx : mg x < infR) (hn : n = (m : Int)) (hm0 : 0 < m) (hm : m ≤ 1024) : rnd d (tiS x m) (zr (tiN x m) (tiD x m)) = powR d x n := by
 rw [powR_pos nx (by omega) fx (by omega), show n.toNat = m by omega]
 have e : zr (tiN x m) (tiD x m) = ZP x m := rfl
 rw [e]
 unfold tiS
 by_cases hz : mg x = 0
 · rw [ZP_zero hz hm0, rnd_zero, rnd_zero]
 · have hN : fbN x ^ m ≠ 0 := Nat.ne_of_gt (Nat.pow_pos (fbN_pos_ hz))
   rw [decide_eq_true hN, Bool.and_true, decide_eq_true hz, Bool.and_true]
theorem fin_of {b : Nat} (hb : b < 18446744073709551616) (nb : isNaN b = false) (h1 : b ≠ infR) (h2 : b ≠ minf) : mg b < infR := by
 have e := infR_val
 have e2 := minf_val
 have := mg_le_inf nb
 unfold mg at this ⊢
 omega
theorem sv_mono {a b : Nat} (h : key a ≤ key b) : sv a ≤ sv b := by
 obtain ⟨h1, h2⟩ := rv_key a b
 rcases Int.lt_or_le (key a) (key b) with hl | hg
 · have := h1.2 hl; omega
 · have := h2.2 (by omega); omega
theorem endV_sv (b : Nat) : endV b = sv b := rfl
def rcL (b : Nat) (s : Bool) (N D : Nat) : Int := rc (sg b && decide (mg b ≠ 0)) (fbN b) (fbD b) s N D
def rcR (s : Bool) (N D b : Nat) : Int := rc s N D (sg b && decide (mg b ≠ 0)) (fbN b) (fbD b)
theorem cmpI_le0 {a b : Int} : cmpI a b ≤ 0 ↔ a ≤ b := by
 unfold cmpI
 repeat' split
 all_goals omega
theorem cmpI_pos0 {a b : Int} : 0 < cmpI a b ↔ b < a := by
 unfold cmpI
 repeat' split
 all_goals omega
section
variable {T D : Int} {LO HI NE : Nat}
theorem tg_lo (h : Tg T D LO HI NE) (hD : 0 < D) (hf : mg LO < infR) : sv LO * D ≤ T := by
 rcases h.or_ with ⟨_, _, _, g⟩ | ⟨_, _, _, g, _⟩
 · rw [endV_sv] at g; omega
 · have := g hf; rw [endV_sv] at this; omega
theorem tg_hi (h : Tg T D LO HI NE) (hD : 0 < D) (hf : mg HI < infR) : T ≤ sv HI * D := by
 rcases h.or_ with ⟨e, _, _, g⟩ | ⟨_, _, _, _, g, _⟩
 · rw [endV_sv, e] at g; omega
 · have := g hf; rw [endV_sv] at this; omega
theorem tg_nn (h : Tg T D LO HI NE) : isNaN LO = false ∧ isNaN HI = false := by
 have e := infR_val
 have h1 := h.l2
 have h2 := h.h2
 exact ⟨decide_eq_false (by omega), decide_eq_false (by omega)⟩
theorem mul_le {a b D : Int} (hD : 0 < D) (h : a ≤ b) : a * D ≤ b * D := Int.mul_le_mul_of_nonneg_right h (Int.le_of_lt hD)
theorem tg_below (h : Tg T D LO HI NE) (hD : 0 < D) {y : Nat} (hy : y < 18446744073709551616) (ny : isNaN y = false) (h1 : y ≠ infR) (h2 : y ≠ minf) (hk : key y ≤ key LO) : sv y * D ≤ T := by
 have nl := (tg_nn h).1
 have hne : LO ≠ minf := fun e => by
   rw [e, key_minf] at hk
   have := (key_le ny).2
   exact h2 ((key_eq_minf hy ny).1 (by omega))
 have := tg_lo h hD (fin_of h.l1 nl h.l3 hne)
 have := mul_le hD (sv_mono hk)
 omega
theorem tg_above (h : Tg T D LO HI NE) (hD : 0 < D) {y : Nat} (hy : y < 18446744073709551616) (ny : isNaN y = false) (h1 : y ≠ infR) (h2 : y ≠ minf) (hk : key HI ≤ key y) : T ≤ sv y * D := by
 have nl := (tg_nn h).2
 have hne : HI ≠ infR := fun e => by
   rw [e, key_inf] at hk
   have := (key_le ny).1
   exact h1 ((key_eq_inf hy ny).1 (by omega))
 have := tg_hi h hD (fin_of h.h1 nl hne h.h3)
 have := mul_le hD (sv_mono hk)
 omega
end
theorem ti_tg {x m : Nat} {n : Int} (nx : isNaN x = false) (fx : mg x < infR) (hn : n = (m : Int)) (hm0 : 0 < m) (hm : m ≤ 1024) :
   Tg (sn (tiS x m) (tiN x m) * (K74 : Int)) (tiD x m : Int) (powR (-1) x n) (powR 1 x n) (powR 0 x n) := by
 have := tg_of (s := tiS x m) (tiD_pos x m) (tiS_zero (x := x) (m := m))
 rwa [ti_rnd nx fx hn hm0 hm, ti_rnd nx fx hn hm0 hm, ti_rnd nx fx hn hm0 hm] at this
theorem rcL_eq (b : Nat) (s : Bool) {N D : Nat} (hD : 0 < D) : rcL b s N D = cmpI (sv b * (D : Int)) (sn s N * (K74 : Int)) ∧ rcR s N D b = cmpI (sn s N * (K74 : Int)) (sv b * (D : Int)) := rc_end (ev_bits b) s hD
structure TiX (x m y1 y2 : Nat) : Prop where
 c1 : y1 = minf ∨ rcL y1 (tiS x m) (tiN x m) (tiD x m) ≤ 0
 c2 : y2 = infR ∨ rcR (tiS x m) (tiN x m) (tiD x m) y2 ≤ 0
end Go.Proofs.YtbcaggdgoidlaaaGreatDoor

namespace Go.Proofs.YtbcaggdgoidlaaaGreatDoor
open Go.RowKit Nm Rn
set_option maxRecDepth 100000
set_option linter.unusedVariables false
set_option linter.unusedSimpArgs false
theorem or_top6 (p : Nat) (h : p < 9223372036854775808) : bits .or .u64 (p : Int) 9223372036854775808 = ((p + 9223372036854775808 : Nat) : Int) := by
 have e : (9223372036854775808 : Int) = ((9223372036854775808 : Nat) : Int) := rfl
 rw [e, u64_or_nat _ _ (by omega) (by omega)]
 congr 1
 rw [Nat.or_comm, nat_join 63 _ _ (by omega) (by omega), Nat.add_comm]
theorem xor_ones (p : Nat) (h : p < 18446744073709551616) : 18446744073709551615 ^^^ p = 18446744073709551615 - p := by
 have h1 : BitVec.allOnes 64 ^^^ BitVec.ofNat 64 p = ~~~(BitVec.ofNat 64 p) := BitVec.allOnes_xor
 have h2 := congrArg BitVec.toNat h1
 rw [BitVec.toNat_xor, BitVec.toNat_not, BitVec.toNat_allOnes, BitVec.toNat_ofNat, Nat.mod_eq_of_lt (show p < 2 ^ 64 by omega)] at h2
 exact h2
theorem not_u64 (p : Nat) (h : p < 18446744073709551616) : bits .xor .u64 IntKind.u64.max (p : Int) = ((18446744073709551615 - p : Nat) : Int) := by
 have e : IntKind.u64.max = ((18446744073709551615 : Nat) : Int) := rfl
 rw [e, u64_xor_nat _ _ (by omega) h, xor_ones p h]
set_option maxHeartbeats 400000 in
theorem key6_any (b : Nat) (w : World) (h : b < 18446744073709551616) :
   Calls Tryz.prog 64 #[.int .u64 (b : Int)] w fun e w' => e = .returned (.int .u64 (rkey b : Nat)) ∧ w = w' := by
 have hp := plain3_any b w h
 have hpl := plN_lt h
 obtain ⟨p, hpe⟩ : ∃ p, p = plN b := ⟨_, rfl⟩
 rw [← hpe] at hp hpl
 have HP := Lib.hid hp
 clear hp
 by_cases h0 : 9223372036854775808 ≤ p
 · have HF : Hid (((18446744073709551615 - p : Nat) : Int) = (rkey b : Nat)) := Lib.hid (by unfold rkey; rw [← hpe, if_pos h0])
   have h1 : decide ((9223372036854775808 : Int) ≤ (p : Int)) = true := decide_eq_true (by omega)
   have h2 := not_u64 p hpl
   have HPL := Lib.hid hpl
   clear hpe h h0 hpl
   go_enter Tryz.func64, Tryz.ntmps64
   go_wp2_with fail
   refine HP.out.mono ?_
   rintro e w1 ⟨rfl, rfl⟩
   go_wp2
   go_ret
   exact ⟨ret_int HF.out, rfl⟩
 · have HF : Hid ((p : Int) + 9223372036854775808 = (rkey b : Nat)) := Lib.hid (by unfold rkey; rw [← hpe, if_neg h0]; omega)
   have h1 : decide ((9223372036854775808 : Int) ≤ (p : Int)) = false := decide_eq_false (by omega)
   have h2 := or_top6 p (by omega)
   clear hpe h h0
   go_enter Tryz.func64, Tryz.ntmps64
   go_wp2_with fail
   refine HP.out.mono ?_
   rintro e w1 ⟨rfl, rfl⟩
   go_wp2
   go_ret
   exact ⟨ret_int HF.out, rfl⟩
set_option maxHeartbeats 400000 in
theorem above6_any (x y : Nat) (w : World) (hx : x < 18446744073709551616) (hy : y < 18446744073709551616) :
   Calls Tryz.prog 36 #[.int .u64 (x : Int), .int .u64 (y : Int)] w fun e w' => e = .returned (.bool (ltB y x)) ∧ w = w' := by
 have hnx := isnan_any x w hx
 have hny := isnan_any y w hy
 have hkx := key6_any x w hx
 have hky := key6_any y w hy
 have hF := (above_lt hx hy).symm
 unfold aboveB at hF
 obtain ⟨K, hK⟩ : ∃ K, K = rkey x := ⟨_, rfl⟩
 obtain ⟨L, hL⟩ : ∃ L, L = rkey y := ⟨_, rfl⟩
 rw [← hK] at hkx hF
 rw [← hL] at hky hF
 have HKX := Lib.hid hkx
 have HKY := Lib.hid hky
 cases h1 : isNaN x <;> cases h2 : isNaN y
 all_goals
   rw [h1] at hnx hF
   rw [h2] at hny hF
   have HF := Lib.hid hF
   have HNX := Lib.hid hnx
   have HNY := Lib.hid hny
   clear hnx hny hkx hky hF hK hL h1 h2 hx hy
   go_enter Tryz.func36, Tryz.ntmps36
   go_wp2_with (first | (go_at_call 56; ((with_reducible refine HNX.out.mono ?_); rintro e w' ⟨rfl, rfl⟩)) | (go_at_call 56; ((with_reducible refine HNY.out.mono ?_); rintro e w' ⟨rfl, rfl⟩)) | (go_at_call 64; ((with_reducible refine HKX.out.mono ?_); rintro e w' ⟨rfl, rfl⟩)) | (go_at_call 64; ((with_reducible refine HKY.out.mono ?_); rintro e w' ⟨rfl, rfl⟩)))
   go_ret
   first
   | exact ⟨ret_bool (by rw [HF.out]; simp), rfl⟩
   | exact ⟨ret_bool (by rw [HF.out, Bool.not_false, Bool.true_and, Bool.true_and]; exact decide_eq_decide.2 (by omega)), rfl⟩
set_option maxHeartbeats 400000 in
theorem sound6_any (lo hi : Nat) (w : World) (hl : lo < 18446744073709551616) (hh : hi < 18446744073709551616) :
   Calls Tryz.prog 25 #[.agg #[.int .u64 (lo : Int), .int .u64 (hi : Int)]] w fun e w' => e = .returned (.bool (sndB lo hi)) ∧ Ext w w' := by
 have hnx := fun w => isnan_any lo w hl
 have hny := fun w => isnan_any hi w hh
 have hab := fun w => above6_any lo hi w hl hh
 have hF := snd_eq hl hh
 unfold sndR at hF
 rw [above_lt hl hh] at hF
 have HI := Lib.hid (show ((lo : Int) != 9218868437227405312) = decide (lo ≠ infR) by rw [infR_val, Bool.eq_iff_iff, bne_iff_ne, decide_eq_true_iff]; omega)
 have HM := Lib.hid (show ((hi : Int) != 18442240474082181120) = decide (hi ≠ minf) by rw [minf_val, Bool.eq_iff_iff, bne_iff_ne, decide_eq_true_iff]; omega)
 obtain ⟨a, ha⟩ : ∃ a, a = decide (lo ≠ infR) := ⟨_, rfl⟩
 obtain ⟨b, hb⟩ : ∃ b, b = decide (hi ≠ minf) := ⟨_, rfl⟩
 rw [← ha] at hF HI
 rw [← hb] at hF HM
 have hI := HI.out
 have hM := HM.out
 have HAB := Lib.hid hab
 clear ha hb HI HM hab
 cases h1 : isNaN lo <;> cases h2 : isNaN hi <;> cases h3 : ltB hi lo <;> cases a <;> cases b
 all_goals
   rw [h1, h2, h3] at hF
   have HF := Lib.hid hF
   have HAB2 := Lib.hid (fun w => h3 ▸ HAB.out w)
   have HNX := Lib.hid (fun w => h1 ▸ hnx w)
   have HNY := Lib.hid (fun w => h2 ▸ hny w)
   clear hnx hny hF h1 h2 h3 hl hh HAB
   go_enter Tryz.func25, Tryz.ntmps25
   go_wp2_with (first | (go_at_call 56; ((with_reducible refine (HNX.out _).mono ?_); rintro e w' ⟨rfl, rfl⟩)) | (go_at_call 56; ((with_reducible refine (HNY.out _).mono ?_); rintro e w' ⟨rfl, rfl⟩)) | (go_at_call 36; ((with_reducible refine (HAB2.out _).mono ?_); rintro e w' ⟨rfl, rfl⟩)))
   go_ret
   exact ⟨ret_bool (by rw [HF.out]; rfl), (Ext.refl w).alloc _⟩
def RetI (lo hi : Nat) (w : World) (e : Ending) (w' : World) : Prop := e = .returned (.agg #[.int .u64 (lo : Int), .int .u64 (hi : Int)]) ∧ Ext w w'
set_option maxHeartbeats 400000 in
theorem empty6_any (w : World) : Calls Tryz.prog 6 #[] w (RetI infR minf w) := by
 go_enter Tryz.func6, Tryz.ntmps6
 go_wp2
 exact bodyPost_ret (v := .agg #[.int .u64 9218868437227405312, .int .u64 18442240474082181120]) (by simp [results, Tryz.results6, go_sem]) rfl ⟨rfl, (Ext.refl w).alloc _⟩
theorem Blk.new2 (w : World) (o : Obj) (t : TypeId) (cs : Array Value) : Blk ((w.alloc o).alloc (.cells cs t)) (w.heap.size + 1) t cs := by
 have := Blk.new (w.alloc o) t cs
 rwa [show (w.alloc o).heap.size = w.heap.size + 1 by simp] at this
theorem plain_rd {lo hi : Nat} (h : sndB lo hi = true) : plN lo = rdLo lo hi ∧ plN hi = rdHi lo hi := by
 obtain ⟨h1, h2⟩ := snd_nan h
 unfold rdLo rdHi
 rw [if_pos h, if_pos h]
 exact ⟨plN_of h1, plN_of h2⟩
theorem empty_rd {lo hi : Nat} (h : sndB lo hi = false) : infR = rdLo lo hi ∧ minf = rdHi lo hi := by
 unfold rdLo rdHi
 rw [if_neg (by simp [h]), if_neg (by simp [h])]
 exact ⟨rfl, rfl⟩
set_option maxHeartbeats 1000000 in
theorem read6_any (lo hi : Nat) (w : World) (hl : lo < 18446744073709551616) (hh : hi < 18446744073709551616) :
   Calls Tryz.prog 4 #[.agg #[.int .u64 (lo : Int), .int .u64 (hi : Int)]] w (RetI (rdLo lo hi) (rdHi lo hi) w) := by
 have hs := fun w => sound6_any lo hi w hl hh
 have hp1 := fun w => plain3_any lo w hl
 have hp2 := fun w => plain3_any hi w hh
 cases hb : sndB lo hi
 · rw [hb] at hs
   obtain ⟨e1, e2⟩ := empty_rd hb
   rw [← e1, ← e2]
   have HS := Lib.hid hs
   clear hs hp1 hp2 hb e1 e2 hl hh
   go_enter Tryz.func4, Tryz.ntmps4
   go_wp2_with fail
   refine (HS.out _).mono ?_
   rintro e w1 ⟨rfl, hE1⟩
   go_wp2_with fail
   refine (empty6_any _).mono ?_
   rintro e w2 ⟨rfl, hE2⟩
   have hE := hE1.trans hE2
   have hblk := (Blk.new2 w (.cells #[.int .u64 (lo : Int), .int .u64 (hi : Int)] 24) 24 #[.int .u64 0, .int .u64 0]).ext hE
   have hEw : Ext w w2 := (((Ext.refl w).alloc _).alloc _).trans hE
   obtain ⟨G, hG⟩ : ∃ G, G = w.heap.size + 1 := ⟨_, rfl⟩
   rw [← hG] at hblk
   rw [← hG]
   have hGw : w.heap.size ≤ G := by omega
   have hGl := hblk.lt
   have q0 : w2.cell? ⟨G, 0, none⟩ = some (.int .u64 0) := hblk.cell 0
   have q1 : w2.cell? ⟨G, 1, none⟩ = some (.int .u64 0) := hblk.cell 1
   have f0 := hblk.frozen 0
   have f1 := hblk.frozen 1
   clear hG hE hE1 hE2
   go_wp2
   exact bodyPost_ret (v := .agg #[.int .u64 (infR : Int), .int .u64 (minf : Int)]) (by simp [results, Tryz.results4, go_sem, hGl, q0, q1]) rfl ⟨rfl, (hEw.setCell hGw _).setCell hGw _⟩
 · rw [hb] at hs
   obtain ⟨e1, e2⟩ := plain_rd hb
   rw [e1] at hp1
   rw [e2] at hp2
   obtain ⟨a, ha⟩ : ∃ a, a = rdLo lo hi := ⟨_, rfl⟩
   obtain ⟨b, hb'⟩ : ∃ b, b = rdHi lo hi := ⟨_, rfl⟩
   rw [← ha] at hp1 ⊢
   rw [← hb'] at hp2 ⊢
   have HS := Lib.hid hs
   have HP1 := Lib.hid hp1
   have HP2 := Lib.hid hp2
   clear hs hp1 hp2 hb e1 e2 hl hh ha hb'
   go_enter Tryz.func4, Tryz.ntmps4
   go_wp2_with fail
   refine (HS.out _).mono ?_
   rintro e w1 ⟨rfl, hE1⟩
   have hblk := (Blk.new2 w (.cells #[.int .u64 (lo : Int), .int .u64 (hi : Int)] 24) 24 #[.int .u64 0, .int .u64 0]).ext hE1
   have hbox := ((Blk.new w 24 #[.int .u64 (lo : Int), .int .u64 (hi : Int)]).ext ((Ext.refl _).alloc (.cells #[.int .u64 0, .int .u64 0] 24))).ext hE1
   have hEw : Ext w w1 := (((Ext.refl w).alloc _).alloc _).trans hE1
   have b0 : w1.cell? ⟨w.heap.size, 0, none⟩ = some (.int .u64 (lo : Int)) := hbox.cell 0
   have b1 : w1.cell? ⟨w.heap.size, 1, none⟩ = some (.int .u64 (hi : Int)) := hbox.cell 1
   obtain ⟨G, hG⟩ : ∃ G, G = w.heap.size + 1 := ⟨_, rfl⟩
   rw [← hG] at hblk
   rw [← hG]
   have hGw : w.heap.size ≤ G := by omega
   have hGl := hblk.lt
   have q0 : w1.cell? ⟨G, 0, none⟩ = some (.int .u64 0) := hblk.cell 0
   have q1 : w1.cell? ⟨G, 1, none⟩ = some (.int .u64 0) := hblk.cell 1
   have f0 := hblk.frozen 0
   have f1 := hblk.frozen 1
   clear hG hE1
   go_wp2_with fail
   refine wp_region_still_tail 7 (by kernel_rfl) (by kernel_rfl) ?_
   simp only [List.take_succ_cons, List.take_zero, List.drop_succ_cons, List.drop_zero]
   still_step
   still_step
   still_call ((HP1.out _).mono fun _ _ h => ⟨h.1, h.2.symm⟩)
   still_step
   still_step
   still_call ((HP2.out _).mono fun _ _ h => ⟨h.1, h.2.symm⟩)
   still_step
   refine wpStill_nil ?_
   change wpList _ _ _ _ _ w1.drew
   go_wp2
   exact bodyPost_ret (v := .agg #[.int .u64 (a : Int), .int .u64 (b : Int)]) (by simp [results, Tryz.results4, go_sem, hGl, q0, q1]) rfl ⟨rfl, (hEw.drew.setCell hGw _).setCell hGw _⟩
end Go.Proofs.YtbcaggdgoidlaaaGreatDoor

namespace Go.Proofs.YtbcaggdgoidlaaaGreatDoor
open Go.RowKit Nm Rn
set_option maxRecDepth 100000
set_option linter.unusedVariables false
set_option linter.unusedSimpArgs false
set_option maxHeartbeats 400000 in
theorem iplain_any (b : Nat) (w : World) (h : b < 18446744073709551616) :
   Calls Tryz.prog 60 #[.float .f64 b] w fun e w' => e = .returned (.float .f64 (pl b)) ∧ w = w' := by
 have hq := fo_eq h (show 0 < 18446744073709551616 by omega)
 rw [eq0 h] at hq
 by_cases h0 : b = 0 ∨ b = 9223372036854775808
 · rw [decide_eq_true h0] at hq
   have HF : Hid (0 = pl b) := Lib.hid (by unfold pl; rcases h0 with h0 | h0 <;> subst h0 <;> rfl)
   clear h0 h
   go_enter Tryz.func60, Tryz.ntmps60
   go_wp2
   go_ret
   exact ⟨ret_float HF.out, rfl⟩
 · rw [decide_eq_false h0] at hq
   have HF : Hid (b = pl b) := Lib.hid (by unfold pl; rw [if_neg (fun h => h0 (.inr h))])
   clear h0 h
   go_enter Tryz.func60, Tryz.ntmps60
   go_wp2
   go_ret
   exact ⟨ret_float HF.out, rfl⟩
set_option maxHeartbeats 1000000 in
theorem isound_any (lo hi : Nat) (w : World) (hl : lo < 18446744073709551616) (hh : hi < 18446744073709551616) :
   Calls Tryz.prog 59 #[.float .f64 lo, .float .f64 hi] w fun e w' => e = .returned (.bool (sndB lo hi)) ∧ w = w' := by
 have h1 := fo_lt hl hh
 have h1' := fo_eq hl hh
 have h12 := fo_le hl hh
 rw [h1, h1'] at h12
 have h2 := fo_lt hl infR_lt
 have h3 := fo_gt hh minf_lt
 have hF : sndB lo hi = (leB lo hi && ltB lo infR && ltB minf hi) := rfl
 obtain ⟨a, ha⟩ : ∃ a, a = ltB lo hi := ⟨_, rfl⟩
 obtain ⟨a', ha'⟩ : ∃ a', a' = eqB lo hi := ⟨_, rfl⟩
 obtain ⟨b, hb⟩ : ∃ b, b = ltB lo infR := ⟨_, rfl⟩
 obtain ⟨c, hc⟩ : ∃ c, c = ltB minf hi := ⟨_, rfl⟩
 rw [← h12, ← ha, ← ha', ← hb, ← hc] at hF
 rw [← ha] at h1
 rw [← ha'] at h1'
 rw [← hb] at h2
 rw [← hc] at h3
 have HF := Lib.hid hF
 clear h12 hF ha ha' hb hc hl hh
 cases a <;> cases a' <;> cases b <;> cases c
 all_goals
   go_enter Tryz.func59, Tryz.ntmps59
   go_wp2_with (first | (go_at_call 40; ((with_reducible refine (inf_p _).mono ?_); rintro e w' ⟨rfl, rfl⟩)) | (go_at_call 40; ((with_reducible refine (inf_m _).mono ?_); rintro e w' ⟨rfl, rfl⟩)))
   go_ret
   exact ⟨ret_bool (by rw [HF.out]; rfl), rfl⟩
end Go.Proofs.YtbcaggdgoidlaaaGreatDoor

namespace Go.Proofs.YtbcaggdgoidlaaaGreatDoor
open Go.RowKit Nm Rn
set_option maxRecDepth 100000
set_option linter.unusedVariables false
set_option linter.unusedSimpArgs false
def RetF (lo hi : Nat) (w : World) (e : Ending) (w' : World) : Prop := e = .returned (.agg #[.float .f64 lo, .float .f64 hi]) ∧ Ext w w'
set_option maxHeartbeats 400000 in
theorem iempty_any (w : World) : Calls Tryz.prog 31 #[] w (RetF infR minf w) := by
 go_enter Tryz.func31, Tryz.ntmps31
 go_wp2_with (first | (go_at_call 40; ((with_reducible refine (inf_p _).mono ?_); rintro e w' ⟨rfl, rfl⟩)) | (go_at_call 40; ((with_reducible refine (inf_m _).mono ?_); rintro e w' ⟨rfl, rfl⟩)))
 exact bodyPost_ret (v := .agg #[.float .f64 infR, .float .f64 minf]) (by simp [results, Tryz.results31, go_sem]) rfl ⟨rfl, (Ext.refl w).alloc _⟩
set_option maxHeartbeats 400000 in
theorem ientire_any (w : World) : Calls Tryz.prog 38 #[] w (RetF minf infR w) := by
 go_enter Tryz.func38, Tryz.ntmps38
 go_wp2_with (first | (go_at_call 40; ((with_reducible refine (inf_p _).mono ?_); rintro e w' ⟨rfl, rfl⟩)) | (go_at_call 40; ((with_reducible refine (inf_m _).mono ?_); rintro e w' ⟨rfl, rfl⟩)))
 exact bodyPost_ret (v := .agg #[.float .f64 minf, .float .f64 infR]) (by simp [results, Tryz.results38, go_sem]) rfl ⟨rfl, (Ext.refl w).alloc _⟩
set_option maxHeartbeats 1000000 in
theorem iread_any (lo hi : Nat) (w : World) (hl : lo < 18446744073709551616) (hh : hi < 18446744073709551616) :
   Calls Tryz.prog 30 #[.agg #[.float .f64 lo, .float .f64 hi]] w (RetF (rdLo lo hi) (rdHi lo hi) w) := by
 have hs := fun w => isound_any lo hi w hl hh
 have hp1 := fun w => iplain_any lo w hl
 have hp2 := fun w => iplain_any hi w hh
 cases hb : sndB lo hi
 · rw [hb] at hs
   obtain ⟨e1, e2⟩ := empty_rd hb
   rw [← e1, ← e2]
   have HS := Lib.hid hs
   clear hs hp1 hp2 hb e1 e2 hl hh
   go_enter Tryz.func30, Tryz.ntmps30
   go_wp2_with fail
   refine (HS.out _).mono ?_
   rintro e w1 ⟨rfl, rfl⟩
   go_wp2_with fail
   refine (iempty_any _).mono ?_
   rintro e w2 ⟨rfl, hE⟩
   have hblk := (Blk.new2 w (.cells #[.float .f64 lo, .float .f64 hi] 32) 32 #[.float .f64 0, .float .f64 0]).ext hE
   have hEw : Ext w w2 := (((Ext.refl w).alloc _).alloc _).trans hE
   obtain ⟨G, hG⟩ : ∃ G, G = w.heap.size + 1 := ⟨_, rfl⟩
   rw [← hG] at hblk
   rw [← hG]
   have hGw : w.heap.size ≤ G := by omega
   have hGl := hblk.lt
   have q0 : w2.cell? ⟨G, 0, none⟩ = some (.float .f64 0) := hblk.cell 0
   have q1 : w2.cell? ⟨G, 1, none⟩ = some (.float .f64 0) := hblk.cell 1
   have f0 := hblk.frozen 0
   have f1 := hblk.frozen 1
   clear hG hE
   go_wp2
   exact bodyPost_ret (v := .agg #[.float .f64 infR, .float .f64 minf]) (by simp [results, Tryz.results30, go_sem, hGl, q0, q1]) rfl ⟨rfl, (hEw.setCell hGw _).setCell hGw _⟩
 · rw [hb] at hs
   have e1 : pl lo = rdLo lo hi := by unfold rdLo; rw [if_pos hb]
   have e2 : pl hi = rdHi lo hi := by unfold rdHi; rw [if_pos hb]
   rw [e1] at hp1
   rw [e2] at hp2
   obtain ⟨a, ha⟩ : ∃ a, a = rdLo lo hi := ⟨_, rfl⟩
   obtain ⟨b, hb'⟩ : ∃ b, b = rdHi lo hi := ⟨_, rfl⟩
   rw [← ha] at hp1 ⊢
   rw [← hb'] at hp2 ⊢
   have HS := Lib.hid hs
   have HP1 := Lib.hid hp1
   have HP2 := Lib.hid hp2
   clear hs hp1 hp2 hb e1 e2 hl hh ha hb'
   go_enter Tryz.func30, Tryz.ntmps30
   go_wp2_with fail
   refine (HS.out _).mono ?_
   rintro e w1 ⟨rfl, rfl⟩
   generalize hX : (w.alloc (.cells #[.float .f64 lo, .float .f64 hi] 32)).alloc (.cells #[.float .f64 0, .float .f64 0] 32) = w1
   have hE1 : Ext ((w.alloc (.cells #[.float .f64 lo, .float .f64 hi] 32)).alloc (.cells #[.float .f64 0, .float .f64 0] 32)) w1 := by rw [← hX]; exact Ext.refl _
   clear hX
   have hblk := (Blk.new2 w (.cells #[.float .f64 lo, .float .f64 hi] 32) 32 #[.float .f64 0, .float .f64 0]).ext hE1
   have hbox := ((Blk.new w 32 #[.float .f64 lo, .float .f64 hi]).ext ((Ext.refl _).alloc (.cells #[.float .f64 0, .float .f64 0] 32))).ext hE1
   have hEw : Ext w w1 := (((Ext.refl w).alloc _).alloc _).trans hE1
   have b0 : w1.cell? ⟨w.heap.size, 0, none⟩ = some (.float .f64 lo) := hbox.cell 0
   have b1 : w1.cell? ⟨w.heap.size, 1, none⟩ = some (.float .f64 hi) := hbox.cell 1
   obtain ⟨G, hG⟩ : ∃ G, G = w.heap.size + 1 := ⟨_, rfl⟩
   rw [← hG] at hblk
   rw [← hG]
   have hGw : w.heap.size ≤ G := by omega
   have hGl := hblk.lt
   have q0 : w1.cell? ⟨G, 0, none⟩ = some (.float .f64 0) := hblk.cell 0
   have q1 : w1.cell? ⟨G, 1, none⟩ = some (.float .f64 0) := hblk.cell 1
   have f0 := hblk.frozen 0
   have f1 := hblk.frozen 1
   clear hG hE1
   go_wp2_with fail
   refine wp_region_still_tail 7 (by kernel_rfl) (by kernel_rfl) ?_
   simp only [List.take_succ_cons, List.take_zero, List.drop_succ_cons, List.drop_zero]
   still_step
   still_step
   still_call ((HP1.out _).mono fun _ _ h => ⟨h.1, h.2.symm⟩)
   still_step
   still_step
   still_call ((HP2.out _).mono fun _ _ h => ⟨h.1, h.2.symm⟩)
   still_step
   refine wpStill_nil ?_
   change wpList _ _ _ _ _ w1.drew
   go_wp2
   exact bodyPost_ret (v := .agg #[.float .f64 a, .float .f64 b]) (by simp [results, Tryz.results30, go_sem, hGl, q0, q1]) rfl ⟨rfl, (hEw.drew.setCell hGw _).setCell hGw _⟩
end Go.Proofs.YtbcaggdgoidlaaaGreatDoor

namespace Go.Proofs.YtbcaggdgoidlaaaGreatDoor
open Go.RowKit Nm Rn
set_option maxRecDepth 100000
set_option linter.unusedVariables false
set_option linter.unusedSimpArgs false
theorem two_boxes (w : World) (s t : TypeId) (x y p q : Value) : ∃ w1, w1 = (w.alloc (.cells #[x, y] s)).alloc (.cells #[p, q] t) ∧ Ext w w1 ∧ w1.cell? ⟨w.heap.size, 0, none⟩ = some x ∧ w1.cell? ⟨w.heap.size, 1, none⟩ = some y ∧
   Blk w1 (w.heap.size + 1) t #[p, q] := by
 have hb := (Blk.new w s #[x, y]).ext ((Ext.refl _).alloc (.cells #[p, q] t))
 exact ⟨_, rfl, ((Ext.refl w).alloc _).alloc _, hb.cell 0, hb.cell 1, Blk.new2 w _ t #[p, q]⟩
set_option maxHeartbeats 1000000 in
theorem out7_any (lo hi : Nat) (w : World) :
   Calls Tryz.prog 8 #[.agg #[.float .f64 lo, .float .f64 hi]] w (RetI lo hi w) := by
 obtain ⟨w1, hw1, hEw, b0, b1, hblk⟩ := two_boxes w 32 24 (.float .f64 lo) (.float .f64 hi) (.int .u64 0) (.int .u64 0)
 go_enter Tryz.func8, Tryz.ntmps8
 go_wp2_with fail
 rw [← hw1]
 clear hw1
 obtain ⟨G, hG⟩ : ∃ G, G = w.heap.size + 1 := ⟨_, rfl⟩
 rw [← hG] at hblk
 rw [← hG]
 have hGw : w.heap.size ≤ G := by omega
 have hGl := hblk.lt
 have q0 : w1.cell? ⟨G, 0, none⟩ = some (.int .u64 0) := hblk.cell 0
 have q1 : w1.cell? ⟨G, 1, none⟩ = some (.int .u64 0) := hblk.cell 1
 have f0 := hblk.frozen 0
 have f1 := hblk.frozen 1
 clear hG
 go_still_tail 7, (by kernel_rfl)
 change wpList _ _ _ _ _ w1.drew
 go_wp2
 exact bodyPost_ret (v := .agg #[.int .u64 (lo : Int), .int .u64 (hi : Int)]) (by simp [results, Tryz.results8, go_sem, hGl, q0, q1]) rfl ⟨rfl, (hEw.drew.setCell hGw _).setCell hGw _⟩
set_option maxHeartbeats 1000000 in
theorem in7_any (lo hi : Nat) (w : World) :
   Calls Tryz.prog 10 #[.agg #[.int .u64 (lo : Int), .int .u64 (hi : Int)]] w (RetF lo hi w) := by
 obtain ⟨w1, hw1, hEw, b0, b1, hblk⟩ := two_boxes w 24 32 (.int .u64 (lo : Int)) (.int .u64 (hi : Int)) (.float .f64 0) (.float .f64 0)
 go_enter Tryz.func10, Tryz.ntmps10
 go_wp2_with fail
 rw [← hw1]
 clear hw1
 obtain ⟨G, hG⟩ : ∃ G, G = w.heap.size + 1 := ⟨_, rfl⟩
 rw [← hG] at hblk
 rw [← hG]
 have hGw : w.heap.size ≤ G := by omega
 have hGl := hblk.lt
 have q0 : w1.cell? ⟨G, 0, none⟩ = some (.float .f64 0) := hblk.cell 0
 have q1 : w1.cell? ⟨G, 1, none⟩ = some (.float .f64 0) := hblk.cell 1
 have f0 := hblk.frozen 0
 have f1 := hblk.frozen 1
 clear hG
 go_still_tail 7, (by kernel_rfl)
 change wpList _ _ _ _ _ w1.drew
 go_wp2
 exact bodyPost_ret (v := .agg #[.float .f64 lo, .float .f64 hi]) (by simp [results, Tryz.results10, go_sem, hGl, q0, q1]) rfl ⟨rfl, (hEw.drew.setCell hGw _).setCell hGw _⟩
end Go.Proofs.YtbcaggdgoidlaaaGreatDoor

namespace Go.Proofs.YtbcaggdgoidlaaaGreatDoor
open Go.RowKit Nm Rn
set_option maxRecDepth 100000
set_option linter.unusedVariables false
set_option linter.unusedSimpArgs false
end Go.Proofs.YtbcaggdgoidlaaaGreatDoor

namespace Go.Proofs.YtbcaggdgoidlaaaGreatDoor
open Go.RowKit Nm Rn
set_option maxRecDepth 100000
set_option linter.unusedVariables false
set_option linter.unusedSimpArgs false
theorem eqI (a b c d : Int) (w : World) : (binOp .eql 24 (.agg #[.int .u64 a, .int .u64 b]) (.agg #[.int .u64 c, .int .u64 d])).run Tryz.prog w = .ok (.bool (a == c && b == d)) w := by
 cases h1 : (a == c) <;> cases h2 : (b == d) <;> go_simp <;> simp [h1, h2]
theorem eqI' {a b c d : Int} {E : Bool} (h : (a == c && b == d) = E) (w : World) : (binOp .eql 24 (.agg #[.int .u64 a, .int .u64 b]) (.agg #[.int .u64 c, .int .u64 d])).run Tryz.prog w = .ok (.bool E) w := by rw [eqI, h]
set_option maxHeartbeats 1000000 in
theorem valid6_any (lo hi : Nat) (w : World) (hl : lo < 18446744073709551616) (hh : hi < 18446744073709551616) :
   Calls Tryz.prog 37 #[.agg #[.int .u64 (lo : Int), .int .u64 (hi : Int)]] w fun e w' => e = .returned (.bool (vldB lo hi)) ∧ Ext w w' := by
 have hs := fun w => sound6_any lo hi w hl hh
 have hF : vldB lo hi = vldB lo hi := rfl
 conv at hF => rhs; unfold vldB
 have hE : ((lo : Int) == (infR : Nat) && (hi : Int) == (minf : Nat)) = (decide (lo = infR) && decide (hi = minf)) := by
   congr 1
   · rw [Bool.eq_iff_iff, beq_iff_eq, decide_eq_true_iff]; omega
   · rw [Bool.eq_iff_iff, beq_iff_eq, decide_eq_true_iff]; omega
 have HC := Lib.hid (show ((lo : Int) != 9223372036854775808) = decide (lo ≠ 9223372036854775808) by rw [Bool.eq_iff_iff, bne_iff_ne, decide_eq_true_iff]; omega)
 have HD := Lib.hid (show ((hi : Int) != 9223372036854775808) = decide (hi ≠ 9223372036854775808) by rw [Bool.eq_iff_iff, bne_iff_ne, decide_eq_true_iff]; omega)
 obtain ⟨E, hEE⟩ : ∃ E, E = (decide (lo = infR) && decide (hi = minf)) := ⟨_, rfl⟩
 obtain ⟨c, hc⟩ : ∃ c, c = decide (lo ≠ 9223372036854775808) := ⟨_, rfl⟩
 obtain ⟨d, hd⟩ : ∃ d, d = decide (hi ≠ 9223372036854775808) := ⟨_, rfl⟩
 rw [← hEE, ← hc, ← hd] at hF
 rw [← hEE] at hE
 rw [← hc] at HC
 rw [← hd] at HD
 have hC := HC.out
 have hD := HD.out
 have hq := eqI' hE
 obtain ⟨R, hR⟩ : ∃ R, R = vldB lo hi := ⟨_, rfl⟩
 rw [← hR] at hF ⊢
 obtain ⟨V, hV⟩ : ∃ V, V = sndB lo hi := ⟨_, rfl⟩
 rw [← hV] at hF hs
 have HF := Lib.hid hF
 have HS := Lib.hid hs
 clear hEE hc hd HC HD hR hE hs hF hV hl hh
 go_enter Tryz.func37, Tryz.ntmps37
 go_wp2_with fail
 go_region_with (go_at_call 6; refine (empty6_any _).mono ?_; rintro e w2 ⟨rfl, hE2⟩; have hbx := Blk.ext (w := (w.alloc (.cells #[.int .u64 (lo : Int), .int .u64 (hi : Int)] 24)).drew) (Blk.new w 24 #[.int .u64 (lo : Int), .int .u64 (hi : Int)]) hE2; have b0 : w2.cell? ⟨w.heap.size, 0, none⟩ = some (.int .u64 (lo : Int)) := hbx.cell 0; have b1 : w2.cell? ⟨w.heap.size, 1, none⟩ = some (.int .u64 (hi : Int)) := hbx.cell 1; have hlt := hbx.lt; clear hbx)
 all_goals
   have hEw : Ext w w2 := (((Ext.refl w).alloc _).drew).trans hE2
   have HE := Lib.hid hEw
   clear hEw hE2 hq
   cases E
   · cases V <;> cases c <;> cases d
     all_goals
       go_wp2_with fail
       refine (HS.out _).mono ?_
       rintro e w3 ⟨rfl, hE3⟩
       have b2 : w3.cell? ⟨w.heap.size, 0, none⟩ = some (.int .u64 (lo : Int)) := (hE3.cell (p := ⟨w.heap.size, 0, none⟩) hlt).trans b0
       have b3 : w3.cell? ⟨w.heap.size, 1, none⟩ = some (.int .u64 (hi : Int)) := (hE3.cell (p := ⟨w.heap.size, 1, none⟩) hlt).trans b1
       go_wp2
       go_ret
       exact ⟨ret_bool (by rw [HF.out]; rfl), HE.out.trans hE3⟩
   · go_wp2
     go_ret
     exact ⟨ret_bool (by rw [HF.out]; rfl), HE.out⟩
end Go.Proofs.YtbcaggdgoidlaaaGreatDoor
