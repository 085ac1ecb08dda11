/-
  The contracts of the document's own intervals, first part: how patterns stand to each other, how two ends are read. Conditions: those that each theorem names.
-/
import Derived.Test.YtmcfflecaklpcaaZ03
import Derived.Test.YtmcfflecaklpcaaZ08
import Derived.StillTailTactics
import Derived.Deep.QuietTactic
import Derived.BigQuiet
import Derived.Deep.RegionWith
import Derived.Test.YtmcfflecaklpcaaZ05
import Derived.Outline
import Derived.Test.YtmcfflecaklpcaaZ06
import Derived.Test.YtmcfflecaklpcaaZ07
namespace Go.Proofs.Ytmcfflecaklpcaa
open Go.RowKit Nm Rn
set_option maxRecDepth 100000
set_option linter.unusedVariables false
set_option linter.unusedSimpArgs false

theorem or_top6 (p : Nat) (h : p < 9223372036854775808) : bits .or .u64 (p : Int) 9223372036854775808 = ((p + 9223372036854775808 : Nat) : Int) := by
  have e : (9223372036854775808 : Int) = ((9223372036854775808 : Nat) : Int) := rfl
  rw [e, u64_or_nat _ _ (by omega) (by omega)]
  congr 1
  rw [Nat.or_comm, nat_join 63 _ _ (by omega) (by omega), Nat.add_comm]

theorem xor_ones (p : Nat) (h : p < 18446744073709551616) : 18446744073709551615 ^^^ p = 18446744073709551615 - p := by
  have h1 : BitVec.allOnes 64 ^^^ BitVec.ofNat 64 p = ~~~(BitVec.ofNat 64 p) := BitVec.allOnes_xor
  have h2 := congrArg BitVec.toNat h1
  rw [BitVec.toNat_xor, BitVec.toNat_not, BitVec.toNat_allOnes, BitVec.toNat_ofNat, Nat.mod_eq_of_lt (show p < 2 ^ 64 by omega)] at h2
  exact h2
theorem not_u64 (p : Nat) (h : p < 18446744073709551616) : bits .xor .u64 IntKind.u64.max (p : Int) = ((18446744073709551615 - p : Nat) : Int) := by
  have e : IntKind.u64.max = ((18446744073709551615 : Nat) : Int) := rfl
  rw [e, u64_xor_nat _ _ (by omega) h, xor_ones p h]

set_option maxHeartbeats 400000 in
theorem key6_any (b : Nat) (w : World) (h : b < 18446744073709551616) :
    Calls Try.prog 174 #[.int .u64 (b : Int)] w fun e w' => e = .returned (.int .u64 (rkey b : Nat)) ∧ w = w' := by
  have hp := plain3_any b w h
  have hpl := plN_lt h
  obtain ⟨p, hpe⟩ : ∃ p, p = plN b := ⟨_, rfl⟩
  rw [← hpe] at hp hpl
  have HP := Lib.hid hp
  clear hp
  by_cases h0 : 9223372036854775808 ≤ p
  · have HF : Hid (((18446744073709551615 - p : Nat) : Int) = (rkey b : Nat)) := Lib.hid (by unfold rkey; rw [← hpe, if_pos h0])
    have h1 : decide ((9223372036854775808 : Int) ≤ (p : Int)) = true := decide_eq_true (by omega)
    have h2 := not_u64 p hpl
    have HPL := Lib.hid hpl
    clear hpe h h0 hpl
    go_enter Try.func174, Try.ntmps174
    go_wp2_with fail
    refine HP.out.mono ?_
    rintro e w1 ⟨rfl, rfl⟩
    go_wp2
    go_ret
    exact ⟨ret_int HF.out, rfl⟩
  · have HF : Hid ((p : Int) + 9223372036854775808 = (rkey b : Nat)) := Lib.hid (by unfold rkey; rw [← hpe, if_neg h0]; omega)
    have h1 : decide ((9223372036854775808 : Int) ≤ (p : Int)) = false := decide_eq_false (by omega)
    have h2 := or_top6 p (by omega)
    clear hpe h h0
    go_enter Try.func174, Try.ntmps174
    go_wp2_with fail
    refine HP.out.mono ?_
    rintro e w1 ⟨rfl, rfl⟩
    go_wp2
    go_ret
    exact ⟨ret_int HF.out, rfl⟩

set_option maxHeartbeats 400000 in
theorem above6_any (x y : Nat) (w : World) (hx : x < 18446744073709551616) (hy : y < 18446744073709551616) :
    Calls Try.prog 151 #[.int .u64 (x : Int), .int .u64 (y : Int)] w fun e w' => e = .returned (.bool (ltB y x)) ∧ w = w' := by
  have hnx := isnan_any x w hx
  have hny := isnan_any y w hy
  have hkx := key6_any x w hx
  have hky := key6_any y w hy
  have hF := (above_lt hx hy).symm
  unfold aboveB at hF
  obtain ⟨K, hK⟩ : ∃ K, K = rkey x := ⟨_, rfl⟩
  obtain ⟨L, hL⟩ : ∃ L, L = rkey y := ⟨_, rfl⟩
  rw [← hK] at hkx hF
  rw [← hL] at hky hF
  have HKX := Lib.hid hkx
  have HKY := Lib.hid hky
  cases h1 : isNaN x <;> cases h2 : isNaN y
  all_goals
    rw [h1] at hnx hF
    rw [h2] at hny hF
    have HF := Lib.hid hF
    have HNX := Lib.hid hnx
    have HNY := Lib.hid hny
    clear hnx hny hkx hky hF hK hL h1 h2 hx hy
    go_enter Try.func151, Try.ntmps151
    go_wp2_with (first | (go_at_call 45; ((with_reducible refine HNX.out.mono ?_); rintro e w' ⟨rfl, rfl⟩)) | (go_at_call 45; ((with_reducible refine HNY.out.mono ?_); rintro e w' ⟨rfl, rfl⟩)) | (go_at_call 174; ((with_reducible refine HKX.out.mono ?_); rintro e w' ⟨rfl, rfl⟩)) | (go_at_call 174; ((with_reducible refine HKY.out.mono ?_); rintro e w' ⟨rfl, rfl⟩)))
    go_ret
    first
    | exact ⟨ret_bool (by rw [HF.out]; simp), rfl⟩
    | exact ⟨ret_bool (by rw [HF.out, Bool.not_false, Bool.true_and, Bool.true_and]; exact decide_eq_decide.2 (by omega)), rfl⟩

set_option maxHeartbeats 400000 in
theorem sound6_any (lo hi : Nat) (w : World) (hl : lo < 18446744073709551616) (hh : hi < 18446744073709551616) :
    Calls Try.prog 116 #[.agg #[.int .u64 (lo : Int), .int .u64 (hi : Int)]] w fun e w' => e = .returned (.bool (sndB lo hi)) ∧ Ext w w' := by
  have hnx := fun w => isnan_any lo w hl
  have hny := fun w => isnan_any hi w hh
  have hab := fun w => above6_any lo hi w hl hh
  have hF := snd_eq hl hh
  unfold sndR at hF
  rw [above_lt hl hh] at hF
  have HI := Lib.hid (show ((lo : Int) != 9218868437227405312) = decide (lo ≠ infR) by rw [infR_val, Bool.eq_iff_iff, bne_iff_ne, decide_eq_true_iff]; omega)
  have HM := Lib.hid (show ((hi : Int) != 18442240474082181120) = decide (hi ≠ minf) by rw [minf_val, Bool.eq_iff_iff, bne_iff_ne, decide_eq_true_iff]; omega)
  obtain ⟨a, ha⟩ : ∃ a, a = decide (lo ≠ infR) := ⟨_, rfl⟩
  obtain ⟨b, hb⟩ : ∃ b, b = decide (hi ≠ minf) := ⟨_, rfl⟩
  rw [← ha] at hF HI
  rw [← hb] at hF HM
  have hI := HI.out
  have hM := HM.out
  have HAB := Lib.hid hab
  clear ha hb HI HM hab
  cases h1 : isNaN lo <;> cases h2 : isNaN hi <;> cases h3 : ltB hi lo <;> cases a <;> cases b
  all_goals
    rw [h1, h2, h3] at hF
    have HF := Lib.hid hF
    have HAB2 := Lib.hid (fun w => h3 ▸ HAB.out w)
    have HNX := Lib.hid (fun w => h1 ▸ hnx w)
    have HNY := Lib.hid (fun w => h2 ▸ hny w)
    clear hnx hny hF h1 h2 h3 hl hh HAB
    go_enter Try.func116, Try.ntmps116
    go_wp2_with (first | (go_at_call 45; ((with_reducible refine (HNX.out _).mono ?_); rintro e w' ⟨rfl, rfl⟩)) | (go_at_call 45; ((with_reducible refine (HNY.out _).mono ?_); rintro e w' ⟨rfl, rfl⟩)) | (go_at_call 151; ((with_reducible refine (HAB2.out _).mono ?_); rintro e w' ⟨rfl, rfl⟩)))
    go_ret
    exact ⟨ret_bool (by rw [HF.out]; rfl), (Ext.refl w).alloc _⟩

/-- A result of two patterns. -/
def RetI (lo hi : Nat) (w : World) (e : Ending) (w' : World) : Prop := e = .returned (.agg #[.int .u64 (lo : Int), .int .u64 (hi : Int)]) ∧ Ext w w'

set_option maxHeartbeats 400000 in
theorem empty6_any (w : World) : Calls Try.prog 76 #[] w (RetI infR minf w) := by
  go_enter Try.func76, Try.ntmps76
  go_wp2
  exact bodyPost_ret (v := .agg #[.int .u64 9218868437227405312, .int .u64 18442240474082181120]) (by simp [results, Try.results76, go_sem]) rfl ⟨rfl, (Ext.refl w).alloc _⟩
set_option maxHeartbeats 400000 in
theorem entire6_any (w : World) : Calls Try.prog 127 #[] w (RetI minf infR w) := by
  go_enter Try.func127, Try.ntmps127
  go_wp2
  exact bodyPost_ret (v := .agg #[.int .u64 18442240474082181120, .int .u64 9218868437227405312]) (by simp [results, Try.results127, go_sem]) rfl ⟨rfl, (Ext.refl w).alloc _⟩

theorem Blk.new2 (w : World) (o : Obj) (t : TypeId) (cs : Array Value) : Blk ((w.alloc o).alloc (.cells cs t)) (w.heap.size + 1) t cs := by
  have := Blk.new (w.alloc o) t cs
  rwa [show (w.alloc o).heap.size = w.heap.size + 1 by simp] at this
theorem plain_rd {lo hi : Nat} (h : sndB lo hi = true) : plN lo = rdLo lo hi ∧ plN hi = rdHi lo hi := by
  obtain ⟨h1, h2⟩ := snd_nan h
  unfold rdLo rdHi
  rw [if_pos h, if_pos h]
  exact ⟨plN_of h1, plN_of h2⟩
theorem empty_rd {lo hi : Nat} (h : sndB lo hi = false) : infR = rdLo lo hi ∧ minf = rdHi lo hi := by
  unfold rdLo rdHi
  rw [if_neg (by simp [h]), if_neg (by simp [h])]
  exact ⟨rfl, rfl⟩

set_option maxHeartbeats 1000000 in
theorem read6_any (lo hi : Nat) (w : World) (hl : lo < 18446744073709551616) (hh : hi < 18446744073709551616) :
    Calls Try.prog 75 #[.agg #[.int .u64 (lo : Int), .int .u64 (hi : Int)]] w (RetI (rdLo lo hi) (rdHi lo hi) w) := by
  have hs := fun w => sound6_any lo hi w hl hh
  have hp1 := fun w => plain3_any lo w hl
  have hp2 := fun w => plain3_any hi w hh
  cases hb : sndB lo hi
  · rw [hb] at hs
    obtain ⟨e1, e2⟩ := empty_rd hb
    rw [← e1, ← e2]
    have HS := Lib.hid hs
    clear hs hp1 hp2 hb e1 e2 hl hh
    go_enter Try.func75, Try.ntmps75
    go_wp2_with fail
    refine (HS.out _).mono ?_
    rintro e w1 ⟨rfl, hE1⟩
    go_wp2_with fail
    refine (empty6_any _).mono ?_
    rintro e w2 ⟨rfl, hE2⟩
    have hE := hE1.trans hE2
    have hblk := (Blk.new2 w (.cells #[.int .u64 (lo : Int), .int .u64 (hi : Int)] 49) 49 #[.int .u64 0, .int .u64 0]).ext hE
    have hEw : Ext w w2 := (((Ext.refl w).alloc _).alloc _).trans hE
    obtain ⟨G, hG⟩ : ∃ G, G = w.heap.size + 1 := ⟨_, rfl⟩
    rw [← hG] at hblk
    rw [← hG]
    have hGw : w.heap.size ≤ G := by omega
    have hGl := hblk.lt
    have q0 : w2.cell? ⟨G, 0, none⟩ = some (.int .u64 0) := hblk.cell 0
    have q1 : w2.cell? ⟨G, 1, none⟩ = some (.int .u64 0) := hblk.cell 1
    have f0 := hblk.frozen 0
    have f1 := hblk.frozen 1
    clear hG hE hE1 hE2
    go_wp2
    exact bodyPost_ret (v := .agg #[.int .u64 (infR : Int), .int .u64 (minf : Int)]) (by simp [results, Try.results75, go_sem, hGl, q0, q1]) rfl ⟨rfl, (hEw.setCell hGw _).setCell hGw _⟩
  · rw [hb] at hs
    obtain ⟨e1, e2⟩ := plain_rd hb
    rw [e1] at hp1
    rw [e2] at hp2
    obtain ⟨a, ha⟩ : ∃ a, a = rdLo lo hi := ⟨_, rfl⟩
    obtain ⟨b, hb'⟩ : ∃ b, b = rdHi lo hi := ⟨_, rfl⟩
    rw [← ha] at hp1 ⊢
    rw [← hb'] at hp2 ⊢
    have HS := Lib.hid hs
    have HP1 := Lib.hid hp1
    have HP2 := Lib.hid hp2
    clear hs hp1 hp2 hb e1 e2 hl hh ha hb'
    go_enter Try.func75, Try.ntmps75
    go_wp2_with fail
    refine (HS.out _).mono ?_
    rintro e w1 ⟨rfl, hE1⟩
    have hblk := (Blk.new2 w (.cells #[.int .u64 (lo : Int), .int .u64 (hi : Int)] 49) 49 #[.int .u64 0, .int .u64 0]).ext hE1
    have hbox := ((Blk.new w 49 #[.int .u64 (lo : Int), .int .u64 (hi : Int)]).ext ((Ext.refl _).alloc (.cells #[.int .u64 0, .int .u64 0] 49))).ext hE1
    have hEw : Ext w w1 := (((Ext.refl w).alloc _).alloc _).trans hE1
    have b0 : w1.cell? ⟨w.heap.size, 0, none⟩ = some (.int .u64 (lo : Int)) := hbox.cell 0
    have b1 : w1.cell? ⟨w.heap.size, 1, none⟩ = some (.int .u64 (hi : Int)) := hbox.cell 1
    obtain ⟨G, hG⟩ : ∃ G, G = w.heap.size + 1 := ⟨_, rfl⟩
    rw [← hG] at hblk
    rw [← hG]
    have hGw : w.heap.size ≤ G := by omega
    have hGl := hblk.lt
    have q0 : w1.cell? ⟨G, 0, none⟩ = some (.int .u64 0) := hblk.cell 0
    have q1 : w1.cell? ⟨G, 1, none⟩ = some (.int .u64 0) := hblk.cell 1
    have f0 := hblk.frozen 0
    have f1 := hblk.frozen 1
    clear hG hE1
    go_wp2_with fail
    refine wp_region_still_tail 7 (by kernel_rfl) (by kernel_rfl) ?_
    simp only [List.take_succ_cons, List.take_zero, List.drop_succ_cons, List.drop_zero]
    still_step
    still_step
    still_call ((HP1.out _).mono fun _ _ h => ⟨h.1, h.2.symm⟩)
    still_step
    still_step
    still_call ((HP2.out _).mono fun _ _ h => ⟨h.1, h.2.symm⟩)
    still_step
    refine wpStill_nil ?_
    change wpList _ _ _ _ _ w1.drew
    go_wp2
    exact bodyPost_ret (v := .agg #[.int .u64 (a : Int), .int .u64 (b : Int)]) (by simp [results, Try.results75, go_sem, hGl, q0, q1]) rfl ⟨rfl, (hEw.drew.setCell hGw _).setCell hGw _⟩
end Go.Proofs.Ytmcfflecaklpcaa

/-
  The contracts of the program's intervals, first part: how two ends are read, made, found valid. Conditions: those that each theorem names.
-/
namespace Go.Proofs.Ytmcfflecaklpcaa
open Go.RowKit Nm Rn
set_option maxRecDepth 100000
set_option linter.unusedVariables false
set_option linter.unusedSimpArgs false

set_option maxHeartbeats 400000 in
theorem iplain_any (b : Nat) (w : World) (h : b < 18446744073709551616) :
    Calls Try.prog 115 #[.float .f64 b] w fun e w' => e = .returned (.float .f64 (pl b)) ∧ w = w' := by
  have hq := fo_eq h (show 0 < 18446744073709551616 by omega)
  rw [eq0 h] at hq
  by_cases h0 : b = 0 ∨ b = 9223372036854775808
  · rw [decide_eq_true h0] at hq
    have HF : Hid (0 = pl b) := Lib.hid (by unfold pl; rcases h0 with h0 | h0 <;> subst h0 <;> rfl)
    clear h0 h
    go_enter Try.func115, Try.ntmps115
    go_wp2
    go_ret
    exact ⟨ret_float HF.out, rfl⟩
  · rw [decide_eq_false h0] at hq
    have HF : Hid (b = pl b) := Lib.hid (by unfold pl; rw [if_neg (fun h => h0 (.inr h))])
    clear h0 h
    go_enter Try.func115, Try.ntmps115
    go_wp2
    go_ret
    exact ⟨ret_float HF.out, rfl⟩

set_option maxHeartbeats 1000000 in
theorem isound_any (lo hi : Nat) (w : World) (hl : lo < 18446744073709551616) (hh : hi < 18446744073709551616) :
    Calls Try.prog 114 #[.float .f64 lo, .float .f64 hi] w fun e w' => e = .returned (.bool (sndB lo hi)) ∧ w = w' := by
  have h1 := fo_lt hl hh
  have h1' := fo_eq hl hh
  have h12 := fo_le hl hh
  rw [h1, h1'] at h12
  have h2 := fo_lt hl infR_lt
  have h3 := fo_gt hh minf_lt
  have hF : sndB lo hi = (leB lo hi && ltB lo infR && ltB minf hi) := rfl
  obtain ⟨a, ha⟩ : ∃ a, a = ltB lo hi := ⟨_, rfl⟩
  obtain ⟨a', ha'⟩ : ∃ a', a' = eqB lo hi := ⟨_, rfl⟩
  obtain ⟨b, hb⟩ : ∃ b, b = ltB lo infR := ⟨_, rfl⟩
  obtain ⟨c, hc⟩ : ∃ c, c = ltB minf hi := ⟨_, rfl⟩
  rw [← h12, ← ha, ← ha', ← hb, ← hc] at hF
  rw [← ha] at h1
  rw [← ha'] at h1'
  rw [← hb] at h2
  rw [← hc] at h3
  have HF := Lib.hid hF
  clear h12 hF ha ha' hb hc hl hh
  cases a <;> cases a' <;> cases b <;> cases c
  all_goals
    go_enter Try.func114, Try.ntmps114
    go_wp2_with (first | (go_at_call 104; ((with_reducible refine (inf_p _).mono ?_); rintro e w' ⟨rfl, rfl⟩)) | (go_at_call 104; ((with_reducible refine (inf_m _).mono ?_); rintro e w' ⟨rfl, rfl⟩)))
    go_ret
    exact ⟨ret_bool (by rw [HF.out]; rfl), rfl⟩
end Go.Proofs.Ytmcfflecaklpcaa

/-
  The contracts of the program's intervals, second part: Empty, Entire, Read, New, Point, Valid. Conditions: those that each theorem names.
-/
namespace Go.Proofs.Ytmcfflecaklpcaa
open Go.RowKit Nm Rn
set_option maxRecDepth 100000
set_option linter.unusedVariables false
set_option linter.unusedSimpArgs false

/-- A result of two floats. -/
def RetF (lo hi : Nat) (w : World) (e : Ending) (w' : World) : Prop := e = .returned (.agg #[.float .f64 lo, .float .f64 hi]) ∧ Ext w w'

set_option maxHeartbeats 400000 in
theorem iempty_any (w : World) : Calls Try.prog 74 #[] w (RetF infR minf w) := by
  go_enter Try.func74, Try.ntmps74
  go_wp2_with (first | (go_at_call 104; ((with_reducible refine (inf_p _).mono ?_); rintro e w' ⟨rfl, rfl⟩)) | (go_at_call 104; ((with_reducible refine (inf_m _).mono ?_); rintro e w' ⟨rfl, rfl⟩)))
  exact bodyPost_ret (v := .agg #[.float .f64 infR, .float .f64 minf]) (by simp [results, Try.results74, go_sem]) rfl ⟨rfl, (Ext.refl w).alloc _⟩

set_option maxHeartbeats 1000000 in
theorem iread_any (lo hi : Nat) (w : World) (hl : lo < 18446744073709551616) (hh : hi < 18446744073709551616) :
    Calls Try.prog 72 #[.agg #[.float .f64 lo, .float .f64 hi]] w (RetF (rdLo lo hi) (rdHi lo hi) w) := by
  have hs := fun w => isound_any lo hi w hl hh
  have hp1 := fun w => iplain_any lo w hl
  have hp2 := fun w => iplain_any hi w hh
  cases hb : sndB lo hi
  · rw [hb] at hs
    obtain ⟨e1, e2⟩ := empty_rd hb
    rw [← e1, ← e2]
    have HS := Lib.hid hs
    clear hs hp1 hp2 hb e1 e2 hl hh
    go_enter Try.func72, Try.ntmps72
    go_wp2_with fail
    refine (HS.out _).mono ?_
    rintro e w1 ⟨rfl, rfl⟩
    go_wp2_with fail
    refine (iempty_any _).mono ?_
    rintro e w2 ⟨rfl, hE⟩
    have hblk := (Blk.new2 w (.cells #[.float .f64 lo, .float .f64 hi] 52) 52 #[.float .f64 0, .float .f64 0]).ext hE
    have hEw : Ext w w2 := (((Ext.refl w).alloc _).alloc _).trans hE
    obtain ⟨G, hG⟩ : ∃ G, G = w.heap.size + 1 := ⟨_, rfl⟩
    rw [← hG] at hblk
    rw [← hG]
    have hGw : w.heap.size ≤ G := by omega
    have hGl := hblk.lt
    have q0 : w2.cell? ⟨G, 0, none⟩ = some (.float .f64 0) := hblk.cell 0
    have q1 : w2.cell? ⟨G, 1, none⟩ = some (.float .f64 0) := hblk.cell 1
    have f0 := hblk.frozen 0
    have f1 := hblk.frozen 1
    clear hG hE
    go_wp2
    exact bodyPost_ret (v := .agg #[.float .f64 infR, .float .f64 minf]) (by simp [results, Try.results72, go_sem, hGl, q0, q1]) rfl ⟨rfl, (hEw.setCell hGw _).setCell hGw _⟩
  · rw [hb] at hs
    have e1 : pl lo = rdLo lo hi := by unfold rdLo; rw [if_pos hb]
    have e2 : pl hi = rdHi lo hi := by unfold rdHi; rw [if_pos hb]
    rw [e1] at hp1
    rw [e2] at hp2
    obtain ⟨a, ha⟩ : ∃ a, a = rdLo lo hi := ⟨_, rfl⟩
    obtain ⟨b, hb'⟩ : ∃ b, b = rdHi lo hi := ⟨_, rfl⟩
    rw [← ha] at hp1 ⊢
    rw [← hb'] at hp2 ⊢
    have HS := Lib.hid hs
    have HP1 := Lib.hid hp1
    have HP2 := Lib.hid hp2
    clear hs hp1 hp2 hb e1 e2 hl hh ha hb'
    go_enter Try.func72, Try.ntmps72
    go_wp2_with fail
    refine (HS.out _).mono ?_
    rintro e w1 ⟨rfl, rfl⟩
    generalize hX : (w.alloc (.cells #[.float .f64 lo, .float .f64 hi] 52)).alloc (.cells #[.float .f64 0, .float .f64 0] 52) = w1
    have hE1 : Ext ((w.alloc (.cells #[.float .f64 lo, .float .f64 hi] 52)).alloc (.cells #[.float .f64 0, .float .f64 0] 52)) w1 := by rw [← hX]; exact Ext.refl _
    clear hX
    have hblk := (Blk.new2 w (.cells #[.float .f64 lo, .float .f64 hi] 52) 52 #[.float .f64 0, .float .f64 0]).ext hE1
    have hbox := ((Blk.new w 52 #[.float .f64 lo, .float .f64 hi]).ext ((Ext.refl _).alloc (.cells #[.float .f64 0, .float .f64 0] 52))).ext hE1
    have hEw : Ext w w1 := (((Ext.refl w).alloc _).alloc _).trans hE1
    have b0 : w1.cell? ⟨w.heap.size, 0, none⟩ = some (.float .f64 lo) := hbox.cell 0
    have b1 : w1.cell? ⟨w.heap.size, 1, none⟩ = some (.float .f64 hi) := hbox.cell 1
    obtain ⟨G, hG⟩ : ∃ G, G = w.heap.size + 1 := ⟨_, rfl⟩
    rw [← hG] at hblk
    rw [← hG]
    have hGw : w.heap.size ≤ G := by omega
    have hGl := hblk.lt
    have q0 : w1.cell? ⟨G, 0, none⟩ = some (.float .f64 0) := hblk.cell 0
    have q1 : w1.cell? ⟨G, 1, none⟩ = some (.float .f64 0) := hblk.cell 1
    have f0 := hblk.frozen 0
    have f1 := hblk.frozen 1
    clear hG hE1
    go_wp2_with fail
    refine wp_region_still_tail 7 (by kernel_rfl) (by kernel_rfl) ?_
    simp only [List.take_succ_cons, List.take_zero, List.drop_succ_cons, List.drop_zero]
    still_step
    still_step
    still_call ((HP1.out _).mono fun _ _ h => ⟨h.1, h.2.symm⟩)
    still_step
    still_step
    still_call ((HP2.out _).mono fun _ _ h => ⟨h.1, h.2.symm⟩)
    still_step
    refine wpStill_nil ?_
    change wpList _ _ _ _ _ w1.drew
    go_wp2
    exact bodyPost_ret (v := .agg #[.float .f64 a, .float .f64 b]) (by simp [results, Try.results72, go_sem, hGl, q0, q1]) rfl ⟨rfl, (hEw.drew.setCell hGw _).setCell hGw _⟩

end Go.Proofs.Ytmcfflecaklpcaa

/-
  The contracts of the program's intervals, third part: patterns in and out of them; Valid. Conditions: those that each theorem names.
-/
namespace Go.Proofs.Ytmcfflecaklpcaa
open Go.RowKit Nm Rn
set_option maxRecDepth 100000
set_option linter.unusedVariables false
set_option linter.unusedSimpArgs false

/-- A world in which a box of two words lies, and behind it another one. -/
theorem two_boxes (w : World) (s t : TypeId) (x y p q : Value) : ∃ w1, w1 = (w.alloc (.cells #[x, y] s)).alloc (.cells #[p, q] t) ∧ Ext w w1 ∧ w1.cell? ⟨w.heap.size, 0, none⟩ = some x ∧ w1.cell? ⟨w.heap.size, 1, none⟩ = some y ∧
    Blk w1 (w.heap.size + 1) t #[p, q] := by
  have hb := (Blk.new w s #[x, y]).ext ((Ext.refl _).alloc (.cells #[p, q] t))
  exact ⟨_, rfl, ((Ext.refl w).alloc _).alloc _, hb.cell 0, hb.cell 1, Blk.new2 w _ t #[p, q]⟩

set_option maxHeartbeats 1000000 in
theorem out6_any (lo hi : Nat) (w : World) :
    Calls Try.prog 26 #[.agg #[.float .f64 lo, .float .f64 hi]] w (RetI lo hi w) := by
  obtain ⟨w1, hw1, hEw, b0, b1, hblk⟩ := two_boxes w 52 49 (.float .f64 lo) (.float .f64 hi) (.int .u64 0) (.int .u64 0)
  go_enter Try.func26, Try.ntmps26
  go_wp2_with fail
  rw [← hw1]
  clear hw1
  obtain ⟨G, hG⟩ : ∃ G, G = w.heap.size + 1 := ⟨_, rfl⟩
  rw [← hG] at hblk
  rw [← hG]
  have hGw : w.heap.size ≤ G := by omega
  have hGl := hblk.lt
  have q0 : w1.cell? ⟨G, 0, none⟩ = some (.int .u64 0) := hblk.cell 0
  have q1 : w1.cell? ⟨G, 1, none⟩ = some (.int .u64 0) := hblk.cell 1
  have f0 := hblk.frozen 0
  have f1 := hblk.frozen 1
  clear hG
  go_still_tail 7, (by kernel_rfl)
  change wpList _ _ _ _ _ w1.drew
  go_wp2
  exact bodyPost_ret (v := .agg #[.int .u64 (lo : Int), .int .u64 (hi : Int)]) (by simp [results, Try.results26, go_sem, hGl, q0, q1]) rfl ⟨rfl, (hEw.drew.setCell hGw _).setCell hGw _⟩
set_option maxHeartbeats 1000000 in
theorem in6_any (lo hi : Nat) (w : World) :
    Calls Try.prog 28 #[.agg #[.int .u64 (lo : Int), .int .u64 (hi : Int)]] w (RetF lo hi w) := by
  obtain ⟨w1, hw1, hEw, b0, b1, hblk⟩ := two_boxes w 49 52 (.int .u64 (lo : Int)) (.int .u64 (hi : Int)) (.float .f64 0) (.float .f64 0)
  go_enter Try.func28, Try.ntmps28
  go_wp2_with fail
  rw [← hw1]
  clear hw1
  obtain ⟨G, hG⟩ : ∃ G, G = w.heap.size + 1 := ⟨_, rfl⟩
  rw [← hG] at hblk
  rw [← hG]
  have hGw : w.heap.size ≤ G := by omega
  have hGl := hblk.lt
  have q0 : w1.cell? ⟨G, 0, none⟩ = some (.float .f64 0) := hblk.cell 0
  have q1 : w1.cell? ⟨G, 1, none⟩ = some (.float .f64 0) := hblk.cell 1
  have f0 := hblk.frozen 0
  have f1 := hblk.frozen 1
  clear hG
  go_still_tail 7, (by kernel_rfl)
  change wpList _ _ _ _ _ w1.drew
  go_wp2
  exact bodyPost_ret (v := .agg #[.float .f64 lo, .float .f64 hi]) (by simp [results, Try.results28, go_sem, hGl, q0, q1]) rfl ⟨rfl, (hEw.drew.setCell hGw _).setCell hGw _⟩
set_option maxHeartbeats 1000000 in
theorem out7_any (lo hi : Nat) (w : World) :
    Calls Try.prog 34 #[.agg #[.float .f64 lo, .float .f64 hi]] w (RetI lo hi w) := by
  obtain ⟨w1, hw1, hEw, b0, b1, hblk⟩ := two_boxes w 52 49 (.float .f64 lo) (.float .f64 hi) (.int .u64 0) (.int .u64 0)
  go_enter Try.func34, Try.ntmps34
  go_wp2_with fail
  rw [← hw1]
  clear hw1
  obtain ⟨G, hG⟩ : ∃ G, G = w.heap.size + 1 := ⟨_, rfl⟩
  rw [← hG] at hblk
  rw [← hG]
  have hGw : w.heap.size ≤ G := by omega
  have hGl := hblk.lt
  have q0 : w1.cell? ⟨G, 0, none⟩ = some (.int .u64 0) := hblk.cell 0
  have q1 : w1.cell? ⟨G, 1, none⟩ = some (.int .u64 0) := hblk.cell 1
  have f0 := hblk.frozen 0
  have f1 := hblk.frozen 1
  clear hG
  go_still_tail 7, (by kernel_rfl)
  change wpList _ _ _ _ _ w1.drew
  go_wp2
  exact bodyPost_ret (v := .agg #[.int .u64 (lo : Int), .int .u64 (hi : Int)]) (by simp [results, Try.results34, go_sem, hGl, q0, q1]) rfl ⟨rfl, (hEw.drew.setCell hGw _).setCell hGw _⟩
set_option maxHeartbeats 1000000 in
theorem in7_any (lo hi : Nat) (w : World) :
    Calls Try.prog 36 #[.agg #[.int .u64 (lo : Int), .int .u64 (hi : Int)]] w (RetF lo hi w) := by
  obtain ⟨w1, hw1, hEw, b0, b1, hblk⟩ := two_boxes w 49 52 (.int .u64 (lo : Int)) (.int .u64 (hi : Int)) (.float .f64 0) (.float .f64 0)
  go_enter Try.func36, Try.ntmps36
  go_wp2_with fail
  rw [← hw1]
  clear hw1
  obtain ⟨G, hG⟩ : ∃ G, G = w.heap.size + 1 := ⟨_, rfl⟩
  rw [← hG] at hblk
  rw [← hG]
  have hGw : w.heap.size ≤ G := by omega
  have hGl := hblk.lt
  have q0 : w1.cell? ⟨G, 0, none⟩ = some (.float .f64 0) := hblk.cell 0
  have q1 : w1.cell? ⟨G, 1, none⟩ = some (.float .f64 0) := hblk.cell 1
  have f0 := hblk.frozen 0
  have f1 := hblk.frozen 1
  clear hG
  go_still_tail 7, (by kernel_rfl)
  change wpList _ _ _ _ _ w1.drew
  go_wp2
  exact bodyPost_ret (v := .agg #[.float .f64 lo, .float .f64 hi]) (by simp [results, Try.results36, go_sem, hGl, q0, q1]) rfl ⟨rfl, (hEw.drew.setCell hGw _).setCell hGw _⟩
end Go.Proofs.Ytmcfflecaklpcaa

/-
  Plain: the empty interval. Conditions: those that each theorem names.
-/
set_option linter.unusedVariables false
set_option linter.unusedSimpArgs false
namespace Go.Proofs.Ytmcfflecaklpcaa
open Nm Rn
def emp (lo hi : Nat) : Prop := rdLo lo hi = infR ∧ rdHi lo hi = minf
instance (lo hi : Nat) : Decidable (emp lo hi) := by unfold emp; exact inferInstance
theorem emp_lt {lo hi : Nat} (hl : lo < 18446744073709551616) (hh : hi < 18446744073709551616) : ltB (rdHi lo hi) (rdLo lo hi) = decide (emp lo hi) := by
  by_cases e : emp lo hi
  · rw [decide_eq_true e, e.1, e.2]; decide
  · rw [decide_eq_false e]
    obtain ⟨g1, g2, g3, g4, g5, g6, _, g8⟩ := rd_ends hl hh e
    unfold ltB
    rw [g3, g4, decide_eq_false (by omega)]; rfl
theorem cn_eq {r V : Nat} (h : cn r = V) (hV : isNaN V = false) : r = V := by
  unfold cn at h
  cases hr : isNaN r
  · rw [hr] at h; exact h
  · rw [hr] at h
    rw [← h] at hV
    cases hV

theorem rdLo_lt (lo hi : Nat) (h : lo < 18446744073709551616) : rdLo lo hi < 18446744073709551616 := by
  unfold rdLo; split
  · exact pl_lt h
  · rw [infR_val]; omega
theorem rdHi_lt (lo hi : Nat) (h : hi < 18446744073709551616) : rdHi lo hi < 18446744073709551616 := by
  unfold rdHi; split
  · exact pl_lt h
  · rw [minf_val]; omega

end Go.Proofs.Ytmcfflecaklpcaa

/-
  The contract of the program's empty; its intervals' zero and size. Conditions: those that each theorem names.
-/
namespace Go.Proofs.Ytmcfflecaklpcaa
open Go.RowKit Nm Rn
set_option maxRecDepth 100000
set_option linter.unusedVariables false
set_option linter.unusedSimpArgs false

theorem zero_iv (w : World) : (zeroValue 52).run Try.prog w = .ok (.agg #[.float .f64 0, .float .f64 0]) w := by kernel_rfl
theorem agg_iv (w : World) : (isAgg 52).run Try.prog w = .ok true w := by kernel_rfl
theorem size_iv (w : World) : (sizeOf 52).run Try.prog w = .ok 2 w := by kernel_rfl
set_option maxHeartbeats 1000000 in
theorem iemp_any (lo hi : Nat) (w : World) (hl : lo < 18446744073709551616) (hh : hi < 18446744073709551616) :
    Calls Try.prog 73 #[.agg #[.float .f64 lo, .float .f64 hi]] w fun e w' => e = .returned (.bool (ltB hi lo)) ∧ Ext w w' := by
  have hq := fo_gt hl hh
  obtain ⟨R, hR⟩ : ∃ R, R = ltB hi lo := ⟨_, rfl⟩
  rw [← hR] at hq ⊢
  clear hR hl hh
  go_enter Try.func73, Try.ntmps73
  go_wp2
  go_ret
  exact ⟨ret_bool (by first | rfl | exact hq), (Ext.refl w).alloc _⟩

end Go.Proofs.Ytmcfflecaklpcaa

/-
  What max and min of two floats answer. Conditions: those that each theorem names.
-/
namespace Go.Proofs.Ytmcfflecaklpcaa
open Go.RowKit Nm Rn
set_option maxRecDepth 100000
set_option linter.unusedVariables false
set_option linter.unusedSimpArgs false

theorem lt_key {x y : Nat} (nx : isNaN x = false) (ny : isNaN y = false) : ltB x y = decide (key x < key y) := by unfold ltB; rw [nx, ny]; rfl
theorem eq_key {x y : Nat} (nx : isNaN x = false) (ny : isNaN y = false) : eqB x y = decide (key x = key y) := by unfold eqB; rw [nx, ny]; rfl
theorem le_key {x y : Nat} (nx : isNaN x = false) (ny : isNaN y = false) : leB x y = decide (key x ≤ key y) := by unfold leB; rw [nx, ny]; rfl

theorem max_run {x y : Nat} (hx : x < 18446744073709551616) (hy : y < 18446744073709551616) (nx : isNaN x = false) (ny : isNaN y = false) (h : key x = key y → x = y) (P : Program) (w : World) (ats : Array TypeId) (ty : TypeId) :
    (Builtin.max_ ats ty #[.float .f64 x, .float .f64 y]).run P w = .ok (.float .f64 (if key x < key y then y else x)) w := by
  have h1 := fo_lt hx hy
  have h2 := fo_eq hx hy
  have h3 := fo_gt hx hy
  rw [lt_key nx ny] at h1
  rw [eq_key nx ny] at h2
  rw [lt_key ny nx] at h3
  have hm : (Builtin.max2 (.float .f64 x) (.float .f64 y)).run P w = .ok (.float .f64 (if key x < key y then y else x)) w := by
    rcases Int.lt_trichotomy (key x) (key y) with g | g | g
    · rw [decide_eq_true g] at h1
      rw [if_pos g]
      have e := eq_of_beq h1
      simp only [Builtin.max2, Builtin.min2, e]; rfl
    · rw [decide_eq_true g] at h2
      have e := eq_of_beq h2
      have := h g
      subst this
      rw [if_neg (by omega)]
      simp only [Builtin.max2, Builtin.min2, e, ite_self]; rfl
    · rw [decide_eq_true g] at h3
      rw [if_neg (by omega)]
      have e := eq_of_beq h3
      simp only [Builtin.max2, Builtin.min2, e]; rfl
  unfold Builtin.max_
  simp only [List.foldlM]
  simpa using hm
theorem min_run {x y : Nat} (hx : x < 18446744073709551616) (hy : y < 18446744073709551616) (nx : isNaN x = false) (ny : isNaN y = false) (h : key x = key y → x = y) (P : Program) (w : World) (ats : Array TypeId) (ty : TypeId) :
    (Builtin.min_ ats ty #[.float .f64 x, .float .f64 y]).run P w = .ok (.float .f64 (if key y < key x then y else x)) w := by
  have h1 := fo_lt hx hy
  have h2 := fo_eq hx hy
  have h3 := fo_gt hx hy
  rw [lt_key nx ny] at h1
  rw [eq_key nx ny] at h2
  rw [lt_key ny nx] at h3
  have hm : (Builtin.min2 (.float .f64 x) (.float .f64 y)).run P w = .ok (.float .f64 (if key y < key x then y else x)) w := by
    rcases Int.lt_trichotomy (key x) (key y) with g | g | g
    · rw [decide_eq_true g] at h1
      rw [if_neg (by omega)]
      have e := eq_of_beq h1
      simp only [Builtin.max2, Builtin.min2, e]; rfl
    · rw [decide_eq_true g] at h2
      have e := eq_of_beq h2
      have := h g
      subst this
      rw [if_neg (by omega)]
      simp only [Builtin.max2, Builtin.min2, e, ite_self]; rfl
    · rw [decide_eq_true g] at h3
      rw [if_pos g]
      have e := eq_of_beq h3
      simp only [Builtin.max2, Builtin.min2, e]; rfl
  unfold Builtin.min_
  simp only [List.foldlM]
  simpa using hm
end Go.Proofs.Ytmcfflecaklpcaa
