/-
  The contracts of the document's own intervals, first part: how patterns stand to each other, how two ends are read. Conditions: those that each theorem names.
-/
import Derived.Test.YtadijoeeaineaaaDoorP03
import Derived.Test.YtadijoeeaineaaaDoorP04
import Derived.StillTailTactics
import Derived.Deep.QuietTactic
import Derived.BigQuiet
import Derived.Test.YtadijoeeaineaaaDoorP06
import Derived.Deep.RegionWith
import Derived.Test.YtadijoeeaineaaaDoorP07
import Derived.Outline
import Derived.Test.YtadijoeeaineaaaDoorP22
import Derived.Test.YtadijoeeaineaaaDoorP08
import Derived.Test.YtadijoeeaineaaaDoorP09
import Derived.Test.YtadijoeeaineaaaDoorP12
import Derived.Deep.DeepCutAuto
namespace Go.Proofs.YtadijoeeaineaaaDoor
open Go.RowKit Nm Rn
set_option maxRecDepth 100000
set_option linter.unusedVariables false
set_option linter.unusedSimpArgs false

theorem or_top6 (p : Nat) (h : p < 9223372036854775808) : bits .or .u64 (p : Int) 9223372036854775808 = ((p + 9223372036854775808 : Nat) : Int) := by
  have e : (9223372036854775808 : Int) = ((9223372036854775808 : Nat) : Int) := rfl
  rw [e, u64_or_nat _ _ (by omega) (by omega)]
  congr 1
  rw [Nat.or_comm, nat_join 63 _ _ (by omega) (by omega), Nat.add_comm]

theorem xor_ones (p : Nat) (h : p < 18446744073709551616) : 18446744073709551615 ^^^ p = 18446744073709551615 - p := by
  have h1 : BitVec.allOnes 64 ^^^ BitVec.ofNat 64 p = ~~~(BitVec.ofNat 64 p) := BitVec.allOnes_xor
  have h2 := congrArg BitVec.toNat h1
  rw [BitVec.toNat_xor, BitVec.toNat_not, BitVec.toNat_allOnes, BitVec.toNat_ofNat, Nat.mod_eq_of_lt (show p < 2 ^ 64 by omega)] at h2
  exact h2
theorem not_u64 (p : Nat) (h : p < 18446744073709551616) : bits .xor .u64 IntKind.u64.max (p : Int) = ((18446744073709551615 - p : Nat) : Int) := by
  have e : IntKind.u64.max = ((18446744073709551615 : Nat) : Int) := rfl
  rw [e, u64_xor_nat _ _ (by omega) h, xor_ones p h]

set_option maxHeartbeats 400000 in
theorem key6_any (b : Nat) (w : World) (h : b < 18446744073709551616) :
    Calls Tryd.prog 97 #[.int .u64 (b : Int)] w fun e w' => e = .returned (.int .u64 (rkey b : Nat)) ∧ w = w' := by
  have hp := plain3_any b w h
  have hpl := plN_lt h
  obtain ⟨p, hpe⟩ : ∃ p, p = plN b := ⟨_, rfl⟩
  rw [← hpe] at hp hpl
  have HP := Lib.hid hp
  clear hp
  by_cases h0 : 9223372036854775808 ≤ p
  · have HF : Hid (((18446744073709551615 - p : Nat) : Int) = (rkey b : Nat)) := Lib.hid (by unfold rkey; rw [← hpe, if_pos h0])
    have h1 : decide ((9223372036854775808 : Int) ≤ (p : Int)) = true := decide_eq_true (by omega)
    have h2 := not_u64 p hpl
    have HPL := Lib.hid hpl
    clear hpe h h0 hpl
    go_enter Tryd.func97, Tryd.ntmps97
    go_wp2_with fail
    refine HP.out.mono ?_
    rintro e w1 ⟨rfl, rfl⟩
    go_wp2
    go_ret
    exact ⟨ret_int HF.out, rfl⟩
  · have HF : Hid ((p : Int) + 9223372036854775808 = (rkey b : Nat)) := Lib.hid (by unfold rkey; rw [← hpe, if_neg h0]; omega)
    have h1 : decide ((9223372036854775808 : Int) ≤ (p : Int)) = false := decide_eq_false (by omega)
    have h2 := or_top6 p (by omega)
    clear hpe h h0
    go_enter Tryd.func97, Tryd.ntmps97
    go_wp2_with fail
    refine HP.out.mono ?_
    rintro e w1 ⟨rfl, rfl⟩
    go_wp2
    go_ret
    exact ⟨ret_int HF.out, rfl⟩

set_option maxHeartbeats 400000 in
theorem above6_any (x y : Nat) (w : World) (hx : x < 18446744073709551616) (hy : y < 18446744073709551616) :
    Calls Tryd.prog 35 #[.int .u64 (x : Int), .int .u64 (y : Int)] w fun e w' => e = .returned (.bool (ltB y x)) ∧ w = w' := by
  have hnx := isnan_any x w hx
  have hny := isnan_any y w hy
  have hkx := key6_any x w hx
  have hky := key6_any y w hy
  have hF := (above_lt hx hy).symm
  unfold aboveB at hF
  obtain ⟨K, hK⟩ : ∃ K, K = rkey x := ⟨_, rfl⟩
  obtain ⟨L, hL⟩ : ∃ L, L = rkey y := ⟨_, rfl⟩
  rw [← hK] at hkx hF
  rw [← hL] at hky hF
  have HKX := Lib.hid hkx
  have HKY := Lib.hid hky
  cases h1 : isNaN x <;> cases h2 : isNaN y
  all_goals
    rw [h1] at hnx hF
    rw [h2] at hny hF
    have HF := Lib.hid hF
    have HNX := Lib.hid hnx
    have HNY := Lib.hid hny
    clear hnx hny hkx hky hF hK hL h1 h2 hx hy
    go_enter Tryd.func35, Tryd.ntmps35
    go_wp2_with (first | (go_at_call 66; ((with_reducible refine HNX.out.mono ?_); rintro e w' ⟨rfl, rfl⟩)) | (go_at_call 66; ((with_reducible refine HNY.out.mono ?_); rintro e w' ⟨rfl, rfl⟩)) | (go_at_call 97; ((with_reducible refine HKX.out.mono ?_); rintro e w' ⟨rfl, rfl⟩)) | (go_at_call 97; ((with_reducible refine HKY.out.mono ?_); rintro e w' ⟨rfl, rfl⟩)))
    go_ret
    first
    | exact ⟨ret_bool (by rw [HF.out]; simp), rfl⟩
    | exact ⟨ret_bool (by rw [HF.out, Bool.not_false, Bool.true_and, Bool.true_and]; exact decide_eq_decide.2 (by omega)), rfl⟩

set_option maxHeartbeats 400000 in
theorem sound6_any (lo hi : Nat) (w : World) (hl : lo < 18446744073709551616) (hh : hi < 18446744073709551616) :
    Calls Tryd.prog 96 #[.agg #[.int .u64 (lo : Int), .int .u64 (hi : Int)]] w fun e w' => e = .returned (.bool (sndB lo hi)) ∧ Ext w w' := by
  have hnx := fun w => isnan_any lo w hl
  have hny := fun w => isnan_any hi w hh
  have hab := fun w => above6_any lo hi w hl hh
  have hF := snd_eq hl hh
  unfold sndR at hF
  rw [above_lt hl hh] at hF
  have HI := Lib.hid (show ((lo : Int) != 9218868437227405312) = decide (lo ≠ infR) by rw [infR_val, Bool.eq_iff_iff, bne_iff_ne, decide_eq_true_iff]; omega)
  have HM := Lib.hid (show ((hi : Int) != 18442240474082181120) = decide (hi ≠ minf) by rw [minf_val, Bool.eq_iff_iff, bne_iff_ne, decide_eq_true_iff]; omega)
  obtain ⟨a, ha⟩ : ∃ a, a = decide (lo ≠ infR) := ⟨_, rfl⟩
  obtain ⟨b, hb⟩ : ∃ b, b = decide (hi ≠ minf) := ⟨_, rfl⟩
  rw [← ha] at hF HI
  rw [← hb] at hF HM
  have hI := HI.out
  have hM := HM.out
  have HAB := Lib.hid hab
  clear ha hb HI HM hab
  cases h1 : isNaN lo <;> cases h2 : isNaN hi <;> cases h3 : ltB hi lo <;> cases a <;> cases b
  all_goals
    rw [h1, h2, h3] at hF
    have HF := Lib.hid hF
    have HAB2 := Lib.hid (fun w => h3 ▸ HAB.out w)
    have HNX := Lib.hid (fun w => h1 ▸ hnx w)
    have HNY := Lib.hid (fun w => h2 ▸ hny w)
    clear hnx hny hF h1 h2 h3 hl hh HAB
    go_enter Tryd.func96, Tryd.ntmps96
    go_wp2_with (first | (go_at_call 66; ((with_reducible refine (HNX.out _).mono ?_); rintro e w' ⟨rfl, rfl⟩)) | (go_at_call 66; ((with_reducible refine (HNY.out _).mono ?_); rintro e w' ⟨rfl, rfl⟩)) | (go_at_call 35; ((with_reducible refine (HAB2.out _).mono ?_); rintro e w' ⟨rfl, rfl⟩)))
    go_ret
    exact ⟨ret_bool (by rw [HF.out]; rfl), (Ext.refl w).alloc _⟩

/-- A result of two patterns. -/
def RetI (lo hi : Nat) (w : World) (e : Ending) (w' : World) : Prop := e = .returned (.agg #[.int .u64 (lo : Int), .int .u64 (hi : Int)]) ∧ Ext w w'

set_option maxHeartbeats 400000 in
theorem empty6_any (w : World) : Calls Tryd.prog 34 #[] w (RetI infR minf w) := by
  go_enter Tryd.func34, Tryd.ntmps34
  go_wp2
  exact bodyPost_ret (v := .agg #[.int .u64 9218868437227405312, .int .u64 18442240474082181120]) (by simp [results, Tryd.results34, go_sem]) rfl ⟨rfl, (Ext.refl w).alloc _⟩

theorem Blk.new2 (w : World) (o : Obj) (t : TypeId) (cs : Array Value) : Blk ((w.alloc o).alloc (.cells cs t)) (w.heap.size + 1) t cs := by
  have := Blk.new (w.alloc o) t cs
  rwa [show (w.alloc o).heap.size = w.heap.size + 1 by simp] at this
theorem plain_rd {lo hi : Nat} (h : sndB lo hi = true) : plN lo = rdLo lo hi ∧ plN hi = rdHi lo hi := by
  obtain ⟨h1, h2⟩ := snd_nan h
  unfold rdLo rdHi
  rw [if_pos h, if_pos h]
  exact ⟨plN_of h1, plN_of h2⟩
theorem empty_rd {lo hi : Nat} (h : sndB lo hi = false) : infR = rdLo lo hi ∧ minf = rdHi lo hi := by
  unfold rdLo rdHi
  rw [if_neg (by simp [h]), if_neg (by simp [h])]
  exact ⟨rfl, rfl⟩

set_option maxHeartbeats 1000000 in
theorem read6_any (lo hi : Nat) (w : World) (hl : lo < 18446744073709551616) (hh : hi < 18446744073709551616) :
    Calls Tryd.prog 32 #[.agg #[.int .u64 (lo : Int), .int .u64 (hi : Int)]] w (RetI (rdLo lo hi) (rdHi lo hi) w) := by
  have hs := fun w => sound6_any lo hi w hl hh
  have hp1 := fun w => plain3_any lo w hl
  have hp2 := fun w => plain3_any hi w hh
  cases hb : sndB lo hi
  · rw [hb] at hs
    obtain ⟨e1, e2⟩ := empty_rd hb
    rw [← e1, ← e2]
    have HS := Lib.hid hs
    clear hs hp1 hp2 hb e1 e2 hl hh
    go_enter Tryd.func32, Tryd.ntmps32
    go_wp2_with fail
    refine (HS.out _).mono ?_
    rintro e w1 ⟨rfl, hE1⟩
    go_wp2_with fail
    refine (empty6_any _).mono ?_
    rintro e w2 ⟨rfl, hE2⟩
    have hE := hE1.trans hE2
    have hblk := (Blk.new2 w (.cells #[.int .u64 (lo : Int), .int .u64 (hi : Int)] 53) 53 #[.int .u64 0, .int .u64 0]).ext hE
    have hEw : Ext w w2 := (((Ext.refl w).alloc _).alloc _).trans hE
    obtain ⟨G, hG⟩ : ∃ G, G = w.heap.size + 1 := ⟨_, rfl⟩
    rw [← hG] at hblk
    rw [← hG]
    have hGw : w.heap.size ≤ G := by omega
    have hGl := hblk.lt
    have q0 : w2.cell? ⟨G, 0, none⟩ = some (.int .u64 0) := hblk.cell 0
    have q1 : w2.cell? ⟨G, 1, none⟩ = some (.int .u64 0) := hblk.cell 1
    have f0 := hblk.frozen 0
    have f1 := hblk.frozen 1
    clear hG hE hE1 hE2
    go_wp2
    exact bodyPost_ret (v := .agg #[.int .u64 (infR : Int), .int .u64 (minf : Int)]) (by simp [results, Tryd.results32, go_sem, hGl, q0, q1]) rfl ⟨rfl, (hEw.setCell hGw _).setCell hGw _⟩
  · rw [hb] at hs
    obtain ⟨e1, e2⟩ := plain_rd hb
    rw [e1] at hp1
    rw [e2] at hp2
    obtain ⟨a, ha⟩ : ∃ a, a = rdLo lo hi := ⟨_, rfl⟩
    obtain ⟨b, hb'⟩ : ∃ b, b = rdHi lo hi := ⟨_, rfl⟩
    rw [← ha] at hp1 ⊢
    rw [← hb'] at hp2 ⊢
    have HS := Lib.hid hs
    have HP1 := Lib.hid hp1
    have HP2 := Lib.hid hp2
    clear hs hp1 hp2 hb e1 e2 hl hh ha hb'
    go_enter Tryd.func32, Tryd.ntmps32
    go_wp2_with fail
    refine (HS.out _).mono ?_
    rintro e w1 ⟨rfl, hE1⟩
    have hblk := (Blk.new2 w (.cells #[.int .u64 (lo : Int), .int .u64 (hi : Int)] 53) 53 #[.int .u64 0, .int .u64 0]).ext hE1
    have hbox := ((Blk.new w 53 #[.int .u64 (lo : Int), .int .u64 (hi : Int)]).ext ((Ext.refl _).alloc (.cells #[.int .u64 0, .int .u64 0] 53))).ext hE1
    have hEw : Ext w w1 := (((Ext.refl w).alloc _).alloc _).trans hE1
    have b0 : w1.cell? ⟨w.heap.size, 0, none⟩ = some (.int .u64 (lo : Int)) := hbox.cell 0
    have b1 : w1.cell? ⟨w.heap.size, 1, none⟩ = some (.int .u64 (hi : Int)) := hbox.cell 1
    obtain ⟨G, hG⟩ : ∃ G, G = w.heap.size + 1 := ⟨_, rfl⟩
    rw [← hG] at hblk
    rw [← hG]
    have hGw : w.heap.size ≤ G := by omega
    have hGl := hblk.lt
    have q0 : w1.cell? ⟨G, 0, none⟩ = some (.int .u64 0) := hblk.cell 0
    have q1 : w1.cell? ⟨G, 1, none⟩ = some (.int .u64 0) := hblk.cell 1
    have f0 := hblk.frozen 0
    have f1 := hblk.frozen 1
    clear hG hE1
    go_wp2_with fail
    refine wp_region_still_tail 7 (by kernel_rfl) (by kernel_rfl) ?_
    simp only [List.take_succ_cons, List.take_zero, List.drop_succ_cons, List.drop_zero]
    still_step
    still_step
    still_call ((HP1.out _).mono fun _ _ h => ⟨h.1, h.2.symm⟩)
    still_step
    still_step
    still_call ((HP2.out _).mono fun _ _ h => ⟨h.1, h.2.symm⟩)
    still_step
    refine wpStill_nil ?_
    change wpList _ _ _ _ _ w1.drew
    go_wp2
    exact bodyPost_ret (v := .agg #[.int .u64 (a : Int), .int .u64 (b : Int)]) (by simp [results, Tryd.results32, go_sem, hGl, q0, q1]) rfl ⟨rfl, (hEw.drew.setCell hGw _).setCell hGw _⟩
end Go.Proofs.YtadijoeeaineaaaDoor

/-
  The contracts of the program's intervals, first part: how two ends are read, made, found valid. Conditions: those that each theorem names.
-/
namespace Go.Proofs.YtadijoeeaineaaaDoor
open Go.RowKit Nm Rn
set_option maxRecDepth 100000
set_option linter.unusedVariables false
set_option linter.unusedSimpArgs false

set_option maxHeartbeats 400000 in
theorem iplain_any (b : Nat) (w : World) (h : b < 18446744073709551616) :
    Calls Tryd.prog 143 #[.float .f64 b] w fun e w' => e = .returned (.float .f64 (pl b)) ∧ w = w' := by
  have hq := fo_eq h (show 0 < 18446744073709551616 by omega)
  rw [eq0 h] at hq
  by_cases h0 : b = 0 ∨ b = 9223372036854775808
  · rw [decide_eq_true h0] at hq
    have HF : Hid (0 = pl b) := Lib.hid (by unfold pl; rcases h0 with h0 | h0 <;> subst h0 <;> rfl)
    clear h0 h
    go_enter Tryd.func143, Tryd.ntmps143
    go_wp2
    go_ret
    exact ⟨ret_float HF.out, rfl⟩
  · rw [decide_eq_false h0] at hq
    have HF : Hid (b = pl b) := Lib.hid (by unfold pl; rw [if_neg (fun h => h0 (.inr h))])
    clear h0 h
    go_enter Tryd.func143, Tryd.ntmps143
    go_wp2
    go_ret
    exact ⟨ret_float HF.out, rfl⟩

set_option maxHeartbeats 1000000 in
theorem isound_any (lo hi : Nat) (w : World) (hl : lo < 18446744073709551616) (hh : hi < 18446744073709551616) :
    Calls Tryd.prog 142 #[.float .f64 lo, .float .f64 hi] w fun e w' => e = .returned (.bool (sndB lo hi)) ∧ w = w' := by
  have h1 := fo_lt hl hh
  have h1' := fo_eq hl hh
  have h12 := fo_le hl hh
  rw [h1, h1'] at h12
  have h2 := fo_lt hl infR_lt
  have h3 := fo_gt hh minf_lt
  have hF : sndB lo hi = (leB lo hi && ltB lo infR && ltB minf hi) := rfl
  obtain ⟨a, ha⟩ : ∃ a, a = ltB lo hi := ⟨_, rfl⟩
  obtain ⟨a', ha'⟩ : ∃ a', a' = eqB lo hi := ⟨_, rfl⟩
  obtain ⟨b, hb⟩ : ∃ b, b = ltB lo infR := ⟨_, rfl⟩
  obtain ⟨c, hc⟩ : ∃ c, c = ltB minf hi := ⟨_, rfl⟩
  rw [← h12, ← ha, ← ha', ← hb, ← hc] at hF
  rw [← ha] at h1
  rw [← ha'] at h1'
  rw [← hb] at h2
  rw [← hc] at h3
  have HF := Lib.hid hF
  clear h12 hF ha ha' hb hc hl hh
  cases a <;> cases a' <;> cases b <;> cases c
  all_goals
    go_enter Tryd.func142, Tryd.ntmps142
    go_wp2_with (first | (go_at_call 45; ((with_reducible refine (inf_p _).mono ?_); rintro e w' ⟨rfl, rfl⟩)) | (go_at_call 45; ((with_reducible refine (inf_m _).mono ?_); rintro e w' ⟨rfl, rfl⟩)))
    go_ret
    exact ⟨ret_bool (by rw [HF.out]; rfl), rfl⟩
end Go.Proofs.YtadijoeeaineaaaDoor

/-
  The contracts of the program's intervals, second part: Empty, Entire, Read, New, Point, Valid. Conditions: those that each theorem names.
-/
namespace Go.Proofs.YtadijoeeaineaaaDoor
open Go.RowKit Nm Rn
set_option maxRecDepth 100000
set_option linter.unusedVariables false
set_option linter.unusedSimpArgs false

/-- A result of two floats. -/
def RetF (lo hi : Nat) (w : World) (e : Ending) (w' : World) : Prop := e = .returned (.agg #[.float .f64 lo, .float .f64 hi]) ∧ Ext w w'

set_option maxHeartbeats 400000 in
theorem iempty_any (w : World) : Calls Tryd.prog 99 #[] w (RetF infR minf w) := by
  go_enter Tryd.func99, Tryd.ntmps99
  go_wp2_with (first | (go_at_call 45; ((with_reducible refine (inf_p _).mono ?_); rintro e w' ⟨rfl, rfl⟩)) | (go_at_call 45; ((with_reducible refine (inf_m _).mono ?_); rintro e w' ⟨rfl, rfl⟩)))
  exact bodyPost_ret (v := .agg #[.float .f64 infR, .float .f64 minf]) (by simp [results, Tryd.results99, go_sem]) rfl ⟨rfl, (Ext.refl w).alloc _⟩
set_option maxHeartbeats 400000 in
theorem ientire_any (w : World) : Calls Tryd.prog 100 #[] w (RetF minf infR w) := by
  go_enter Tryd.func100, Tryd.ntmps100
  go_wp2_with (first | (go_at_call 45; ((with_reducible refine (inf_p _).mono ?_); rintro e w' ⟨rfl, rfl⟩)) | (go_at_call 45; ((with_reducible refine (inf_m _).mono ?_); rintro e w' ⟨rfl, rfl⟩)))
  exact bodyPost_ret (v := .agg #[.float .f64 minf, .float .f64 infR]) (by simp [results, Tryd.results100, go_sem]) rfl ⟨rfl, (Ext.refl w).alloc _⟩

set_option maxHeartbeats 1000000 in
theorem iread_any (lo hi : Nat) (w : World) (hl : lo < 18446744073709551616) (hh : hi < 18446744073709551616) :
    Calls Tryd.prog 98 #[.agg #[.float .f64 lo, .float .f64 hi]] w (RetF (rdLo lo hi) (rdHi lo hi) w) := by
  have hs := fun w => isound_any lo hi w hl hh
  have hp1 := fun w => iplain_any lo w hl
  have hp2 := fun w => iplain_any hi w hh
  cases hb : sndB lo hi
  · rw [hb] at hs
    obtain ⟨e1, e2⟩ := empty_rd hb
    rw [← e1, ← e2]
    have HS := Lib.hid hs
    clear hs hp1 hp2 hb e1 e2 hl hh
    go_enter Tryd.func98, Tryd.ntmps98
    go_wp2_with fail
    refine (HS.out _).mono ?_
    rintro e w1 ⟨rfl, rfl⟩
    go_wp2_with fail
    refine (iempty_any _).mono ?_
    rintro e w2 ⟨rfl, hE⟩
    have hblk := (Blk.new2 w (.cells #[.float .f64 lo, .float .f64 hi] 61) 61 #[.float .f64 0, .float .f64 0]).ext hE
    have hEw : Ext w w2 := (((Ext.refl w).alloc _).alloc _).trans hE
    obtain ⟨G, hG⟩ : ∃ G, G = w.heap.size + 1 := ⟨_, rfl⟩
    rw [← hG] at hblk
    rw [← hG]
    have hGw : w.heap.size ≤ G := by omega
    have hGl := hblk.lt
    have q0 : w2.cell? ⟨G, 0, none⟩ = some (.float .f64 0) := hblk.cell 0
    have q1 : w2.cell? ⟨G, 1, none⟩ = some (.float .f64 0) := hblk.cell 1
    have f0 := hblk.frozen 0
    have f1 := hblk.frozen 1
    clear hG hE
    go_wp2
    exact bodyPost_ret (v := .agg #[.float .f64 infR, .float .f64 minf]) (by simp [results, Tryd.results98, go_sem, hGl, q0, q1]) rfl ⟨rfl, (hEw.setCell hGw _).setCell hGw _⟩
  · rw [hb] at hs
    have e1 : pl lo = rdLo lo hi := by unfold rdLo; rw [if_pos hb]
    have e2 : pl hi = rdHi lo hi := by unfold rdHi; rw [if_pos hb]
    rw [e1] at hp1
    rw [e2] at hp2
    obtain ⟨a, ha⟩ : ∃ a, a = rdLo lo hi := ⟨_, rfl⟩
    obtain ⟨b, hb'⟩ : ∃ b, b = rdHi lo hi := ⟨_, rfl⟩
    rw [← ha] at hp1 ⊢
    rw [← hb'] at hp2 ⊢
    have HS := Lib.hid hs
    have HP1 := Lib.hid hp1
    have HP2 := Lib.hid hp2
    clear hs hp1 hp2 hb e1 e2 hl hh ha hb'
    go_enter Tryd.func98, Tryd.ntmps98
    go_wp2_with fail
    refine (HS.out _).mono ?_
    rintro e w1 ⟨rfl, rfl⟩
    generalize hX : (w.alloc (.cells #[.float .f64 lo, .float .f64 hi] 61)).alloc (.cells #[.float .f64 0, .float .f64 0] 61) = w1
    have hE1 : Ext ((w.alloc (.cells #[.float .f64 lo, .float .f64 hi] 61)).alloc (.cells #[.float .f64 0, .float .f64 0] 61)) w1 := by rw [← hX]; exact Ext.refl _
    clear hX
    have hblk := (Blk.new2 w (.cells #[.float .f64 lo, .float .f64 hi] 61) 61 #[.float .f64 0, .float .f64 0]).ext hE1
    have hbox := ((Blk.new w 61 #[.float .f64 lo, .float .f64 hi]).ext ((Ext.refl _).alloc (.cells #[.float .f64 0, .float .f64 0] 61))).ext hE1
    have hEw : Ext w w1 := (((Ext.refl w).alloc _).alloc _).trans hE1
    have b0 : w1.cell? ⟨w.heap.size, 0, none⟩ = some (.float .f64 lo) := hbox.cell 0
    have b1 : w1.cell? ⟨w.heap.size, 1, none⟩ = some (.float .f64 hi) := hbox.cell 1
    obtain ⟨G, hG⟩ : ∃ G, G = w.heap.size + 1 := ⟨_, rfl⟩
    rw [← hG] at hblk
    rw [← hG]
    have hGw : w.heap.size ≤ G := by omega
    have hGl := hblk.lt
    have q0 : w1.cell? ⟨G, 0, none⟩ = some (.float .f64 0) := hblk.cell 0
    have q1 : w1.cell? ⟨G, 1, none⟩ = some (.float .f64 0) := hblk.cell 1
    have f0 := hblk.frozen 0
    have f1 := hblk.frozen 1
    clear hG hE1
    go_wp2_with fail
    refine wp_region_still_tail 7 (by kernel_rfl) (by kernel_rfl) ?_
    simp only [List.take_succ_cons, List.take_zero, List.drop_succ_cons, List.drop_zero]
    still_step
    still_step
    still_call ((HP1.out _).mono fun _ _ h => ⟨h.1, h.2.symm⟩)
    still_step
    still_step
    still_call ((HP2.out _).mono fun _ _ h => ⟨h.1, h.2.symm⟩)
    still_step
    refine wpStill_nil ?_
    change wpList _ _ _ _ _ w1.drew
    go_wp2
    exact bodyPost_ret (v := .agg #[.float .f64 a, .float .f64 b]) (by simp [results, Tryd.results98, go_sem, hGl, q0, q1]) rfl ⟨rfl, (hEw.drew.setCell hGw _).setCell hGw _⟩

end Go.Proofs.YtadijoeeaineaaaDoor

/-
  The contracts of the program's intervals, third part: patterns in and out of them; Valid. Conditions: those that each theorem names.
-/
namespace Go.Proofs.YtadijoeeaineaaaDoor
open Go.RowKit Nm Rn
set_option maxRecDepth 100000
set_option linter.unusedVariables false
set_option linter.unusedSimpArgs false

/-- A world in which a box of two words lies, and behind it another one. -/
theorem two_boxes (w : World) (s t : TypeId) (x y p q : Value) : ∃ w1, w1 = (w.alloc (.cells #[x, y] s)).alloc (.cells #[p, q] t) ∧ Ext w w1 ∧ w1.cell? ⟨w.heap.size, 0, none⟩ = some x ∧ w1.cell? ⟨w.heap.size, 1, none⟩ = some y ∧
    Blk w1 (w.heap.size + 1) t #[p, q] := by
  have hb := (Blk.new w s #[x, y]).ext ((Ext.refl _).alloc (.cells #[p, q] t))
  exact ⟨_, rfl, ((Ext.refl w).alloc _).alloc _, hb.cell 0, hb.cell 1, Blk.new2 w _ t #[p, q]⟩

set_option maxHeartbeats 1000000 in
theorem out7_any (lo hi : Nat) (w : World) :
    Calls Tryd.prog 36 #[.agg #[.float .f64 lo, .float .f64 hi]] w (RetI lo hi w) := by
  obtain ⟨w1, hw1, hEw, b0, b1, hblk⟩ := two_boxes w 61 53 (.float .f64 lo) (.float .f64 hi) (.int .u64 0) (.int .u64 0)
  go_enter Tryd.func36, Tryd.ntmps36
  go_wp2_with fail
  rw [← hw1]
  clear hw1
  obtain ⟨G, hG⟩ : ∃ G, G = w.heap.size + 1 := ⟨_, rfl⟩
  rw [← hG] at hblk
  rw [← hG]
  have hGw : w.heap.size ≤ G := by omega
  have hGl := hblk.lt
  have q0 : w1.cell? ⟨G, 0, none⟩ = some (.int .u64 0) := hblk.cell 0
  have q1 : w1.cell? ⟨G, 1, none⟩ = some (.int .u64 0) := hblk.cell 1
  have f0 := hblk.frozen 0
  have f1 := hblk.frozen 1
  clear hG
  go_still_tail 7, (by kernel_rfl)
  change wpList _ _ _ _ _ w1.drew
  go_wp2
  exact bodyPost_ret (v := .agg #[.int .u64 (lo : Int), .int .u64 (hi : Int)]) (by simp [results, Tryd.results36, go_sem, hGl, q0, q1]) rfl ⟨rfl, (hEw.drew.setCell hGw _).setCell hGw _⟩
set_option maxHeartbeats 1000000 in
theorem in7_any (lo hi : Nat) (w : World) :
    Calls Tryd.prog 38 #[.agg #[.int .u64 (lo : Int), .int .u64 (hi : Int)]] w (RetF lo hi w) := by
  obtain ⟨w1, hw1, hEw, b0, b1, hblk⟩ := two_boxes w 53 61 (.int .u64 (lo : Int)) (.int .u64 (hi : Int)) (.float .f64 0) (.float .f64 0)
  go_enter Tryd.func38, Tryd.ntmps38
  go_wp2_with fail
  rw [← hw1]
  clear hw1
  obtain ⟨G, hG⟩ : ∃ G, G = w.heap.size + 1 := ⟨_, rfl⟩
  rw [← hG] at hblk
  rw [← hG]
  have hGw : w.heap.size ≤ G := by omega
  have hGl := hblk.lt
  have q0 : w1.cell? ⟨G, 0, none⟩ = some (.float .f64 0) := hblk.cell 0
  have q1 : w1.cell? ⟨G, 1, none⟩ = some (.float .f64 0) := hblk.cell 1
  have f0 := hblk.frozen 0
  have f1 := hblk.frozen 1
  clear hG
  go_still_tail 7, (by kernel_rfl)
  change wpList _ _ _ _ _ w1.drew
  go_wp2
  exact bodyPost_ret (v := .agg #[.float .f64 lo, .float .f64 hi]) (by simp [results, Tryd.results38, go_sem, hGl, q0, q1]) rfl ⟨rfl, (hEw.drew.setCell hGw _).setCell hGw _⟩
end Go.Proofs.YtadijoeeaineaaaDoor

/-
  The contract of the program's empty; its intervals' zero and size. Conditions: those that each theorem names.
-/
namespace Go.Proofs.YtadijoeeaineaaaDoor
open Go.RowKit Nm Rn
set_option maxRecDepth 100000
set_option linter.unusedVariables false
set_option linter.unusedSimpArgs false

theorem zero_iv (w : World) : (zeroValue 61).run Tryd.prog w = .ok (.agg #[.float .f64 0, .float .f64 0]) w := by kernel_rfl
theorem agg_iv (w : World) : (isAgg 61).run Tryd.prog w = .ok true w := by kernel_rfl
theorem size_iv (w : World) : (sizeOf 61).run Tryd.prog w = .ok 2 w := by kernel_rfl
set_option maxHeartbeats 1000000 in
theorem iemp_any (lo hi : Nat) (w : World) (hl : lo < 18446744073709551616) (hh : hi < 18446744073709551616) :
    Calls Tryd.prog 150 #[.agg #[.float .f64 lo, .float .f64 hi]] w fun e w' => e = .returned (.bool (ltB hi lo)) ∧ Ext w w' := by
  have hq := fo_gt hl hh
  obtain ⟨R, hR⟩ : ∃ R, R = ltB hi lo := ⟨_, rfl⟩
  rw [← hR] at hq ⊢
  clear hR hl hh
  go_enter Tryd.func150, Tryd.ntmps150
  go_wp2
  go_ret
  exact ⟨ret_bool (by first | rfl | exact hq), (Ext.refl w).alloc _⟩

end Go.Proofs.YtadijoeeaineaaaDoor

/-
  Plain: the magnitudes of the ends of intervals. Conditions: those that each theorem names.
-/
namespace Go.Proofs.YtadijoeeaineaaaDoor
open Nm Rn
set_option linter.unusedVariables false
set_option linter.unusedSimpArgs false

theorem plN_pl {b : Nat} (h : isNaN b = false) : plN (pl b) = pl b := by
  have h0 : isNaN 0 = false := rfl
  unfold plN pl
  by_cases h1 : b = 9223372036854775808
  · rw [if_pos h1, h0]; rfl
  · rw [if_neg h1, if_neg h1, h]; rfl
theorem rdLo_pl (lo hi : Nat) : plN (rdLo lo hi) = rdLo lo hi := by
  unfold rdLo
  cases h : sndB lo hi
  · rw [if_neg (by simp)]; unfold plN; rw [nan_inf, infR_val]; rfl
  · rw [if_pos rfl]; exact plN_pl (snd_nan h).1
theorem rdHi_pl (lo hi : Nat) : plN (rdHi lo hi) = rdHi lo hi := by
  unfold rdHi
  cases h : sndB lo hi
  · rw [if_neg (by simp)]; unfold plN; rw [nan_minf, minf_val]; rfl
  · rw [if_pos rfl]; exact plN_pl (snd_nan h).2
theorem key_fin {x : Nat} (h : mg x < infR) : -9218868437227405312 < key x ∧ key x < 9218868437227405312 := by
  have e := infR_val
  unfold key
  split <;> omega
/-- A pattern's magnitude. -/
def mx (x : Nat) : Nat := if key x < 0 then mg x else x
theorem mx_lt {x : Nat} (hx : x < 18446744073709551616) : mx x < 18446744073709551616 := by unfold mx mg; split <;> omega
theorem mx_nan {x : Nat} (hx : isNaN x = false) : isNaN (mx x) = false := by
  unfold mx; split
  · have : mg (mg x) = mg x := by unfold mg; omega
    unfold isNaN at hx ⊢; rw [this]; exact hx
  · exact hx
theorem mx_key {x : Nat} : key (mx x) = if key x < 0 then -key x else key x := by
  unfold mx
  split
  · rename_i h
    have hm : mg x < 9223372036854775808 := by unfold mg; omega
    have e2 : mg (mg x) = mg x := by unfold mg; omega
    have e3 : sg (mg x) = false := decide_eq_false (by omega)
    unfold key at h ⊢
    rw [e2, e3]
    revert h
    cases sg x
    · intro h; rw [if_neg (by simp)] at h; omega
    · intro _; simp
  · rfl

def szHi (p q : Nat) : Nat := if key (mx q) < key (mx p) then mx p else mx q
def szLo (p q : Nat) : Nat := if key p ≤ 0 ∧ 0 ≤ key q then 0 else if key (mx q) < key (mx p) then mx q else mx p

theorem sz_ends {p q : Nat} (hp : p < 18446744073709551616) (hq : q < 18446744073709551616) (np : isNaN p = false) (nq : isNaN q = false) (h1 : p ≠ infR) (h2 : q ≠ minf) :
    szLo p q < 18446744073709551616 ∧ isNaN (szLo p q) = false ∧ szLo p q ≠ infR ∧ szHi p q < 18446744073709551616 ∧ isNaN (szHi p q) = false ∧ szHi p q ≠ minf := by
  have P1 := mx_lt hp
  have P2 := mx_nan np
  have Q1 := mx_lt hq
  have Q2 := mx_nan nq
  have kp := @mx_key p
  have kq := @mx_key q
  have rp := key_le np
  have rq := key_le nq
  have ip := key_eq_inf hp np
  have iq := key_eq_minf hq nq
  have i1 := infR_val
  have z0 : isNaN 0 = false := rfl
  refine ⟨?_, ?_, ?_, ?_, ?_, ?_⟩
  · unfold szLo; split
    · omega
    · split <;> assumption
  · unfold szLo; split
    · exact z0
    · split <;> assumption
  · intro h
    have hk : key (szLo p q) = 9218868437227405312 := by rw [h]; exact key_inf
    revert hk
    unfold szLo
    split
    · intro hk; have e : key 0 = 0 := rfl; omega
    · rename_i g
      split
      · intro hk; revert kp kq; split <;> split <;> (intros; omega)
      · intro hk; revert kp kq; split <;> split <;> (intros; omega)
  · unfold szHi; split <;> assumption
  · unfold szHi; split <;> assumption
  · intro h
    have hk : key (szHi p q) = -9218868437227405312 := by rw [h]; exact key_minf
    revert hk
    unfold szHi
    revert kp kq
    split <;> split <;> split <;> (intros; omega)

/-- The ends of the magnitudes of an interval. -/
def abLo (lo hi : Nat) : Nat := if rdLo lo hi = infR ∧ rdHi lo hi = minf then infR else pl (szLo (rdLo lo hi) (rdHi lo hi))
def abHi (lo hi : Nat) : Nat := if rdLo lo hi = infR ∧ rdHi lo hi = minf then minf else pl (szHi (rdLo lo hi) (rdHi lo hi))
def kmin (a b : Nat) : Nat := if key b < key a then b else a
def kmax (a b : Nat) : Nat := if key a < key b then b else a
def minLo (x1 x2 y1 y2 : Nat) : Nat := if (rdLo x1 x2 = infR ∧ rdHi x1 x2 = minf) ∨ (rdLo y1 y2 = infR ∧ rdHi y1 y2 = minf) then infR else pl (kmin (rdLo x1 x2) (rdLo y1 y2))
def minHi (x1 x2 y1 y2 : Nat) : Nat := if (rdLo x1 x2 = infR ∧ rdHi x1 x2 = minf) ∨ (rdLo y1 y2 = infR ∧ rdHi y1 y2 = minf) then minf else pl (kmin (rdHi x1 x2) (rdHi y1 y2))
def maxLo (x1 x2 y1 y2 : Nat) : Nat := if (rdLo x1 x2 = infR ∧ rdHi x1 x2 = minf) ∨ (rdLo y1 y2 = infR ∧ rdHi y1 y2 = minf) then infR else pl (kmax (rdLo x1 x2) (rdLo y1 y2))
def maxHi (x1 x2 y1 y2 : Nat) : Nat := if (rdLo x1 x2 = infR ∧ rdHi x1 x2 = minf) ∨ (rdLo y1 y2 = infR ∧ rdHi y1 y2 = minf) then minf else pl (kmax (rdHi x1 x2) (rdHi y1 y2))
/-- Whether two ends are valid as they stand. -/
def vldB (lo hi : Nat) : Bool := (decide (lo = infR) && decide (hi = minf)) || (sndB lo hi && decide (lo ≠ 9223372036854775808) && decide (hi ≠ 9223372036854775808))
end Go.Proofs.YtadijoeeaineaaaDoor

/-
  The contracts of the document's own intervals, second part: whether two ends are valid, what is made of them. Conditions: those that each theorem names.
-/
namespace Go.Proofs.YtadijoeeaineaaaDoor
open Go.RowKit Nm Rn
set_option maxRecDepth 100000
set_option linter.unusedVariables false
set_option linter.unusedSimpArgs false

/-- What New answers. -/
def newLo (lo hi : Nat) : Nat := if sndB lo hi then pl lo else 0
def newHi (lo hi : Nat) : Nat := if sndB lo hi then pl hi else 0

end Go.Proofs.YtadijoeeaineaaaDoor

/-
  The contracts of the program's intervals, fourth part: Valid. Conditions: those that each theorem names.
-/
namespace Go.Proofs.YtadijoeeaineaaaDoor
open Go.RowKit Nm Rn
set_option maxRecDepth 100000
set_option linter.unusedVariables false
set_option linter.unusedSimpArgs false

@[go_sem] theorem run_equalIn_float (P : Program) (w : World) (d : Nat) (t : TypeId) (k : FloatKind) (a b : Nat) (h : P.underlying t = some (.float k)) : (Op.equalIn (d + 1) t (.float k a) (.float k b)).run P w = .ok (k.format.order a b == some .eq) w := by
  simp [Op.equalIn, run_underlying h, Op.floatEq]
theorem eqF {a b c d : Nat} (ha : a < 18446744073709551616) (hb : b < 18446744073709551616) (hc : c < 18446744073709551616) (hd : d < 18446744073709551616) (w : World) : (binOp .eql 61 (.agg #[.float .f64 a, .float .f64 b]) (.agg #[.float .f64 c, .float .f64 d])).run Tryd.prog w = .ok (.bool (eqB a c && eqB b d)) w := by
  rw [← fo_eq ha hc, ← fo_eq hb hd]
  cases h1 : (FloatKind.f64.format.order a c == some .eq) <;> cases h2 : (FloatKind.f64.format.order b d == some .eq) <;> go_simp <;> simp [h1, h2]
theorem eqF' {a b c d : Nat} (ha : a < 18446744073709551616) (hb : b < 18446744073709551616) (hc : c < 18446744073709551616) (hd : d < 18446744073709551616) {E : Bool} (h : (eqB a c && eqB b d) = E) (w : World) : (binOp .eql 61 (.agg #[.float .f64 a, .float .f64 b]) (.agg #[.float .f64 c, .float .f64 d])).run Tryd.prog w = .ok (.bool E) w := by rw [eqF ha hb hc hd, h]

end Go.Proofs.YtadijoeeaineaaaDoor

/-
  The contracts of the program's intervals, fifth part: empty, turned, Neg. Conditions: those that each theorem names.
-/
namespace Go.Proofs.YtadijoeeaineaaaDoor
open Go.RowKit Nm Rn
set_option maxRecDepth 100000
set_option linter.unusedVariables false
set_option linter.unusedSimpArgs false

set_option maxHeartbeats 1000000 in
theorem iturned_any (lo hi : Nat) (w : World) (hl : lo < 18446744073709551616) (hh : hi < 18446744073709551616) :
    Calls Tryd.prog 151 #[.agg #[.float .f64 lo, .float .f64 hi]] w (RetF (pl (ng hi)) (pl (ng lo)) w) := by
  have hp1 := fun w => iplain_any (ng hi) w (ng_lt hh)
  have hp2 := fun w => iplain_any (ng lo) w (ng_lt hl)
  have n1 : Go.Op.negFloat .f64 hi = ng hi := ng_xor hh
  have n2 : Go.Op.negFloat .f64 lo = ng lo := ng_xor hl
  obtain ⟨a, ha⟩ : ∃ a, a = pl (ng hi) := ⟨_, rfl⟩
  obtain ⟨b, hb⟩ : ∃ b, b = pl (ng lo) := ⟨_, rfl⟩
  obtain ⟨x, hx⟩ : ∃ x, x = ng hi := ⟨_, rfl⟩
  obtain ⟨y, hy⟩ : ∃ y, y = ng lo := ⟨_, rfl⟩
  rw [← ha, ← hx] at hp1
  rw [← hb, ← hy] at hp2
  rw [← hx] at n1
  rw [← hy] at n2
  have u1 : ∀ w, (Go.Op.unary .neg (.float .f64 hi)).run Tryd.prog w = .ok (.float .f64 x) w := by
    intro w; rw [← n1]; rfl
  have u2 : ∀ w, (Go.Op.unary .neg (.float .f64 lo)).run Tryd.prog w = .ok (.float .f64 y) w := by
    intro w; rw [← n2]; rfl
  clear n1 n2
  rw [← ha, ← hb]
  have HP1 := Lib.hid hp1
  have HP2 := Lib.hid hp2
  clear hp1 hp2 ha hb hx hy hl hh
  obtain ⟨w1, hw1, hEw, b0, b1, hblk⟩ := two_boxes w 61 61 (.float .f64 lo) (.float .f64 hi) (.float .f64 0) (.float .f64 0)
  go_enter Tryd.func151, Tryd.ntmps151
  go_wp2_with fail
  rw [← hw1]
  clear hw1
  obtain ⟨G, hG⟩ : ∃ G, G = w.heap.size + 1 := ⟨_, rfl⟩
  rw [← hG] at hblk
  rw [← hG]
  have hGw : w.heap.size ≤ G := by omega
  have hGl := hblk.lt
  have q0 : w1.cell? ⟨G, 0, none⟩ = some (.float .f64 0) := hblk.cell 0
  have q1 : w1.cell? ⟨G, 1, none⟩ = some (.float .f64 0) := hblk.cell 1
  have f0 := hblk.frozen 0
  have f1 := hblk.frozen 1
  clear hG
  refine wp_region_still_tail 9 (by kernel_rfl) (by kernel_rfl) ?_
  simp only [List.take_succ_cons, List.take_zero, List.drop_succ_cons, List.drop_zero]
  still_step
  still_step
  still_step
  still_call ((HP1.out _).mono fun _ _ h => ⟨h.1, h.2.symm⟩)
  still_step
  still_step
  still_step
  still_call ((HP2.out _).mono fun _ _ h => ⟨h.1, h.2.symm⟩)
  still_step
  refine wpStill_nil ?_
  change wpList _ _ _ _ _ w1.drew
  go_wp2
  exact bodyPost_ret (v := .agg #[.float .f64 a, .float .f64 b]) (by simp [results, Tryd.results151, go_sem, hGl, q0, q1]) rfl ⟨rfl, (hEw.drew.setCell hGw _).setCell hGw _⟩

/-- Read and written back into the argument's own box. -/
theorem box_set2 {w w2 : World} {H : Nat} {t : TypeId} {x y : Value} (a b : Value) (hb : Blk w2 H t #[x, y]) (hE : Ext w w2) (hH : w.heap.size ≤ H) :
    Blk ((w2.setCell ⟨H, 0, none⟩ a).setCell ⟨H, 1, none⟩ b) H t #[a, b] ∧ Ext w ((w2.setCell ⟨H, 0, none⟩ a).setCell ⟨H, 1, none⟩ b) :=
  ⟨(hb.set_ 0 a).set_ 1 b, (hE.setCell hH _).setCell (by show w.heap.size ≤ H; exact hH) _⟩

set_option maxHeartbeats 2000000 in
theorem ineg_any (lo hi : Nat) (w : World) (hl : lo < 18446744073709551616) (hh : hi < 18446744073709551616) :
    Calls Tryd.prog 110 #[.agg #[.float .f64 lo, .float .f64 hi]] w (RetF (ngLo lo hi) (ngHi lo hi) w) := by
  have hr := fun w => iread_any lo hi w hl hh
  have key1 : ∃ (a b r1 r2 : Nat) (E : Bool), a = rdLo lo hi ∧ b = rdHi lo hi ∧ (∀ w, Calls Tryd.prog 150 #[.agg #[.float .f64 a, .float .f64 b]] w fun e w' => e = .returned (.bool E) ∧ Ext w w') ∧ (∀ w, Calls Tryd.prog 151 #[.agg #[.float .f64 a, .float .f64 b]] w (RetF r1 r2 w)) ∧ ((E = true ∧ ngLo lo hi = a ∧ ngHi lo hi = b) ∨ (E = false ∧ ngLo lo hi = r1 ∧ ngHi lo hi = r2)) := by
    by_cases he : rdLo lo hi = infR ∧ rdHi lo hi = minf
    · refine ⟨infR, minf, _, _, _, he.1.symm, he.2.symm, fun w => iemp_any infR minf w infR_lt minf_lt, fun w => iturned_any infR minf w infR_lt minf_lt, .inl ⟨rfl, ?_, ?_⟩⟩
      · unfold ngLo; rw [if_pos he]
      · unfold ngHi; rw [if_pos he]
    · obtain ⟨g1, g2, g3, g4, g5, g6, _, g8⟩ := rd_ends hl hh he
      refine ⟨_, _, _, _, _, rfl, rfl, fun w => iemp_any _ _ w g1 g2, fun w => iturned_any _ _ w g1 g2, .inr ⟨?_, ?_, ?_⟩⟩
      · unfold ltB
        rw [decide_eq_false (p := key (rdHi lo hi) < key (rdLo lo hi)) (by omega), Bool.and_false]
      · unfold ngLo; rw [if_neg he]
      · unfold ngHi; rw [if_neg he]
  obtain ⟨a, b, r1, r2, E, ha, hb, hem, htu, hcase⟩ := key1
  rw [← ha, ← hb] at hr
  have HR := Lib.hid hr
  have HEM := Lib.hid hem
  have HTU := Lib.hid htu
  clear hr hem htu ha hb hl hh
  rcases hcase with ⟨rfl, e1, e2⟩ | ⟨rfl, e1, e2⟩
  all_goals
    rw [e1, e2]
    clear e1 e2
    go_enter Tryd.func110, Tryd.ntmps110
    go_wp2_with fail
    refine (HR.out _).mono ?_
    rintro e w2 ⟨rfl, hE2⟩
    have hbH := ((Blk.new w 61 #[.float .f64 lo, .float .f64 hi]).ext ((Ext.refl _).alloc (.cells #[.float .f64 0, .float .f64 0] 61))).ext hE2
    have hbG := (Blk.new2 w (.cells #[.float .f64 lo, .float .f64 hi] 61) 61 #[.float .f64 0, .float .f64 0]).ext hE2
    have hEw : Ext w w2 := (((Ext.refl w).alloc _).alloc _).trans hE2
    have hbH3 := (box_set2 (.float .f64 a) (.float .f64 b) hbH hEw (Nat.le_refl _)).1
    have hE3 := (box_set2 (.float .f64 a) (.float .f64 b) hbH hEw (Nat.le_refl _)).2
    have hbG3 : Blk ((w2.setCell ⟨w.heap.size, 0, none⟩ (.float .f64 a)).setCell ⟨w.heap.size, 1, none⟩ (.float .f64 b)) (w.heap.size + 1) 61 #[.float .f64 0, .float .f64 0] :=
      (hbG.far (by show w.heap.size + 1 ≠ w.heap.size; omega) _).far (by show w.heap.size + 1 ≠ w.heap.size; omega) _
    have s0 : w2.cell? ⟨w.heap.size, 0, none⟩ = some (.float .f64 lo) := hbH.cell 0
    have s1 : w2.cell? ⟨w.heap.size, 1, none⟩ = some (.float .f64 hi) := hbH.cell 1
    have fs0 := hbH.frozen 0
    have fs1 := hbH.frozen 1
    have hsl := hbH.lt
    obtain ⟨G, hG⟩ : ∃ G, G = w.heap.size + 1 := ⟨_, rfl⟩
    rw [← hG] at hbG3
    rw [← hG]
    have hGw : w.heap.size ≤ G := by omega
    have b0 : ((w2.setCell ⟨w.heap.size, 0, none⟩ (.float .f64 a)).setCell ⟨w.heap.size, 1, none⟩ (.float .f64 b)).cell? ⟨w.heap.size, 0, none⟩ = some (.float .f64 a) := hbH3.cell 0
    have b1 : ((w2.setCell ⟨w.heap.size, 0, none⟩ (.float .f64 a)).setCell ⟨w.heap.size, 1, none⟩ (.float .f64 b)).cell? ⟨w.heap.size, 1, none⟩ = some (.float .f64 b) := hbH3.cell 1
    clear hG hE2 hbG hEw hbH
    go_wp2_with fail
    refine (HEM.out _).mono ?_
    rintro e w4 ⟨rfl, hE4⟩
    have hbH4 := hbH3.ext hE4
    have hbG4 := hbG3.ext hE4
    have hEE := hE3.trans hE4
    clear s0 s1 fs0 fs1 hsl b0 b1 hbH3 hbG3 hE3 hE4
    have b0 : w4.cell? ⟨w.heap.size, 0, none⟩ = some (.float .f64 a) := hbH4.cell 0
    have b1 : w4.cell? ⟨w.heap.size, 1, none⟩ = some (.float .f64 b) := hbH4.cell 1
    have hGl := hbG4.lt
    have q0 : w4.cell? ⟨G, 0, none⟩ = some (.float .f64 0) := hbG4.cell 0
    have q1 : w4.cell? ⟨G, 1, none⟩ = some (.float .f64 0) := hbG4.cell 1
    have f0 := hbG4.frozen 0
    have f1 := hbG4.frozen 1
    clear hbH4
    go_wp2_with fail
  · exact bodyPost_ret (v := .agg #[.float .f64 a, .float .f64 b]) (by simp [results, Tryd.results110, go_sem, hGl, q0, q1]) rfl ⟨rfl, (hEE.setCell hGw _).setCell hGw _⟩
  · refine (HTU.out _).mono ?_
    rintro e w5 ⟨rfl, hE5⟩
    have hbG5 := hbG4.ext hE5
    have hEF := hEE.trans hE5
    clear hE5 hEE hbG4 q0 q1 f0 f1 hGl b0 b1
    have hGl := hbG5.lt
    have q0 : w5.cell? ⟨G, 0, none⟩ = some (.float .f64 0) := hbG5.cell 0
    have q1 : w5.cell? ⟨G, 1, none⟩ = some (.float .f64 0) := hbG5.cell 1
    have f0 := hbG5.frozen 0
    have f1 := hbG5.frozen 1
    go_wp2
    exact bodyPost_ret (v := .agg #[.float .f64 r1, .float .f64 r2]) (by simp [results, Tryd.results110, go_sem, hGl, q0, q1]) rfl ⟨rfl, (hEF.setCell hGw _).setCell hGw _⟩
end Go.Proofs.YtadijoeeaineaaaDoor
