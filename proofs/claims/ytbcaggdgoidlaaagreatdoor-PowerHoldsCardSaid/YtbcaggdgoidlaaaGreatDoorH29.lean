/-
 The contracts of the reference's ratios, second part: signs; numbers of patterns. Conditions: those that each theorem names.
-/
import Derived.Test.YtbcaggdgoidlaaaGreatDoorH20
import Derived.Test.YtbcaggdgoidlaaaGreatDoorH03
import Derived.Test.YtbcaggdgoidlaaaGreatDoorH06
import Derived.Deep.DeepCutAuto
import Derived.StillTailTactics
import Derived.Test.YtbcaggdgoidlaaaGreatDoorH13
import Derived.Test.YtbcaggdgoidlaaaGreatDoorH08
import Derived.Test.YtbcaggdgoidlaaaGreatDoorH01
import Derived.Test.YtbcaggdgoidlaaaGreatDoorH21
namespace Go.Proofs.YtbcaggdgoidlaaaGreatDoor
open Go.RowKit Nm Rn
set_option maxRecDepth 100000
set_option linter.unusedVariables false
set_option linter.unusedSimpArgs false
def sgnZ (neg : Bool) (n : Nat) : Int := if n = 0 then 0 else if neg then -1 else 1
set_option maxHeartbeats 1000000 in
theorem rsign_any (neg : Bool) (A : Option Addr) (l c : Nat) (xs : List Nat) (B : Option Addr) (k d : Nat) (w : World) (h : Wds w A l c xs) (hl : l ≤ 17592186044416) :
   Calls Tryz.prog 17 #[.agg #[.bool neg, .slice A l c, .slice B k d]] w fun e w' => e = .returned (.int .i64 (sgnZ neg (nv xs))) ∧ Ext w w' := by
 by_cases h0 : nv xs = 0
 · have hz : nw (nv xs) ≤ 0 := by rw [h0, nw_zero]; omega
   have HF : Hid ((0 : Int) = sgnZ neg (nv xs)) := Lib.hid (by rw [h0]; rfl)
   clear h0
   go_enter Tryz.func17, Tryz.ntmps17
   go_wp2_with fail
   refine (norm_any _ _ _ _ _ (h.alloc _) (by omega)).mono ?_
   rintro e w1 ⟨A1, n1, c1, rfl, hN, hE1⟩
   have hn1 : n1 ≤ 0 := by have := hN.len; rw [nd_length] at this; omega
   go_wp2
   go_ret
   exact ⟨ret_int HF.out, ((Ext.refl w).alloc _).trans hE1⟩
 · have hnx1 : 0 < nw (nv xs) := by
     rcases Nat.eq_zero_or_pos (nw (nv xs)) with e | e
     · exact absurd (nw_eq_zero.1 e) h0
     · exact e
   have HF : Hid ((if neg then (-1 : Int) else 1) = sgnZ neg (nv xs)) := Lib.hid (by unfold sgnZ; rw [if_neg h0])
   clear h0
   go_enter Tryz.func17, Tryz.ntmps17
   go_wp2_with fail
   refine (norm_any _ _ _ _ _ (h.alloc _) (by omega)).mono ?_
   rintro e w1 ⟨A1, n1, c1, rfl, hN, hE1⟩
   have hn1 : 0 < n1 := by have := hN.len; rw [nd_length] at this; omega
   have q0 : w1.cell? ⟨w.heap.size, 0, none⟩ = some (.bool neg) := ((Blk.new w 37 #[.bool neg, .slice A l c, .slice B k d]).ext hE1).cell 0
   cases neg
   all_goals
     go_wp2
     go_ret
     exact ⟨ret_int HF.out, ((Ext.refl w).alloc _).trans hE1⟩
set_option maxHeartbeats 1000000 in
theorem frombits_any (b : Nat) (w : World) (hb : b < 18446744073709551616) :
   Calls Tryz.prog 12 #[.int .u64 (b : Int)] w (RetR (sg b && decide (mg b ≠ 0)) (fbN b) (fbD b) w) := by
 obtain ⟨E, hE⟩ : ∃ E, E = b / 4503599627370496 % 2048 := ⟨_, rfl⟩
 obtain ⟨F, hF⟩ : ∃ F, F = b % 4503599627370496 := ⟨_, rfl⟩
 have g1 : bits .and .u64 ((b : Int) / 4503599627370496) 2047 = (E : Int) := by
   rw [show (b : Int) / 4503599627370496 = ((b / 4503599627370496 : Nat) : Int) by omega, show (2047 : Int) = ((2047 : Nat) : Int) from rfl, u64_and_nat _ _ (by omega) (by omega), nat_mask11, hE]
 have g2 : bits .and .u64 (b : Int) 4503599627370495 = (F : Int) := by
   rw [show (4503599627370495 : Int) = ((4503599627370495 : Nat) : Int) from rfl, u64_and_nat _ _ (by omega) (by omega), hF]
   congr 1
   exact Nat.and_two_pow_sub_one_eq_mod b 52
 have hEb : E < 2048 := by omega
 have hFb : F < 4503599627370496 := by omega
 obtain ⟨T, hT⟩ : ∃ T, T = b / 9223372036854775808 := ⟨_, rfl⟩
 have g3 : (b : Int) / 9223372036854775808 = (T : Int) := by omega
 have hS : Hid (sg b = decide (T = 1)) := Lib.hid (by unfold sg; rw [hT]; exact decide_eq_decide.2 (by omega))
 have hTb : T ≤ 1 := by omega
 have hsig : Hid (fbSig b = if E = 0 then F else F + 4503599627370496) := Lib.hid (by unfold fbSig; rw [hE, hF])
 have hexp : Hid (fbExp b = (if E = 0 then 0 else (E : Int) - 1) - 1074) := Lib.hid (by unfold fbExp; rw [hE])
 have hzero := Lib.hid (fbSig_zero b)
 have hNe : Hid (fbN b = fracN (fbSig b) 1 (fbExp b)) := Lib.hid rfl
 have hDe : Hid (fbD b = fracD (fbSig b) 1 (fbExp b)) := Lib.hid rfl
 have hSZ := Lib.hid (show (sg b && decide (mg b ≠ 0)) = (decide (T = 1) && decide (fbSig b ≠ 0)) by
   rw [hS.out]; simp only [ne_eq, hzero.out])
 have HB := Lib.hid hb
 have hbsz := fbSig_lt b
 have hbe1 := fbExp_lo b
 have hbe2 := fbExp_hi b
 obtain ⟨G, hG⟩ : ∃ G, G = fbSig b := ⟨_, rfl⟩
 obtain ⟨X, hX⟩ : ∃ X, X = fbExp b := ⟨_, rfl⟩
 rw [← hG] at hsig hNe hDe hSZ hbsz
 rw [← hX] at hexp hNe hDe hbe1 hbe2
 have hs1 : Hid (E = 0 → F = G ∧ X = -1074) := Lib.hid (fun h => by rw [hsig.out, hexp.out, if_pos h, if_pos h]; exact ⟨rfl, rfl⟩)
 have hs2 : Hid (E ≠ 0 → F + 4503599627370496 = G ∧ X = (E : Int) - 1 - 1074) := Lib.hid (fun h => by rw [hsig.out, hexp.out, if_neg h, if_neg h]; exact ⟨rfl, rfl⟩)
 have HGb := Lib.hid hbsz
 clear hb hE hF hT hG hX hbsz
 have hsm : ∀ w, Calls Tryz.prog 34 #[.int .u64 (G : Int)] w (RetW G w) := fun w => by
   have := small_any (G : Int) w (by omega) (by have := HGb.out; omega)
   rwa [Int.toNat_natCast] at this
 have HSM := Lib.hid hsm
 clear hsm
 have hd1 : T = 0 ∨ T = 1 := by omega
 clear hTb
 by_cases hE0 : E = 0
 · obtain ⟨e1, e2⟩ := hs1.out hE0
   have hE1 : E ≤ 0 := by omega
   have g4 : (F : Int) = (G : Int) := by omega
   have HX : Hid ((E : Int) - 1074 = X) := Lib.hid (by rw [e2]; omega)
   rw [g4] at g2
   clear hE0 e1 e2 hFb g4
   rcases hd1 with hd1 | hd1
   all_goals
     rw [hd1] at g3
     have HT := Lib.hid hd1
     clear hd1
     obtain ⟨sB, hsB⟩ : ∃ sB, sB = (decide (T = 1)) := ⟨_, rfl⟩
     obtain ⟨nb, hnb⟩ : ∃ nb, nb = (sg b && decide (mg b ≠ 0)) := ⟨_, rfl⟩
     obtain ⟨N, hN⟩ : ∃ N, N = fbN b := ⟨_, rfl⟩
     obtain ⟨D, hD⟩ : ∃ D, D = fbD b := ⟨_, rfl⟩
     rw [← hnb, ← hN, ← hD]
     have HNB : Hid (nb = (sB && decide (G ≠ 0))) := Lib.hid (by rw [hnb, hSZ.out, hsB])
     have HN : Hid (N = fracN G 1 X) := Lib.hid (by rw [hN, hNe.out])
     have HD : Hid (D = fracD G 1 X) := Lib.hid (by rw [hD, hDe.out])
     have HSB : Hid (sB = decide (T = 1)) := Lib.hid hsB
     clear hnb hN hD hsB
     go_enter Tryz.func12, Tryz.ntmps12
     go_wp2_with fail
     refine (HSM.out _).mono ?_
     rintro e w1 ⟨A1, n1, c1, rfl, h1, hEx1⟩
     have h2 := h1.alloc (.cells #[.int .u32 1] 61)
     have h3 := one_wds w1 rfl
     have hn1 : n1 ≤ 2 := by
       have := h1.len
       rw [nd_length] at this
       have := nw_of_bits (x := G) (k := 53) (m := 2) HGb.out (by omega)
       omega
     have hblk := ((Blk.new w 37 #[.bool false, .slice none 0 0, .slice none 0 0]).ext hEx1).ext ((Ext.refl w1).alloc (.cells #[.int .u32 1] 61))
     have hEx : Ext w (w1.alloc (.cells #[.int .u32 1] 61)) := (((Ext.refl w).alloc _).trans hEx1).alloc _
     have hfr := frac_any sB A1 n1 c1 (nd G) (some ⟨w1.heap.size, 0, none⟩) 1 1 [1] X (w1.alloc (.cells #[.int .u32 1] 61)) h2 (by omega) h3 (by omega) (by omega) (by omega) (by simp [nv])
     rw [nv_nd, show nv [1] = 1 from rfl, ← HNB.out, ← HN.out, ← HD.out, ← HX.out, HSB.out, HT.out] at hfr
     have HFR := Lib.hid hfr
     clear hfr h3
     go_wp2_with fail
     refine HFR.out.mono ?_
     rintro e w2 ⟨A2, n2, c2, A3, n3, c3, rfl, hr1, hr2, hEx2⟩
     have hblk2 := hblk.ext hEx2
     have hExw := hEx.trans hEx2
     obtain ⟨G0, hG0⟩ : ∃ G0, G0 = w.heap.size := ⟨_, rfl⟩
     rw [← hG0] at hblk2
     rw [← hG0]
     have hGw : w.heap.size ≤ G0 := by omega
     have hGl := hblk2.lt
     have q0 : w2.cell? ⟨G0, 0, none⟩ = some (.bool false) := hblk2.cell 0
     have q1 : w2.cell? ⟨G0, 1, none⟩ = some (.slice none 0 0) := hblk2.cell 1
     have q2 : w2.cell? ⟨G0, 2, none⟩ = some (.slice none 0 0) := hblk2.cell 2
     have f0 := hblk2.frozen 0
     have f1 := hblk2.frozen 1
     have f2 := hblk2.frozen 2
     clear hG0
     go_wp2
     refine bodyPost_ret (v := .agg #[.bool nb, .slice A2 n2 c2, .slice A3 n3 c3]) (by simp [results, Tryz.results12, go_sem, hGl, q0, q1, q2]) rfl ?_
     exact ⟨_, _, _, _, _, _, rfl, hr1.set_box3 hblk2 (noInt3 _ _ _ _ _ _ _) (by simp) (by simp), hr2.set_box3 hblk2 (noInt3 _ _ _ _ _ _ _) (by simp) (by simp), hExw.set3 hGw _ _ _⟩
 · obtain ⟨e1, e2⟩ := hs2.out hE0
   have hE1 : 0 < E := by omega
   have g4 : (F : Int) + 4503599627370496 = (G : Int) := by omega
   have HX : Hid ((E : Int) - 1 - 1074 = X) := Lib.hid e2.symm
   clear hE0 e1 e2
   rcases hd1 with hd1 | hd1
   all_goals
     rw [hd1] at g3
     have HT := Lib.hid hd1
     clear hd1
     obtain ⟨sB, hsB⟩ : ∃ sB, sB = (decide (T = 1)) := ⟨_, rfl⟩
     obtain ⟨nb, hnb⟩ : ∃ nb, nb = (sg b && decide (mg b ≠ 0)) := ⟨_, rfl⟩
     obtain ⟨N, hN⟩ : ∃ N, N = fbN b := ⟨_, rfl⟩
     obtain ⟨D, hD⟩ : ∃ D, D = fbD b := ⟨_, rfl⟩
     rw [← hnb, ← hN, ← hD]
     have HNB : Hid (nb = (sB && decide (G ≠ 0))) := Lib.hid (by rw [hnb, hSZ.out, hsB])
     have HN : Hid (N = fracN G 1 X) := Lib.hid (by rw [hN, hNe.out])
     have HD : Hid (D = fracD G 1 X) := Lib.hid (by rw [hD, hDe.out])
     have HSB : Hid (sB = decide (T = 1)) := Lib.hid hsB
     clear hnb hN hD hsB
     go_enter Tryz.func12, Tryz.ntmps12
     go_wp2_with fail
     refine (HSM.out _).mono ?_
     rintro e w1 ⟨A1, n1, c1, rfl, h1, hEx1⟩
     have h2 := h1.alloc (.cells #[.int .u32 1] 61)
     have h3 := one_wds w1 rfl
     have hn1 : n1 ≤ 2 := by
       have := h1.len
       rw [nd_length] at this
       have := nw_of_bits (x := G) (k := 53) (m := 2) HGb.out (by omega)
       omega
     have hblk := ((Blk.new w 37 #[.bool false, .slice none 0 0, .slice none 0 0]).ext hEx1).ext ((Ext.refl w1).alloc (.cells #[.int .u32 1] 61))
     have hEx : Ext w (w1.alloc (.cells #[.int .u32 1] 61)) := (((Ext.refl w).alloc _).trans hEx1).alloc _
     have hfr := frac_any sB A1 n1 c1 (nd G) (some ⟨w1.heap.size, 0, none⟩) 1 1 [1] X (w1.alloc (.cells #[.int .u32 1] 61)) h2 (by omega) h3 (by omega) (by omega) (by omega) (by simp [nv])
     rw [nv_nd, show nv [1] = 1 from rfl, ← HNB.out, ← HN.out, ← HD.out, ← HX.out, HSB.out, HT.out] at hfr
     have HFR := Lib.hid hfr
     clear hfr h3
     go_wp2_with fail
     refine HFR.out.mono ?_
     rintro e w2 ⟨A2, n2, c2, A3, n3, c3, rfl, hr1, hr2, hEx2⟩
     have hblk2 := hblk.ext hEx2
     have hExw := hEx.trans hEx2
     obtain ⟨G0, hG0⟩ : ∃ G0, G0 = w.heap.size := ⟨_, rfl⟩
     rw [← hG0] at hblk2
     rw [← hG0]
     have hGw : w.heap.size ≤ G0 := by omega
     have hGl := hblk2.lt
     have q0 : w2.cell? ⟨G0, 0, none⟩ = some (.bool false) := hblk2.cell 0
     have q1 : w2.cell? ⟨G0, 1, none⟩ = some (.slice none 0 0) := hblk2.cell 1
     have q2 : w2.cell? ⟨G0, 2, none⟩ = some (.slice none 0 0) := hblk2.cell 2
     have f0 := hblk2.frozen 0
     have f1 := hblk2.frozen 1
     have f2 := hblk2.frozen 2
     clear hG0
     go_wp2
     refine bodyPost_ret (v := .agg #[.bool nb, .slice A2 n2 c2, .slice A3 n3 c3]) (by simp [results, Tryz.results12, go_sem, hGl, q0, q1, q2]) rfl ?_
     exact ⟨_, _, _, _, _, _, rfl, hr1.set_box3 hblk2 (noInt3 _ _ _ _ _ _ _) (by simp) (by simp), hr2.set_box3 hblk2 (noInt3 _ _ _ _ _ _ _) (by simp) (by simp), hExw.set3 hGw _ _ _⟩
end Go.Proofs.YtbcaggdgoidlaaaGreatDoor

namespace Go.Proofs.YtbcaggdgoidlaaaGreatDoor
open Go.RowKit Nm Rn
set_option maxRecDepth 100000
set_option linter.unusedVariables false
set_option linter.unusedSimpArgs false
theorem Blk.next (w : World) (o : Obj) (t : TypeId) (cs : Array Value) : Blk ((w.alloc o).alloc (.cells cs t)) (w.heap.size + 1) t cs := by
 have := Blk.new (w.alloc o) t cs
 rwa [show (w.alloc o).heap.size = w.heap.size + 1 by simp] at this
def RatAt (w : World) (A : Option Addr) (l c : Nat) (B : Option Addr) (k d : Nat) (N D : Nat) : Prop := Wds w A l c (nd N) ∧ Wds w B k d (nd D)
theorem RatAt.ext {w w' : World} {A : Option Addr} {l c : Nat} {B : Option Addr} {k d N D : Nat} (h : RatAt w A l c B k d N D) (he : Ext w w') : RatAt w' A l c B k d N D := ⟨h.1.ext he, h.2.ext he⟩
theorem RatAt.lenN {w : World} {A : Option Addr} {l c : Nat} {B : Option Addr} {k d N D : Nat} (h : RatAt w A l c B k d N D) : l = nw N := by have := h.1.len; rw [nd_length] at this; omega
theorem RatAt.lenD {w : World} {A : Option Addr} {l c : Nat} {B : Option Addr} {k d N D : Nat} (h : RatAt w A l c B k d N D) : k = nw D := by have := h.2.len; rw [nd_length] at this; omega
set_option maxHeartbeats 1000000 in
theorem int_any (v : Nat) (w : World) (hv : v < 9223372036854775808) :
   Calls Tryz.prog 19 #[.int .i64 (v : Int)] w (RetR false (fracN v 1 0) (fracD v 1 0) w) := by
 have hsm := fun w => small_any (v : Int) w (by omega) (by omega)
 simp only [Int.toNat_natCast] at hsm
 have HSM := Lib.hid hsm
 have hwr : IntKind.u64.wrap (v : Int) = (v : Int) := by simp [IntKind.wrap, IntKind.bits, IntKind.signed]; omega
 have hnn : decide ((v : Int) < 0) = false := decide_eq_false (by omega)
 have hb : nw v ≤ 2 := (nw_le_iff v 2).2 (by omega)
 have HB := Lib.hid hb
 clear hsm hb
 obtain ⟨N, hN⟩ : ∃ N, N = fracN v 1 0 := ⟨_, rfl⟩
 obtain ⟨D, hD⟩ : ∃ D, D = fracD v 1 0 := ⟨_, rfl⟩
 rw [← hN, ← hD]
 have HN := Lib.hid hN
 have HD := Lib.hid hD
 clear hN hD
 go_enter Tryz.func19, Tryz.ntmps19
 go_wp2_with fail
 refine (HSM.out _).mono ?_
 rintro e w1 ⟨A1, n1, c1, rfl, h1, hEx1⟩
 have h2 := h1.alloc (.cells #[.int .u32 1] 61)
 have h3 := one_wds w1 rfl
 have hn1 : n1 ≤ 2 := by
   have := h1.len
   rw [nd_length] at this
   have := HB.out
   omega
 have hblk := ((Blk.new w 37 #[.bool false, .slice none 0 0, .slice none 0 0]).ext hEx1).ext ((Ext.refl w1).alloc (.cells #[.int .u32 1] 61))
 have hEx : Ext w (w1.alloc (.cells #[.int .u32 1] 61)) := (((Ext.refl w).alloc _).trans hEx1).alloc _
 have hfr := frac_any false A1 n1 c1 (nd v) (some ⟨w1.heap.size, 0, none⟩) 1 1 [1] 0 (w1.alloc (.cells #[.int .u32 1] 61)) h2 (by omega) h3 (by omega) (by omega) (by omega) (by simp [nv])
 rw [nv_nd, show nv [1] = 1 from rfl, Bool.false_and, ← HN.out, ← HD.out] at hfr
 have HFR := Lib.hid hfr
 clear hfr h3
 go_wp2_with fail
 refine HFR.out.mono ?_
 rintro e w2 ⟨A2, n2, c2, A3, n3, c3, rfl, hr1, hr2, hEx2⟩
 have hblk2 := hblk.ext hEx2
 have hExw := hEx.trans hEx2
 obtain ⟨G0, hG0⟩ : ∃ G0, G0 = w.heap.size := ⟨_, rfl⟩
 rw [← hG0] at hblk2
 rw [← hG0]
 have hGw : w.heap.size ≤ G0 := by omega
 have hGl := hblk2.lt
 have q0 : w2.cell? ⟨G0, 0, none⟩ = some (.bool false) := hblk2.cell 0
 have q1 : w2.cell? ⟨G0, 1, none⟩ = some (.slice none 0 0) := hblk2.cell 1
 have q2 : w2.cell? ⟨G0, 2, none⟩ = some (.slice none 0 0) := hblk2.cell 2
 have f0 := hblk2.frozen 0
 have f1 := hblk2.frozen 1
 have f2 := hblk2.frozen 2
 clear hG0
 go_wp2
 refine bodyPost_ret (v := .agg #[.bool false, .slice A2 n2 c2, .slice A3 n3 c3]) (by simp [results, Tryz.results19, go_sem, hGl, q0, q1, q2]) rfl ?_
 exact ⟨_, _, _, _, _, _, rfl, hr1.set_box3 hblk2 (noInt3 _ _ _ _ _ _ _) (by simp) (by simp), hr2.set_box3 hblk2 (noInt3 _ _ _ _ _ _ _) (by simp) (by simp), hExw.set3 hGw _ _ _⟩
set_option maxHeartbeats 2000000 in
theorem rneg_f (A : Option Addr) (l c : Nat) (B : Option Addr) (k d N D : Nat) (w : World) (h : RatAt w A l c B k d N D) (hN : nw N ≤ 1073741824) (hD : nw D ≤ 1073741824) :
   Calls Tryz.prog 21 #[.agg #[.bool false, .slice A l c, .slice B k d]] w (RetR (decide (N ≠ 0)) N D w) := by
 have hlb : l ≤ 1073741824 := by have := h.lenN; omega
 have hkb : k ≤ 1073741824 := by have := h.lenD; omega
 obtain ⟨R, hR⟩ : ∃ R : Bool, R = decide (N ≠ 0) := ⟨_, rfl⟩
 have hz : decide ((0 : Int) < (l : Int)) = R := by
   have : l = 0 ↔ N = 0 := by rw [h.lenN]; exact nw_eq_zero
   rw [hR]
   exact decide_eq_decide.2 (by omega)
 have hzn : decide (0 < l) = R := by rw [← hz]; exact decide_eq_decide.2 (by omega)
 try rw [← hR]
 obtain ⟨G, hG⟩ : ∃ G, G = w.heap.size + 1 := ⟨_, rfl⟩
 have hGw : w.heap.size ≤ G := by omega
 have HGS := Lib.hid (show w.heap.size + 1 = G from hG.symm)
 obtain ⟨S, hS⟩ : ∃ S : World → Prop, S = fun wz => Blk wz w.heap.size 37 #[.bool false, .slice A l c, .slice B k d] ∧ Blk wz G 37 #[.bool false, .slice none 0 0, .slice none 0 0] ∧ RatAt wz A l c B k d N D ∧ Ext w wz := ⟨_, rfl⟩
 have hSE : ∀ w w', S w → Ext w w' → S w' := fun w w' h1 h2 => by rw [hS] at h1 ⊢; exact ⟨h1.1.ext h2, h1.2.1.ext h2, h1.2.2.1.ext h2, h1.2.2.2.trans h2⟩
 obtain ⟨w1, hw1⟩ : ∃ w1, w1 = (w.alloc (.cells #[.bool false, .slice A l c, .slice B k d] 37)).alloc (.cells #[.bool false, .slice none 0 0, .slice none 0 0] 37) := ⟨_, rfl⟩
 have hS1 : S { w1 with drawn := w1.drawn + 1 } := by
   rw [hS, hw1]
   have hE : Ext w ((w.alloc (.cells #[.bool false, .slice A l c, .slice B k d] 37)).alloc (.cells #[.bool false, .slice none 0 0, .slice none 0 0] 37)) := ((Ext.refl w).alloc _).alloc _
   exact ⟨(Blk.new w _ _).ext (((Ext.refl _).alloc _).drew), by rw [hG]; exact Blk.next w _ _ _, h.ext hE.drew, hE.drew⟩
 obtain ⟨sp, hsp⟩ : ∃ sp : Nat → Sp, sp = ofList [det (.pointer (some ⟨w.heap.size, 0, none⟩)), det (.bool false), det (.bool true), det (.bool true), det (.pointer (some ⟨w.heap.size, 1, none⟩)), det (.slice A l c), det (.int .i64 (l : Int)), det (.bool R), det (.bool R), det (.pointer (some ⟨w.heap.size, 1, none⟩)), det (.slice A l c), anyOf (fun v wz => ∃ A n c, v = .slice A n c ∧ Wds wz A n c (nd N)), det (.pointer (some ⟨w.heap.size, 2, none⟩)), det (.slice B k d), anyOf (fun v wz => ∃ A n c, v = .slice A n c ∧ Wds wz A n c (nd D)), anyOf (fun v wz => ∃ A1 n1 c1 A2 n2 c2, v = .agg #[.bool R, .slice A1 n1 c1, .slice A2 n2 c2] ∧ RatAt wz A1 n1 c1 A2 n2 c2 N D)] := ⟨_, rfl⟩
 have HS := Lib.hid hS
 have HSP := Lib.hid hsp
 have HW1 := Lib.hid hw1
 clear hS hsp hw1 hG hR h
 go_enter Tryz.func21, Tryz.ntmps21
 go_wp2_with fail
 rw [← HW1.out, HGS.out]
 clear HW1
 refine wp_region_loose 16 S sp (by kernel_rfl) (by kernel_rfl) hS1 hSE ?_
 simp only [List.take_succ_cons, List.take_zero, List.drop_succ_cons, List.drop_zero]
 repeat (refine wpX_step (fun K hK => ?_)
         go_simp
         first
         | (refine ⟨by rw [HSP.out]; rfl, hK _ _ ?_⟩
            clear hK K)
         | (refine StepY.det (by rw [HSP.out]; rfl) ?_ ?_
            · intro wz hz hF
              have hz' := hz
              rw [HS.out] at hz'
              have g0 := hz'.1.cell 0
              have g1 := hz'.1.cell 1
              have g2 := hz'.1.cell 2
              simp only [List.getElem?_toArray, List.getElem?_cons_zero, List.getElem?_cons_succ] at g0 g1 g2
              clear hz' hF
              go_simp
              exact ⟨rfl, Ext.refl _⟩
            refine hK _ _ ?_
            clear hK K)
         | (refine StepY.any (by rw [HSP.out]; rfl) ?_ ?_
            · intro wz hz hF
              have hz' := hz
              rw [HS.out] at hz'
              have hx : Wds wz A l c (nd N) := hz'.2.2.1.1
              have hy : Wds wz B k d (nd D) := hz'.2.2.1.2
              clear hz'
              go_simp
              first
              | (go_at_call 42
                 (with_reducible refine (norm_any A l c (nd N) _ hx (by omega)).mono ?_)
                 rintro e w2 ⟨A1, n1, c1, rfl, hW1, hE1⟩
                 rw [nv_nd] at hW1
                 exact ⟨_, rfl, ⟨A1, n1, c1, rfl, hW1⟩, hE1⟩)
              | (go_at_call 42
                 (with_reducible refine (norm_any B k d (nd D) _ hy (by omega)).mono ?_)
                 rintro e w2 ⟨A1, n1, c1, rfl, hW1, hE1⟩
                 rw [nv_nd] at hW1
                 exact ⟨_, rfl, ⟨A1, n1, c1, rfl, hW1⟩, hE1⟩)
              | skip
            intro v
            refine hK _ _ ?_
            clear hK K))
 refine wpX_step (fun K hK => ?_)
 go_simp
 refine StepY.any (by rw [HSP.out]; rfl) ?_ ?_
 · intro wz hz hF
   obtain ⟨wa, ea, A1, n1, c1, hv1, hw1⟩ := hF.any 11 (by kernel_rfl) (by rw [HSP.out]; rfl)
   obtain ⟨wb, eb, A2, n2, c2, hv2, hw2⟩ := hF.any 14 (by kernel_rfl) (by rw [HSP.out]; rfl)
   clear hF
   simp only [asFun, List.nil_append, List.cons_append, List.getD_cons_succ, List.getD_cons_zero] at hv1 hv2
   subst hv1 hv2
   go_simp
   exact ⟨⟨A1, n1, c1, A2, n2, c2, rfl, hw1.ext ea, hw2.ext eb⟩, Ext.refl _⟩
 · intro v
   refine hK _ _ ?_
   clear hK K
   refine wpX_nil ?_
   intro w3 hz hF
   obtain ⟨w0, e0, A1, n1, c1, A2, n2, c2, hv, hw0⟩ := fact_any (hF 15 (by omega)) (by rw [HSP.out]; rfl)
   clear hF
   simp only [asFun, List.nil_append, List.cons_append, List.getD_cons_succ, List.getD_cons_zero] at hv
   subst hv
   rw [HS.out] at hz
   have hb3 := hz.2.1
   have hEx := hz.2.2.2
   have hr1 := hw0.1.ext e0
   have hr2 := hw0.2.ext e0
   have hGl := hb3.lt
   have q0 : w3.cell? ⟨G, 0, none⟩ = some (.bool false) := hb3.cell 0
   have q1 : w3.cell? ⟨G, 1, none⟩ = some (.slice none 0 0) := hb3.cell 1
   have q2 : w3.cell? ⟨G, 2, none⟩ = some (.slice none 0 0) := hb3.cell 2
   have f0 := hb3.frozen 0
   have f1 := hb3.frozen 1
   have f2 := hb3.frozen 2
   clear hz hw0 e0
   go_wp2
   exact bodyPost_ret (v := .agg #[.bool R, .slice A1 n1 c1, .slice A2 n2 c2]) (by simp [results, Tryz.results21, go_sem, hGl, q0, q1, q2]) rfl
     ⟨_, _, _, _, _, _, rfl, hr1.set_box3 hb3 (noInt3 _ _ _ _ _ _ _) (by simp) (by simp), hr2.set_box3 hb3 (noInt3 _ _ _ _ _ _ _) (by simp) (by simp), hEx.set3 hGw _ _ _⟩
set_option maxHeartbeats 2000000 in
theorem rneg_t (A : Option Addr) (l c : Nat) (B : Option Addr) (k d N D : Nat) (w : World) (h : RatAt w A l c B k d N D) (hN : nw N ≤ 1073741824) (hD : nw D ≤ 1073741824) :
   Calls Tryz.prog 21 #[.agg #[.bool true, .slice A l c, .slice B k d]] w (RetR false N D w) := by
 have hlb : l ≤ 1073741824 := by have := h.lenN; omega
 have hkb : k ≤ 1073741824 := by have := h.lenD; omega
 obtain ⟨G, hG⟩ : ∃ G, G = w.heap.size + 1 := ⟨_, rfl⟩
 have hGw : w.heap.size ≤ G := by omega
 have HGS := Lib.hid (show w.heap.size + 1 = G from hG.symm)
 obtain ⟨S, hS⟩ : ∃ S : World → Prop, S = fun wz => Blk wz w.heap.size 37 #[.bool true, .slice A l c, .slice B k d] ∧ Blk wz G 37 #[.bool false, .slice none 0 0, .slice none 0 0] ∧ RatAt wz A l c B k d N D ∧ Ext w wz := ⟨_, rfl⟩
 have hSE : ∀ w w', S w → Ext w w' → S w' := fun w w' h1 h2 => by rw [hS] at h1 ⊢; exact ⟨h1.1.ext h2, h1.2.1.ext h2, h1.2.2.1.ext h2, h1.2.2.2.trans h2⟩
 obtain ⟨w1, hw1⟩ : ∃ w1, w1 = (w.alloc (.cells #[.bool true, .slice A l c, .slice B k d] 37)).alloc (.cells #[.bool false, .slice none 0 0, .slice none 0 0] 37) := ⟨_, rfl⟩
 have hS1 : S { w1 with drawn := w1.drawn + 1 } := by
   rw [hS, hw1]
   have hE : Ext w ((w.alloc (.cells #[.bool true, .slice A l c, .slice B k d] 37)).alloc (.cells #[.bool false, .slice none 0 0, .slice none 0 0] 37)) := ((Ext.refl w).alloc _).alloc _
   exact ⟨(Blk.new w _ _).ext (((Ext.refl _).alloc _).drew), by rw [hG]; exact Blk.next w _ _ _, h.ext hE.drew, hE.drew⟩
 obtain ⟨sp, hsp⟩ : ∃ sp : Nat → Sp, sp = ofList [det (.pointer (some ⟨w.heap.size, 0, none⟩)), det (.bool true), det (.bool false), det (.bool false), det undef, det undef, det undef, det undef, det (.bool false), det (.pointer (some ⟨w.heap.size, 1, none⟩)), det (.slice A l c), anyOf (fun v wz => ∃ A n c, v = .slice A n c ∧ Wds wz A n c (nd N)), det (.pointer (some ⟨w.heap.size, 2, none⟩)), det (.slice B k d), anyOf (fun v wz => ∃ A n c, v = .slice A n c ∧ Wds wz A n c (nd D)), anyOf (fun v wz => ∃ A1 n1 c1 A2 n2 c2, v = .agg #[.bool false, .slice A1 n1 c1, .slice A2 n2 c2] ∧ RatAt wz A1 n1 c1 A2 n2 c2 N D)] := ⟨_, rfl⟩
 have HS := Lib.hid hS
 have HSP := Lib.hid hsp
 have HW1 := Lib.hid hw1
 clear hS hsp hw1 hG h
 go_enter Tryz.func21, Tryz.ntmps21
 go_wp2_with fail
 rw [← HW1.out, HGS.out]
 clear HW1
 refine wp_region_loose 16 S sp (by kernel_rfl) (by kernel_rfl) hS1 hSE ?_
 simp only [List.take_succ_cons, List.take_zero, List.drop_succ_cons, List.drop_zero]
 repeat (refine wpX_step (fun K hK => ?_)
         go_simp
         first
         | (refine ⟨by rw [HSP.out]; rfl, hK _ _ ?_⟩
            clear hK K)
         | (refine StepY.det (by rw [HSP.out]; rfl) ?_ ?_
            · intro wz hz hF
              have hz' := hz
              rw [HS.out] at hz'
              have g0 := hz'.1.cell 0
              have g1 := hz'.1.cell 1
              have g2 := hz'.1.cell 2
              simp only [List.getElem?_toArray, List.getElem?_cons_zero, List.getElem?_cons_succ] at g0 g1 g2
              clear hz' hF
              go_simp
              exact ⟨rfl, Ext.refl _⟩
            refine hK _ _ ?_
            clear hK K)
         | (refine StepY.any (by rw [HSP.out]; rfl) ?_ ?_
            · intro wz hz hF
              have hz' := hz
              rw [HS.out] at hz'
              have hx : Wds wz A l c (nd N) := hz'.2.2.1.1
              have hy : Wds wz B k d (nd D) := hz'.2.2.1.2
              clear hz'
              go_simp
              first
              | (go_at_call 42
                 (with_reducible refine (norm_any A l c (nd N) _ hx (by omega)).mono ?_)
                 rintro e w2 ⟨A1, n1, c1, rfl, hW1, hE1⟩
                 rw [nv_nd] at hW1
                 exact ⟨_, rfl, ⟨A1, n1, c1, rfl, hW1⟩, hE1⟩)
              | (go_at_call 42
                 (with_reducible refine (norm_any B k d (nd D) _ hy (by omega)).mono ?_)
                 rintro e w2 ⟨A1, n1, c1, rfl, hW1, hE1⟩
                 rw [nv_nd] at hW1
                 exact ⟨_, rfl, ⟨A1, n1, c1, rfl, hW1⟩, hE1⟩)
              | skip
            intro v
            refine hK _ _ ?_
            clear hK K))
 refine wpX_step (fun K hK => ?_)
 go_simp
 refine StepY.any (by rw [HSP.out]; rfl) ?_ ?_
 · intro wz hz hF
   obtain ⟨wa, ea, A1, n1, c1, hv1, hw1⟩ := hF.any 11 (by kernel_rfl) (by rw [HSP.out]; rfl)
   obtain ⟨wb, eb, A2, n2, c2, hv2, hw2⟩ := hF.any 14 (by kernel_rfl) (by rw [HSP.out]; rfl)
   clear hF
   simp only [asFun, List.nil_append, List.cons_append, List.getD_cons_succ, List.getD_cons_zero] at hv1 hv2
   subst hv1 hv2
   go_simp
   exact ⟨⟨A1, n1, c1, A2, n2, c2, rfl, hw1.ext ea, hw2.ext eb⟩, Ext.refl _⟩
 · intro v
   refine hK _ _ ?_
   clear hK K
   refine wpX_nil ?_
   intro w3 hz hF
   obtain ⟨w0, e0, A1, n1, c1, A2, n2, c2, hv, hw0⟩ := fact_any (hF 15 (by omega)) (by rw [HSP.out]; rfl)
   clear hF
   simp only [asFun, List.nil_append, List.cons_append, List.getD_cons_succ, List.getD_cons_zero] at hv
   subst hv
   rw [HS.out] at hz
   have hb3 := hz.2.1
   have hEx := hz.2.2.2
   have hr1 := hw0.1.ext e0
   have hr2 := hw0.2.ext e0
   have hGl := hb3.lt
   have q0 : w3.cell? ⟨G, 0, none⟩ = some (.bool false) := hb3.cell 0
   have q1 : w3.cell? ⟨G, 1, none⟩ = some (.slice none 0 0) := hb3.cell 1
   have q2 : w3.cell? ⟨G, 2, none⟩ = some (.slice none 0 0) := hb3.cell 2
   have f0 := hb3.frozen 0
   have f1 := hb3.frozen 1
   have f2 := hb3.frozen 2
   clear hz hw0 e0
   go_wp2
   exact bodyPost_ret (v := .agg #[.bool false, .slice A1 n1 c1, .slice A2 n2 c2]) (by simp [results, Tryz.results21, go_sem, hGl, q0, q1, q2]) rfl
     ⟨_, _, _, _, _, _, rfl, hr1.set_box3 hb3 (noInt3 _ _ _ _ _ _ _) (by simp) (by simp), hr2.set_box3 hb3 (noInt3 _ _ _ _ _ _ _) (by simp) (by simp), hEx.set3 hGw _ _ _⟩
theorem rneg_any (neg : Bool) (A : Option Addr) (l c : Nat) (B : Option Addr) (k d N D : Nat) (w : World) (h : RatAt w A l c B k d N D) (hN : nw N ≤ 1073741824) (hD : nw D ≤ 1073741824) :
   Calls Tryz.prog 21 #[.agg #[.bool neg, .slice A l c, .slice B k d]] w (RetR (!neg && decide (N ≠ 0)) N D w) := by
 cases neg
 · exact rneg_f A l c B k d N D w h hN hD
 · exact rneg_t A l c B k d N D w h hN hD
end Go.Proofs.YtbcaggdgoidlaaaGreatDoor

namespace Go.Proofs.YtbcaggdgoidlaaaGreatDoor
open Go.RowKit Nm
set_option maxRecDepth 100000
set_option linter.unusedVariables false
set_option linter.unusedSimpArgs false
theorem nw_mul2 (a b : Nat) : nw (a * b) ≤ nw a + nw b := by
 have h1 := lt_pow_nw a
 have h2 := lt_pow_nw b
 refine (nw_le_iff _ _).2 ?_
 rw [Nat.pow_add]
 exact Nat.mul_lt_mul'' h1 h2
theorem zero_rat (w : World) : (zeroValue 37).run Tryz.prog w = .ok (.agg #[.bool false, .slice none 0 0, .slice none 0 0]) w := by kernel_rfl
theorem agg_rat (w : World) : (isAgg 37).run Tryz.prog w = .ok true w := by kernel_rfl
theorem size_rat (w : World) : (sizeOf 37).run Tryz.prog w = .ok 3 w := by kernel_rfl
end Go.Proofs.YtbcaggdgoidlaaaGreatDoor

namespace Go.Proofs.YtbcaggdgoidlaaaGreatDoor
open Go.RowKit Nm Rn
set_option maxRecDepth 100000
set_option linter.unusedVariables false
set_option linter.unusedSimpArgs false
set_option maxHeartbeats 2000000 in
theorem rpow_any (A : Option Addr) (l c : Nat) (B : Option Addr) (k d N D e : Nat) (w : World) (h : RatAt w A l c B k d N D) (he : e ≤ 1024) (bN : bl N ≤ 3000) (bD : bl D ≤ 3000) (hD : 0 < D) :
   Calls Tryz.prog 16 #[.agg #[.bool false, .slice A l c, .slice B k d], .int .i64 (e : Int)] w (RetR false (fracN (N ^ e) (D ^ e) 0) (fracD (N ^ e) (D ^ e) 0) w) := by
 have hl := h.lenN
 have hk := h.lenD
 have hO := ((Own.start w).add h.1).add h.2
 have hsz : ∀ V, bl V ≤ 3000 → nw V ≤ 100 ∧ nw ((V + 1) ^ e) ≤ 1000000 ∧ nw (V ^ e) ≤ 1000000 := fun V hV => by
   have h1 := nw_bl V
   obtain ⟨T, hT⟩ : ∃ T, T = 3001 := ⟨_, rfl⟩
   have h2 : (V + 1) ≤ 2 ^ T := by
     have h3 := lt_pow_bl V
     have h4 : 2 ^ bl V ≤ 2 ^ T := Nat.pow_le_pow_right (by omega) (by omega)
     omega
   have h5 := nw_pow_le (n := e) h2
   have h6 : nw (V ^ e) ≤ nw ((V + 1) ^ e) := nw_mono (Nat.pow_le_pow_left (by omega) e)
   rw [hT] at h5
   omega
 obtain ⟨s1, s2, s3⟩ := hsz N bN
 obtain ⟨t1, t2, t3⟩ := hsz D bD
 have hT1 := fun w h => power_any A l c (nd N) e w h (by omega) (by omega) (by rw [nv_nd]; exact s2)
 have hT2 := fun w h => power_any B k d (nd D) e w h (by omega) (by omega) (by rw [nv_nd]; exact t2)
 have hp : 0 < D ^ e := Nat.pow_pos hD
 have hFR := fun A n1 c B n2 d w (h : Wds w A n1 c (nd (N ^ e))) (k : Wds w B n2 d (nd (D ^ e))) => frac_any false A n1 c (nd (N ^ e)) B n2 d (nd (D ^ e)) 0 w h (by have := h.len; rw [nd_length] at this; omega) k (by have := k.len; rw [nd_length] at this; omega) (by omega) (by omega) (by rw [nv_nd]; exact hp)
 simp only [nv_nd, Bool.false_and] at hT1 hT2 hFR
 obtain ⟨P, hP⟩ : ∃ P, P = N ^ e := ⟨_, rfl⟩
 obtain ⟨Q, hQ⟩ : ∃ Q, Q = D ^ e := ⟨_, rfl⟩
 rw [← hP] at hT1 hFR ⊢
 rw [← hQ] at hT2 hFR ⊢
 have HT1 := Lib.hid hT1
 have HT2 := Lib.hid hT2
 have HFR := Lib.hid hFR
 clear hT1 hT2 hFR hP hQ h hl hk hsz s1 s2 s3 t1 t2 t3 bN bD hD hp
 go_enter Tryz.func16, Tryz.ntmps16
 go_wp2_with (first
   | (refine own_box (cs := [.bool false, .slice A l c, .slice B k d]) hO rfl rfl ?_; clear hO; intro ga wa hO)
   | (refine own_alloc hO zero_rat rfl rfl ?_; clear hO; intro g w1 hO))
 obtain ⟨S, hS⟩ : ∃ S : World → Prop, S = Own w [⟨g, 37, [.bool false, .slice none 0 0, .slice none 0 0]⟩, ⟨ga, 37, [.bool false, .slice A l c, .slice B k d]⟩] [⟨B, k, d, nd D⟩, ⟨A, l, c, nd N⟩] := ⟨_, rfl⟩
 have hSE : ∀ w w', S w → Ext w w' → S w' := fun w w' h1 h2 => by rw [hS] at h1 ⊢; exact h1.ext h2
 have hS1 : S w1.drew := by rw [hS]; exact hO.ext (Ext.refl w1).drew
 have HS := Lib.hid hS
 clear hS hO
 obtain ⟨sp, hsp⟩ : ∃ sp : Nat → Sp, sp = ofList [det (.pointer (some ⟨ga, 0, none⟩)), det (.bool false), det (.bool false), det undef, det undef, det undef, det (.bool false),
   det (.pointer (some ⟨ga, 1, none⟩)), det (.slice A l c), det (.int .i64 (e : Int)), anyOf (fun v wz => ∃ A1 n1 c1, v = .slice A1 n1 c1 ∧ Wds wz A1 n1 c1 (nd P)),
   det (.pointer (some ⟨ga, 2, none⟩)), det (.slice B k d), det (.int .i64 (e : Int)), anyOf (fun v wz => ∃ A1 n1 c1, v = .slice A1 n1 c1 ∧ Wds wz A1 n1 c1 (nd Q)),
   anyOf (fun v wz => ∃ A1 n1 c1 A2 n2 c2, v = .agg #[.bool false, .slice A1 n1 c1, .slice A2 n2 c2] ∧ RatAt wz A1 n1 c1 A2 n2 c2 (fracN P Q 0) (fracD P Q 0))] := ⟨_, rfl⟩
 have HSP := Lib.hid hsp
 clear hsp
 refine wp_region_loose 16 S sp (by kernel_rfl) (by kernel_rfl) hS1 hSE ?_
 simp only [List.take_succ_cons, List.take_zero, List.drop_succ_cons, List.drop_zero]
 iterate 15
   refine wpX_step (fun K hK => ?_)
   go_simp
   first
   | (refine ⟨by rw [HSP.out]; rfl, hK _ _ ?_⟩
      clear hK K)
   | (refine StepY.det (by rw [HSP.out]; rfl) ?_ ?_
      · intro wz hz hF
        rw [HS.out] at hz
        have hf := hz.facts
        simp only [BF, CF, Nat.zero_add, Nat.reduceAdd, and_true] at hf
        clear hz hF
        go_simp
        exact ⟨rfl, Ext.refl _⟩
      refine hK _ _ ?_
      clear hK K)
   | (refine StepY.any (by rw [HSP.out]; rfl) ?_ ?_
      · intro wz hz hF
        rw [HS.out] at hz
        have h1 := hz.wd 1 rfl
        have h2 := hz.wd 0 rfl
        clear hz
        go_simp
        go_at_call 41
        first
        | (with_reducible refine (HT1.out _ h1).mono ?_)
        | (with_reducible refine (HT2.out _ h2).mono ?_)
        rintro e w2 ⟨A1, n1, c1, rfl, hW1, hE1⟩
        exact ⟨_, rfl, ⟨A1, n1, c1, rfl, hW1⟩, hE1⟩
      intro v
      refine hK _ _ ?_
      clear hK K)
 refine wpX_step (fun K hK => ?_)
 go_simp
 refine StepY.any (by rw [HSP.out]; rfl) ?_ ?_
 · intro wz hz hF
   obtain ⟨wa', ea, A1, n1, c1, hv1, hw1⟩ := hF.any 10 (by kernel_rfl) (by rw [HSP.out]; rfl)
   obtain ⟨wb', eb, A2, n2, c2, hv2, hw2⟩ := hF.any 14 (by kernel_rfl) (by rw [HSP.out]; rfl)
   clear hF
   simp only [asFun, List.nil_append, List.cons_append, List.getD_cons_succ, List.getD_cons_zero] at hv1 hv2
   subst hv1 hv2
   go_simp
   go_at_call 33
   refine (HFR.out _ _ _ _ _ _ _ (hw1.ext ea) (hw2.ext eb)).mono ?_
   rintro e w2 ⟨A3, n3, c3, A4, n4, c4, rfl, hW1, hW2, hE1⟩
   exact ⟨_, rfl, ⟨A3, n3, c3, A4, n4, c4, rfl, hW1, hW2⟩, hE1⟩
 intro v
 refine hK _ _ ?_
 clear hK K
 refine wpX_nil ?_
 intro w3 hz hF
 obtain ⟨w0, e0, A3, n3, c3, A4, n4, c4, hv, hw0⟩ := fact_any (hF 15 (by omega)) (by rw [HSP.out]; rfl)
 clear hF
 simp only [asFun, List.nil_append, List.cons_append, List.getD_cons_succ, List.getD_cons_zero] at hv
 subst hv
 rw [HS.out] at hz
 have hO := (hz.add (hw0.ext e0).1).add (hw0.ext e0).2
 clear hz hw0 e0
 go_wp2_with (refine own_store hO 0 rfl rfl rfl size_rat rfl rfl rfl ?_; clear hO; intro w4 hO)
 exact own_ret hO 0 rfl rfl rfl agg_rat size_rat rfl ⟨_, _, _, _, _, _, rfl, hO.wd 1 rfl, hO.wd 0 rfl, hO.toExt⟩
set_option maxHeartbeats 400000 in
theorem finite2_any (b : Nat) (w : World) (h : b < 18446744073709551616) :
   Calls Tryz.prog 35 #[.int .u64 (b : Int)] w fun e w' => e = .returned (.bool (decide (mg b < infR))) ∧ w = w' := by
 obtain ⟨E, hE⟩ : ∃ E, E = b / 4503599627370496 % 2048 := ⟨_, rfl⟩
 have g1 : bits .and .u64 ((b : Int) / 4503599627370496) 2047 = (E : Int) := by
   rw [show (2047 : Int) = ((2047 : Nat) : Int) from rfl, show (b : Int) / 4503599627370496 = ((b / 4503599627370496 : Nat) : Int) from rfl, u64_and_nat _ _ (by omega) (by omega), hE]
   congr 1
   exact Nat.and_two_pow_sub_one_eq_mod (b / 4503599627370496) 11
 have HF : Hid ((!((E : Int) == 2047)) = decide (mg b < infR)) := Lib.hid (by
   unfold mg
   rw [infR_val]
   rw [Bool.eq_iff_iff, Bool.not_eq_true', beq_eq_false_iff_ne, decide_eq_true_iff]
   omega)
 clear h hE
 go_enter Tryz.func35, Tryz.ntmps35
 go_wp2
 go_ret
 exact ⟨ret_bool HF.out, rfl⟩
end Go.Proofs.YtbcaggdgoidlaaaGreatDoor
