/-
 The contracts of the reference's ratios. Conditions: those that each theorem names.
-/
import Derived.Test.YtbcaggdgoidlaaaGreatDoorH08
import Derived.Test.YtbcaggdgoidlaaaGreatDoorH19
import Derived.Test.YtbcaggdgoidlaaaGreatDoorH12
import Derived.Test.YtbcaggdgoidlaaaGreatDoorH10
import Derived.Test.YtbcaggdgoidlaaaGreatDoorH03
import Derived.Test.YtbcaggdgoidlaaaGreatDoorH18
namespace Go.Proofs.YtbcaggdgoidlaaaGreatDoor
open Go.RowKit Nm
set_option maxRecDepth 100000
set_option linter.unusedVariables false
set_option linter.unusedSimpArgs false
theorem nd_one : nd 1 = [1] := by rw [nd_pos (by omega), show 1 / 4294967296 = 0 from rfl, nd_zero]
theorem one_wds (w : World) {g : Nat} (hg : g = w.heap.size) : Wds (w.alloc (.cells #[.int .u32 1] 61)) (some ⟨g, 0, none⟩) 1 1 [1] := by
 subst hg
 exact (Row.new w [1]).wds (Ws.cons (by omega) Ws.nil) rfl (Nat.le_refl _) (by unfold maxLen; omega)
def RetR (neg : Bool) (n m : Nat) (w : World) (e : Ending) (w' : World) : Prop :=
 ∃ A l c B k d, e = .returned (.agg #[.bool neg, .slice A l c, .slice B k d]) ∧ Wds w' A l c (nd n) ∧ Wds w' B k d (nd m) ∧ Ext w w'
set_option maxHeartbeats 1000000 in
theorem frac_any (neg : Bool) (A : Option Addr) (n c : Nat) (xs : List Nat) (B : Option Addr) (m d : Nat) (ys : List Nat) (ex : Int) (w : World) (h : Wds w A n c xs) (hn : n ≤ 274877906944) (k : Wds w B m d ys) (hm : m ≤ 274877906944)
   (he1 : -4398046511104 ≤ ex) (he2 : ex ≤ 4398046511104) (hpos : 0 < nv ys) :
   Calls Tryz.prog 33 #[.bool neg, .slice A n c, .slice B m d, .int .i64 ex] w (RetR (neg && decide (nv xs ≠ 0)) (fracN (nv xs) (nv ys) ex) (fracD (nv xs) (nv ys) ex) w) := by
 have hlx := h.len
 have hly := k.len
 have hXl : nv xs < 4294967296 ^ n := by rw [← hlx]; exact nv_lt h.ws
 have hYl : nv ys < 4294967296 ^ m := by rw [← hly]; exact nv_lt k.ws
 by_cases h0 : nv xs = 0
 · have hz : nw (nv xs) ≤ 0 := by rw [h0, nw_zero]; omega
   have HN : Hid (nd (fracN (nv xs) (nv ys) ex) = []) := Lib.hid (by rw [h0, fracN_zero, nd_zero])
   have HD : Hid (nd (fracD (nv xs) (nv ys) ex) = [1]) := Lib.hid (by rw [h0]; simp only [fracD, if_true]; exact nd_one)
   have HB : Hid ((neg && decide (nv xs ≠ 0)) = false) := Lib.hid (by simp [h0])
   clear h0 hXl hYl
   rw [HB.out]
   go_enter Tryz.func33, Tryz.ntmps33
   go_wp2_with fail
   refine (norm_any _ _ _ _ _ (h.alloc _) (by omega)).mono ?_
   rintro e w1 ⟨A1, n1, c1, rfl, hN, hE1⟩
   have hn1 : n1 ≤ 0 := by have := hN.len; rw [nd_length] at this; omega
   go_wp2_with fail
   refine (norm_any _ _ _ _ _ ((k.alloc _).ext hE1) (by omega)).mono ?_
   rintro e w2 ⟨A2, n2, c2, rfl, hM, hE2⟩
   have hblk := ((Blk.new w 37 #[Value.bool false, Value.slice none 0 0, Value.slice none 0 0]).ext hE1).ext hE2
   have hE : Ext w w2 := ((Ext.refl w).alloc _).trans (hE1.trans hE2)
   obtain ⟨G, hG⟩ : ∃ G, G = w.heap.size := ⟨_, rfl⟩
   rw [← hG] at hblk
   rw [← hG]
   have hGl := hblk.lt
   have hGw : w.heap.size ≤ G := by omega
   have q0 : w2.cell? ⟨G, 0, none⟩ = some (.bool false) := hblk.cell 0
   have q1 : w2.cell? ⟨G, 1, none⟩ = some (.slice none 0 0) := hblk.cell 1
   have q2 : w2.cell? ⟨G, 2, none⟩ = some (.slice none 0 0) := hblk.cell 2
   have f0 := hblk.frozen 0
   have f1 := hblk.frozen 1
   have f2 := hblk.frozen 2
   clear hG
   go_wp2
   refine bodyPost_ret (v := .agg #[.bool false, .slice none 0 0, .slice (some ⟨w2.heap.size, 0, none⟩) 1 1]) (by simp [results, Tryz.results33, go_sem, hGl, q0, q1, q2]) rfl ?_
   refine ⟨none, 0, 0, some ⟨w2.heap.size, 0, none⟩, 1, 1, rfl, by rw [HN.out]; exact Wds.nil_ (by unfold maxLen; omega), ?_, (hE.set3 hGw _ _ _).alloc _⟩
   rw [HD.out]
   exact one_wds _ (by simp [World.setCell])
 · have hX0 : 0 < nv xs := by omega
   have HB : Hid ((neg && decide (nv xs ≠ 0)) = neg) := Lib.hid (by simp [h0])
   have HN : Hid (fracN (nv xs) (nv ys) ex = nv xs / 2 ^ tz (nv xs) * 2 ^ (ex + tz (nv xs) - tz (nv ys)).toNat) := Lib.hid (by unfold fracN; rw [if_neg h0])
   have HD : Hid (fracD (nv xs) (nv ys) ex = nv ys / 2 ^ tz (nv ys) * 2 ^ (-(ex + tz (nv xs) - tz (nv ys))).toNat) := Lib.hid (by unfold fracD; rw [if_neg h0])
   have hta : tz (nv xs) ≤ 32 * n := by
     have h1 := tz_lt h0
     have h2 := (bl_le_iff (nv xs) (32 * n)).2 (by rw [← pow32]; exact hXl)
     omega
   have htb : tz (nv ys) ≤ 32 * m := by
     have h1 := tz_lt (show nv ys ≠ 0 by omega)
     have h2 := (bl_le_iff (nv ys) (32 * m)).2 (by rw [← pow32]; exact hYl)
     omega
   have hnx := nw_nv_le h.ws
   have hny := nw_nv_le k.ws
   have hnx1 : 0 < nw (nv xs) := by
     rcases Nat.eq_zero_or_pos (nw (nv xs)) with e | e
     · exact absurd (nw_eq_zero.1 e) h0
     · exact e
   clear h0 hXl hYl
   rw [HB.out]
   have ha1 := norm_any A n c xs (w.alloc (Obj.cells #[Value.bool false, Value.slice none 0 0, Value.slice none 0 0] 37)) (h.alloc _) (by omega)
   have hb1 := fun w' (k' : Wds w' B m d ys) => norm_any B m d ys w' k' (by omega)
   obtain ⟨X, hX⟩ : ∃ X, X = nv xs := ⟨_, rfl⟩
   obtain ⟨Y, hY⟩ : ∃ Y, Y = nv ys := ⟨_, rfl⟩
   rw [← hX, ← hY] at HN HD
   rw [← hX] at ha1 hX0 hta hnx hnx1
   rw [← hY] at hb1 hpos htb hny
   have HA1 := Lib.hid ha1
   have HB1 := Lib.hid hb1
   rw [← hX, ← hY]
   clear ha1 hb1 hX hY
   obtain ⟨a, ha⟩ : ∃ a, a = tz X := ⟨_, rfl⟩
   obtain ⟨b, hb⟩ : ∃ b, b = tz Y := ⟨_, rfl⟩
   rw [← ha, ← hb] at HN HD
   rw [← ha] at hta
   rw [← hb] at htb
   go_enter Tryz.func33, Tryz.ntmps33
   have HAe := Lib.hid ha
   have HBe := Lib.hid hb
   clear ha hb
   go_wp2_with fail
   refine HA1.out.mono ?_
   rintro e w1 ⟨A1, n1, c1, rfl, hN, hE1⟩
   have hn1 : 0 < n1 := by have := hN.len; rw [nd_length] at this; omega
   have hn1b : n1 ≤ n := by have := hN.len; rw [nd_length] at this; omega
   go_wp2_with fail
   refine (HB1.out _ ((k.alloc _).ext hE1)).mono ?_
   rintro e w2 ⟨A2, n2, c2, rfl, hM, hE2⟩
   have hn2b : n2 ≤ m := by have := hM.len; rw [nd_length] at this; omega
   have hblk := ((Blk.new w 37 #[Value.bool false, Value.slice none 0 0, Value.slice none 0 0]).ext hE1).ext hE2
   have hE : Ext w w2 := ((Ext.refl w).alloc _).trans (hE1.trans hE2)
   have hN2 := hN.ext hE2
   obtain ⟨G, hG⟩ : ∃ G, G = w.heap.size := ⟨_, rfl⟩
   rw [← hG] at hblk
   rw [← hG]
   have hGw : w.heap.size ≤ G := by omega
   clear hG hE1 hE2 hN
   have hz1 := zeros_any _ _ _ _ w2 hN2 (by omega)
   rw [nv_nd, ← HAe.out] at hz1
   have HZ1 := Lib.hid hz1
   clear hz1
   go_wp2_with fail
   refine HZ1.out.mono ?_
   rintro e w3 ⟨rfl, rfl⟩
   have hr1 := right_any _ _ _ _ a w2 hN2 (by omega) (by omega)
   rw [nv_nd] at hr1
   have HR1 := Lib.hid hr1
   clear hr1
   go_wp2_with fail
   refine HR1.out.mono ?_
   rintro e w3 ⟨A3, n3, c3, rfl, hP, hE3⟩
   have hM3 := hM.ext hE3
   have hz2 := zeros_any _ _ _ _ w3 hM3 (by omega)
   rw [nv_nd, ← HBe.out] at hz2
   have HZ2 := Lib.hid hz2
   clear hz2
   go_wp2_with fail
   refine HZ2.out.mono ?_
   rintro e w4 ⟨rfl, rfl⟩
   have hr2 := right_any _ _ _ _ b w3 hM3 (by omega) (by omega)
   rw [nv_nd] at hr2
   have HR2 := Lib.hid hr2
   clear hr2
   go_wp2_with fail
   refine HR2.out.mono ?_
   rintro e w4 ⟨A4, n4, c4, rfl, hQ, hE4⟩
   have hP4 := hP.ext hE4
   have hblk4 := (hblk.ext hE3).ext hE4
   have hE4' : Ext w w4 := hE.trans (hE3.trans hE4)
   have hn3b : n3 ≤ n := by
     have h1 := hP.len
     rw [nd_length] at h1
     have h2 := nw_mono (Nat.div_le_self X (2 ^ a))
     omega
   have hn4b : n4 ≤ m := by
     have h1 := hQ.len
     rw [nd_length] at h1
     have h2 := nw_mono (Nat.div_le_self Y (2 ^ b))
     omega
   clear hE3 hE4 hE hblk hP hM hM3 hN2
   rcases Int.lt_trichotomy (ex + a - b) 0 with hlt | heq | hgt
   · obtain ⟨E, hE⟩ : ∃ E : Nat, -(ex + a - b) = E := ⟨(-(ex + a - b)).toNat, by omega⟩
     have hEb : E ≤ 35184372088832 := by omega
     have HE1 : Hid ((ex + a - b).toNat = 0) := Lib.hid (by omega)
     have HE2 : Hid ((-(ex + a - b)).toNat = E) := Lib.hid (by omega)
     have hl := left_any _ _ _ _ E w4 hQ (by omega) (by omega)
     rw [nv_nd] at hl
     have HL := Lib.hid hl
     clear hl
     go_wp2_with fail
     refine HL.out.mono ?_
     rintro e w5 ⟨A5, n5, c5, rfl, hR, hE5⟩
     have hblk5 := hblk4.ext hE5
     have hGl := hblk5.lt
     have q0 : w5.cell? ⟨G, 0, none⟩ = some (.bool false) := hblk5.cell 0
     have q1 : w5.cell? ⟨G, 1, none⟩ = some (.slice none 0 0) := hblk5.cell 1
     have q2 : w5.cell? ⟨G, 2, none⟩ = some (.slice none 0 0) := hblk5.cell 2
     have f0 := hblk5.frozen 0
     have f1 := hblk5.frozen 1
     have f2 := hblk5.frozen 2
     go_wp2
     refine bodyPost_ret (v := .agg #[.bool neg, .slice A3 n3 c3, .slice A5 n5 c5]) (by simp [results, Tryz.results33, go_sem, hGl, q0, q1, q2]) rfl ?_
     exact ⟨_, _, _, _, _, _, rfl, by
       rw [HN.out, HE1.out, Nat.pow_zero, Nat.mul_one]; exact (hP4.ext hE5).set_box3 hblk5 (noInt3 _ _ _ _ _ _ _) (by simp) (by simp), by
       rw [HD.out, HE2.out]; exact hR.set_box3 hblk5 (noInt3 _ _ _ _ _ _ _) (by simp) (by simp), (hE4'.trans hE5).set3 hGw _ _ _⟩
   · have HE1 : Hid ((ex + a - b).toNat = 0) := Lib.hid (by omega)
     have HE2 : Hid ((-(ex + a - b)).toNat = 0) := Lib.hid (by omega)
     have hle1 : ex + a - b ≤ 0 := by omega
     have hle2 : 0 ≤ ex + a - b := by omega
     clear heq
     have hGl := hblk4.lt
     have q0 : w4.cell? ⟨G, 0, none⟩ = some (.bool false) := hblk4.cell 0
     have q1 : w4.cell? ⟨G, 1, none⟩ = some (.slice none 0 0) := hblk4.cell 1
     have q2 : w4.cell? ⟨G, 2, none⟩ = some (.slice none 0 0) := hblk4.cell 2
     have f0 := hblk4.frozen 0
     have f1 := hblk4.frozen 1
     have f2 := hblk4.frozen 2
     go_wp2
     refine bodyPost_ret (v := .agg #[.bool neg, .slice A3 n3 c3, .slice A4 n4 c4]) (by simp [results, Tryz.results33, go_sem, hGl, q0, q1, q2]) rfl ?_
     exact ⟨_, _, _, _, _, _, rfl, by
       rw [HN.out, HE1.out, Nat.pow_zero, Nat.mul_one]; exact hP4.set_box3 hblk4 (noInt3 _ _ _ _ _ _ _) (by simp) (by simp), by
       rw [HD.out, HE2.out, Nat.pow_zero, Nat.mul_one]; exact hQ.set_box3 hblk4 (noInt3 _ _ _ _ _ _ _) (by simp) (by simp), hE4'.set3 hGw _ _ _⟩
   · obtain ⟨E, hE⟩ : ∃ E : Nat, ex + a - b = E := ⟨(ex + a - b).toNat, by omega⟩
     have hEb : E ≤ 35184372088832 := by omega
     have hE0 : 0 < E := by omega
     have HE1 : Hid ((ex + a - b).toNat = E) := Lib.hid (by omega)
     have HE2 : Hid ((-(ex + a - b)).toNat = 0) := Lib.hid (by omega)
     have hl := left_any _ _ _ _ E w4 hP4 (by omega) (by omega)
     rw [nv_nd] at hl
     have HL := Lib.hid hl
     clear hl
     go_wp2_with fail
     refine HL.out.mono ?_
     rintro e w5 ⟨A5, n5, c5, rfl, hR, hE5⟩
     have hblk5 := hblk4.ext hE5
     have hGl := hblk5.lt
     have q0 : w5.cell? ⟨G, 0, none⟩ = some (.bool false) := hblk5.cell 0
     have q1 : w5.cell? ⟨G, 1, none⟩ = some (.slice none 0 0) := hblk5.cell 1
     have q2 : w5.cell? ⟨G, 2, none⟩ = some (.slice none 0 0) := hblk5.cell 2
     have f0 := hblk5.frozen 0
     have f1 := hblk5.frozen 1
     have f2 := hblk5.frozen 2
     go_wp2
     refine bodyPost_ret (v := .agg #[.bool neg, .slice A5 n5 c5, .slice A4 n4 c4]) (by simp [results, Tryz.results33, go_sem, hGl, q0, q1, q2]) rfl ?_
     exact ⟨_, _, _, _, _, _, rfl, by
       rw [HN.out, HE1.out]; exact hR.set_box3 hblk5 (noInt3 _ _ _ _ _ _ _) (by simp) (by simp), by
       rw [HD.out, HE2.out, Nat.pow_zero, Nat.mul_one]; exact (hQ.ext hE5).set_box3 hblk5 (noInt3 _ _ _ _ _ _ _) (by simp) (by simp), (hE4'.trans hE5).set3 hGw _ _ _⟩
end Go.Proofs.YtbcaggdgoidlaaaGreatDoor

namespace Go.Proofs.YtbcaggdgoidlaaaGreatDoor
open Go.RowKit Nm Rn
set_option linter.unusedVariables false
set_option linter.unusedSimpArgs false
end Go.Proofs.YtbcaggdgoidlaaaGreatDoor

set_option linter.unusedVariables false
set_option linter.unusedSimpArgs false
namespace Go.Proofs.YtbcaggdgoidlaaaGreatDoor
open Nm Rn
def rat0 (d : Int) (neg : Bool) (n m : Nat) (e : Int) : Nat := rnd d (neg && decide (n ≠ 0)) (zr (fracN n m e) (fracD n m e))
def ratR (d : Int) (neg : Bool) (N M : Nat) (e : Int) : Nat :=
 if 16384 < nw N ∨ 16384 < nw M then NaNc
 else if M = 0 then (if N = 0 then NaNc else infP neg)
 else if 2000 - ((bl N : Int) - bl M) < e then rat0 d neg (if N = 0 then 0 else 1) 1 2000
 else if e < -2000 - ((bl N : Int) - bl M) then rat0 d neg (if N = 0 then 0 else 1) 1 (-2000)
 else rat0 d neg N M e
end Go.Proofs.YtbcaggdgoidlaaaGreatDoor

namespace Go.Proofs.YtbcaggdgoidlaaaGreatDoor
open Go.RowKit Nm Rn
set_option maxRecDepth 100000
set_option linter.unusedVariables false
set_option linter.unusedSimpArgs false
theorem same_frac {N M : Nat} (e : Int) (hM : M ≠ 0) : Same75 N M e (fracN N M e * K75) (fracD N M e) := by
 obtain ⟨c, hc⟩ : ∃ c, c = 1075 := ⟨_, rfl⟩
 obtain ⟨p, hp⟩ : ∃ p, p = e.toNat := ⟨_, rfl⟩
 obtain ⟨q, hq⟩ : ∃ q, q = (-e).toNat := ⟨_, rfl⟩
 have hK : K75 = 2 ^ c := by rw [hc]; exact K75_def
 have h := frac_val (n := N) (d := M) (e := e) (p := p) (q := q) (by omega)
 refine ⟨p + c, q, by omega, fracD_pos e hM, by omega, ?_⟩
 rw [hK, Nat.pow_add]
 have a1 : N * (2 ^ p * 2 ^ c) * fracD N M e = N * 2 ^ p * fracD N M e * 2 ^ c := by simp only [Nat.mul_assoc, Nat.mul_comm, Nat.mul_left_comm]
 have a2 : fracN N M e * 2 ^ c * (M * 2 ^ q) = fracN N M e * (M * 2 ^ q) * 2 ^ c := by simp only [Nat.mul_assoc, Nat.mul_comm, Nat.mul_left_comm]
 rw [a1, a2, h]
theorem Same75.gen {N D : Nat} {e : Int} {N' M k : Nat} (h : Same75 N D e N' M) (hb : decide (N * 2 ^ k % D ≠ 0) = true → 55 ≤ bl (N * 2 ^ k / D)) (d : Int) (neg : Bool) :
   rnd d neg (zd (2 * (N * 2 ^ k / D) + (decide (N * 2 ^ k % D ≠ 0)).toNat) (e - k - 1)) = rnd d neg (zq N' M) := by
 obtain ⟨A, B, hAB, hM, hD, h⟩ := h
 refine rnd_quo (X := N * 2 ^ k) (Y := D) (A := A) (B := B + k) hD hM rfl rfl hb (by omega) ?_ d neg
 rw [Nat.pow_add]
 have a1 : N * 2 ^ k * 2 ^ A * M = N * 2 ^ A * M * 2 ^ k := by simp only [Nat.mul_assoc, Nat.mul_comm, Nat.mul_left_comm]
 have a2 : N' * (D * (2 ^ B * 2 ^ k)) = N' * (D * 2 ^ B) * 2 ^ k := by simp only [Nat.mul_assoc, Nat.mul_comm, Nat.mul_left_comm]
 rw [a1, a2, h]
theorem quo_bl {N D k : Nat} (hN : N ≠ 0) (hD : D ≠ 0) (hb : decide (N * 2 ^ k % D ≠ 0) = true → 55 ≤ bl (N * 2 ^ k / D)) : N * 2 ^ k / D ≠ 0 ∧ bl N + k ≤ bl (N * 2 ^ k / D) + bl D + 1 := by
 have hp := Nat.mul_pos (show 0 < N by omega) (two_pow_pos k)
 have hdm := Nat.div_add_mod (N * 2 ^ k) D
 have hlt := Nat.mod_lt (N * 2 ^ k) (show 0 < D by omega)
 have h0 : N * 2 ^ k / D ≠ 0 := by
   intro h0
   rw [h0, Nat.mul_zero, Nat.zero_add] at hdm
   have := hb (decide_eq_true (by omega))
   rw [h0, bl_zero] at this
   omega
 refine ⟨h0, ?_⟩
 have h1 : bl (N * 2 ^ k) = bl N + k := bl_mul_pow k hN
 rw [← h1, bl_le_iff]
 have h2 := lt_pow_bl (N * 2 ^ k / D)
 have h3 := lt_pow_bl D
 have h4 : N * 2 ^ k < (N * 2 ^ k / D + 1) * D := by
   rw [Nat.add_mul, Nat.one_mul, Nat.mul_comm _ D]; omega
 have h5 : (N * 2 ^ k / D + 1) * D ≤ 2 ^ bl (N * 2 ^ k / D) * 2 ^ bl D := Nat.mul_le_mul h2 (Nat.le_of_lt h3)
 rw [← Nat.pow_add] at h5
 have h6 : 2 ^ (bl (N * 2 ^ k / D) + bl D) ≤ 2 ^ (bl (N * 2 ^ k / D) + bl D + 1) := Nat.pow_le_pow_right (by omega) (by omega)
 omega
theorem rat0_over (d : Int) (neg : Bool) : rat0 d neg 1 1 2000 = pat neg (if twB d neg then infR - 1 else infR) := by
 unfold rat0
 rw [show (neg && decide (1 ≠ 0)) = neg by cases neg <;> rfl]
 exact rnd_over (by decide +kernel) (by decide +kernel) (by decide +kernel) d neg
theorem rat0_under (d : Int) (neg : Bool) : rat0 d neg 1 1 (-2000) = rnd d neg 1 := by
 unfold rat0
 rw [show (neg && decide (1 ≠ 0)) = neg by cases neg <;> rfl, show zr (fracN 1 1 (-2000)) (fracD 1 1 (-2000)) = 1 by decide +kernel]
theorem rat0_fin (d : Int) (neg : Bool) {N M : Nat} (e : Int) (hN : N ≠ 0) : rat0 d neg N M e = rnd d neg (zq (fracN N M e * K75) (fracD N M e)) := by
 unfold rat0
 rw [decide_eq_true hN, Bool.and_true]
 rfl
theorem rat_fin (d : Int) (neg : Bool) {N M k : Nat} {e : Int} (hN : N ≠ 0) (hM : M ≠ 0) (hn : bl N ≤ 524288) (hm : bl M ≤ 524288) (ht : -1100 ≤ (bl N : Int) - bl M + holdZ e) (hb : decide (N * 2 ^ k % M ≠ 0) = true → 55 ≤ bl (N * 2 ^ k / M)) :
   rnd d neg (zd (2 * (N * 2 ^ k / M) + (decide (N * 2 ^ k % M ≠ 0)).toNat) (holdZ e - k - 1)) = ratR d neg N M e := by
 have hnN : ¬ (16384 < nw N ∨ 16384 < nw M) := by
   have h1 := nw_of_bl hn
   have h2 := nw_of_bl hm
   omega
 unfold ratR
 rw [if_neg hnN, if_neg hM]
 by_cases c1 : 2000 - ((bl N : Int) - bl M) < e
 · rw [if_pos c1, if_neg hN, rat0_over]
   obtain ⟨q1, q2⟩ := quo_bl hN hM hb
   refine rnd_big q1 ?_ d neg
   have : 2000 - ((bl N : Int) - bl M) < holdZ e := by unfold holdZ; omega
   omega
 · rw [if_neg c1]
   by_cases c2 : e < -2000 - ((bl N : Int) - bl M)
   · exfalso
     unfold holdZ at ht
     omega
   · rw [if_neg c2, rat0_fin d neg e hN]
     have hh : holdZ e = e := by unfold holdZ; omega
     rw [hh]
     exact (same_frac e hM).gen hb d neg
theorem rat_tiny (d : Int) (neg : Bool) {N M : Nat} {e : Int} (hN : N ≠ 0) (hM : M ≠ 0) (hn : bl N ≤ 524288) (hm : bl M ≤ 524288) (ht : (bl N : Int) - bl M + holdZ e < -1100) :
   rnd d neg (zd (2 * 1) (-1200 - 1)) = ratR d neg N M e := by
 have hnN : ¬ (16384 < nw N ∨ 16384 < nw M) := by
   have h1 := nw_of_bl hn
   have h2 := nw_of_bl hm
   omega
 unfold ratR
 rw [if_neg hnN, if_neg hM]
 by_cases c1 : 2000 - ((bl N : Int) - bl M) < e
 · exfalso
   unfold holdZ at ht
   omega
 · rw [if_neg c1]
   by_cases c2 : e < -2000 - ((bl N : Int) - bl M)
   · rw [if_pos c2, if_neg hN, rat0_under, zd_tiny (by omega) (by rw [show bl 1 = 1 from rfl]; omega)]
   · rw [if_neg c2, rat0_fin d neg e hN]
     have hh : holdZ e = e := by unfold holdZ; omega
     rw [hh] at ht
     exact (same_frac e hM).tiny hN ht d neg
theorem rat_zero (d : Int) (neg : Bool) {M : Nat} {e : Int} (hM : M ≠ 0) (hm : bl M ≤ 524288) : ratR d neg 0 M e = 0 := by
 have h2 := nw_of_bl hm
 have h0 : nw 0 = 0 := nw_zero
 have hf : ∀ m e, fracN 0 m e = 0 := fun m e => by unfold fracN; simp
 have hz : ∀ m e, rat0 d neg 0 m e = 0 := fun m e => by
   unfold rat0
   rw [hf, zr_zero, rnd_zero]
 unfold ratR
 rw [if_neg (by omega), if_neg hM]
 split
 · exact hz _ _
 · split
   · exact hz _ _
   · exact hz _ _
theorem rat_num (d : Int) (neg : Bool) {N M : Nat} {e : Int} {Z : Nat} (h : rnd d neg Z = ratR d neg N M e) : ratR d neg N M e < 18446744073709551616 ∧ cn (ratR d neg N M e) = ratR d neg N M e := by
 rw [← h]
 exact ⟨(rnd_ok _ _ _).1, cn_num (rnd_ok _ _ _).2⟩
end Go.Proofs.YtbcaggdgoidlaaaGreatDoor

namespace Go.Proofs.YtbcaggdgoidlaaaGreatDoor
open Nm Rn
theorem ofR_zd (d : Int) (neg : Bool) {V : Nat} {e : Int} (hb : bl V ≤ 524288) (h1 : -1099511627776 ≤ e) (h2 : e ≤ 1099511627776) : ofR d neg V e = rnd d neg (zd V e) := by
 have hh : holdZ e = e := by unfold holdZ; omega
 by_cases h0 : V = 0
 · have := ofR_hold (d := d) (neg := neg) (V := V) (e := e) hb (.inl h0)
   rw [this, hh, zd_two]
 · by_cases ht : (bl V : Int) + e < -1076
   · rw [ofR_tiny h0 hb ht, ← zd_two, zd_tiny h0 ht]
   · have := ofR_hold (d := d) (neg := neg) (V := V) (e := e) hb (.inr (by rw [hh]; omega))
     rw [this, hh, zd_two]
theorem zd_zr {V N D : Nat} {e : Int} {P Q : Nat} (hD : 0 < D) (hPQ : (P : Int) - Q = e) (h : V * 2 ^ P * D = N * 2 ^ Q) : zd V e = zr N D := by
 obtain ⟨c, hc⟩ : ∃ c : Nat, c = 1075 := ⟨_, rfl⟩
 rw [zd_of (A := P + c) (B := Q) (by omega), zr_eq]
 refine zq_congr (two_pow_pos _) hD ?_
 rw [show K75 = 2 ^ c by rw [hc]; exact K75_def, Nat.pow_add]
 have a1 : V * (2 ^ P * 2 ^ c) * D = V * 2 ^ P * D * 2 ^ c := by ac_rfl
 rw [a1, h]
 ac_rfl
theorem ratR_same (d : Int) (neg : Bool) {N M N' M' : Nat} {e : Int} (hN : N ≠ 0) (hM : M ≠ 0) (hn : bl N ≤ 524288) (hm : bl M ≤ 524288) (h1 : -1099511627776 ≤ e) (h2 : e ≤ 1099511627776) (h : Same75 N M e N' M') : ratR d neg N M e = rnd d neg (zq N' M') := by
 have hh : holdZ e = e := by unfold holdZ; omega
 by_cases ht : -1100 ≤ (bl N : Int) - bl M + holdZ e
 · obtain ⟨k, hk⟩ : ∃ k, k = bl M + 60 := ⟨_, rfl⟩
   have hb : decide (N * 2 ^ k % M ≠ 0) = true → 55 ≤ bl (N * 2 ^ k / M) := fun _ => by
     have h3 : 2 ^ 55 ≤ N * 2 ^ k / M := by
       refine (Nat.le_div_iff_mul_le (show 0 < M by omega)).2 ?_
       have h4 := lt_pow_bl M
       have h5 : 2 ^ 55 * M ≤ 2 ^ 55 * 2 ^ bl M := Nat.mul_le_mul_left _ (Nat.le_of_lt h4)
       rw [← Nat.pow_add] at h5
       have h6 : 2 ^ (55 + bl M) ≤ 2 ^ k := Nat.pow_le_pow_right (by omega) (by omega)
       have h7 : 2 ^ k ≤ N * 2 ^ k := Nat.le_mul_of_pos_left _ (by omega)
       omega
     rcases Nat.lt_or_ge (bl (N * 2 ^ k / M)) 55 with g | g
     · have := lt_pow_bl (N * 2 ^ k / M)
       have h8 : 2 ^ bl (N * 2 ^ k / M) ≤ 2 ^ 55 := Nat.pow_le_pow_right (by omega) (by omega)
       omega
     · exact g
   rw [← rat_fin d neg hN hM hn hm ht hb, hh]
   exact h.gen hb d neg
 · have htt : (bl N : Int) - bl M + holdZ e < -1100 := by omega
   rw [← rat_tiny d neg hN hM hn hm htt]
   have e1 : zd (2 * 1) (-1200 - 1) = 1 := zd_tiny (V := 1) (e := -1200) (by omega) (by decide)
   rw [e1]
   obtain ⟨A, B, hAB, hM', hD, hv⟩ := h
   have e2 : zq N' M' = 1 := by
     have hlt : N' < M' := by
       have b1 := lt_pow_bl N
       have b2 : 2 ^ (bl M - 1) ≤ M := by
         rcases Nat.lt_or_ge M (2 ^ (bl M - 1)) with g | g
         · have := (bl_le_iff M (bl M - 1)).2 g
           have := bl_pos hM
           omega
         · exact g
       have hpos := bl_pos hM
       -- N 2^A < 2^(bl N + A) ≤ 2^(bl M - 1 + B) ≤ M 2^B
       have c1 : N * 2 ^ A < 2 ^ bl N * 2 ^ A := Nat.mul_lt_mul_of_pos_right b1 (two_pow_pos A)
       have c2 : 2 ^ (bl M - 1) * 2 ^ B ≤ M * 2 ^ B := Nat.mul_le_mul_right _ b2
       rw [← Nat.pow_add] at c1 c2
       have c3 : 2 ^ (bl N + A) ≤ 2 ^ (bl M - 1 + B) := Nat.pow_le_pow_right (by omega) (by omega)
       have c4 : N * 2 ^ A < M * 2 ^ B := by omega
       have c5 : N * 2 ^ A * M' < M * 2 ^ B * M' := Nat.mul_lt_mul_of_pos_right c4 hM'
       rw [hv, Nat.mul_comm (M * 2 ^ B)] at c5
       exact Nat.lt_of_mul_lt_mul_right c5
     unfold zq
     have hN' : N' ≠ 0 := fun e0 => by
       rw [e0, Nat.zero_mul] at hv
       have := Nat.mul_pos (Nat.mul_pos (show 0 < N by omega) (two_pow_pos A)) hM'
       omega
     rw [Nat.div_eq_of_lt hlt, Nat.mod_eq_of_lt hlt, if_neg hN']
   rw [e2]
def odS (x : Nat) : Nat := fbSig x / 2 ^ tz (fbSig x)
def odE (x : Nat) : Int := fbExp x + tz (fbSig x)
theorem odS_mul (x : Nat) : odS x * 2 ^ tz (fbSig x) = fbSig x := tz_div
theorem odS_pos {x : Nat} (h : mg x ≠ 0) : 0 < odS x := tz_div_pos fun e => h ((fbSig_zero x).1 e)
theorem odS_bl (x : Nat) : odS x < 2 ^ 53 := by
 have h1 := fbSig_lt x
 have h2 : odS x ≤ fbSig x := Nat.div_le_self _ _
 have e : (2 : Nat) ^ 53 = 9007199254740992 := by decide
 omega
theorem pow_val (x m : Nat) : ∃ p q : Nat, (p : Int) - q = odE x * m ∧ odS x ^ m * 2 ^ p * fracD (fbN x ^ m) (fbD x ^ m) 0 = fracN (fbN x ^ m) (fbD x ^ m) 0 * 2 ^ q := by
 obtain ⟨z, hz⟩ : ∃ z, z = tz (fbSig x) := ⟨_, rfl⟩
 obtain ⟨p0, q0, hpq⟩ : ∃ p q : Nat, (p : Int) - q = fbExp x := ⟨(fbExp x).toNat, (-fbExp x).toNat, by omega⟩
 have h1 : fbN x * 2 ^ q0 = fbSig x * 2 ^ p0 * fbD x := fb_gen (fbSig x) (fbExp x) p0 q0 hpq
 have hs := odS_mul x
 rw [← hz] at hs
 have hDp : 0 < fbD x ^ m := Nat.pow_pos (fbD_pos x)
 have h2 := frac_val (n := fbN x ^ m) (d := fbD x ^ m) (e := 0) (p := 0) (q := 0) rfl
 rw [Nat.pow_zero, Nat.mul_one, Nat.mul_one] at h2
 refine ⟨(z + p0) * m, q0 * m, ?_, ?_⟩
 · unfold odE
   rw [← hz, ← hpq]
   push_cast
   rw [← Int.sub_mul]
   congr 1
   omega
 · obtain ⟨P, hP⟩ : ∃ P, P = fracN (fbN x ^ m) (fbD x ^ m) 0 := ⟨_, rfl⟩
   obtain ⟨Q, hQ⟩ : ∃ Q, Q = fracD (fbN x ^ m) (fbD x ^ m) 0 := ⟨_, rfl⟩
   rw [← hP, ← hQ] at h2 ⊢
   refine Nat.eq_of_mul_eq_mul_right hDp ?_
   have h3 : fbN x ^ m * 2 ^ (q0 * m) = odS x ^ m * 2 ^ ((z + p0) * m) * fbD x ^ m := by
     rw [Nat.pow_mul, Nat.pow_mul, ← Nat.mul_pow, ← Nat.mul_pow, ← Nat.mul_pow, h1, ← hs, Nat.pow_add]
     congr 1
     ac_rfl
   calc odS x ^ m * 2 ^ ((z + p0) * m) * Q * fbD x ^ m = odS x ^ m * 2 ^ ((z + p0) * m) * fbD x ^ m * Q := Nat.mul_right_comm _ _ _
     _ = fbN x ^ m * 2 ^ (q0 * m) * Q := by rw [h3]
     _ = fbN x ^ m * Q * 2 ^ (q0 * m) := Nat.mul_right_comm _ _ _
     _ = P * fbD x ^ m * 2 ^ (q0 * m) := by rw [h2]
     _ = P * 2 ^ (q0 * m) * fbD x ^ m := Nat.mul_right_comm _ _ _
theorem pow_bl (x m : Nat) (hm : m ≤ 1024) : bl (odS x ^ m) ≤ 54272 := by
 obtain ⟨T, hT⟩ : ∃ T : Nat, T = 54272 := ⟨_, rfl⟩
 rw [← hT, bl_le_iff]
 have h1 := odS_bl x
 by_cases h0 : m = 0
 · rw [h0, Nat.pow_zero]
   exact Nat.one_lt_two_pow (show T ≠ 0 by omega)
 · have h2 : odS x ^ m < (2 ^ 53) ^ m := Nat.pow_lt_pow_left h1 h0
   rw [← Nat.pow_mul] at h2
   have h3 : 2 ^ (53 * m) ≤ 2 ^ T := Nat.pow_le_pow_right (by omega) (by omega)
   omega
theorem odE_rng (x : Nat) : -1074 ≤ odE x ∧ odE x ≤ 1100 := by
 have h1 := fbExp_lo x
 have h2 := fbExp_hi x
 have h3 : tz (fbSig x) ≤ 53 := by
   by_cases h0 : fbSig x = 0
   · rw [h0]; decide
   · have h4 := tz_div (n := fbSig x)
     have h5 := tz_div_pos h0
     have h6 := fbSig_lt x
     rcases Nat.lt_or_ge 53 (tz (fbSig x)) with g | g
     · have h7 : 2 ^ 54 ≤ 2 ^ tz (fbSig x) := Nat.pow_le_pow_right (by omega) g
       have h8 : 2 ^ tz (fbSig x) ≤ fbSig x / 2 ^ tz (fbSig x) * 2 ^ tz (fbSig x) := Nat.le_mul_of_pos_left _ h5
       have e : (2 : Nat) ^ 54 = 18014398509481984 := by decide
       omega
     · exact g
 unfold odE
 omega
theorem odE_m (x m : Nat) (hm : m ≤ 1024) : -1099776 ≤ odE x * m ∧ odE x * m ≤ 1126400 := by
 obtain ⟨h1, h2⟩ := odE_rng x
 have a1 := Int.mul_le_mul_of_nonneg_right h2 (show (0 : Int) ≤ (m : Int) by omega)
 have a2 := Int.mul_le_mul_of_nonneg_right h1 (show (0 : Int) ≤ (m : Int) by omega)
 omega
theorem pow_pos_eq (d : Int) (neg : Bool) (x : Nat) {m : Nat} (hm : m ≤ 1024) : ofR d neg (odS x ^ m) (odE x * m) = rnd d neg (zr (fracN (fbN x ^ m) (fbD x ^ m) 0) (fracD (fbN x ^ m) (fbD x ^ m) 0)) := by
 obtain ⟨p, q, hpq, hv⟩ := pow_val x m
 obtain ⟨e1, e2⟩ := odE_m x m hm
 have hb := pow_bl x m hm
 rw [ofR_zd d neg (by omega) (by omega) (by omega)]
 rw [zd_zr (fracD_pos (n := fbN x ^ m) 0 (Nat.ne_of_gt (Nat.pow_pos (fbD_pos x)))) hpq hv]
theorem pow_neg_eq (d : Int) (neg : Bool) {x : Nat} (hx : mg x ≠ 0) {m : Nat} (hm : m ≤ 1024) (P Q : Nat) (hP : P = fracN (fbN x ^ m) (fbD x ^ m) 0) (hQ : Q = fracD (fbN x ^ m) (fbD x ^ m) 0) :
   0 < P ∧ 0 < Q ∧ ratR d neg 1 (odS x ^ m) (-(odE x * m)) = rnd d neg (zr (fracN (1 * Q) (1 * P) 0) (fracD (1 * Q) (1 * P) 0)) := by
 obtain ⟨p, q, hpq, hv⟩ := pow_val x m
 obtain ⟨e1, e2⟩ := odE_m x m hm
 have hb := pow_bl x m hm
 have hS := odS_pos hx
 have hV : 0 < odS x ^ m := Nat.pow_pos hS
 have hQp : 0 < Q := by rw [hQ]; exact fracD_pos 0 (Nat.ne_of_gt (Nat.pow_pos (fbD_pos x)))
 rw [← hP, ← hQ] at hv
 have hPp : 0 < P := by
   rcases Nat.eq_zero_or_pos P with h | h
   · rw [h, Nat.zero_mul] at hv
     have := Nat.mul_pos (Nat.mul_pos hV (two_pow_pos p)) hQp
     omega
   · exact h
 refine ⟨hPp, hQp, ?_⟩
 rw [Nat.one_mul, Nat.one_mul]
 have h2 := frac_val (n := Q) (d := P) (e := 0) (p := 0) (q := 0) rfl
 rw [Nat.pow_zero, Nat.mul_one, Nat.mul_one] at h2
 have hq' : 0 < fracD Q P 0 := fracD_pos 0 (Nat.ne_of_gt hPp)
 obtain ⟨P', hP'⟩ : ∃ z, z = fracN Q P 0 := ⟨_, rfl⟩
 obtain ⟨Q', hQ'⟩ : ∃ z, z = fracD Q P 0 := ⟨_, rfl⟩
 rw [← hP', ← hQ'] at h2 ⊢
 rw [← hQ'] at hq'
 rw [zr_eq]
 refine ratR_same d neg (by omega) (Nat.ne_of_gt hV) (by decide) (by omega) (by omega) (by omega) ?_
 obtain ⟨c, hc⟩ : ∃ c : Nat, c = 1075 := ⟨_, rfl⟩
 refine ⟨q + c, p, by omega, hq', hV, ?_⟩
 rw [show K75 = 2 ^ c by rw [hc]; exact K75_def, Nat.one_mul, Nat.pow_add]
 refine Nat.eq_of_mul_eq_mul_right hPp ?_
 calc 2 ^ q * 2 ^ c * Q' * P = P * 2 ^ q * (Q' * 2 ^ c) := by ac_rfl
   _ = odS x ^ m * 2 ^ p * Q * (Q' * 2 ^ c) := by rw [← hv]
   _ = Q * Q' * (2 ^ c * (odS x ^ m * 2 ^ p)) := by ac_rfl
   _ = P' * P * (2 ^ c * (odS x ^ m * 2 ^ p)) := by rw [h2]
   _ = P' * 2 ^ c * (odS x ^ m * 2 ^ p) * P := by ac_rfl
end Go.Proofs.YtbcaggdgoidlaaaGreatDoor
