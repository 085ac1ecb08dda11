/-
  The contracts of the reference's ratios. Conditions: those that each theorem names.
-/
import Derived.Test.YtcimfccjcikemaaBox
import Derived.Test.YtcimfccjcikemaaRefC
import Derived.Test.YtcimfccjcikemaaRefF
namespace Go.Proofs.Ytcimfccjcikemaa
open Go.RowKit Nm
set_option maxRecDepth 100000
set_option linter.unusedVariables false
set_option linter.unusedSimpArgs false

theorem nd_one : nd 1 = [1] := by rw [nd_pos (by omega), show 1 / 4294967296 = 0 from rfl, nd_zero]

/-- The list of one word 1, new. -/
theorem one_wds (w : World) {g : Nat} (hg : g = w.heap.size) : Wds (w.alloc (.cells #[.int .u32 1] 107)) (some ⟨g, 0, none⟩) 1 1 [1] := by
  subst hg
  exact (Row.new w [1]).wds (Ws.cons (by omega) Ws.nil) rfl (Nat.le_refl _) (by unfold maxLen; omega)

/-- What is answered: a ratio. -/
def RetR (neg : Bool) (n m : Nat) (w : World) (e : Ending) (w' : World) : Prop :=
  ∃ A l c B k d, e = .returned (.agg #[.bool neg, .slice A l c, .slice B k d]) ∧ Wds w' A l c (nd n) ∧ Wds w' B k d (nd m) ∧ Ext w w'

set_option maxHeartbeats 1000000 in
theorem frac_any (neg : Bool) (A : Option Addr) (n c : Nat) (xs : List Nat) (B : Option Addr) (m d : Nat) (ys : List Nat) (ex : Int) (w : World) (h : Wds w A n c xs) (hn : n ≤ 274877906944) (k : Wds w B m d ys) (hm : m ≤ 274877906944)
    (he1 : -4398046511104 ≤ ex) (he2 : ex ≤ 4398046511104) (hpos : 0 < nv ys) :
    Calls Try.prog 84 #[.bool neg, .slice A n c, .slice B m d, .int .i64 ex] w (RetR (neg && decide (nv xs ≠ 0)) (fracN (nv xs) (nv ys) ex) (fracD (nv xs) (nv ys) ex) w) := by
  have hlx := h.len
  have hly := k.len
  have hXl : nv xs < 4294967296 ^ n := by rw [← hlx]; exact nv_lt h.ws
  have hYl : nv ys < 4294967296 ^ m := by rw [← hly]; exact nv_lt k.ws
  by_cases h0 : nv xs = 0
  · have hz : nw (nv xs) ≤ 0 := by rw [h0, nw_zero]; omega
    have HN : Hid (nd (fracN (nv xs) (nv ys) ex) = []) := Lib.hid (by rw [h0, fracN_zero, nd_zero])
    have HD : Hid (nd (fracD (nv xs) (nv ys) ex) = [1]) := Lib.hid (by rw [h0]; simp only [fracD, if_true]; exact nd_one)
    have HB : Hid ((neg && decide (nv xs ≠ 0)) = false) := Lib.hid (by simp [h0])
    clear h0 hXl hYl
    rw [HB.out]
    go_enter Try.func84, Try.ntmps84
    go_wp2_with fail
    refine (norm_any _ _ _ _ _ (h.alloc _) (by omega)).mono ?_
    rintro e w1 ⟨A1, n1, c1, rfl, hN, hE1⟩
    have hn1 : n1 ≤ 0 := by have := hN.len; rw [nd_length] at this; omega
    go_wp2_with fail
    refine (norm_any _ _ _ _ _ ((k.alloc _).ext hE1) (by omega)).mono ?_
    rintro e w2 ⟨A2, n2, c2, rfl, hM, hE2⟩
    have hblk := ((Blk.new w 50 #[Value.bool false, Value.slice none 0 0, Value.slice none 0 0]).ext hE1).ext hE2
    have hE : Ext w w2 := ((Ext.refl w).alloc _).trans (hE1.trans hE2)
    obtain ⟨G, hG⟩ : ∃ G, G = w.heap.size := ⟨_, rfl⟩
    rw [← hG] at hblk
    rw [← hG]
    have hGl := hblk.lt
    have hGw : w.heap.size ≤ G := by omega
    have q0 : w2.cell? ⟨G, 0, none⟩ = some (.bool false) := hblk.cell 0
    have q1 : w2.cell? ⟨G, 1, none⟩ = some (.slice none 0 0) := hblk.cell 1
    have q2 : w2.cell? ⟨G, 2, none⟩ = some (.slice none 0 0) := hblk.cell 2
    have f0 := hblk.frozen 0
    have f1 := hblk.frozen 1
    have f2 := hblk.frozen 2
    clear hG
    go_wp2
    refine bodyPost_ret (v := .agg #[.bool false, .slice none 0 0, .slice (some ⟨w2.heap.size, 0, none⟩) 1 1]) (by simp [results, Try.results84, go_sem, hGl, q0, q1, q2]) rfl ?_
    refine ⟨none, 0, 0, some ⟨w2.heap.size, 0, none⟩, 1, 1, rfl, by rw [HN.out]; exact Wds.nil_ (by unfold maxLen; omega), ?_, (hE.set3 hGw _ _ _).alloc _⟩
    rw [HD.out]
    exact one_wds _ (by simp [World.setCell])
  · have hX0 : 0 < nv xs := by omega
    have HB : Hid ((neg && decide (nv xs ≠ 0)) = neg) := Lib.hid (by simp [h0])
    have HN : Hid (fracN (nv xs) (nv ys) ex = nv xs / 2 ^ tz (nv xs) * 2 ^ (ex + tz (nv xs) - tz (nv ys)).toNat) := Lib.hid (by unfold fracN; rw [if_neg h0])
    have HD : Hid (fracD (nv xs) (nv ys) ex = nv ys / 2 ^ tz (nv ys) * 2 ^ (-(ex + tz (nv xs) - tz (nv ys))).toNat) := Lib.hid (by unfold fracD; rw [if_neg h0])
    have hta : tz (nv xs) ≤ 32 * n := by
      have h1 := tz_lt h0
      have h2 := (bl_le_iff (nv xs) (32 * n)).2 (by rw [← pow32]; exact hXl)
      omega
    have htb : tz (nv ys) ≤ 32 * m := by
      have h1 := tz_lt (show nv ys ≠ 0 by omega)
      have h2 := (bl_le_iff (nv ys) (32 * m)).2 (by rw [← pow32]; exact hYl)
      omega
    have hnx := nw_nv_le h.ws
    have hny := nw_nv_le k.ws
    have hnx1 : 0 < nw (nv xs) := by
      rcases Nat.eq_zero_or_pos (nw (nv xs)) with e | e
      · exact absurd (nw_eq_zero.1 e) h0
      · exact e
    clear h0 hXl hYl
    rw [HB.out]
    have ha1 := norm_any A n c xs (w.alloc (Obj.cells #[Value.bool false, Value.slice none 0 0, Value.slice none 0 0] 50)) (h.alloc _) (by omega)
    have hb1 := fun w' (k' : Wds w' B m d ys) => norm_any B m d ys w' k' (by omega)
    obtain ⟨X, hX⟩ : ∃ X, X = nv xs := ⟨_, rfl⟩
    obtain ⟨Y, hY⟩ : ∃ Y, Y = nv ys := ⟨_, rfl⟩
    rw [← hX, ← hY] at HN HD
    rw [← hX] at ha1 hX0 hta hnx hnx1
    rw [← hY] at hb1 hpos htb hny
    have HA1 := Lib.hid ha1
    have HB1 := Lib.hid hb1
    rw [← hX, ← hY]
    clear ha1 hb1 hX hY
    obtain ⟨a, ha⟩ : ∃ a, a = tz X := ⟨_, rfl⟩
    obtain ⟨b, hb⟩ : ∃ b, b = tz Y := ⟨_, rfl⟩
    rw [← ha, ← hb] at HN HD
    rw [← ha] at hta
    rw [← hb] at htb
    go_enter Try.func84, Try.ntmps84
    have HAe := Lib.hid ha
    have HBe := Lib.hid hb
    clear ha hb
    go_wp2_with fail
    refine HA1.out.mono ?_
    rintro e w1 ⟨A1, n1, c1, rfl, hN, hE1⟩
    have hn1 : 0 < n1 := by have := hN.len; rw [nd_length] at this; omega
    have hn1b : n1 ≤ n := by have := hN.len; rw [nd_length] at this; omega
    go_wp2_with fail
    refine (HB1.out _ ((k.alloc _).ext hE1)).mono ?_
    rintro e w2 ⟨A2, n2, c2, rfl, hM, hE2⟩
    have hn2b : n2 ≤ m := by have := hM.len; rw [nd_length] at this; omega
    have hblk := ((Blk.new w 50 #[Value.bool false, Value.slice none 0 0, Value.slice none 0 0]).ext hE1).ext hE2
    have hE : Ext w w2 := ((Ext.refl w).alloc _).trans (hE1.trans hE2)
    have hN2 := hN.ext hE2
    obtain ⟨G, hG⟩ : ∃ G, G = w.heap.size := ⟨_, rfl⟩
    rw [← hG] at hblk
    rw [← hG]
    have hGw : w.heap.size ≤ G := by omega
    clear hG hE1 hE2 hN
    have hz1 := zeros_any _ _ _ _ w2 hN2 (by omega)
    rw [nv_nd, ← HAe.out] at hz1
    have HZ1 := Lib.hid hz1
    clear hz1
    go_wp2_with fail
    refine HZ1.out.mono ?_
    rintro e w3 ⟨rfl, rfl⟩
    have hr1 := right_any _ _ _ _ a w2 hN2 (by omega) (by omega)
    rw [nv_nd] at hr1
    have HR1 := Lib.hid hr1
    clear hr1
    go_wp2_with fail
    refine HR1.out.mono ?_
    rintro e w3 ⟨A3, n3, c3, rfl, hP, hE3⟩
    have hM3 := hM.ext hE3
    have hz2 := zeros_any _ _ _ _ w3 hM3 (by omega)
    rw [nv_nd, ← HBe.out] at hz2
    have HZ2 := Lib.hid hz2
    clear hz2
    go_wp2_with fail
    refine HZ2.out.mono ?_
    rintro e w4 ⟨rfl, rfl⟩
    have hr2 := right_any _ _ _ _ b w3 hM3 (by omega) (by omega)
    rw [nv_nd] at hr2
    have HR2 := Lib.hid hr2
    clear hr2
    go_wp2_with fail
    refine HR2.out.mono ?_
    rintro e w4 ⟨A4, n4, c4, rfl, hQ, hE4⟩
    have hP4 := hP.ext hE4
    have hblk4 := (hblk.ext hE3).ext hE4
    have hE4' : Ext w w4 := hE.trans (hE3.trans hE4)
    have hn3b : n3 ≤ n := by
      have h1 := hP.len
      rw [nd_length] at h1
      have h2 := nw_mono (Nat.div_le_self X (2 ^ a))
      omega
    have hn4b : n4 ≤ m := by
      have h1 := hQ.len
      rw [nd_length] at h1
      have h2 := nw_mono (Nat.div_le_self Y (2 ^ b))
      omega
    clear hE3 hE4 hE hblk hP hM hM3 hN2
    rcases Int.lt_trichotomy (ex + a - b) 0 with hlt | heq | hgt
    · obtain ⟨E, hE⟩ : ∃ E : Nat, -(ex + a - b) = E := ⟨(-(ex + a - b)).toNat, by omega⟩
      have hEb : E ≤ 35184372088832 := by omega
      have HE1 : Hid ((ex + a - b).toNat = 0) := Lib.hid (by omega)
      have HE2 : Hid ((-(ex + a - b)).toNat = E) := Lib.hid (by omega)
      have hl := left_any _ _ _ _ E w4 hQ (by omega) (by omega)
      rw [nv_nd] at hl
      have HL := Lib.hid hl
      clear hl
      go_wp2_with fail
      refine HL.out.mono ?_
      rintro e w5 ⟨A5, n5, c5, rfl, hR, hE5⟩
      have hblk5 := hblk4.ext hE5
      have hGl := hblk5.lt
      have q0 : w5.cell? ⟨G, 0, none⟩ = some (.bool false) := hblk5.cell 0
      have q1 : w5.cell? ⟨G, 1, none⟩ = some (.slice none 0 0) := hblk5.cell 1
      have q2 : w5.cell? ⟨G, 2, none⟩ = some (.slice none 0 0) := hblk5.cell 2
      have f0 := hblk5.frozen 0
      have f1 := hblk5.frozen 1
      have f2 := hblk5.frozen 2
      go_wp2
      refine bodyPost_ret (v := .agg #[.bool neg, .slice A3 n3 c3, .slice A5 n5 c5]) (by simp [results, Try.results84, go_sem, hGl, q0, q1, q2]) rfl ?_
      exact ⟨_, _, _, _, _, _, rfl, by
        rw [HN.out, HE1.out, Nat.pow_zero, Nat.mul_one]; exact (hP4.ext hE5).set_box3 hblk5 (noInt3 _ _ _ _ _ _ _) (by simp) (by simp), by
        rw [HD.out, HE2.out]; exact hR.set_box3 hblk5 (noInt3 _ _ _ _ _ _ _) (by simp) (by simp), (hE4'.trans hE5).set3 hGw _ _ _⟩
    · have HE1 : Hid ((ex + a - b).toNat = 0) := Lib.hid (by omega)
      have HE2 : Hid ((-(ex + a - b)).toNat = 0) := Lib.hid (by omega)
      have hle1 : ex + a - b ≤ 0 := by omega
      have hle2 : 0 ≤ ex + a - b := by omega
      clear heq
      have hGl := hblk4.lt
      have q0 : w4.cell? ⟨G, 0, none⟩ = some (.bool false) := hblk4.cell 0
      have q1 : w4.cell? ⟨G, 1, none⟩ = some (.slice none 0 0) := hblk4.cell 1
      have q2 : w4.cell? ⟨G, 2, none⟩ = some (.slice none 0 0) := hblk4.cell 2
      have f0 := hblk4.frozen 0
      have f1 := hblk4.frozen 1
      have f2 := hblk4.frozen 2
      go_wp2
      refine bodyPost_ret (v := .agg #[.bool neg, .slice A3 n3 c3, .slice A4 n4 c4]) (by simp [results, Try.results84, go_sem, hGl, q0, q1, q2]) rfl ?_
      exact ⟨_, _, _, _, _, _, rfl, by
        rw [HN.out, HE1.out, Nat.pow_zero, Nat.mul_one]; exact hP4.set_box3 hblk4 (noInt3 _ _ _ _ _ _ _) (by simp) (by simp), by
        rw [HD.out, HE2.out, Nat.pow_zero, Nat.mul_one]; exact hQ.set_box3 hblk4 (noInt3 _ _ _ _ _ _ _) (by simp) (by simp), hE4'.set3 hGw _ _ _⟩
    · obtain ⟨E, hE⟩ : ∃ E : Nat, ex + a - b = E := ⟨(ex + a - b).toNat, by omega⟩
      have hEb : E ≤ 35184372088832 := by omega
      have hE0 : 0 < E := by omega
      have HE1 : Hid ((ex + a - b).toNat = E) := Lib.hid (by omega)
      have HE2 : Hid ((-(ex + a - b)).toNat = 0) := Lib.hid (by omega)
      have hl := left_any _ _ _ _ E w4 hP4 (by omega) (by omega)
      rw [nv_nd] at hl
      have HL := Lib.hid hl
      clear hl
      go_wp2_with fail
      refine HL.out.mono ?_
      rintro e w5 ⟨A5, n5, c5, rfl, hR, hE5⟩
      have hblk5 := hblk4.ext hE5
      have hGl := hblk5.lt
      have q0 : w5.cell? ⟨G, 0, none⟩ = some (.bool false) := hblk5.cell 0
      have q1 : w5.cell? ⟨G, 1, none⟩ = some (.slice none 0 0) := hblk5.cell 1
      have q2 : w5.cell? ⟨G, 2, none⟩ = some (.slice none 0 0) := hblk5.cell 2
      have f0 := hblk5.frozen 0
      have f1 := hblk5.frozen 1
      have f2 := hblk5.frozen 2
      go_wp2
      refine bodyPost_ret (v := .agg #[.bool neg, .slice A5 n5 c5, .slice A4 n4 c4]) (by simp [results, Try.results84, go_sem, hGl, q0, q1, q2]) rfl ?_
      exact ⟨_, _, _, _, _, _, rfl, by
        rw [HN.out, HE1.out]; exact hR.set_box3 hblk5 (noInt3 _ _ _ _ _ _ _) (by simp) (by simp), by
        rw [HD.out, HE2.out, Nat.pow_zero, Nat.mul_one]; exact (hQ.ext hE5).set_box3 hblk5 (noInt3 _ _ _ _ _ _ _) (by simp) (by simp), (hE4'.trans hE5).set3 hGw _ _ _⟩
end Go.Proofs.Ytcimfccjcikemaa
