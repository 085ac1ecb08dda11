/-
  The contracts of the reference's naturals, third part: sums and differences. Conditions: those that each theorem names.
-/
import Derived.Test.YtfbjeifhpmdjaaaZ12
import Derived.Test.YtfbjeifhpmdjaaaZ02
import Derived.Test.YtfbjeifhpmdjaaaZ16
import Derived.Test.YtfbjeifhpmdjaaaZ15
import Derived.Test.YtfbjeifhpmdjaaaZ04
import Derived.Test.YtfbjeifhpmdjaaaZ19
import Derived.Test.YtfbjeifhpmdjaaaZ23
namespace Go.Proofs.Ytfbjeifhpmdjaaa
open Go.RowKit Nm
set_option maxRecDepth 100000
set_option linter.unusedVariables false
set_option linter.unusedSimpArgs false

set_option maxHeartbeats 1000000 in
theorem plus_any (A : Option Addr) (n c : Nat) (xs : List Nat) (B : Option Addr) (m d : Nat) (ys : List Nat) (w : World) (h : Wds w A n c xs) (hn : n ≤ 17592186044416) (k : Wds w B m d ys) (hm : m ≤ 17592186044416) :
    Calls Try.prog 57 #[.slice A n c, .slice B m d] w (RetW (nv xs + nv ys) w) := by
  have hlx := h.len
  have hly := k.len
  obtain ⟨i0, hi0, hz0, hz1, hz2⟩ := info_parts info_u32
  go_enter Try.func57, Try.ntmps57
  go_wp2
  go_loopw [5, 6, 7] (fun v cv i wr => ∃ (j cr : Nat) (acc : List Nat), j ≤ max n m ∧ i = .int .i64 j ∧ cv = .int .u64 (cr : Int) ∧ cr ≤ 1 ∧ Ws acc ∧ Hid (acc.length = j) ∧ Hid (nv acc + 4294967296 ^ j * cr = nv (xs.take j) + nv (ys.take j)) ∧ wr.ownsRow w.heap.size 83 1 v j (u32s acc) ∧ Ext w wr) (fun _ _ i _ => max n m - (intOf i).toNat)
  case atStart => exact ⟨0, 0, [], by omega, rfl, rfl, by omega, Ws.nil, Lib.hid rfl, Lib.hid (by simp [nv]), World.ownsRow_nil _ _ _ _, Ext.refl _⟩
  case round =>
    obtain ⟨j, cr, acc, hj, rfl, rfl, hcr, hacc, hal, hsum, hown, hb⟩ := hrel
    have hX : j < n → ∃ ad, ∃ X : Nat, A = some ad ∧ X < 4294967296 ∧ Hid (X = xs.getD j 0) ∧ wr.cell? (ad.add j) = some (.int .u32 (X : Int)) := fun hl => by
      obtain ⟨ad, hx, e, _, hc⟩ := (h.ext hb).at_ hl
      exact ⟨ad, xs[j], e, h.ws.get hx, Lib.hid (by simp [List.getD, hx]), hc⟩
    have hY : j < m → ∃ ad, ∃ Y : Nat, B = some ad ∧ Y < 4294967296 ∧ Hid (Y = ys.getD j 0) ∧ wr.cell? (ad.add j) = some (.int .u32 (Y : Int)) := fun hl => by
      obtain ⟨ad, hx, e, _, hc⟩ := (k.ext hb).at_ hl
      exact ⟨ad, ys[j], e, k.ws.get hx, Lib.hid (by simp [List.getD, hx]), hc⟩
    have hnX : n ≤ j → Hid (0 = xs.getD j 0) := fun hl => Lib.hid (by simp [List.getD, show ¬ j < xs.length by omega])
    have hnY : m ≤ j → Hid (0 = ys.getD j 0) := fun hl => Lib.hid (by simp [List.getD, show ¬ j < ys.length by omega])
    by_cases h1 : j < n
    · obtain ⟨ad, X, rfl, hX32, hXe, hcX⟩ := hX h1
      clear hX hnX
      by_cases h2 : j < m
      · obtain ⟨bd, Y, rfl, hY32, hYe, hcY⟩ := hY h2
        clear hY hnY
        obtain ⟨lo, hlo⟩ : ∃ lo, lo = (cr + X + Y) % 4294967296 := ⟨_, rfl⟩
        have hand := and_mask (cr + X + Y) lo (by omega) hlo
        have HL := Lib.hid hlo
        have hlo32 : lo < 4294967296 := by omega
        clear hlo
        push_cast at hand
        go_wp2_with (at_builtin; refine wpList_append_own _ rfl (.tmp 42) (.tmp 46) _ rfl w.heap.size 83 i0 (.int .u32 0) 1 4 Try.underlying41 hi0 hz0 hz1 hz2 rfl (by decide) _ _ _ rfl (hown.alloc _) ⟨wr.heap.size, 0, none⟩ 1 1 [.int .u32 (lo : Int)] rfl rfl (cell_one_new _ _ _) (by simp [Value.oneCell']) (by simp only [maxLen]; omega) (by omega) (by have := hb.size; simp; omega) ?_; intro v' w1 hown' hgrow _)
        go_roundw
        case rel => exact ⟨j + 1, (cr + X + Y) / 4294967296, acc ++ [lo], by omega, by go_num, val_int (by omega), by omega, hacc.append (Ws.cons hlo32 Ws.nil), Lib.hid (by simp [hal.out]), Lib.hid (sum_step hal.out hXe.out hYe.out hsum.out HL.out), by rw [← u32s_snoc]; exact hown', (hb.alloc _).grown hgrow fun q hq => (hown.lt q hq).1⟩
        case measure => simp [intOf]; omega
      · have hYe := hnY (by omega)
        clear hY hnY
        obtain ⟨lo, hlo⟩ : ∃ lo, lo = (cr + X + 0) % 4294967296 := ⟨_, rfl⟩
        have hand := and_mask (cr + X) lo (by omega) hlo
        have HL := Lib.hid hlo
        have hlo32 : lo < 4294967296 := by omega
        clear hlo
        push_cast at hand
        go_wp2_with (at_builtin; refine wpList_append_own _ rfl (.tmp 42) (.tmp 46) _ rfl w.heap.size 83 i0 (.int .u32 0) 1 4 Try.underlying41 hi0 hz0 hz1 hz2 rfl (by decide) _ _ _ rfl (hown.alloc _) ⟨wr.heap.size, 0, none⟩ 1 1 [.int .u32 (lo : Int)] rfl rfl (cell_one_new _ _ _) (by simp [Value.oneCell']) (by simp only [maxLen]; omega) (by omega) (by have := hb.size; simp; omega) ?_; intro v' w1 hown' hgrow _)
        go_roundw
        case rel => exact ⟨j + 1, (cr + X + 0) / 4294967296, acc ++ [lo], by omega, by go_num, val_int (by omega), by omega, hacc.append (Ws.cons hlo32 Ws.nil), Lib.hid (by simp [hal.out]), Lib.hid (sum_step hal.out hXe.out hYe.out hsum.out HL.out), by rw [← u32s_snoc]; exact hown', (hb.alloc _).grown hgrow fun q hq => (hown.lt q hq).1⟩
        case measure => simp [intOf]; omega
    · have hXe := hnX (by omega)
      clear hX hnX
      by_cases h2 : j < m
      · obtain ⟨bd, Y, rfl, hY32, hYe, hcY⟩ := hY h2
        clear hY hnY
        obtain ⟨lo, hlo⟩ : ∃ lo, lo = (cr + 0 + Y) % 4294967296 := ⟨_, rfl⟩
        have hand := and_mask (cr + Y) lo (by omega) (by omega)
        have HL := Lib.hid hlo
        have hlo32 : lo < 4294967296 := by omega
        clear hlo
        push_cast at hand
        go_wp2_with (at_builtin; refine wpList_append_own _ rfl (.tmp 42) (.tmp 46) _ rfl w.heap.size 83 i0 (.int .u32 0) 1 4 Try.underlying41 hi0 hz0 hz1 hz2 rfl (by decide) _ _ _ rfl (hown.alloc _) ⟨wr.heap.size, 0, none⟩ 1 1 [.int .u32 (lo : Int)] rfl rfl (cell_one_new _ _ _) (by simp [Value.oneCell']) (by simp only [maxLen]; omega) (by omega) (by have := hb.size; simp; omega) ?_; intro v' w1 hown' hgrow _)
        go_roundw
        case rel => exact ⟨j + 1, (cr + 0 + Y) / 4294967296, acc ++ [lo], by omega, by go_num, val_int (by omega), by omega, hacc.append (Ws.cons hlo32 Ws.nil), Lib.hid (by simp [hal.out]), Lib.hid (sum_step hal.out hXe.out hYe.out hsum.out HL.out), by rw [← u32s_snoc]; exact hown', (hb.alloc _).grown hgrow fun q hq => (hown.lt q hq).1⟩
        case measure => simp [intOf]; omega
      · have hfin := hsum.out
        rw [List.take_of_length_le (by omega), List.take_of_length_le (by omega)] at hfin
        have HF := Lib.hid (hfin)
        clear hfin hY hnY
        have hcr32 : cr < 4294967296 := by omega
        go_wp2_with (at_builtin; refine wpList_append_own _ rfl (.tmp 50) (.tmp 53) _ rfl w.heap.size 83 i0 (.int .u32 0) 1 4 Try.underlying41 hi0 hz0 hz1 hz2 rfl (by decide) _ _ _ rfl (hown.alloc _) ⟨wr.heap.size, 0, none⟩ 1 1 [.int .u32 (cr : Int)] rfl rfl (cell_one_new _ _ _) (by simp [Value.oneCell']) (by simp only [maxLen]; omega) (by omega) (by have := hb.size; simp; omega) ?_; intro v' w1 hown' hgrow _)
        rw [u32s_snoc] at hown'
        have hE1 : Ext w w1 := (hb.alloc _).grown hgrow fun q hq => (hown.lt q hq).1
        obtain ⟨A', c', rfl, hW⟩ := Wds.of_own hown' (hacc.append (Ws.cons hcr32 Ws.nil))
        go_wp2_with (go_at_call 60; refine (norm_any _ _ _ _ _ hW (by omega)).mono ?_; rintro e w2 ⟨A2, n2, c2, rfl, hR, hE2⟩)
        go_ret
        exact ⟨A2, n2, c2, rfl, by
          have e : nv (acc ++ [cr]) = nv xs + nv ys := by
            rw [nv_append, hal.out]; simp only [nv, Nat.mul_zero, Nat.add_zero]; exact HF.out
          rw [← e]; exact hR, hE1.trans hE2⟩

set_option maxHeartbeats 1000000 in
theorem minus_any (A : Option Addr) (n c : Nat) (xs : List Nat) (B : Option Addr) (m d : Nat) (ys : List Nat) (w : World) (h : Wds w A n c xs) (hn : n ≤ 17592186044416) (k : Wds w B m d ys) (hm : m ≤ 17592186044416) (hle : nv ys ≤ nv xs) :
    Calls Try.prog 59 #[.slice A n c, .slice B m d] w (RetW (nv xs - nv ys) w) := by
  have hlx := h.len
  have hly := k.len
  have HLE := Lib.hid hle
  clear hle
  go_enter Try.func59, Try.ntmps59
  go_wp2
  go_loopw [5, 6, 7] (fun v cv i wr => ∃ (j br : Nat) (acc : List Nat), j ≤ n ∧ i = .int .i64 j ∧ cv = .int .u64 (br : Int) ∧ br ≤ 1 ∧ Ws acc ∧ Hid (acc.length = j) ∧ Hid (nv acc + nv (ys.take j) = nv (xs.take j) + 4294967296 ^ j * br) ∧ wr.ownsRow w.heap.size 83 1 v j (u32s acc) ∧ Ext w wr) (fun _ _ i _ => n - (intOf i).toNat)
  case atStart => exact ⟨0, 0, [], by omega, rfl, rfl, by omega, Ws.nil, Lib.hid rfl, Lib.hid (by simp [nv]), World.ownsRow_nil _ _ _ _, Ext.refl _⟩
  case round =>
    obtain ⟨j, br, acc, hj, rfl, rfl, hbr, hacc, hal, hsum, hown, hb⟩ := hrel
    by_cases h1 : j < n
    · obtain ⟨ad, hx, rfl, _, hcX⟩ := (h.ext hb).at_ h1
      have hX32 := h.ws.get hx
      have hXe := Lib.hid (getD_of hx)
      generalize xs[j] = X at *
      have hY : (j < m ∧ ∃ bd, ∃ Y : Nat, B = some bd ∧ Y < 4294967296 ∧ Hid (Y = ys.getD j 0) ∧ wr.cell? (bd.add j) = some (.int .u32 (Y : Int))) ∨ (m ≤ j ∧ ∃ Y : Nat, Y ≤ 0 ∧ Hid (Y = ys.getD j 0)) := by
        by_cases hl : j < m
        · obtain ⟨bd, hy, e, _, hc⟩ := (k.ext hb).at_ hl
          exact .inl ⟨hl, bd, ys[j], e, k.ws.get hy, Lib.hid (getD_of hy), hc⟩
        · exact .inr ⟨by omega, 0, by omega, Lib.hid (getD_out (by omega))⟩
      rcases hY with ⟨hjm, bd, Y, rfl, hY32, hYe, hcY⟩ | ⟨hjm, Y, hY0, hYe⟩
      all_goals
        by_cases hlt : X < br + Y
        · go_wp2_with (at_builtin; refine wp_app32 rfl (.tmp 38) (.tmp 43) rfl (X + 4294967296 - (br + Y)) rfl hown hb rfl (by omega) (by omega) ?_; intro v' w1 hown' hE')
          go_roundw
          case rel => exact ⟨j + 1, 1, acc ++ [X + 4294967296 - (br + Y)], by omega, by go_num, rfl, by omega, hacc.append (Ws.cons (by omega) Ws.nil), Lib.hid (by simp [hal.out]), Lib.hid (diff_step hal.out hXe.out hYe.out hsum.out (by omega)), hown', hE'⟩
          case measure => simp [intOf]; omega
        · go_wp2_with (at_builtin; refine wp_app32 rfl (.tmp 38) (.tmp 43) rfl (X - (br + Y)) rfl hown hb rfl (by omega) (by omega) ?_; intro v' w1 hown' hE')
          go_roundw
          case rel => exact ⟨j + 1, 0, acc ++ [X - (br + Y)], by omega, by go_num, rfl, by omega, hacc.append (Ws.cons (by omega) Ws.nil), Lib.hid (by simp [hal.out]), Lib.hid (diff_step hal.out hXe.out hYe.out hsum.out (by omega)), hown', hE'⟩
          case measure => simp [intOf]; omega
    · have HF := Lib.hid (diff_end h.ws hacc (hal.out.trans (by omega)) hlx HLE.out (by rw [show n = j by omega]; exact hsum.out))
      obtain ⟨A', c', rfl, hW⟩ := Wds.of_own hown hacc
      go_wp2_with (go_at_call 60; refine (norm_any _ _ _ _ _ hW (by omega)).mono ?_; rintro e w2 ⟨A2, n2, c2, rfl, hR, hE2⟩)
      go_ret
      exact ⟨A2, n2, c2, rfl, by rw [← HF.out]; exact hR, hb.trans hE2⟩
end Go.Proofs.Ytfbjeifhpmdjaaa

/-
  The contracts of the reference's ratios. Conditions: those that each theorem names.
-/
namespace Go.Proofs.Ytfbjeifhpmdjaaa
open Go.RowKit Nm
set_option maxRecDepth 100000
set_option linter.unusedVariables false
set_option linter.unusedSimpArgs false

theorem nd_one : nd 1 = [1] := by rw [nd_pos (by omega), show 1 / 4294967296 = 0 from rfl, nd_zero]

/-- The list of one word 1, new. -/
theorem one_wds (w : World) {g : Nat} (hg : g = w.heap.size) : Wds (w.alloc (.cells #[.int .u32 1] 83)) (some ⟨g, 0, none⟩) 1 1 [1] := by
  subst hg
  exact (Row.new w [1]).wds (Ws.cons (by omega) Ws.nil) rfl (Nat.le_refl _) (by unfold maxLen; omega)

/-- What is answered: a ratio. -/
def RetR (neg : Bool) (n m : Nat) (w : World) (e : Ending) (w' : World) : Prop :=
  ∃ A l c B k d, e = .returned (.agg #[.bool neg, .slice A l c, .slice B k d]) ∧ Wds w' A l c (nd n) ∧ Wds w' B k d (nd m) ∧ Ext w w'

set_option maxHeartbeats 1000000 in
theorem frac_any (neg : Bool) (A : Option Addr) (n c : Nat) (xs : List Nat) (B : Option Addr) (m d : Nat) (ys : List Nat) (ex : Int) (w : World) (h : Wds w A n c xs) (hn : n ≤ 274877906944) (k : Wds w B m d ys) (hm : m ≤ 274877906944)
    (he1 : -4398046511104 ≤ ex) (he2 : ex ≤ 4398046511104) (hpos : 0 < nv ys) :
    Calls Try.prog 54 #[.bool neg, .slice A n c, .slice B m d, .int .i64 ex] w (RetR (neg && decide (nv xs ≠ 0)) (fracN (nv xs) (nv ys) ex) (fracD (nv xs) (nv ys) ex) w) := by
  have hlx := h.len
  have hly := k.len
  have hXl : nv xs < 4294967296 ^ n := by rw [← hlx]; exact nv_lt h.ws
  have hYl : nv ys < 4294967296 ^ m := by rw [← hly]; exact nv_lt k.ws
  by_cases h0 : nv xs = 0
  · have hz : nw (nv xs) ≤ 0 := by rw [h0, nw_zero]; omega
    have HN : Hid (nd (fracN (nv xs) (nv ys) ex) = []) := Lib.hid (by rw [h0, fracN_zero, nd_zero])
    have HD : Hid (nd (fracD (nv xs) (nv ys) ex) = [1]) := Lib.hid (by rw [h0]; simp only [fracD, if_true]; exact nd_one)
    have HB : Hid ((neg && decide (nv xs ≠ 0)) = false) := Lib.hid (by simp [h0])
    clear h0 hXl hYl
    rw [HB.out]
    go_enter Try.func54, Try.ntmps54
    go_wp2_with fail
    refine (norm_any _ _ _ _ _ (h.alloc _) (by omega)).mono ?_
    rintro e w1 ⟨A1, n1, c1, rfl, hN, hE1⟩
    have hn1 : n1 ≤ 0 := by have := hN.len; rw [nd_length] at this; omega
    go_wp2_with fail
    refine (norm_any _ _ _ _ _ ((k.alloc _).ext hE1) (by omega)).mono ?_
    rintro e w2 ⟨A2, n2, c2, rfl, hM, hE2⟩
    have hblk := ((Blk.new w 43 #[Value.bool false, Value.slice none 0 0, Value.slice none 0 0]).ext hE1).ext hE2
    have hE : Ext w w2 := ((Ext.refl w).alloc _).trans (hE1.trans hE2)
    obtain ⟨G, hG⟩ : ∃ G, G = w.heap.size := ⟨_, rfl⟩
    rw [← hG] at hblk
    rw [← hG]
    have hGl := hblk.lt
    have hGw : w.heap.size ≤ G := by omega
    have q0 : w2.cell? ⟨G, 0, none⟩ = some (.bool false) := hblk.cell 0
    have q1 : w2.cell? ⟨G, 1, none⟩ = some (.slice none 0 0) := hblk.cell 1
    have q2 : w2.cell? ⟨G, 2, none⟩ = some (.slice none 0 0) := hblk.cell 2
    have f0 := hblk.frozen 0
    have f1 := hblk.frozen 1
    have f2 := hblk.frozen 2
    clear hG
    go_wp2
    refine bodyPost_ret (v := .agg #[.bool false, .slice none 0 0, .slice (some ⟨w2.heap.size, 0, none⟩) 1 1]) (by simp [results, Try.results54, go_sem, hGl, q0, q1, q2]) rfl ?_
    refine ⟨none, 0, 0, some ⟨w2.heap.size, 0, none⟩, 1, 1, rfl, by rw [HN.out]; exact Wds.nil_ (by unfold maxLen; omega), ?_, (hE.set3 hGw _ _ _).alloc _⟩
    rw [HD.out]
    exact one_wds _ (by simp [World.setCell])
  · have hX0 : 0 < nv xs := by omega
    have HB : Hid ((neg && decide (nv xs ≠ 0)) = neg) := Lib.hid (by simp [h0])
    have HN : Hid (fracN (nv xs) (nv ys) ex = nv xs / 2 ^ tz (nv xs) * 2 ^ (ex + tz (nv xs) - tz (nv ys)).toNat) := Lib.hid (by unfold fracN; rw [if_neg h0])
    have HD : Hid (fracD (nv xs) (nv ys) ex = nv ys / 2 ^ tz (nv ys) * 2 ^ (-(ex + tz (nv xs) - tz (nv ys))).toNat) := Lib.hid (by unfold fracD; rw [if_neg h0])
    have hta : tz (nv xs) ≤ 32 * n := by
      have h1 := tz_lt h0
      have h2 := (bl_le_iff (nv xs) (32 * n)).2 (by rw [← pow32]; exact hXl)
      omega
    have htb : tz (nv ys) ≤ 32 * m := by
      have h1 := tz_lt (show nv ys ≠ 0 by omega)
      have h2 := (bl_le_iff (nv ys) (32 * m)).2 (by rw [← pow32]; exact hYl)
      omega
    have hnx := nw_nv_le h.ws
    have hny := nw_nv_le k.ws
    have hnx1 : 0 < nw (nv xs) := by
      rcases Nat.eq_zero_or_pos (nw (nv xs)) with e | e
      · exact absurd (nw_eq_zero.1 e) h0
      · exact e
    clear h0 hXl hYl
    rw [HB.out]
    have ha1 := norm_any A n c xs (w.alloc (Obj.cells #[Value.bool false, Value.slice none 0 0, Value.slice none 0 0] 43)) (h.alloc _) (by omega)
    have hb1 := fun w' (k' : Wds w' B m d ys) => norm_any B m d ys w' k' (by omega)
    obtain ⟨X, hX⟩ : ∃ X, X = nv xs := ⟨_, rfl⟩
    obtain ⟨Y, hY⟩ : ∃ Y, Y = nv ys := ⟨_, rfl⟩
    rw [← hX, ← hY] at HN HD
    rw [← hX] at ha1 hX0 hta hnx hnx1
    rw [← hY] at hb1 hpos htb hny
    have HA1 := Lib.hid ha1
    have HB1 := Lib.hid hb1
    rw [← hX, ← hY]
    clear ha1 hb1 hX hY
    obtain ⟨a, ha⟩ : ∃ a, a = tz X := ⟨_, rfl⟩
    obtain ⟨b, hb⟩ : ∃ b, b = tz Y := ⟨_, rfl⟩
    rw [← ha, ← hb] at HN HD
    rw [← ha] at hta
    rw [← hb] at htb
    go_enter Try.func54, Try.ntmps54
    have HAe := Lib.hid ha
    have HBe := Lib.hid hb
    clear ha hb
    go_wp2_with fail
    refine HA1.out.mono ?_
    rintro e w1 ⟨A1, n1, c1, rfl, hN, hE1⟩
    have hn1 : 0 < n1 := by have := hN.len; rw [nd_length] at this; omega
    have hn1b : n1 ≤ n := by have := hN.len; rw [nd_length] at this; omega
    go_wp2_with fail
    refine (HB1.out _ ((k.alloc _).ext hE1)).mono ?_
    rintro e w2 ⟨A2, n2, c2, rfl, hM, hE2⟩
    have hn2b : n2 ≤ m := by have := hM.len; rw [nd_length] at this; omega
    have hblk := ((Blk.new w 43 #[Value.bool false, Value.slice none 0 0, Value.slice none 0 0]).ext hE1).ext hE2
    have hE : Ext w w2 := ((Ext.refl w).alloc _).trans (hE1.trans hE2)
    have hN2 := hN.ext hE2
    obtain ⟨G, hG⟩ : ∃ G, G = w.heap.size := ⟨_, rfl⟩
    rw [← hG] at hblk
    rw [← hG]
    have hGw : w.heap.size ≤ G := by omega
    clear hG hE1 hE2 hN
    have hz1 := zeros_any _ _ _ _ w2 hN2 (by omega)
    rw [nv_nd, ← HAe.out] at hz1
    have HZ1 := Lib.hid hz1
    clear hz1
    go_wp2_with fail
    refine HZ1.out.mono ?_
    rintro e w3 ⟨rfl, rfl⟩
    have hr1 := right_any _ _ _ _ a w2 hN2 (by omega) (by omega)
    rw [nv_nd] at hr1
    have HR1 := Lib.hid hr1
    clear hr1
    go_wp2_with fail
    refine HR1.out.mono ?_
    rintro e w3 ⟨A3, n3, c3, rfl, hP, hE3⟩
    have hM3 := hM.ext hE3
    have hz2 := zeros_any _ _ _ _ w3 hM3 (by omega)
    rw [nv_nd, ← HBe.out] at hz2
    have HZ2 := Lib.hid hz2
    clear hz2
    go_wp2_with fail
    refine HZ2.out.mono ?_
    rintro e w4 ⟨rfl, rfl⟩
    have hr2 := right_any _ _ _ _ b w3 hM3 (by omega) (by omega)
    rw [nv_nd] at hr2
    have HR2 := Lib.hid hr2
    clear hr2
    go_wp2_with fail
    refine HR2.out.mono ?_
    rintro e w4 ⟨A4, n4, c4, rfl, hQ, hE4⟩
    have hP4 := hP.ext hE4
    have hblk4 := (hblk.ext hE3).ext hE4
    have hE4' : Ext w w4 := hE.trans (hE3.trans hE4)
    have hn3b : n3 ≤ n := by
      have h1 := hP.len
      rw [nd_length] at h1
      have h2 := nw_mono (Nat.div_le_self X (2 ^ a))
      omega
    have hn4b : n4 ≤ m := by
      have h1 := hQ.len
      rw [nd_length] at h1
      have h2 := nw_mono (Nat.div_le_self Y (2 ^ b))
      omega
    clear hE3 hE4 hE hblk hP hM hM3 hN2
    rcases Int.lt_trichotomy (ex + a - b) 0 with hlt | heq | hgt
    · obtain ⟨E, hE⟩ : ∃ E : Nat, -(ex + a - b) = E := ⟨(-(ex + a - b)).toNat, by omega⟩
      have hEb : E ≤ 35184372088832 := by omega
      have HE1 : Hid ((ex + a - b).toNat = 0) := Lib.hid (by omega)
      have HE2 : Hid ((-(ex + a - b)).toNat = E) := Lib.hid (by omega)
      have hl := left_any _ _ _ _ E w4 hQ (by omega) (by omega)
      rw [nv_nd] at hl
      have HL := Lib.hid hl
      clear hl
      go_wp2_with fail
      refine HL.out.mono ?_
      rintro e w5 ⟨A5, n5, c5, rfl, hR, hE5⟩
      have hblk5 := hblk4.ext hE5
      have hGl := hblk5.lt
      have q0 : w5.cell? ⟨G, 0, none⟩ = some (.bool false) := hblk5.cell 0
      have q1 : w5.cell? ⟨G, 1, none⟩ = some (.slice none 0 0) := hblk5.cell 1
      have q2 : w5.cell? ⟨G, 2, none⟩ = some (.slice none 0 0) := hblk5.cell 2
      have f0 := hblk5.frozen 0
      have f1 := hblk5.frozen 1
      have f2 := hblk5.frozen 2
      go_wp2
      refine bodyPost_ret (v := .agg #[.bool neg, .slice A3 n3 c3, .slice A5 n5 c5]) (by simp [results, Try.results54, go_sem, hGl, q0, q1, q2]) rfl ?_
      exact ⟨_, _, _, _, _, _, rfl, by
        rw [HN.out, HE1.out, Nat.pow_zero, Nat.mul_one]; exact (hP4.ext hE5).set_box3 hblk5 (noInt3 _ _ _ _ _ _ _) (by simp) (by simp), by
        rw [HD.out, HE2.out]; exact hR.set_box3 hblk5 (noInt3 _ _ _ _ _ _ _) (by simp) (by simp), (hE4'.trans hE5).set3 hGw _ _ _⟩
    · have HE1 : Hid ((ex + a - b).toNat = 0) := Lib.hid (by omega)
      have HE2 : Hid ((-(ex + a - b)).toNat = 0) := Lib.hid (by omega)
      have hle1 : ex + a - b ≤ 0 := by omega
      have hle2 : 0 ≤ ex + a - b := by omega
      clear heq
      have hGl := hblk4.lt
      have q0 : w4.cell? ⟨G, 0, none⟩ = some (.bool false) := hblk4.cell 0
      have q1 : w4.cell? ⟨G, 1, none⟩ = some (.slice none 0 0) := hblk4.cell 1
      have q2 : w4.cell? ⟨G, 2, none⟩ = some (.slice none 0 0) := hblk4.cell 2
      have f0 := hblk4.frozen 0
      have f1 := hblk4.frozen 1
      have f2 := hblk4.frozen 2
      go_wp2
      refine bodyPost_ret (v := .agg #[.bool neg, .slice A3 n3 c3, .slice A4 n4 c4]) (by simp [results, Try.results54, go_sem, hGl, q0, q1, q2]) rfl ?_
      exact ⟨_, _, _, _, _, _, rfl, by
        rw [HN.out, HE1.out, Nat.pow_zero, Nat.mul_one]; exact hP4.set_box3 hblk4 (noInt3 _ _ _ _ _ _ _) (by simp) (by simp), by
        rw [HD.out, HE2.out, Nat.pow_zero, Nat.mul_one]; exact hQ.set_box3 hblk4 (noInt3 _ _ _ _ _ _ _) (by simp) (by simp), hE4'.set3 hGw _ _ _⟩
    · obtain ⟨E, hE⟩ : ∃ E : Nat, ex + a - b = E := ⟨(ex + a - b).toNat, by omega⟩
      have hEb : E ≤ 35184372088832 := by omega
      have hE0 : 0 < E := by omega
      have HE1 : Hid ((ex + a - b).toNat = E) := Lib.hid (by omega)
      have HE2 : Hid ((-(ex + a - b)).toNat = 0) := Lib.hid (by omega)
      have hl := left_any _ _ _ _ E w4 hP4 (by omega) (by omega)
      rw [nv_nd] at hl
      have HL := Lib.hid hl
      clear hl
      go_wp2_with fail
      refine HL.out.mono ?_
      rintro e w5 ⟨A5, n5, c5, rfl, hR, hE5⟩
      have hblk5 := hblk4.ext hE5
      have hGl := hblk5.lt
      have q0 : w5.cell? ⟨G, 0, none⟩ = some (.bool false) := hblk5.cell 0
      have q1 : w5.cell? ⟨G, 1, none⟩ = some (.slice none 0 0) := hblk5.cell 1
      have q2 : w5.cell? ⟨G, 2, none⟩ = some (.slice none 0 0) := hblk5.cell 2
      have f0 := hblk5.frozen 0
      have f1 := hblk5.frozen 1
      have f2 := hblk5.frozen 2
      go_wp2
      refine bodyPost_ret (v := .agg #[.bool neg, .slice A5 n5 c5, .slice A4 n4 c4]) (by simp [results, Try.results54, go_sem, hGl, q0, q1, q2]) rfl ?_
      exact ⟨_, _, _, _, _, _, rfl, by
        rw [HN.out, HE1.out]; exact hR.set_box3 hblk5 (noInt3 _ _ _ _ _ _ _) (by simp) (by simp), by
        rw [HD.out, HE2.out, Nat.pow_zero, Nat.mul_one]; exact (hQ.ext hE5).set_box3 hblk5 (noInt3 _ _ _ _ _ _ _) (by simp) (by simp), (hE4'.trans hE5).set3 hGw _ _ _⟩
end Go.Proofs.Ytfbjeifhpmdjaaa

/-
  Plain: how many words a ratio's parts have at most. Conditions: those that each theorem names.
-/
namespace Go.Proofs.Ytfbjeifhpmdjaaa
open Go.RowKit Nm Rn
set_option linter.unusedVariables false
set_option linter.unusedSimpArgs false

theorem le_nw_of {a b k : Nat} (h : a ≤ b) (hb : nw b ≤ k) : nw a ≤ k := (nw_le_iff _ _).2 (Nat.lt_of_le_of_lt h ((nw_le_iff _ _).1 hb))
theorem tz_bl (n : Nat) : tz n ≤ bl n := by
  by_cases h : n = 0
  · subst h; exact Nat.le_refl _
  · have h1 := tz_div (n := n)
    have h2 : 2 ^ tz n ≤ n := by
      have : 1 ≤ n / 2 ^ tz n := by
        rcases Nat.eq_zero_or_pos (n / 2 ^ tz n) with h3 | h3
        · rw [h3, Nat.zero_mul] at h1; omega
        · exact h3
      calc 2 ^ tz n = 1 * 2 ^ tz n := by omega
        _ ≤ n / 2 ^ tz n * 2 ^ tz n := Nat.mul_le_mul_right _ this
        _ = n := h1
    rcases Nat.lt_or_ge (bl n) (tz n) with h3 | h3
    · have h4 := lt_pow_bl n
      have h5 := Nat.pow_le_pow_right (n := 2) (by omega) (Nat.le_of_lt h3)
      omega
    · exact h3
theorem fracD_le_ {n d : Nat} {e : Int} (hd : d ≠ 0) : fracD n d e ≤ d * 2 ^ ((-e).toNat + tz d) := by
  unfold fracD
  split
  · exact Nat.mul_pos (by omega) (Nat.two_pow_pos _)
  · have h1 : (-(e + tz n - tz d)).toNat ≤ (-e).toNat + tz d := by omega
    have h2 := Nat.pow_le_pow_right (n := 2) (by omega) h1
    exact Nat.mul_le_mul (Nat.div_le_self _ _) h2
theorem frac_nw {n d : Nat} {e : Int} (hn : nw n ≤ 16384) (hdn : nw d ≤ 16384) (hd : d ≠ 0) (e1 : -1100000 ≤ e) (e2 : e ≤ 1100000) : nw (fracN n d e) ≤ 1073741824 ∧ nw (fracD n d e) ≤ 1073741824 := by
  have a1 := nw_bl n
  have a2 := nw_bl d
  have t1 := tz_bl n
  have t2 := tz_bl d
  have h1 := le_nw_of (fracN_le n d e) (Nat.le_trans (nw_shift _ (Nat.le_refl _)) (show nw n + ((e.toNat + tz n) / 32 + 1) ≤ 1073741824 by omega))
  have h2 := le_nw_of (fracD_le_ (n := n) (e := e) hd) (Nat.le_trans (nw_shift _ (Nat.le_refl _)) (show nw d + (((-e).toNat + tz d) / 32 + 1) ≤ 1073741824 by omega))
  exact ⟨h1, h2⟩
end Go.Proofs.Ytfbjeifhpmdjaaa

/-
  Plain: what the document's Ratio answers. Conditions: none.
-/
set_option linter.unusedVariables false
set_option linter.unusedSimpArgs false
namespace Go.Proofs.Ytfbjeifhpmdjaaa
open Nm Rn
/-- A ratio, reduced and rounded. -/
def rat0 (d : Int) (neg : Bool) (n m : Nat) (e : Int) : Nat := rnd d (neg && decide (n ≠ 0)) (zr (fracN n m e) (fracD n m e))
/-- What the document's Ratio answers. -/
def ratR (d : Int) (neg : Bool) (N M : Nat) (e : Int) : Nat :=
  if 16384 < nw N ∨ 16384 < nw M then NaNc
  else if M = 0 then (if N = 0 then NaNc else infP neg)
  else if 2000 - ((bl N : Int) - bl M) < e then rat0 d neg (if N = 0 then 0 else 1) 1 2000
  else if e < -2000 - ((bl N : Int) - bl M) then rat0 d neg (if N = 0 then 0 else 1) 1 (-2000)
  else rat0 d neg N M e

end Go.Proofs.Ytfbjeifhpmdjaaa

/-
  The contract of the program's Ratio. Conditions: those that each theorem names.
-/
namespace Go.Proofs.Ytfbjeifhpmdjaaa
open Go.RowKit Nm Rn
set_option maxRecDepth 100000
set_option linter.unusedVariables false
set_option linter.unusedSimpArgs false

theorem same_frac {N M : Nat} (e : Int) (hM : M ≠ 0) : Same75 N M e (fracN N M e * K75) (fracD N M e) := by
  obtain ⟨c, hc⟩ : ∃ c, c = 1075 := ⟨_, rfl⟩
  obtain ⟨p, hp⟩ : ∃ p, p = e.toNat := ⟨_, rfl⟩
  obtain ⟨q, hq⟩ : ∃ q, q = (-e).toNat := ⟨_, rfl⟩
  have hK : K75 = 2 ^ c := by rw [hc]; exact K75_def
  have h := frac_val (n := N) (d := M) (e := e) (p := p) (q := q) (by omega)
  refine ⟨p + c, q, by omega, fracD_pos e hM, by omega, ?_⟩
  rw [hK, Nat.pow_add]
  have a1 : N * (2 ^ p * 2 ^ c) * fracD N M e = N * 2 ^ p * fracD N M e * 2 ^ c := by simp only [Nat.mul_assoc, Nat.mul_comm, Nat.mul_left_comm]
  have a2 : fracN N M e * 2 ^ c * (M * 2 ^ q) = fracN N M e * (M * 2 ^ q) * 2 ^ c := by simp only [Nat.mul_assoc, Nat.mul_comm, Nat.mul_left_comm]
  rw [a1, a2, h]
theorem Same75.gen {N D : Nat} {e : Int} {N' M k : Nat} (h : Same75 N D e N' M) (hb : decide (N * 2 ^ k % D ≠ 0) = true → 55 ≤ bl (N * 2 ^ k / D)) (d : Int) (neg : Bool) :
    rnd d neg (zd (2 * (N * 2 ^ k / D) + (decide (N * 2 ^ k % D ≠ 0)).toNat) (e - k - 1)) = rnd d neg (zq N' M) := by
  obtain ⟨A, B, hAB, hM, hD, h⟩ := h
  refine rnd_quo (X := N * 2 ^ k) (Y := D) (A := A) (B := B + k) hD hM rfl rfl hb (by omega) ?_ d neg
  rw [Nat.pow_add]
  have a1 : N * 2 ^ k * 2 ^ A * M = N * 2 ^ A * M * 2 ^ k := by simp only [Nat.mul_assoc, Nat.mul_comm, Nat.mul_left_comm]
  have a2 : N' * (D * (2 ^ B * 2 ^ k)) = N' * (D * 2 ^ B) * 2 ^ k := by simp only [Nat.mul_assoc, Nat.mul_comm, Nat.mul_left_comm]
  rw [a1, a2, h]
theorem quo_bl {N D k : Nat} (hN : N ≠ 0) (hD : D ≠ 0) (hb : decide (N * 2 ^ k % D ≠ 0) = true → 55 ≤ bl (N * 2 ^ k / D)) : N * 2 ^ k / D ≠ 0 ∧ bl N + k ≤ bl (N * 2 ^ k / D) + bl D + 1 := by
  have hp := Nat.mul_pos (show 0 < N by omega) (two_pow_pos k)
  have hdm := Nat.div_add_mod (N * 2 ^ k) D
  have hlt := Nat.mod_lt (N * 2 ^ k) (show 0 < D by omega)
  have h0 : N * 2 ^ k / D ≠ 0 := by
    intro h0
    rw [h0, Nat.mul_zero, Nat.zero_add] at hdm
    have := hb (decide_eq_true (by omega))
    rw [h0, bl_zero] at this
    omega
  refine ⟨h0, ?_⟩
  have h1 : bl (N * 2 ^ k) = bl N + k := bl_mul_pow k hN
  rw [← h1, bl_le_iff]
  have h2 := lt_pow_bl (N * 2 ^ k / D)
  have h3 := lt_pow_bl D
  have h4 : N * 2 ^ k < (N * 2 ^ k / D + 1) * D := by
    rw [Nat.add_mul, Nat.one_mul, Nat.mul_comm _ D]; omega
  have h5 : (N * 2 ^ k / D + 1) * D ≤ 2 ^ bl (N * 2 ^ k / D) * 2 ^ bl D := Nat.mul_le_mul h2 (Nat.le_of_lt h3)
  rw [← Nat.pow_add] at h5
  have h6 : 2 ^ (bl (N * 2 ^ k / D) + bl D) ≤ 2 ^ (bl (N * 2 ^ k / D) + bl D + 1) := Nat.pow_le_pow_right (by omega) (by omega)
  omega
theorem rat0_over (d : Int) (neg : Bool) : rat0 d neg 1 1 2000 = pat neg (if twB d neg then infR - 1 else infR) := by
  unfold rat0
  rw [show (neg && decide (1 ≠ 0)) = neg by cases neg <;> rfl]
  exact rnd_over (by decide +kernel) (by decide +kernel) (by decide +kernel) d neg
theorem rat0_under (d : Int) (neg : Bool) : rat0 d neg 1 1 (-2000) = rnd d neg 1 := by
  unfold rat0
  rw [show (neg && decide (1 ≠ 0)) = neg by cases neg <;> rfl, show zr (fracN 1 1 (-2000)) (fracD 1 1 (-2000)) = 1 by decide +kernel]
theorem rat0_fin (d : Int) (neg : Bool) {N M : Nat} (e : Int) (hN : N ≠ 0) : rat0 d neg N M e = rnd d neg (zq (fracN N M e * K75) (fracD N M e)) := by
  unfold rat0
  rw [decide_eq_true hN, Bool.and_true]
  rfl
theorem rat_fin (d : Int) (neg : Bool) {N M k : Nat} {e : Int} (hN : N ≠ 0) (hM : M ≠ 0) (hn : bl N ≤ 524288) (hm : bl M ≤ 524288) (ht : -1100 ≤ (bl N : Int) - bl M + holdZ e) (hb : decide (N * 2 ^ k % M ≠ 0) = true → 55 ≤ bl (N * 2 ^ k / M)) :
    rnd d neg (zd (2 * (N * 2 ^ k / M) + (decide (N * 2 ^ k % M ≠ 0)).toNat) (holdZ e - k - 1)) = ratR d neg N M e := by
  have hnN : ¬ (16384 < nw N ∨ 16384 < nw M) := by
    have h1 := nw_of_bl hn
    have h2 := nw_of_bl hm
    omega
  unfold ratR
  rw [if_neg hnN, if_neg hM]
  by_cases c1 : 2000 - ((bl N : Int) - bl M) < e
  · rw [if_pos c1, if_neg hN, rat0_over]
    obtain ⟨q1, q2⟩ := quo_bl hN hM hb
    refine rnd_big q1 ?_ d neg
    have : 2000 - ((bl N : Int) - bl M) < holdZ e := by unfold holdZ; omega
    omega
  · rw [if_neg c1]
    by_cases c2 : e < -2000 - ((bl N : Int) - bl M)
    · exfalso
      unfold holdZ at ht
      omega
    · rw [if_neg c2, rat0_fin d neg e hN]
      have hh : holdZ e = e := by unfold holdZ; omega
      rw [hh]
      exact (same_frac e hM).gen hb d neg
theorem rat_tiny (d : Int) (neg : Bool) {N M : Nat} {e : Int} (hN : N ≠ 0) (hM : M ≠ 0) (hn : bl N ≤ 524288) (hm : bl M ≤ 524288) (ht : (bl N : Int) - bl M + holdZ e < -1100) :
    rnd d neg (zd (2 * 1) (-1200 - 1)) = ratR d neg N M e := by
  have hnN : ¬ (16384 < nw N ∨ 16384 < nw M) := by
    have h1 := nw_of_bl hn
    have h2 := nw_of_bl hm
    omega
  unfold ratR
  rw [if_neg hnN, if_neg hM]
  by_cases c1 : 2000 - ((bl N : Int) - bl M) < e
  · exfalso
    unfold holdZ at ht
    omega
  · rw [if_neg c1]
    by_cases c2 : e < -2000 - ((bl N : Int) - bl M)
    · rw [if_pos c2, if_neg hN, rat0_under, zd_tiny (by omega) (by rw [show bl 1 = 1 from rfl]; omega)]
    · rw [if_neg c2, rat0_fin d neg e hN]
      have hh : holdZ e = e := by unfold holdZ; omega
      rw [hh] at ht
      exact (same_frac e hM).tiny hN ht d neg
theorem rat_zero (d : Int) (neg : Bool) {M : Nat} {e : Int} (hM : M ≠ 0) (hm : bl M ≤ 524288) : ratR d neg 0 M e = 0 := by
  have h2 := nw_of_bl hm
  have h0 : nw 0 = 0 := nw_zero
  have hf : ∀ m e, fracN 0 m e = 0 := fun m e => by unfold fracN; simp
  have hz : ∀ m e, rat0 d neg 0 m e = 0 := fun m e => by
    unfold rat0
    rw [hf, zr_zero, rnd_zero]
  unfold ratR
  rw [if_neg (by omega), if_neg hM]
  split
  · exact hz _ _
  · split
    · exact hz _ _
    · exact hz _ _
theorem rat_num (d : Int) (neg : Bool) {N M : Nat} {e : Int} {Z : Nat} (h : rnd d neg Z = ratR d neg N M e) : ratR d neg N M e < 18446744073709551616 ∧ cn (ratR d neg N M e) = ratR d neg N M e := by
  rw [← h]
  exact ⟨(rnd_ok _ _ _).1, cn_num (rnd_ok _ _ _).2⟩
end Go.Proofs.Ytfbjeifhpmdjaaa
