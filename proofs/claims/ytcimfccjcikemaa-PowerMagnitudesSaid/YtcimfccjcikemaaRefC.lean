/-
  The contracts of the reference's naturals, third part: sums and differences. Conditions: those that each theorem names.
-/
import Derived.Test.YtcimfccjcikemaaRefB
namespace Go.Proofs.Ytcimfccjcikemaa
open Go.RowKit Nm
set_option maxRecDepth 100000
set_option linter.unusedVariables false
set_option linter.unusedSimpArgs false

set_option maxHeartbeats 1000000 in
theorem plus_any (A : Option Addr) (n c : Nat) (xs : List Nat) (B : Option Addr) (m d : Nat) (ys : List Nat) (w : World) (h : Wds w A n c xs) (hn : n ≤ 17592186044416) (k : Wds w B m d ys) (hm : m ≤ 17592186044416) :
    Calls Try.prog 160 #[.slice A n c, .slice B m d] w (RetW (nv xs + nv ys) w) := by
  have hlx := h.len
  have hly := k.len
  obtain ⟨i0, hi0, hz0, hz1, hz2⟩ := info_parts info_u32
  go_enter Try.func160, Try.ntmps160
  go_wp2
  go_loopw [5, 6, 7] (fun v cv i wr => ∃ (j cr : Nat) (acc : List Nat), j ≤ max n m ∧ i = .int .i64 j ∧ cv = .int .u64 (cr : Int) ∧ cr ≤ 1 ∧ Ws acc ∧ Hid (acc.length = j) ∧ Hid (nv acc + 4294967296 ^ j * cr = nv (xs.take j) + nv (ys.take j)) ∧ wr.ownsRow w.heap.size 107 1 v j (u32s acc) ∧ Ext w wr) (fun _ _ i _ => max n m - (intOf i).toNat)
  case atStart => exact ⟨0, 0, [], by omega, rfl, rfl, by omega, Ws.nil, Lib.hid rfl, Lib.hid (by simp [nv]), World.ownsRow_nil _ _ _ _, Ext.refl _⟩
  case round =>
    obtain ⟨j, cr, acc, hj, rfl, rfl, hcr, hacc, hal, hsum, hown, hb⟩ := hrel
    have hX : j < n → ∃ ad, ∃ X : Nat, A = some ad ∧ X < 4294967296 ∧ Hid (X = xs.getD j 0) ∧ wr.cell? (ad.add j) = some (.int .u32 (X : Int)) := fun hl => by
      obtain ⟨ad, hx, e, _, hc⟩ := (h.ext hb).at_ hl
      exact ⟨ad, xs[j], e, h.ws.get hx, Lib.hid (by simp [List.getD, hx]), hc⟩
    have hY : j < m → ∃ ad, ∃ Y : Nat, B = some ad ∧ Y < 4294967296 ∧ Hid (Y = ys.getD j 0) ∧ wr.cell? (ad.add j) = some (.int .u32 (Y : Int)) := fun hl => by
      obtain ⟨ad, hx, e, _, hc⟩ := (k.ext hb).at_ hl
      exact ⟨ad, ys[j], e, k.ws.get hx, Lib.hid (by simp [List.getD, hx]), hc⟩
    have hnX : n ≤ j → Hid (0 = xs.getD j 0) := fun hl => Lib.hid (by simp [List.getD, show ¬ j < xs.length by omega])
    have hnY : m ≤ j → Hid (0 = ys.getD j 0) := fun hl => Lib.hid (by simp [List.getD, show ¬ j < ys.length by omega])
    by_cases h1 : j < n
    · obtain ⟨ad, X, rfl, hX32, hXe, hcX⟩ := hX h1
      clear hX hnX
      by_cases h2 : j < m
      · obtain ⟨bd, Y, rfl, hY32, hYe, hcY⟩ := hY h2
        clear hY hnY
        obtain ⟨lo, hlo⟩ : ∃ lo, lo = (cr + X + Y) % 4294967296 := ⟨_, rfl⟩
        have hand := and_mask (cr + X + Y) lo (by omega) hlo
        have HL := Lib.hid hlo
        have hlo32 : lo < 4294967296 := by omega
        clear hlo
        push_cast at hand
        go_wp2_with (at_builtin; refine wpList_append_own _ rfl (.tmp 42) (.tmp 46) _ rfl w.heap.size 107 i0 (.int .u32 0) 1 4 Try.underlying48 hi0 hz0 hz1 hz2 rfl (by decide) _ _ _ rfl (hown.alloc _) ⟨wr.heap.size, 0, none⟩ 1 1 [.int .u32 (lo : Int)] rfl rfl (cell_one_new _ _ _) (by simp [Value.oneCell']) (by simp only [maxLen]; omega) (by omega) (by have := hb.size; simp; omega) ?_; intro v' w1 hown' hgrow _)
        go_roundw
        case rel => exact ⟨j + 1, (cr + X + Y) / 4294967296, acc ++ [lo], by omega, by go_num, val_int (by omega), by omega, hacc.append (Ws.cons hlo32 Ws.nil), Lib.hid (by simp [hal.out]), Lib.hid (sum_step hal.out hXe.out hYe.out hsum.out HL.out), by rw [← u32s_snoc]; exact hown', (hb.alloc _).grown hgrow fun q hq => (hown.lt q hq).1⟩
        case measure => simp [intOf]; omega
      · have hYe := hnY (by omega)
        clear hY hnY
        obtain ⟨lo, hlo⟩ : ∃ lo, lo = (cr + X + 0) % 4294967296 := ⟨_, rfl⟩
        have hand := and_mask (cr + X) lo (by omega) hlo
        have HL := Lib.hid hlo
        have hlo32 : lo < 4294967296 := by omega
        clear hlo
        push_cast at hand
        go_wp2_with (at_builtin; refine wpList_append_own _ rfl (.tmp 42) (.tmp 46) _ rfl w.heap.size 107 i0 (.int .u32 0) 1 4 Try.underlying48 hi0 hz0 hz1 hz2 rfl (by decide) _ _ _ rfl (hown.alloc _) ⟨wr.heap.size, 0, none⟩ 1 1 [.int .u32 (lo : Int)] rfl rfl (cell_one_new _ _ _) (by simp [Value.oneCell']) (by simp only [maxLen]; omega) (by omega) (by have := hb.size; simp; omega) ?_; intro v' w1 hown' hgrow _)
        go_roundw
        case rel => exact ⟨j + 1, (cr + X + 0) / 4294967296, acc ++ [lo], by omega, by go_num, val_int (by omega), by omega, hacc.append (Ws.cons hlo32 Ws.nil), Lib.hid (by simp [hal.out]), Lib.hid (sum_step hal.out hXe.out hYe.out hsum.out HL.out), by rw [← u32s_snoc]; exact hown', (hb.alloc _).grown hgrow fun q hq => (hown.lt q hq).1⟩
        case measure => simp [intOf]; omega
    · have hXe := hnX (by omega)
      clear hX hnX
      by_cases h2 : j < m
      · obtain ⟨bd, Y, rfl, hY32, hYe, hcY⟩ := hY h2
        clear hY hnY
        obtain ⟨lo, hlo⟩ : ∃ lo, lo = (cr + 0 + Y) % 4294967296 := ⟨_, rfl⟩
        have hand := and_mask (cr + Y) lo (by omega) (by omega)
        have HL := Lib.hid hlo
        have hlo32 : lo < 4294967296 := by omega
        clear hlo
        push_cast at hand
        go_wp2_with (at_builtin; refine wpList_append_own _ rfl (.tmp 42) (.tmp 46) _ rfl w.heap.size 107 i0 (.int .u32 0) 1 4 Try.underlying48 hi0 hz0 hz1 hz2 rfl (by decide) _ _ _ rfl (hown.alloc _) ⟨wr.heap.size, 0, none⟩ 1 1 [.int .u32 (lo : Int)] rfl rfl (cell_one_new _ _ _) (by simp [Value.oneCell']) (by simp only [maxLen]; omega) (by omega) (by have := hb.size; simp; omega) ?_; intro v' w1 hown' hgrow _)
        go_roundw
        case rel => exact ⟨j + 1, (cr + 0 + Y) / 4294967296, acc ++ [lo], by omega, by go_num, val_int (by omega), by omega, hacc.append (Ws.cons hlo32 Ws.nil), Lib.hid (by simp [hal.out]), Lib.hid (sum_step hal.out hXe.out hYe.out hsum.out HL.out), by rw [← u32s_snoc]; exact hown', (hb.alloc _).grown hgrow fun q hq => (hown.lt q hq).1⟩
        case measure => simp [intOf]; omega
      · have hfin := hsum.out
        rw [List.take_of_length_le (by omega), List.take_of_length_le (by omega)] at hfin
        have HF := Lib.hid (hfin)
        clear hfin hY hnY
        have hcr32 : cr < 4294967296 := by omega
        go_wp2_with (at_builtin; refine wpList_append_own _ rfl (.tmp 50) (.tmp 53) _ rfl w.heap.size 107 i0 (.int .u32 0) 1 4 Try.underlying48 hi0 hz0 hz1 hz2 rfl (by decide) _ _ _ rfl (hown.alloc _) ⟨wr.heap.size, 0, none⟩ 1 1 [.int .u32 (cr : Int)] rfl rfl (cell_one_new _ _ _) (by simp [Value.oneCell']) (by simp only [maxLen]; omega) (by omega) (by have := hb.size; simp; omega) ?_; intro v' w1 hown' hgrow _)
        rw [u32s_snoc] at hown'
        have hE1 : Ext w w1 := (hb.alloc _).grown hgrow fun q hq => (hown.lt q hq).1
        obtain ⟨A', c', rfl, hW⟩ := Wds.of_own hown' (hacc.append (Ws.cons hcr32 Ws.nil))
        go_wp2_with (go_at_call 85; refine (norm_any _ _ _ _ _ hW (by omega)).mono ?_; rintro e w2 ⟨A2, n2, c2, rfl, hR, hE2⟩)
        go_ret
        exact ⟨A2, n2, c2, rfl, by
          have e : nv (acc ++ [cr]) = nv xs + nv ys := by
            rw [nv_append, hal.out]; simp only [nv, Nat.mul_zero, Nat.add_zero]; exact HF.out
          rw [← e]; exact hR, hE1.trans hE2⟩

set_option maxHeartbeats 1000000 in
theorem minus_any (A : Option Addr) (n c : Nat) (xs : List Nat) (B : Option Addr) (m d : Nat) (ys : List Nat) (w : World) (h : Wds w A n c xs) (hn : n ≤ 17592186044416) (k : Wds w B m d ys) (hm : m ≤ 17592186044416) (hle : nv ys ≤ nv xs) :
    Calls Try.prog 168 #[.slice A n c, .slice B m d] w (RetW (nv xs - nv ys) w) := by
  have hlx := h.len
  have hly := k.len
  have HLE := Lib.hid hle
  clear hle
  go_enter Try.func168, Try.ntmps168
  go_wp2
  go_loopw [5, 6, 7] (fun v cv i wr => ∃ (j br : Nat) (acc : List Nat), j ≤ n ∧ i = .int .i64 j ∧ cv = .int .u64 (br : Int) ∧ br ≤ 1 ∧ Ws acc ∧ Hid (acc.length = j) ∧ Hid (nv acc + nv (ys.take j) = nv (xs.take j) + 4294967296 ^ j * br) ∧ wr.ownsRow w.heap.size 107 1 v j (u32s acc) ∧ Ext w wr) (fun _ _ i _ => n - (intOf i).toNat)
  case atStart => exact ⟨0, 0, [], by omega, rfl, rfl, by omega, Ws.nil, Lib.hid rfl, Lib.hid (by simp [nv]), World.ownsRow_nil _ _ _ _, Ext.refl _⟩
  case round =>
    obtain ⟨j, br, acc, hj, rfl, rfl, hbr, hacc, hal, hsum, hown, hb⟩ := hrel
    by_cases h1 : j < n
    · obtain ⟨ad, hx, rfl, _, hcX⟩ := (h.ext hb).at_ h1
      have hX32 := h.ws.get hx
      have hXe := Lib.hid (getD_of hx)
      generalize xs[j] = X at *
      have hY : (j < m ∧ ∃ bd, ∃ Y : Nat, B = some bd ∧ Y < 4294967296 ∧ Hid (Y = ys.getD j 0) ∧ wr.cell? (bd.add j) = some (.int .u32 (Y : Int))) ∨ (m ≤ j ∧ ∃ Y : Nat, Y ≤ 0 ∧ Hid (Y = ys.getD j 0)) := by
        by_cases hl : j < m
        · obtain ⟨bd, hy, e, _, hc⟩ := (k.ext hb).at_ hl
          exact .inl ⟨hl, bd, ys[j], e, k.ws.get hy, Lib.hid (getD_of hy), hc⟩
        · exact .inr ⟨by omega, 0, by omega, Lib.hid (getD_out (by omega))⟩
      rcases hY with ⟨hjm, bd, Y, rfl, hY32, hYe, hcY⟩ | ⟨hjm, Y, hY0, hYe⟩
      all_goals
        by_cases hlt : X < br + Y
        · go_wp2_with (at_builtin; refine wp_app32 rfl (.tmp 38) (.tmp 43) rfl (X + 4294967296 - (br + Y)) rfl hown hb rfl (by omega) (by omega) ?_; intro v' w1 hown' hE')
          go_roundw
          case rel => exact ⟨j + 1, 1, acc ++ [X + 4294967296 - (br + Y)], by omega, by go_num, rfl, by omega, hacc.append (Ws.cons (by omega) Ws.nil), Lib.hid (by simp [hal.out]), Lib.hid (diff_step hal.out hXe.out hYe.out hsum.out (by omega)), hown', hE'⟩
          case measure => simp [intOf]; omega
        · go_wp2_with (at_builtin; refine wp_app32 rfl (.tmp 38) (.tmp 43) rfl (X - (br + Y)) rfl hown hb rfl (by omega) (by omega) ?_; intro v' w1 hown' hE')
          go_roundw
          case rel => exact ⟨j + 1, 0, acc ++ [X - (br + Y)], by omega, by go_num, rfl, by omega, hacc.append (Ws.cons (by omega) Ws.nil), Lib.hid (by simp [hal.out]), Lib.hid (diff_step hal.out hXe.out hYe.out hsum.out (by omega)), hown', hE'⟩
          case measure => simp [intOf]; omega
    · have HF := Lib.hid (diff_end h.ws hacc (hal.out.trans (by omega)) hlx HLE.out (by rw [show n = j by omega]; exact hsum.out))
      obtain ⟨A', c', rfl, hW⟩ := Wds.of_own hown hacc
      go_wp2_with (go_at_call 85; refine (norm_any _ _ _ _ _ hW (by omega)).mono ?_; rintro e w2 ⟨A2, n2, c2, rfl, hR, hE2⟩)
      go_ret
      exact ⟨A2, n2, c2, rfl, by rw [← HF.out]; exact hR, hb.trans hE2⟩
end Go.Proofs.Ytcimfccjcikemaa
