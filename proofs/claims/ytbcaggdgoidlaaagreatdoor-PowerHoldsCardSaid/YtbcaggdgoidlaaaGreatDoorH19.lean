/-
 The contracts of the reference's naturals, third part: sums and differences. Conditions: those that each theorem names.
-/
import Derived.Test.YtbcaggdgoidlaaaGreatDoorH07
import Derived.Test.YtbcaggdgoidlaaaGreatDoorH12
import Derived.Test.YtbcaggdgoidlaaaGreatDoorH10
namespace Go.Proofs.YtbcaggdgoidlaaaGreatDoor
open Go.RowKit Nm
set_option maxRecDepth 100000
set_option linter.unusedVariables false
set_option linter.unusedSimpArgs false
set_option maxHeartbeats 1000000 in
theorem plus_any (A : Option Addr) (n c : Nat) (xs : List Nat) (B : Option Addr) (m d : Nat) (ys : List Nat) (w : World) (h : Wds w A n c xs) (hn : n ≤ 17592186044416) (k : Wds w B m d ys) (hm : m ≤ 17592186044416) :
   Calls Tryz.prog 79 #[.slice A n c, .slice B m d] w (RetW (nv xs + nv ys) w) := by
 have hlx := h.len
 have hly := k.len
 obtain ⟨i0, hi0, hz0, hz1, hz2⟩ := info_parts info_u32
 go_enter Tryz.func79, Tryz.ntmps79
 go_wp2
 go_loopw [5, 6, 7] (fun v cv i wr => ∃ (j cr : Nat) (acc : List Nat), j ≤ max n m ∧ i = .int .i64 j ∧ cv = .int .u64 (cr : Int) ∧ cr ≤ 1 ∧ Ws acc ∧ Hid (acc.length = j) ∧ Hid (nv acc + 4294967296 ^ j * cr = nv (xs.take j) + nv (ys.take j)) ∧ wr.ownsRow w.heap.size 61 1 v j (u32s acc) ∧ Ext w wr) (fun _ _ i _ => max n m - (intOf i).toNat)
 case atStart => exact ⟨0, 0, [], by omega, rfl, rfl, by omega, Ws.nil, Lib.hid rfl, Lib.hid (by simp [nv]), World.ownsRow_nil _ _ _ _, Ext.refl _⟩
 case round =>
   obtain ⟨j, cr, acc, hj, rfl, rfl, hcr, hacc, hal, hsum, hown, hb⟩ := hrel
   have hX : j < n → ∃ ad, ∃ X : Nat, A = some ad ∧ X < 4294967296 ∧ Hid (X = xs.getD j 0) ∧ wr.cell? (ad.add j) = some (.int .u32 (X : Int)) := fun hl => by
     obtain ⟨ad, hx, e, _, hc⟩ := (h.ext hb).at_ hl
     exact ⟨ad, xs[j], e, h.ws.get hx, Lib.hid (by simp [List.getD, hx]), hc⟩
   have hY : j < m → ∃ ad, ∃ Y : Nat, B = some ad ∧ Y < 4294967296 ∧ Hid (Y = ys.getD j 0) ∧ wr.cell? (ad.add j) = some (.int .u32 (Y : Int)) := fun hl => by
     obtain ⟨ad, hx, e, _, hc⟩ := (k.ext hb).at_ hl
     exact ⟨ad, ys[j], e, k.ws.get hx, Lib.hid (by simp [List.getD, hx]), hc⟩
   have hnX : n ≤ j → Hid (0 = xs.getD j 0) := fun hl => Lib.hid (by simp [List.getD, show ¬ j < xs.length by omega])
   have hnY : m ≤ j → Hid (0 = ys.getD j 0) := fun hl => Lib.hid (by simp [List.getD, show ¬ j < ys.length by omega])
   by_cases h1 : j < n
   · obtain ⟨ad, X, rfl, hX32, hXe, hcX⟩ := hX h1
     clear hX hnX
     by_cases h2 : j < m
     · obtain ⟨bd, Y, rfl, hY32, hYe, hcY⟩ := hY h2
       clear hY hnY
       obtain ⟨lo, hlo⟩ : ∃ lo, lo = (cr + X + Y) % 4294967296 := ⟨_, rfl⟩
       have hand := and_mask (cr + X + Y) lo (by omega) hlo
       have HL := Lib.hid hlo
       have hlo32 : lo < 4294967296 := by omega
       clear hlo
       push_cast at hand
       go_wp2_with (at_builtin; refine wpList_append_own _ rfl (.tmp 42) (.tmp 46) _ rfl w.heap.size 61 i0 (.int .u32 0) 1 4 Tryz.underlying35 hi0 hz0 hz1 hz2 rfl (by decide) _ _ _ rfl (hown.alloc _) ⟨wr.heap.size, 0, none⟩ 1 1 [.int .u32 (lo : Int)] rfl rfl (cell_one_new _ _ _) (by simp [Value.oneCell']) (by simp only [maxLen]; omega) (by omega) (by have := hb.size; simp; omega) ?_; intro v' w1 hown' hgrow _)
       go_roundw
       case rel => exact ⟨j + 1, (cr + X + Y) / 4294967296, acc ++ [lo], by omega, by go_num, val_int (by omega), by omega, hacc.append (Ws.cons hlo32 Ws.nil), Lib.hid (by simp [hal.out]), Lib.hid (sum_step hal.out hXe.out hYe.out hsum.out HL.out), by rw [← u32s_snoc]; exact hown', (hb.alloc _).grown hgrow fun q hq => (hown.lt q hq).1⟩
       case measure => simp [intOf]; omega
     · have hYe := hnY (by omega)
       clear hY hnY
       obtain ⟨lo, hlo⟩ : ∃ lo, lo = (cr + X + 0) % 4294967296 := ⟨_, rfl⟩
       have hand := and_mask (cr + X) lo (by omega) hlo
       have HL := Lib.hid hlo
       have hlo32 : lo < 4294967296 := by omega
       clear hlo
       push_cast at hand
       go_wp2_with (at_builtin; refine wpList_append_own _ rfl (.tmp 42) (.tmp 46) _ rfl w.heap.size 61 i0 (.int .u32 0) 1 4 Tryz.underlying35 hi0 hz0 hz1 hz2 rfl (by decide) _ _ _ rfl (hown.alloc _) ⟨wr.heap.size, 0, none⟩ 1 1 [.int .u32 (lo : Int)] rfl rfl (cell_one_new _ _ _) (by simp [Value.oneCell']) (by simp only [maxLen]; omega) (by omega) (by have := hb.size; simp; omega) ?_; intro v' w1 hown' hgrow _)
       go_roundw
       case rel => exact ⟨j + 1, (cr + X + 0) / 4294967296, acc ++ [lo], by omega, by go_num, val_int (by omega), by omega, hacc.append (Ws.cons hlo32 Ws.nil), Lib.hid (by simp [hal.out]), Lib.hid (sum_step hal.out hXe.out hYe.out hsum.out HL.out), by rw [← u32s_snoc]; exact hown', (hb.alloc _).grown hgrow fun q hq => (hown.lt q hq).1⟩
       case measure => simp [intOf]; omega
   · have hXe := hnX (by omega)
     clear hX hnX
     by_cases h2 : j < m
     · obtain ⟨bd, Y, rfl, hY32, hYe, hcY⟩ := hY h2
       clear hY hnY
       obtain ⟨lo, hlo⟩ : ∃ lo, lo = (cr + 0 + Y) % 4294967296 := ⟨_, rfl⟩
       have hand := and_mask (cr + Y) lo (by omega) (by omega)
       have HL := Lib.hid hlo
       have hlo32 : lo < 4294967296 := by omega
       clear hlo
       push_cast at hand
       go_wp2_with (at_builtin; refine wpList_append_own _ rfl (.tmp 42) (.tmp 46) _ rfl w.heap.size 61 i0 (.int .u32 0) 1 4 Tryz.underlying35 hi0 hz0 hz1 hz2 rfl (by decide) _ _ _ rfl (hown.alloc _) ⟨wr.heap.size, 0, none⟩ 1 1 [.int .u32 (lo : Int)] rfl rfl (cell_one_new _ _ _) (by simp [Value.oneCell']) (by simp only [maxLen]; omega) (by omega) (by have := hb.size; simp; omega) ?_; intro v' w1 hown' hgrow _)
       go_roundw
       case rel => exact ⟨j + 1, (cr + 0 + Y) / 4294967296, acc ++ [lo], by omega, by go_num, val_int (by omega), by omega, hacc.append (Ws.cons hlo32 Ws.nil), Lib.hid (by simp [hal.out]), Lib.hid (sum_step hal.out hXe.out hYe.out hsum.out HL.out), by rw [← u32s_snoc]; exact hown', (hb.alloc _).grown hgrow fun q hq => (hown.lt q hq).1⟩
       case measure => simp [intOf]; omega
     · have hfin := hsum.out
       rw [List.take_of_length_le (by omega), List.take_of_length_le (by omega)] at hfin
       have HF := Lib.hid (hfin)
       clear hfin hY hnY
       have hcr32 : cr < 4294967296 := by omega
       go_wp2_with (at_builtin; refine wpList_append_own _ rfl (.tmp 50) (.tmp 53) _ rfl w.heap.size 61 i0 (.int .u32 0) 1 4 Tryz.underlying35 hi0 hz0 hz1 hz2 rfl (by decide) _ _ _ rfl (hown.alloc _) ⟨wr.heap.size, 0, none⟩ 1 1 [.int .u32 (cr : Int)] rfl rfl (cell_one_new _ _ _) (by simp [Value.oneCell']) (by simp only [maxLen]; omega) (by omega) (by have := hb.size; simp; omega) ?_; intro v' w1 hown' hgrow _)
       rw [u32s_snoc] at hown'
       have hE1 : Ext w w1 := (hb.alloc _).grown hgrow fun q hq => (hown.lt q hq).1
       obtain ⟨A', c', rfl, hW⟩ := Wds.of_own hown' (hacc.append (Ws.cons hcr32 Ws.nil))
       go_wp2_with (go_at_call 42; refine (norm_any _ _ _ _ _ hW (by omega)).mono ?_; rintro e w2 ⟨A2, n2, c2, rfl, hR, hE2⟩)
       go_ret
       exact ⟨A2, n2, c2, rfl, by
         have e : nv (acc ++ [cr]) = nv xs + nv ys := by
           rw [nv_append, hal.out]; simp only [nv, Nat.mul_zero, Nat.add_zero]; exact HF.out
         rw [← e]; exact hR, hE1.trans hE2⟩
set_option maxHeartbeats 1000000 in
theorem minus_any (A : Option Addr) (n c : Nat) (xs : List Nat) (B : Option Addr) (m d : Nat) (ys : List Nat) (w : World) (h : Wds w A n c xs) (hn : n ≤ 17592186044416) (k : Wds w B m d ys) (hm : m ≤ 17592186044416) (hle : nv ys ≤ nv xs) :
   Calls Tryz.prog 80 #[.slice A n c, .slice B m d] w (RetW (nv xs - nv ys) w) := by
 have hlx := h.len
 have hly := k.len
 have HLE := Lib.hid hle
 clear hle
 go_enter Tryz.func80, Tryz.ntmps80
 go_wp2
 go_loopw [5, 6, 7] (fun v cv i wr => ∃ (j br : Nat) (acc : List Nat), j ≤ n ∧ i = .int .i64 j ∧ cv = .int .u64 (br : Int) ∧ br ≤ 1 ∧ Ws acc ∧ Hid (acc.length = j) ∧ Hid (nv acc + nv (ys.take j) = nv (xs.take j) + 4294967296 ^ j * br) ∧ wr.ownsRow w.heap.size 61 1 v j (u32s acc) ∧ Ext w wr) (fun _ _ i _ => n - (intOf i).toNat)
 case atStart => exact ⟨0, 0, [], by omega, rfl, rfl, by omega, Ws.nil, Lib.hid rfl, Lib.hid (by simp [nv]), World.ownsRow_nil _ _ _ _, Ext.refl _⟩
 case round =>
   obtain ⟨j, br, acc, hj, rfl, rfl, hbr, hacc, hal, hsum, hown, hb⟩ := hrel
   by_cases h1 : j < n
   · obtain ⟨ad, hx, rfl, _, hcX⟩ := (h.ext hb).at_ h1
     have hX32 := h.ws.get hx
     have hXe := Lib.hid (getD_of hx)
     generalize xs[j] = X at *
     have hY : (j < m ∧ ∃ bd, ∃ Y : Nat, B = some bd ∧ Y < 4294967296 ∧ Hid (Y = ys.getD j 0) ∧ wr.cell? (bd.add j) = some (.int .u32 (Y : Int))) ∨ (m ≤ j ∧ ∃ Y : Nat, Y ≤ 0 ∧ Hid (Y = ys.getD j 0)) := by
       by_cases hl : j < m
       · obtain ⟨bd, hy, e, _, hc⟩ := (k.ext hb).at_ hl
         exact .inl ⟨hl, bd, ys[j], e, k.ws.get hy, Lib.hid (getD_of hy), hc⟩
       · exact .inr ⟨by omega, 0, by omega, Lib.hid (getD_out (by omega))⟩
     rcases hY with ⟨hjm, bd, Y, rfl, hY32, hYe, hcY⟩ | ⟨hjm, Y, hY0, hYe⟩
     all_goals
       by_cases hlt : X < br + Y
       · go_wp2_with (at_builtin; refine wp_app32 rfl (.tmp 38) (.tmp 43) rfl (X + 4294967296 - (br + Y)) rfl hown hb rfl (by omega) (by omega) ?_; intro v' w1 hown' hE')
         go_roundw
         case rel => exact ⟨j + 1, 1, acc ++ [X + 4294967296 - (br + Y)], by omega, by go_num, rfl, by omega, hacc.append (Ws.cons (by omega) Ws.nil), Lib.hid (by simp [hal.out]), Lib.hid (diff_step hal.out hXe.out hYe.out hsum.out (by omega)), hown', hE'⟩
         case measure => simp [intOf]; omega
       · go_wp2_with (at_builtin; refine wp_app32 rfl (.tmp 38) (.tmp 43) rfl (X - (br + Y)) rfl hown hb rfl (by omega) (by omega) ?_; intro v' w1 hown' hE')
         go_roundw
         case rel => exact ⟨j + 1, 0, acc ++ [X - (br + Y)], by omega, by go_num, rfl, by omega, hacc.append (Ws.cons (by omega) Ws.nil), Lib.hid (by simp [hal.out]), Lib.hid (diff_step hal.out hXe.out hYe.out hsum.out (by omega)), hown', hE'⟩
         case measure => simp [intOf]; omega
   · have HF := Lib.hid (diff_end h.ws hacc (hal.out.trans (by omega)) hlx HLE.out (by rw [show n = j by omega]; exact hsum.out))
     obtain ⟨A', c', rfl, hW⟩ := Wds.of_own hown hacc
     go_wp2_with (go_at_call 42; refine (norm_any _ _ _ _ _ hW (by omega)).mono ?_; rintro e w2 ⟨A2, n2, c2, rfl, hR, hE2⟩)
     go_ret
     exact ⟨A2, n2, c2, rfl, by rw [← HF.out]; exact hR, hb.trans hE2⟩
end Go.Proofs.YtbcaggdgoidlaaaGreatDoor

namespace Go.Proofs.YtbcaggdgoidlaaaGreatDoor
open Go.RowKit Nm
set_option maxRecDepth 100000
set_option linter.unusedVariables false
set_option linter.unusedSimpArgs false
set_option maxHeartbeats 1000000 in
theorem guess_any (A : Option Addr) (m c : Nat) (xs : List Nat) (B : Option Addr) (n d : Nat) (ys : List Nat) (w : World) (h : Wds w A m c xs) (k : Wds w B n d ys) (k0 : Nat) (hn : n ≤ 17592186044416) (hnk : k0 + 1 = n) (hm : n + 1 = m)
   (hle : nv ys ≤ nv xs) :
   Calls Tryz.prog 109 #[.slice A m c, .slice B n d] w fun e w' => ∃ g : Nat, e = .returned (.int .u64 (g : Int)) ∧ 1 ≤ g ∧ g * nv ys ≤ nv xs ∧ ∃ q, w' = w.drewN q := by
 have hlx := h.len
 have hly := k.len
 obtain ⟨ad, hx1, rfl, _, hc1⟩ := h.at_ (k := n) (by omega)
 obtain ⟨ad', hx0, hae, _, hc0⟩ := h.at_ (k := k0) (by omega)
 injection hae with hae
 subst hae
 obtain ⟨bd, hy0, rfl, _, hcb⟩ := k.at_ (k := k0) (by omega)
 have hr1 := h.ws.get hx1
 have hr0 := h.ws.get hx0
 have hb0 := k.ws.get hy0
 have l1 : xs.length = k0 + 2 := by omega
 have l2 : ys.length = k0 + 1 := by omega
 obtain ⟨r1, hr1e⟩ : ∃ r1, xs[n] = r1 := ⟨_, rfl⟩
 obtain ⟨r0, hr0e⟩ : ∃ r0, xs[k0] = r0 := ⟨_, rfl⟩
 obtain ⟨b0, hb0e⟩ : ∃ b0, ys[k0] = b0 := ⟨_, rfl⟩
 rw [hr1e] at hc1 hr1
 rw [hr0e] at hc0 hr0
 rw [hb0e] at hcb hb0
 have HG2 : Hid ((r1 * 4294967296 + r0) / (b0 + 1) * nv ys ≤ nv xs) := Lib.hid (guess_le h.ws k.ws l1 l2 (by simp only [hnk]; rw [hr1e, hr0e]) hb0e.symm)
 clear l1 l2 hr1e hr0e hb0e
 have HLE := Lib.hid hle
 clear hle
 obtain ⟨T, hT⟩ : ∃ T, T = r1 * 4294967296 + r0 := ⟨_, rfl⟩
 rw [← hT] at HG2
 have g1 : IntKind.i64.wrap ((n : Int) - 1) = (k0 : Int) := by rw [IntWalk.i64_in _ (by omega)]; omega
 obtain ⟨X, hX⟩ : ∃ X, X = T / (b0 + 1) := ⟨_, rfl⟩
 have hXT : X ≤ T := by rw [hX]; exact Nat.div_le_self _ _
 have g3 : IntKind.u64.wrap ((bits .or .u64 ((r1 : Int) * 4294967296) (r0 : Int)).tdiv ((b0 : Int) + 1)) = (X : Int) := by
   have e : (r1 : Int) * 4294967296 = ((r1 * 4294967296 : Nat) : Int) := by omega
   have e2 : (b0 : Int) + 1 = ((b0 + 1 : Nat) : Int) := by omega
   rw [e, e2, u64_or_nat _ _ (by omega) (by omega), nat_join 32 _ _ (by omega) (by omega), ← hT, ← Int.ofNat_tdiv, IntKind.wrap_u64, ← hX]
   omega
 rw [← hX] at HG2
 clear hX
 have g6 : (0 : Int) ≤ (k0 : Int) := by omega
 have g7 : (k0 : Int) < (n : Int) := by omega
 have g8 : (k0 : Int) < (m : Int) := by omega
 have g9 : (n : Int) < (m : Int) := by omega
 have g10 : (0 : Int) ≤ (n : Int) := by omega
 clear hT hnk hm
 go_enter Tryz.func109, Tryz.ntmps109
 go_wp2
 go_quiet (fail)
 by_cases hz : X = 0
 · have hz0 : X ≤ 0 := by omega
   clear hz
   go_wp2
   go_ret
   exact ⟨1, rfl, Nat.le_refl _, by rw [Nat.one_mul]; exact HLE.out, nq, rfl⟩
 · have hX1 : 1 ≤ X := by omega
   clear hz
   go_wp2
   go_ret
   exact ⟨X, rfl, hX1, HG2.out, nq, rfl⟩
theorem only_setCell {a w : World} {g : Nat} (h : a.grownBy w (some g)) {p : Addr} (hp : p.block = g) (u : Value) : a.grownBy (w.setCell p u) (some g) :=
 ⟨h.os, h.tape, h.output, by simpa [World.setCell] using h.size, fun i hi hne => (Below.heap_setCell w p u i (by
   rintro rfl
   exact hne (by rw [hp]))).trans (h.block i hi hne)⟩
set_option maxHeartbeats 1000000 in
theorem sub_any (g m c : Nat) (L0 : List Nat) (B : Option Addr) (n d : Nat) (ys : List Nat) (x : Nat) (wv w : World) (h : Row w g L0) (hL0 : Ws L0) (hlen : L0.length = m) (hm : m ≤ 17592186044416) (k : Wds wv B n d ys) (hE : Ext wv w) (hg : wv.heap.size ≤ g) (hnm : n ≤ m)
   (hx : x < 4294967296) (hle : x * nv ys ≤ nv L0) :
   Calls Tryz.prog 110 #[.slice (some ⟨g, 0, none⟩) m c, .slice B n d, .int .u64 (x : Int)] w fun e w' => e = .returned (.tuple #[]) ∧ (∃ L, Row w' g L ∧ Ws L ∧ L.length = m ∧ nv L = nv L0 - x * nv ys) ∧ w.grownBy w' (some g) := by
 have hly := k.len
 have HLE := Lib.hid hle
 clear hle
 go_enter Tryz.func110, Tryz.ntmps110
 go_wp2
 go_loopw [6, 7, 8] (fun cv bv iv wr => ∃ (i cr br : Nat) (L : List Nat), i ≤ m ∧ iv = .int .i64 i ∧ cv = .int .u64 (cr : Int) ∧ cr < 4294967296 ∧ bv = .int .u64 (br : Int) ∧ br ≤ 1 ∧ Row wr g L ∧ Ws L ∧ Hid (L.length = m) ∧ Hid (nv L + x * nv (ys.take i) = nv L0 + 4294967296 ^ i * (br + cr)) ∧ w.grownBy wr (some g)) (fun _ _ iv _ => m - (intOf iv).toNat)
 case atStart => exact ⟨0, 0, 0, L0, Nat.zero_le _, rfl, rfl, by omega, rfl, by omega, h, hL0, Lib.hid hlen, Lib.hid (by simp [nv]), World.grownBy.refl w _⟩
 case round =>
   obtain ⟨i, cr, br, L, hi, rfl, rfl, hcr, rfl, hbr, hrow, hL, hLl, hval, hgr⟩ := hrel
   by_cases hlt : i < m
   · have hiL : i < L.length := by rw [hLl.out]; exact hlt
     have hc1 := hrow.cell hiL
     have hf1 := hrow.frozen i
     have ha32 := hL.get hiL
     obtain ⟨a, ha⟩ : ∃ a, L[i] = a := ⟨_, rfl⟩
     rw [ha] at hc1 ha32
     have HA := Lib.hid ha
     clear ha
     have hEr : Ext wv wr := hE.grown hgr (fun q hq => by injection hq with hq; omega)
     have hY : ∃ y : Nat, y < 4294967296 ∧ Hid (y = ys.getD i 0) ∧ ((i < n ∧ ∃ bd, B = some bd ∧ wr.cell? (bd.add i) = some (.int .u32 (y : Int))) ∨ (n ≤ i ∧ y ≤ 0)) := by
       by_cases hl : i < n
       · obtain ⟨bd, hy, e, _, hc⟩ := (k.ext hEr).at_ hl
         exact ⟨ys[i], k.ws.get hy, Lib.hid (getD_of hy), .inl ⟨hl, bd, e, hc⟩⟩
       · exact ⟨0, by omega, Lib.hid (getD_out (by omega)), .inr ⟨by omega, by omega⟩⟩
     obtain ⟨y, hy32, hyD, hyC⟩ := hY
     have hp : y * x ≤ 18446744065119617025 := Nat.le_trans (Nat.mul_le_mul (show y ≤ 4294967295 by omega) (show x ≤ 4294967295 by omega)) (by omega)
     have HS := Lib.hid (fun (lo c' new b' : Nat) h1 h2 => sub_step (lo := lo) (c' := c') (new := new) (b' := b') hiL HA.out hyD.out hval.out h1 h2)
     obtain ⟨p, hpv⟩ : ∃ p, p = y * x := ⟨_, rfl⟩
     have ep : (y : Int) * (x : Int) = (p : Int) := by rw [hpv]; exact (Int.natCast_mul y x).symm
     have hp0 : y ≤ 0 → p ≤ 0 := by
       intro h0
       have : y = 0 := by omega
       rw [hpv, this, Nat.zero_mul]; omega
     rw [← hpv] at hp HS
     clear hpv
     obtain ⟨V, hV⟩ : ∃ V, V = cr + p := ⟨_, rfl⟩
     have hV64 : V < 18446744073709551616 := by omega
     obtain ⟨lo, hlo⟩ : ∃ lo, lo = V % 4294967296 := ⟨_, rfl⟩
     have hlo32 : lo < 4294967296 := by omega
     have eL := and_mask V lo hV64 hlo
     have hc'32 : V / 4294967296 < 4294967296 := by omega
     have hdm : lo + 4294967296 * (V / 4294967296) = cr + p := by omega
     have HS2 := Lib.hid (fun (new b' : Nat) h2 => HS.out lo (V / 4294967296) new b' hdm h2)
     have HVe : (V : Int) = (cr : Int) + (p : Int) := by omega
     have eL2 := eL
     rw [HVe] at eL2
     have hc' : ((cr : Int) + (p : Int)) / 4294967296 = ((V / 4294967296 : Nat) : Int) := by omega
     have HD := Lib.hid hdm
     clear HS hV hlo hdm HVe
     obtain ⟨c', hc'e⟩ : ∃ c', c' = V / 4294967296 := ⟨_, rfl⟩
     rw [← hc'e] at hc' HS2 hc'32 HD
     clear hc'e
     rcases hyC with ⟨hl, bd, rfl, hcy⟩ | ⟨hl, hy0⟩
     · by_cases hb : a < lo + br
       · obtain ⟨N, hN⟩ : ∃ N, N = a + 4294967296 - (lo + br) := ⟨_, rfl⟩
         have eN : (a : Int) + 4294967296 - ((lo : Int) + (br : Int)) = (N : Int) := by omega
         have hN32 : N < 4294967296 := by omega
         have HN := Lib.hid (HS2.out N 1 (by omega))
         have hrow' := hrow.set_ i N
         clear hN
         go_wp2
         go_roundw
         case rel => exact ⟨i + 1, c', 1, _, by omega, by go_num, rfl, hc'32, rfl, by omega, hrow', hL.set _ hN32, Lib.hid (by simp [hLl.out]), HN, only_setCell hgr rfl _⟩
         case measure => simp [intOf]; omega
       · obtain ⟨N, hN⟩ : ∃ N, N = a - (lo + br) := ⟨_, rfl⟩
         have eN : (a : Int) - ((lo : Int) + (br : Int)) = (N : Int) := by omega
         have hN32 : N < 4294967296 := by omega
         have HN := Lib.hid (HS2.out N 0 (by omega))
         have hrow' := hrow.set_ i N
         clear hN
         go_wp2
         go_roundw
         case rel => exact ⟨i + 1, c', 0, _, by omega, by go_num, rfl, hc'32, rfl, by omega, hrow', hL.set _ hN32, Lib.hid (by simp [hLl.out]), HN, only_setCell hgr rfl _⟩
         case measure => simp [intOf]; omega
     · have hp00 := hp0 hy0
       have hlc : lo = cr := by have := HD.out; omega
       have hc0 : c' = 0 := by have := HD.out; omega
       have eC := and_mask cr cr (by omega) (by omega)
       have eD : (cr : Int) / 4294967296 = 0 := by omega
       rw [hlc, hc0] at HS2
       clear eL eL2 hc' hlc hc0 HD hp0 hp00 hp ep
       by_cases hb : a < cr + br
       · obtain ⟨N, hN⟩ : ∃ N, N = a + 4294967296 - (cr + br) := ⟨_, rfl⟩
         have eN : (a : Int) + 4294967296 - ((cr : Int) + (br : Int)) = (N : Int) := by omega
         have hN32 : N < 4294967296 := by omega
         have HN := Lib.hid (HS2.out N 1 (by omega))
         have hrow' := hrow.set_ i N
         clear hN
         go_wp2
         go_roundw
         case rel => exact ⟨i + 1, 0, 1, _, by omega, by go_num, rfl, by omega, rfl, by omega, hrow', hL.set _ hN32, Lib.hid (by simp [hLl.out]), HN, only_setCell hgr rfl _⟩
         case measure => simp [intOf]; omega
       · obtain ⟨N, hN⟩ : ∃ N, N = a - (cr + br) := ⟨_, rfl⟩
         have eN : (a : Int) - ((cr : Int) + (br : Int)) = (N : Int) := by omega
         have hN32 : N < 4294967296 := by omega
         have HN := Lib.hid (HS2.out N 0 (by omega))
         have hrow' := hrow.set_ i N
         clear hN
         go_wp2
         go_roundw
         case rel => exact ⟨i + 1, 0, 0, _, by omega, by go_num, rfl, by omega, rfl, by omega, hrow', hL.set _ hN32, Lib.hid (by simp [hLl.out]), HN, only_setCell hgr rfl _⟩
         case measure => simp [intOf]; omega
   · have hie : i = m := by omega
     have hend := Lib.hid (sub_end hL (hLl.out.trans hie.symm) (by omega) HLE.out hval.out)
     subst hie
     go_wp2
     go_end0
     exact ⟨rfl, ⟨L, hrow, hL, hLl.out, hend.out⟩, hgr⟩
def RetWW (V U : Nat) (w : World) (e : Ending) (w' : World) : Prop :=
 ∃ A n c A2 n2 c2, e = .returned (.tuple #[.slice A n c, .slice A2 n2 c2]) ∧ Wds w' A n c (nd V) ∧ Wds w' A2 n2 c2 (nd U) ∧ Ext w w'
theorem Row.grown {w w' : World} {g g' : Nat} {L : List Nat} (h : Row w g L) (hg : w.grownBy w' (some g')) (hne : g ≠ g') : Row w' g L :=
 (hg.block g h.lt (fun e => hne (by injection e))).trans h
set_option maxHeartbeats 2000000 in
theorem by_any (A : Option Addr) (n c : Nat) (xs : List Nat) (B : Option Addr) (m d : Nat) (ys : List Nat) (w : World) (h : Wds w A n c xs) (hn : n ≤ 4398046511104) (k : Wds w B m d ys) (hm : m ≤ 4398046511104) (hpos : 0 < nv ys) :
   Calls Tryz.prog 94 #[.slice A n c, .slice B m d] w (RetWW (nv xs / nv ys) (nv xs % nv ys) w) := by
 have hlx := h.len
 have hly := k.len
 have hcmp := cmp_any A n c xs B m d ys w h (by omega) k (by omega)
 by_cases hlt : nv xs < nv ys
 · rw [cmpN_lt hlt] at hcmp
   have HC := Lib.hid hcmp
   clear hcmp
   have H1 : Hid (nd (nv xs / nv ys) = []) := Lib.hid (by rw [Nat.div_eq_of_lt hlt, nd_zero])
   have H2 : Hid (nd (nv xs % nv ys) = nd (nv xs)) := Lib.hid (by rw [Nat.mod_eq_of_lt hlt])
   clear hlt
   go_enter Tryz.func94, Tryz.ntmps94
   go_wp2_with fail
   refine HC.out.mono ?_
   rintro e w1 ⟨rfl, q, rfl⟩
   go_wp2_with fail
   refine (norm_any _ _ _ _ _ (h.drewN q) (by omega)).mono ?_
   rintro e w1 ⟨A1, n1, c1, rfl, hR, hE⟩
   go_wp2
   go_ret2
   exact ⟨none, 0, 0, A1, n1, c1, rfl, by rw [H1.out]; exact Wds.nil_ (by unfold maxLen; omega), by rw [H2.out]; exact hR, ((Ext.refl w).drewN q).trans hE⟩
 · have hc0 : 0 ≤ cmpN (nv xs) (nv ys) := by unfold cmpN; rw [if_neg hlt]; split <;> omega
   obtain ⟨cv, hcv⟩ : ∃ cv, cv = cmpN (nv xs) (nv ys) := ⟨_, rfl⟩
   rw [← hcv] at hc0 hcmp
   have HC := Lib.hid hcmp
   clear hcmp hcv hlt
   have hlen := len_any B m d ys
   have hblp := bl_pos (show nv ys ≠ 0 by omega)
   have hblb : bl (nv ys) ≤ 32 * m := (bl_le_iff _ _).2 (by rw [← pow32, ← hly]; exact nv_lt k.ws)
   obtain ⟨L, hL⟩ : ∃ L, L = bl (nv ys) := ⟨_, rfl⟩
   rw [← hL] at hlen hblp hblb
   obtain ⟨s, hs⟩ : ∃ s, s = 31 - (L - 1) % 32 := ⟨_, rfl⟩
   have hs31 : s ≤ 31 := by omega
   have es : 31 - ((L : Int) - 1) % 32 = (s : Int) := by omega
   have HL := Lib.hid hlen
   have HS := Lib.hid (show (L + s) % 32 = 0 by omega)
   have HBL := Lib.hid hL
   have HP := Lib.hid hpos
   clear hlen hs hL hpos
   go_enter Tryz.func94, Tryz.ntmps94
   go_wp2_with fail
   refine HC.out.mono ?_
   rintro e w1 ⟨rfl, q, rfl⟩
   go_wp2_with fail
   refine (HL.out _ (k.drewN q) (by omega)).mono ?_
   rintro e w1 ⟨rfl, rfl⟩
   go_wp2_with fail
   refine (left_any _ _ _ _ s _ (h.drewN q) (by omega) (by omega)).mono ?_
   rintro e w1 ⟨UA, un, uc, rfl, hU, hE1⟩
   go_wp2_with fail
   refine (left_any _ _ _ _ s _ ((k.drewN q).ext hE1) (by omega) (by omega)).mono ?_
   rintro e w2 ⟨VA, vn, vc, rfl, hV, hE2⟩
   have hU2 := hU.ext hE2
   have hE : Ext w w2 := ((Ext.refl w).drewN q).trans (hE1.trans hE2)
   have hul := hU.len
   have hvl := hV.len
   have hunb : un ≤ n + 1 := by
     rw [← hul, nd_length]; exact nw_mul_pow _ _ _ (by rw [← hlx]; exact nv_lt h.ws) (by omega)
   have hvnb : vn ≤ m + 1 := by
     rw [← hvl, nd_length]; exact nw_mul_pow _ _ _ (by rw [← hly]; exact nv_lt k.ws) (by omega)
   have hVbl : Hid (bl (nv ys * 2 ^ s) = L + s) := Lib.hid (by rw [bl_mul_pow s (by have := HP.out; omega), ← HBL.out])
   have hvn1 : 1 ≤ vn := by
     rw [← hvl, nd_length]
     have h1 := nw_bl (nv ys * 2 ^ s)
     rw [hVbl.out] at h1
     omega
   obtain ⟨U, hUe⟩ : ∃ U, U = nv xs * 2 ^ s := ⟨_, rfl⟩
   obtain ⟨V, hVe⟩ : ∃ V, V = nv ys * 2 ^ s := ⟨_, rfl⟩
   rw [← hUe] at hU hU2 hul
   rw [← hVe] at hV hvl hVbl
   have HUE := Lib.hid hUe
   have HVE := Lib.hid hVe
   have hVP : Hid (V < 4294967296 ^ vn) := Lib.hid (by
     have := nv_lt hV.ws
     rw [nv_nd, hvl] at this; exact this)
   have hV0 : 0 < V := by rw [hVe]; exact Nat.mul_pos HP.out (Nat.pow_pos (by omega))
   obtain ⟨us, hus⟩ : ∃ us, us = nd U := ⟨_, rfl⟩
   obtain ⟨vs, hvs⟩ : ∃ vs, vs = nd V := ⟨_, rfl⟩
   have HUV : Hid (nv us = U) := Lib.hid (by rw [hus, nv_nd])
   have HVV : Hid (nv vs = V) := Lib.hid (by rw [hvs, nv_nd])
   rw [← hus] at hU hU2 hul
   rw [← hvs] at hV hvl
   clear hus hvs hUe hVe
   have hmk1 := run_make32 un (by omega)
   have hmk2 := run_make32 (vn + 1) (by omega)
   push_cast at hmk2
   go_wp2
   clear hmk1 hmk2
   have hr1 := (Row.new w2 (List.replicate un 0)).alloc (.cells (u32s (List.replicate (vn + 1) 0)).toArray 61)
   have hr2 := Row.new (w2.alloc (.cells (u32s (List.replicate un 0)).toArray 61)) (List.replicate (vn + 1) 0)
   have hsz : (w2.alloc (.cells (u32s (List.replicate un 0)).toArray 61)).heap.size = w2.heap.size + 1 := by simp
   rw [hsz] at hr2
   clear hsz
   obtain ⟨G, hG⟩ : ∃ G, G = w2.heap.size := ⟨_, rfl⟩
   rw [← hG] at hr1 hr2
   have hGle : w2.heap.size ≤ G := by omega
   rw [← hG]
   have hE2' : Ext w2 ((w2.alloc (.cells (u32s (List.replicate un 0)).toArray 61)).alloc (.cells (u32s (List.replicate (vn + 1) 0)).toArray 61)) := ((Ext.refl w2).alloc _).alloc _
   clear hG
   go_loopw [11] (fun iv wr => ∃ (i : Nat) (Qs Rs : List Nat), i ≤ un ∧ iv = .int .i64 ((i : Int) - 1) ∧ Row wr G Qs ∧ Row wr (G + 1) Rs ∧ Ws Qs ∧ Ws Rs ∧ Hid (Qs.length = un) ∧ Hid (Rs.length = vn + 1) ∧ Hid (nv (us.drop i) = nv (Qs.drop i) * V + nv Rs) ∧ Hid (nv Rs < V) ∧ Ext w2 wr) (fun iv _ => (intOf iv + 1).toNat)
   case atStart => exact ⟨un, _, _, Nat.le_refl _, rfl, hr1, hr2, Ws.replicate _ (by omega), Ws.replicate _ (by omega), Lib.hid (by simp), Lib.hid (by simp), Lib.hid (by
     rw [List.drop_of_length_le (by omega), List.drop_of_length_le (by simp), nv_replicate, nv_nil, Nat.zero_mul]), Lib.hid (by rw [nv_replicate]; exact hV0), hE2'⟩
   case round =>
     obtain ⟨i, Qs, Rs, hi, rfl, hrQ, hrR, hQ, hR, hQl, hRl, hinv, hRV, hEr⟩ := hrel
     obtain ⟨wo, rfl⟩ : ∃ wo : World, wo = wr := ⟨_, rfl⟩
     by_cases hi0 : i = 0
     · have hfin := by_end (a := nv xs) (b := nv ys) (s := s) (q := nv Qs) (R := nv Rs) HP.out (by
         have := hinv.out
         rw [hi0, List.drop_zero, List.drop_zero, HUV.out] at this
         rw [← HUE.out, ← HVE.out]; exact this) (by rw [← HVE.out]; exact hRV.out)
       have H1 := Lib.hid hfin.1
       have H2 := Lib.hid hfin.2
       clear hfin
       have hWR := hrR.wds hR hRl.out (Nat.le_refl _) (by unfold maxLen; omega)
       have hWQ := hrQ.wds hQ hQl.out (Nat.le_refl _) (by unfold maxLen; omega)
       go_wp2_with fail
       refine (right_any _ _ _ _ s _ hWR (by omega) (by omega)).mono ?_
       rintro e w3 ⟨A1, n1, c1, rfl, hR1, hE3⟩
       go_wp2_with fail
       refine (norm_any _ _ _ _ _ (hWQ.ext hE3) (by omega)).mono ?_
       rintro e w4 ⟨A2, n2, c2, rfl, hR2, hE4⟩
       go_wp2
       go_ret2
       exact ⟨A2, n2, c2, A1, n1, c1, rfl, by rw [← H1.out]; exact hR2, by rw [← H2.out]; exact hR1.ext hE4, hE.trans (hEr.trans (hE3.trans hE4))⟩
     · have hi1 : 0 < i := by omega
       have hb1 : decide ((1 : Int) ≤ (i : Int)) = true := decide_eq_true (by omega)
       go_wp2
       go_loopw [12] (fun jv wr => ∃ (j : Nat) (Ms : List Nat), j ≤ vn ∧ jv = .int .i64 j ∧ Row wr G Qs ∧ Row wr (G + 1) Ms ∧ Ws Ms ∧ Hid (Ms.length = vn + 1) ∧ Hid (∀ k, (hk : k < Ms.length) → k ≤ j → Ms[k] = Rs.getD k 0) ∧ Hid (∀ k, (hk : k < Ms.length) → j < k → Ms[k] = Rs.getD (k - 1) 0) ∧ Ext w2 wr) (fun jv _ => (intOf jv).toNat)
       case atStart => exact ⟨vn, Rs, Nat.le_refl _, rfl, hrQ, hrR, hR, hRl, Lib.hid (fun k hk _ => getD_of hk), Lib.hid (fun k hk hlt => by have := hRl.out; omega), hEr⟩
       case round =>
         obtain ⟨j, Ms, hj, rfl, hrQ1, hrM, hM, hMl, hlow, hhigh, hE1r⟩ := hrel
         by_cases hj0 : j = 0
         · obtain ⟨ad, hux, rfl, _, hcu⟩ := (hU2.ext hE1r).at_ (k := i - 1) (by omega)
           have hu32 := hU2.ws.get hux
           have hUD := Lib.hid (nv_drop_eq hux)
           obtain ⟨ux, hux'⟩ : ∃ ux, us[i - 1] = ux := ⟨_, rfl⟩
           rw [hux'] at hcu hu32 hUD
           clear hux'
           have hjz : j ≤ 0 := by omega
           have hb2 : decide (0 < j) = false := decide_eq_false (by omega)
           have hj00 := Lib.hid hj0
           clear hj0
           have hc1 := hrM.cell (i := 0) (by rw [hMl.out]; omega)
           have hf1 := hrM.frozen 0
           have hrM' := hrM.set_ 0 ux
           have hNV : Hid (nv (Ms.set 0 ux) = ux + 4294967296 * nv Rs) := Lib.hid (shifted hR hRl.out hMl.out (fun k hk h0 => by
             have hkr : k - 1 < Rs.length := by have := hRl.out; have := hMl.out; omega
             rw [hhigh.out k hk (by omega), ← getD_of hkr]) hRV.out hVP.out)
           obtain ⟨M0, hM0⟩ : ∃ M0, M0 = Ms.set 0 ux := ⟨_, rfl⟩
           have hM0w : Ws M0 := by rw [hM0]; exact hM.set 0 hu32
           have hM0l : Hid (M0.length = vn + 1) := Lib.hid (by rw [hM0]; simp [hMl.out])
           rw [← hM0] at hrM' hNV
           clear hM0
           have hE1s := hE1r.setCell (p := ⟨G + 1, 0, none⟩) (show w2.heap.size ≤ G + 1 by omega) (.int .u32 (ux : Int))
           have hrQ1' := hrQ1.far (p := ⟨G + 1, 0, none⟩) (show G ≠ G + 1 by omega) (.int .u32 (ux : Int))
           have hPV : Hid (nv M0 < 4294967296 * V) := Lib.hid (by
             have := hRV.out
             rw [hNV.out]; omega)
           obtain ⟨wp, rfl⟩ : ∃ wp : World, wp = wr := ⟨_, rfl⟩
           go_wp2
           go_loopw [13] (fun dv wr => ∃ (dN : Nat) (Ms2 : List Nat), dv = .int .u64 (dN : Int) ∧ Row wr G Qs ∧ Row wr (G + 1) Ms2 ∧ Ws Ms2 ∧ Hid (Ms2.length = vn + 1) ∧ Hid (dN * V + nv Ms2 = nv M0) ∧ dN < 4294967296 ∧ Ext w2 wr) (fun dv _ => 4294967296 - (intOf dv).toNat)
           case atStart => exact ⟨0, M0, rfl, hrQ1', hrM', hM0w, hM0l, Lib.hid (by rw [Nat.zero_mul, Nat.zero_add]), by omega, hE1s⟩
           case round =>
             obtain ⟨dN, Ms2, rfl, hrQ2, hrM2, hM2, hM2l, hdv, hd32, hE2r⟩ := hrel
             have hWM := hrM2.wds hM2 hM2l.out (Nat.le_refl _) (by unfold maxLen; omega)
             have hcm := cmp_any _ _ _ _ _ _ _ _ wr hWM (by omega) (hV.ext hE2r) (by omega)
             rw [HVV.out] at hcm
             by_cases hge : V ≤ nv Ms2
             · have hcc : 0 ≤ cmpN (nv Ms2) V := by unfold cmpN; rw [if_neg (by omega)]; split <;> omega
               obtain ⟨cc, hcce⟩ : ∃ cc, cc = cmpN (nv Ms2) V := ⟨_, rfl⟩
               rw [← hcce] at hcc hcm
               have HCM := Lib.hid hcm
               clear hcm hcce
               go_wp2_with fail
               refine HCM.out.mono ?_
               rintro e w3 ⟨rfl, q3, rfl⟩
               go_wp2_with fail
               refine (guess_any _ _ _ _ _ _ _ _ _ (hWM.drewN q3) ((hV.ext hE2r).drewN q3) (vn - 1) (by omega) (by omega) rfl (by rw [HVV.out]; exact hge)).mono ?_
               rintro e w4 ⟨gN, rfl, hg1, hg2, q4, rfl⟩
               rw [HVV.out] at hg2
               have hg32 : gN < 4294967296 := Nat.lt_of_mul_lt_mul_right (a := V) (by have := hPV.out; have := hdv.out; omega)
               have hdd : (dN + gN) * V + (nv Ms2 - gN * V) = nv M0 := by rw [Nat.add_mul, ← hdv.out]; omega
               have hdd32 : dN + gN < 4294967296 := Nat.lt_of_mul_lt_mul_right (a := V) (by have := hPV.out; omega)
               have HDD := Lib.hid hdd
               clear hdd
               have HG2 := Lib.hid hg2
               clear hg2
               go_wp2_with fail
               refine (sub_any (G + 1) (vn + 1) _ Ms2 VA vn vc vs gN w2 _ (by first | exact hrM2 | exact hrM2.drewN _) hM2 hM2l.out (by omega) hV (by first | exact hE2r.drewN _ | exact (hE2r.drewN _).drewN _) (by omega) (by omega) hg32 (by rw [HVV.out]; exact HG2.out)).mono ?_
               rintro e w5 ⟨rfl, ⟨L5, hr5, hw5, hl5, hv5⟩, hgr5⟩
               rw [HVV.out] at hv5
               have hrQ5 := Row.grown (by first | exact hrQ2 | exact hrQ2.drewN _) hgr5 (show G ≠ G + 1 by omega)
               have hE5 : Ext w2 w5 := Ext.grown (by first | exact hE2r.drewN _ | exact (hE2r.drewN _).drewN _) hgr5 (fun q hq => by injection hq with hq; omega)
               have HV5 := Lib.hid hv5
               have HL5 := Lib.hid hl5
               clear hv5 hl5 hgr5
               go_wp2
               go_roundw
               case rel => exact ⟨dN + gN, L5, val_int (by omega), hrQ5, hr5, hw5, HL5, Lib.hid (by rw [HV5.out]; exact HDD.out), hdd32, hE5⟩
               case measure => simp [intOf]; omega
             · have hlt : nv Ms2 < V := by omega
               rw [cmpN_lt hlt] at hcm
               have HCM := Lib.hid hcm
               have HLT := Lib.hid hlt
               clear hcm hlt hge
               have hql : i - 1 < Qs.length := by rw [hQl.out]; omega
               have hcq := hrQ2.cell hql
               have hfq := hrQ2.frozen (i - 1)
               have hrQ3 := hrQ2.set_ (i - 1) dN
               have hinv' : Hid (nv (us.drop (i - 1)) = nv ((Qs.set (i - 1) dN).drop (i - 1)) * V + nv Ms2) := Lib.hid (by
                 rw [hUD.out, nv_drop_set_self hql, show i - 1 + 1 = i by omega]
                 refine by_step hinv.out ?_
                 rw [hdv.out, hNV.out, Nat.add_comm])
               go_wp2_with fail
               refine HCM.out.mono ?_
               rintro e w3 ⟨rfl, q3, rfl⟩
               go_wp2
               go_roundw
               case rel => exact ⟨i - 1, Qs.set (i - 1) dN, Ms2, by omega, by go_num, by first | exact hrQ3 | exact hrQ3.drewN _, by exact (hrM2.far (p := ⟨G, i - 1, none⟩) (show G + 1 ≠ G by omega) _), hQ.set _ hd32, hM2, Lib.hid (by simp [hQl.out]), hM2l, hinv', HLT, by first | exact (hE2r.setCell (p := ⟨G, i - 1, none⟩) hGle _).drewN _ | exact (hE2r.drewN _).setCell (p := ⟨G, i - 1, none⟩) hGle _⟩
               case measure => simp [intOf]; omega
         · have hj1 : 0 < j := by omega
           clear hj0
           have hjl : j < Ms.length := by rw [hMl.out]; omega
           have hjl1 : j - 1 < Ms.length := by omega
           have hc0 := hrM.cell hjl1
           have hc1 := hrM.cell hjl
           have hf1 := hrM.frozen j
           have hm32 := hM.get hjl1
           have hv1 := Lib.hid (hlow.out (j - 1) hjl1 (by omega))
           obtain ⟨x, hx⟩ : ∃ x, Ms[j - 1] = x := ⟨_, rfl⟩
           rw [hx] at hc0 hm32 hv1
           clear hx
           have hrM' := hrM.set_ j x
           go_wp2
           go_roundw
           case rel => exact ⟨j - 1, _, by omega, by go_num, hrQ1.far (p := ⟨G + 1, j, none⟩) (show G ≠ G + 1 by omega) _, hrM', hM.set _ hm32, Lib.hid (by simp [hMl.out]), Lib.hid (fun k hk hle => by
             rw [List.getElem_set_ne (by omega)]
             exact hlow.out k (by simpa using hk) (by omega)), Lib.hid (fun k hk hlt => by
             by_cases e : k = j
             · subst e
               rw [List.getElem_set_self, hv1.out]
             · rw [List.getElem_set_ne (by omega)]
               exact hhigh.out k (by simpa using hk) (by omega)), hE1r.setCell (p := ⟨G + 1, j, none⟩) (show w2.heap.size ≤ G + 1 by omega) _⟩
           case measure => simp [intOf]; omega
end Go.Proofs.YtbcaggdgoidlaaaGreatDoor
