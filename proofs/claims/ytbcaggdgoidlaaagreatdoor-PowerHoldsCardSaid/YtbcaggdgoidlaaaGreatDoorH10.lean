/-
 The contracts of the reference's naturals, fifth part: zeros at the bottom, shifts down. Conditions: those that each theorem names.
-/
import Derived.Test.YtbcaggdgoidlaaaGreatDoorH07
import Derived.Test.YtbcaggdgoidlaaaGreatDoorH09
namespace Go.Proofs.YtbcaggdgoidlaaaGreatDoor
open Go.RowKit Nm
set_option maxRecDepth 100000
set_option linter.unusedVariables false
set_option linter.unusedSimpArgs false
set_option maxHeartbeats 1000000 in
theorem zeros_any (A : Option Addr) (n c : Nat) (xs : List Nat) (w : World) (h : Wds w A n c xs) (hn : n ≤ 35184372088832) :
   Calls Tryz.prog 61 #[.slice A n c] w fun e w' => e = .returned (.int .i64 (tz (nv xs) : Int)) ∧ w = w' := by
 have hlx := h.len
 by_cases h0 : nv xs = 0
 · have hz : nw (nv xs) ≤ 0 := by rw [h0, nw_zero]; omega
   have HF : Hid ((0 : Int) = (tz (nv xs) : Int)) := Lib.hid (by rw [h0]; rfl)
   clear h0
   go_enter Tryz.func61, Tryz.ntmps61
   go_wp2_with (go_at_call 70; refine (words_any _ _ _ _ _ h (by omega)).mono ?_; rintro e w' ⟨rfl, rfl⟩)
   go_ret
   exact ⟨ret_int HF.out, rfl⟩
 · have hpos : 0 < nw (nv xs) := by
     rcases Nat.eq_zero_or_pos (nw (nv xs)) with e | e
     · exact absurd (nw_eq_zero.1 e) h0
     · exact e
   have htz : tz (nv xs) ≤ 32 * n := by
     have h1 := tz_lt h0
     have h2 := (bl_le_iff (nv xs) (32 * xs.length)).2 (by rw [← pow32]; exact nv_lt h.ws)
     omega
   have H0 := Lib.hid h0
   clear h0
   go_enter Tryz.func61, Tryz.ntmps61
   go_wp2_with (go_at_call 70; refine (words_any _ _ _ _ _ h (by omega)).mono ?_; rintro e w' ⟨rfl, rfl⟩)
   go_loop [3] (fun kv => ∃ j : Nat, 32 * j ≤ tz (nv xs) ∧ kv = .int .i64 ((32 * j : Nat) : Int)) (fun kv => 32 * n + 32 - (intOf kv).toNat)
   case atStart => exact ⟨0, by omega, rfl⟩
   case round =>
     obtain ⟨j, hj, rfl⟩ := hrel
     obtain ⟨hjl, hz1, hz2⟩ := tz_word h.ws H0.out hj
     obtain ⟨ad, hx, rfl, hb, hc⟩ := h.at_ (k := j) (by omega)
     have g1 : ((32 * j : Nat) : Int) / 32 = (j : Int) := by omega
     obtain ⟨J, hJ⟩ : ∃ J, J = 32 * j := ⟨_, rfl⟩
     rw [← hJ] at hj g1
     rw [← hJ]
     have HJ := Lib.hid hJ
     clear hJ
     by_cases hx0 : xs[j] = 0
     · have h1 := hz1 hx0
       clear hz1 hz2
       go_wp2
       go_round
       case rel => exact ⟨j + 1, h1, val_int (by have := HJ.out; omega)⟩
       case measure => simp [intOf]; have := HJ.out; omega
     · have hle : tz (nv xs) < J + 32 := by
         rcases Nat.lt_or_ge (tz (nv xs)) (J + 32) with hl | hl
         · exact hl
         · exact absurd (hz2 (by have := HJ.out; omega)) hx0
       clear hz1 hz2
       go_wp2
       go_loop [3] (fun kv => ∃ k : Nat, k ≤ tz (nv xs) ∧ kv = .int .i64 (k : Int)) (fun kv => 32 * n + 32 - (intOf kv).toNat)
       case atStart => exact ⟨J, hj, rfl⟩
       case round =>
         obtain ⟨k, hk, rfl⟩ := hrel
         have hbit := bit_any (some ad) n c xs k w h (by omega) (by omega)
         by_cases hkt : k < tz (nv xs)
         · rw [tz_low H0.out hkt] at hbit
           have HB := Lib.hid hbit
           clear hbit
           go_wp2_with (go_at_call 53; refine HB.out.mono ?_; rintro e w' ⟨rfl, rfl⟩)
           go_round
           case rel => exact ⟨k + 1, by omega, by go_num⟩
           case measure => simp [intOf]; omega
         · have hke : k = tz (nv xs) := by omega
           rw [hke, tz_bit H0.out] at hbit
           have HB := Lib.hid hbit
           have HK := Lib.hid hke
           clear hbit hke
           go_wp2_with (go_at_call 53; rw [HK.out]; refine HB.out.mono ?_; rintro e w' ⟨rfl, rfl⟩)
           go_ret
           exact ⟨rfl, rfl⟩
def lostB (V s : Nat) : Bool := decide (V % 2 ^ s ≠ 0)
theorem lostB_zero (s : Nat) : lostB 0 s = false := by simp [lostB]
theorem lostB_true {V s : Nat} (h : V % 2 ^ s ≠ 0) : lostB V s = true := by simp [lostB, h]
def RetWB (V : Nat) (b : Bool) (w : World) (e : Ending) (w' : World) : Prop := ∃ A n c, e = .returned (.tuple #[.slice A n c, .bool b]) ∧ Wds w' A n c (nd V) ∧ Ext w w'
set_option maxHeartbeats 1000000 in
theorem right_any (A : Option Addr) (n c : Nat) (xs : List Nat) (s : Nat) (w : World) (h : Wds w A n c xs) (hn : n ≤ 17592186044416) (hs : s ≤ 4611686018427387904) :
   Calls Tryz.prog 62 #[.slice A n c, .int .i64 (s : Int)] w (RetWB (nv xs / 2 ^ s) (lostB (nv xs) s) w) := by
 have hxl : nw (nv xs) ≤ xs.length := nw_nv_le h.ws
 have hlx := h.len
 by_cases h0 : nv xs = 0
 · have hz : nw (nv xs) ≤ 0 := by rw [h0, nw_zero]; omega
   have HF : Hid (nd (nv xs / 2 ^ s) = []) := Lib.hid (by rw [h0, Nat.zero_div, nd_zero])
   have HF2 : Hid (lostB (nv xs) s = false) := Lib.hid (by rw [h0, lostB_zero])
   clear h0
   rw [HF2.out]
   go_enter Tryz.func62, Tryz.ntmps62
   go_wp2_with (go_at_call 70; refine (words_any _ _ _ _ _ h (by omega)).mono ?_; rintro e w' ⟨rfl, rfl⟩)
   go_ret2
   exact ⟨none, 0, 0, rfl, by rw [HF.out]; exact Wds.nil_ (by unfold maxLen; omega), Ext.refl _⟩
 · obtain ⟨D, S, hS, hsD⟩ : ∃ D S, S < 32 ∧ s = 32 * D + S := ⟨s / 32, s % 32, Nat.mod_lt _ (by omega), by omega⟩
   have hpos : 0 < nw (nv xs) := by
     rcases Nat.eq_zero_or_pos (nw (nv xs)) with e | e
     · exact absurd (nw_eq_zero.1 e) h0
     · exact e
   have hq : (s : Int) / 32 = (D : Int) := by omega
   have hr : (s : Int) % 32 = (S : Int) := by omega
   have HTk := Lib.hid (take_nw h.ws).1
   have HLT := Lib.hid (lt_pow_nw (nv xs))
   have H0 := Lib.hid h0
   have hw := words_any A n c xs w h (by omega)
   obtain ⟨t, ht⟩ : ∃ t, t = nw (nv xs) := ⟨_, rfl⟩
   rw [← ht] at hw hxl hpos HTk HLT
   have HT := Lib.hid ht
   have HW := Lib.hid hw
   clear ht hw h0
   by_cases hD : D < t
   · obtain ⟨ad, hx, rfl, hb, hc⟩ := h.at_ (k := D) (by omega)
     have hX32 := h.ws.get hx
     have HSD := Lib.hid hsD
     clear hsD
     have hlow := shl_low xs[D] hS
     obtain ⟨x0, hx0⟩ : ∃ x0, x0 = xs[D] := ⟨_, rfl⟩
     have HR := Lib.hid (right_mod h.ws hx hS)
     have HX := Lib.hid hx0
     rw [← hx0] at hlow hc hX32
     clear hx0
     have hY : (∃ Y : Nat, 0 < Y ∧ 0 < S ∧ Hid (x0 % 2 ^ S ≠ 0) ∧ (x0 : Int) * 2 ^ (31 - S) % 4294967296 * 2 % 4294967296 = (Y : Int)) ∨ (Hid (x0 % 2 ^ S = 0) ∧ (x0 : Int) * 2 ^ (31 - S) % 4294967296 * 2 % 4294967296 = 0) := by
       have e : (x0 : Int) * 2 ^ (31 - S) % 4294967296 * 2 % 4294967296 = ((x0 % 2 ^ S * 2 ^ (32 - S) : Nat) : Int) := by
         rw [← hlow, Int.natCast_emod, Int.natCast_mul, Int.natCast_emod, Int.natCast_mul, Int.natCast_pow]; rfl
       by_cases hz : x0 % 2 ^ S = 0
       · right
         refine ⟨Lib.hid hz, ?_⟩
         rw [e, hz, Nat.zero_mul]; rfl
       · left
         refine ⟨_, Nat.mul_pos (by omega) (Nat.pow_pos (by omega)), ?_, Lib.hid hz, e⟩
         rcases Nat.eq_zero_or_pos S with h0 | h0
         · rw [h0] at hz; simp [Nat.mod_one] at hz
         · exact h0
     clear hlow
     rcases hY with ⟨Y, hYp, hSp, hlz, hYe⟩ | ⟨hlz, hYe⟩
     all_goals
       go_enter Tryz.func62, Tryz.ntmps62
       go_wp2_with (go_at_call 70; refine HW.out.mono ?_; rintro e w' ⟨rfl, rfl⟩)
       clear hYe
       go_loop [8, 9] (fun lv iv => ∃ (i : Nat) (b : Bool), i ≤ D ∧ iv = .int .i64 i ∧ lv = .bool b ∧ Hid (b = decide (nv (xs.take i) ≠ 0 ∨ x0 % 2 ^ S ≠ 0))) (fun _ iv => D - (intOf iv).toNat)
       case atStart => exact ⟨0, _, Nat.zero_le _, rfl, rfl, Lib.hid (by simp [nv, hlz.out]; try omega)⟩
       case round =>
         obtain ⟨i, b, hi, rfl, rfl, hbe⟩ := hrel
         by_cases hlt : i < D
         · obtain ⟨ad', hxi, hae, _, hci⟩ := h.at_ (k := i) (by omega)
           injection hae with hae
           subst hae
           have hts := Lib.hid (nv_take_succ hxi)
           cases b
           · by_cases hz : xs[i] = 0
             · go_wp2
               go_round
               case rel => exact ⟨i + 1, false, by omega, by go_num, rfl, Lib.hid (by rw [hbe.out, hts.out, hz, Nat.mul_zero, Nat.add_zero])⟩
               case measure => simp [intOf]; omega
             · have hnz : Hid (nv (xs.take (i + 1)) ≠ 0) := Lib.hid (by
                 rw [hts.out]
                 have : 4294967296 ^ i * 1 ≤ 4294967296 ^ i * xs[i] := Nat.mul_le_mul_left _ (by omega)
                 have : 0 < 4294967296 ^ i := Nat.pow_pos (by omega)
                 omega)
               go_wp2
               go_round
               case rel => exact ⟨i + 1, _, by omega, by go_num, rfl, Lib.hid (by simp [hnz.out, hz])⟩
               case measure => simp [intOf]; omega
           · have hmono : Hid (nv (xs.take i) ≠ 0 ∨ x0 % 2 ^ S ≠ 0 → nv (xs.take (i + 1)) ≠ 0 ∨ x0 % 2 ^ S ≠ 0) := Lib.hid (by
               rw [hts.out]; omega)
             go_wp2
             go_round
             case rel => exact ⟨i + 1, true, by omega, by go_num, rfl, Lib.hid (by have := hbe.out; simp only [true_eq_decide_iff] at *; exact hmono.out this)⟩
             case measure => simp [intOf]; omega
         · have hie : i = D := by omega
           have HB : Hid (b = lostB (nv xs) s) := Lib.hid (by
             rw [hbe.out, hie, lostB, HSD.out]
             refine decide_eq_decide.2 ?_
             rw [HR.out, HX.out])
           subst hie
           go_wp2
           go_loopw [10, 11] (fun v iv wr => ∃ (k : Nat) (acc : List Nat), i + k ≤ t ∧ iv = .int .i64 ((i : Int) + (k : Int)) ∧ Ws acc ∧ Hid (acc.length = k) ∧ Hid (nv acc = nv xs / 2 ^ s % 4294967296 ^ k) ∧ wr.ownsRow w.heap.size 61 1 v k (u32s acc) ∧ Ext w wr) (fun _ iv _ => t - (intOf iv).toNat)
           case atStart => exact ⟨0, [], by omega, val_int (by omega), Ws.nil, Lib.hid rfl, Lib.hid (by simp [nv, Nat.mod_one]), World.ownsRow_nil _ _ _ _, Ext.refl _⟩
           case round =>
             obtain ⟨k, acc, hk, rfl, hacc, hal, hval, hown, hb1⟩ := hrel
             by_cases hlt2 : i + k < t
             · obtain ⟨ad', hxi, hae, _, hci⟩ := (h.ext hb1).at_ (k := i + k) (by omega)
               injection hae with hae
               subst hae
               have hw1 := right_word h.ws hxi (show i ≤ i + k by omega) hS
               rw [← HSD.out, show i + k - i = k by omega] at hw1
               have hx32 := h.ws.get hxi
               generalize xs[i + k] = x at *
               have hy : (i + k + 1 < t ∧ ∃ y : Nat, y < 4294967296 ∧ Hid (y = xs.getD (i + k + 1) 0) ∧ wr.cell? (ad.add (i + k + 1)) = some (.int .u32 (y : Int)) ∧ bits .or .u64 (x : Int) ((y : Int) * 4294967296) = ((x + 4294967296 * y : Nat) : Int)) ∨ (t ≤ i + k + 1 ∧ ∃ y : Nat, y ≤ 0 ∧ Hid (y = xs.getD (i + k + 1) 0)) := by
                 by_cases hl : i + k + 1 < t
                 · obtain ⟨ad', hxj, hae, _, hcj⟩ := (h.ext hb1).at_ (k := i + k + 1) (by omega)
                   injection hae with hae
                   subst hae
                   have hy32 := h.ws.get hxj
                   refine .inl ⟨hl, xs[i + k + 1], hy32, Lib.hid (getD_of hxj), hcj, ?_⟩
                   have e : (xs[i + k + 1] : Int) * 4294967296 = ((xs[i + k + 1] * 4294967296 : Nat) : Int) := by omega
                   rw [e, u64_or_nat _ _ (by omega) (by omega), Nat.or_comm, nat_join 32 _ _ (by omega) (by omega)]
                   omega
                 · exact .inr ⟨by omega, 0, by omega, Lib.hid (by rw [getD_nw h.ws (by have := HT.out; omega)])⟩
               obtain ⟨y, hy32, hyD, hyC⟩ : ∃ y : Nat, y < 4294967296 ∧ Hid (y = xs.getD (i + k + 1) 0) ∧ ((i + k + 1 < t ∧ wr.cell? (ad.add (i + k + 1)) = some (.int .u32 (y : Int)) ∧ bits .or .u64 (x : Int) ((y : Int) * 4294967296) = ((x + 4294967296 * y : Nat) : Int)) ∨ (t ≤ i + k + 1 ∧ y ≤ 0)) := by
                 rcases hy with ⟨hl, y, h1, h2, h3, h4⟩ | ⟨hl, y, h1, h2⟩
                 · exact ⟨y, h1, h2, .inl ⟨hl, h3, h4⟩⟩
                 · exact ⟨y, by omega, h2, .inr ⟨hl, h1⟩⟩
               clear hy
               rw [← hyD.out] at hw1
               obtain ⟨V, hV⟩ : ∃ V, V = x + 4294967296 * y := ⟨_, rfl⟩
               rw [← hV] at hw1 hyC
               have hV64 : V < 18446744073709551616 := by omega
               obtain ⟨Q, hQ⟩ : ∃ Q, Q = V / 2 ^ S := ⟨_, rfl⟩
               have hQV : Q ≤ V := by rw [hQ]; exact Nat.div_le_self _ _
               rw [← hQ] at hw1
               have eQ : (V : Int) / 2 ^ S = (Q : Int) := by rw [hQ]; push_cast; rfl
               obtain ⟨lo, hlo⟩ : ∃ lo, lo = Q % 4294967296 := ⟨_, rfl⟩
               rw [← hlo] at hw1
               have eL := and_mask Q lo (by omega) hlo
               have hlo32 : lo < 4294967296 := by omega
               have HN := Lib.hid (right_step hal.out hval.out hw1.symm)
               clear hw1 hQ hlo
               rcases hyC with ⟨hl, hcj, hor⟩ | ⟨hl, hy0⟩
               · clear hV
                 have hcj2 : wr.cell? { block := ad.block, off := ad.off + (i + k + 1) } = some (.int .u32 (y : Int)) := by simpa [Addr.add] using hcj
                 clear hcj
                 go_wp2_with (at_builtin; refine wp_app32 rfl (.tmp 77) (.tmp 83) rfl lo rfl hown hb1 rfl (by omega) (by omega) ?_; intro v' w1 hown' hE')
                 go_roundw
                 case rel => exact ⟨k + 1, acc ++ [lo], by omega, val_int (by omega), hacc.append (Ws.cons hlo32 Ws.nil), Lib.hid (by simp [hal.out]), HN, hown', hE'⟩
                 case measure => simp [intOf]; omega
               · have hVx : (x : Int) = (V : Int) := by omega
                 rw [hVx] at hci
                 clear hV hVx
                 go_wp2_with (at_builtin; refine wp_app32 rfl (.tmp 77) (.tmp 83) rfl lo rfl hown hb1 rfl (by omega) (by omega) ?_; intro v' w1 hown' hE')
                 go_roundw
                 case rel => exact ⟨k + 1, acc ++ [lo], by omega, val_int (by omega), hacc.append (Ws.cons hlo32 Ws.nil), Lib.hid (by simp [hal.out]), HN, hown', hE'⟩
                 case measure => simp [intOf]; omega
             · have HV : Hid (nv acc = nv xs / 2 ^ s) := Lib.hid (by
                 rw [hval.out]
                 refine Nat.mod_eq_of_lt ?_
                 have h1 := HLT.out
                 rw [pow32] at h1 ⊢
                 refine (Nat.div_lt_iff_lt_mul (Nat.pow_pos (by omega))).2 ?_
                 rw [← Nat.pow_add]
                 exact Nat.lt_of_lt_of_le h1 (Nat.pow_le_pow_right (by omega) (by have := HSD.out; omega)))
               obtain ⟨A', c', rfl, hW⟩ := Wds.of_own hown hacc
               go_wp2_with (go_at_call 42; refine (norm_any _ _ _ _ _ hW (by omega)).mono ?_; rintro e w2 ⟨A2, n2, c2, rfl, hR, hE2⟩)
               go_ret2
               exact ⟨A2, n2, c2, by rw [← HB.out]; rfl, by rw [← HV.out]; exact hR, hb1.trans hE2⟩
   · have HF : Hid (nd (nv xs / 2 ^ s) = []) := Lib.hid (by
       have h1 := HLT.out
       rw [pow32] at h1
       have : nv xs < 2 ^ s := Nat.lt_of_lt_of_le h1 (Nat.pow_le_pow_right (by omega) (by omega))
       rw [Nat.div_eq_of_lt this, nd_zero])
     have HF2 : Hid (lostB (nv xs) s = true) := Lib.hid (by
       have h1 := HLT.out
       rw [pow32] at h1
       have : nv xs < 2 ^ s := Nat.lt_of_lt_of_le h1 (Nat.pow_le_pow_right (by omega) (by omega))
       refine lostB_true ?_
       rw [Nat.mod_eq_of_lt this]
       exact H0.out)
     clear hsD
     rw [HF2.out]
     go_enter Tryz.func62, Tryz.ntmps62
     go_wp2_with (go_at_call 70; refine HW.out.mono ?_; rintro e w' ⟨rfl, rfl⟩)
     go_ret2
     exact ⟨none, 0, 0, rfl, by rw [HF.out]; exact Wds.nil_ (by unfold maxLen; omega), Ext.refl _⟩
end Go.Proofs.YtbcaggdgoidlaaaGreatDoor

namespace Go.Proofs.YtbcaggdgoidlaaaGreatDoor
open Go.RowKit Nm
set_option maxRecDepth 100000
set_option linter.unusedVariables false
set_option linter.unusedSimpArgs false
theorem word_or4 (a b : Nat) (ha : a < 4294967296) (hb : b < 4294967296) : bits .or .u64 ((a : Int) * 4294967296) (b : Int) = ((b + 4294967296 * a : Nat) : Int) := by
 have e : (a : Int) * 4294967296 = ((a * 4294967296 : Nat) : Int) := by omega
 rw [e, u64_or_nat _ _ (by omega) (by omega), nat_join 32 _ _ (by omega) (by omega)]
 omega
theorem word_or2 (a b : Nat) (ha : a < 4294967296) (hb : b < 4294967296) : bits .or .u64 (a : Int) ((b : Int) * 4294967296) = ((a + 4294967296 * b : Nat) : Int) := by
 have e : (b : Int) * 4294967296 = ((b * 4294967296 : Nat) : Int) := by omega
 rw [e, u64_or_nat _ _ (by omega) (by omega), Nat.or_comm, nat_join 32 _ _ (by omega) (by omega)]
 omega
structure BackRel (L0 L : List Nat) (s m i : Nat) : Prop where
 len : L.length = m
 ws : Ws L
 val : nv (L.take i) = nv L0 / 2 ^ s % 4294967296 ^ i
 same : ∀ k, (hk : k < L.length) → i ≤ k → L[k] = L0.getD k 0
theorem BackRel.step {L0 L : List Nat} {s m i lo : Nat} (h : BackRel L0 L s m i) (h0 : Ws L0) (hm : L0.length = m) (hi : i < m) (hs : s < 32) (hlo : lo = (L0.getD i 0 + 4294967296 * L0.getD (i + 1) 0) / 2 ^ s % 4294967296) : BackRel L0 (L.set i lo) s m (i + 1) := by
 have hlen := h.len
 have hlo32 : lo < 4294967296 := by rw [hlo]; exact Nat.mod_lt _ (by omega)
 refine ⟨by simpa using hlen, h.ws.set _ hlo32, ?_, fun k hk hle => ?_⟩
 · have h1 := right_word h0 (D := 0) (S := s) (i := i) (by omega) (by omega) hs
   simp only [Nat.mul_zero, Nat.zero_add, Nat.sub_zero] at h1
   rw [getD_of (l := L0) (k := i) (by omega)] at h1
   rw [nv_take_succ (l := L.set i lo) (by simp; omega), take_set_self, List.getElem_set_self, h.val, Nat.mod_pow_succ, h1, ← hlo]
 · rw [List.getElem_set_ne (by omega)]
   simp at hk
   exact h.same k hk (by omega)
set_option maxHeartbeats 1000000 in
theorem nback_any (g m c : Nat) (L0 : List Nat) (s : Nat) (w0 w : World) (hrow : Row w g L0) (hL0 : Ws L0) (hlen : L0.length = m) (hm : m ≤ 17592186044416) (hmc : m ≤ c) (hcm : c ≤ maxLen) (hs : s < 32) (hE : Ext w0 w) (hg : w0.heap.size ≤ g) :
   Calls Tryz.prog 112 #[.slice (some ⟨g, 0, none⟩) m c, .int .i64 (s : Int)] w (RetW (nv L0 / 2 ^ s) w0) := by
 go_enter Tryz.func112, Tryz.ntmps112
 go_wp2
 go_loopw [9] (fun iv wr => ∃ (i : Nat) (L : List Nat), i ≤ m ∧ iv = .int .i64 i ∧ Row wr g L ∧ BackRel L0 L s m i ∧ Ext w0 wr) (fun iv _ => m - (intOf iv).toNat)
 case atStart => exact ⟨0, L0, Nat.zero_le _, rfl, hrow, ⟨hlen, hL0, by simp [nv, Nat.mod_one], fun k hk _ => getD_of hk⟩, hE⟩
 case round =>
   obtain ⟨i, L, hi, rfl, hr, hrel, hEr⟩ := hrel
   have hLl := hrel.len
   by_cases hlt : i < m
   · have hiL : i < L.length := by omega
     have hc1 := hr.cell hiL
     have hf1 := hr.frozen i
     have ha32 := hrel.ws.get hiL
     have haE := hrel.same i hiL (Nat.le_refl _)
     obtain ⟨a, ha⟩ : ∃ a, a = L[i] := ⟨_, rfl⟩
     rw [← ha] at hc1 ha32 haE
     by_cases h2 : i + 1 < m
     · have hiL2 : i + 1 < L.length := by omega
       have hc2 := hr.cell hiL2
       have hb32 := hrel.ws.get hiL2
       have hbE := hrel.same (i + 1) hiL2 (by omega)
       obtain ⟨b, hb⟩ : ∃ b, b = L[i + 1] := ⟨_, rfl⟩
       rw [← hb] at hc2 hb32 hbE
       have hor := word_or2 a b ha32 hb32
       have hst := fun lo => hrel.step (lo := lo) hL0 hlen hlt hs
       rw [← haE, ← hbE] at hst
       obtain ⟨X, hX⟩ : ∃ X, X = a + 4294967296 * b := ⟨_, rfl⟩
       rw [← hX] at hor hst
       have hX64 : X < 18446744073709551616 := by omega
       have hXd : X / 2 ^ s ≤ X := Nat.div_le_self _ _
       have e1 : (X : Int) / 2 ^ s = ((X / 2 ^ s : Nat) : Int) := by push_cast; rfl
       obtain ⟨Y, hY⟩ : ∃ Y, Y = X / 2 ^ s := ⟨_, rfl⟩
       rw [← hY] at e1 hst hXd
       have e2 : (Y : Int) % 4294967296 = ((Y % 4294967296 : Nat) : Int) := by omega
       obtain ⟨lo, hlo⟩ : ∃ lo, lo = Y % 4294967296 := ⟨_, rfl⟩
       rw [← hlo] at e2 hst
       have hst' := hst lo rfl
       have HST := Lib.hid hst'
       have hr' := hr.set_ i lo
       have hLl' := Lib.hid hLl
       clear hst hst' hlo hY hX ha hb haE hbE hrel hLl
       go_wp2
       go_roundw
       case rel => exact ⟨i + 1, _, by omega, by go_num, hr', HST.out, hEr.setCell hg _⟩
       case measure => simp [intOf]; omega
     · have hie : i + 1 = m := by omega
       have hst := fun lo => hrel.step (lo := lo) hL0 hlen hlt hs
       rw [← haE, ← getD_out (l := L0) (k := i + 1) (by omega), Nat.mul_zero, Nat.add_zero] at hst
       have hXd : a / 2 ^ s ≤ a := Nat.div_le_self _ _
       have e1 : (a : Int) / 2 ^ s = ((a / 2 ^ s : Nat) : Int) := by push_cast; rfl
       obtain ⟨Y, hY⟩ : ∃ Y, Y = a / 2 ^ s := ⟨_, rfl⟩
       rw [← hY] at e1 hst hXd
       have e2 : (Y : Int) % 4294967296 = (Y : Int) := by omega
       have hst' := hst Y (by omega)
       have HST := Lib.hid hst'
       have hr' := hr.set_ i Y
       have hLl' := Lib.hid hLl
       clear hst hst' hY ha haE hrel hLl hie
       go_wp2
       go_roundw
       case rel => exact ⟨i + 1, _, by omega, by go_num, hr', HST.out, hEr.setCell hg _⟩
       case measure => simp [intOf]; omega
   · have hval := hrel.val
     rw [List.take_of_length_le (by omega)] at hval
     have h1 := nv_lt hL0
     rw [hlen] at h1
     rw [Nat.mod_eq_of_lt (by rw [show i = m by omega]; exact Nat.lt_of_le_of_lt (Nat.div_le_self _ _) h1)] at hval
     have HV := Lib.hid hval
     have hW := hr.wds hrel.ws hLl hmc hcm
     clear hval h1 hrel hLl
     go_wp2_with fail
     refine (ncut_any _ _ _ _ _ hW (by omega)).mono ?_
     rintro e w4 ⟨A4, n4, c4, rfl, hR, hE4⟩
     rw [HV.out] at hR
     go_wp2
     go_ret
     exact ⟨_, _, _, rfl, hR, hEr.trans hE4⟩
theorem Wds.from_ {w : World} {ad : Addr} {n c k : Nat} {xs : List Nat} (h : Wds w (some ad) n c xs) (hk : k ≤ n) : Wds w (some (ad.add k)) (n - k) (c - k) (xs.drop k) := by
 have hl := h.len
 have hlc := h.lec
 have hcm := h.cmax
 refine ⟨by rw [List.length_drop]; omega, by omega, by omega, h.ws.drop k, fun h0 => ?_⟩
 obtain ⟨ad', e, hlt, hc⟩ := h.2.2.2.2 (by omega)
 injection e with e
 subst e
 refine ⟨_, rfl, by rw [block_of_add]; exact hlt, fun j x hj => ?_⟩
 rw [List.getElem?_drop] at hj
 rw [add_of_add]
 exact hc (k + j) x hj
theorem and_low32 (x S : Nat) (hx : x < 4294967296) (hS : S < 32) : bits .and .u32 (x : Int) ((2 ^ S : Int) - 1) = ((x % 2 ^ S : Nat) : Int) := by
 have h1 : 2 ^ S ≤ 2147483648 := Nat.pow_le_pow_right (n := 2) (by omega) (show S ≤ 31 by omega)
 have hp : 0 < 2 ^ S := Nat.two_pow_pos S
 have e : ((2 : Int) ^ S - 1) = ((2 ^ S - 1 : Nat) : Int) := by
   have : ((2 ^ S : Nat) : Int) = (2 : Int) ^ S := by push_cast; rfl
   omega
 rw [e, u32_and_nat _ _ hx (by omega), Nat.and_two_pow_sub_one_eq_mod]
set_option maxHeartbeats 2000000 in
theorem ndown_any (A : Option Addr) (n c : Nat) (xs : List Nat) (s : Nat) (w : World) (h : Wds w A n c xs) (hn : n ≤ 17592186044416) (hs : s ≤ 4611686018427387904) :
   Calls Tryz.prog 97 #[.slice A n c, .int .i64 (s : Int)] w (RetWB (nv xs / 2 ^ s) (lostB (nv xs) s) w) := by
 have hnw := nwords_any A n c xs w h (by omega)
 have hpre := h.pre
 have hle : nw (nv xs) ≤ n := by have := nw_nv_le h.ws; have := h.len; omega
 have hlec := h.lec
 obtain ⟨V, hV⟩ : ∃ V, V = nv xs := ⟨_, rfl⟩
 rw [← hV] at hnw hpre hle ⊢
 have hvn := nv_nd V
 obtain ⟨D, S, hS, hsD⟩ : ∃ D S, S < 32 ∧ s = 32 * D + S := ⟨s / 32, s % 32, Nat.mod_lt _ (by omega), by omega⟩
 have hq : (s : Int) / 32 = (D : Int) := by omega
 have hr : (s : Int) % 32 = (S : Int) := by omega
 obtain ⟨m, hm⟩ : ∃ m, m = nw V := ⟨_, rfl⟩
 have hlt := lt_pow_nw V
 rw [← hm] at hnw hle hpre hlt
 have HN := Lib.hid hnw
 have HD := Lib.hid hsD
 have HM := Lib.hid hm
 have HLT := Lib.hid hlt
 clear hnw hsD h hV hlt
 by_cases hge : m ≤ D
 · have h1 : Hid (nd (V / 2 ^ s) = []) := Lib.hid (by
     rw [HD.out, Nat.pow_add, ← pow32, ← Nat.div_div_eq_div_mul, Nat.div_eq_of_lt (Nat.lt_of_lt_of_le HLT.out (Nat.pow_le_pow_right (by omega) hge)), Nat.zero_div, nd_zero])
   have h2 : Hid (decide (0 < m) = lostB V s) := Lib.hid (by
     have hVs : V < 2 ^ s := by
       rw [HD.out, Nat.pow_add, ← pow32]
       exact Nat.lt_of_lt_of_le HLT.out (Nat.le_trans (Nat.pow_le_pow_right (by omega) hge) (Nat.le_mul_of_pos_right _ (Nat.two_pow_pos S)))
     unfold lostB
     rw [Nat.mod_eq_of_lt hVs, HM.out]
     refine decide_eq_decide.2 ⟨fun h hh => by rw [hh, nw_zero] at h; omega, fun h => ?_⟩
     rcases Nat.eq_zero_or_pos (nw V) with e | e
     · exact absurd (nw_eq_zero.1 e) h
     · exact e)
   clear hvn hm hpre
   cases A
   all_goals
     go_enter Tryz.func97, Tryz.ntmps97
     go_wp2
     go_step3
     go_wp2_with (go_at_call 111; refine HN.out.mono ?_; rintro e w' ⟨rfl, rfl⟩)
     rw [Exit.noGoto_ret]
     go_ret2
     exact ⟨none, 0, 0, by rw [h2.out]; rfl, by rw [h1.out]; exact Wds.nil_ (by unfold maxLen; omega), Ext.refl _⟩
 · have hlt : D < m := by omega
   clear hge
   obtain ⟨ad, hx, rfl, hbl, hc⟩ := hpre.at_ hlt
   have hX32 := hpre.ws.get hx
   have hcz := fun (i : Nat) (hi : i < D) => hpre.at_ (k := i) (show i < m by omega)
   have hlo : Hid (lostB V s = true ↔ nv ((nd V).take D) ≠ 0 ∨ (nd V)[D] % 2 ^ S ≠ 0) := Lib.hid (by
     have := right_mod hpre.ws hx hS
     rw [hvn, ← HD.out] at this
     unfold lostB
     rw [decide_eq_true_iff]
     exact this)
   have hdr : Hid (nv ((nd V).drop D) = V / 4294967296 ^ D) := Lib.hid (by
     have := nv_div_pow hpre.ws (k := D) (by omega)
     rw [hvn] at this
     exact this.symm)
   have hfrom := hpre.from_ (k := D) (by omega)
   have hval : Hid (V / 2 ^ s = V / 4294967296 ^ D / 2 ^ S) := Lib.hid (by rw [HD.out, Nat.pow_add, ← pow32, ← Nat.div_div_eq_div_mul])
   generalize nd V = vs at *
   obtain ⟨x, hxe⟩ : ∃ x, x = vs[D] := ⟨_, rfl⟩
   rw [← hxe] at hc hX32 hlo
   have hand := and_low32 x S hX32 hS
   have hP31 : (2 : Int) ^ S ≤ 2147483648 ∧ (0 : Int) < 2 ^ S := by
     have h1 : 2 ^ S ≤ 2147483648 := Nat.pow_le_pow_right (n := 2) (by omega) (show S ≤ 31 by omega)
     have hp : 0 < 2 ^ S := Nat.two_pow_pos S
     have : ((2 ^ S : Nat) : Int) = (2 : Int) ^ S := by push_cast; rfl
     omega
   obtain ⟨b0, hb0⟩ : ∃ b0, b0 = decide (x % 2 ^ S ≠ 0) := ⟨_, rfl⟩
   have hb0i : ((x : Int) % 2 ^ S != 0) = b0 := by
     rw [hb0]
     have e : ((x : Int) % 2 ^ S) = ((x % 2 ^ S : Nat) : Int) := by push_cast; rfl
     rw [e, Bool.eq_iff_iff, bne_iff_ne, decide_eq_true_iff]
     omega
   have HB0 := Lib.hid hb0
   clear hb0
   have HCZ := Lib.hid hcz
   have HPRE := Lib.hid hpre
   have HFR := Lib.hid hfrom
   have hDc : D < c := by omega
   have hP1 := hP31.1
   have hP2 := hP31.2
   clear hvn hxe hcz hpre hfrom hm hP31
   go_enter Tryz.func97, Tryz.ntmps97
   go_wp2
   go_step3
   go_wp2_with (go_at_call 111; refine HN.out.mono ?_; rintro e w' ⟨rfl, rfl⟩)
   go_quiet (fail)
   go_wp2
   go_step3
   go_wp2
   clear hb0i hand
   go_loop [6, 33] (fun bv iv => ∃ (i : Nat) (b : Bool), i ≤ D ∧ iv = .int .i64 i ∧ bv = .bool b ∧ Hid (b = true → lostB V s = true) ∧ Hid (b = false → x % 2 ^ S = 0 ∧ nv (vs.take i) = 0)) (fun _ iv => D - (intOf iv).toNat)
   case atStart =>
     refine ⟨0, b0, Nat.zero_le _, rfl, rfl, Lib.hid (fun h => ?_), Lib.hid (fun h => ?_)⟩
     · rw [HB0.out, decide_eq_true_iff] at h
       exact hlo.out.2 (.inr h)
     · rw [HB0.out, decide_eq_false_iff_not] at h
       exact ⟨Decidable.not_not.1 h, by simp [nv]⟩
   case round =>
     obtain ⟨i, b, hi, rfl, rfl, hbt, hbf⟩ := hrel
     by_cases hgo : b = false ∧ i < D
     · obtain ⟨rfl, hiD⟩ := hgo
       obtain ⟨ad', hxi, e', _, hci⟩ := HCZ.out i hiD
       injection e' with e'
       subst e'
       have hi32 := HPRE.out.ws.get hxi
       have hv := hbf.out rfl
       have hsucc := nv_take_succ hxi
       obtain ⟨y, hy⟩ : ∃ y, y = vs[i] := ⟨_, rfl⟩
       rw [← hy] at hci hi32 hsucc
       by_cases hy0 : y = 0
       · have HS : Hid (nv (vs.take (i + 1)) = 0) := Lib.hid (by rw [hsucc, hv.2, hy0]; simp)
         have HV := Lib.hid hv
         have hyz : ((y : Int) != 0) = false := by rw [hy0]; rfl
         clear hsucc hy hv hy0
         go_wp2
         go_round
         case rel => exact ⟨i + 1, false, by omega, by go_num, rfl, Lib.hid (fun h => by cases h), Lib.hid (fun _ => ⟨HV.out.1, HS.out⟩)⟩
         case measure => simp [intOf]; omega
       · have HS : Hid (lostB V s = true) := Lib.hid (hlo.out.2 (.inl (by
           have h1 := nv_take_drop (vs.take D) (i + 1) (by rw [List.length_take]; omega)
           rw [List.take_take, Nat.min_eq_left (by omega)] at h1
           have hp : 0 < 4294967296 ^ i * y := Nat.mul_pos (Nat.pow_pos (by omega)) (Nat.pos_of_ne_zero hy0)
           omega)))
         have hyz : ((y : Int) != 0) = true := by rw [bne_iff_ne]; omega
         clear hsucc hy hv hy0
         go_wp2
         go_round
         case rel => exact ⟨i + 1, true, by omega, by go_num, rfl, Lib.hid (fun _ => HS.out), Lib.hid (fun h => by cases h)⟩
         case measure => simp [intOf]; omega
     · have hb : Hid (b = lostB V s) := Lib.hid (by
         cases b
         · have hie : i = D := by
             rcases Nat.lt_or_ge i D with h | h
             · exact absurd ⟨rfl, h⟩ hgo
             · omega
           have h1 := hbf.out rfl
           rw [hie] at h1
           symm
           rw [Bool.eq_false_iff]
           intro h
           rcases hlo.out.1 h with h2 | h2
           · exact h2 h1.2
           · exact h2 h1.1
         · exact (hbt.out rfl).symm)
       have hcase : (b = true ∧ i < D) ∨ D ≤ i := by
         rcases Nat.lt_or_ge i D with h | h
         · left
           cases b
           · exact absurd ⟨rfl, h⟩ hgo
           · exact ⟨rfl, h⟩
         · exact .inr h
       clear hgo
       rcases hcase with ⟨rfl, hiD⟩ | hiD
       all_goals
         go_wp2_with fail
         refine (nnorm_any _ _ _ _ _ (HFR.out.drewN _) (by omega)).mono ?_
         rintro e w4 ⟨g, k, rfl, hr4, hg4, hk4, hE4⟩
         have hk5 : k ≤ m := by rw [hk4]; have h1 := nw_nv_le HFR.out.ws; have h2 := HFR.out.len; omega
         have hE5 : Ext w w4 := ((Ext.refl w).drewN _).trans hE4
         have HK := Lib.hid hk4
         clear hk4
         go_wp2_with fail
         refine (nback_any g k k _ S w w4 hr4 (Ws.nd _) (by rw [nd_length]; exact HK.out.symm) (by omega) (Nat.le_refl _) (by unfold maxLen; omega) hS hE5 hg4).mono ?_
         rintro e w6 ⟨A6, n6, c6, rfl, hR, hE6⟩
         go_wp2
         rw [Exit.noGoto_ret]
         go_ret2
         refine ⟨A6, n6, c6, ?_, by rw [hval.out, ← hdr.out]; rw [nv_nd] at hR; exact hR, hE6⟩
         rw [← hb.out]
         rfl
theorem nlong_raw (g c : Nat) (A : Option Addr) (n d : Nat) (xs : List Nat) (w : World) (hc : w.cell? ⟨g, 0, none⟩ = some (.slice A n d)) (h : Wds w A n d xs) (hn : n ≤ 35184372088832) (hs : nw (nv xs) ≤ 16384) :
   Calls Tryz.prog 96 #[.slice (some ⟨g, 0, none⟩) 1 c] w fun e w' => e = .returned (.bool false) ∧ w = w' :=
 (nlong_any g 1 c [⟨A, n, d, xs⟩] w rfl (by omega) (fun i s hs => by
   match i, hs with
   | 0, hs => simp at hs; subst hs; exact hc
   | i + 1, hs => simp at hs) (fun s hs => by simp at hs; subst hs; exact ⟨h, hn⟩)).mono fun e w' h => ⟨by rw [h.1]; exact ret_bool (by simp [isLong]; omega), h.2⟩
def RetWBE (V : Nat) (b : Bool) (x : Int) (w : World) (e : Ending) (w' : World) : Prop := ∃ A n c, e = .returned (.tuple #[.slice A n c, .bool b, .int .i64 x]) ∧ Wds w' A n c (nd V) ∧ Ext w w'
set_option maxHeartbeats 1000000 in
theorem nshr_any (A : Option Addr) (n c : Nat) (xs : List Nat) (s : Nat) (w : World) (h : Wds w A n c xs) (hn : n ≤ 17592186044416) (hs : s ≤ 4611686018427387904) (hnl : nw (nv xs) ≤ 16384) :
   Calls Tryz.prog 83 #[.slice A n c, .int .i64 (s : Int)] w (RetWBE (nv xs / 2 ^ s) (lostB (nv xs) s) 0 w) := by
 have h1 := h.alloc (.cells #[.slice A n c] 35)
 have hL := fun g w hc h => nlong_raw g 1 A n c xs w hc h (by omega) hnl
 have hD := fun w h => ndown_any A n c xs s w h hn hs
 obtain ⟨Q, hQ⟩ : ∃ Q, Q = nv xs / 2 ^ s := ⟨_, rfl⟩
 obtain ⟨B, hB⟩ : ∃ B, B = lostB (nv xs) s := ⟨_, rfl⟩
 rw [← hQ, ← hB] at hD ⊢
 have HL := Lib.hid hL
 have HD := Lib.hid hD
 clear hL hD hQ hB
 go_enter Tryz.func83, Tryz.ntmps83
 go_wp2_with (first | (go_at_call 96; refine (HL.out _ _ (by simp) h1).mono ?_; rintro e w' ⟨rfl, rfl⟩) | (go_at_call 97; refine (HD.out _ h1).mono ?_; rintro e w' ⟨A2, n2, c2, rfl, hR, hE⟩))
 go_ret3
 exact ⟨A2, n2, c2, rfl, hR, ((Ext.refl w).alloc _).trans hE⟩
set_option maxHeartbeats 1000000 in
theorem nword_any (A : Option Addr) (n c : Nat) (xs : List Nat) (w : World) (h : Wds w A n c xs) (hn : n ≤ 17592186044416) (hs : nw (nv xs) ≤ 2) :
   Calls Tryz.prog 115 #[.slice A n c] w fun e w' => e = .returned (.tuple #[.int .u64 (nv xs : Int), .bool true]) ∧ ∃ q, w' = w.drewN q := by
 have hnw := nwords_any A n c xs w h (by omega)
 have hle : nw (nv xs) ≤ n := by have := nw_nv_le h.ws; have := h.len; omega
 have htk := nd_take h.ws
 have hvn := nv_nd (nv xs)
 have hlx := h.len
 obtain ⟨V, hV⟩ : ∃ V, V = nv xs := ⟨_, rfl⟩
 rw [← hV] at hnw hle hs htk hvn ⊢
 obtain ⟨m, hm⟩ : ∃ m, m = nw V := ⟨_, rfl⟩
 rw [← hm] at hnw hle hs htk
 match m, hs with
 | 0, _ =>
   have hF : (0 : Int) = (V : Int) := by rw [nw_eq_zero.1 hm.symm]; rfl
   have HF := Lib.hid hF
   have HN := Lib.hid hnw
   clear hF hnw hm htk hvn hV
   go_enter Tryz.func115, Tryz.ntmps115
   go_wp2_with (go_at_call 111; refine HN.out.mono ?_; rintro e w' ⟨rfl, rfl⟩)
   go_ret2
   exact ⟨by rw [← HF.out]; rfl, 0, rfl⟩
 | 1, _ =>
   obtain ⟨ad, hx, rfl, hb, hc⟩ := h.at_ (k := 0) (by omega)
   have hF : (xs[0] : Int) = (V : Int) := by
     rw [htk, List.take_succ_eq_append_getElem hx] at hvn
     simp [nv] at hvn
     omega
   have hX := h.ws.get hx
   obtain ⟨x, hxe⟩ : ∃ x, x = xs[0] := ⟨_, rfl⟩
   rw [← hxe] at hc hF hX
   have hc' : w.cell? ad = some (.int .u32 (x : Int)) := by simpa [Addr.add] using hc
   have HF := Lib.hid hF
   have HN := Lib.hid hnw
   clear hF hnw hm htk hvn hV hxe
   go_enter Tryz.func115, Tryz.ntmps115
   go_wp2_with (go_at_call 111; refine HN.out.mono ?_; rintro e w' ⟨rfl, rfl⟩)
   go_ret2
   exact ⟨by rw [← HF.out]; rfl, 0, rfl⟩
 | 2, _ =>
   obtain ⟨ad, hx, rfl, hb, hc⟩ := h.at_ (k := 0) (by omega)
   obtain ⟨ad', hx1, e', _, hc1⟩ := h.at_ (k := 1) (by omega)
   injection e' with e'
   subst e'
   have hX := h.ws.get hx
   have hY := h.ws.get hx1
   have hF : xs[0] + 4294967296 * xs[1] = V := by
     rw [htk, List.take_succ_eq_append_getElem hx1, List.take_succ_eq_append_getElem hx] at hvn
     simp [nv] at hvn
     omega
   obtain ⟨x, hxe⟩ : ∃ x, x = xs[0] := ⟨_, rfl⟩
   obtain ⟨y, hye⟩ : ∃ y, y = xs[1] := ⟨_, rfl⟩
   rw [← hxe] at hc hF hX
   rw [← hye] at hc1 hF hY
   have hc' : w.cell? ad = some (.int .u32 (x : Int)) := by simpa [Addr.add] using hc
   have hc1' : w.cell? { block := ad.block, off := ad.off + 1, spot := none } = some (.int .u32 (y : Int)) := by simpa [Addr.add] using hc1
   have b1 : (1 : Int) < (n : Int) := by omega
   have b0 : 0 < n := by omega
   have b2 : (0 : Int) < (n : Int) := by omega
   have b3 : 1 < n := by omega
   have hor := word_or4 y x hY hX
   rw [hF] at hor
   have HO := Lib.hid hor
   have HN := Lib.hid hnw
   have hyV : (y : Int) * 4294967296 ≤ 18446744069414584320 := by omega
   clear hF hnw hm htk hvn hV hxe hye hor
   go_enter Tryz.func115, Tryz.ntmps115
   go_wp2_with (go_at_call 111; refine HN.out.mono ?_; rintro e w' ⟨rfl, rfl⟩)
   go_quiet (fail)
   go_wp2
   go_ret2
   exact ⟨by rw [← HO.out]; rfl, _, rfl⟩
end Go.Proofs.YtbcaggdgoidlaaaGreatDoor
