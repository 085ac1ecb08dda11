/-
 The contracts of the program's Ratio, of small numbers, and of quotient. Conditions: those that each theorem names.
-/
import Derived.Test.YtbcaggdgoidlaaaGreatDoorH12
import Derived.Test.YtbcaggdgoidlaaaGreatDoorH07
import Derived.Test.YtbcaggdgoidlaaaGreatDoorH09
import Derived.Test.YtbcaggdgoidlaaaGreatDoorH14
import Derived.Test.YtbcaggdgoidlaaaGreatDoorH06
import Derived.Test.YtbcaggdgoidlaaaGreatDoorH17
namespace Go.Proofs.YtbcaggdgoidlaaaGreatDoor
open Go.RowKit Nm Rn
set_option maxRecDepth 100000
set_option linter.unusedVariables false
set_option linter.unusedSimpArgs false
def Same75 (N D : Nat) (e : Int) (N' M : Nat) : Prop := ∃ A B : Nat, (A : Int) - B = e + 1075 ∧ 0 < M ∧ 0 < D ∧ N * 2 ^ A * M = N' * (D * 2 ^ B)
theorem Same75.zero {D : Nat} {e : Int} {N' M : Nat} (h : Same75 0 D e N' M) (d : Int) (neg : Bool) : rnd d neg (zq N' M) = 0 := by
 obtain ⟨A, B, _, hM, hD, h⟩ := h
 rw [Nat.zero_mul, Nat.zero_mul] at h
 have h0 : N' = 0 := by
   rcases Nat.eq_zero_or_pos N' with e | e
   · exact e
   · have := Nat.mul_pos e (Nat.mul_pos hD (two_pow_pos B)); omega
 rw [h0, show zq 0 M = 0 by simp [zq], rnd_zero]
theorem Same75.tiny {N D : Nat} {e : Int} {N' M : Nat} (h : Same75 N D e N' M) (hN : N ≠ 0) (ht : (bl N : Int) - bl D + e < -1100) (d : Int) (neg : Bool) : rnd d neg (zd (2 * 1) (-1200 - 1)) = rnd d neg (zq N' M) := by
 obtain ⟨A, B, hAB, hM, hD, h⟩ := h
 rw [zd_tiny (by omega) (by rw [show bl 1 = 1 from rfl]; omega)]
 congr 1
 have h1 := lt_pow_bl N
 have h2 := pow_le_of_bl (n := D) (by omega)
 have h3 : N * 2 ^ A < D * 2 ^ B := by
   have a1 : N * 2 ^ A < 2 ^ bl N * 2 ^ A := (Nat.mul_lt_mul_right (two_pow_pos A)).2 h1
   have a2 : 2 ^ (bl D - 1) * 2 ^ B ≤ D * 2 ^ B := Nat.mul_le_mul_right _ h2
   rw [← Nat.pow_add] at a1 a2
   have a3 : 2 ^ (bl N + A) ≤ 2 ^ (bl D - 1 + B) := Nat.pow_le_pow_right (by omega) (by have := bl_pos (n := D) (by omega); omega)
   omega
 have hN' : N' ≠ 0 := by
   intro h0
   rw [h0, Nat.zero_mul] at h
   have := Nat.mul_pos (Nat.mul_pos (show 0 < N by omega) (two_pow_pos A)) hM
   omega
 have hlt : N' < M := by
   rcases Nat.lt_or_ge N' M with c | c
   · exact c
   · have b1 := Nat.mul_le_mul_right (D * 2 ^ B) c
     have b2 : N * 2 ^ A * M < D * 2 ^ B * M := (Nat.mul_lt_mul_right hM).2 h3
     rw [Nat.mul_comm M] at b1
     omega
 unfold zq
 rw [Nat.div_eq_of_lt hlt, Nat.mod_eq_of_lt hlt, if_neg hN']
theorem Same75.main {N D : Nat} {e : Int} {N' M k : Nat} (h : Same75 N D e N' M) (hk : 57 + bl D = k + bl N) (hN : N ≠ 0) (d : Int) (neg : Bool) :
   rnd d neg (zd (2 * (N * 2 ^ k / D) + (decide (N * 2 ^ k % D ≠ 0)).toNat) (e - k - 1)) = rnd d neg (zq N' M) ∧ 55 ≤ bl (N * 2 ^ k / D) := by
 obtain ⟨A, B, hAB, hM, hD, h⟩ := h
 have hb : 55 ≤ bl (N * 2 ^ k / D) := by
   have h1 : bl (N * 2 ^ k) = 57 + bl D := by rw [bl_mul_pow k hN]; omega
   have h2 := pow_le_of_bl (n := N * 2 ^ k) (by have := Nat.mul_pos (show 0 < N by omega) (two_pow_pos k); omega)
   rw [h1] at h2
   have h3 := lt_pow_bl D
   have h4 : 2 ^ 56 ≤ N * 2 ^ k / D := by
     rw [Nat.le_div_iff_mul_le hD]
     have : 2 ^ 56 * D ≤ 2 ^ 56 * 2 ^ bl D := Nat.mul_le_mul_left _ (Nat.le_of_lt h3)
     rw [← Nat.pow_add] at this
     rw [show 57 + bl D - 1 = 56 + bl D by omega] at h2
     omega
   have : ¬ bl (N * 2 ^ k / D) ≤ 54 := by
     rw [bl_le_iff]
     have : 2 ^ 54 ≤ 2 ^ 56 := Nat.pow_le_pow_right (by omega) (by omega)
     omega
   omega
 refine ⟨rnd_quo (X := N * 2 ^ k) (Y := D) (A := A) (B := B + k) hD hM rfl rfl (fun _ => hb) (by omega) ?_ d neg, hb⟩
 rw [Nat.pow_add]
 have a1 : N * 2 ^ k * 2 ^ A * M = N * 2 ^ A * M * 2 ^ k := by simp only [Nat.mul_assoc, Nat.mul_comm, Nat.mul_left_comm]
 have a2 : N' * (D * (2 ^ B * 2 ^ k)) = N' * (D * 2 ^ B) * 2 ^ k := by simp only [Nat.mul_assoc, Nat.mul_comm, Nat.mul_left_comm]
 rw [a1, a2, h]
end Go.Proofs.YtbcaggdgoidlaaaGreatDoor

namespace Go.Proofs.YtbcaggdgoidlaaaGreatDoor
open Go.RowKit Nm Rn
set_option maxRecDepth 100000
set_option linter.unusedVariables false
set_option linter.unusedSimpArgs false
def RetRat (d : Int) (neg : Bool) (N D : Nat) (E : Int) (w : World) (e : Ending) (w' : World) : Prop :=
 ∃ k : Nat, e = .returned (.float .f64 (rnd d neg (zd (2 * (N * 2 ^ k / D) + (decide (N * 2 ^ k % D ≠ 0)).toNat) (E - k - 1)))) ∧ (decide (N * 2 ^ k % D ≠ 0) = true → 55 ≤ bl (N * 2 ^ k / D)) ∧ Ext w w'
structure LongRel (N D k0 b0 k q r : Nat) : Prop where
 val : N * 2 ^ k = q * D + r
 lt : r < D
 zero : q = 0 → D ≤ 2 * r
 dig : k + b0 = k0 + bl q
theorem bl_two (q b : Nat) (hb : b ≤ 1) (h : 2 * q + b ≠ 0) : bl (2 * q + b) = bl q + 1 := by
 rw [bl_half h, show (2 * q + b) / 2 = q by omega]
theorem LongRel.one {N D k0 b0 k q r : Nat} (h : LongRel N D k0 b0 k q r) (hr : D - r ≤ r) : LongRel N D k0 b0 (k + 1) (q * 2 ^ 1 + 1) (r - (D - r)) := by
 have hv := h.val
 have hl := h.lt
 refine ⟨?_, by omega, by omega, ?_⟩
 · rw [Nat.pow_succ, ← Nat.mul_assoc, hv, Nat.pow_one, Nat.add_mul, Nat.add_mul, Nat.one_mul, Nat.mul_right_comm]
   omega
 · have := bl_two q 1 (by omega) (by omega)
   rw [Nat.pow_one, Nat.mul_comm q 2, this]
   have := h.dig
   omega
theorem LongRel.nought {N D k0 b0 k q r : Nat} (h : LongRel N D k0 b0 k q r) (hr : ¬ D - r ≤ r) : LongRel N D k0 b0 (k + 1) (q * 2 ^ 1) (r + r) := by
 have hv := h.val
 have hl := h.lt
 have hq : q ≠ 0 := fun e => by have := h.zero e; omega
 refine ⟨?_, by omega, by omega, ?_⟩
 · rw [Nat.pow_succ, ← Nat.mul_assoc, hv, Nat.pow_one, Nat.add_mul, Nat.mul_right_comm]
   omega
 · have := bl_two q 0 (by omega) (by omega)
   rw [Nat.add_zero] at this
   rw [Nat.pow_one, Nat.mul_comm q 2, this]
   have := h.dig
   omega
theorem LongRel.quo {N D k0 b0 k q r : Nat} (h : LongRel N D k0 b0 k q r) : N * 2 ^ k / D = q ∧ N * 2 ^ k % D = r := by
 have hl := h.lt
 have hD : 0 < D := by omega
 rw [h.val]
 constructor
 · rw [Nat.add_comm, Nat.add_mul_div_right _ _ hD, Nat.div_eq_of_lt hl, Nat.zero_add]
 · rw [Nat.add_comm, Nat.add_mul_mod_self_right, Nat.mod_eq_of_lt hl]
set_option maxHeartbeats 8000000 in
theorem rlong_any (d : Int) (neg : Bool) (A : Option Addr) (n c : Nat) (xs : List Nat) (B : Option Addr) (m dd : Nat) (ys : List Nat) (exp : Int) (w : World) (h : Wds w A n c xs) (hn : n ≤ 8796093022208) (k : Wds w B m dd ys) (hm : m ≤ 8796093022208)
   (hN : nv xs ≠ 0) (hD : nv ys ≠ 0) (hNn : bl (nv xs) ≤ 524288) (hDn : bl (nv ys) ≤ 524288) (e1 : -1099511627776 ≤ exp) (e2 : exp ≤ 1099511627776) :
   Calls Tryz.prog 106 #[.int .i64 d, .bool neg, .slice A n c, .slice B m dd, .int .i64 exp] w (RetRat d neg (nv xs) (nv ys) exp w) := by
 have HL1 := Lib.hid (fun w h => nlen_any A n c xs w h (by omega))
 have HL2 := Lib.hid (fun w h => nlen_any B m dd ys w h (by omega))
 have hSH := fun s w h hs => nshl_any A n c xs s w h (by omega) hN hs
 have hQ := fun (A1 : Option Addr) (n1 c1 : Nat) (s : Nat) (w : World) (h : Wds w A1 n1 c1 (nd s)) (k : Wds w B m dd ys) (hs : nw s ≤ 16384) => nquo_any A1 n1 c1 (nd s) B m dd ys w h (by have := h.len; rw [nd_length] at this; omega) k hm (by rw [nv_nd]; exact hs) (nw_of_bl hDn) hD
 have hSB := fun (A1 : Option Addr) (n1 c1 : Nat) (r : Nat) (w : World) (k : Wds w B m dd ys) (h : Wds w A1 n1 c1 (nd r)) (hr : r ≤ nv ys) (hs : nw r ≤ 16384) => nsub_any B m dd ys A1 n1 c1 (nd r) w k hm h (by have := h.len; rw [nd_length] at this; omega) (nw_of_bl hDn) (by rw [nv_nd]; exact hs) (by rw [nv_nd]; exact hr)
 simp only [nv_nd] at hQ hSB
 obtain ⟨V, hV⟩ : ∃ V, V = nv xs := ⟨_, rfl⟩
 obtain ⟨D, hDe⟩ : ∃ D, D = nv ys := ⟨_, rfl⟩
 rw [← hV] at HL1 hN hNn hSH ⊢
 rw [← hDe] at HL2 hD hDn hQ hSB ⊢
 have hDnw : nw D ≤ 16384 := nw_of_bl hDn
 obtain ⟨bV, hbV⟩ : ∃ b, b = bl V := ⟨_, rfl⟩
 obtain ⟨bD, hbD⟩ : ∃ b, b = bl D := ⟨_, rfl⟩
 have hbVp : 1 ≤ bV := by rw [hbV]; exact bl_pos hN
 have hbDp : 1 ≤ bD := by rw [hbD]; exact bl_pos hD
 rw [← hbV] at HL1 hNn hSH
 rw [← hbD] at HL2 hDn
 obtain ⟨k0, hk0⟩ : ∃ k0, k0 = bD - bV := ⟨_, rfl⟩
 have hk0e : max 0 ((bD : Int) - (bV : Int)) = (k0 : Int) := by omega
 have hSH0 := hSH k0
 obtain ⟨s, hs⟩ : ∃ s, s = V * 2 ^ k0 := ⟨_, rfl⟩
 have hsb : bl s = bV + k0 := by rw [hs, bl_mul_pow k0 hN, ← hbV]
 have hsn : nw s ≤ 16384 := nw_of_bl (by omega)
 have HSH := Lib.hid (fun w h => hSH0 w h (by omega))
 rw [← hs] at HSH
 have HQ := Lib.hid (fun A1 n1 c1 w h k => hQ A1 n1 c1 s w h k hsn)
 obtain ⟨q0, hq0⟩ : ∃ q, q = s / D := ⟨_, rfl⟩
 obtain ⟨r0, hr0⟩ : ∃ r, r = s % D := ⟨_, rfl⟩
 rw [← hq0, ← hr0] at HQ
 have hdm := Nat.div_add_mod s D
 rw [← hq0, ← hr0, Nat.mul_comm] at hdm
 have hr0l : r0 < D := by rw [hr0]; exact Nat.mod_lt _ (by omega)
 have HREL := Lib.hid (show LongRel V D k0 (bl q0) k0 q0 r0 from ⟨by rw [← hs]; exact hdm.symm, hr0l, fun hz => by
   rw [hz, Nat.zero_mul, Nat.zero_add] at hdm
   have h3 := pow_le_of_bl (n := s) (by have := Nat.mul_pos (show 0 < V by omega) (two_pow_pos k0); omega)
   have h4 := lt_pow_bl D
   rw [hsb] at h3
   rw [← hbD] at h4
   have h5 : 2 ^ bD ≤ 2 ^ (bV + k0 - 1 + 1) := Nat.pow_le_pow_right (by omega) (by omega)
   rw [Nat.pow_succ] at h5
   omega, rfl⟩)
 have HQ0 : Hid (nw q0 ≤ 16384) := Lib.hid (Nat.le_trans (nw_mono (by rw [hq0]; exact Nat.div_le_self _ _)) hsn)
 have HSB := Lib.hid hSB
 have HDN := Lib.hid hDnw
 have hcase : (k0 = 0 ∧ ¬ (0 : Int) < (bD : Int) - (bV : Int)) ∨ ((0 : Int) < (bD : Int) - (bV : Int) ∧ (bD : Int) - (bV : Int) = (k0 : Int)) := by omega
 have hk524 : k0 ≤ 524288 := by omega
 have HZ := Lib.hid hD
 clear hk0e hSH hSH0 hQ hSB hV hDe hbV hbD hs hsb hsn hq0 hr0 hdm hr0l hk0 hN hD hDnw
 rcases hcase with ⟨hz, hneg⟩ | ⟨hpos, hke⟩
 rw [show (k0 : Int) = 0 by omega] at HSH
 all_goals
   go_enter Tryz.func106, Tryz.ntmps106
   go_wp2_with (first | (go_at_call 99; (first | (with_reducible refine (HL1.out _ h).mono ?_) | (with_reducible refine (HL2.out _ k).mono ?_)); rintro e w' ⟨rfl, rfl⟩))
   refine (HSH.out _ h).mono ?_
   rintro e w1 ⟨A1, n1, c1, rfl, hW1, hE1⟩
   go_wp2_with fail
   refine (HQ.out _ _ _ _ hW1 (k.ext hE1)).mono ?_
   rintro e w2 ⟨A2, n2, c2, A3, n3, c3, rfl, hW2, hW3, hE2⟩
   have hE := hE1.trans hE2
   clear HSH HQ HL1 HL2 hW1 hE1 hE2
   go_wp2_with fail
   go_loopw [11, 14, 15] (fun kv qv rv wr => ∃ (kk q r : Nat) (A2 : Option Addr) (n2 c2 : Nat) (A3 : Option Addr) (n3 c3 : Nat), kv = .int .i64 (kk : Int) ∧ qv = .slice A2 n2 c2 ∧ rv = .slice A3 n3 c3 ∧ Wds wr A2 n2 c2 (nd q) ∧ Wds wr A3 n3 c3 (nd r) ∧ Ext w wr ∧ Hid (nw q ≤ 16384) ∧ Hid (LongRel V D k0 (bl q0) kk q r)) (fun kv _ _ _ => 600000 - (intOf kv).toNat)
   case atStart => exact ⟨k0, q0, r0, A2, n2, c2, A3, n3, c3, by first | rfl | exact val_int (by omega), rfl, rfl, hW2, hW3, hE, HQ0, HREL⟩
   case round =>
     obtain ⟨kk, q, r, A2, n2, c2, A3, n3, c3, rfl, rfl, rfl, hWq, hWr, hEr, hqn, hrel⟩ := hrel
     have hn2 : n2 ≤ 16384 := by have := hWq.len; rw [nd_length] at this; have := hqn.out; omega
     have hrn : nw r ≤ 16384 := Nat.le_trans (nw_mono (Nat.le_of_lt hrel.out.lt)) HDN.out
     have hn3 : n3 ≤ 16384 := by have := hWr.len; rw [nd_length] at this; omega
     have hn3r : n3 = nw r := by have := hWr.len; rw [nd_length] at this; omega
     have hLq := fun w h => nlen_any A2 n2 c2 (nd q) w h (by omega)
     rw [nv_nd] at hLq
     have HLQ := Lib.hid hLq
     have hdig := hrel.out.dig
     obtain ⟨bq, hbq⟩ : ∃ b, b = bl q := ⟨_, rfl⟩
     rw [← hbq] at HLQ hdig
     clear hLq
     by_cases hex : 57 ≤ bq ∨ r = 0
     · have hquo := hrel.out.quo
       have hmb : decide (V * 2 ^ kk % D ≠ 0) = true → 55 ≤ bl (V * 2 ^ kk / D) := by
         rw [hquo.1, hquo.2, ← hbq]
         intro hh
         have := of_decide_eq_true hh
         omega
       have hkb : (kk : Int) ≤ 2000000 := by
         have h1 : bl q0 ≤ 524288 := by have := bl_le_nw q0; have := HQ0.out; omega
         have h2 : bl q ≤ 524288 := by have := bl_le_nw q; have := hqn.out; omega
         omega
       have hOF := fun w (hw : Wds w A2 n2 c2 (nd q)) => of_any d neg A2 n2 c2 (nd q) (exp - kk) (decide (r ≠ 0)) w hw (by omega) (by rw [nv_nd]; exact hqn.out) (by omega) (by omega) (fun hh => by rw [nv_nd]; have h9 := hmb (by rw [hquo.2]; exact hh); rw [hquo.1] at h9; exact h9)
       simp only [nv_nd] at hOF
       obtain ⟨R, hR⟩ : ∃ R, R = rnd d neg (zd (2 * q + (decide (r ≠ 0)).toNat) (exp - kk - 1)) := ⟨_, rfl⟩
       rw [← hR] at hOF
       have HRES : Hid (R = rnd d neg (zd (2 * (V * 2 ^ kk / D) + (decide (V * 2 ^ kk % D ≠ 0)).toNat) (exp - kk - 1))) := Lib.hid (by rw [hR, hquo.1, hquo.2])
       have HMB := Lib.hid hmb
       have HOF := Lib.hid hOF
       clear hOF hmb hquo hrel hbq hR
       have HRN := Lib.hid hn3r
       have HDK := Lib.hid hkb
       by_cases hr0 : r = 0
       · have hn30 : n3 = 0 := by rw [HRN.out, hr0]; rfl
         subst hn30
         rw [show decide (r ≠ 0) = false by rw [hr0]; rfl] at HOF
         have HK := Lib.hid hex
         by_cases hb57 : 57 ≤ bq
         · have hlt1 : ¬ (bq : Int) < 57 := by omega
           clear hex hn3r hdig
           go_wp2_with fail
           refine (HLQ.out _ hWq).mono ?_
           rintro e w' ⟨rfl, rfl⟩
           go_wp2_with fail
           refine (HOF.out _ hWq).mono ?_
           rintro e w5 ⟨rfl, hE5⟩
           go_wp2
           go_ret
           exact ⟨kk, ret_float HRES.out, HMB.out, hEr.trans hE5⟩
         · have hlt1 : (bq : Int) < 57 := by omega
           clear hex hn3r hdig
           go_wp2_with fail
           refine (HLQ.out _ hWq).mono ?_
           rintro e w' ⟨rfl, rfl⟩
           go_wp2_with fail
           refine (HOF.out _ hWq).mono ?_
           rintro e w5 ⟨rfl, hE5⟩
           go_wp2
           go_ret
           exact ⟨kk, ret_float HRES.out, HMB.out, hEr.trans hE5⟩
       · have hb57 : 57 ≤ bq := by rcases hex with h | h; exact h; exact absurd h hr0
         have hlt1 : ¬ (bq : Int) < 57 := by omega
         have hn30 : 0 < n3 := by
           rcases Nat.eq_zero_or_pos n3 with e | e
           · exact absurd (nw_eq_zero.1 (by rw [← HRN.out]; exact e)) hr0
           · exact e
         rw [decide_eq_true hr0] at HOF
         have HR0 := Lib.hid hr0
         clear hex hn3r hdig hr0
         go_wp2_with fail
         refine (HLQ.out _ hWq).mono ?_
         rintro e w' ⟨rfl, rfl⟩
         go_wp2_with fail
         refine (HOF.out _ hWq).mono ?_
         rintro e w5 ⟨rfl, hE5⟩
         go_wp2
         go_ret
         exact ⟨kk, ret_float HRES.out, HMB.out, hEr.trans hE5⟩
     · have hlt57 : bq < 57 := by omega
       have hr0' : r ≠ 0 := fun e => hex (.inr e)
       have hn3p : 0 < n3 := by
         rcases Nat.eq_zero_or_pos n3 with e | e
         · exact absurd (nw_eq_zero.1 (by rw [← hn3r]; exact e)) hr0'
         · exact e
       have hq57 : bl q ≤ 56 := by rw [← hbq]; omega
       have hSQ : ∀ w, Wds w A2 n2 c2 (nd q) → Calls Tryz.prog 104 #[.slice A2 n2 c2, .int .i64 ((1 : Nat) : Int)] w (RetWE (q * 2 ^ 1) 0 w) := fun w hw => by
         by_cases hq0 : q = 0
         · have := nshl_zero A2 n2 c2 (nd q) 1 w hw (by omega) (by omega) (by rw [nv_nd]; exact hq0)
           rw [hq0, Nat.zero_mul]
           exact this
         · have := nshl_any A2 n2 c2 (nd q) 1 w hw (by omega) (by rw [nv_nd]; exact hq0) (by rw [nv_nd]; omega)
           rw [nv_nd] at this
           exact this
       rw [show ((1 : Nat) : Int) = 1 from rfl] at hSQ
       have HSQ := Lib.hid hSQ
       have hrD := Nat.le_of_lt hrel.out.lt
       have HS1 := Lib.hid (fun w k h => HSB.out A3 n3 c3 r w k h hrD hrn)
       obtain ⟨rest, hrest⟩ : ∃ x, x = D - r := ⟨_, rfl⟩
       rw [← hrest] at HS1
       have hrestn : nw rest ≤ 16384 := Nat.le_trans (nw_mono (by omega)) HDN.out
       have hCM := fun (A4 : Option Addr) (n4 c4 : Nat) (w : World) (h : Wds w A3 n3 c3 (nd r)) (k : Wds w A4 n4 c4 (nd rest)) => ncmp_any A3 n3 c3 (nd r) A4 n4 c4 (nd rest) w h (by omega) k (by have := k.len; rw [nd_length] at this; omega)
       simp only [nv_nd] at hCM
       have HCM := Lib.hid hCM
       have hlt1 : (bq : Int) < 57 := by omega
       have hq2 : nw (q * 2 ^ 1) ≤ 3 ∧ nw (q * 2 ^ 1 + 1) ≤ 3 := by
         have h1 := (bl_le_iff q 56).1 hq57
         constructor
         · rw [nw_le_iff]; omega
         · rw [nw_le_iff]; omega
       have hkk : kk < 600000 - 1 := by
         have h1 : bl q0 ≤ 524288 := by have := bl_le_nw q0; have := HQ0.out; omega
         omega
       clear hSQ hCM
       by_cases hge : D - r ≤ r
       · have hcc : 0 ≤ cmpN r rest := by unfold cmpN; rw [if_neg (by omega)]; split <;> omega
         obtain ⟨cc, hcce⟩ : ∃ cc, cc = cmpN r rest := ⟨_, rfl⟩
         rw [← hcce] at HCM hcc
         have HREL2 := Lib.hid (hrel.out.one hge)
         rw [← hrest] at HREL2
         have hAD := fun (A4 : Option Addr) (n4 c4 : Nat) (gg : Nat) (w : World) (h : Wds w A4 n4 c4 (nd (q * 2 ^ 1))) (k : Wds w (some ⟨gg, 0, none⟩) 1 1 [1]) => nadd_any A4 n4 c4 (nd (q * 2 ^ 1)) (some ⟨gg, 0, none⟩) 1 1 [1] w h (by have := h.len; rw [nd_length] at this; omega) k (by omega) (by rw [nv_nd]; omega) (by rw [show nv [1] = 1 from rfl, show nw 1 = 1 from rfl]; omega) (by rw [nv_nd, show nv [1] = 1 from rfl]; omega)
         simp only [nv_nd, show nv [1] = 1 from rfl] at hAD
         have HAD := Lib.hid hAD
         have hS2 := fun (A4 : Option Addr) (n4 c4 : Nat) (w : World) (h : Wds w A3 n3 c3 (nd r)) (k : Wds w A4 n4 c4 (nd rest)) => nsub_any A3 n3 c3 (nd r) A4 n4 c4 (nd rest) w h (by omega) k (by have := k.len; rw [nd_length] at this; omega) (by rw [nv_nd]; exact hrn) (by rw [nv_nd]; exact hrestn) (by rw [nv_nd, nv_nd]; omega)
         simp only [nv_nd] at hS2
         have HS2 := Lib.hid hS2
         have HQ2 := Lib.hid (show nw (q * 2 ^ 1 + 1) ≤ 16384 by omega)
         generalize q * 2 ^ 1 + 1 = q' at HAD HREL2 HQ2
         generalize q * 2 ^ 1 = q1 at HSQ HAD
         generalize r - rest = r' at HS2 HREL2
         clear hAD hS2 hcce hrest hge hq2 hrel hex hbq hdig hrD hrn hrestn hn3r hq57 hr0' hqn
         go_wp2_with fail
         refine (HLQ.out _ hWq).mono ?_
         rintro e w' ⟨rfl, rfl⟩
         go_wp2_with fail
         refine (HSQ.out _ hWq).mono ?_
         rintro e w1 ⟨A4, n4, c4, rfl, hW4, hE1⟩
         go_wp2_with fail
         refine (HS1.out _ (k.ext (hEr.trans hE1)) (hWr.ext hE1)).mono ?_
         rintro e w2 ⟨A5, n5, c5, rfl, hW5, hE2⟩
         go_wp2_with fail
         refine (HCM.out _ _ _ _ (hWr.ext (hE1.trans hE2)) hW5).mono ?_
         rintro e w3 ⟨rfl, zz, rfl⟩
         have hW4' := (hW4.ext hE2).drewN zz
         have hW5' := hW5.drewN zz
         have hWr' := (hWr.ext (hE1.trans hE2)).drewN zz
         have hE3 : Ext w (w2.drewN zz) := (hEr.trans (hE1.trans hE2)).drewN zz
         generalize w2.drewN zz = w3 at hW4' hW5' hWr' hE3 ⊢
         clear hW4 hW5 hWr hWq hE1 hE2 hEr
         have hone := one_list w3 0
         have hE4 : Ext w (w3.alloc (.cells #[.int .u32 1] 61)) := hE3.alloc _
         have hW4'' := hW4'.alloc (.cells #[.int .u32 1] 61)
         have hW5'' := hW5'.alloc (.cells #[.int .u32 1] 61)
         have hWr'' := hWr'.alloc (.cells #[.int .u32 1] 61)
         clear hW4' hW5' hWr'
         go_wp2_with fail
         refine (HAD.out _ _ _ _ _ hW4'' hone).mono ?_
         rintro e w5 ⟨A6, n6, c6, rfl, hW6, hE5⟩
         go_wp2_with fail
         refine (HS2.out _ _ _ _ (hWr''.ext hE5) (hW5''.ext hE5)).mono ?_
         rintro e w6 ⟨A7, n7, c7, rfl, hW7, hE6⟩
         go_wp2
         go_roundw
         case rel => exact ⟨kk + 1, q', r', A6, n6, c6, A7, n7, c7, by go_num, rfl, rfl, hW6.ext hE6, hW7, hE4.trans (hE5.trans hE6), HQ2, HREL2⟩
         case measure => simp [intOf]; omega
       · have hcc : ¬ 0 ≤ cmpN r rest := by unfold cmpN; rw [if_pos (by omega)]; omega
         obtain ⟨cc, hcce⟩ : ∃ cc, cc = cmpN r rest := ⟨_, rfl⟩
         rw [← hcce] at HCM hcc
         have HREL2 := Lib.hid (hrel.out.nought hge)
         have hAD := fun (w : World) (h : Wds w A3 n3 c3 (nd r)) => nadd_any A3 n3 c3 (nd r) A3 n3 c3 (nd r) w h (by omega) h (by omega) (by rw [nv_nd]; exact hrn) (by rw [nv_nd]; exact hrn) (by rw [nv_nd]; exact Nat.le_trans (nw_mono (by omega)) HDN.out)
         simp only [nv_nd] at hAD
         have HAD := Lib.hid hAD
         have HQ2 := Lib.hid (show nw (q * 2 ^ 1) ≤ 16384 by omega)
         generalize q * 2 ^ 1 = q1 at HSQ HREL2 HQ2
         generalize r + r = r' at HAD HREL2
         clear hAD hcce hrest hge hq2 hrel hex hbq hdig hrD hrn hrestn hn3r hq57 hr0' hqn
         go_wp2_with fail
         refine (HLQ.out _ hWq).mono ?_
         rintro e w' ⟨rfl, rfl⟩
         go_wp2_with fail
         refine (HSQ.out _ hWq).mono ?_
         rintro e w1 ⟨A4, n4, c4, rfl, hW4, hE1⟩
         go_wp2_with fail
         refine (HS1.out _ (k.ext (hEr.trans hE1)) (hWr.ext hE1)).mono ?_
         rintro e w2 ⟨A5, n5, c5, rfl, hW5, hE2⟩
         go_wp2_with fail
         refine (HCM.out _ _ _ _ (hWr.ext (hE1.trans hE2)) hW5).mono ?_
         rintro e w3 ⟨rfl, zz, rfl⟩
         have hW4' := (hW4.ext hE2).drewN zz
         have hWr' := (hWr.ext (hE1.trans hE2)).drewN zz
         have hE3 : Ext w (w2.drewN zz) := (hEr.trans (hE1.trans hE2)).drewN zz
         generalize w2.drewN zz = w3 at hW4' hWr' hE3 ⊢
         clear hW4 hW5 hWr hWq hE1 hE2 hEr
         go_wp2_with fail
         refine (HAD.out _ hWr').mono ?_
         rintro e w5 ⟨A6, n6, c6, rfl, hW6, hE5⟩
         go_wp2
         go_roundw
         case rel => exact ⟨kk + 1, q1, r', A4, n4, c4, A6, n6, c6, by go_num, rfl, rfl, hW4'.ext hE5, hW6, hE3.trans hE5, HQ2, HREL2⟩
         case measure => simp [intOf]; omega
end Go.Proofs.YtbcaggdgoidlaaaGreatDoor
