/-
 Plain, over whatever program: the boxes' cells alone; where a walk stands. Conditions: those that each theorem names.
-/
import Derived.Test.YtbcaggdgoidlaaaGreatDoorH08
import Derived.Test.YtbcaggdgoidlaaaGreatDoorH06
import Derived.Test.YtbcaggdgoidlaaaGreatDoorH09
import Derived.Test.YtbcaggdgoidlaaaGreatDoorH11
import Derived.Test.YtbcaggdgoidlaaaGreatDoorH07
import Derived.Orders
import Derived.Still
import Derived.Tactics
import Derived.KernelRfl
namespace Go.Proofs.YtbcaggdgoidlaaaGreatDoor
open Go Go.RowKit Nm
set_option linter.unusedVariables false
set_option linter.unusedSimpArgs false
def CC (w : World) (g : Nat) : Nat → List Value → Prop
 | _, [] => True
 | i, v :: vs => w.cell? ⟨g, i, none⟩ = some v ∧ CC w g (i + 1) vs
def BC (w : World) : List Bx → Prop
 | [] => True
 | b :: L => CC w b.g 0 b.cs ∧ BC w L
theorem CC.of {w : World} {g : Nat} : ∀ {i : Nat} {cs : List Value}, CF w g i cs → CC w g i cs
 | _, [], _ => trivial
 | _, _ :: _, h => ⟨h.1, CC.of h.2.2⟩
theorem BC.of {w : World} : ∀ {L : List Bx}, BF w L → BC w L
 | [], _ => trivial
 | _ :: _, h => ⟨CC.of h.2.1, BC.of h.2.2⟩
theorem Own.cells {w0 w : World} {L : List Bx} {W : List Sw} (h : Own w0 L W w) : BC w L := BC.of h.facts
section
variable {P : Program} {ops : Array Oper} {Q : Exit → Act → World → Prop} {a : Act} {w : World} {rest : List Oper} {T ty : TypeId} {ps : String} {af : Array Edge} {x y : Operand} {d : Tmp}
theorem at_store (h : wpList P ops Q ({ dst := none, op := .store T x y, type := ty, pos := ps, after := af, guard := none } :: rest) a w) : wpList P ops Q ({ dst := none, op := .store T x y, type := ty, pos := ps, after := af, guard := none } :: rest) a w := h
theorem at_box (h : wpList P ops Q ({ dst := some d, op := .box T x, type := ty, pos := ps, after := af, guard := none } :: rest) a w) : wpList P ops Q ({ dst := some d, op := .box T x, type := ty, pos := ps, after := af, guard := none } :: rest) a w := h
theorem at_alloc (h : wpList P ops Q ({ dst := some d, op := .alloc T, type := ty, pos := ps, after := af, guard := none } :: rest) a w) : wpList P ops Q ({ dst := some d, op := .alloc T, type := ty, pos := ps, after := af, guard := none } :: rest) a w := h
end
end Go.Proofs.YtbcaggdgoidlaaaGreatDoor

set_option linter.unusedVariables false
set_option linter.unusedSimpArgs false
namespace Go.Proofs.YtbcaggdgoidlaaaGreatDoor.Rn
open Nm
def holdZ (e : Int) : Int := min (max e (-1099511627776)) 1099511627776
def ofR (d : Int) (neg : Bool) (V : Nat) (e : Int) : Nat :=
 if 524288 < bl V then NaNc
 else if V = 0 then 0
 else if (bl V : Int) + e < -1076 then rnd d neg 1
 else if 1023 < (bl V : Int) - 1 + e then pat neg (if twB d neg then infR - 1 else infR)
 else rnd d neg (zd (2 * V) (e - 1))
theorem zd_tiny {V : Nat} {e : Int} (hV : V ≠ 0) (h : (bl V : Int) + e < -1076) : zd (2 * V) (e - 1) = 1 := by
 obtain ⟨B, hB⟩ : ∃ B : Nat, (B : Int) = -(e + 1074) := ⟨(-(e + 1074)).toNat, by omega⟩
 rw [zd_of (A := 0) (B := B) (by omega), Nat.pow_zero, Nat.mul_one]
 have hlt : 2 * V < 2 ^ B := by
   have h1 := lt_pow_bl V
   have h2 : 2 ^ (bl V + 1) ≤ 2 ^ B := Nat.pow_le_pow_right (by omega) (by omega)
   rw [Nat.pow_succ] at h2
   omega
 unfold zq
 rw [Nat.div_eq_of_lt hlt, Nat.mod_eq_of_lt hlt, if_neg (by omega)]
theorem ofR_tiny {d : Int} {neg : Bool} {V : Nat} {e : Int} (hV : V ≠ 0) (hb : bl V ≤ 524288) (h : (bl V : Int) + e < -1076) : ofR d neg V e = rnd d neg 1 := by
 unfold ofR
 rw [if_neg (by omega), if_neg hV, if_pos h]
theorem ofR_hold {d : Int} {neg : Bool} {V : Nat} {e : Int} (hb : bl V ≤ 524288) (h : V = 0 ∨ -1100 ≤ (bl V : Int) + holdZ e) : ofR d neg V e = rnd d neg (zd (2 * V) (holdZ e - 1)) := by
 unfold ofR
 rw [if_neg (by omega)]
 by_cases h0 : V = 0
 · rw [if_pos h0, h0, Nat.mul_zero, zd_zero, rnd_zero]
 · rw [if_neg h0]
   have h := h.resolve_left h0
   have hbp := bl_pos h0
   by_cases h1 : (bl V : Int) + e < -1076
   · rw [if_pos h1]
     have h2 : (bl V : Int) + holdZ e < -1076 := by unfold holdZ at h ⊢; omega
     rw [zd_tiny h0 h2]
   · rw [if_neg h1]
     by_cases h2 : 1023 < (bl V : Int) - 1 + e
     · rw [if_pos h2]
       have h3 : 1023 < (bl V : Int) - 1 + holdZ e := by unfold holdZ; omega
       have := rnd_big (m := 0) h0 h3 d neg
       rw [Nat.add_zero] at this
       exact this.symm
     · rw [if_neg h2]
       have h3 : holdZ e = e := by unfold holdZ; omega
       rw [h3]
theorem zd_two (V : Nat) (e : Int) : zd (2 * V) (e - 1) = zd V e := by
 obtain ⟨A, B, hAB⟩ : ∃ A B : Nat, (A : Int) - B = e + 1075 := ⟨(e + 1075).toNat, (-(e + 1075)).toNat, by omega⟩
 rw [zd_of hAB, zd_of (A := A) (B := B + 1) (by omega)]
 refine zq_congr (two_pow_pos _) (two_pow_pos _) ?_
 rw [Nat.pow_succ]
 have : 2 * V * 2 ^ A * 2 ^ B = 2 * (V * 2 ^ A * 2 ^ B) := by rw [Nat.mul_assoc, Nat.mul_assoc, Nat.mul_assoc]
 rw [this]
 have : V * 2 ^ A * (2 ^ B * 2) = 2 * (V * 2 ^ A * 2 ^ B) := by rw [← Nat.mul_assoc, Nat.mul_comm]
 rw [this]
end Go.Proofs.YtbcaggdgoidlaaaGreatDoor.Rn

namespace Go.Proofs.YtbcaggdgoidlaaaGreatDoor
open Go.RowKit Nm Rn
set_option maxRecDepth 100000
set_option linter.unusedVariables false
set_option linter.unusedSimpArgs false
set_option maxHeartbeats 400000 in
theorem hold_any (x : Int) (w : World) :
   Calls Tryz.prog 102 #[.int .i64 x] w fun e w' => e = .returned (.int .i64 (holdZ x)) ∧ w = w' := by
 rcases Int.lt_or_le x (-1099511627776) with h | h
 · have HF : Hid (-1099511627776 = holdZ x) := Lib.hid (by unfold holdZ; omega)
   go_enter Tryz.func102, Tryz.ntmps102
   go_wp2
   go_ret
   exact ⟨ret_int (by have := HF.out; omega), rfl⟩
 · rcases Int.lt_or_le 1099511627776 x with h2 | h2
   · have HF : Hid (1099511627776 = holdZ x) := Lib.hid (by unfold holdZ; omega)
     go_enter Tryz.func102, Tryz.ntmps102
     go_wp2
     go_ret
     exact ⟨ret_int (by have := HF.out; omega), rfl⟩
   · have HF : Hid (x = holdZ x) := Lib.hid (by unfold holdZ; omega)
     go_enter Tryz.func102, Tryz.ntmps102
     go_wp2
     go_ret
     exact ⟨ret_int (by have := HF.out; omega), rfl⟩
set_option maxHeartbeats 400000 in
theorem mnanc_any (w : World) : Calls Tryz.prog 66 #[] w fun e w' => e = .returned (.float .f64 NaNc) ∧ w = w' := by
 go_enter Tryz.func66, Tryz.ntmps66
 go_wp2
 go_ret
 exact ⟨rfl, rfl⟩
theorem one_list (w : World) (A : Nat) : Wds (w.alloc (.cells #[.int .u32 1] 61)) (some ⟨w.heap.size, 0, none⟩) 1 1 [1] := by
 refine ⟨rfl, by omega, by unfold maxLen; omega, by intro x hx; simp at hx; omega, fun _ => ⟨_, rfl, by simp, fun k x hk => ?_⟩⟩
 match k, hk with
 | 0, hk => simp at hk; subst hk; simp [Addr.add]
 | k + 1, hk => simp at hk
set_option maxHeartbeats 2000000 in
theorem rof_any (d : Int) (neg : Bool) (A : Option Addr) (n c : Nat) (xs : List Nat) (exp : Int) (w : World) (h : Wds w A n c xs) (hn : n ≤ 1099511627776) :
   Calls Tryz.prog 86 #[.int .i64 d, .bool neg, .slice A n c, .int .i64 exp] w (RetFl (ofR d neg (nv xs) exp) w) := by
 have HL := Lib.hid (nlen_any A n c xs w h (by omega))
 have HH := Lib.hid (fun w => hold_any exp w)
 obtain ⟨V, hV⟩ : ∃ V, V = nv xs := ⟨_, rfl⟩
 rw [← hV] at HL ⊢
 obtain ⟨B, hB⟩ : ∃ B, B = bl V := ⟨_, rfl⟩
 rw [← hB] at HL
 by_cases hbig : 524288 < B
 · have HF : Hid (ofR d neg V exp = NaNc) := Lib.hid (by unfold ofR; rw [if_pos (by omega)])
   clear hV hB h
   go_enter Tryz.func86, Tryz.ntmps86
   go_wp2_with (first | (go_at_call 99; refine HL.out.mono ?_; rintro e w' ⟨rfl, rfl⟩) | (go_at_call 66; refine (mnanc_any _).mono ?_; rintro e w' ⟨rfl, rfl⟩))
   go_ret
   exact ⟨_, rfl, by rw [NaNc_val]; omega, by rw [HF.out]; rfl, Ext.refl _⟩
 · obtain ⟨H, hH⟩ : ∃ H, H = holdZ exp := ⟨_, rfl⟩
   have hH1 : -1099511627776 ≤ H ∧ H ≤ 1099511627776 := by rw [hH]; unfold holdZ; omega
   rw [← hH] at HH
   have hnl : nw V ≤ 16384 := nw_of_bl (by omega)
   by_cases ht : 0 < B ∧ (B : Int) + H < -1100
   · have HF : Hid (ofR d neg V exp = rnd d neg (zd (2 * nv [1]) (-1200 - 1))) := Lib.hid (by
       have hV0 : V ≠ 0 := fun h0 => by rw [h0, bl_zero] at hB; omega
       rw [ofR_tiny hV0 (by omega) (by have := ht.2; rw [hH] at this; unfold holdZ at this; omega)]
       rw [show nv [1] = 1 from rfl, zd_tiny (by omega) (by rw [show bl 1 = 1 from rfl]; omega)])
     have hOF2 := of_any d neg (some ⟨w.heap.size, 0, none⟩) 1 1 [1] (-1200) false (w.alloc (.cells #[.int .u32 1] 61)) (one_list w 0) (by omega) (by rw [show nv [1] = 1 from rfl, show nw 1 = 1 from rfl]; omega) (by omega) (by omega) (by intro h; cases h)
     simp only [Bool.toNat_false, Nat.add_zero] at hOF2
     rw [← HF.out] at hOF2
     have HOF := Lib.hid hOF2
     have HE0 : Hid (Ext w (w.alloc (.cells #[.int .u32 1] 61))) := Lib.hid ((Ext.refl w).alloc _)
     have HOK : Hid (ofR d neg V exp < 18446744073709551616 ∧ cn (ofR d neg V exp) = ofR d neg V exp) := Lib.hid (by rw [HF.out]; exact ⟨(rnd_ok _ _ _).1, cn_num (rnd_ok _ _ _).2⟩)
     have t1 := ht.1
     have t2 := ht.2
     clear hOF2
     generalize ofR d neg V exp = R at HOF HOK ⊢
     clear HF hV hB h hH hnl ht
     go_enter Tryz.func86, Tryz.ntmps86
     go_wp2_with (first | (go_at_call 99; refine HL.out.mono ?_; rintro e w' ⟨rfl, rfl⟩) | (go_at_call 102; refine (HH.out _).mono ?_; rintro e w' ⟨rfl, rfl⟩))
     refine HOF.out.mono ?_
     rintro e w1 ⟨rfl, hE⟩
     go_wp2
     go_ret
     exact ⟨_, rfl, HOK.out.1, HOK.out.2, HE0.out.trans hE⟩
   · have HF : Hid (ofR d neg V exp = rnd d neg (zd (2 * V) (H - 1))) := Lib.hid (by
       rw [hH]
       refine ofR_hold (by omega) ?_
       by_cases h0 : V = 0
       · exact .inl h0
       · right
         have := bl_pos h0
         omega)
     have hOF := of_any d neg A n c xs H false w h hn (by rw [← hV]; exact hnl) (by omega) (by omega) (by intro h; cases h)
     simp only [Bool.toNat_false, Nat.add_zero] at hOF
     rw [← hV, ← HF.out] at hOF
     have HOF := Lib.hid hOF
     have HOK : Hid (ofR d neg V exp < 18446744073709551616 ∧ cn (ofR d neg V exp) = ofR d neg V exp) := Lib.hid (by rw [HF.out]; exact ⟨(rnd_ok _ _ _).1, cn_num (rnd_ok _ _ _).2⟩)
     have hc : B = 0 ∨ (0 < B ∧ -1100 ≤ (B : Int) + H) := by omega
     clear hOF
     generalize ofR d neg V exp = R at HOF HOK ⊢
     clear HF hV hB h hH hnl ht
     rcases hc with rfl | ⟨t1, t2⟩
     all_goals
       go_enter Tryz.func86, Tryz.ntmps86
       go_wp2_with (first | (go_at_call 99; refine HL.out.mono ?_; rintro e w' ⟨rfl, rfl⟩) | (go_at_call 102; refine (HH.out _).mono ?_; rintro e w' ⟨rfl, rfl⟩))
       refine HOF.out.mono ?_
       rintro e w1 ⟨rfl, hE⟩
       go_wp2
       go_ret
       exact ⟨_, rfl, HOK.out.1, HOK.out.2, hE⟩
end Go.Proofs.YtbcaggdgoidlaaaGreatDoor

namespace Go.Proofs.YtbcaggdgoidlaaaGreatDoor
open Go.RowKit Nm
set_option maxRecDepth 100000
set_option linter.unusedVariables false
set_option linter.unusedSimpArgs false
structure LeftRel (xs L : List Nat) (D S t i : Nat) : Prop where
 len : L.length = D + t + 1
 ws : Ws L
 val : nv L = nv (xs.take i) * 2 ^ (32 * D + S)
 top : ∀ j, (hj : j < L.length) → D + i < j → L[j] = 0
 low : ∀ hj : D + i < L.length, L[D + i] < 2 ^ S
theorem LeftRel.start (xs : List Nat) (D S t : Nat) : LeftRel xs (List.replicate (D + t + 1) 0) D S t 0 where
 len := by simp
 ws := Ws.replicate _ (by omega)
 val := by simp [nv_replicate, nv]
 top := fun j hj _ => by simp
 low := fun hj => by simp; exact Nat.pow_pos (by omega)
theorem LeftRel.step {xs L : List Nat} {D S t i : Nat} (h : LeftRel xs L D S t i) (hS : S < 32) (hi : i < t) (hx : i < xs.length) (hw : Ws xs) (a lo hi' : Nat) (hk : D + i < L.length) (ha : L[D + i] = a)
   (hlo : lo = xs[i] * 2 ^ S % 4294967296) (hhi : hi' = xs[i] * 2 ^ S / 4294967296) :
   LeftRel xs ((L.set (D + i) (a + lo)).set (D + i + 1) hi') D S t (i + 1) ∧ a ||| lo = a + lo ∧ a + lo < 4294967296 := by
 have hx32 := hw.get hx
 have hlen := h.len
 have hlow := h.low hk
 rw [ha] at hlow
 have h0 := h.top (D + i + 1) (by omega) (by omega)
 obtain ⟨e, he⟩ : ∃ e, 4294967296 = 2 ^ S * e ∧ 0 < e := ⟨2 ^ (32 - S), by rw [← Nat.pow_add, show S + (32 - S) = 32 by omega], Nat.pow_pos (by omega)⟩
 have hlm : lo % 2 ^ S = 0 := by
   rw [hlo, he.1, Nat.mul_comm, Nat.mul_mod_mul_left]
   exact Nat.mul_mod_right _ _
 have hlo32 : lo < 4294967296 := by rw [hlo]; exact Nat.mod_lt _ (by omega)
 have hsum : a + lo < 4294967296 := by
   obtain ⟨q, hq⟩ : ∃ q, lo = 2 ^ S * q := ⟨lo / 2 ^ S, by have := Nat.mod_add_div lo (2 ^ S); omega⟩
   rw [hq, he.1] at hlo32
   have hqe : q < e := Nat.lt_of_mul_lt_mul_left hlo32
   have : 2 ^ S * (q + 1) ≤ 2 ^ S * e := Nat.mul_le_mul_left _ hqe
   rw [he.1, hq]
   rw [Nat.mul_add, Nat.mul_one] at this
   omega
 have hhi32 : hi' < 2 ^ S := by
   rw [hhi]
   refine (Nat.div_lt_iff_lt_mul (by omega)).2 ?_
   rw [Nat.mul_comm]
   exact Nat.mul_lt_mul_of_pos_left hx32 (Nat.pow_pos (by omega))
 refine ⟨⟨by simpa using hlen, (h.ws.set _ hsum).set _ (Nat.lt_of_lt_of_le hhi32 (by rw [he.1]; exact Nat.le_mul_of_pos_right _ he.2)), ?_, ?_, ?_⟩, ?_, hsum⟩
 · have hv : lo + 4294967296 * hi' = xs[i] * 2 ^ S := by rw [hlo, hhi]; exact Nat.mod_add_div _ _
   rw [nv_set2 (by omega) ha h0 hv, h.val, nv_take_succ hx, pow32, Nat.add_mul, Nat.pow_add, Nat.mul_add, Nat.pow_add]
   congr 1
   rw [pow32]
   simp only [Nat.mul_assoc, Nat.mul_comm, Nat.mul_left_comm]
 · intro j hj hlt
   rw [List.getElem_set_ne (by omega), List.getElem_set_ne (by omega)]
   simp at hj
   exact h.top j hj (by omega)
 · intro hj
   have e1 : D + (i + 1) = D + i + 1 := by omega
   simp only [e1]
   rw [List.getElem_set_self]
   exact hhi32
 · rw [Nat.or_comm, nat_join S lo a hlm hlow, Nat.add_comm]
set_option maxHeartbeats 1000000 in
theorem left_any (A : Option Addr) (n c : Nat) (xs : List Nat) (s : Nat) (w : World) (h : Wds w A n c xs) (hn : n ≤ 17592186044416) (hs : s ≤ 35184372088832) :
   Calls Tryz.prog 63 #[.slice A n c, .int .i64 (s : Int)] w (RetW (nv xs * 2 ^ s) w) := by
 have hxl : nw (nv xs) ≤ xs.length := nw_nv_le h.ws
 have hlx := h.len
 by_cases h0 : nv xs = 0
 · have hz : nw (nv xs) ≤ 0 := by rw [h0, nw_zero]; omega
   have HF : Hid (nd (nv xs * 2 ^ s) = []) := Lib.hid (by rw [h0, Nat.zero_mul, nd_zero])
   clear h0
   go_enter Tryz.func63, Tryz.ntmps63
   go_wp2_with (go_at_call 70; refine (words_any _ _ _ _ _ h (by omega)).mono ?_; rintro e w' ⟨rfl, rfl⟩)
   go_ret
   exact ⟨none, 0, 0, rfl, by rw [HF.out]; exact Wds.nil_ (by unfold maxLen; omega), Ext.refl _⟩
 · obtain ⟨D, S, hS, hsD⟩ : ∃ D S, S < 32 ∧ s = 32 * D + S := ⟨s / 32, s % 32, Nat.mod_lt _ (by omega), by omega⟩
   have hpos : 0 < nw (nv xs) := by
     rcases Nat.eq_zero_or_pos (nw (nv xs)) with e | e
     · exact absurd (nw_eq_zero.1 e) h0
     · exact e
   clear h0
   have hq : (s : Int) / 32 = (D : Int) := by omega
   have hr : (s : Int) % 32 = (S : Int) := by omega
   have HSD := Lib.hid hsD
   have HTk := Lib.hid (take_nw h.ws).1
   clear hsD
   obtain ⟨t, ht⟩ : ∃ t, t = nw (nv xs) := ⟨_, rfl⟩
   have hw := words_any A n c xs w h (by omega)
   rw [← ht] at hw hxl hpos HTk
   have HT := Lib.hid ht
   have HW := Lib.hid hw
   clear ht hw
   have hmk := run_make32 (D + t + 1) (by omega)
   push_cast at hmk
   go_enter Tryz.func63, Tryz.ntmps63
   go_wp2_with (go_at_call 70; refine HW.out.mono ?_; rintro e w' ⟨rfl, rfl⟩)
   clear hmk
   go_loopw [8] (fun iv wr => ∃ (i : Nat) (L : List Nat), i ≤ t ∧ iv = .int .i64 i ∧ LeftRel xs L D S t i ∧ Row wr w.heap.size L ∧ Ext w wr) (fun iv _ => t - (intOf iv).toNat)
   case atStart => exact ⟨0, _, Nat.zero_le _, rfl, LeftRel.start xs D S t, Row.new _ _, (Ext.refl w).alloc _⟩
   case round =>
     obtain ⟨i, L, hi, rfl, hL, hrow, hb⟩ := hrel
     have hLl := hL.len
     by_cases hlt : i < t
     · obtain ⟨ad, hx, rfl, _, hcX⟩ := (h.ext hb).at_ (k := i) (by omega)
       have hX32 := h.ws.get hx
       have hstep := hL.step hS hlt hx h.ws L[D + i] (xs[i] * 2 ^ S % 4294967296) (xs[i] * 2 ^ S / 4294967296) (by omega) rfl rfl rfl
       have hc1 := hrow.cell (i := D + i) (by omega)
       have hf1 := hrow.frozen (D + i)
       have hc2 := hrow.cell (i := D + i + 1) (by omega)
       have hf2 := hrow.frozen (D + i + 1)
       obtain ⟨V, hV⟩ : ∃ V, V = xs[i] * 2 ^ S := ⟨_, rfl⟩
       have hV64 : V < 18446744073709551616 := by
         have h1 : 2 ^ S ≤ 2147483648 := Nat.pow_le_pow_right (n := 2) (by omega) (show S ≤ 31 by omega)
         have h2 : xs[i] * 2 ^ S ≤ 4294967296 * 2147483648 := Nat.mul_le_mul (by omega) h1
         omega
       have e1 : ((xs[i] : Nat) : Int) * 2 ^ S = (V : Int) := by rw [hV]; push_cast; rfl
       rw [← hV] at hstep
       clear hV
       obtain ⟨lo, hlo⟩ : ∃ lo, lo = V % 4294967296 := ⟨_, rfl⟩
       obtain ⟨hi', hhi⟩ : ∃ hi', hi' = V / 4294967296 := ⟨_, rfl⟩
       rw [← hlo, ← hhi] at hstep
       have hlo32 : lo < 4294967296 := by omega
       have hhi32 : hi' < 4294967296 := by omega
       have e2 := and_mask V lo hV64 hlo
       have e3 : (V : Int) / 4294967296 = (hi' : Int) := by omega
       generalize L[D + i] = a at *
       have ha32 : a < 4294967296 := by omega
       have e4 : bits .or .u32 (a : Int) (lo : Int) = ((a + lo : Nat) : Int) := by
         rw [u32_or_nat _ _ ha32 hlo32, hstep.2.1]
       obtain ⟨r, hr'⟩ : ∃ r, r = a + lo := ⟨_, rfl⟩
       rw [← hr'] at e4 hstep
       obtain ⟨hst, _, hr32⟩ := hstep
       have hrow' := (hrow.set_ (D + i) r).set_ (D + i + 1) hi'
       have HST := Lib.hid hst
       clear hst hlo hhi hr'
       go_wp2
       go_roundw
       case rel => exact ⟨i + 1, _, by omega, by go_num, HST.out, hrow', (hb.setCell (Nat.le_refl _) _).setCell (Nat.le_refl _) _⟩
       case measure => simp [intOf]; omega
     · have HV : Hid (nv L = nv xs * 2 ^ s) := Lib.hid (by
         rw [hL.val, show i = t by omega, HTk.out, HSD.out])
       have hW := hrow.wds hL.ws hL.len (Nat.le_refl _) (by unfold maxLen; omega)
       go_wp2_with (go_at_call 42; refine (norm_any _ _ _ _ _ hW (by omega)).mono ?_; rintro e w2 ⟨A2, n2, c2, rfl, hR, hE2⟩)
       go_ret
       exact ⟨A2, n2, c2, rfl, by rw [← HV.out]; exact hR, hb.trans hE2⟩
structure RowRel (xs L : List Nat) (V0 y n m j i cr : Nat) : Prop where
 len : L.length = n + m
 ws : Ws L
 val : nv L + 4294967296 ^ (i + j) * cr = V0 + 4294967296 ^ j * (y * nv (xs.take i))
 top : ∀ k, (hk : k < L.length) → n + j ≤ k → L[k] = 0
theorem RowRel.step {xs L : List Nat} {V0 y n m j i cr a x v lo hi : Nat} (h : RowRel xs L V0 y n m j i cr) (hj : j < m) (hi0 : i < n) (hx : i < xs.length) (hxe : xs[i] = x) (hk : i + j < L.length) (ha : L[i + j] = a)
   (hv : v = cr + a + x * y) (hlo : lo = v % 4294967296) (hhi : hi = v / 4294967296) : RowRel xs (L.set (i + j) lo) V0 y n m j (i + 1) hi := by
 have hlen := h.len
 refine ⟨by simpa using hlen, h.ws.set _ (by rw [hlo]; exact Nat.mod_lt _ (by omega)), ?_, fun k hk' hle => ?_⟩
 · have h1 := nv_set hk lo
   rw [ha] at h1
   have h2 := h.val
   have e : lo + 4294967296 * hi = cr + a + x * y := by rw [← hv, hlo, hhi]; exact Nat.mod_add_div _ _
   have e1 : 4294967296 ^ (i + j) * (lo + 4294967296 * hi) = 4294967296 ^ (i + j) * (cr + a + x * y) := by rw [e]
   rw [Nat.mul_add, Nat.mul_add, Nat.mul_add, ← Nat.mul_assoc, ← Nat.pow_succ] at e1
   rw [show i + 1 + j = i + j + 1 by omega, nv_take_succ hx, hxe, Nat.mul_add y, Nat.mul_add (4294967296 ^ j)]
   have e2 : 4294967296 ^ j * (y * (4294967296 ^ i * x)) = 4294967296 ^ (i + j) * (x * y) := by
     rw [Nat.pow_add]
     simp only [Nat.mul_assoc, Nat.mul_comm, Nat.mul_left_comm]
   rw [e2]
   generalize 4294967296 ^ j * (y * nv (xs.take i)) = t0 at *
   generalize 4294967296 ^ (i + j) * (x * y) = t1 at *
   generalize 4294967296 ^ (i + j + 1) * hi = t2 at *
   generalize 4294967296 ^ (i + j) * lo = t3 at *
   generalize 4294967296 ^ (i + j) * a = t4 at *
   generalize 4294967296 ^ (i + j) * cr = t5 at *
   clear e2 e hlo hhi hv
   omega
 · rw [List.getElem_set_ne (by omega)]
   simp at hk'
   exact h.top k hk' hle
structure TimesRel (xs ys L : List Nat) (n m j : Nat) : Prop where
 len : L.length = n + m
 ws : Ws L
 val : nv L = nv xs * nv (ys.take j)
 top : ∀ k, (hk : k < L.length) → n + j ≤ k → L[k] = 0
theorem TimesRel.start (xs ys : List Nat) (n m : Nat) : TimesRel xs ys (List.replicate (n + m) 0) n m 0 where
 len := by simp
 ws := Ws.replicate _ (by omega)
 val := by simp [nv_replicate, nv]
 top := fun j hj _ => by simp
theorem TimesRel.row {xs ys L : List Nat} {n m j : Nat} (h : TimesRel xs ys L n m j) (y : Nat) : RowRel xs L (nv L) y n m j 0 0 where
 len := h.len
 ws := h.ws
 val := by simp [nv]
 top := h.top
theorem TimesRel.skip {xs ys L : List Nat} {n m j : Nat} (h : TimesRel xs ys L n m j) (hy : j < ys.length) (h0 : ys[j] = 0) : TimesRel xs ys L n m (j + 1) where
 len := h.len
 ws := h.ws
 val := by rw [nv_take_succ hy, h0, Nat.mul_zero, Nat.add_zero]; exact h.val
 top := fun k hk hle => h.top k hk (by omega)
theorem TimesRel.next {xs ys L0 L : List Nat} {n m j cr : Nat} (h0 : TimesRel xs ys L0 n m j) (hy : j < ys.length) (hj : j < m) (h : RowRel xs L (nv L0) ys[j] n m j n cr) (hn : nv (xs.take n) = nv xs) (hcr : cr < 4294967296) :
   TimesRel xs ys (L.set (j + n) cr) n m (j + 1) := by
 have hlen := h.len
 refine ⟨by simpa using hlen, h.ws.set _ hcr, ?_, fun k hk hle => ?_⟩
 · have h1 := nv_set (l := L) (k := j + n) (by omega) cr
   rw [h.top (j + n) (by omega) (by omega), Nat.mul_zero, Nat.add_zero] at h1
   rw [h1, Nat.add_comm j n, h.val, h0.val, hn, nv_take_succ hy, Nat.mul_add]
   congr 1
   simp only [Nat.mul_assoc, Nat.mul_comm, Nat.mul_left_comm]
 · rw [List.getElem_set_ne (by omega)]
   simp at hk
   exact h.top k hk (by omega)
set_option maxHeartbeats 1000000 in
theorem times_any (A : Option Addr) (n0 c : Nat) (xs : List Nat) (B : Option Addr) (m0 d : Nat) (ys : List Nat) (w : World) (h : Wds w A n0 c xs) (hn0 : n0 ≤ 8796093022208) (k : Wds w B m0 d ys) (hm0 : m0 ≤ 8796093022208) :
   Calls Tryz.prog 43 #[.slice A n0 c, .slice B m0 d] w (RetW (nv xs * nv ys) w) := by
 have hxl : nw (nv xs) ≤ xs.length := nw_nv_le h.ws
 have hyl : nw (nv ys) ≤ ys.length := nw_nv_le k.ws
 have hlx := h.len
 have hly := k.len
 have HXk := Lib.hid (take_nw h.ws).1
 have HYk := Lib.hid (take_nw k.ws).1
 have hw1 := words_any A n0 c xs w h (by omega)
 have hw2 := words_any B m0 d ys w k (by omega)
 obtain ⟨n, hn⟩ : ∃ n, n = nw (nv xs) := ⟨_, rfl⟩
 obtain ⟨m, hm⟩ : ∃ m, m = nw (nv ys) := ⟨_, rfl⟩
 rw [← hn] at hw1 hxl HXk
 rw [← hm] at hw2 hyl HYk
 have HW1 := Lib.hid hw1
 have HW2 := Lib.hid hw2
 clear hw1 hw2 hn hm
 have hmk := run_make32 (n + m) (by omega)
 push_cast at hmk
 go_enter Tryz.func43, Tryz.ntmps43
 go_wp2_with fail
 refine HW1.out.mono ?_
 rintro e w' ⟨rfl, rfl⟩
 go_wp2_with fail
 refine HW2.out.mono ?_
 rintro e w' ⟨rfl, rfl⟩
 go_wp2
 clear hmk
 go_loopw [8] (fun jv wr => ∃ (j : Nat) (L : List Nat), j ≤ m ∧ jv = .int .i64 j ∧ TimesRel xs ys L n m j ∧ Row wr w.heap.size L ∧ Ext w wr) (fun jv _ => m - (intOf jv).toNat)
 case atStart => exact ⟨0, _, Nat.zero_le _, rfl, TimesRel.start xs ys n m, Row.new _ _, (Ext.refl w).alloc _⟩
 case round =>
   obtain ⟨j, L0, hj, rfl, hL0, hrow0, hb0⟩ := hrel
   obtain ⟨wo, rfl⟩ : ∃ wo : World, wo = wr := ⟨_, rfl⟩
   by_cases hlt : j < m
   · obtain ⟨bd, hy, rfl, _, hcY⟩ := (k.ext hb0).at_ (k := j) (by omega)
     have hY32 := k.ws.get hy
     by_cases hy0 : ys[j] = 0
     · have hsk := Lib.hid (hL0.skip hy hy0)
       go_wp2
       go_roundw
       case rel => exact ⟨j + 1, L0, by omega, by go_num, hsk.out, hrow0, hb0⟩
       case measure => simp [intOf]; omega
     · have HN := Lib.hid (fun (L : List Nat) (cr : Nat) hh hcr => TimesRel.next (L := L) (cr := cr) hL0 hy hlt hh HXk.out hcr)
       generalize ys[j] = y at *
       have hy1 : 0 < y := by omega
       clear hy0
       go_wp2
       go_loopw [10, 11] (fun cv iv wr => ∃ (i cr : Nat) (L : List Nat), i ≤ n ∧ cr < 4294967296 ∧ iv = .int .i64 i ∧ cv = .int .u64 (cr : Int) ∧ RowRel xs L (nv L0) y n m j i cr ∧ Row wr w.heap.size L ∧ Ext w wr) (fun _ iv _ => n - (intOf iv).toNat)
       case atStart => exact ⟨0, 0, L0, Nat.zero_le _, by omega, rfl, rfl, hL0.row y, hrow0, hb0⟩
       case round =>
         obtain ⟨i, cr, L, hi, hcr, rfl, rfl, hL, hrow, hb⟩ := hrel
         have hLl := hL.len
         by_cases hlti : i < n
         · obtain ⟨ad, hx, rfl, _, hcX⟩ := (h.ext hb).at_ (k := i) (by omega)
           have hX32 := h.ws.get hx
           have hc1 := hrow.cell (i := i + j) (by omega)
           have hf1 := hrow.frozen (i + j)
           have hA32 := hL.ws.get (k := i + j) (by omega)
           have hk' : i + j < L.length := by omega
           obtain ⟨a, ha⟩ : ∃ a, L[i + j] = a := ⟨_, rfl⟩
           obtain ⟨x, hxe⟩ : ∃ x, xs[i] = x := ⟨_, rfl⟩
           have hst := fun (v lo hi' : Nat) hv hlo hhi => hL.step (v := v) (lo := lo) (hi := hi') hlt hlti hx hxe hk' ha hv hlo hhi
           rw [ha] at hc1 hA32
           rw [hxe] at hcX hX32
           clear ha hxe
           obtain ⟨q, hq⟩ : ∃ q, i + j = q := ⟨_, rfl⟩
           rw [hq] at hc1 hf1
           simp only [hq] at hst
           have hp : x * y ≤ 18446744065119617025 := Nat.le_trans (Nat.mul_le_mul (show x ≤ 4294967295 by omega) (show y ≤ 4294967295 by omega)) (by omega)
           obtain ⟨p, hpv⟩ : ∃ p, p = x * y := ⟨_, rfl⟩
           rw [← hpv] at hp
           obtain ⟨v, hv⟩ : ∃ v, v = cr + a + p := ⟨_, rfl⟩
           have hv64 : v < 18446744073709551616 := by omega
           obtain ⟨lo, hlo⟩ : ∃ lo, lo = v % 4294967296 := ⟨_, rfl⟩
           obtain ⟨hi', hhi⟩ : ∃ hi', hi' = v / 4294967296 := ⟨_, rfl⟩
           have hst' := hst v lo hi' (by rw [hv, hpv]) hlo hhi
           clear hst
           have HST := Lib.hid hst'
           clear hst'
           have hlo32 : lo < 4294967296 := by omega
           have hhi32 : hi' < 4294967296 := by omega
           have g1 : IntKind.i64.wrap ((i : Int) + (j : Int)) = (q : Int) := by rw [IntWalk.i64_in _ (by omega)]; omega
           have g1' : ((i : Int) + (j : Int)) = (q : Int) := by omega
           have g2 : IntKind.u64.wrap ((cr : Int) + (a : Int)) = ((cr + a : Nat) : Int) := by
             rw [IntKind.wrap_u64]; omega
           have g3 : IntKind.u64.wrap ((x : Int) * (y : Int)) = (p : Int) := by
             have e : (x : Int) * (y : Int) = (p : Int) := by rw [hpv]; exact (Int.natCast_mul x y).symm
             rw [IntKind.wrap_u64, e]; omega
           have g4 : IntKind.u64.wrap (((cr + a : Nat) : Int) + (p : Int)) = (v : Int) := by
             rw [IntKind.wrap_u64]; omega
           have g5 := and_mask v lo hv64 hlo
           have g7 : (cr : Int) + (a : Int) + (p : Int) = (v : Int) := by omega
           rw [← g7] at g5
           have g6 : ((cr : Int) + (a : Int) + (p : Int)) / 4294967296 = (hi' : Int) := by omega
           clear g7
           have hq2 : q < n + m := by omega
           have hq0 : (0 : Int) ≤ (q : Int) := by omega
           have hq1 : (q : Int) < ((n + m : Nat) : Int) := by omega
           have hi0 : (i : Int) < (n0 : Int) := by omega
           have hrow' := hrow.set_ q lo
           clear hpv hq hlo hhi hv
           go_wp2
           go_quiet (fail)
           go_wp2
           go_roundw
           case rel => exact ⟨i + 1, hi', _, by omega, hhi32, by go_num, rfl, HST.out, hrow'.drewN _, (hb.setCell (Nat.le_refl _) _).drewN _⟩
           case measure => simp [intOf]; omega
         · have e : i = n := by omega
           subst e
           have hk' : j + i < L.length := by omega
           have hc1 := hrow.cell hk'
           have hf1 := hrow.frozen (j + i)
           have hrow' := hrow.set_ (j + i) cr
           have HF := Lib.hid (HN.out L cr hL hcr)
           clear HN
           go_wp2
           go_roundw
           case rel => exact ⟨j + 1, _, by omega, by go_num, HF.out, hrow', hb.setCell (Nat.le_refl _) _⟩
           case measure => simp [intOf]; omega
   · have e : j = m := by omega
     subst e
     have HV : Hid (nv L0 = nv xs * nv ys) := Lib.hid (by rw [hL0.val, HYk.out])
     have hW := hrow0.wds hL0.ws hL0.len (Nat.le_refl _) (by unfold maxLen; omega)
     go_wp2_with (go_at_call 42; refine (norm_any _ _ _ _ _ hW (by omega)).mono ?_; rintro e w2 ⟨A2, n2, c2, rfl, hR, hE2⟩)
     go_ret
     exact ⟨A2, n2, c2, rfl, by rw [← HV.out]; exact hR, hb0.trans hE2⟩
end Go.Proofs.YtbcaggdgoidlaaaGreatDoor

namespace Go.Proofs.YtbcaggdgoidlaaaGreatDoor
open Go
set_option linter.unusedVariables false
section
variable {P : Program} {ops : Array Oper} {md : Region.Mode} {S : World → Prop}
def Gives (P : Program) (S : World → Prop) (v : Value) : Result Next → Prop
 | .ok (.value u) w' => u = v ∧ S w'
 | .ok .skip w' => undef = v ∧ S w'
 | .ok (.enter f args) w' => Calls P f args w' fun e w'' => e = .returned v ∧ S w''
 | _ => False
@[go_sem] theorem gives_value (v u : Value) (w : World) : Gives P S v (.ok (.value u) w) = (u = v ∧ S w) := rfl
@[go_sem] theorem gives_skip (v : Value) (w : World) : Gives P S v (.ok .skip w) = (undef = v ∧ S w) := rfl
@[go_sem] theorem gives_enter (v : Value) (f : FuncId) (args : Array Value) (w : World) : Gives P S v (.ok (.enter f args) w) = Calls P f args w (fun e w'' => e = .returned v ∧ S w'') := rfl
def Steady (P : Program) (ops : Array Oper) (S : World → Prop) (o : Oper) (v : Value) (a : Act) : Prop :=
 (Region.wanted o (yielded ops a.tmps) = true ∧ ∀ w, S w → Gives P S v ((execOp a.eval o).run P w)) ∨ (Region.wanted o (yielded ops a.tmps) = false ∧ v = undef)
theorem Steady.of_same {o : Oper} {v : Value} {a a' : Act} (h : Steady P ops S o v a) (he : execOp a'.eval o = execOp a.eval o)
   (hw : Region.wanted o (yielded ops a'.tmps) = Region.wanted o (yielded ops a.tmps)) : Steady P ops S o v a' := by
 unfold Steady at *
 rw [he, hw]
 exact h
theorem Steady.wpOp {i : Nat} {o : Oper} {v : Value} {a : Act} {w : World} {K : Act → World → Prop} {Q : Exit → Act → World → Prop} (hi : ops[i]? = some o) (h : Steady P ops S o v a) (hw : S w)
   (hK : ∀ w', S w' → K (a.put o.dst v) w') : wpOp P ops Q i K a w := by
 unfold Go.wpOp
 simp only [hi]
 rcases h with ⟨h1, h2⟩ | ⟨h1, rfl⟩
 · rw [if_pos h1]
   refine .inl ?_
   have h3 := h2 w hw
   unfold Oper.wp
   generalize (execOp a.eval o).run P w = r at h3
   cases r with
   | ok n w' =>
     cases n <;> simp only [Gives] at h3 <;> simp only [Oper.upon]
     case value u => obtain ⟨rfl, h4⟩ := h3; exact hK _ h4
     case skip => obtain ⟨rfl, h4⟩ := h3; exact hK _ h4
     case enter f args => exact h3.mono fun e w'' ⟨he, h4⟩ => by subst he; exact hK _ h4
   | halt x w' => simp only [Gives] at h3
 · rw [if_neg (by rw [h1]; simp)]
   exact hK _ hw
def wpAnyG (P : Program) (md : Region.Mode) (ops : Array Oper) (S : World → Prop) (Q : Act → Prop) : Nat → Array Bool → Act → Prop
 | 0, listed, a => Region.ready md ops listed = [] ∧ Q a
 | f + 1, listed, a => (Region.ready md ops listed = [] → Q a) ∧
   ∀ i ∈ Region.ready md ops listed, ∃ o v, ops[i]? = some o ∧ Steady P ops S o v a ∧ wpAnyG P md ops S Q f (listed.setIfInBounds i true) (a.put o.dst v)
theorem wpAny_of_G {Q : Act → Prop} {Q' : Exit → Act → World → Prop} (hQ : ∀ a w, Q a → S w → Q' .normal a w) : ∀ (f : Nat) (listed : Array Bool) (a : Act) (w : World), S w →
   wpAnyG P md ops S Q f listed a → wpAny P md ops Q' f listed a w
 | 0, _, _, _, hS, h => ⟨h.1, hQ _ _ h.2 hS⟩
 | f + 1, _, _, _, hS, h => ⟨fun h0 => hQ _ _ (h.1 h0) hS, fun i hi => by
     obtain ⟨o, v, h1, h2, h3⟩ := h.2 i hi
     exact h2.wpOp h1 hS fun w' hS' => wpAny_of_G hQ f _ _ w' hS' h3⟩
theorem not_listed {i : Nat} {listed : Array Bool} (h : listed.getD i true = false) : ¬ listed.getD i false = true := by
 intro h'
 rcases Nat.lt_or_ge i listed.size with h1 | h1
 · simp [h1] at h h'
   rw [h] at h'
   cases h'
 · simp [Array.getElem?_eq_none h1] at h
theorem wpAnyG_first {Q : Act → Prop} {i : Nat} {oi : Oper} {v : Value} (hi : ops[i]? = some oi) (hsel : Region.noSelect ops = true) :
   ∀ (f : Nat) (listed : Array Bool) (a : Act),
     (∀ j oj, ops[j]? = some oj → j ≠ i → listed.getD j true = false → (∀ e ∈ oj.after, Region.binds md e = true → e.on ≠ i) → oi.apart ops oj = true) →
     i ∈ Region.ready md ops listed → Steady P ops S oi v a → wpAnyG P md ops S Q f (listed.setIfInBounds i true) (a.put oi.dst v) → wpAnyG P md ops S Q (f + 1) listed a := by
 intro f
 induction f with
 | zero =>
   intro listed a _ hr hy H
   refine ⟨fun h => (by rw [h] at hr; cases hr), fun j hj => ?_⟩
   by_cases hji : j = i
   · subst hji; exact ⟨oi, v, hi, hy, H⟩
   · have h1 := ready_mono hj hji
     rw [H.1] at h1
     cases h1
 | succ f ih =>
   intro listed a hfree hr hy H
   refine ⟨fun h => (by rw [h] at hr; cases hr), fun j hj => ?_⟩
   by_cases hji : j = i
   · subst hji; exact ⟨oi, v, hi, hy, H⟩
   · obtain ⟨o', u, h1, h2, h3⟩ := H.2 j (ready_mono hj hji)
     obtain ⟨hjun, oj, hoj, hall⟩ := mem_ready.1 hj
     have e0 : o' = oj := Option.some.inj (h1.symm.trans hoj)
     subst e0
     have hnot : ∀ e ∈ o'.after, Region.binds md e = true → e.on ≠ i := fun e he hb heq => by
       have h4 := hall e he hb
       rw [heq] at h4
       exact not_listed (mem_ready.1 hr).1 h4
     obtain ⟨a1, a2, a3⟩ := Oper.apart_spec (hfree j o' hoj hji hjun hnot)
     have s1 := Region.noSelect_spec hsel j o'
     have s2 := Region.noSelect_spec hsel i oi
     refine ⟨o', u, hoj, h2.of_same (execOp_put o' (fun cs b => s1 cs b hoj) a oi.dst v a1).symm (wanted_put o' a oi.dst v a1).symm, ?_⟩
     refine ih (listed.setIfInBounds j true) _ (fun k ok hk hki hun hno => ?_) (ready_mono hr (Ne.symm hji)) ?_ ?_
     · refine hfree k ok hk hki ?_ hno
       by_cases hjk : j = k
       · subst hjk; exact hjun
       · rw [getD_set_ne true hjk] at hun; exact hun
     · exact hy.of_same (execOp_put oi (fun cs b => s2 cs b hi) a o'.dst u a3) (wanted_put oi a o'.dst u a3)
     · rw [Array.setIfInBounds_comm _ _ hji, ← Act.put_comm a v u a2]
       exact h3
def wpG (P : Program) (ops : Array Oper) (S : World → Prop) (Q : Act → Prop) : List Oper → Act → Prop
 | [], a => Q a
 | o :: rest, a => if Region.wanted o (yielded ops a.tmps) then ∃ v, (∀ w, S w → Gives P S v ((execOp a.eval o).run P w)) ∧ wpG P ops S Q rest (a.put o.dst v) else wpG P ops S Q rest (a.put o.dst undef)
theorem wpG_lex {Q : Act → Prop} (hs : Region.noSelect ops = true) : ∀ (l : List Oper) (k : Nat) (listed : Array Bool) (a : Act), (∀ j, l[j]? = ops[k + j]?) →
   Region.lexFrom md ops l.length k listed = true → wpG P ops S Q l a → wpAnyG P md ops S Q l.length listed a
 | [], _, _, _, _, hB, h => ⟨by simpa [Region.lexFrom] using hB, h⟩
 | o :: l, k, listed, a, hl, hB, h => by
   have h0 : ops[k]? = some o := by simpa using (hl 0).symm
   simp only [List.length_cons, Region.lexFrom, Bool.and_eq_true] at hB
   obtain ⟨⟨hr, hf⟩, hB'⟩ := hB
   have step : ∃ v, Steady P ops S o v a ∧ wpG P ops S Q l (a.put o.dst v) := by
     unfold wpG at h
     by_cases hw : Region.wanted o (yielded ops a.tmps) = true
     · rw [if_pos hw] at h
       obtain ⟨v, h1, h2⟩ := h
       exact ⟨v, .inl ⟨hw, h1⟩, h2⟩
     · rw [if_neg hw] at h
       exact ⟨undef, .inr ⟨by simpa using hw, rfl⟩, h⟩
   obtain ⟨v, hy, hK⟩ := step
   exact wpAnyG_first h0 hs l.length listed a (Region.free_spec h0 hf) (by simpa using hr) hy
     (wpG_lex hs l (k + 1) _ _ (fun j => by have := hl (j + 1); simpa [Nat.add_assoc, Nat.add_comm 1 j] using this) hB' hK)
theorem wp_region_steady {id : Nat} {Q : Exit → Act → World → Prop} {a : Act} {w : World} {l : List Oper} (S : World → Prop) (hm : P.follows .mixedOrders = true) (hB : Region.lexB .any l.toArray = true)
   (hS : S { w with drawn := w.drawn + 1 }) (h : wpG P l.toArray S (fun a' => ∀ w', S w' → Q .normal a' w') l a) : (Code.region id l.toArray true).wp P Q a w := by
 simp only [Region.lexB, Bool.and_eq_true] at hB
 refine wp_region_any hm (wpAny_of_G (S := S) (Q := fun a' => ∀ w', S w' → Q .normal a' w') (fun _ w' h hS => h w' hS) _ _ _ _ hS ?_)
 have := wpG_lex (md := .any) hB.1 l 0 (Array.replicate l.toArray.size false) a (by simp) (by simpa using hB.2) h
 simpa using this
theorem wpG_nil {Q : Act → Prop} {a : Act} (h : Q a) : wpG P ops S Q [] a := h
def StepG (P : Program) (S : World → Prop) (o : Oper) (a : Act) (K : Act → Prop) : Prop := ∃ v, (∀ w, S w → Gives P S v ((execOp a.eval o).run P w)) ∧ K (a.put o.dst v)
theorem StepG.mk {o : Oper} {a : Act} {K : Act → Prop} {v : Value} (h : ∀ w, S w → Gives P S v ((execOp a.eval o).run P w)) (k : K (a.put o.dst v)) : StepG P S o a K := ⟨v, h, k⟩
theorem wpG_step {Q : Act → Prop} {a : Act} {o : Oper} {rest : List Oper}
   (h : ∀ K : Act → Prop, (∀ a, wpG P ops S Q rest a → K a) → if Region.wanted o (yielded ops a.tmps) then StepG P S o a K else K (a.put o.dst undef)) : wpG P ops S Q (o :: rest) a :=
 h _ fun _ h => h
end
end Go.Proofs.YtbcaggdgoidlaaaGreatDoor
