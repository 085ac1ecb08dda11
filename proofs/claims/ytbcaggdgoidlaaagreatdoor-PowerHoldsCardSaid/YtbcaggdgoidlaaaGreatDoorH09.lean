/-
 The contracts of the program's own naturals, sixth part: shift, up, Shl. Conditions: those that each theorem names.
-/
import Derived.Test.YtbcaggdgoidlaaaGreatDoorH08
import Derived.Test.YtbcaggdgoidlaaaGreatDoorH07
import Derived.Test.YtbcaggdgoidlaaaGreatDoorH06
import Derived.Test.YtbcaggdgoidlaaaGreatDoorH03
namespace Go.Proofs.YtbcaggdgoidlaaaGreatDoor
open Go.RowKit Nm
set_option maxRecDepth 100000
set_option linter.unusedVariables false
set_option linter.unusedSimpArgs false
theorem take_set_self {l : List Nat} {k : Nat} (x : Nat) : (l.set k x).take k = l.take k := by
 apply List.ext_getElem?
 intro j
 rw [List.getElem?_take, List.getElem?_take, List.getElem?_set]
 split
 · rw [if_neg (by omega)]
 · rfl
theorem shift_step {L xs : List Nat} {i cr x s v lo hi : Nat} (hiL : i < L.length) (hix : i < xs.length) (hx : xs[i] = x) (hx32 : x < 4294967296) (hcr : cr < 2 ^ s) (hinv : nv (L.take i) + 4294967296 ^ i * cr = nv (xs.take i) * 2 ^ s)
   (hv : v = cr + x * 2 ^ s) (hlo : lo = v % 4294967296) (hhi : hi = v / 4294967296) :
   nv ((L.set i lo).take (i + 1)) + 4294967296 ^ (i + 1) * hi = nv (xs.take (i + 1)) * 2 ^ s ∧ hi < 2 ^ s := by
 constructor
 · rw [nv_take_succ (l := L.set i lo) (by simpa using hiL), nv_take_succ hix, take_set_self, List.getElem_set_self, hx, Nat.add_mul, ← hinv, Nat.pow_succ]
   have e : lo + 4294967296 * hi = cr + x * 2 ^ s := by rw [hlo, hhi, ← hv]; exact Nat.mod_add_div _ _
   have e1 : 4294967296 ^ i * (lo + 4294967296 * hi) = 4294967296 ^ i * (cr + x * 2 ^ s) := by rw [e]
   rw [Nat.mul_add, Nat.mul_add, ← Nat.mul_assoc, ← Nat.mul_assoc] at e1
   omega
 · rw [hhi, Nat.div_lt_iff_lt_mul (by omega), hv]
   have : x * 2 ^ s ≤ 4294967295 * 2 ^ s := Nat.mul_le_mul_right _ (by omega)
   rw [Nat.mul_comm (2 ^ s)]
   omega
theorem or_shift (cr x s : Nat) (hs : s < 32) (hcr : cr < 2 ^ s) (hx : x < 4294967296) : ∃ p : Nat, (x : Int) * 2 ^ s = (p : Int) ∧ p < 18446744073709551616 ∧ bits .or .u64 (cr : Int) (p : Int) = ((cr + x * 2 ^ s : Nat) : Int) ∧ cr + x * 2 ^ s < 18446744073709551616 := by
 have h1 : 2 ^ s ≤ 2147483648 := Nat.pow_le_pow_right (n := 2) (by omega) (show s ≤ 31 by omega)
 have h2 : x * 2 ^ s ≤ 4294967295 * 2147483648 := Nat.mul_le_mul (by omega) h1
 have e1 : ((x : Nat) : Int) * 2 ^ s = ((x * 2 ^ s : Nat) : Int) := by push_cast; rfl
 refine ⟨x * 2 ^ s, e1, by omega, ?_, by omega⟩
 rw [u64_or_nat _ _ (by omega) (by omega), Nat.or_comm, nat_join s _ _ (Nat.mul_mod_left _ _) hcr]
 omega
set_option maxHeartbeats 1000000 in
theorem nshift_any (A : Option Addr) (n c : Nat) (xs : List Nat) (s : Nat) (w : World) (h : Wds w A n c xs) (hn : n ≤ 17592186044416) (hs : s < 32) :
   Calls Tryz.prog 121 #[.slice A n c, .int .i64 (s : Int)] w fun e w' => ∃ g L, e = .returned (.slice (some ⟨g, 0, none⟩) (n + 1) (n + 1)) ∧ Row w' g L ∧ Ws L ∧ L.length = n + 1 ∧ nv L = nv xs * 2 ^ s ∧ w.heap.size ≤ g ∧ Ext w w' := by
 have hlx := h.len
 have hmk := run_make32 (n + 1) (by omega) w
 push_cast at hmk
 have hr0 := Row.new w (List.replicate (n + 1) 0)
 have hE0 : Ext w (w.alloc (.cells (u32s (List.replicate (n + 1) 0)).toArray 61)) := (Ext.refl w).alloc _
 obtain ⟨w1, hw1⟩ : ∃ w1, w1 = w.alloc (.cells (u32s (List.replicate (n + 1) 0)).toArray 61) := ⟨_, rfl⟩
 rw [← hw1] at hmk hr0 hE0
 clear hw1
 obtain ⟨g, hg⟩ : ∃ g, g = w.heap.size := ⟨_, rfl⟩
 rw [← hg] at hmk hr0
 have hgl : w.heap.size ≤ g := by omega
 clear hg
 have hp : 0 < 2 ^ s := Nat.two_pow_pos s
 go_enter Tryz.func121, Tryz.ntmps121
 go_wp2
 clear hmk
 go_loopw [6, 15] (fun cv iv wr => ∃ (i cr : Nat) (L : List Nat), i ≤ n ∧ iv = .int .i64 i ∧ cv = .int .u64 (cr : Int) ∧ Hid (cr < 2 ^ s) ∧ cr < 4294967296 ∧ Row wr g L ∧ Ws L ∧ Hid (L.length = n + 1) ∧ Hid (nv (L.take i) + 4294967296 ^ i * cr = nv (xs.take i) * 2 ^ s) ∧ Ext w wr) (fun _ iv _ => n - (intOf iv).toNat)
 case atStart => exact ⟨0, 0, _, Nat.zero_le _, rfl, rfl, Lib.hid hp, by omega, hr0, Ws.replicate _ (by omega), Lib.hid (by simp), Lib.hid (by simp [nv]), hE0⟩
 case round =>
   obtain ⟨i, cr, L, hi, rfl, rfl, hcr, hcr32, hrow, hL, hLl, hinv, hE⟩ := hrel
   by_cases hlt : i < n
   · obtain ⟨ad, hx, rfl, _, hcX⟩ := (h.ext hE).at_ (k := i) hlt
     have hX32 := h.ws.get hx
     have hiL : i < L.length := by rw [hLl.out]; omega
     have hst := fun v lo hi' => shift_step (s := s) (v := v) (lo := lo) (hi := hi') hiL hx rfl hX32 hcr.out hinv.out
     obtain ⟨x, hxe⟩ : ∃ x, x = xs[i] := ⟨_, rfl⟩
     rw [← hxe] at hcX hX32 hst
     have hor := or_shift cr x s hs hcr.out hX32
     obtain ⟨v, hv⟩ : ∃ v, v = cr + x * 2 ^ s := ⟨_, rfl⟩
     rw [← hv] at hor
     obtain ⟨p, hp1, hp2, hor1, hv64⟩ := hor
     have hst' := hst v (v % 4294967296) (v / 4294967296) hv rfl rfl
     have hc1 := hrow.cell hiL
     have hf1 := hrow.frozen i
     have hrow' := hrow.set_ i (v % 4294967296)
     have e1 : (v : Int) % 4294967296 = ((v % 4294967296 : Nat) : Int) := by omega
     have e2 : (v : Int) / 4294967296 = ((v / 4294967296 : Nat) : Int) := by omega
     have hlo32 : v % 4294967296 < 4294967296 := by omega
     have hhi32 : v / 4294967296 < 4294967296 := by omega
     obtain ⟨lo, hlo⟩ : ∃ lo, lo = v % 4294967296 := ⟨_, rfl⟩
     obtain ⟨hi', hhi⟩ : ∃ hi', hi' = v / 4294967296 := ⟨_, rfl⟩
     rw [← hlo] at e1 hrow' hlo32 hst'
     rw [← hhi] at e2 hhi32 hst'
     have HST := Lib.hid hst'
     have Hlx := Lib.hid hlx
     have Hx := Lib.hid hxe
     clear hst hst' hlo hhi hv hxe hlx
     go_wp2
     go_roundw
     case rel => exact ⟨i + 1, hi', _, by omega, by go_num, rfl, Lib.hid HST.out.2, hhi32, hrow', hL.set _ hlo32, Lib.hid (by simp [hLl.out]), Lib.hid HST.out.1, hE.setCell hgl _⟩
     case measure => simp [intOf]; omega
   · have hie : i = n := by omega
     subst hie
     have hiL : i < L.length := by rw [hLl.out]; omega
     have hc1 := hrow.cell hiL
     have hf1 := hrow.frozen i
     have hrow' := hrow.set_ i cr
     have hval : Hid (nv (L.set i cr) = nv xs * 2 ^ s) := Lib.hid (by
       have h1 := hinv.out
       rw [List.take_of_length_le (show xs.length ≤ i by omega)] at h1
       rw [← h1, ← List.take_of_length_le (show (L.set i cr).length ≤ i + 1 by simp [hLl.out]), nv_take_succ (l := L.set i cr) (by simpa using hiL), take_set_self, List.getElem_set_self])
     go_wp2
     go_ret
     exact ⟨g, _, rfl, hrow', hL.set _ hcr32, by simp [hLl.out], hval.out, hgl, hE.setCell hgl _⟩
theorem run_make32c (n m : Nat) (hnm : n ≤ m) (hm : m ≤ 70368744177664) (w : World) :
   (Instr.makeSlice 35 (.int .i64 (n : Int)) (.int .i64 (m : Int))).run Tryz.prog w = .ok (.slice (some ⟨w.heap.size, 0, none⟩) n m) (w.alloc (.cells (u32s (List.replicate m 0)).toArray 61)) := by
 obtain ⟨i0, hi0, hz0, hz1, hz2⟩ := info_parts info_u32
 have hr := run_make (P := Tryz.prog) w 35 61 i0 (.int .u32 0) Tryz.underlying35 hi0 hz0 .i64 .i64 n m (by omega) (by omega) (by rw [hz2]; omega) (by omega)
 simp only [Int.toNat_natCast] at hr
 rw [hr, hz1, cells_replicate]
theorem Row.own_cap {w : World} {g : Nat} {L : List Nat} (h : Row w g L) {base n m : Nat} (hb : base ≤ g) (hn : L.length = m) (hnm : n ≤ m) (hm : m ≤ maxLen) : w.ownsRow base 61 1 (.slice (some ⟨g, 0, none⟩) n m) n (u32s (L.take n)) :=
 ⟨by rw [u32s_length, List.length_take]; omega, .inr ⟨g, m, _, rfl, hb, h, hnm, hm, by simp [u32s_length, hn], by simp [u32s, List.map_take]⟩⟩
theorem nv_zeros_append (k : Nat) (L : List Nat) : nv (List.replicate k 0 ++ L) = 4294967296 ^ k * nv L := by
 rw [nv_append, nv_replicate, List.length_replicate, Nat.zero_add]
theorem wp_appRow {ops : Array Oper} {rest : List Oper} {o : Oper} {a : Act} {Q : Exit → Act → World → Prop} (hgd : o.guard = none) (s x : Operand)
   (ho : o.op = .call { callee := .builtin .append, args := #[s, x], argTypes := #[35, 35] })
   {w0 w : World} {v : Value} {j m c : Nat} {acc L : List Nat} {g : Nat} (hs : a.eval s = v) (hown : w.ownsRow w0.heap.size 61 1 v j (u32s acc)) (hb : Ext w0 w)
   (hx : a.eval x = .slice (some ⟨g, 0, none⟩) m c) (hr : Row w g L) (hl : L.length = m) (hj : j + m ≤ 35184372088000)
   (h : ∀ v' w1, w1.ownsRow w0.heap.size 61 1 v' (j + m) (u32s (acc ++ L)) → Ext w0 w1 → wpList Tryz.prog ops Q rest (a.put o.dst v') w1) :
   wpList Tryz.prog ops Q (o :: rest) a w := by
 obtain ⟨i0, hi0, hz0, hz1, hz2⟩ := info_parts info_u32
 refine wpList_append_own _ hgd s x _ ho w0.heap.size 61 i0 (.int .u32 0) 1 4 Tryz.underlying35 hi0 hz0 hz1 hz2 rfl (by decide) _ _ _ hs hown ⟨g, 0, none⟩ m c (u32s L) hx (by rw [u32s_length, hl]; omega) (fun k u hk => ?_) (fun u hu => ?_) (by simp only [maxLen]; omega) (by omega) hb.size ?_
 · unfold u32s at hk
   rw [List.getElem?_map] at hk
   cases hx : L[k]? with
   | none => rw [hx] at hk; cases hk
   | some y =>
     rw [hx] at hk
     injection hk with hk
     subst hk
     obtain ⟨hkl, hky⟩ := List.getElem?_eq_some_iff.1 hx
     rw [Addr.add_lit, Nat.zero_add, hr.cell hkl, hky]
 · unfold u32s at hu
   obtain ⟨y, _, rfl⟩ := List.mem_map.1 hu
   rfl
 · intro v' w1 hown' hgrow _
   have e : u32s acc ++ u32s L = u32s (acc ++ L) := by simp [u32s]
   rw [e] at hown'
   exact h v' w1 hown' (hb.grown hgrow fun q hq => (hown.lt q hq).1)
set_option maxHeartbeats 1000000 in
theorem nup_any (A : Option Addr) (n c : Nat) (xs : List Nat) (s : Nat) (w : World) (h : Wds w A n c xs) (hn : n ≤ 1099511627776) (hs : s ≤ 35184372088832) :
   Calls Tryz.prog 117 #[.slice A n c, .int .i64 (s : Int)] w (RetW (nv xs * 2 ^ s) w) := by
 obtain ⟨D, S, hS, hsD⟩ : ∃ D S, S < 32 ∧ s = 32 * D + S := ⟨s / 32, s % 32, Nat.mod_lt _ (by omega), by omega⟩
 have hq : (s : Int) / 32 = (D : Int) := by omega
 have hr : (s : Int) % 32 = (S : Int) := by omega
 have hV : nv xs * 2 ^ s = 4294967296 ^ D * (nv xs * 2 ^ S) := by
   rw [hsD, Nat.pow_add, Nat.pow_mul, show (2 ^ 32 : Nat) = 4294967296 from rfl]
   simp only [Nat.mul_assoc, Nat.mul_comm, Nat.mul_left_comm]
 rw [hV]
 have hmk := run_make32c D (D + n + 1) (by omega) (by omega) w
 push_cast at hmk
 have hr0 := Row.new w (List.replicate (D + n + 1) 0)
 have hE0 : Ext w (w.alloc (.cells (u32s (List.replicate (D + n + 1) 0)).toArray 61)) := (Ext.refl w).alloc _
 obtain ⟨w1, hw1⟩ : ∃ w1, w1 = w.alloc (.cells (u32s (List.replicate (D + n + 1) 0)).toArray 61) := ⟨_, rfl⟩
 rw [← hw1] at hmk hr0 hE0
 clear hw1
 obtain ⟨g, hg⟩ : ∃ g, g = w.heap.size := ⟨_, rfl⟩
 rw [← hg] at hmk hr0
 have hgl : w.heap.size ≤ g := by omega
 clear hg hV hsD
 go_enter Tryz.func117, Tryz.ntmps117
 go_wp2_with fail
 refine (nshift_any _ _ _ _ S _ (h.ext hE0) (by omega) hS).mono ?_
 rintro e w2 ⟨g2, L, rfl, hr2, hL, hLl, hLv, hg2, hE2⟩
 have hown := Row.own_cap (hr0.ext hE2) hgl (show _ = D + n + 1 by simp) (show D ≤ D + n + 1 by omega) (by unfold maxLen; omega)
 have ht : (List.replicate (D + n + 1) 0).take D = List.replicate D 0 := by rw [List.take_replicate]; congr 1; omega
 rw [ht] at hown
 have HL := Lib.hid hLv
 have hE := hE0.trans hE2
 clear hmk ht hLv
 go_wp2_with (at_builtin; refine wp_appRow rfl (.tmp 15) (.tmp 19) rfl rfl hown hE rfl hr2 hLl (by omega) ?_; intro v' w3 hown' hE3)
 obtain ⟨A3, c3, rfl, hW⟩ := Wds.of_own hown' (Ws.append (Ws.replicate _ (by omega)) hL)
 refine (ncut_any _ _ _ _ _ hW (by omega)).mono ?_
 rintro e w4 ⟨A4, n4, c4, rfl, hR, hE4⟩
 rw [nv_zeros_append, HL.out] at hR
 clear hown hown' hW
 go_wp2
 go_ret
 exact ⟨_, _, _, rfl, hR, hE3.trans hE4⟩
end Go.Proofs.YtbcaggdgoidlaaaGreatDoor

namespace Go.Proofs.YtbcaggdgoidlaaaGreatDoor
open Go.RowKit Nm
set_option maxRecDepth 100000
set_option linter.unusedVariables false
set_option linter.unusedSimpArgs false
theorem Wds.pre {w : World} {A : Option Addr} {n c : Nat} {xs : List Nat} (h : Wds w A n c xs) : Wds w A (nw (nv xs)) c (nd (nv xs)) := by
 have hle : nw (nv xs) ≤ n := by have := nw_nv_le h.ws; have := h.len; omega
 have hc1 := h.lec
 refine ⟨nd_length _, by omega, h.cmax, Ws.nd _, fun h0 => ?_⟩
 obtain ⟨ad, e, hlt, hc⟩ := h.2.2.2.2 (by omega)
 refine ⟨ad, e, hlt, fun k x hk => hc k x ?_⟩
 rw [nd_take h.ws, List.getElem?_take] at hk
 split at hk
 · exact hk
 · cases hk
theorem isLong_nd (V : Nat) (A : Option Addr) (n c : Nat) : isLong ⟨A, n, c, nd V⟩ = decide (16384 < nw V) := by
 unfold isLong; rw [nv_nd]
theorem nlong_one (g c : Nat) (A : Option Addr) (m d V : Nat) (w : World) (hc : w.cell? ⟨g, 0, none⟩ = some (.slice A m d)) (h : Wds w A m d (nd V)) (hm : m ≤ 35184372088832) :
   Calls Tryz.prog 96 #[.slice (some ⟨g, 0, none⟩) 1 c] w fun e w' => e = .returned (.bool (decide (16384 < nw V))) ∧ w = w' :=
 (nlong_any g 1 c [⟨A, m, d, nd V⟩] w rfl (by omega) (fun i s hs => by
   match i, hs with
   | 0, hs => simp at hs; subst hs; exact hc
   | i + 1, hs => simp at hs) (fun s hs => by simp at hs; subst hs; exact ⟨h, hm⟩)).mono fun e w' h => ⟨by rw [h.1]; exact ret_bool (by simp [isLong_nd]), h.2⟩
set_option maxHeartbeats 1000000 in
theorem nshl_zero (A : Option Addr) (n c : Nat) (xs : List Nat) (s : Nat) (w : World) (h : Wds w A n c xs) (hn : n ≤ 17592186044416) (hs : s ≤ 35184372088832) (h0 : nv xs = 0) :
   Calls Tryz.prog 104 #[.slice A n c, .int .i64 (s : Int)] w (RetWE 0 0 w) := by
 have hnw := nwords_any A n c xs w h (by omega)
 have hpre := h.pre
 rw [h0, nw_zero] at hnw hpre
 have HN := Lib.hid hnw
 have HL := Lib.hid (fun g w hc h => nlong_one g 1 A 0 c 0 w hc h (by omega))
 have hlec := h.lec
 clear hnw h0
 cases A
 all_goals
   go_enter Tryz.func104, Tryz.ntmps104
   go_wp2_with (first | (go_at_call 111; refine HN.out.mono ?_; rintro e w' ⟨rfl, rfl⟩) | (go_at_call 96; refine (HL.out _ _ (by simp) (hpre.alloc _)).mono ?_; rintro e w' ⟨rfl, rfl⟩))
   go_ret2
   exact ⟨none, 0, 0, rfl, Wds.nil_ (by unfold maxLen; omega), (Ext.refl w).alloc _⟩
theorem nw_of_bl {V : Nat} (h : bl V ≤ 524288) : nw V ≤ 16384 := by rw [nw_bl]; omega
theorem bl_le_nw (V : Nat) : bl V ≤ 32 * nw V := by rw [bl_le_iff, ← pow32]; exact lt_pow_nw V
set_option maxHeartbeats 2000000 in
theorem nshl_any (A : Option Addr) (n c : Nat) (xs : List Nat) (s : Nat) (w : World) (h : Wds w A n c xs) (hn : n ≤ 17592186044416) (h0 : nv xs ≠ 0) (hs : bl (nv xs) + s ≤ 524288) :
   Calls Tryz.prog 104 #[.slice A n c, .int .i64 (s : Int)] w (RetWE (nv xs * 2 ^ s) 0 w) := by
 have hnw := nwords_any A n c xs w h (by omega)
 have hpre := h.pre
 have hle : nw (nv xs) ≤ n := by have := nw_nv_le h.ws; have := h.len; omega
 have hnl : nw (nv xs) ≤ 16384 := nw_of_bl (by omega)
 have hn1 : 0 < nw (nv xs) := by rcases Nat.eq_zero_or_pos (nw (nv xs)) with e | e; exact absurd (nw_eq_zero.1 e) h0; exact e
 obtain ⟨V, hV⟩ : ∃ V, V = nv xs := ⟨_, rfl⟩
 rw [← hV] at hnw hpre hle hnl hn1 hs ⊢
 have hvn := nv_nd V
 obtain ⟨m, hm⟩ : ∃ m, m = nw V := ⟨_, rfl⟩
 obtain ⟨vs, hvs⟩ : ∃ vs, vs = nd V := ⟨_, rfl⟩
 rw [← hm] at hnw hle hnl hn1
 have hLG : ∀ g w, w.cell? ⟨g, 0, none⟩ = some (.slice A m c) → Wds w A m c vs → Calls Tryz.prog 96 #[.slice (some ⟨g, 0, none⟩) 1 1] w fun e w' => e = .returned (.bool false) ∧ w = w' := fun g w hc hw =>
   (nlong_one g 1 A m c V w hc (hvs ▸ hw) (by omega)).mono fun e w' h => ⟨by rw [h.1, ← hm, decide_eq_false (by omega)], h.2⟩
 rw [← hm, ← hvs] at hpre
 rw [← hvs] at hvn
 obtain ⟨B, hB⟩ : ∃ B, B = bl V := ⟨_, rfl⟩
 rw [← hB] at hs
 have hLen : ∀ w, Wds w A m c vs → Calls Tryz.prog 99 #[.slice A m c] w fun e w' => e = .returned (.int .i64 (B : Int)) ∧ w = w' := fun w hw =>
   (nlen_any A m c vs w hw (by omega)).mono fun e w' h => ⟨by rw [h.1, hvn, ← hB], h.2⟩
 have hUp : ∀ w, Wds w A m c vs → Calls Tryz.prog 117 #[.slice A m c, .int .i64 (s : Int)] w (RetW (V * 2 ^ s) w) := fun w hw => by
   have := nup_any A m c vs s w hw (by omega) (by omega)
   rwa [hvn] at this
 have HN := Lib.hid hnw
 have HG := Lib.hid hLG
 have HE := Lib.hid hLen
 have HU := Lib.hid hUp
 have hp1 := hpre.alloc (.cells #[.slice A m c] 35)
 have hlec := h.lec
 clear hnw hLG hLen hUp hV hvn hm hvs hB h0 h
 cases A
 all_goals
   go_enter Tryz.func104, Tryz.ntmps104
   go_wp2_with (first | (go_at_call 111; refine HN.out.mono ?_; rintro e w' ⟨rfl, rfl⟩) | (go_at_call 96; refine (HG.out _ _ (by simp) hp1).mono ?_; rintro e w' ⟨rfl, rfl⟩) | (go_at_call 99; refine (HE.out _ hp1).mono ?_; rintro e w' ⟨rfl, rfl⟩) | (go_at_call 117; refine (HU.out _ hp1).mono ?_; rintro e w' ⟨A2, n2, c2, rfl, hR, hE⟩))
   go_ret2
   exact ⟨A2, n2, c2, rfl, hR, ((Ext.refl w).alloc _).trans hE⟩
set_option maxHeartbeats 2000000 in
theorem nshl_long (A : Option Addr) (n c : Nat) (xs : List Nat) (s : Nat) (w : World) (h : Wds w A n c xs) (hn : n ≤ 17592186044416) (h0 : nv xs ≠ 0) (hnl : nw (nv xs) ≤ 16384) (hsb : s ≤ 35184372088832) (hs : 524288 < bl (nv xs) + s) :
   Calls Tryz.prog 104 #[.slice A n c, .int .i64 (s : Int)] w (RetWE 0 2 w) := by
 have hnw := nwords_any A n c xs w h (by omega)
 have hpre := h.pre
 have hle : nw (nv xs) ≤ n := by have := nw_nv_le h.ws; have := h.len; omega
 have hn1 : 0 < nw (nv xs) := by rcases Nat.eq_zero_or_pos (nw (nv xs)) with e | e; exact absurd (nw_eq_zero.1 e) h0; exact e
 obtain ⟨V, hV⟩ : ∃ V, V = nv xs := ⟨_, rfl⟩
 rw [← hV] at hnw hpre hle hnl hn1 hs
 have hvn := nv_nd V
 obtain ⟨m, hm⟩ : ∃ m, m = nw V := ⟨_, rfl⟩
 obtain ⟨vs, hvs⟩ : ∃ vs, vs = nd V := ⟨_, rfl⟩
 rw [← hm] at hnw hle hnl hn1
 have hLG : ∀ g w, w.cell? ⟨g, 0, none⟩ = some (.slice A m c) → Wds w A m c vs → Calls Tryz.prog 96 #[.slice (some ⟨g, 0, none⟩) 1 1] w fun e w' => e = .returned (.bool false) ∧ w = w' := fun g w hc hw =>
   (nlong_one g 1 A m c V w hc (hvs ▸ hw) (by omega)).mono fun e w' h => ⟨by rw [h.1, ← hm, decide_eq_false (by omega)], h.2⟩
 rw [← hm, ← hvs] at hpre
 rw [← hvs] at hvn
 obtain ⟨B, hB⟩ : ∃ B, B = bl V := ⟨_, rfl⟩
 rw [← hB] at hs
 have hLen : ∀ w, Wds w A m c vs → Calls Tryz.prog 99 #[.slice A m c] w fun e w' => e = .returned (.int .i64 (B : Int)) ∧ w = w' := fun w hw =>
   (nlen_any A m c vs w hw (by omega)).mono fun e w' h => ⟨by rw [h.1, hvn, ← hB], h.2⟩
 have hBb : B ≤ 524288 := by have := bl_le_nw V; omega
 have HN := Lib.hid hnw
 have HG := Lib.hid hLG
 have HE := Lib.hid hLen
 have hp1 := hpre.alloc (.cells #[.slice A m c] 35)
 have hlec := h.lec
 clear hnw hLG hLen hV hvn hm hvs hB h0 h
 cases A
 all_goals
   go_enter Tryz.func104, Tryz.ntmps104
   go_wp2_with (first | (go_at_call 111; refine HN.out.mono ?_; rintro e w' ⟨rfl, rfl⟩) | (go_at_call 96; refine (HG.out _ _ (by simp) hp1).mono ?_; rintro e w' ⟨rfl, rfl⟩) | (go_at_call 99; refine (HE.out _ hp1).mono ?_; rintro e w' ⟨rfl, rfl⟩))
   go_ret2
   exact ⟨none, 0, 0, rfl, Wds.nil_ (by unfold maxLen; omega), (Ext.refl w).alloc _⟩
end Go.Proofs.YtbcaggdgoidlaaaGreatDoor

namespace Go.Proofs.YtbcaggdgoidlaaaGreatDoor
open Go.RowKit Nm Rn
set_option maxRecDepth 100000
set_option linter.unusedVariables false
set_option linter.unusedSimpArgs false
theorem fo_lt {x y : Nat} (hx : x < 18446744073709551616) (hy : y < 18446744073709551616) : (FloatKind.f64.format.order x y == some .lt) = ltB x y := order_lt hx hy
theorem fo_eq {x y : Nat} (hx : x < 18446744073709551616) (hy : y < 18446744073709551616) : (FloatKind.f64.format.order x y == some .eq) = eqB x y := order_eqv hx hy
theorem fo_ne {x y : Nat} (hx : x < 18446744073709551616) (hy : y < 18446744073709551616) : (FloatKind.f64.format.order x y != some .eq) = !eqB x y := by rw [bne, fo_eq hx hy]
theorem fo_gt {x y : Nat} (hx : x < 18446744073709551616) (hy : y < 18446744073709551616) : (FloatKind.f64.format.order x y == some .gt) = ltB y x := order_gt hx hy
theorem fo_le {x y : Nat} (hx : x < 18446744073709551616) (hy : y < 18446744073709551616) : (FloatKind.f64.format.order x y == some .lt || FloatKind.f64.format.order x y == some .eq) = leB x y := order_le hx hy
theorem fo_ge {x y : Nat} (hx : x < 18446744073709551616) (hy : y < 18446744073709551616) : (FloatKind.f64.format.order x y == some .gt || FloatKind.f64.format.order x y == some .eq) = leB y x := order_ge hx hy
theorem infR_lt : infR < 18446744073709551616 := by rw [infR_val]; omega
theorem minf_lt : minf < 18446744073709551616 := by rw [minf_val]; omega
set_option maxHeartbeats 400000 in
theorem inf_p (w : World) : Calls Tryz.prog 40 #[.int .i64 1] w fun e w' => e = .returned (.float .f64 infR) ∧ w = w' := by
 go_enter Tryz.func40, Tryz.ntmps40
 go_wp2
 go_ret
 exact ⟨rfl, rfl⟩
set_option maxHeartbeats 400000 in
theorem inf_m (w : World) : Calls Tryz.prog 40 #[.int .i64 (-1)] w fun e w' => e = .returned (.float .f64 minf) ∧ w = w' := by
 go_enter Tryz.func40, Tryz.ntmps40
 go_wp2
 go_ret
 exact ⟨rfl, rfl⟩
theorem mg_lt64 (b : Nat) : mg b < 18446744073709551616 := by have := mg_lt b; omega
theorem sg_mg (b : Nat) : sg (mg b) = false := by unfold sg; exact decide_eq_false (by have := mg_lt b; omega)
theorem mg_mg (b : Nat) : mg (mg b) = mg b := by unfold mg; omega
theorem key_mg (b : Nat) : key (mg b) = (mg b : Int) := by unfold key; rw [sg_mg, mg_mg]; rfl
theorem nan_mg (b : Nat) : isNaN (mg b) = isNaN b := by unfold isNaN; rw [mg_mg]
theorem eqB_self (b : Nat) : eqB b b = !isNaN b := by unfold eqB; cases isNaN b <;> simp
theorem lt_max (b : Nat) : ltB 9218868437227405311 (mg b) = isInf b := by
 unfold ltB
 rw [nan_mg, key_mg, show isNaN 9218868437227405311 = false from rfl, show key 9218868437227405311 = 9218868437227405311 from rfl]
 unfold isNaN isInf
 rw [infR_val, Bool.eq_iff_iff]
 simp
 omega
set_option maxHeartbeats 400000 in
theorem mabs_any (b : Nat) (w : World) (h : b < 18446744073709551616) :
   Calls Tryz.prog 81 #[.float .f64 b] w fun e w' => e = .returned (.float .f64 (mg b)) ∧ w = w' := by
 have g := andNot_top b h
 go_enter Tryz.func81, Tryz.ntmps81
 go_wp2
 go_ret
 exact ⟨rfl, rfl⟩
set_option maxHeartbeats 400000 in
theorem mnan_any (b : Nat) (w : World) (h : b < 18446744073709551616) :
   Calls Tryz.prog 65 #[.float .f64 b] w fun e w' => e = .returned (.bool (isNaN b)) ∧ w = w' := by
 have hq := fo_ne h h
 rw [eqB_self, Bool.not_not] at hq
 clear h
 go_enter Tryz.func65, Tryz.ntmps65
 go_wp2
 go_ret
 exact ⟨rfl, rfl⟩
set_option maxHeartbeats 400000 in
theorem misinf_any (b : Nat) (w : World) (h : b < 18446744073709551616) :
   Calls Tryz.prog 67 #[.float .f64 b, .int .i64 0] w fun e w' => e = .returned (.bool (isInf b)) ∧ w = w' := by
 have hq := fo_gt (mg_lt64 b) (show 9218868437227405311 < 18446744073709551616 by omega)
 rw [lt_max] at hq
 have HA := Lib.hid (fun w => mabs_any b w h)
 clear h
 go_enter Tryz.func67, Tryz.ntmps67
 go_wp2_with (go_at_call 81; refine (HA.out _).mono ?_; rintro e w' ⟨rfl, rfl⟩)
 go_ret
 exact ⟨rfl, rfl⟩
end Go.Proofs.YtbcaggdgoidlaaaGreatDoor

namespace Go.Proofs.YtbcaggdgoidlaaaGreatDoor
open Go.RowKit Nm Rn
set_option maxRecDepth 100000
set_option linter.unusedVariables false
set_option linter.unusedSimpArgs false
def RetFl (v : Nat) (w : World) (e : Ending) (w' : World) : Prop :=
 ∃ r, e = .returned (.float .f64 r) ∧ r < 18446744073709551616 ∧ cn r = v ∧ Ext w w'
theorem cn_num {r : Nat} (h : isNaN r = false) : cn r = r := by unfold cn; rw [h]; rfl
theorem rnd_ok (d : Int) (neg : Bool) (Z : Nat) : rnd d neg Z < 18446744073709551616 ∧ isNaN (rnd d neg Z) = false := by
 have h := rr_le d neg Z
 rw [infR_val] at h
 unfold rnd pat
 generalize rr d neg Z = r at h
 have h2 : isNaN 0 = false := rfl
 by_cases h0 : r = 0
 · rw [if_pos h0]; exact ⟨by omega, h2⟩
 · rw [if_neg h0]
   unfold isNaN mg
   rw [infR_val]
   cases neg
   · simp; omega
   · simp; omega
end Go.Proofs.YtbcaggdgoidlaaaGreatDoor

namespace Go.Proofs.YtbcaggdgoidlaaaGreatDoor
open Go.RowKit Nm Rn
set_option maxRecDepth 100000
set_option linter.unusedVariables false
set_option linter.unusedSimpArgs false
def RetD (neg : Bool) (V : Nat) (x : Int) (w : World) (e : Ending) (w' : World) : Prop :=
 ∃ A n c, e = .returned (.agg #[.bool neg, .slice A n c, .int .i64 x]) ∧ Wds w' A n c (nd V) ∧ Ext w w'
theorem zero_dy (w : World) : (zeroValue 83).run Tryz.prog w = .ok (.agg #[.bool false, .slice none 0 0, .int .i64 0]) w := by kernel_rfl
theorem agg_dy (w : World) : (isAgg 83).run Tryz.prog w = .ok true w := by kernel_rfl
theorem size_dy (w : World) : (sizeOf 83).run Tryz.prog w = .ok 3 w := by kernel_rfl
theorem and52 (b : Nat) (h : b < 18446744073709551616) : bits .and .u64 (b : Int) 4503599627370495 = ((b % 4503599627370496 : Nat) : Int) := by
 rw [show (4503599627370495 : Int) = ((4503599627370495 : Nat) : Int) from rfl, u64_and_nat _ _ h (by omega)]
 congr 1
 exact Nat.and_two_pow_sub_one_eq_mod b 52
theorem and11 (b : Nat) (h : b < 18446744073709551616) : bits .and .u64 ((b : Int) / 4503599627370496) 2047 = ((b / 4503599627370496 % 2048 : Nat) : Int) := by
 rw [show (2047 : Int) = ((2047 : Nat) : Int) from rfl, show (b : Int) / 4503599627370496 = ((b / 4503599627370496 : Nat) : Int) from rfl, u64_and_nat _ _ (by omega) (by omega)]
 congr 1
 exact Nat.and_two_pow_sub_one_eq_mod (b / 4503599627370496) 11
theorem or52 (f : Nat) (h : f < 4503599627370496) : bits .or .u64 (f : Int) 4503599627370496 = ((f + 4503599627370496 : Nat) : Int) := by
 rw [show (4503599627370496 : Int) = ((4503599627370496 : Nat) : Int) from rfl, u64_or_nat _ _ (by omega) (by omega)]
 congr 1
 have := Nat.two_pow_add_eq_or_of_lt (i := 52) (b := f) h 1
 rw [Nat.or_comm, ← Nat.mul_one 4503599627370496]
 have h2 : (2 ^ 52 : Nat) = 4503599627370496 := rfl
 rw [h2] at this
 omega
set_option maxHeartbeats 1000000 in
theorem part_any (b : Nat) (w : World) (hb : b < 18446744073709551616) :
   Calls Tryz.prog 69 #[.float .f64 b] w (RetD (sg b) (fbSig b) (fbExp b) w) := by
 have hO := Own.start w
 have hA := and52 b hb
 have hB := and11 b hb
 have hS : ((b : Int) / 9223372036854775808 == 1) = sg b := by
   unfold sg; rw [Bool.eq_iff_iff, beq_iff_eq, decide_eq_true_iff]; omega
 have hC := or52 (b % 4503599627370496) (by omega)
 have e1 : fbSig b = if b / 4503599627370496 % 2048 = 0 then b % 4503599627370496 else b % 4503599627370496 + 4503599627370496 := rfl
 have e2 : fbExp b = (if b / 4503599627370496 % 2048 = 0 then 0 else (b / 4503599627370496 % 2048 : Nat) - 1 : Int) - 1074 := rfl
 have hE : b / 4503599627370496 % 2048 < 2048 := by omega
 have hF : b % 4503599627370496 < 4503599627370496 := by omega
 obtain ⟨V, hV⟩ : ∃ V, V = fbSig b := ⟨_, rfl⟩
 obtain ⟨X, hX⟩ : ∃ X, X = fbExp b := ⟨_, rfl⟩
 rw [← hV] at e1 ⊢
 rw [← hX] at e2 ⊢
 clear hV hX
 generalize b / 4503599627370496 % 2048 = E at *
 generalize b % 4503599627370496 = F at *
 generalize sg b = S at *
 have H1 := Lib.hid e1
 have H2 := Lib.hid e2
 clear e1 e2
 rcases Nat.eq_zero_or_pos E with h0 | h0
 · have e1 := H1.out
   rw [if_pos h0] at e1
   have e2 := H2.out
   rw [if_pos h0] at e2
   subst e1 h0
   have H2 := Lib.hid e2
   clear e2 hC H1
   have HSM := Lib.hid (fun w => nsmall_any V w (by omega))
   go_enter Tryz.func69, Tryz.ntmps69
   go_wp2_with (first
     | (refine own_alloc hO zero_dy rfl rfl ?_; clear hO; intro g w1 hO)
     | (go_at_call 87; refine (HSM.out _).mono ?_; rintro e w' ⟨A, n, c, rfl, hR, hEx⟩; have hO := (hO.ext hEx).add hR; clear hR hEx)
     | (refine own_store hO 0 rfl rfl rfl size_dy rfl rfl rfl ?_; clear hO; intro w1 hO))
   exact own_ret hO 0 rfl rfl rfl agg_dy size_dy rfl ⟨_, _, _, by rw [H2.out]; rfl, hO.wd 0 rfl, hO.toExt⟩
 · have e1 := H1.out
   rw [if_neg (by omega)] at e1
   have e2 := H2.out
   rw [if_neg (by omega)] at e2
   rw [← e1] at hC
   have hV : V < 18446744073709551616 := by omega
   have H2 := Lib.hid e2
   clear e1 e2 H1
   have HSM := Lib.hid (fun w => nsmall_any V w hV)
   clear hV
   go_enter Tryz.func69, Tryz.ntmps69
   go_wp2_with (first
     | (refine own_alloc hO zero_dy rfl rfl ?_; clear hO; intro g w1 hO)
     | (go_at_call 87; refine (HSM.out _).mono ?_; rintro e w' ⟨A, n, c, rfl, hR, hEx⟩; have hO := (hO.ext hEx).add hR; clear hR hEx)
     | (refine own_store hO 0 rfl rfl rfl size_dy rfl rfl rfl ?_; clear hO; intro w1 hO))
   exact own_ret hO 0 rfl rfl rfl agg_dy size_dy rfl ⟨_, _, _, by rw [H2.out]; rfl, hO.wd 0 rfl, hO.toExt⟩
end Go.Proofs.YtbcaggdgoidlaaaGreatDoor
