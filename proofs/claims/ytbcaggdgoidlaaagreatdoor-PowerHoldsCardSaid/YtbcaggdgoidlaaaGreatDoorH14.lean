/-
 The contracts of the program's own naturals, tenth part: a word added, a word taken away; Add, Sub. Conditions: those that each theorem names.
-/
import Derived.Test.YtbcaggdgoidlaaaGreatDoorH13
import Derived.Deep.DeepCutAuto
import Derived.Test.YtbcaggdgoidlaaaGreatDoorH12
import Derived.Test.YtbcaggdgoidlaaaGreatDoorH09
import Derived.Test.YtbcaggdgoidlaaaGreatDoorH10
import Derived.Test.YtbcaggdgoidlaaaGreatDoorH01
namespace Go.Proofs.YtbcaggdgoidlaaaGreatDoor
open Go.RowKit Nm
set_option maxRecDepth 100000
set_option linter.unusedVariables false
set_option linter.unusedSimpArgs false
set_option maxHeartbeats 1000000 in
theorem add32_any (x y c lo hi : Nat) (w : World) (hx : x < 4294967296) (hy : y < 4294967296) (hc : c ≤ 1) (hlo : lo = (x + y + c) % 4294967296) (hhi : hi = (x + y + c) / 4294967296) :
   Calls Tryz.prog 128 #[.int .u32 (x : Int), .int .u32 (y : Int), .int .u32 (c : Int)] w fun e w' => e = .returned (.tuple #[.int .u32 (lo : Int), .int .u32 (hi : Int)]) ∧ w = w' := by
 have e1 : ((x : Int) + (y : Int) + (c : Int)) % 4294967296 = (lo : Int) := by omega
 have e2 : ((x : Int) + (y : Int) + (c : Int)) / 4294967296 = (hi : Int) := by omega
 have e3 : hi ≤ 1 := by omega
 have E1 := Lib.hid e1
 clear hlo hhi e1
 go_enter Tryz.func128, Tryz.ntmps128
 go_wp2
 go_ret2
 exact ⟨by rw [← E1.out]; rfl, rfl⟩
theorem sub32_bits (x y c D hi : Nat) (hx : x < 4294967296) (hy : y < 4294967296) (hc : c ≤ 1) (hD : D = (x + 4294967296 - (y + c)) % 4294967296) (hhi : hi = if x < y + c then 1 else 0) :
   bits .or .u32 (bits .and .u32 (bits .xor .u32 IntKind.u32.max (x : Int)) (y : Int)) (bits .and .u32 (bits .xor .u32 IntKind.u32.max (bits .xor .u32 (x : Int) (y : Int))) (D : Int)) / 2147483648 = (hi : Int) := by
 have hm : IntKind.u32.max = ((4294967295 : Nat) : Int) := by decide
 have hxor : ∀ a b : Nat, a < 4294967296 → b < 4294967296 → a ^^^ b < 4294967296 := fun a b h1 h2 => Nat.xor_lt_two_pow (n := 32) h1 h2
 have hand : ∀ a b : Nat, a < 4294967296 → a &&& b < 4294967296 := fun a b h1 => Nat.lt_of_le_of_lt Nat.and_le_left h1
 have hDl : D < 4294967296 := by omega
 rw [hm, u32_xor_nat _ _ (by omega) hx, u32_xor_nat _ _ hx hy, u32_xor_nat _ _ (by omega) (hxor _ _ hx hy), u32_and_nat _ _ (hxor _ _ (by omega) hx) hy, u32_and_nat _ _ (hxor _ _ (by omega) (hxor _ _ hx hy)) hDl,
   u32_or_nat _ _ (hand _ _ (hxor _ _ (by omega) hx)) (hand _ _ (hxor _ _ (by omega) (hxor _ _ hx hy)))]
 have key : ((4294967295 ^^^ x) &&& y ||| (4294967295 ^^^ (x ^^^ y)) &&& D) / 2 ^ 31 = hi := by
   rw [Nat.or_div_two_pow, Nat.and_div_two_pow, Nat.and_div_two_pow, Nat.xor_div_two_pow, Nat.xor_div_two_pow, Nat.xor_div_two_pow]
   have e31 : (2 ^ 31 : Nat) = 2147483648 := rfl
   rw [e31, show 4294967295 / 2147483648 = 1 from rfl]
   obtain ⟨a, ha⟩ : ∃ a, a = x / 2147483648 := ⟨_, rfl⟩
   obtain ⟨b, hb⟩ : ∃ b, b = y / 2147483648 := ⟨_, rfl⟩
   obtain ⟨e, he⟩ : ∃ e, e = D / 2147483648 := ⟨_, rfl⟩
   rw [← ha, ← hb, ← he]
   have ha1 : a = 0 ∨ a = 1 := by omega
   have hb1 : b = 0 ∨ b = 1 := by omega
   have he1 : e = 0 ∨ e = 1 := by omega
   rcases ha1 with ha1 | ha1 <;> rcases hb1 with hb1 | hb1 <;> rcases he1 with he1 | he1 <;> rw [ha1, hb1, he1] <;> simp <;> split at hhi <;> omega
 have : (((((4294967295 ^^^ x) &&& y ||| (4294967295 ^^^ (x ^^^ y)) &&& D) : Nat) : Int)) / 2147483648 = ((((4294967295 ^^^ x) &&& y ||| (4294967295 ^^^ (x ^^^ y)) &&& D) / 2 ^ 31 : Nat) : Int) := by
   rw [show (2 ^ 31 : Nat) = 2147483648 from rfl]; omega
 rw [this, key]
set_option maxHeartbeats 1000000 in
theorem sub32_any (x y c lo hi : Nat) (w : World) (hx : x < 4294967296) (hy : y < 4294967296) (hc : c ≤ 1) (hlo : lo = (x + 4294967296 - (y + c)) % 4294967296) (hhi : hi = if x < y + c then 1 else 0) :
   Calls Tryz.prog 127 #[.int .u32 (x : Int), .int .u32 (y : Int), .int .u32 (c : Int)] w fun e w' => e = .returned (.tuple #[.int .u32 (lo : Int), .int .u32 (hi : Int)]) ∧ w = w' := by
 have hb := sub32_bits x y c lo hi hx hy hc hlo hhi
 have e1 : ((x : Int) - (y : Int) - (c : Int)) % 4294967296 = (lo : Int) := by omega
 have E1 := Lib.hid e1
 have HB := Lib.hid hb
 clear hlo hhi e1 hb
 go_enter Tryz.func127, Tryz.ntmps127
 go_wp2
 go_ret2
 exact ⟨by rw [← HB.out, ← E1.out]; rfl, rfl⟩
theorem take_set_succ {L : List Nat} {j : Nat} (hj : j < L.length) (lo : Nat) : (L.set j lo).take (j + 1) = L.take j ++ [lo] := by
 rw [List.take_succ_eq_append_getElem (by simpa using hj), take_set_self, List.getElem_set_self]
set_option maxHeartbeats 2000000 in
theorem nadd_any (A : Option Addr) (n c : Nat) (xs : List Nat) (B : Option Addr) (m d : Nat) (ys : List Nat) (w : World) (h : Wds w A n c xs) (hn : n ≤ 8796093022208) (k : Wds w B m d ys) (hm : m ≤ 8796093022208) (h1 : nw (nv xs) ≤ 16384) (h2 : nw (nv ys) ≤ 16384) (hs : nw (nv xs + nv ys) ≤ 16384) :
   Calls Tryz.prog 124 #[.slice A n c, .slice B m d] w (RetWE (nv xs + nv ys) 0 w) := by
 have hLG : Hid (∀ g w, w.cell? ⟨g, 0, none⟩ = some (.slice A n c) → w.cell? ⟨g, 1, none⟩ = some (.slice B m d) → Wds w A n c xs → Wds w B m d ys → Calls Tryz.prog 96 #[.slice (some ⟨g, 0, none⟩) 2 2] w fun e w' => e = .returned (.bool false) ∧ w = w') :=
   Lib.hid (fun g w a b c' d' => nlong_two g 2 A n c xs B m d ys w a b c' (by omega) h1 d' (by omega) h2)
 have hW1 := fun w h => nwords_any A n c xs w h (by omega)
 have hW2 := fun w h => nwords_any B m d ys w h (by omega)
 have hp1 := h.pre
 have hp2 := k.pre
 have hle1 : nw (nv xs) ≤ n := by have := nw_nv_le h.ws; have := h.len; omega
 have hle2 : nw (nv ys) ≤ m := by have := nw_nv_le k.ws; have := k.len; omega
 have hlc1 := h.lec
 have hlc2 := k.lec
 obtain ⟨V, hV⟩ : ∃ V, V = nv xs := ⟨_, rfl⟩
 obtain ⟨U, hU⟩ : ∃ U, U = nv ys := ⟨_, rfl⟩
 rw [← hV] at hW1 hp1 hle1 hs h1 ⊢
 rw [← hU] at hW2 hp2 hle2 hs h2 ⊢
 have hvV := nv_nd V
 have hvU := nv_nd U
 obtain ⟨p, hp⟩ : ∃ p, p = nw V := ⟨_, rfl⟩
 obtain ⟨q, hq⟩ : ∃ q, q = nw U := ⟨_, rfl⟩
 rw [← hp] at hW1 hp1 hle1 h1
 rw [← hq] at hW2 hp2 hle2 h2
 obtain ⟨vs, hvs⟩ : ∃ vs, vs = nd V := ⟨_, rfl⟩
 obtain ⟨us, hus⟩ : ∃ us, us = nd U := ⟨_, rfl⟩
 rw [← hvs] at hp1 hvV
 rw [← hus] at hp2 hvU
 have HW1 := Lib.hid hW1
 have HW2 := Lib.hid hW2
 have HVV := Lib.hid hvV
 have HVU := Lib.hid hvU
 have HS := Lib.hid hs
 clear hW1 hW2 hV hU hp hq hvs hus hvV hvU hs
 have hn1 := h.alloc (.cells #[.slice A n c, .slice B m d] 35)
 have hk1 := k.alloc (.cells #[.slice A n c, .slice B m d] 35)
 have hp1' := hp1.alloc (.cells #[.slice A n c, .slice B m d] 35)
 have hp2' := hp2.alloc (.cells #[.slice A n c, .slice B m d] 35)
 have hE0 : Ext w (w.alloc (.cells #[.slice A n c, .slice B m d] 35)) := (Ext.refl w).alloc _
 have hcell0 : (w.alloc (.cells #[.slice A n c, .slice B m d] 35)).cell? ⟨w.heap.size, 0, none⟩ = some (.slice A n c) := by simp
 have hcell1 : (w.alloc (.cells #[.slice A n c, .slice B m d] 35)).cell? ⟨w.heap.size, 1, none⟩ = some (.slice B m d) := by simp
 have hpc : p ≤ c := by omega
 have hqd : q ≤ d := by omega
 go_enter Tryz.func124, Tryz.ntmps124
 go_wp2_with fail
 generalize w.heap.size = g0 at hcell0 hcell1 ⊢
 generalize w.alloc _ = w1 at hn1 hk1 hp1' hp2' hE0 hcell0 hcell1 ⊢
 go_wp2_with (first | (go_at_call 96; refine (hLG.out _ _ hcell0 hcell1 hn1 hk1).mono ?_; rintro e w' ⟨rfl, rfl⟩))
 refine wp_region_steady (Ext w1) (by kernel_rfl) (by kernel_rfl) (Ext.refl w1).drew ?_
 repeat (refine wpG_step (fun K hK => ?_)
         go_simp
         apply StepG.mk
         intro wz hz
         first
         | (go_simp
            first | exact rfl | exact ⟨rfl, hz⟩)
         | (go_simp
            go_at_call 111
            first
            | (with_reducible refine (HW1.out _ (hn1.ext hz)).mono ?_)
            | (with_reducible refine (HW2.out _ (hk1.ext hz)).mono ?_)
            rintro e w8 ⟨rfl, rfl⟩
            exact ⟨rfl, hz⟩)
         refine hK _ ?_
         clear hK K)
 refine wpG_nil ?_
 intro w2 hz2
 have hP2 := hp1'.ext hz2
 have hQ2 := hp2'.ext hz2
 have hE2 := hE0.trans hz2
 clear hn1 hk1 hp1' hp2' hcell0 hcell1 hz2 hE0
 go_upto_if 26 with fail
 go_cut [0, 1] (fun a b wx => ∃ A' n' c' xs' B' m' d' ys', a = .slice A' n' c' ∧ b = .slice B' m' d' ∧ Wds wx A' n' c' xs' ∧ Wds wx B' m' d' ys' ∧ m' ≤ n' ∧ n' ≤ 16384 ∧ Hid (nv xs' + nv ys' = V + U) ∧ Ext w wx)
 case first =>
   as_aux_lemma =>
     by_cases hpq : p < q
     · go_wp2
       go_meet
       exact ⟨_, _, _, _, _, _, _, _, rfl, rfl, hQ2, hP2, by omega, by omega, Lib.hid (by rw [HVV.out, HVU.out, Nat.add_comm]), hE2⟩
     · go_wp2
       go_meet
       exact ⟨_, _, _, _, _, _, _, _, rfl, rfl, hP2, hQ2, by omega, by omega, Lib.hid (by rw [HVV.out, HVU.out]), hE2⟩
 case rest =>
   obtain ⟨A', n', c', xs', B', m', d', ys', rfl, rfl, hX, hY, hmn, hn16, hsum, hEc⟩ := hcut
   clear hP2 hQ2 hE2 h1 h2 hLG HW1 HW2 HVV HVU h k
   have hlx := hX.len
   have hly := hY.len
   have hmk := run_make32 (n' + 1) (by omega) wc
   push_cast at hmk
   have hr0 := Row.new wc (List.replicate (n' + 1) 0)
   have hE3 : Ext wc (wc.alloc (.cells (u32s (List.replicate (n' + 1) 0)).toArray 61)) := (Ext.refl wc).alloc _
   have hgl : wc.heap.size ≤ wc.heap.size := Nat.le_refl _
   go_wp2
   clear hmk
   generalize wc.alloc _ = w4 at hr0 hE3 ⊢
   generalize hgs : wc.heap.size = g at hr0 hgl ⊢
   have hgl' : wc.heap.size ≤ g := by omega
   clear hgs hgl
   have Hlx := Lib.hid hlx
   have Hly := Lib.hid hly
   clear hlx hly
   go_loopw [7, 35] (fun cv iv wr => ∃ (j cr : Nat) (L : List Nat), j ≤ n' ∧ iv = .int .i64 j ∧ cv = .int .u32 (cr : Int) ∧ cr ≤ 1 ∧ Row wr g L ∧ Ws L ∧ Hid (L.length = n' + 1) ∧ Hid (nv (L.take j) + 4294967296 ^ j * cr = nv (xs'.take j) + nv (ys'.take j)) ∧ Ext wc wr) (fun _ iv _ => n' - (intOf iv).toNat)
   case atStart => exact ⟨0, 0, _, Nat.zero_le _, rfl, rfl, by omega, hr0, Ws.replicate _ (by omega), Lib.hid (by simp), Lib.hid (by simp [nv]), hE3⟩
   case round =>
     obtain ⟨j, cr, L, hj, rfl, rfl, hcr, hrow, hL, hLl, hinv, hEr⟩ := hrel
     by_cases hlt : j < n'
     · obtain ⟨ad, hx, rfl, _, hcX⟩ := (hX.ext hEr).at_ hlt
       have hX32 := hX.ws.get hx
       have hXe := Lib.hid (getD_of hx)
       have hjL : j < L.length := by rw [hLl.out]; omega
       have hc1 := hrow.cell hjL
       have hf1 := hrow.frozen j
       have htl : (L.take j).length = j := by rw [List.length_take]; omega
       obtain ⟨x, hxx⟩ : ∃ x, x = xs'[j] := ⟨_, rfl⟩
       rw [← hxx] at hcX hX32 hXe
       have hYc : (j < m' ∧ ∃ bd, ∃ Y : Nat, B' = some bd ∧ Y < 4294967296 ∧ Hid (Y = ys'.getD j 0) ∧ wr.cell? (bd.add j) = some (.int .u32 (Y : Int))) ∨ (m' ≤ j ∧ ∃ Y : Nat, Y = 0 ∧ Hid (Y = ys'.getD j 0)) := by
         by_cases hl : j < m'
         · obtain ⟨bd, hy, e, _, hc⟩ := (hY.ext hEr).at_ hl
           exact .inl ⟨hl, bd, ys'[j], e, hY.ws.get hy, Lib.hid (getD_of hy), hc⟩
         · exact .inr ⟨by omega, 0, rfl, Lib.hid (getD_out (by have := Hly.out; omega))⟩
       clear hxx
       rcases hYc with ⟨hjm, bd, Y, rfl, hY32, hYe, hcY⟩ | ⟨hjm, Y, rfl, hYe⟩
       · obtain ⟨lo, hlo⟩ : ∃ lo, lo = (x + Y + cr) % 4294967296 := ⟨_, rfl⟩
         obtain ⟨hi', hhi⟩ : ∃ hi', hi' = (x + Y + cr) / 4294967296 := ⟨_, rfl⟩
         have had := fun w => add32_any x Y cr lo hi' w hX32 hY32 hcr hlo hhi
         have hst := sum_step (l := xs') (m := ys') (acc := L.take j) (k := j) (cr := cr) (x := x) (y := Y) (lo := lo) htl hXe.out hYe.out hinv.out (by rw [hlo]; congr 1; omega)
         rw [← take_set_succ hjL, show (cr + x + Y) / 4294967296 = hi' by rw [hhi]; congr 1; omega] at hst
         have HA := Lib.hid had
         have HST := Lib.hid hst
         have hlo32 : lo < 4294967296 := by omega
         have hhi1 : hi' ≤ 1 := by omega
         have hrow' := hrow.set_ j lo
         clear had hst hlo hhi htl
         go_wp2_with (go_at_call 128; refine (HA.out _).mono ?_; rintro e w' ⟨rfl, rfl⟩)
         go_roundw
         case rel => exact ⟨j + 1, hi', _, by omega, by go_num, rfl, hhi1, hrow', hL.set _ hlo32, Lib.hid (by simp [hLl.out]), HST, hEr.setCell hgl' _⟩
         case measure => simp [intOf]; omega
       · skip
         obtain ⟨lo, hlo⟩ : ∃ lo, lo = (x + 0 + cr) % 4294967296 := ⟨_, rfl⟩
         obtain ⟨hi', hhi⟩ : ∃ hi', hi' = (x + 0 + cr) / 4294967296 := ⟨_, rfl⟩
         have had := fun w => add32_any x 0 cr lo hi' w hX32 (by omega) hcr hlo hhi
         have hst := sum_step (l := xs') (m := ys') (acc := L.take j) (k := j) (cr := cr) (x := x) (y := 0) (lo := lo) htl hXe.out hYe.out hinv.out (by rw [hlo]; congr 1; omega)
         rw [← take_set_succ hjL, show (cr + x + 0) / 4294967296 = hi' by rw [hhi]; congr 1; omega] at hst
         have HA := Lib.hid had
         have HST := Lib.hid hst
         have hlo32 : lo < 4294967296 := by omega
         have hhi1 : hi' ≤ 1 := by omega
         have hrow' := hrow.set_ j lo
         clear had hst hlo hhi htl
         go_wp2_with (go_at_call 128; refine (HA.out _).mono ?_; rintro e w' ⟨rfl, rfl⟩)
         go_roundw
         case rel => exact ⟨j + 1, hi', _, by omega, by go_num, rfl, hhi1, hrow', hL.set _ hlo32, Lib.hid (by simp [hLl.out]), HST, hEr.setCell hgl' _⟩
         case measure => simp [intOf]; omega
     · skip
       have hje : j = n' := by omega
       subst hje
       have hjL : j < L.length := by rw [hLl.out]; omega
       have hc1 := hrow.cell hjL
       have hf1 := hrow.frozen j
       have hrow' := hrow.set_ j cr
       have hval : Hid (nv (L.set j cr) = V + U) := Lib.hid (by
         have h1 := hinv.out
         rw [List.take_of_length_le (show xs'.length ≤ j by have := Hlx.out; omega), List.take_of_length_le (show ys'.length ≤ j by have := Hly.out; omega), hsum.out] at h1
         rw [← h1, ← List.take_of_length_le (show (L.set j cr).length ≤ j + 1 by simp [hLl.out]), nv_take_succ (l := L.set j cr) (by simpa using hjL), take_set_self, List.getElem_set_self])
       have hW := hrow'.wds (hL.set j (show cr < 4294967296 by omega)) (show _ = j + 1 by simp [hLl.out]) (Nat.le_refl _) (by unfold maxLen; omega)
       have hE5 := hEr.setCell hgl' (.int .u32 (cr : Int)) (p := ⟨g, j, none⟩)
       go_wp2_with fail
       refine (nfit_any _ _ _ _ _ hW (by omega) (by rw [hval.out]; exact HS.out)).mono ?_
       rintro e w6 ⟨A6, n6, c6, rfl, hR, hE6⟩
       rw [hval.out] at hR
       go_wp2
       go_ret2
       exact ⟨A6, n6, c6, rfl, hR, hEc.trans (hE5.trans hE6)⟩
end Go.Proofs.YtbcaggdgoidlaaaGreatDoor

namespace Go.Proofs.YtbcaggdgoidlaaaGreatDoor
open Go.RowKit Nm
set_option maxRecDepth 100000
set_option linter.unusedVariables false
set_option linter.unusedSimpArgs false
structure LessRel (L0 ys L : List Nat) (m i br : Nat) : Prop where
 len : L.length = m
 ws : Ws L
 val : nv (L.take i) + nv (ys.take i) = nv (L0.take i) + 4294967296 ^ i * br
 same : ∀ k, (hk : k < L.length) → i ≤ k → L[k] = L0.getD k 0
theorem LessRel.step {L0 ys L : List Nat} {m i br x y lo hi : Nat} (h : LessRel L0 ys L m i br) (hm : L0.length = m) (hi0 : i < m) (hx : x = L0.getD i 0) (hy : y = ys.getD i 0) (hx32 : x < 4294967296) (hy32 : y < 4294967296) (hbr : br ≤ 1)
   (hlo : lo = (x + 4294967296 - (y + br)) % 4294967296) (hhi : hi = if x < y + br then 1 else 0) : LessRel L0 ys (L.set i lo) m (i + 1) hi := by
 have hlen := h.len
 have hlo32 : lo < 4294967296 := by omega
 refine ⟨by simpa using hlen, h.ws.set _ hlo32, ?_, fun k hk hle => ?_⟩
 · rw [take_set_succ (by omega)]
   exact diff_step (l := L0) (m := ys) (acc := L.take i) (k := i) (br := br) (by rw [List.length_take]; omega) hx hy h.val (by rw [hhi]; split <;> omega)
 · rw [List.getElem_set_ne (by omega)]
   simp at hk
   exact h.same k hk (by omega)
theorem LessRel.done {L0 ys L : List Nat} {m i : Nat} (h : LessRel L0 ys L m i 0) (hm : L0.length = m) (hi : i ≤ m) (hy : ys.length ≤ i) : nv L = nv L0 - nv ys := by
 have hlen := h.len
 have hd : L.drop i = L0.drop i := by
   apply List.ext_getElem
   · simp [hlen, hm]
   · intro k h1 h2
     rw [List.getElem_drop, List.getElem_drop]
     simp at h1 h2
     rw [h.same _ (by omega) (by omega), ← getD_of (by omega)]
 have e1 := nv_take_drop L i (by omega)
 have e2 := nv_take_drop L0 i (by omega)
 have hv := h.val
 rw [List.take_of_length_le hy] at hv
 rw [e1, e2, hd]
 omega
theorem LessRel.end_ {L0 ys L : List Nat} {m br : Nat} (h : LessRel L0 ys L m m br) (hL0 : Ws L0) (hm : L0.length = m) (hy : ys.length ≤ m) (hbr : br ≤ 1) (hle : nv ys ≤ nv L0) : nv L = nv L0 - nv ys := by
 have hv := h.val
 have hlen := h.len
 rw [List.take_of_length_le hy, List.take_of_length_le (by omega), List.take_of_length_le (by omega)] at hv
 have hb := nv_lt h.ws
 rw [hlen] at hb
 have : br = 0 ∨ br = 1 := by omega
 rcases this with e | e
 · subst e; omega
 · subst e
   rw [Nat.mul_one] at hv
   omega
set_option maxHeartbeats 1000000 in
theorem nless_any (g m c : Nat) (L0 : List Nat) (B : Option Addr) (n d : Nat) (ys : List Nat) (wv w : World) (hrow : Row w g L0) (hL0 : Ws L0) (hlen : L0.length = m) (hm : m ≤ 17592186044416) (k : Wds wv B n d ys) (hE : Ext wv w) (hg : wv.heap.size ≤ g) (hnm : n ≤ m)
   (hle : nv ys ≤ nv L0) :
   Calls Tryz.prog 129 #[.slice (some ⟨g, 0, none⟩) m c, .slice B n d] w fun e w' => e = .returned (.tuple #[]) ∧ (∃ L, Row w' g L ∧ Ws L ∧ L.length = m ∧ nv L = nv L0 - nv ys) ∧ Ext wv w' := by
 have hly := k.len
 have HLE := Lib.hid hle
 have Hly := Lib.hid hly
 have Hlen := Lib.hid hlen
 clear hle hly hlen
 go_enter Tryz.func129, Tryz.ntmps129
 go_wp2
 go_loopw [4, 9] (fun bv iv wr => ∃ (i br : Nat) (L : List Nat), i ≤ m ∧ iv = .int .i64 i ∧ bv = .int .u32 (br : Int) ∧ br ≤ 1 ∧ Row wr g L ∧ Hid (LessRel L0 ys L m i br) ∧ Ext wv wr) (fun _ iv _ => m - (intOf iv).toNat)
 case atStart => exact ⟨0, 0, L0, Nat.zero_le _, rfl, rfl, by omega, hrow, Lib.hid ⟨Hlen.out, hL0, by simp [nv], fun k hk _ => getD_of hk⟩, hE⟩
 case round =>
   obtain ⟨i, br, L, hi, rfl, rfl, hbr, hr, hrl, hEr⟩ := hrel
   by_cases hlt : i < m
   · by_cases hstop : n ≤ i ∧ br = 0
     · obtain ⟨hni, rfl⟩ := hstop
       have hval := Lib.hid (hrl.out.done Hlen.out hi (by have := Hly.out; omega))
       go_wp2
       exact bodyPost_ret (results_none rfl _ _ _) rfl ⟨rfl, ⟨L, hr, hrl.out.ws, hrl.out.len, hval.out⟩, hEr⟩
     · have hiL : i < L.length := by have := hrl.out.len; omega
       have hc1 := hr.cell hiL
       have hf1 := hr.frozen i
       have ha32 := hrl.out.ws.get hiL
       have haE := hrl.out.same i hiL (Nat.le_refl _)
       obtain ⟨a, ha⟩ : ∃ a, a = L[i] := ⟨_, rfl⟩
       rw [← ha] at hc1 ha32 haE
       have hYc : (i < n ∧ ∃ bd, ∃ Y : Nat, B = some bd ∧ Y < 4294967296 ∧ Hid (Y = ys.getD i 0) ∧ wr.cell? (bd.add i) = some (.int .u32 (Y : Int))) ∨ (n ≤ i ∧ ((br : Int) == 0) = false ∧ ∃ Y : Nat, Y = 0 ∧ Hid (Y = ys.getD i 0)) := by
         by_cases hl : i < n
         · obtain ⟨bd, hy, e, _, hc⟩ := (k.ext hEr).at_ hl
           exact .inl ⟨hl, bd, ys[i], e, k.ws.get hy, Lib.hid (getD_of hy), hc⟩
         · exact .inr ⟨by omega, by rw [beq_eq_false_iff_ne]; intro h; exact hstop ⟨by omega, by omega⟩, 0, rfl, Lib.hid (getD_out (by have := Hly.out; omega))⟩
       have HaE := Lib.hid haE
       clear hstop ha haE
       rcases hYc with ⟨hjn, bd, Y, rfl, hY32, hYe, hcY⟩ | ⟨hjn, hb0, Y, rfl, hYe⟩
       · obtain ⟨lo, hlo⟩ : ∃ lo, lo = (a + 4294967296 - (Y + br)) % 4294967296 := ⟨_, rfl⟩
         obtain ⟨hi', hhi⟩ : ∃ hi', hi' = if a < Y + br then 1 else 0 := ⟨_, rfl⟩
         have hsb := fun w => sub32_any a Y br lo hi' w ha32 hY32 hbr hlo hhi
         have hst := hrl.out.step Hlen.out hlt HaE.out hYe.out ha32 hY32 hbr hlo hhi
         have HS := Lib.hid hsb
         have HST := Lib.hid hst
         have hhi1 : hi' ≤ 1 := by rw [hhi]; split <;> omega
         have hr' := hr.set_ i lo
         clear hsb hst hlo hhi
         go_wp2_with (go_at_call 127; refine (HS.out _).mono ?_; rintro e w' ⟨rfl, rfl⟩)
         go_roundw
         case rel => exact ⟨i + 1, hi', _, by omega, by go_num, rfl, hhi1, hr', HST, hEr.setCell hg _⟩
         case measure => simp [intOf]; omega
       · obtain ⟨lo, hlo⟩ : ∃ lo, lo = (a + 4294967296 - (0 + br)) % 4294967296 := ⟨_, rfl⟩
         obtain ⟨hi', hhi⟩ : ∃ hi', hi' = if a < 0 + br then 1 else 0 := ⟨_, rfl⟩
         have hsb := fun w => sub32_any a 0 br lo hi' w ha32 (by omega) hbr hlo hhi
         have hst := hrl.out.step Hlen.out hlt HaE.out hYe.out ha32 (by omega) hbr hlo hhi
         have HS := Lib.hid hsb
         have HST := Lib.hid hst
         have hhi1 : hi' ≤ 1 := by rw [hhi]; split <;> omega
         have hr' := hr.set_ i lo
         clear hsb hst hlo hhi
         go_wp2_with (go_at_call 127; refine (HS.out _).mono ?_; rintro e w' ⟨rfl, rfl⟩)
         go_roundw
         case rel => exact ⟨i + 1, hi', _, by omega, by go_num, rfl, hhi1, hr', HST, hEr.setCell hg _⟩
         case measure => simp [intOf]; omega
   · have hie : i = m := by omega
     subst hie
     have hval := Lib.hid (hrl.out.end_ hL0 Hlen.out (by have := Hly.out; omega) hbr HLE.out)
     go_wp2
     go_end0
     exact ⟨rfl, ⟨L, hr, hrl.out.ws, hrl.out.len, hval.out⟩, hEr⟩
set_option maxHeartbeats 2000000 in
theorem nsub_any (A : Option Addr) (n c : Nat) (xs : List Nat) (B : Option Addr) (m d : Nat) (ys : List Nat) (w : World) (h : Wds w A n c xs) (hn : n ≤ 8796093022208) (k : Wds w B m d ys) (hm : m ≤ 8796093022208) (h1 : nw (nv xs) ≤ 16384) (h2 : nw (nv ys) ≤ 16384) (hle : nv ys ≤ nv xs) :
   Calls Tryz.prog 123 #[.slice A n c, .slice B m d] w (RetWE (nv xs - nv ys) 0 w) := by
 have hcm := ncmp_any A n c xs B m d ys w h (by omega) k (by omega)
 have hcc : 0 ≤ cmpN (nv xs) (nv ys) := by unfold cmpN; rw [if_neg (by omega)]; split <;> omega
 have hLG : Hid (∀ g w, w.cell? ⟨g, 0, none⟩ = some (.slice A n c) → w.cell? ⟨g, 1, none⟩ = some (.slice B m d) → Wds w A n c xs → Wds w B m d ys → Calls Tryz.prog 96 #[.slice (some ⟨g, 0, none⟩) 2 2] w fun e w' => e = .returned (.bool false) ∧ w = w') :=
   Lib.hid (fun g w a b c' d' => nlong_two g 2 A n c xs B m d ys w a b c' (by omega) h1 d' (by omega) h2)
 have hN1 := fun w h => nnorm_any A n c xs w h (by omega)
 have hW2 := fun w h => nwords_any B m d ys w h (by omega)
 have hp2 := k.pre
 have hle2 : nw (nv ys) ≤ m := by have := nw_nv_le k.ws; have := k.len; omega
 have hlc2 := k.lec
 obtain ⟨V, hV⟩ : ∃ V, V = nv xs := ⟨_, rfl⟩
 obtain ⟨U, hU⟩ : ∃ U, U = nv ys := ⟨_, rfl⟩
 rw [← hV] at hN1 h1 hle hcm hcc ⊢
 rw [← hU] at hW2 hp2 hle2 h2 hle hcm hcc ⊢
 have hvU := nv_nd U
 have hvV := nv_nd V
 obtain ⟨q, hq⟩ : ∃ q, q = nw U := ⟨_, rfl⟩
 obtain ⟨p, hp⟩ : ∃ p, p = nw V := ⟨_, rfl⟩
 have hqp : q ≤ p := by rw [hq, hp]; exact nw_mono hle
 have hpl : (nd V).length = p := by rw [nd_length, hp]
 rw [← hq] at hW2 hp2 hle2 h2
 rw [← hp] at hN1 h1
 obtain ⟨us, hus⟩ : ∃ us, us = nd U := ⟨_, rfl⟩
 rw [← hus] at hp2 hvU
 obtain ⟨vs, hvs⟩ : ∃ vs, vs = nd V := ⟨_, rfl⟩
 have hvw : Ws vs := by rw [hvs]; exact Ws.nd V
 rw [← hvs] at hN1 hvV hpl
 obtain ⟨cc, hcce⟩ : ∃ cc, cc = cmpN V U := ⟨_, rfl⟩
 rw [← hcce] at hcm hcc
 have hfitb : nw (V - U) ≤ 16384 := Nat.le_trans (nw_mono (Nat.sub_le V U)) (by rw [← hp]; exact h1)
 have HCM := Lib.hid hcm
 have HN1 := Lib.hid hN1
 have HW2 := Lib.hid hW2
 have HVU := Lib.hid hvU
 have HVV := Lib.hid hvV
 have HPL := Lib.hid hpl
 have hqd : q ≤ d := by omega
 have HLE := Lib.hid hle
 clear hcm hN1 hW2 hV hU hq hp hus hvs hvU hvV hcce hpl hle
 go_enter Tryz.func123, Tryz.ntmps123
 go_wp2_with fail
 refine HCM.out.mono ?_
 rintro e w1 ⟨rfl, z, rfl⟩
 have hn0 := h.drewN z
 have hk0 := k.drewN z
 have hp0 := hp2.drewN z
 have hE00 : Ext w (w.drewN z) := (Ext.refl w).drewN z
 generalize w.drewN z = wz at *
 have hn1 := hn0.alloc (.cells #[.slice A n c, .slice B m d] 35)
 have hk1 := hk0.alloc (.cells #[.slice A n c, .slice B m d] 35)
 have hp2' := hp0.alloc (.cells #[.slice A n c, .slice B m d] 35)
 have hE0 : Ext w (wz.alloc (.cells #[.slice A n c, .slice B m d] 35)) := hE00.alloc _
 have hcell0 : (wz.alloc (.cells #[.slice A n c, .slice B m d] 35)).cell? ⟨wz.heap.size, 0, none⟩ = some (.slice A n c) := by simp
 have hcell1 : (wz.alloc (.cells #[.slice A n c, .slice B m d] 35)).cell? ⟨wz.heap.size, 1, none⟩ = some (.slice B m d) := by simp
 clear hn0 hk0 hp0 hE00 h k hp2 HCM
 go_wp2_with fail
 generalize wz.heap.size = g0 at hcell0 hcell1 ⊢
 generalize wz.alloc _ = w1 at hn1 hk1 hp2' hE0 hcell0 hcell1 ⊢
 refine (hLG.out _ _ hcell0 hcell1 hn1 hk1).mono ?_
 rintro e w' ⟨rfl, rfl⟩
 clear hcell0 hcell1
 go_wp2_with fail
 refine (HN1.out _ hn1).mono ?_
 rintro e w2 ⟨g, p', rfl, hr2, hg2, hp', hE2⟩
 have hk2 := hk1.ext hE2
 have hq2 := hp2'.ext hE2
 have HPP := Lib.hid hp'
 clear hp'
 go_wp2_with fail
 refine (HW2.out _ hk2).mono ?_
 rintro e w' ⟨rfl, rfl⟩
 go_wp2_with fail
 refine (nless_any g p' p' vs B q d us w1 w2 hr2 hvw (by rw [HPL.out, HPP.out]) (by have := HPP.out; omega) hp2' hE2 hg2 (by have := HPP.out; omega) (by rw [HVU.out, HVV.out]; exact HLE.out)).mono ?_
 rintro e w3 ⟨rfl, ⟨L, hr3, hL, hLl, hLv⟩, hE3⟩
 rw [HVU.out, HVV.out] at hLv
 have HLV := Lib.hid hLv
 have hWL := hr3.wds hL hLl (Nat.le_refl _) (by have := HPP.out; unfold maxLen; omega)
 clear hLv
 go_wp2_with fail
 refine (nfit_any _ _ _ _ _ hWL (by have := HPP.out; omega) (by rw [HLV.out]; exact hfitb)).mono ?_
 rintro e w4 ⟨A4, n4, c4, rfl, hR, hE4⟩
 rw [HLV.out] at hR
 go_wp2
 go_ret2
 exact ⟨A4, n4, c4, rfl, hR, hE0.trans (hE3.trans hE4)⟩
end Go.Proofs.YtbcaggdgoidlaaaGreatDoor

namespace Go.Proofs.YtbcaggdgoidlaaaGreatDoor
open Go.RowKit Nm
set_option maxRecDepth 100000
set_option linter.unusedVariables false
set_option linter.unusedSimpArgs false
def RetQR (Q R : Nat) (w : World) (e : Ending) (w' : World) : Prop := ∃ A n c B m d, e = .returned (.tuple #[.slice A n c, .slice B m d, .int .i64 0]) ∧ Wds w' A n c (nd Q) ∧ Wds w' B m d (nd R) ∧ Ext w w'
theorem word_or3 (a b : Nat) (ha : a < 4294967296) (hb : b < 4294967296) : bits .or .u64 ((a : Int) * 4294967296) (b : Int) = ((a * 4294967296 + b : Nat) : Int) := by
 have e : (a : Int) * 4294967296 = ((a * 4294967296 : Nat) : Int) := by omega
 rw [e, u64_or_nat _ _ (by omega) (by omega), nat_join 32 _ _ (by omega) (by omega)]
theorem one_step {xs L : List Nat} {k r y x v q r' : Nat} (hk : k < xs.length) (hkL : k < L.length) (hx : xs[k] = x) (hv : v = r * 4294967296 + x) (hq : q = v / y) (hr' : r' = v % y) (h : nv (xs.drop (k + 1)) = nv (L.drop (k + 1)) * y + r) :
   nv (xs.drop k) = nv ((L.set k q).drop k) * y + r' := by
 have hd := Nat.div_add_mod v y
 rw [← hq, ← hr'] at hd
 rw [List.drop_eq_getElem_cons hk, nv_cons, hx, h]
 rw [List.drop_eq_getElem_cons (l := L.set k q) (by simpa using hkL), nv_cons, List.getElem_set_self, List.drop_set_of_lt (by omega)]
 rw [Nat.add_mul, Nat.mul_assoc, Nat.mul_add]
 have e1 : y * q = q * y := Nat.mul_comm _ _
 generalize nv (L.drop (k + 1)) * y = Z at *
 generalize q * y = Y at *
 omega
set_option maxHeartbeats 1000000 in
theorem none_any (A : Option Addr) (n c : Nat) (xs : List Nat) (y : Nat) (w : World) (h : Wds w A n c xs) (hn : n ≤ 17592186044416) (hy : 0 < y) (hy32 : y < 4294967296) :
   Calls Tryz.prog 119 #[.slice A n c, .int .u64 (y : Int)] w (RetQR (nv xs / y) (nv xs % y) w) := by
 have hlx := h.len
 have hmk := run_make32 n (by omega) w
 have hr0 := Row.new w (List.replicate n 0)
 have hE0 : Ext w (w.alloc (.cells (u32s (List.replicate n 0)).toArray 61)) := (Ext.refl w).alloc _
 obtain ⟨w1, hw1⟩ : ∃ w1, w1 = w.alloc (.cells (u32s (List.replicate n 0)).toArray 61) := ⟨_, rfl⟩
 rw [← hw1] at hmk hr0 hE0
 clear hw1
 obtain ⟨g, hg⟩ : ∃ g, g = w.heap.size := ⟨_, rfl⟩
 rw [← hg] at hmk hr0
 have hgl : w.heap.size ≤ g := by omega
 clear hg
 go_enter Tryz.func119, Tryz.ntmps119
 go_wp2
 clear hmk
 go_loopw [7, 15] (fun cv iv wr => ∃ (i r : Nat) (L : List Nat), i ≤ n ∧ iv = .int .i64 i ∧ cv = .int .u64 (r : Int) ∧ r < 4294967296 ∧ Hid (r < y) ∧ Row wr g L ∧ Ws L ∧ Hid (L.length = n) ∧ Hid (nv (xs.drop (n - i)) = nv (L.drop (n - i)) * y + r) ∧ Ext w wr) (fun _ iv _ => n - (intOf iv).toNat)
 case atStart => exact ⟨0, 0, _, Nat.zero_le _, rfl, rfl, by omega, Lib.hid hy, hr0, Ws.replicate _ (by omega), Lib.hid (by simp), Lib.hid (by rw [List.drop_of_length_le (by omega), List.drop_of_length_le (by simp)]; simp [nv]), hE0⟩
 case round =>
   obtain ⟨i, r, L, hi, rfl, rfl, hr32, hry, hrow, hL, hLl, hinv, hE⟩ := hrel
   by_cases hlt : i < n
   · obtain ⟨k, hk⟩ : ∃ k, k = n - 1 - i := ⟨_, rfl⟩
     have hkn : k < n := by omega
     obtain ⟨ad, hx, rfl, _, hcX⟩ := (h.ext hE).at_ (k := k) hkn
     have hX32 := h.ws.get hx
     have hkL : k < L.length := by rw [hLl.out]; omega
     have hinv' := hinv.out
     rw [show n - i = k + 1 by omega] at hinv'
     have hst := fun v q r' x' hx' hv hq hr' => one_step (k := k) (r := r) (y := y) (x := x') (v := v) (q := q) (r' := r') hx hkL hx' hv hq hr' hinv'
     obtain ⟨x, hxe⟩ : ∃ x, x = xs[k] := ⟨_, rfl⟩
     have hst2 := fun v q r' => hst v q r' x hxe.symm
     rw [← hxe] at hcX hX32
     have hor := word_or3 r x hr32 hX32
     obtain ⟨v, hv⟩ : ∃ v, v = r * 4294967296 + x := ⟨_, rfl⟩
     rw [← hv] at hor
     have hv64 : v < 18446744073709551616 := by omega
     have hvq : v / y < 4294967296 := by
       rw [Nat.div_lt_iff_lt_mul hy]
       have := hry.out
       have h2 : (r + 1) * 4294967296 ≤ y * 4294967296 := Nat.mul_le_mul_right _ (by omega)
       omega
     have hvr : v % y < y := Nat.mod_lt _ hy
     have hst3 := hst2 v (v / y) (v % y) hv rfl rfl
     have e1 : (v : Int) / (y : Int) = ((v / y : Nat) : Int) := by push_cast; rfl
     have e2 : (v : Int) % (y : Int) = ((v % y : Nat) : Int) := by push_cast; rfl
     obtain ⟨q, hq⟩ : ∃ q, q = v / y := ⟨_, rfl⟩
     obtain ⟨r', hr'⟩ : ∃ r', r' = v % y := ⟨_, rfl⟩
     rw [← hq] at hvq hst3 e1
     rw [← hr'] at hvr hst3 e2
     have hc1 := hrow.cell hkL
     have hf1 := hrow.frozen k
     have hrow' := hrow.set_ k q
     have hki : (n : Int) - 1 - (i : Int) = (k : Int) := by omega
     have hy0 : ((y : Int) == 0) = false := by rw [beq_eq_false_iff_ne]; omega
     have e3 : (q : Int) % 4294967296 = (q : Int) := by omega
     have HST := Lib.hid hst3
     have HRY := Lib.hid hvr
     have HKI := Lib.hid hk
     have hr'32 : r' < 4294967296 := by omega
     clear hst hst2 hst3 hinv hinv' hvr hv hq hr' hxe hry hk
     go_wp2
     go_roundw
     case rel => exact ⟨i + 1, r', _, by omega, by go_num, by rw [e2], hr'32, HRY.out, hrow', hL.set _ hvq, Lib.hid (by simpa using hLl.out), Lib.hid (by rw [show n - (i + 1) = k by have := HKI.out; omega]; exact HST.out), hE.setCell hgl _⟩
     case measure => simp [intOf]; omega
   · have hin : i = n := by omega
     have hinv' := hinv.out
     rw [hin, Nat.sub_self, List.drop_zero, List.drop_zero] at hinv'
     have hQ : nv L = nv xs / y := by
       rw [hinv', Nat.add_comm, Nat.add_mul_div_right _ _ hy, Nat.div_eq_of_lt hry.out, Nat.zero_add]
     have hR : r = nv xs % y := by
       rw [hinv', Nat.add_comm, Nat.add_mul_mod_self_right, Nat.mod_eq_of_lt hry.out]
     have HQ := Lib.hid hQ
     have HR := Lib.hid hR
     have hW := hrow.wds (n := n) (c := n) hL hLl.out (Nat.le_refl _) (by unfold maxLen; omega)
     clear hinv hinv' hQ hR hin
     go_wp2_with fail
     refine (ncut_any _ _ _ _ _ hW (by omega)).mono ?_
     rintro e w2 ⟨A2, n2, c2, rfl, hA2, hE2⟩
     go_wp2_with fail
     refine (nsmall_any r _ (by omega)).mono ?_
     rintro e w3 ⟨A3, n3, c3, rfl, hA3, hE3⟩
     rw [HQ.out] at hA2
     rw [HR.out] at hA3
     go_wp2
     go_ret3
     exact ⟨_, _, _, _, _, _, rfl, hA2.ext hE3, hA3, (hE.trans hE2).trans hE3⟩
end Go.Proofs.YtbcaggdgoidlaaaGreatDoor

set_option linter.unusedVariables false
namespace Go.Proofs.YtbcaggdgoidlaaaGreatDoor.Nm
theorem knu_init {U V C T v1 w : Nat} (hC : 0 < C) (hV : v1 * C ≤ V) (hU : U < (T + 1) * C) (hv : 0 < v1) : U / V ≤ T / v1 := by
 rw [Nat.le_div_iff_mul_le hv]
 have h1 := Nat.div_mul_le_self U V
 have h2 := Nat.mul_le_mul_left (U / V) hV
 rw [← Nat.mul_assoc] at h2
 have h3 : U / V * v1 * C < (T + 1) * C := by omega
 have := Nat.lt_of_mul_lt_mul_right h3
 omega
theorem knu_less {U V C a b x : Nat} (hC : 0 < C) (hV : a * C ≤ V) (hU : U < (b + 1) * C) (hx : b < x * a) (hq : U / V ≤ x) : U / V ≤ x - 1 := by
 rcases Nat.lt_or_ge (U / V) x with h | h
 · omega
 · exfalso
   have he : U / V = x := by omega
   have h1 := Nat.div_mul_le_self U V
   rw [he] at h1
   have h2 := Nat.mul_le_mul_left x hV
   rw [← Nat.mul_assoc] at h2
   have h3 : (b + 1) * C ≤ x * a * C := Nat.mul_le_mul_right C hx
   omega
theorem knu_stand {U V C a b x B : Nat} (hC : 0 < C) (hV : V < (a + 1) * C) (hVB : B * C ≤ V) (hU : b * C ≤ U) (hx : x * a ≤ b) (hxB : x < B) (hVp : 0 < V) : x ≤ U / V + 1 := by
 rcases Nat.eq_zero_or_pos x with h0 | h0
 · rw [h0]; exact Nat.zero_le _
 · have h1 : x * V < x * ((a + 1) * C) := Nat.mul_lt_mul_of_pos_left hV h0
   rw [← Nat.mul_assoc, Nat.mul_add, Nat.mul_one, Nat.add_mul] at h1
   have h2 := Nat.mul_le_mul_right C hx
   have h3 : x * C < B * C := (Nat.mul_lt_mul_right hC).2 hxB
   have h4 : (x - 1) * V ≤ U := by
     rw [Nat.sub_mul, Nat.one_mul]; omega
   have h5 := (Nat.le_div_iff_mul_le hVp).2 h4
   exact Nat.sub_le_iff_le_add.1 h5
theorem knu_over {U V C v1 T x rest B : Nat} (hC : 0 < C) (hV : V < (v1 + 1) * C) (hU : T * C ≤ U) (hT : x * v1 + rest = T) (hr : B ≤ rest) (hx : x ≤ B) (hVp : 0 < V) : x ≤ U / V := by
 rw [Nat.le_div_iff_mul_le hVp]
 have h1 : x * V ≤ x * ((v1 + 1) * C) := Nat.mul_le_mul_left x (Nat.le_of_lt hV)
 rw [← Nat.mul_assoc, Nat.mul_add, Nat.mul_one] at h1
 have h2 : (x * v1 + x) * C ≤ T * C := Nat.mul_le_mul_right C (by omega)
 omega
end Go.Proofs.YtbcaggdgoidlaaaGreatDoor.Nm
