/-
 What the library's functions without a body answer. Conditions: those that each theorem names.
-/
import Derived.Test.YtbcaggdgoidlaaaGreatDoorH06
import Derived.Laws.Externs
import Derived.Laws.DeepNot64
import Derived.Test.YtbcaggdgoidlaaaGreatDoorH03
import Derived.Deep.QuietTactic
import Derived.BigQuiet
namespace Go.Proofs.YtbcaggdgoidlaaaGreatDoor
open Go.RowKit Nm Rn
set_option maxRecDepth 100000
set_option linter.unusedVariables false
set_option linter.unusedSimpArgs false
@[go_sem] theorem run_store_float (P : Program) (w : World) (a : Addr) (m : Mode) (k : FloatKind) (b : Nat) : (store a (.float k b) m).run P w = stored P w a (.float k b) m := run_store P w a _ m rfl
theorem callF64b (args : Array Value) (w : World) : (callFunc 29 args).run Tryz.prog w = ((Extern.MathFloatBits.float64bits args).run Tryz.prog w).andThen fun v w' => .ok (.value v) w' :=
 run_callFunc_extern Tryz.func29 (by kernel_rfl) (by kernel_rfl) (by kernel_rfl) (by kernel_rfl) args w
@[go_sem] theorem callF64b' (b : Nat) (w : World) : (callFunc 29 #[.float .f64 b]).run Tryz.prog w = .ok (.value (.int .u64 (b : Int))) w := by
 rw [callF64b]; rfl
theorem callF64f (args : Array Value) (w : World) : (callFunc 32 args).run Tryz.prog w = ((Extern.MathFloatBits.float64frombits args).run Tryz.prog w).andThen fun v w' => .ok (.value v) w' :=
 run_callFunc_extern Tryz.func32 (by kernel_rfl) (by kernel_rfl) (by kernel_rfl) (by kernel_rfl) args w
@[go_sem] theorem callF64f' (n : Int) (w : World) : (callFunc 32 #[.int .u64 n]).run Tryz.prog w = .ok (.value (.float .f64 n.toNat)) w := by
 rw [callF64f]; rfl
theorem andNot_top (b : Nat) (h : b < 18446744073709551616) : bits .andNot .u64 (b : Int) 9223372036854775808 = (mg b : Int) := by
 have e : (9223372036854775808 : Int) = ((9223372036854775808 : Nat) : Int) := rfl
 rw [e, u64_andNot_nat _ _ h (by omega)]
 congr 1
 have e2 : (18446744073709551615 - 9223372036854775808 : Nat) = 2 ^ 63 - 1 := by decide
 rw [e2, Nat.and_two_pow_sub_one_eq_mod]
 rfl
set_option maxHeartbeats 400000 in
theorem isnan_any (b : Nat) (w : World) (h : b < 18446744073709551616) :
   Calls Tryz.prog 56 #[.int .u64 (b : Int)] w fun e w' => e = .returned (.bool (isNaN b)) ∧ w = w' := by
 have g := andNot_top b h
 have HF : Hid (decide ((9218868437227405312 : Int) < (mg b : Int)) = isNaN b) := Lib.hid (by unfold isNaN; rw [infR_val]; exact decide_eq_decide.2 (by omega))
 clear h
 go_enter Tryz.func56, Tryz.ntmps56
 go_wp2
 go_ret
 exact ⟨ret_bool HF.out, rfl⟩
set_option maxHeartbeats 400000 in
theorem plain3_any (b : Nat) (w : World) (h : b < 18446744073709551616) :
   Calls Tryz.prog 26 #[.int .u64 (b : Int)] w fun e w' => e = .returned (.int .u64 (plN b : Nat)) ∧ w = w' := by
 have hn := isnan_any b w h
 by_cases h0 : b = 9223372036854775808
 · have HF : Hid ((0 : Int) = (plN b : Nat)) := Lib.hid (by unfold plN; rw [if_pos h0]; rfl)
   clear hn h
   have h1 : ((b : Int) == 9223372036854775808) = true := by rw [beq_iff_eq]; omega
   clear h0
   go_enter Tryz.func26, Tryz.ntmps26
   go_wp2
   go_ret
   exact ⟨ret_int HF.out, rfl⟩
 · have h1 : ((b : Int) == 9223372036854775808) = false := by rw [beq_eq_false_iff_ne]; omega
   cases h2 : isNaN b
   · have HF : Hid ((b : Int) = (plN b : Nat)) := Lib.hid (by unfold plN; rw [if_neg h0, h2, if_neg (by simp)])
     rw [h2] at hn
     have HN := Lib.hid hn
     clear hn h h0 h2
     go_enter Tryz.func26, Tryz.ntmps26
     go_wp2_with fail
     refine HN.out.mono ?_
     rintro e w1 ⟨rfl, rfl⟩
     go_wp2
     go_ret
     exact ⟨ret_int HF.out, rfl⟩
   · have HF : Hid ((9221120237041090561 : Int) = (plN b : Nat)) := Lib.hid (by unfold plN; rw [if_neg h0, h2, if_pos rfl]; rfl)
     rw [h2] at hn
     have HN := Lib.hid hn
     clear hn h h0 h2
     go_enter Tryz.func26, Tryz.ntmps26
     go_wp2_with fail
     refine HN.out.mono ?_
     rintro e w1 ⟨rfl, rfl⟩
     go_wp2
     go_ret
     exact ⟨ret_int HF.out, rfl⟩
end Go.Proofs.YtbcaggdgoidlaaaGreatDoor

namespace Go.Proofs.YtbcaggdgoidlaaaGreatDoor
open Go.RowKit Nm
set_option maxRecDepth 100000
set_option linter.unusedVariables false
set_option linter.unusedSimpArgs false
set_option maxHeartbeats 400000 in
theorem words_any (A : Option Addr) (n c : Nat) (xs : List Nat) (w : World) (h : Wds w A n c xs) (hn : n ≤ 35184372088832) :
   Calls Tryz.prog 70 #[.slice A n c] w fun e w' => e = .returned (.int .i64 (nw (nv xs) : Int)) ∧ w = w' := by
 have hlen := h.len
 go_enter Tryz.func70, Tryz.ntmps70
 go_wp2
 go_loop [3] (fun i => ∃ k : Nat, k ≤ n ∧ i = .int .i64 k ∧ ∀ j, (hj : j < xs.length) → k ≤ j → xs[j] = 0) (fun i => (intOf i).toNat)
 case atStart => exact ⟨n, Nat.le_refl _, rfl, fun j hj hk => by omega⟩
 case round =>
   obtain ⟨k, hk, rfl, hz⟩ := hrel
   have HZ := Lib.hid hz
   clear hz
   by_cases h0 : k = 0
   · subst h0
     go_wp2
     go_ret
     exact ⟨ret_int (by rw [(take_trim h.ws (Nat.zero_le _) HZ.out (fun k hk e => by omega)).2.1]; rfl), rfl⟩
   · obtain ⟨ad, hx, rfl, hb, hc⟩ := h.at_ (k := k - 1) (by omega)
     by_cases hx0 : xs[k - 1] = 0
     · go_wp2
       go_round
       case rel => exact ⟨k - 1, by omega, by go_num, fun j hj hkj => by
         by_cases e : j = k - 1
         · subst e; exact hx0
         · exact HZ.out j hj (by omega)⟩
       case measure => simp [intOf]; omega
     · go_wp2
       go_ret
       exact ⟨ret_int (by rw [(take_trim h.ws (by omega) HZ.out (fun j hj e => by
         have e : j = k - 1 := by omega
         subst e; exact hx0)).2.1]), rfl⟩
theorem info_u32 : (Tryz.prog.info? 61).map (fun i => (i.zero, i.size, i.bytes)) = some (some (.int .u32 0), 1, 4) := by kernel_rfl
def Row (w : World) (g : Nat) (L : List Nat) : Prop := w.heap[g]? = some (.cells (u32s L).toArray 61 (0, 0))
section
variable {w w' : World} {g : Nat} {L : List Nat}
theorem Row.lt (h : Row w g L) : g < w.heap.size := by
 rcases Nat.lt_or_ge g w.heap.size with hlt | hge
 · exact hlt
 · unfold Row at h; rw [Array.getElem?_eq_none hge] at h; cases h
theorem Row.cell (h : Row w g L) {i : Nat} (hi : i < L.length) : w.cell? ⟨g, i, none⟩ = some (.int .u32 (L[i] : Int)) := by
 unfold Row at h
 simp [World.cell?, h, u32s, hi]
theorem Row.frozen (h : Row w g L) (i : Nat) : w.frozen? ⟨g, i, none⟩ = false := by
 unfold Row at h
 simp [World.frozen?, h]
theorem Row.set_ (h : Row w g L) (i : Nat) (x : Nat) : Row (w.setCell ⟨g, i, none⟩ (.int .u32 (x : Int))) g (L.set i x) := by
 unfold Row at h ⊢
 simp [World.setCell, Array.getElem?_modify, h, u32s, List.map_set]
theorem Row.new (w : World) (L : List Nat) : Row (w.alloc (.cells (u32s L).toArray 61)) w.heap.size L := heap_alloc_new w _
theorem Row.drew (h : Row w g L) : Row w.drew g L := h
theorem Row.drewN (h : Row w g L) (n : Nat) : Row (w.drewN n) g L := h
theorem Row.ext (h : Row w g L) (hb : Ext w w') : Row w' g L := (Below.block hb g h.lt).trans h
theorem Row.alloc (h : Row w g L) (o : Obj) : Row (w.alloc o) g L := h.ext ((Ext.refl w).alloc o)
theorem Row.far (h : Row w g L) {p : Addr} (hp : g ≠ p.block) (u : Value) : Row (w.setCell p u) g L := (Below.heap_setCell w p u g hp).trans h
theorem Row.wds (h : Row w g L) (hL : Ws L) {n c : Nat} (hn : L.length = n) (hc : n ≤ c) (hm : c ≤ maxLen) : Wds w (some ⟨g, 0, none⟩) n c L :=
 ⟨hn, hc, hm, hL, fun _ => ⟨_, rfl, h.lt, fun k x hk => by
   have hk' : k < L.length := (List.getElem?_eq_some_iff.1 hk).1
   have := h.cell hk'
   rw [List.getElem?_eq_getElem hk'] at hk
   injection hk with hk
   rw [← hk, ← this]
   unfold Addr.add
   split
   · subst_vars; rfl
   · simp⟩⟩
theorem Row.own (h : Row w g L) {base n : Nat} (hb : base ≤ g) (hn : L.length = n) (hm : n ≤ maxLen) : w.ownsRow base 61 1 (.slice (some ⟨g, 0, none⟩) n n) n (u32s L) :=
 ⟨by rw [u32s_length]; omega, .inr ⟨g, n, _, rfl, hb, h, Nat.le_refl _, hm, by simp [u32s_length, hn], by simp [List.take_of_length_le, u32s_length, hn]⟩⟩
end
theorem cells_replicate (n : Nat) : madeCells (Value.int .u32 0).cells (n * 1) = (u32s (List.replicate n 0)).toArray := by
 apply Array.ext
 · simp [size_madeCells, u32s]
 · intro i h1 h2
   simp [madeCells, u32s, Value.cells, Nat.mod_one]
theorem run_make32 (n : Nat) (hn : n ≤ 70368744177664) (w : World) :
   (Instr.makeSlice 35 (.int .i64 (n : Int)) (.int .i64 (n : Int))).run Tryz.prog w = .ok (.slice (some ⟨w.heap.size, 0, none⟩) n n) (w.alloc (.cells (u32s (List.replicate n 0)).toArray 61)) := by
 obtain ⟨i0, hi0, hz0, hz1, hz2⟩ := info_parts info_u32
 have hr := run_make (P := Tryz.prog) w 35 61 i0 (.int .u32 0) Tryz.underlying35 hi0 hz0 .i64 .i64 n n (by omega) (by omega) (by rw [hz2]; omega) (by omega)
 simp only [Int.toNat_natCast] at hr
 rw [hr, hz1, cells_replicate]
theorem wp_app32 {ops : Array Oper} {rest : List Oper} {o : Oper} {a : Act} {Q : Exit → Act → World → Prop} (hgd : o.guard = none) (s x : Operand)
   (ho : o.op = .call { callee := .builtin .append, args := #[s, x], argTypes := #[35, 35] })
   {w0 wr : World} {v : Value} {j : Nat} {acc : List Nat} (lo : Nat) {xv : Int} (hs : a.eval s = v) (hown : wr.ownsRow w0.heap.size 61 1 v j (u32s acc)) (hb : Ext w0 wr)
   (hx : a.eval x = .slice (some ⟨wr.heap.size, 0, none⟩) 1 1) (hxv : xv = (lo : Int)) (hj : j ≤ 35184372088000)
   (h : ∀ v' w1, w1.ownsRow w0.heap.size 61 1 v' (j + 1) (u32s (acc ++ [lo])) → Ext w0 w1 → wpList Tryz.prog ops Q rest (a.put o.dst v') w1) :
   wpList Tryz.prog ops Q (o :: rest) a (wr.alloc (.cells #[.int .u32 xv] 61)) := by
 obtain ⟨i0, hi0, hz0, hz1, hz2⟩ := info_parts info_u32
 subst hxv
 refine wpList_append_own _ hgd s x _ ho w0.heap.size 61 i0 (.int .u32 0) 1 4 Tryz.underlying35 hi0 hz0 hz1 hz2 rfl (by decide) _ _ _ hs (hown.alloc _) ⟨wr.heap.size, 0, none⟩ 1 1 [.int .u32 (lo : Int)] hx rfl (cell_one_new _ _ _) (by simp [Value.oneCell']) (by simp only [maxLen]; omega) (by omega) (by have := hb.size; simp; omega) ?_
 intro v' w1 hown' hgrow _
 rw [u32s_snoc] at hown'
 exact h v' w1 hown' ((hb.alloc _).grown hgrow fun q hq => (hown.lt q hq).1)
set_option maxHeartbeats 400000 in
theorem norm_any (A : Option Addr) (n c : Nat) (xs : List Nat) (w : World) (h : Wds w A n c xs) (hn : n ≤ 35184372088000) :
   Calls Tryz.prog 42 #[.slice A n c] w (RetW (nv xs) w) := by
 have hlen := h.len
 obtain ⟨i0, hi0, hz0, hz1, hz2⟩ := info_parts info_u32
 go_enter Tryz.func42, Tryz.ntmps42
 go_wp2
 go_loop [3] (fun i => ∃ k : Nat, k ≤ n ∧ i = .int .i64 k ∧ ∀ j, (hj : j < xs.length) → k ≤ j → xs[j] = 0) (fun i => (intOf i).toNat)
 case atStart => exact ⟨n, Nat.le_refl _, rfl, fun j hj hk => by omega⟩
 case round =>
   obtain ⟨k, hk, rfl, hz⟩ := hrel
   have HZ := Lib.hid hz
   clear hz
   by_cases hx0 : k ≠ 0 ∧ ∃ hx : k - 1 < xs.length, xs[k - 1] = 0
   · obtain ⟨h0, hx, hx0⟩ := hx0
     obtain ⟨ad, hx, rfl, hb, hc⟩ := h.at_ (k := k - 1) (by omega)
     go_wp2
     go_round
     case rel => exact ⟨k - 1, by omega, by go_num, fun j hj hkj => by
       by_cases e : j = k - 1
       · subst e; exact hx0
       · exact HZ.out j hj (by omega)⟩
     case measure => simp [intOf]; omega
   · have hT := take_trim h.ws (n := k) (by omega) HZ.out (fun j hj e => by
       intro hj0
       refine hx0 ⟨by omega, by omega, ?_⟩
       have e : k - 1 = j := by omega
       subst e; exact hj0)
     have HT := Lib.hid hT.1
     clear hT
     have hgo : k ≤ 0 ∨ ∃ ad, ∃ hx : k - 1 < xs.length, 0 < k ∧ A = some ad ∧ xs[k - 1] ≠ 0 ∧ w.cell? (ad.add (k - 1)) = some (.int .u32 (xs[k - 1] : Int)) := by
       by_cases h0 : k = 0
       · exact Or.inl (by omega)
       · obtain ⟨ad, hx, rfl, hb, hc⟩ := h.at_ (k := k - 1) (by omega)
         exact Or.inr ⟨ad, hx, by omega, rfl, fun e => hx0 ⟨h0, hx, e⟩, hc⟩
     clear hx0
     rcases hgo with hk0 | ⟨ad0, hx, hk0, rfl, hx0, hc⟩
     all_goals
       go_wp2
       go_loopw [4, 5] (fun v i wr => ∃ j : Nat, j ≤ k ∧ i = .int .i64 j ∧ wr.ownsRow w.heap.size 61 1 v j (u32s (xs.take j)) ∧ Ext w wr) (fun _ i _ => k - (intOf i).toNat)
       case atStart => exact ⟨0, Nat.zero_le _, rfl, World.ownsRow_nil _ _ _ _, Ext.refl _⟩
       case round =>
         obtain ⟨j, hj, rfl, hown, hb⟩ := hrel
         by_cases hlt : j < k
         · first
           | (exfalso; omega)
           | (obtain ⟨ad, hxj, hA, hbj, hcj⟩ := (h.ext hb).at_ (k := j) (by omega)
              have hrow : u32s (xs.take j) ++ [.int .u32 (xs[j] : Int)] = u32s (xs.take (j + 1)) := by
                rw [u32s_snoc, List.take_succ_eq_append_getElem hxj]
              have HR := Lib.hid hrow
              clear hrow
              first | subst hA | (injection hA with hA; subst hA)
              go_wp2_with (at_builtin; refine wpList_append_own _ rfl (.tmp 25) (.tmp 30) _ rfl w.heap.size 61 i0 (.int .u32 0) 1 4 Tryz.underlying35 hi0 hz0 hz1 hz2 rfl (by decide) _ _ _ rfl (hown.alloc _) ⟨wr.heap.size, 0, none⟩ 1 1 [.int .u32 (xs[j] : Int)] rfl rfl (cell_one_new _ _ _) (by simp [Value.oneCell']) (by simp only [maxLen]; omega) (by omega) (by have := hb.size; simp; omega) ?_; intro v' w1 hown' hgrow _)
              go_roundw
              case rel => exact ⟨j + 1, by omega, by go_num, by rw [← HR.out]; exact hown', (hb.alloc _).grown hgrow fun q hq => (hown.lt q hq).1⟩
              case measure => simp [intOf]; omega)
         · have e : j = k := by omega
           subst e
           obtain ⟨A', c', rfl, hW⟩ := Wds.of_own hown (h.ws.take j)
           go_wp2
           go_ret
           exact ⟨A', j, c', rfl, by rw [HT.out]; exact hW, hb⟩
end Go.Proofs.YtbcaggdgoidlaaaGreatDoor

namespace Go.Proofs.YtbcaggdgoidlaaaGreatDoor
open Go.RowKit Nm
set_option maxRecDepth 100000
set_option linter.unusedVariables false
set_option linter.unusedSimpArgs false
theorem two_words (v : Nat) (h : v < 18446744073709551616) : nv [v % 4294967296, v / 4294967296] = v := by
 simp only [nv]; omega
set_option maxHeartbeats 400000 in
theorem small_any (v : Int) (w : World) (h0 : 0 ≤ v) (h1 : v < 18446744073709551616) :
   Calls Tryz.prog 34 #[.int .u64 v] w (RetW v.toNat w) := by
 obtain ⟨n, rfl⟩ := Int.eq_ofNat_of_zero_le h0
 have hand : bits .and .u64 (n : Int) 4294967295 = ((n % 4294967296 : Nat) : Int) := by
   rw [u64_and _ _ (by omega) h1 (by omega) (by omega)]
   rw [Int.toNat_natCast, show (4294967295 : Int).toNat = 4294967295 from rfl, nat_mask32]
 have hmod : ((n % 4294967296 : Nat) : Int) % 4294967296 = ((n % 4294967296 : Nat) : Int) := by omega
 have hdiv : (n : Int) / 4294967296 = ((n / 4294967296 : Nat) : Int) := by omega
 have H1 := Lib.hid hand
 have H2 := Lib.hid hmod
 have H3 := Lib.hid hdiv
 clear hand hmod hdiv
 go_enter Tryz.func34, Tryz.ntmps34
 go_wp2_with fail
 rw [H1.out, H2.out, H3.out]
 have hW : Wds (w.alloc (Obj.cells #[Value.int IntKind.u32 ((n % 4294967296 : Nat) : Int), Value.int IntKind.u32 ((n / 4294967296 : Nat) : Int)] 61)) (some ⟨w.heap.size, 0, none⟩) 2 2 [n % 4294967296, n / 4294967296] := by
   refine ⟨rfl, Nat.le_refl _, by unfold maxLen; omega, Ws.cons (by omega) (Ws.cons (by omega) Ws.nil), fun _ => ⟨_, rfl, by simp, fun k x hk => ?_⟩⟩
   match k, hk with
   | 0, hk => simp at hk; subst hk; simp [World.cell?_alloc_new, Addr.add]
   | 1, hk => simp at hk; subst hk; simp [World.cell?_alloc_new, Addr.add]
   | k + 2, hk => simp at hk
 refine (norm_any _ _ _ _ _ hW (by omega)).mono ?_
 rintro e w1 ⟨A, m, c, rfl, hR, hb⟩
 rw [two_words n (by omega)] at hR
 go_wp2
 go_ret
 exact ⟨A, m, c, rfl, hR, ((Ext.refl w).alloc _).trans hb⟩
def cmpN (a b : Nat) : Int := if a < b then -1 else if b < a then 1 else 0
theorem cmpN_lt {a b : Nat} (h : a < b) : cmpN a b = -1 := by simp [cmpN, h]
theorem cmpN_gt {a b : Nat} (h : b < a) : cmpN a b = 1 := by
 unfold cmpN; rw [if_neg (by omega), if_pos h]
theorem cmpN_eq {a b : Nat} (h : a = b) : cmpN a b = 0 := by simp [cmpN, h]
theorem lt_of_nw {a b : Nat} (h : nw a < nw b) : a < b := by
 rcases Nat.lt_or_ge a b with h' | h'
 · exact h'
 · have := nw_mono h'; omega
def Same (xs ys : List Nat) (n k : Nat) : Prop := ∀ j, (hj : j < (xs.take n).length) → (hj' : j < (ys.take n).length) → k ≤ j → (xs.take n)[j] = (ys.take n)[j]
theorem Same.all {xs ys : List Nat} (hx : Ws xs) (hy : Ws ys) (e : nw (nv xs) = nw (nv ys)) (h : Same xs ys (nw (nv xs)) 0) : nv xs = nv ys := by
 have h1 := (take_nw hx).1
 have h2 := (take_nw hy).1
 have l1 := nw_nv_le hx
 have l2 := nw_nv_le hy
 rw [← h1, ← h2, ← e]
 congr 1
 apply List.ext_getElem
 · rw [List.length_take, List.length_take]; omega
 · intro j a b; exact h j a b (Nat.zero_le _)
theorem Same.lt {xs ys : List Nat} (hx : Ws xs) (hy : Ws ys) (e : nw (nv xs) = nw (nv ys)) {k : Nat} (hk : k < nw (nv xs)) (hkx : k < xs.length) (hky : k < ys.length) (h : Same xs ys (nw (nv xs)) (k + 1)) (hlt : xs[k] < ys[k]) : nv xs < nv ys := by
 have h1 := (take_nw hx).1
 have h2 := (take_nw hy).1
 have l1 := nw_nv_le hx
 have l2 := nw_nv_le hy
 rw [← h1, ← h2, ← e]
 refine nv_lt_of_top (hx.take _) ?_ (k := k) ?_ (fun j hj hkj => h j hj ?_ hkj) ?_
 · rw [List.length_take, List.length_take]; omega
 · rw [List.length_take]; omega
 · rw [List.length_take] at hj ⊢; omega
 · rw [List.getElem_take, List.getElem_take]; exact hlt
theorem Same.symm {xs ys : List Nat} {n k : Nat} (h : Same xs ys n k) : Same ys xs n k := fun j a b c => (h j b a c).symm
theorem Same.step {xs ys : List Nat} {n k : Nat} (h : Same xs ys n (k + 1)) (hkx : k < xs.length) (hky : k < ys.length) (e : xs[k] = ys[k]) : Same xs ys n k := by
 intro j a b c
 by_cases hj : j = k
 · subst hj
   rw [List.getElem_take, List.getElem_take]; exact e
 · exact h j a b (by omega)
set_option maxHeartbeats 1000000 in
theorem cmp_any (A : Option Addr) (n c : Nat) (xs : List Nat) (B : Option Addr) (m d : Nat) (ys : List Nat) (w : World) (h : Wds w A n c xs) (hn : n ≤ 35184372088832) (k : Wds w B m d ys) (hm : m ≤ 35184372088832) :
   Calls Tryz.prog 44 #[.slice A n c, .slice B m d] w fun e w' => e = .returned (.int .i64 (cmpN (nv xs) (nv ys))) ∧ ∃ q, w' = w.drewN q := by
 have hxl : nw (nv xs) ≤ xs.length := nw_nv_le h.ws
 have hyl : nw (nv ys) ≤ ys.length := nw_nv_le k.ws
 have hlx := h.len
 have hly := k.len
 rcases Nat.lt_trichotomy (nw (nv xs)) (nw (nv ys)) with hlt | heq | hgt
 · go_enter Tryz.func44, Tryz.ntmps44
   go_wp2_with (first | (go_at_call 70; ((with_reducible refine (words_any A _ _ _ _ h hn).mono ?_); rintro e w' ⟨rfl, rfl⟩)) | (go_at_call 70; ((with_reducible refine (words_any B _ _ _ _ k hm).mono ?_); rintro e w' ⟨rfl, rfl⟩)))
   go_ret
   exact ⟨ret_int (cmpN_lt (lt_of_nw hlt)).symm, 0, rfl⟩
 · have HS := Lib.hid heq
   have hle : nw (nv xs) ≤ nw (nv ys) := by omega
   have hge : nw (nv ys) ≤ nw (nv xs) := by omega
   clear heq
   go_enter Tryz.func44, Tryz.ntmps44
   go_wp2_with (first | (go_at_call 70; ((with_reducible refine (words_any A _ _ _ _ h hn).mono ?_); rintro e w' ⟨rfl, rfl⟩)) | (go_at_call 70; ((with_reducible refine (words_any B _ _ _ _ k hm).mono ?_); rintro e w' ⟨rfl, rfl⟩)))
   go_loopw [7] (fun i wr => ∃ t : Nat, t ≤ nw (nv xs) ∧ i = .int .i64 ((t : Int) - 1) ∧ Same xs ys (nw (nv xs)) t ∧ ∃ q, wr = w.drewN q) (fun i _ => (intOf i + 1).toNat)
   case atStart => exact ⟨_, Nat.le_refl _, rfl, fun j a b c => by rw [List.length_take] at a; omega, 0, rfl⟩
   case round =>
     obtain ⟨t, ht, rfl, hs, q, rfl⟩ := hrel
     by_cases h0 : t = 0
     · subst h0
       have hfin := Lib.hid (hs.all h.ws k.ws HS.out)
       clear hs
       go_wp2
       go_ret
       exact ⟨ret_int (cmpN_eq hfin.out).symm, q, rfl⟩
     · obtain ⟨ad, hx, rfl, hb, hc⟩ := h.at_ (k := t - 1) (by omega)
       obtain ⟨bd, hy, rfl, hb', hc'⟩ := k.at_ (k := t - 1) (by omega)
       have hs' := hs
       rw [show t = t - 1 + 1 by omega] at hs'
       have hax := Lib.hid (fun hh => Same.lt h.ws k.ws HS.out (show t - 1 < nw (nv xs) by omega) hx hy hs' hh)
       have hay := Lib.hid (fun hh => Same.lt k.ws h.ws HS.out.symm (show t - 1 < nw (nv ys) by omega) hy hx (by rw [← HS.out]; exact hs'.symm) hh)
       have hae := Lib.hid (fun hh => hs'.step hx hy hh)
       clear hs hs'
       have hpos : 0 < t := by omega
       have b1 : (0 : Int) ≤ (t : Int) - 1 := by omega
       have b2 : (t : Int) - 1 < (n : Int) := by omega
       have b3 : (t : Int) - 1 < (m : Int) := by omega
       generalize hX : xs[t - 1] = X at *
       generalize hY : ys[t - 1] = Y at *
       have HX := Lib.hid hX
       have HY := Lib.hid hY
       clear hX hY
       rcases Nat.lt_trichotomy X Y with hlt | he | hgt
       · go_wp2
         go_quiet (fail)
         go_wp2
         go_ret
         exact ⟨ret_int (cmpN_lt (hax.out hlt)).symm, q + nq, World.drewN_drewN _ _ _⟩
       · have hng : ¬ X < Y := by omega
         have hng' : ¬ Y < X := by omega
         have HE := Lib.hid he
         clear he
         go_wp2
         go_quiet (fail)
         go_wp2
         go_quiet (fail)
         go_wp2
         go_roundw
         case rel => exact ⟨t - 1, by omega, by go_num, hae.out HE.out, by (try simp only [World.drewN_drewN]); exact ⟨_, rfl⟩⟩
         case measure => simp [intOf]; omega
       · have hng : ¬ X < Y := by omega
         go_wp2
         go_quiet (fail)
         go_wp2
         go_quiet (fail)
         go_wp2
         go_ret
         exact ⟨ret_int (cmpN_gt (hay.out hgt)).symm, by (try simp only [World.drewN_drewN]); exact ⟨_, rfl⟩⟩
 · go_enter Tryz.func44, Tryz.ntmps44
   go_wp2_with (first | (go_at_call 70; ((with_reducible refine (words_any A _ _ _ _ h hn).mono ?_); rintro e w' ⟨rfl, rfl⟩)) | (go_at_call 70; ((with_reducible refine (words_any B _ _ _ _ k hm).mono ?_); rintro e w' ⟨rfl, rfl⟩)))
   go_ret
   exact ⟨ret_int (cmpN_gt (lt_of_nw hgt)).symm, 0, rfl⟩
set_option maxHeartbeats 400000 in
theorem len_any (A : Option Addr) (n c : Nat) (xs : List Nat) (w : World) (h : Wds w A n c xs) (hn : n ≤ 35184372088832) :
   Calls Tryz.prog 54 #[.slice A n c] w fun e w' => e = .returned (.int .i64 (bl (nv xs) : Int)) ∧ w = w' := by
 have hxl : nw (nv xs) ≤ xs.length := nw_nv_le h.ws
 have hlen := h.len
 by_cases h0 : nv xs = 0
 · have hz : nw (nv xs) ≤ 0 := by rw [h0, nw_zero]; omega
   have hf : (0 : Int) = (bl (nv xs) : Int) := by rw [h0]; rfl
   have HF := Lib.hid hf
   clear hf h0
   go_enter Tryz.func54, Tryz.ntmps54
   go_wp2_with (go_at_call 70; refine (words_any _ _ _ _ _ h hn).mono ?_; rintro e w' ⟨rfl, rfl⟩)
   go_ret
   exact ⟨ret_int HF.out, rfl⟩
 · obtain ⟨hk, ht, htop⟩ := top_word h.ws h0
   have hnp : 0 < nw (nv xs) := by
     rcases Nat.eq_zero_or_pos (nw (nv xs)) with e | e
     · exact absurd (nw_eq_zero.1 e) h0
     · exact e
   clear h0
   obtain ⟨ad, hx, rfl, hb, hc⟩ := h.at_ (k := nw (nv xs) - 1) (by omega)
   have hX := h.ws.get hx
   have HT := Lib.hid htop
   clear htop
   generalize hXe : xs[nw (nv xs) - 1] = X at *
   have HX := Lib.hid hXe
   clear hXe
   go_enter Tryz.func54, Tryz.ntmps54
   go_wp2_with (go_at_call 70; refine (words_any _ _ _ _ _ h hn).mono ?_; rintro e w' ⟨rfl, rfl⟩)
   go_loop [4, 5] (fun v x => ∃ a b : Nat, a < 4294967296 ∧ x = .int .u32 (a : Int) ∧ v = .int .i64 (b : Int) ∧ b ≤ bl (nv xs) ∧ Hid (b + bl a = bl (nv xs))) (fun _ x => (intOf x).toNat)
   case atStart => exact ⟨X, 32 * (nw (nv xs) - 1), hX, rfl, by congr 1; omega, by have := HT.out; omega, Lib.hid HT.out.symm⟩
   case round =>
     obtain ⟨a, b, ha, rfl, rfl, hble, hab⟩ := hrel
     have hbb : bl (nv xs) ≤ 32 * nw (nv xs) := by
       rw [bl_le_iff, ← pow32]; exact lt_pow_nw _
     by_cases ha0 : a = 0
     · have he : (b : Int) = (bl (nv xs) : Int) := by have := hab.out; rw [ha0, bl_zero] at this; omega
       have HE := Lib.hid he
       clear he
       subst ha0
       go_wp2
       go_ret
       exact ⟨ret_int HE.out, rfl⟩
     · have hap : 0 < a := by omega
       have hh := bl_half ha0
       have HH := Lib.hid hh
       clear hh
       clear ha0
       go_wp2
       go_round
       case rel => exact ⟨a / 2, b + 1, by omega, by go_num, by go_num, by have := hab.out; have := HH.out; omega, Lib.hid (by have := hab.out; have := HH.out; omega)⟩
       case measure => simp [intOf]; omega
set_option maxHeartbeats 400000 in
theorem bit_any (A : Option Addr) (n c : Nat) (xs : List Nat) (i : Nat) (w : World) (h : Wds w A n c xs) (hn : n ≤ 35184372088832) (hi : i ≤ 4611686018427387904) :
   Calls Tryz.prog 53 #[.slice A n c, .int .i64 (i : Int)] w fun e w' => e = .returned (.int .u32 (nv xs / 2 ^ i % 2 : Nat)) ∧ w = w' := by
 have hlen := h.len
 by_cases hlt : i / 32 < n
 · obtain ⟨ad, hx, rfl, hb, hc⟩ := h.at_ hlt
   have hfin : bits .and .u32 ((xs[i / 32] : Int) / 2 ^ (i % 32)) 1 = ((nv xs / 2 ^ i % 2 : Nat) : Int) := by
     have hx32 := h.ws.get hx
     have e : ((xs[i / 32] : Nat) : Int) / 2 ^ (i % 32) = ((xs[i / 32] / 2 ^ (i % 32) : Nat) : Int) := by simp
     rw [bit_word h.ws hx, e, show (1 : Int) = ((1 : Nat) : Int) from rfl, u32_and_nat _ _ (Nat.lt_of_le_of_lt (Nat.div_le_self _ _) hx32) (by omega), nat_mask1]
   have HF := Lib.hid hfin
   clear hfin
   go_enter Tryz.func53, Tryz.ntmps53
   go_wp2
   go_ret
   exact ⟨ret_int HF.out, rfl⟩
 · have hfin : (0 : Int) = ((nv xs / 2 ^ i % 2 : Nat) : Int) := by
     have h1 := nv_lt h.ws
     rw [pow32] at h1
     have : nv xs < 2 ^ i := Nat.lt_of_lt_of_le h1 (Nat.pow_le_pow_right (by omega) (by omega))
     rw [Nat.div_eq_of_lt this]; rfl
   have HF := Lib.hid hfin
   clear hfin
   go_enter Tryz.func53, Tryz.ntmps53
   go_wp2
   go_ret
   exact ⟨ret_int HF.out, rfl⟩
end Go.Proofs.YtbcaggdgoidlaaaGreatDoor

namespace Go.Proofs.YtbcaggdgoidlaaaGreatDoor
open Go.RowKit Nm
set_option maxRecDepth 100000
set_option linter.unusedVariables false
set_option linter.unusedSimpArgs false
set_option maxHeartbeats 400000 in
theorem nwords_any (A : Option Addr) (n c : Nat) (xs : List Nat) (w : World) (h : Wds w A n c xs) (hn : n ≤ 35184372088832) :
   Calls Tryz.prog 111 #[.slice A n c] w fun e w' => e = .returned (.int .i64 (nw (nv xs) : Int)) ∧ w = w' := by
 have hlen := h.len
 go_enter Tryz.func111, Tryz.ntmps111
 go_wp2
 go_loop [3] (fun i => ∃ k : Nat, k ≤ n ∧ i = .int .i64 k ∧ ∀ j, (hj : j < xs.length) → k ≤ j → xs[j] = 0) (fun i => (intOf i).toNat)
 case atStart => exact ⟨n, Nat.le_refl _, rfl, fun j hj hk => by omega⟩
 case round =>
   obtain ⟨k, hk, rfl, hz⟩ := hrel
   have HZ := Lib.hid hz
   clear hz
   by_cases h0 : k = 0
   · subst h0
     go_wp2
     go_ret
     exact ⟨ret_int (by rw [(take_trim h.ws (Nat.zero_le _) HZ.out (fun k hk e => by omega)).2.1]; rfl), rfl⟩
   · obtain ⟨ad, hx, rfl, hb, hc⟩ := h.at_ (k := k - 1) (by omega)
     by_cases hx0 : xs[k - 1] = 0
     · go_wp2
       go_round
       case rel => exact ⟨k - 1, by omega, by go_num, fun j hj hkj => by
         by_cases e : j = k - 1
         · subst e; exact hx0
         · exact HZ.out j hj (by omega)⟩
       case measure => simp [intOf]; omega
     · go_wp2
       go_ret
       exact ⟨ret_int (by rw [(take_trim h.ws (by omega) HZ.out (fun j hj e => by
         have e : j = k - 1 := by omega
         subst e; exact hx0)).2.1]), rfl⟩
theorem nd_take {xs : List Nat} (h : Ws xs) : nd (nv xs) = xs.take (nw (nv xs)) := by
 obtain ⟨n, hn, hz, ht⟩ : ∃ n, n ≤ xs.length ∧ (∀ k, (hk : k < xs.length) → n ≤ k → xs[k] = 0) ∧ (∀ k, (hk : k < xs.length) → k + 1 = n → xs[k] ≠ 0) := by
   have : ∀ m, m ≤ xs.length → (∀ k, (hk : k < xs.length) → m ≤ k → xs[k] = 0) → ∃ n, n ≤ xs.length ∧ (∀ k, (hk : k < xs.length) → n ≤ k → xs[k] = 0) ∧ (∀ k, (hk : k < xs.length) → k + 1 = n → xs[k] ≠ 0) := by
     intro m
     induction m with
     | zero => intro h1 h2; exact ⟨0, by omega, h2, fun k hk e => by omega⟩
     | succ m ih =>
       intro h1 h2
       by_cases h3 : xs[m]'(by omega) = 0
       · exact ih (by omega) (fun k hk hm => by
           by_cases e : k = m
           · subst e; exact h3
           · exact h2 k hk (by omega))
       · exact ⟨m + 1, h1, h2, fun k hk e => by
           have : k = m := by omega
           subst this; exact h3⟩
   exact this xs.length (Nat.le_refl _) (fun k hk h => by omega)
 have := take_trim h hn hz ht
 rw [this.1, this.2.1]
theorem Wds.cut {w : World} {A : Option Addr} {n c : Nat} {xs : List Nat} (h : Wds w A n c xs) : Wds w A (nw (nv xs)) (nw (nv xs)) (nd (nv xs)) := by
 have hle : nw (nv xs) ≤ n := by have := nw_nv_le h.ws; have := h.len; omega
 have hc1 := h.lec
 have hc2 := h.cmax
 refine ⟨nd_length _, Nat.le_refl _, by omega, Ws.nd _, fun h0 => ?_⟩
 obtain ⟨ad, e, hlt, hc⟩ := h.2.2.2.2 (by omega)
 refine ⟨ad, e, hlt, fun k x hk => hc k x ?_⟩
 rw [nd_take h.ws, List.getElem?_take] at hk
 split at hk
 · exact hk
 · cases hk
set_option maxHeartbeats 1000000 in
theorem ncut_any (A : Option Addr) (n c : Nat) (xs : List Nat) (w : World) (h : Wds w A n c xs) (hn : n ≤ 35184372088832) :
   Calls Tryz.prog 100 #[.slice A n c] w (RetW (nv xs) w) := by
 have hw := fun w (h : Wds w A n c xs) => nwords_any A n c xs w h hn
 have hle : nw (nv xs) ≤ n := by have := nw_nv_le h.ws; have := h.len; omega
 have hlc := h.lec
 have hcut := h.cut
 obtain ⟨m, hm⟩ : ∃ m, m = nw (nv xs) := ⟨_, rfl⟩
 rw [← hm] at hw hle
 have HW := Lib.hid hw
 have HM := Lib.hid hm
 clear hw hm
 go_enter Tryz.func100, Tryz.ntmps100
 go_wp2_with fail
 refine (HW.out _ h).mono ?_
 rintro e w1 ⟨rfl, hw1⟩
 subst hw1
 go_wp2_with fail
 refine (HW.out _ h).mono ?_
 rintro e w1 ⟨rfl, hw1⟩
 subst hw1
 cases A with
 | none =>
   have hn0 : n = 0 := by
     rcases Nat.eq_zero_or_pos n with e | e
     · exact e
     · obtain ⟨ad, e', _⟩ := h.2.2.2.2 e; cases e'
   have hm0 : m = 0 := by omega
   have HH := Lib.hid hcut
   clear hcut h
   go_wp2
   go_ret
   exact ⟨none, 0, 0, rfl, by have h1 := HH.out; rw [← HM.out, hm0] at h1; exact h1, Ext.refl w⟩
 | some ad =>
   have HH := Lib.hid hcut
   clear hcut h
   go_wp2
   go_ret
   exact ⟨some ad, m, m, rfl, by have h1 := HH.out; rw [← HM.out] at h1; exact h1, Ext.refl w⟩
set_option maxHeartbeats 1000000 in
theorem nsmall_any (n : Nat) (w : World) (h1 : n < 18446744073709551616) :
   Calls Tryz.prog 87 #[.int .u64 (n : Int)] w (RetW n w) := by
 have hmod : (n : Int) % 4294967296 = ((n % 4294967296 : Nat) : Int) := by omega
 have hdiv : (n : Int) / 4294967296 = ((n / 4294967296 : Nat) : Int) := by omega
 have hdm : ((n / 4294967296 : Nat) : Int) % 4294967296 = ((n / 4294967296 : Nat) : Int) := by omega
 have H2 := Lib.hid hmod
 have H3 := Lib.hid hdiv
 have H4 := Lib.hid hdm
 clear hmod hdiv hdm
 go_enter Tryz.func87, Tryz.ntmps87
 go_wp2_with fail
 rw [H2.out, H3.out]
 try rw [H4.out]
 have hW : Wds (w.alloc (Obj.cells #[Value.int IntKind.u32 ((n % 4294967296 : Nat) : Int), Value.int IntKind.u32 ((n / 4294967296 : Nat) : Int)] 61)) (some ⟨w.heap.size, 0, none⟩) 2 2 [n % 4294967296, n / 4294967296] := by
   refine ⟨rfl, Nat.le_refl _, by unfold maxLen; omega, Ws.cons (by omega) (Ws.cons (by omega) Ws.nil), fun _ => ⟨_, rfl, by simp, fun k x hk => ?_⟩⟩
   match k, hk with
   | 0, hk => simp at hk; subst hk; simp [World.cell?_alloc_new, Addr.add]
   | 1, hk => simp at hk; subst hk; simp [World.cell?_alloc_new, Addr.add]
   | k + 2, hk => simp at hk
 refine (ncut_any _ _ _ _ _ hW (by omega)).mono ?_
 rintro e w1 ⟨A, m, c, rfl, hR, hb⟩
 rw [two_words n (by omega)] at hR
 go_wp2
 go_ret
 exact ⟨A, m, c, rfl, hR, ((Ext.refl w).alloc _).trans hb⟩
end Go.Proofs.YtbcaggdgoidlaaaGreatDoor

namespace Go.Proofs.YtbcaggdgoidlaaaGreatDoor
open Go.RowKit Nm
set_option maxRecDepth 100000
set_option linter.unusedVariables false
set_option linter.unusedSimpArgs false
set_option maxHeartbeats 1000000 in
theorem ncmp_any (A : Option Addr) (n c : Nat) (xs : List Nat) (B : Option Addr) (m d : Nat) (ys : List Nat) (w : World) (h : Wds w A n c xs) (hn : n ≤ 35184372088832) (k : Wds w B m d ys) (hm : m ≤ 35184372088832) :
   Calls Tryz.prog 118 #[.slice A n c, .slice B m d] w fun e w' => e = .returned (.int .i64 (cmpN (nv xs) (nv ys))) ∧ ∃ q, w' = w.drewN q := by
 have hxl : nw (nv xs) ≤ xs.length := nw_nv_le h.ws
 have hyl : nw (nv ys) ≤ ys.length := nw_nv_le k.ws
 have hlx := h.len
 have hly := k.len
 rcases Nat.lt_trichotomy (nw (nv xs)) (nw (nv ys)) with hlt | heq | hgt
 · go_enter Tryz.func118, Tryz.ntmps118
   go_wp2_with (first | (go_at_call 111; ((with_reducible refine (nwords_any A _ _ _ _ h hn).mono ?_); rintro e w' ⟨rfl, rfl⟩)) | (go_at_call 111; ((with_reducible refine (nwords_any B _ _ _ _ k hm).mono ?_); rintro e w' ⟨rfl, rfl⟩)))
   go_ret
   exact ⟨ret_int (cmpN_lt (lt_of_nw hlt)).symm, 0, rfl⟩
 · have HS := Lib.hid heq
   have hle : nw (nv xs) ≤ nw (nv ys) := by omega
   have hge : nw (nv ys) ≤ nw (nv xs) := by omega
   clear heq
   go_enter Tryz.func118, Tryz.ntmps118
   go_wp2_with (first | (go_at_call 111; ((with_reducible refine (nwords_any A _ _ _ _ h hn).mono ?_); rintro e w' ⟨rfl, rfl⟩)) | (go_at_call 111; ((with_reducible refine (nwords_any B _ _ _ _ k hm).mono ?_); rintro e w' ⟨rfl, rfl⟩)))
   go_loopw [21] (fun i wr => ∃ t : Nat, t ≤ nw (nv xs) ∧ i = .int .i64 ((nw (nv xs) - t : Nat) : Int) ∧ Same xs ys (nw (nv xs)) t ∧ ∃ q, wr = w.drewN q) (fun i _ => nw (nv xs) - (intOf i).toNat)
   case atStart => exact ⟨_, Nat.le_refl _, by simp, fun j a b c => by rw [List.length_take] at a; omega, 0, rfl⟩
   case round =>
     obtain ⟨t, ht, rfl, hs, q, rfl⟩ := hrel
     by_cases h0 : t = 0
     · subst h0
       have hfin := Lib.hid (hs.all h.ws k.ws HS.out)
       clear hs
       go_wp2
       go_ret
       exact ⟨ret_int (cmpN_eq hfin.out).symm, q, rfl⟩
     · obtain ⟨ad, hx, rfl, hb, hc⟩ := h.at_ (k := t - 1) (by omega)
       obtain ⟨bd, hy, rfl, hb', hc'⟩ := k.at_ (k := t - 1) (by omega)
       have hs' := hs
       rw [show t = t - 1 + 1 by omega] at hs'
       have hax := Lib.hid (fun hh => Same.lt h.ws k.ws HS.out (show t - 1 < nw (nv xs) by omega) hx hy hs' hh)
       have hay := Lib.hid (fun hh => Same.lt k.ws h.ws HS.out.symm (show t - 1 < nw (nv ys) by omega) hy hx (by rw [← HS.out]; exact hs'.symm) hh)
       have hae := Lib.hid (fun hh => hs'.step hx hy hh)
       clear hs hs'
       have hpos : 0 < t := by omega
       have b0 : (nw (nv xs) : Int) - 1 - ((nw (nv xs) - t : Nat) : Int) = ((t - 1 : Nat) : Int) := by omega
       have b4 : (nw (nv xs) : Int) - 1 = ((nw (nv xs) - 1 : Nat) : Int) := by omega
       have b5 : ((nw (nv xs) - 1 : Nat) : Int) - ((nw (nv xs) - t : Nat) : Int) = ((t - 1 : Nat) : Int) := by omega
       have b1 : (0 : Int) ≤ ((t - 1 : Nat) : Int) := by omega
       have b2 : ((t - 1 : Nat) : Int) < (n : Int) := by omega
       have b3 : ((t - 1 : Nat) : Int) < (m : Int) := by omega
       generalize hX : xs[t - 1] = X at *
       generalize hY : ys[t - 1] = Y at *
       have HX := Lib.hid hX
       have HY := Lib.hid hY
       clear hX hY
       rcases Nat.lt_trichotomy X Y with hlt | he | hgt
       · go_wp2
         go_quiet (fail)
         go_wp2
         go_ret
         exact ⟨ret_int (cmpN_lt (hax.out hlt)).symm, by (try simp only [World.drewN_drewN]); exact ⟨_, rfl⟩⟩
       · have hng : ¬ X < Y := by omega
         have hng' : ¬ Y < X := by omega
         have HE := Lib.hid he
         clear he
         go_wp2
         go_quiet (fail)
         go_wp2
         go_roundw
         case rel => exact ⟨t - 1, by omega, val_int (by omega), hae.out HE.out, by (try simp only [World.drewN_drewN]); exact ⟨_, rfl⟩⟩
         case measure => simp [intOf]; omega
       · have hng : ¬ X < Y := by omega
         go_wp2
         go_quiet (fail)
         go_wp2
         go_ret
         exact ⟨ret_int (cmpN_gt (hay.out hgt)).symm, by (try simp only [World.drewN_drewN]); exact ⟨_, rfl⟩⟩
 · go_enter Tryz.func118, Tryz.ntmps118
   go_wp2_with (first | (go_at_call 111; ((with_reducible refine (nwords_any A _ _ _ _ h hn).mono ?_); rintro e w' ⟨rfl, rfl⟩)) | (go_at_call 111; ((with_reducible refine (nwords_any B _ _ _ _ k hm).mono ?_); rintro e w' ⟨rfl, rfl⟩)))
   go_ret
   exact ⟨ret_int (cmpN_gt (lt_of_nw hgt)).symm, 0, rfl⟩
end Go.Proofs.YtbcaggdgoidlaaaGreatDoor
