/-
 The contracts of the document's whole steps, second part: Step of a ratio. Conditions: those that each theorem names.
-/
import Derived.Test.YtbcaggdgoidlaaaGreatDoorH33
import Derived.Test.YtbcaggdgoidlaaaGreatDoorH34
import Derived.Test.YtbcaggdgoidlaaaGreatDoorH30
import Derived.Test.YtbcaggdgoidlaaaGreatDoorH29
namespace Go.Proofs.YtbcaggdgoidlaaaGreatDoor
open Go.RowKit Nm Rn
set_option maxRecDepth 100000
set_option linter.unusedVariables false
set_option linter.unusedSimpArgs false
set_option maxHeartbeats 1000000 in
theorem bit0_any (A : Option Addr) (n c q : Nat) (w : World) (h : Wds w A n c (nd q)) (hn : n ≤ 1073741824) :
   Calls Tryz.prog 53 #[.slice A n c, .int .i64 0] w fun e w' => e = .returned (.int .u32 ((q % 2 : Nat) : Int)) ∧ w = w' := by
 have hl : n = nw q := by have := h.len; rw [nd_length] at this; omega
 by_cases h0 : q = 0
 · subst h0
   have hn0 : n = 0 := by rw [hl]; rfl
   subst hn0
   clear hl hn
   go_enter Tryz.func53, Tryz.ntmps53
   go_wp2
   go_ret
   exact ⟨rfl, rfl⟩
 · have hnp : 0 < n := by
     rcases Nat.eq_zero_or_pos n with e | e
     · exact absurd (nw_eq_zero.1 (hl ▸ e)) h0
     · exact e
   obtain ⟨ad, hx, rfl, hb, hc⟩ := h.at_ (k := 0) hnp
   have hd : (nd q)[0] = q % 4294967296 := by simp [nd_pos h0]
   rw [hd] at hc
   have hb2 : bits .and .u32 ((q % 4294967296 : Nat) : Int) 1 = ((q % 2 : Nat) : Int) := by
     rw [show (1 : Int) = ((1 : Nat) : Int) from rfl, u32_and_nat _ _ (by omega) (by omega), show (1 : Nat) = 2 ^ 1 - 1 from rfl, Nat.and_two_pow_sub_one_eq_mod]
     congr 1
     omega
   have hxb : q % 4294967296 < 4294967296 := Nat.mod_lt _ (by omega)
   obtain ⟨X, hX⟩ : ∃ X, X = q % 4294967296 := ⟨_, rfl⟩
   rw [← hX] at hc hb2 hxb
   obtain ⟨Y, hY⟩ : ∃ Y, Y = q % 2 := ⟨_, rfl⟩
   rw [← hY] at hb2 ⊢
   have HB2 := Lib.hid hb2
   have g1 : decide ((n : Int) ≤ 0) = false := decide_eq_false (by omega)
   have g2 : decide (n ≤ 0) = false := decide_eq_false (by omega)
   have hcc : w.cell? ad = some (.int .u32 (X : Int)) := by simpa [Addr.add] using hc
   clear hl h0 hd hX hY hb2 h hx
   go_enter Tryz.func53, Tryz.ntmps53
   go_wp2
   go_ret
   exact ⟨ret_int HB2.out, rfl⟩
section
variable {P : Program} {ops : Array Oper} {Q : Exit → Act → World → Prop} {a : Act} {w w0 : World} {rest : List Oper} {L : List Bx} {W : List Sw} {T ty t : TypeId} {ps : String} {af : Array Edge} {x y : Operand} {g : Nat} {b0 b1 : Bx} {cs vs : List Value}
theorem spl3 (h : cs.length = 3) (h2 : vs.length = 3) : spl cs 0 vs = vs := by
 match cs, vs, h, h2 with
 | [_, _, _], [_, _, _], _, _ => rfl
theorem st3_0 (hO : Own w0 (⟨g, t, cs⟩ :: L) W w) (hc : cs.length = 3) (hx : a.eval x = .pointer (some ⟨g, 0, none⟩)) (hvs : (a.eval y).cells = vs.toArray) (hv : vs.length = 3)
   (hsz : ∀ w, (sizeOf T).run P w = .ok 3 w) (h1 : vs.all Value.oneCell' = true) (hu : vs.any isU = false) (h : ∀ w', Own w0 (⟨g, t, vs⟩ :: L) W w' → wpList P ops Q rest a w') :
   wpList P ops Q ({ dst := none, op := .store T x y, type := ty, pos := ps, after := af, guard := none } :: rest) a w :=
 own_store hO 0 (b := ⟨g, t, cs⟩) rfl hx hvs (by rw [hv]; exact hsz) h1 hu (by rw [hv, hc]; rfl) (fun w' hO' => h w' (by have e := spl3 hc hv; simp only [List.set_cons_zero, e] at hO'; exact hO'))
theorem st3_2 (hO : Own w0 (b0 :: b1 :: ⟨g, t, cs⟩ :: L) W w) (hc : cs.length = 3) (hx : a.eval x = .pointer (some ⟨g, 0, none⟩)) (hvs : (a.eval y).cells = vs.toArray) (hv : vs.length = 3)
   (hsz : ∀ w, (sizeOf T).run P w = .ok 3 w) (h1 : vs.all Value.oneCell' = true) (hu : vs.any isU = false) (h : ∀ w', Own w0 (b0 :: b1 :: ⟨g, t, vs⟩ :: L) W w' → wpList P ops Q rest a w') :
   wpList P ops Q ({ dst := none, op := .store T x y, type := ty, pos := ps, after := af, guard := none } :: rest) a w :=
 own_store hO 2 (b := ⟨g, t, cs⟩) rfl hx hvs (by rw [hv]; exact hsz) h1 hu (by rw [hv, hc]; rfl) (fun w' hO' => h w' (by have e := spl3 hc hv; simp only [List.set_cons_zero, List.set_cons_succ, e] at hO'; exact hO'))
end
set_option maxHeartbeats 4000000 in
theorem step_0 (s : Bool) (A : Option Addr) (l c0 : Nat) (B : Option Addr) (kk d N D : Nat) (w : World) (h : RatAt w A l c0 B kk d N D) (v : Int) (b : Bool) (q : Nat)
   (HSG : Hid (∀ (A1 : Option Addr) (l1 c1 : Nat) (B1 : Option Addr) (k1 d1 : Nat) w, RatAt w A1 l1 c1 B1 k1 d1 N D → Calls Tryz.prog 17 #[.agg #[.bool s, .slice A1 l1 c1, .slice B1 k1 d1]] w (fun e w' => e = .returned (.int .i64 v) ∧ Ext w w')))
   (HIN : Hid (∀ w, Calls Tryz.prog 19 #[.int .i64 v] w (RetR b q 1 w))) :
   Calls Tryz.prog 24 #[.int .i64 0, .agg #[.bool s, .slice A l c0, .slice B kk d]] w (RetR b q 1 w) := by
 have hO := ((Own.start w).add h.1).add h.2
 have hf : True := trivial
 clear h
 go_enter Tryz.func24, Tryz.ntmps24
 go_wp2_with (first | ((with_reducible refine at_box ?_); refine own_box (cs := [.bool s, .slice A l c0, .slice B kk d]) hO rfl rfl ?_; clear hO; intro ga wa hO; clear hf; have hf := hO.cells; simp only [BC, CC, Nat.zero_add, Nat.reduceAdd, and_true] at hf) | ((with_reducible refine at_alloc ?_); refine own_alloc hO zero_rat rfl rfl ?_; clear hO; intro g4 wb hO; clear hf; have hf := hO.cells; simp only [BC, CC, Nat.zero_add, Nat.reduceAdd, and_true] at hf))
 refine (HSG.out _ _ _ _ _ _ _ ⟨hO.wd 1 rfl, hO.wd 0 rfl⟩).mono ?_
 rintro e w2 ⟨rfl, hE1⟩
 have hO := hO.ext hE1
 clear hE1
 clear hf
 have hf := hO.cells
 simp only [BC, CC, Nat.zero_add, Nat.reduceAdd, and_true] at hf
 go_wp2_with fail
 refine (HIN.out _).mono ?_
 rintro e w3 ⟨A1, n1, c1, B1, m1, e1, rfl, hW1, hW2, hE1⟩
 have hO := ((hO.ext hE1).add hW1).add hW2
 clear hW1 hW2 hE1
 clear hf
 have hf := hO.cells
 simp only [BC, CC, Nat.zero_add, Nat.reduceAdd, and_true] at hf
 go_wp2_with ((with_reducible refine at_store (T := 37) ?_); refine st3_0 hO rfl rfl rfl rfl size_rat rfl rfl ?_; clear hO; intro w4 hO; clear hf; have hf := hO.cells; simp only [BC, CC, Nat.zero_add, Nat.reduceAdd, and_true] at hf)
 exact own_ret hO 0 rfl rfl rfl agg_rat size_rat rfl ⟨_, _, _, _, _, _, rfl, hO.wd 1 rfl, hO.wd 0 rfl, hO.toExt⟩
set_option maxHeartbeats 4000000 in
theorem step_1 (s : Bool) (A : Option Addr) (l c0 : Nat) (B : Option Addr) (kk d N D : Nat) (w : World) (h : RatAt w A l c0 B kk d N D) (b : Bool) (q : Nat)
   (HFL : Hid (∀ (A1 : Option Addr) (l1 c1 : Nat) (B1 : Option Addr) (k1 d1 : Nat) w, RatAt w A1 l1 c1 B1 k1 d1 N D → Calls Tryz.prog 51 #[.agg #[.bool s, .slice A1 l1 c1, .slice B1 k1 d1]] w (RetR b q 1 w))) :
   Calls Tryz.prog 24 #[.int .i64 1, .agg #[.bool s, .slice A l c0, .slice B kk d]] w (RetR b q 1 w) := by
 have hO := ((Own.start w).add h.1).add h.2
 have hf : True := trivial
 clear h
 go_enter Tryz.func24, Tryz.ntmps24
 go_wp2_with (first | ((with_reducible refine at_box ?_); refine own_box (cs := [.bool s, .slice A l c0, .slice B kk d]) hO rfl rfl ?_; clear hO; intro ga wa hO; clear hf; have hf := hO.cells; simp only [BC, CC, Nat.zero_add, Nat.reduceAdd, and_true] at hf) | ((with_reducible refine at_alloc ?_); refine own_alloc hO zero_rat rfl rfl ?_; clear hO; intro g4 wb hO; clear hf; have hf := hO.cells; simp only [BC, CC, Nat.zero_add, Nat.reduceAdd, and_true] at hf))
 refine (HFL.out _ _ _ _ _ _ _ ⟨hO.wd 1 rfl, hO.wd 0 rfl⟩).mono ?_
 rintro e w3 ⟨A1, n1, c1, B1, m1, e1, rfl, hW1, hW2, hE1⟩
 have hO := ((hO.ext hE1).add hW1).add hW2
 clear hW1 hW2 hE1
 clear hf
 have hf := hO.cells
 simp only [BC, CC, Nat.zero_add, Nat.reduceAdd, and_true] at hf
 go_wp2_with ((with_reducible refine at_store (T := 37) ?_); refine st3_0 hO rfl rfl rfl rfl size_rat rfl rfl ?_; clear hO; intro w4 hO; clear hf; have hf := hO.cells; simp only [BC, CC, Nat.zero_add, Nat.reduceAdd, and_true] at hf)
 exact own_ret hO 0 rfl rfl rfl agg_rat size_rat rfl ⟨_, _, _, _, _, _, rfl, hO.wd 1 rfl, hO.wd 0 rfl, hO.toExt⟩
set_option maxHeartbeats 4000000 in
theorem step_2 (s : Bool) (A : Option Addr) (l c0 : Nat) (B : Option Addr) (kk d N D : Nat) (w : World) (h : RatAt w A l c0 B kk d N D) (t b b2 : Bool) (q : Nat)
   (HN1 : Hid (∀ (A1 : Option Addr) (l1 c1 : Nat) (B1 : Option Addr) (k1 d1 : Nat) w, RatAt w A1 l1 c1 B1 k1 d1 N D → Calls Tryz.prog 21 #[.agg #[.bool s, .slice A1 l1 c1, .slice B1 k1 d1]] w (RetR t N D w)))
   (HFL : Hid (∀ (A1 : Option Addr) (l1 c1 : Nat) (B1 : Option Addr) (k1 d1 : Nat) w, RatAt w A1 l1 c1 B1 k1 d1 N D → Calls Tryz.prog 51 #[.agg #[.bool t, .slice A1 l1 c1, .slice B1 k1 d1]] w (RetR b q 1 w)))
   (HN2 : Hid (∀ (A1 : Option Addr) (l1 c1 : Nat) (B1 : Option Addr) (k1 d1 : Nat) w, RatAt w A1 l1 c1 B1 k1 d1 q 1 → Calls Tryz.prog 21 #[.agg #[.bool b, .slice A1 l1 c1, .slice B1 k1 d1]] w (RetR b2 q 1 w))) :
   Calls Tryz.prog 24 #[.int .i64 2, .agg #[.bool s, .slice A l c0, .slice B kk d]] w (RetR b2 q 1 w) := by
 have hO := ((Own.start w).add h.1).add h.2
 have hf : True := trivial
 clear h
 go_enter Tryz.func24, Tryz.ntmps24
 go_wp2_with (first | ((with_reducible refine at_box ?_); refine own_box (cs := [.bool s, .slice A l c0, .slice B kk d]) hO rfl rfl ?_; clear hO; intro ga wa hO; clear hf; have hf := hO.cells; simp only [BC, CC, Nat.zero_add, Nat.reduceAdd, and_true] at hf) | ((with_reducible refine at_alloc ?_); refine own_alloc hO zero_rat rfl rfl ?_; clear hO; intro g4 wb hO; clear hf; have hf := hO.cells; simp only [BC, CC, Nat.zero_add, Nat.reduceAdd, and_true] at hf))
 refine (HN1.out _ _ _ _ _ _ _ ⟨hO.wd 1 rfl, hO.wd 0 rfl⟩).mono ?_
 rintro e w2 ⟨A1, n1, c1, B1, m1, e1, rfl, hW1, hW2, hE1⟩
 have hO := ((hO.ext hE1).add hW1).add hW2
 clear hW1 hW2 hE1
 clear hf
 have hf := hO.cells
 simp only [BC, CC, Nat.zero_add, Nat.reduceAdd, and_true] at hf
 go_wp2_with fail
 refine (HFL.out _ _ _ _ _ _ _ ⟨hO.wd 1 rfl, hO.wd 0 rfl⟩).mono ?_
 rintro e w3 ⟨A2, n2, c2, B2, m2, e2, rfl, hW1, hW2, hE1⟩
 have hO := ((hO.ext hE1).add hW1).add hW2
 clear hW1 hW2 hE1
 clear hf
 have hf := hO.cells
 simp only [BC, CC, Nat.zero_add, Nat.reduceAdd, and_true] at hf
 go_wp2_with fail
 refine (HN2.out _ _ _ _ _ _ _ ⟨hO.wd 1 rfl, hO.wd 0 rfl⟩).mono ?_
 rintro e w4 ⟨A3, n3, c3, B3, m3, e3, rfl, hW1, hW2, hE1⟩
 have hO := ((hO.ext hE1).add hW1).add hW2
 clear hW1 hW2 hE1
 clear hf
 have hf := hO.cells
 simp only [BC, CC, Nat.zero_add, Nat.reduceAdd, and_true] at hf
 go_wp2_with ((with_reducible refine at_store (T := 37) ?_); refine st3_0 hO rfl rfl rfl rfl size_rat rfl rfl ?_; clear hO; intro w5 hO; clear hf; have hf := hO.cells; simp only [BC, CC, Nat.zero_add, Nat.reduceAdd, and_true] at hf)
 exact own_ret hO 0 rfl rfl rfl agg_rat size_rat rfl ⟨_, _, _, _, _, _, rfl, hO.wd 1 rfl, hO.wd 0 rfl, hO.toExt⟩
set_option maxHeartbeats 4000000 in
theorem step_3f (A : Option Addr) (l c0 : Nat) (B : Option Addr) (kk d N D : Nat) (w : World) (h : RatAt w A l c0 B kk d N D) (v : Int) (hv : decide (v < 0) = false) (Q : Nat)
   (HSG : Hid (∀ (A1 : Option Addr) (l1 c1 : Nat) (B1 : Option Addr) (k1 d1 : Nat) w, RatAt w A1 l1 c1 B1 k1 d1 N D → Calls Tryz.prog 17 #[.agg #[.bool false, .slice A1 l1 c1, .slice B1 k1 d1]] w (fun e w' => e = .returned (.int .i64 v) ∧ Ext w w')))
   (HFL : Hid (∀ (A1 : Option Addr) (l1 c1 : Nat) (B1 : Option Addr) (k1 d1 : Nat) w, RatAt w A1 l1 c1 B1 k1 d1 N D → Calls Tryz.prog 51 #[.agg #[.bool false, .slice A1 l1 c1, .slice B1 k1 d1]] w (RetR false Q 1 w))) :
   Calls Tryz.prog 24 #[.int .i64 3, .agg #[.bool false, .slice A l c0, .slice B kk d]] w (RetR false (Q) 1 w) := by
 have hO := ((Own.start w).add h.1).add h.2
 have hf : True := trivial
 clear h
 go_enter Tryz.func24, Tryz.ntmps24
 go_wp2_with (first | ((with_reducible refine at_box ?_); refine own_box (cs := [.bool false, .slice A l c0, .slice B kk d]) hO rfl rfl ?_; clear hO; intro ga wa hO; clear hf; have hf := hO.cells; simp only [BC, CC, Nat.zero_add, Nat.reduceAdd, and_true] at hf) | ((with_reducible refine at_alloc ?_); refine own_alloc hO zero_rat rfl rfl ?_; clear hO; intro g4 wb hO; clear hf; have hf := hO.cells; simp only [BC, CC, Nat.zero_add, Nat.reduceAdd, and_true] at hf))
 refine (HSG.out _ _ _ _ _ _ _ ⟨hO.wd 1 rfl, hO.wd 0 rfl⟩).mono ?_
 rintro e w2 ⟨rfl, hE1⟩
 have hO := hO.ext hE1
 clear hE1
 clear hf
 have hf := hO.cells
 simp only [BC, CC, Nat.zero_add, Nat.reduceAdd, and_true] at hf
 go_wp2_with (first | ((with_reducible refine at_alloc ?_); refine own_alloc hO zero_rat rfl rfl ?_; clear hO; intro g6 w3 hO; clear hf; have hf := hO.cells; simp only [BC, CC, Nat.zero_add, Nat.reduceAdd, and_true] at hf) | ((with_reducible refine at_store (T := 37) ?_); refine st3_0 hO rfl rfl rfl rfl size_rat rfl rfl ?_; clear hO; intro w4 hO; clear hf; have hf := hO.cells; simp only [BC, CC, Nat.zero_add, Nat.reduceAdd, and_true] at hf))
 refine (HFL.out _ _ _ _ _ _ _ ⟨hO.wd 1 rfl, hO.wd 0 rfl⟩).mono ?_
 rintro e w7 ⟨A2, n2, c2, B2, m2, e2, rfl, hW1, hW2, hE1⟩
 have hO := ((hO.ext hE1).add hW1).add hW2
 clear hW1 hW2 hE1
 clear hf
 have hf := hO.cells
 simp only [BC, CC, Nat.zero_add, Nat.reduceAdd, and_true] at hf
 go_wp2_with (first | ((with_reducible refine at_alloc ?_); refine own_alloc hO zero_rat rfl rfl ?_; clear hO; intro g7 w8 hO; clear hf; have hf := hO.cells; simp only [BC, CC, Nat.zero_add, Nat.reduceAdd, and_true] at hf) | ((with_reducible refine at_store (T := 37) ?_); refine st3_0 hO rfl rfl rfl rfl size_rat rfl rfl ?_; clear hO; intro w9 hO; clear hf; have hf := hO.cells; simp only [BC, CC, Nat.zero_add, Nat.reduceAdd, and_true] at hf) | ((with_reducible refine at_store (T := 37) ?_); refine st3_2 hO rfl rfl rfl rfl size_rat rfl rfl ?_; clear hO; intro wF hO; clear hf; have hf := hO.cells; simp only [BC, CC, Nat.zero_add, Nat.reduceAdd, and_true] at hf))
 exact own_ret hO 2 rfl rfl rfl agg_rat size_rat rfl ⟨_, _, _, _, _, _, rfl, hO.wd 1 rfl, hO.wd 0 rfl, hO.toExt⟩
set_option maxHeartbeats 4000000 in
theorem step_nf_up (k : Int) (A : Option Addr) (l c0 : Nat) (B : Option Addr) (kk d N D : Nat) (w : World) (h : RatAt w A l c0 B kk d N D) (v : Int) (hv : decide (v < 0) = false) (Q : Nat) (b1 : Bool) (N1 D1 : Nat) (c u : Int) (ln : Int) (hu : ((u == 1) = true ∧ decide (0 < ln) = true) ∨ (u == 1) = false) (k0 : (k == 0) = false) (k1 : (k == 1) = false) (k2 : (k == 2) = false) (k3 : (k != 3) = true) (hc : (decide (0 < c) = true ∧ (c == 0) = false) ∨ (decide (0 < c) = false ∧ (c == 0) = true ∧ (k == 5) = true) ∨ (decide (0 < c) = false ∧ (c == 0) = true ∧ (k == 5) = false ∧ (u == 1) = true))
   (HSG : Hid (∀ (A1 : Option Addr) (l1 c1 : Nat) (B1 : Option Addr) (k1 d1 : Nat) w, RatAt w A1 l1 c1 B1 k1 d1 N D → Calls Tryz.prog 17 #[.agg #[.bool false, .slice A1 l1 c1, .slice B1 k1 d1]] w (fun e w' => e = .returned (.int .i64 v) ∧ Ext w w')))
   (HFL : Hid (∀ (A1 : Option Addr) (l1 c1 : Nat) (B1 : Option Addr) (k1 d1 : Nat) w, RatAt w A1 l1 c1 B1 k1 d1 N D → Calls Tryz.prog 51 #[.agg #[.bool false, .slice A1 l1 c1, .slice B1 k1 d1]] w (RetR false Q 1 w)))
   (HSB : Hid (∀ (A1 : Option Addr) (l1 c1 : Nat) (B1 : Option Addr) (k1 d1 : Nat) (A2 : Option Addr) (l2 c2 : Nat) (B2 : Option Addr) (k2 d2 : Nat) w, RatAt w A1 l1 c1 B1 k1 d1 N D → RatAt w A2 l2 c2 B2 k2 d2 Q 1 → Calls Tryz.prog 52 #[.agg #[.bool false, .slice A1 l1 c1, .slice B1 k1 d1], .agg #[.bool false, .slice A2 l2 c2, .slice B2 k2 d2]] w (RetR b1 N1 D1 w)))
   (HFH : Hid (∀ (w : World), Calls Tryz.prog 33 #[.bool false, .slice (some ⟨w.heap.size, 0, none⟩) 1 1, .slice (some ⟨w.heap.size + 1, 0, none⟩) 1 1, .int .i64 0] ((w.alloc (.cells #[.int .u32 1] 61)).alloc (.cells #[.int .u32 2] 61)) (RetR false 1 2 ((w.alloc (.cells #[.int .u32 1] 61)).alloc (.cells #[.int .u32 2] 61)))))
   (HRC : Hid (∀ (A1 : Option Addr) (l1 c1 : Nat) (B1 : Option Addr) (k1 d1 : Nat) (A2 : Option Addr) (l2 c2 : Nat) (B2 : Option Addr) (k2 d2 : Nat) w, RatAt w A1 l1 c1 B1 k1 d1 N1 D1 → RatAt w A2 l2 c2 B2 k2 d2 1 2 → Calls Tryz.prog 20 #[.agg #[.bool b1, .slice A1 l1 c1, .slice B1 k1 d1], .agg #[.bool false, .slice A2 l2 c2, .slice B2 k2 d2]] w (fun e w' => e = .returned (.int .i64 c) ∧ Ext w w')))
   (HBT : Hid (∀ (A1 : Option Addr) (l1 c1 : Nat) w, Wds w A1 l1 c1 (nd Q) → Calls Tryz.prog 53 #[.slice A1 l1 c1, .int .i64 0] w (fun e w' => e = .returned (.int .u32 u) ∧ w = w')))
   (HLN : Hid (∀ (A1 : Option Addr) (l1 c1 : Nat) w, Wds w A1 l1 c1 (nd Q) → Calls Tryz.prog 54 #[.slice A1 l1 c1] w (fun e w' => e = .returned (.int .i64 ln) ∧ w = w')))
   (HI1 : Hid (∀ w, Calls Tryz.prog 19 #[.int .i64 1] w (RetR false 1 1 w)))
   (HAD : Hid (∀ (A1 : Option Addr) (l1 c1 : Nat) (B1 : Option Addr) (k1 d1 : Nat) (A2 : Option Addr) (l2 c2 : Nat) (B2 : Option Addr) (k2 d2 : Nat) w, RatAt w A1 l1 c1 B1 k1 d1 Q 1 → RatAt w A2 l2 c2 B2 k2 d2 1 1 → Calls Tryz.prog 55 #[.agg #[.bool false, .slice A1 l1 c1, .slice B1 k1 d1], .agg #[.bool false, .slice A2 l2 c2, .slice B2 k2 d2]] w (RetR false (Q + 1) 1 w))) :
   Calls Tryz.prog 24 #[.int .i64 k, .agg #[.bool false, .slice A l c0, .slice B kk d]] w (RetR false (Q + 1) 1 w) := by
 have hO := ((Own.start w).add h.1).add h.2
 have hf : True := trivial
 clear h
 rcases hc with ⟨g1, g2⟩ | ⟨g1, g2, g3⟩ | ⟨g1, g2, g3, g4⟩ <;> rcases hu with ⟨u1, u2⟩ | u1
 case inr.inr.inr => rw [u1] at g4; cases g4
 all_goals
   as_aux_lemma =>
     go_enter Tryz.func24, Tryz.ntmps24
     go_wp2_with (first | ((with_reducible refine at_box ?_); refine own_box (cs := [.bool false, .slice A l c0, .slice B kk d]) hO rfl rfl ?_; clear hO; intro ga wa hO; clear hf; have hf := hO.cells; simp only [BC, CC, Nat.zero_add, Nat.reduceAdd, and_true] at hf) | ((with_reducible refine at_alloc ?_); refine own_alloc hO zero_rat rfl rfl ?_; clear hO; intro g4 wb hO; clear hf; have hf := hO.cells; simp only [BC, CC, Nat.zero_add, Nat.reduceAdd, and_true] at hf))
     refine (HSG.out _ _ _ _ _ _ _ ⟨hO.wd 1 rfl, hO.wd 0 rfl⟩).mono ?_
     rintro e w2 ⟨rfl, hE1⟩
     have hO := hO.ext hE1
     clear hE1
     clear hf
     have hf := hO.cells
     simp only [BC, CC, Nat.zero_add, Nat.reduceAdd, and_true] at hf
     go_wp2_with (first | ((with_reducible refine at_alloc ?_); refine own_alloc hO zero_rat rfl rfl ?_; clear hO; intro g6 w3 hO; clear hf; have hf := hO.cells; simp only [BC, CC, Nat.zero_add, Nat.reduceAdd, and_true] at hf) | ((with_reducible refine at_store (T := 37) ?_); refine st3_0 hO rfl rfl rfl rfl size_rat rfl rfl ?_; clear hO; intro w4 hO; clear hf; have hf := hO.cells; simp only [BC, CC, Nat.zero_add, Nat.reduceAdd, and_true] at hf))
     refine (HFL.out _ _ _ _ _ _ _ ⟨hO.wd 1 rfl, hO.wd 0 rfl⟩).mono ?_
     rintro e w7 ⟨A2, n2, c2, B2, m2, e2, rfl, hW1, hW2, hE1⟩
     have hO := ((hO.ext hE1).add hW1).add hW2
     clear hW1 hW2 hE1
     clear hf
     have hf := hO.cells
     simp only [BC, CC, Nat.zero_add, Nat.reduceAdd, and_true] at hf
     go_wp2_with (first | ((with_reducible refine at_alloc ?_); refine own_alloc hO zero_rat rfl rfl ?_; clear hO; intro g7 w8 hO; clear hf; have hf := hO.cells; simp only [BC, CC, Nat.zero_add, Nat.reduceAdd, and_true] at hf) | ((with_reducible refine at_store (T := 37) ?_); refine st3_0 hO rfl rfl rfl rfl size_rat rfl rfl ?_; clear hO; intro w9 hO; clear hf; have hf := hO.cells; simp only [BC, CC, Nat.zero_add, Nat.reduceAdd, and_true] at hf))
     refine (HSB.out _ _ _ _ _ _ _ _ _ _ _ _ _ ⟨hO.wd 3 rfl, hO.wd 2 rfl⟩ ⟨hO.wd 1 rfl, hO.wd 0 rfl⟩).mono ?_
     rintro e wA ⟨A3, n3, c3, B3, m3, e3, rfl, hW1, hW2, hE1⟩
     have hO := ((hO.ext hE1).add hW1).add hW2
     clear hW1 hW2 hE1
     clear hf
     have hf := hO.cells
     simp only [BC, CC, Nat.zero_add, Nat.reduceAdd, and_true] at hf
     have HP2 := Lib.hid (HFH.out wA)
     have HO1 := Lib.hid ((hO.ext ((Ext.refl wA).alloc (.cells #[.int .u32 1] 61))).ext ((Ext.refl (wA.alloc (.cells #[.int .u32 1] 61))).alloc (.cells #[.int .u32 2] 61)))
     clear hO hf
     go_wp2_with fail
     refine HP2.out.mono ?_
     rintro e wB ⟨A4, n4, c4, B4, m4, e4, rfl, hW1, hW2, hE1⟩
     have hO := ((HO1.out.ext hE1).add hW1).add hW2
     clear hW1 hW2 hE1 HO1 HP2
     have hf := hO.cells
     simp only [BC, CC, Nat.zero_add, Nat.reduceAdd, and_true] at hf
     go_wp2_with fail
     refine (HRC.out _ _ _ _ _ _ _ _ _ _ _ _ _ ⟨hO.wd 3 rfl, hO.wd 2 rfl⟩ ⟨hO.wd 1 rfl, hO.wd 0 rfl⟩).mono ?_
     rintro e wC ⟨rfl, hE1⟩
     have hO := hO.ext hE1
     clear hE1
     clear hf
     have hf := hO.cells
     simp only [BC, CC, Nat.zero_add, Nat.reduceAdd, and_true] at hf
     go_wp2_with fail
     refine (HBT.out _ _ _ _ (hO.wd 5 rfl)).mono ?_
     rintro e w' ⟨rfl, rfl⟩
     go_wp2_with (go_at_call 54; refine (HLN.out _ _ _ _ (hO.wd 5 rfl)).mono ?_; rintro e w' ⟨rfl, rfl⟩)
     obtain ⟨S, hS⟩ : ∃ S : World → Prop, S = Own w [⟨g7, 37, [.bool false, .slice A2 n2 c2, .slice B2 m2 e2]⟩, ⟨g6, 37, [.bool false, .slice A l c0, .slice B kk d]⟩, ⟨g4, 37, [.bool false, .slice none 0 0, .slice none 0 0]⟩, ⟨ga, 37, [.bool false, .slice A l c0, .slice B kk d]⟩] [⟨B4, m4, e4, nd 2⟩, ⟨A4, n4, c4, nd 1⟩, ⟨B3, m3, e3, nd D1⟩, ⟨A3, n3, c3, nd N1⟩, ⟨B2, m2, e2, nd 1⟩, ⟨A2, n2, c2, nd Q⟩, ⟨B, kk, d, nd D⟩, ⟨A, l, c0, nd N⟩] := ⟨_, rfl⟩
     have hSE : ∀ w w', S w → Ext w w' → S w' := fun w w' h1 h2 => by rw [hS] at h1 ⊢; exact h1.ext h2
     have hS1 : S wC.drew := by rw [hS]; exact hO.ext (Ext.refl wC).drew
     have HS := Lib.hid hS
     clear hS hO hf
     obtain ⟨sp, hsp⟩ : ∃ sp : Nat → Sp, sp = ofList [det (.agg #[.bool false, .slice A2 n2 c2, .slice B2 m2 e2]),
       anyOf (fun v wz => ∃ A1 n1 c1 A2 n2 c2, v = .agg #[.bool false, .slice A1 n1 c1, .slice A2 n2 c2] ∧ RatAt wz A1 n1 c1 A2 n2 c2 1 1), anyOf (fun v wz => ∃ A1 n1 c1 A2 n2 c2, v = .agg #[.bool false, .slice A1 n1 c1, .slice A2 n2 c2] ∧ RatAt wz A1 n1 c1 A2 n2 c2 (Q + 1) 1)] := ⟨_, rfl⟩
     have HSP := Lib.hid hsp
     clear hsp
     refine wp_region_loose 3 S sp (by kernel_rfl) (by kernel_rfl) hS1 hSE ?_
     simp only [List.take_succ_cons, List.take_zero, List.drop_succ_cons, List.drop_zero]
     refine wpX_step (fun K hK => ?_)
     go_simp
     refine StepY.det (by rw [HSP.out]; rfl) ?_ ?_
     · intro wz hz hF
       rw [HS.out] at hz
       have hf := hz.cells
       simp only [BC, CC, Nat.zero_add, Nat.reduceAdd, and_true] at hf
       clear hz hF
       go_simp
       exact ⟨rfl, Ext.refl _⟩
     refine hK _ _ ?_
     clear hK K
     refine wpX_step (fun K hK => ?_)
     go_simp
     refine StepY.any (by rw [HSP.out]; rfl) ?_ ?_
     · intro wz hz hF
       clear hz hF
       go_simp
       refine (HI1.out _).mono ?_
       rintro e w2 ⟨A3, n3, c3, A4, n4, c4, rfl, hW1, hW2, hE1⟩
       exact ⟨_, rfl, ⟨A3, n3, c3, A4, n4, c4, rfl, hW1, hW2⟩, hE1⟩
     intro v1
     refine hK _ _ ?_
     clear hK K
     refine wpX_step (fun K hK => ?_)
     go_simp
     refine StepY.any (by rw [HSP.out]; rfl) ?_ ?_
     · intro wz hz hF
       obtain ⟨wa', ea, A5, n5, c5, A6, n6, c6, hv1, hw1⟩ := hF.any 1 (by kernel_rfl) (by rw [HSP.out]; rfl)
       clear hF
       rw [HS.out] at hz
       have hR : RatAt wz A2 n2 c2 B2 m2 e2 Q 1 := ⟨hz.wd 5 rfl, hz.wd 4 rfl⟩
       clear hz
       simp only [asFun, List.nil_append, List.cons_append, List.getD_cons_succ, List.getD_cons_zero] at hv1
       subst hv1
       go_simp
       refine (HAD.out _ _ _ _ _ _ _ _ _ _ _ _ _ hR (hw1.ext ea)).mono ?_
       rintro e w2 ⟨A3, n3, c3, A4, n4, c4, rfl, hW1, hW2, hE1⟩
       exact ⟨_, rfl, ⟨A3, n3, c3, A4, n4, c4, rfl, hW1, hW2⟩, hE1⟩
     intro v2
     refine hK _ _ ?_
     clear hK K
     refine wpX_nil ?_
     intro wD hz hF
     obtain ⟨wa', ea, A5, n5, c5, B5, m5, e5, hv1, hw1⟩ := fact_any (hF 2 (by omega)) (by rw [HSP.out]; rfl)
     clear hF
     rw [HS.out] at hz
     simp only [asFun, List.nil_append, List.cons_append, List.getD_cons_succ, List.getD_cons_zero] at hv1
     subst hv1
     have hO := (hz.add (hw1.1.ext ea)).add (hw1.2.ext ea)
     clear hz hw1
     have hf := hO.cells
     simp only [BC, CC, Nat.zero_add, Nat.reduceAdd, and_true] at hf
     go_wp2_with (first | ((with_reducible refine at_store (T := 37) ?_); refine st3_0 hO rfl rfl rfl rfl size_rat rfl rfl ?_; clear hO; intro wE hO; clear hf; have hf := hO.cells; simp only [BC, CC, Nat.zero_add, Nat.reduceAdd, and_true] at hf) | ((with_reducible refine at_store (T := 37) ?_); refine st3_2 hO rfl rfl rfl rfl size_rat rfl rfl ?_; clear hO; intro wF hO; clear hf; have hf := hO.cells; simp only [BC, CC, Nat.zero_add, Nat.reduceAdd, and_true] at hf))
     exact own_ret hO 2 rfl rfl rfl agg_rat size_rat rfl ⟨_, _, _, _, _, _, rfl, hO.wd 1 rfl, hO.wd 0 rfl, hO.toExt⟩
set_option maxHeartbeats 4000000 in
theorem step_nf_dn (k : Int) (A : Option Addr) (l c0 : Nat) (B : Option Addr) (kk d N D : Nat) (w : World) (h : RatAt w A l c0 B kk d N D) (v : Int) (hv : decide (v < 0) = false) (Q : Nat) (b1 : Bool) (N1 D1 : Nat) (c u : Int) (ln : Int) (hu : ((u == 1) = true ∧ decide (0 < ln) = true) ∨ (u == 1) = false) (k0 : (k == 0) = false) (k1 : (k == 1) = false) (k2 : (k == 2) = false) (k3 : (k != 3) = true) (hc : (decide (0 < c) = false ∧ (c == 0) = false) ∨ (decide (0 < c) = false ∧ (c == 0) = true ∧ (k == 5) = false ∧ (u == 1) = false))
   (HSG : Hid (∀ (A1 : Option Addr) (l1 c1 : Nat) (B1 : Option Addr) (k1 d1 : Nat) w, RatAt w A1 l1 c1 B1 k1 d1 N D → Calls Tryz.prog 17 #[.agg #[.bool false, .slice A1 l1 c1, .slice B1 k1 d1]] w (fun e w' => e = .returned (.int .i64 v) ∧ Ext w w')))
   (HFL : Hid (∀ (A1 : Option Addr) (l1 c1 : Nat) (B1 : Option Addr) (k1 d1 : Nat) w, RatAt w A1 l1 c1 B1 k1 d1 N D → Calls Tryz.prog 51 #[.agg #[.bool false, .slice A1 l1 c1, .slice B1 k1 d1]] w (RetR false Q 1 w)))
   (HSB : Hid (∀ (A1 : Option Addr) (l1 c1 : Nat) (B1 : Option Addr) (k1 d1 : Nat) (A2 : Option Addr) (l2 c2 : Nat) (B2 : Option Addr) (k2 d2 : Nat) w, RatAt w A1 l1 c1 B1 k1 d1 N D → RatAt w A2 l2 c2 B2 k2 d2 Q 1 → Calls Tryz.prog 52 #[.agg #[.bool false, .slice A1 l1 c1, .slice B1 k1 d1], .agg #[.bool false, .slice A2 l2 c2, .slice B2 k2 d2]] w (RetR b1 N1 D1 w)))
   (HFH : Hid (∀ (w : World), Calls Tryz.prog 33 #[.bool false, .slice (some ⟨w.heap.size, 0, none⟩) 1 1, .slice (some ⟨w.heap.size + 1, 0, none⟩) 1 1, .int .i64 0] ((w.alloc (.cells #[.int .u32 1] 61)).alloc (.cells #[.int .u32 2] 61)) (RetR false 1 2 ((w.alloc (.cells #[.int .u32 1] 61)).alloc (.cells #[.int .u32 2] 61)))))
   (HRC : Hid (∀ (A1 : Option Addr) (l1 c1 : Nat) (B1 : Option Addr) (k1 d1 : Nat) (A2 : Option Addr) (l2 c2 : Nat) (B2 : Option Addr) (k2 d2 : Nat) w, RatAt w A1 l1 c1 B1 k1 d1 N1 D1 → RatAt w A2 l2 c2 B2 k2 d2 1 2 → Calls Tryz.prog 20 #[.agg #[.bool b1, .slice A1 l1 c1, .slice B1 k1 d1], .agg #[.bool false, .slice A2 l2 c2, .slice B2 k2 d2]] w (fun e w' => e = .returned (.int .i64 c) ∧ Ext w w')))
   (HBT : Hid (∀ (A1 : Option Addr) (l1 c1 : Nat) w, Wds w A1 l1 c1 (nd Q) → Calls Tryz.prog 53 #[.slice A1 l1 c1, .int .i64 0] w (fun e w' => e = .returned (.int .u32 u) ∧ w = w')))
   (HLN : Hid (∀ (A1 : Option Addr) (l1 c1 : Nat) w, Wds w A1 l1 c1 (nd Q) → Calls Tryz.prog 54 #[.slice A1 l1 c1] w (fun e w' => e = .returned (.int .i64 ln) ∧ w = w'))) :
   Calls Tryz.prog 24 #[.int .i64 k, .agg #[.bool false, .slice A l c0, .slice B kk d]] w (RetR false Q 1 w) := by
 have hO := ((Own.start w).add h.1).add h.2
 have hf : True := trivial
 clear h
 rcases hc with ⟨g1, g2⟩ | ⟨g1, g2, g3, g4⟩ <;> rcases hu with ⟨u1, u2⟩ | u1
 case inr.inl => rw [u1] at g4; cases g4
 all_goals
   as_aux_lemma =>
     go_enter Tryz.func24, Tryz.ntmps24
     go_wp2_with (first | ((with_reducible refine at_box ?_); refine own_box (cs := [.bool false, .slice A l c0, .slice B kk d]) hO rfl rfl ?_; clear hO; intro ga wa hO; clear hf; have hf := hO.cells; simp only [BC, CC, Nat.zero_add, Nat.reduceAdd, and_true] at hf) | ((with_reducible refine at_alloc ?_); refine own_alloc hO zero_rat rfl rfl ?_; clear hO; intro g4 wb hO; clear hf; have hf := hO.cells; simp only [BC, CC, Nat.zero_add, Nat.reduceAdd, and_true] at hf))
     refine (HSG.out _ _ _ _ _ _ _ ⟨hO.wd 1 rfl, hO.wd 0 rfl⟩).mono ?_
     rintro e w2 ⟨rfl, hE1⟩
     have hO := hO.ext hE1
     clear hE1
     clear hf
     have hf := hO.cells
     simp only [BC, CC, Nat.zero_add, Nat.reduceAdd, and_true] at hf
     go_wp2_with (first | ((with_reducible refine at_alloc ?_); refine own_alloc hO zero_rat rfl rfl ?_; clear hO; intro g6 w3 hO; clear hf; have hf := hO.cells; simp only [BC, CC, Nat.zero_add, Nat.reduceAdd, and_true] at hf) | ((with_reducible refine at_store (T := 37) ?_); refine st3_0 hO rfl rfl rfl rfl size_rat rfl rfl ?_; clear hO; intro w4 hO; clear hf; have hf := hO.cells; simp only [BC, CC, Nat.zero_add, Nat.reduceAdd, and_true] at hf))
     refine (HFL.out _ _ _ _ _ _ _ ⟨hO.wd 1 rfl, hO.wd 0 rfl⟩).mono ?_
     rintro e w7 ⟨A2, n2, c2, B2, m2, e2, rfl, hW1, hW2, hE1⟩
     have hO := ((hO.ext hE1).add hW1).add hW2
     clear hW1 hW2 hE1
     clear hf
     have hf := hO.cells
     simp only [BC, CC, Nat.zero_add, Nat.reduceAdd, and_true] at hf
     go_wp2_with (first | ((with_reducible refine at_alloc ?_); refine own_alloc hO zero_rat rfl rfl ?_; clear hO; intro g7 w8 hO; clear hf; have hf := hO.cells; simp only [BC, CC, Nat.zero_add, Nat.reduceAdd, and_true] at hf) | ((with_reducible refine at_store (T := 37) ?_); refine st3_0 hO rfl rfl rfl rfl size_rat rfl rfl ?_; clear hO; intro w9 hO; clear hf; have hf := hO.cells; simp only [BC, CC, Nat.zero_add, Nat.reduceAdd, and_true] at hf))
     refine (HSB.out _ _ _ _ _ _ _ _ _ _ _ _ _ ⟨hO.wd 3 rfl, hO.wd 2 rfl⟩ ⟨hO.wd 1 rfl, hO.wd 0 rfl⟩).mono ?_
     rintro e wA ⟨A3, n3, c3, B3, m3, e3, rfl, hW1, hW2, hE1⟩
     have hO := ((hO.ext hE1).add hW1).add hW2
     clear hW1 hW2 hE1
     clear hf
     have hf := hO.cells
     simp only [BC, CC, Nat.zero_add, Nat.reduceAdd, and_true] at hf
     have HP2 := Lib.hid (HFH.out wA)
     have HO1 := Lib.hid ((hO.ext ((Ext.refl wA).alloc (.cells #[.int .u32 1] 61))).ext ((Ext.refl (wA.alloc (.cells #[.int .u32 1] 61))).alloc (.cells #[.int .u32 2] 61)))
     clear hO hf
     go_wp2_with fail
     refine HP2.out.mono ?_
     rintro e wB ⟨A4, n4, c4, B4, m4, e4, rfl, hW1, hW2, hE1⟩
     have hO := ((HO1.out.ext hE1).add hW1).add hW2
     clear hW1 hW2 hE1 HO1 HP2
     have hf := hO.cells
     simp only [BC, CC, Nat.zero_add, Nat.reduceAdd, and_true] at hf
     go_wp2_with fail
     refine (HRC.out _ _ _ _ _ _ _ _ _ _ _ _ _ ⟨hO.wd 3 rfl, hO.wd 2 rfl⟩ ⟨hO.wd 1 rfl, hO.wd 0 rfl⟩).mono ?_
     rintro e wC ⟨rfl, hE1⟩
     have hO := hO.ext hE1
     clear hE1
     clear hf
     have hf := hO.cells
     simp only [BC, CC, Nat.zero_add, Nat.reduceAdd, and_true] at hf
     go_wp2_with fail
     refine (HBT.out _ _ _ _ (hO.wd 5 rfl)).mono ?_
     rintro e w' ⟨rfl, rfl⟩
     go_wp2_with (first | (go_at_call 54; refine (HLN.out _ _ _ _ (hO.wd 5 rfl)).mono ?_; rintro e w' ⟨rfl, rfl⟩) | ((with_reducible refine at_store (T := 37) ?_); refine st3_2 hO rfl rfl rfl rfl size_rat rfl rfl ?_; clear hO; intro wF hO; clear hf; have hf := hO.cells; simp only [BC, CC, Nat.zero_add, Nat.reduceAdd, and_true] at hf))
     exact own_ret hO 2 rfl rfl rfl agg_rat size_rat rfl ⟨_, _, _, _, _, _, rfl, hO.wd 5 rfl, hO.wd 4 rfl, hO.toExt⟩
set_option maxHeartbeats 4000000 in
theorem step_3t (A : Option Addr) (l c0 : Nat) (B : Option Addr) (kk d N D : Nat) (w : World) (h : RatAt w A l c0 B kk d N D) (v : Int) (hv : decide (v < 0) = true) (Q : Nat) (bf : Bool)
   (HSG : Hid (∀ (A1 : Option Addr) (l1 c1 : Nat) (B1 : Option Addr) (k1 d1 : Nat) w, RatAt w A1 l1 c1 B1 k1 d1 N D → Calls Tryz.prog 17 #[.agg #[.bool true, .slice A1 l1 c1, .slice B1 k1 d1]] w (fun e w' => e = .returned (.int .i64 v) ∧ Ext w w')))
   (HNG : Hid (∀ (A1 : Option Addr) (l1 c1 : Nat) (B1 : Option Addr) (k1 d1 : Nat) w, RatAt w A1 l1 c1 B1 k1 d1 N D → Calls Tryz.prog 21 #[.agg #[.bool true, .slice A1 l1 c1, .slice B1 k1 d1]] w (RetR false N D w)))
   (HFL : Hid (∀ (A1 : Option Addr) (l1 c1 : Nat) (B1 : Option Addr) (k1 d1 : Nat) w, RatAt w A1 l1 c1 B1 k1 d1 N D → Calls Tryz.prog 51 #[.agg #[.bool false, .slice A1 l1 c1, .slice B1 k1 d1]] w (RetR false Q 1 w)))
   (HNF : Hid (∀ (A1 : Option Addr) (l1 c1 : Nat) (B1 : Option Addr) (k1 d1 : Nat) w, RatAt w A1 l1 c1 B1 k1 d1 Q 1 → Calls Tryz.prog 21 #[.agg #[.bool false, .slice A1 l1 c1, .slice B1 k1 d1]] w (RetR bf Q 1 w))) :
   Calls Tryz.prog 24 #[.int .i64 3, .agg #[.bool true, .slice A l c0, .slice B kk d]] w (RetR bf Q 1 w) := by
 have hO := ((Own.start w).add h.1).add h.2
 have hf : True := trivial
 clear h
 go_enter Tryz.func24, Tryz.ntmps24
 go_wp2_with (first | ((with_reducible refine at_box ?_); refine own_box (cs := [.bool true, .slice A l c0, .slice B kk d]) hO rfl rfl ?_; clear hO; intro ga wa hO; clear hf; have hf := hO.cells; simp only [BC, CC, Nat.zero_add, Nat.reduceAdd, and_true] at hf) | ((with_reducible refine at_alloc ?_); refine own_alloc hO zero_rat rfl rfl ?_; clear hO; intro g4 wb hO; clear hf; have hf := hO.cells; simp only [BC, CC, Nat.zero_add, Nat.reduceAdd, and_true] at hf))
 refine (HSG.out _ _ _ _ _ _ _ ⟨hO.wd 1 rfl, hO.wd 0 rfl⟩).mono ?_
 rintro e w2 ⟨rfl, hE1⟩
 have hO := hO.ext hE1
 clear hE1
 clear hf
 have hf := hO.cells
 simp only [BC, CC, Nat.zero_add, Nat.reduceAdd, and_true] at hf
 go_wp2_with (first | ((with_reducible refine at_alloc ?_); refine own_alloc hO zero_rat rfl rfl ?_; clear hO; intro g6 w3 hO; clear hf; have hf := hO.cells; simp only [BC, CC, Nat.zero_add, Nat.reduceAdd, and_true] at hf) | ((with_reducible refine at_store (T := 37) ?_); refine st3_0 hO rfl rfl rfl rfl size_rat rfl rfl ?_; clear hO; intro w4 hO; clear hf; have hf := hO.cells; simp only [BC, CC, Nat.zero_add, Nat.reduceAdd, and_true] at hf))
 refine (HNG.out _ _ _ _ _ _ _ ⟨hO.wd 1 rfl, hO.wd 0 rfl⟩).mono ?_
 rintro e w5 ⟨A1, n1, c1, B1, m1, e1, rfl, hW1, hW2, hE1⟩
 have hO := ((hO.ext hE1).add hW1).add hW2
 clear hW1 hW2 hE1
 clear hf
 have hf := hO.cells
 simp only [BC, CC, Nat.zero_add, Nat.reduceAdd, and_true] at hf
 go_wp2_with ((with_reducible refine at_store (T := 37) ?_); refine st3_0 hO rfl rfl rfl rfl size_rat rfl rfl ?_; clear hO; intro w6 hO; clear hf; have hf := hO.cells; simp only [BC, CC, Nat.zero_add, Nat.reduceAdd, and_true] at hf)
 refine (HFL.out _ _ _ _ _ _ _ ⟨hO.wd 1 rfl, hO.wd 0 rfl⟩).mono ?_
 rintro e w7 ⟨A2, n2, c2, B2, m2, e2, rfl, hW1, hW2, hE1⟩
 have hO := ((hO.ext hE1).add hW1).add hW2
 clear hW1 hW2 hE1
 clear hf
 have hf := hO.cells
 simp only [BC, CC, Nat.zero_add, Nat.reduceAdd, and_true] at hf
 go_wp2_with (first | ((with_reducible refine at_alloc ?_); refine own_alloc hO zero_rat rfl rfl ?_; clear hO; intro g7 w8 hO; clear hf; have hf := hO.cells; simp only [BC, CC, Nat.zero_add, Nat.reduceAdd, and_true] at hf) | ((with_reducible refine at_store (T := 37) ?_); refine st3_0 hO rfl rfl rfl rfl size_rat rfl rfl ?_; clear hO; intro w9 hO; clear hf; have hf := hO.cells; simp only [BC, CC, Nat.zero_add, Nat.reduceAdd, and_true] at hf))
 refine (HNF.out _ _ _ _ _ _ _ ⟨hO.wd 1 rfl, hO.wd 0 rfl⟩).mono ?_
 rintro e wG ⟨A6, n6, c6, B6, m6, e6, rfl, hW1, hW2, hE1⟩
 have hO := ((hO.ext hE1).add hW1).add hW2
 clear hW1 hW2 hE1
 clear hf
 have hf := hO.cells
 simp only [BC, CC, Nat.zero_add, Nat.reduceAdd, and_true] at hf
 go_wp2_with ((with_reducible refine at_store (T := 37) ?_); refine st3_2 hO rfl rfl rfl rfl size_rat rfl rfl ?_; clear hO; intro wH hO; clear hf; have hf := hO.cells; simp only [BC, CC, Nat.zero_add, Nat.reduceAdd, and_true] at hf)
 exact own_ret hO 2 rfl rfl rfl agg_rat size_rat rfl ⟨_, _, _, _, _, _, rfl, hO.wd 1 rfl, hO.wd 0 rfl, hO.toExt⟩
set_option maxHeartbeats 4000000 in
theorem step_nt_up (k : Int) (A : Option Addr) (l c0 : Nat) (B : Option Addr) (kk d N D : Nat) (w : World) (h : RatAt w A l c0 B kk d N D) (v : Int) (hv : decide (v < 0) = true) (Q : Nat) (b1 : Bool) (N1 D1 : Nat) (c u : Int) (ln : Int) (hu : ((u == 1) = true ∧ decide (0 < ln) = true) ∨ (u == 1) = false) (k0 : (k == 0) = false) (k1 : (k == 1) = false) (k2 : (k == 2) = false) (k3 : (k != 3) = true) (hc : (decide (0 < c) = true ∧ (c == 0) = false) ∨ (decide (0 < c) = false ∧ (c == 0) = true ∧ (k == 5) = true) ∨ (decide (0 < c) = false ∧ (c == 0) = true ∧ (k == 5) = false ∧ (u == 1) = true)) (bf : Bool)
   (HSG : Hid (∀ (A1 : Option Addr) (l1 c1 : Nat) (B1 : Option Addr) (k1 d1 : Nat) w, RatAt w A1 l1 c1 B1 k1 d1 N D → Calls Tryz.prog 17 #[.agg #[.bool true, .slice A1 l1 c1, .slice B1 k1 d1]] w (fun e w' => e = .returned (.int .i64 v) ∧ Ext w w')))
   (HNG : Hid (∀ (A1 : Option Addr) (l1 c1 : Nat) (B1 : Option Addr) (k1 d1 : Nat) w, RatAt w A1 l1 c1 B1 k1 d1 N D → Calls Tryz.prog 21 #[.agg #[.bool true, .slice A1 l1 c1, .slice B1 k1 d1]] w (RetR false N D w)))
   (HFL : Hid (∀ (A1 : Option Addr) (l1 c1 : Nat) (B1 : Option Addr) (k1 d1 : Nat) w, RatAt w A1 l1 c1 B1 k1 d1 N D → Calls Tryz.prog 51 #[.agg #[.bool false, .slice A1 l1 c1, .slice B1 k1 d1]] w (RetR false Q 1 w)))
   (HSB : Hid (∀ (A1 : Option Addr) (l1 c1 : Nat) (B1 : Option Addr) (k1 d1 : Nat) (A2 : Option Addr) (l2 c2 : Nat) (B2 : Option Addr) (k2 d2 : Nat) w, RatAt w A1 l1 c1 B1 k1 d1 N D → RatAt w A2 l2 c2 B2 k2 d2 Q 1 → Calls Tryz.prog 52 #[.agg #[.bool false, .slice A1 l1 c1, .slice B1 k1 d1], .agg #[.bool false, .slice A2 l2 c2, .slice B2 k2 d2]] w (RetR b1 N1 D1 w)))
   (HFH : Hid (∀ (w : World), Calls Tryz.prog 33 #[.bool false, .slice (some ⟨w.heap.size, 0, none⟩) 1 1, .slice (some ⟨w.heap.size + 1, 0, none⟩) 1 1, .int .i64 0] ((w.alloc (.cells #[.int .u32 1] 61)).alloc (.cells #[.int .u32 2] 61)) (RetR false 1 2 ((w.alloc (.cells #[.int .u32 1] 61)).alloc (.cells #[.int .u32 2] 61)))))
   (HRC : Hid (∀ (A1 : Option Addr) (l1 c1 : Nat) (B1 : Option Addr) (k1 d1 : Nat) (A2 : Option Addr) (l2 c2 : Nat) (B2 : Option Addr) (k2 d2 : Nat) w, RatAt w A1 l1 c1 B1 k1 d1 N1 D1 → RatAt w A2 l2 c2 B2 k2 d2 1 2 → Calls Tryz.prog 20 #[.agg #[.bool b1, .slice A1 l1 c1, .slice B1 k1 d1], .agg #[.bool false, .slice A2 l2 c2, .slice B2 k2 d2]] w (fun e w' => e = .returned (.int .i64 c) ∧ Ext w w')))
   (HBT : Hid (∀ (A1 : Option Addr) (l1 c1 : Nat) w, Wds w A1 l1 c1 (nd Q) → Calls Tryz.prog 53 #[.slice A1 l1 c1, .int .i64 0] w (fun e w' => e = .returned (.int .u32 u) ∧ w = w')))
   (HLN : Hid (∀ (A1 : Option Addr) (l1 c1 : Nat) w, Wds w A1 l1 c1 (nd Q) → Calls Tryz.prog 54 #[.slice A1 l1 c1] w (fun e w' => e = .returned (.int .i64 ln) ∧ w = w')))
   (HI1 : Hid (∀ w, Calls Tryz.prog 19 #[.int .i64 1] w (RetR false 1 1 w)))
   (HAD : Hid (∀ (A1 : Option Addr) (l1 c1 : Nat) (B1 : Option Addr) (k1 d1 : Nat) (A2 : Option Addr) (l2 c2 : Nat) (B2 : Option Addr) (k2 d2 : Nat) w, RatAt w A1 l1 c1 B1 k1 d1 Q 1 → RatAt w A2 l2 c2 B2 k2 d2 1 1 → Calls Tryz.prog 55 #[.agg #[.bool false, .slice A1 l1 c1, .slice B1 k1 d1], .agg #[.bool false, .slice A2 l2 c2, .slice B2 k2 d2]] w (RetR false (Q + 1) 1 w)))
   (HNF : Hid (∀ (A1 : Option Addr) (l1 c1 : Nat) (B1 : Option Addr) (k1 d1 : Nat) w, RatAt w A1 l1 c1 B1 k1 d1 (Q + 1) 1 → Calls Tryz.prog 21 #[.agg #[.bool false, .slice A1 l1 c1, .slice B1 k1 d1]] w (RetR bf (Q + 1) 1 w))) :
   Calls Tryz.prog 24 #[.int .i64 k, .agg #[.bool true, .slice A l c0, .slice B kk d]] w (RetR bf (Q + 1) 1 w) := by
 have hO := ((Own.start w).add h.1).add h.2
 have hf : True := trivial
 clear h
 rcases hc with ⟨g1, g2⟩ | ⟨g1, g2, g3⟩ | ⟨g1, g2, g3, g4⟩ <;> rcases hu with ⟨u1, u2⟩ | u1
 case inr.inr.inr => rw [u1] at g4; cases g4
 all_goals
   as_aux_lemma =>
     go_enter Tryz.func24, Tryz.ntmps24
     go_wp2_with (first | ((with_reducible refine at_box ?_); refine own_box (cs := [.bool true, .slice A l c0, .slice B kk d]) hO rfl rfl ?_; clear hO; intro ga wa hO; clear hf; have hf := hO.cells; simp only [BC, CC, Nat.zero_add, Nat.reduceAdd, and_true] at hf) | ((with_reducible refine at_alloc ?_); refine own_alloc hO zero_rat rfl rfl ?_; clear hO; intro g4 wb hO; clear hf; have hf := hO.cells; simp only [BC, CC, Nat.zero_add, Nat.reduceAdd, and_true] at hf))
     refine (HSG.out _ _ _ _ _ _ _ ⟨hO.wd 1 rfl, hO.wd 0 rfl⟩).mono ?_
     rintro e w2 ⟨rfl, hE1⟩
     have hO := hO.ext hE1
     clear hE1
     clear hf
     have hf := hO.cells
     simp only [BC, CC, Nat.zero_add, Nat.reduceAdd, and_true] at hf
     go_wp2_with (first | ((with_reducible refine at_alloc ?_); refine own_alloc hO zero_rat rfl rfl ?_; clear hO; intro g6 w3 hO; clear hf; have hf := hO.cells; simp only [BC, CC, Nat.zero_add, Nat.reduceAdd, and_true] at hf) | ((with_reducible refine at_store (T := 37) ?_); refine st3_0 hO rfl rfl rfl rfl size_rat rfl rfl ?_; clear hO; intro w4 hO; clear hf; have hf := hO.cells; simp only [BC, CC, Nat.zero_add, Nat.reduceAdd, and_true] at hf))
     refine (HNG.out _ _ _ _ _ _ _ ⟨hO.wd 1 rfl, hO.wd 0 rfl⟩).mono ?_
     rintro e w5 ⟨A1, n1, c1, B1, m1, e1, rfl, hW1, hW2, hE1⟩
     have hO := ((hO.ext hE1).add hW1).add hW2
     clear hW1 hW2 hE1
     clear hf
     have hf := hO.cells
     simp only [BC, CC, Nat.zero_add, Nat.reduceAdd, and_true] at hf
     go_wp2_with ((with_reducible refine at_store (T := 37) ?_); refine st3_0 hO rfl rfl rfl rfl size_rat rfl rfl ?_; clear hO; intro w6 hO; clear hf; have hf := hO.cells; simp only [BC, CC, Nat.zero_add, Nat.reduceAdd, and_true] at hf)
     refine (HFL.out _ _ _ _ _ _ _ ⟨hO.wd 1 rfl, hO.wd 0 rfl⟩).mono ?_
     rintro e w7 ⟨A2, n2, c2, B2, m2, e2, rfl, hW1, hW2, hE1⟩
     have hO := ((hO.ext hE1).add hW1).add hW2
     clear hW1 hW2 hE1
     clear hf
     have hf := hO.cells
     simp only [BC, CC, Nat.zero_add, Nat.reduceAdd, and_true] at hf
     go_wp2_with (first | ((with_reducible refine at_alloc ?_); refine own_alloc hO zero_rat rfl rfl ?_; clear hO; intro g7 w8 hO; clear hf; have hf := hO.cells; simp only [BC, CC, Nat.zero_add, Nat.reduceAdd, and_true] at hf) | ((with_reducible refine at_store (T := 37) ?_); refine st3_0 hO rfl rfl rfl rfl size_rat rfl rfl ?_; clear hO; intro w9 hO; clear hf; have hf := hO.cells; simp only [BC, CC, Nat.zero_add, Nat.reduceAdd, and_true] at hf))
     refine (HSB.out _ _ _ _ _ _ _ _ _ _ _ _ _ ⟨hO.wd 3 rfl, hO.wd 2 rfl⟩ ⟨hO.wd 1 rfl, hO.wd 0 rfl⟩).mono ?_
     rintro e wA ⟨A3, n3, c3, B3, m3, e3, rfl, hW1, hW2, hE1⟩
     have hO := ((hO.ext hE1).add hW1).add hW2
     clear hW1 hW2 hE1
     clear hf
     have hf := hO.cells
     simp only [BC, CC, Nat.zero_add, Nat.reduceAdd, and_true] at hf
     have HP2 := Lib.hid (HFH.out wA)
     have HO1 := Lib.hid ((hO.ext ((Ext.refl wA).alloc (.cells #[.int .u32 1] 61))).ext ((Ext.refl (wA.alloc (.cells #[.int .u32 1] 61))).alloc (.cells #[.int .u32 2] 61)))
     clear hO hf
     go_wp2_with fail
     refine HP2.out.mono ?_
     rintro e wB ⟨A4, n4, c4, B4, m4, e4, rfl, hW1, hW2, hE1⟩
     have hO := ((HO1.out.ext hE1).add hW1).add hW2
     clear hW1 hW2 hE1 HO1 HP2
     have hf := hO.cells
     simp only [BC, CC, Nat.zero_add, Nat.reduceAdd, and_true] at hf
     go_wp2_with fail
     refine (HRC.out _ _ _ _ _ _ _ _ _ _ _ _ _ ⟨hO.wd 3 rfl, hO.wd 2 rfl⟩ ⟨hO.wd 1 rfl, hO.wd 0 rfl⟩).mono ?_
     rintro e wC ⟨rfl, hE1⟩
     have hO := hO.ext hE1
     clear hE1
     clear hf
     have hf := hO.cells
     simp only [BC, CC, Nat.zero_add, Nat.reduceAdd, and_true] at hf
     go_wp2_with fail
     refine (HBT.out _ _ _ _ (hO.wd 5 rfl)).mono ?_
     rintro e w' ⟨rfl, rfl⟩
     go_wp2_with (go_at_call 54; refine (HLN.out _ _ _ _ (hO.wd 5 rfl)).mono ?_; rintro e w' ⟨rfl, rfl⟩)
     obtain ⟨S, hS⟩ : ∃ S : World → Prop, S = Own w [⟨g7, 37, [.bool false, .slice A2 n2 c2, .slice B2 m2 e2]⟩, ⟨g6, 37, [.bool false, .slice A1 n1 c1, .slice B1 m1 e1]⟩, ⟨g4, 37, [.bool false, .slice none 0 0, .slice none 0 0]⟩, ⟨ga, 37, [.bool true, .slice A l c0, .slice B kk d]⟩] [⟨B4, m4, e4, nd 2⟩, ⟨A4, n4, c4, nd 1⟩, ⟨B3, m3, e3, nd D1⟩, ⟨A3, n3, c3, nd N1⟩, ⟨B2, m2, e2, nd 1⟩, ⟨A2, n2, c2, nd Q⟩, ⟨B1, m1, e1, nd D⟩, ⟨A1, n1, c1, nd N⟩, ⟨B, kk, d, nd D⟩, ⟨A, l, c0, nd N⟩] := ⟨_, rfl⟩
     have hSE : ∀ w w', S w → Ext w w' → S w' := fun w w' h1 h2 => by rw [hS] at h1 ⊢; exact h1.ext h2
     have hS1 : S wC.drew := by rw [hS]; exact hO.ext (Ext.refl wC).drew
     have HS := Lib.hid hS
     clear hS hO hf
     obtain ⟨sp, hsp⟩ : ∃ sp : Nat → Sp, sp = ofList [det (.agg #[.bool false, .slice A2 n2 c2, .slice B2 m2 e2]),
       anyOf (fun v wz => ∃ A1 n1 c1 A2 n2 c2, v = .agg #[.bool false, .slice A1 n1 c1, .slice A2 n2 c2] ∧ RatAt wz A1 n1 c1 A2 n2 c2 1 1), anyOf (fun v wz => ∃ A1 n1 c1 A2 n2 c2, v = .agg #[.bool false, .slice A1 n1 c1, .slice A2 n2 c2] ∧ RatAt wz A1 n1 c1 A2 n2 c2 (Q + 1) 1)] := ⟨_, rfl⟩
     have HSP := Lib.hid hsp
     clear hsp
     refine wp_region_loose 3 S sp (by kernel_rfl) (by kernel_rfl) hS1 hSE ?_
     simp only [List.take_succ_cons, List.take_zero, List.drop_succ_cons, List.drop_zero]
     refine wpX_step (fun K hK => ?_)
     go_simp
     refine StepY.det (by rw [HSP.out]; rfl) ?_ ?_
     · intro wz hz hF
       rw [HS.out] at hz
       have hf := hz.cells
       simp only [BC, CC, Nat.zero_add, Nat.reduceAdd, and_true] at hf
       clear hz hF
       go_simp
       exact ⟨rfl, Ext.refl _⟩
     refine hK _ _ ?_
     clear hK K
     refine wpX_step (fun K hK => ?_)
     go_simp
     refine StepY.any (by rw [HSP.out]; rfl) ?_ ?_
     · intro wz hz hF
       clear hz hF
       go_simp
       refine (HI1.out _).mono ?_
       rintro e w2 ⟨A3, n3, c3, A4, n4, c4, rfl, hW1, hW2, hE1⟩
       exact ⟨_, rfl, ⟨A3, n3, c3, A4, n4, c4, rfl, hW1, hW2⟩, hE1⟩
     intro v1
     refine hK _ _ ?_
     clear hK K
     refine wpX_step (fun K hK => ?_)
     go_simp
     refine StepY.any (by rw [HSP.out]; rfl) ?_ ?_
     · intro wz hz hF
       obtain ⟨wa', ea, A5, n5, c5, A6, n6, c6, hv1, hw1⟩ := hF.any 1 (by kernel_rfl) (by rw [HSP.out]; rfl)
       clear hF
       rw [HS.out] at hz
       have hR : RatAt wz A2 n2 c2 B2 m2 e2 Q 1 := ⟨hz.wd 5 rfl, hz.wd 4 rfl⟩
       clear hz
       simp only [asFun, List.nil_append, List.cons_append, List.getD_cons_succ, List.getD_cons_zero] at hv1
       subst hv1
       go_simp
       refine (HAD.out _ _ _ _ _ _ _ _ _ _ _ _ _ hR (hw1.ext ea)).mono ?_
       rintro e w2 ⟨A3, n3, c3, A4, n4, c4, rfl, hW1, hW2, hE1⟩
       exact ⟨_, rfl, ⟨A3, n3, c3, A4, n4, c4, rfl, hW1, hW2⟩, hE1⟩
     intro v2
     refine hK _ _ ?_
     clear hK K
     refine wpX_nil ?_
     intro wD hz hF
     obtain ⟨wa', ea, A5, n5, c5, B5, m5, e5, hv1, hw1⟩ := fact_any (hF 2 (by omega)) (by rw [HSP.out]; rfl)
     clear hF
     rw [HS.out] at hz
     simp only [asFun, List.nil_append, List.cons_append, List.getD_cons_succ, List.getD_cons_zero] at hv1
     subst hv1
     have hO := (hz.add (hw1.1.ext ea)).add (hw1.2.ext ea)
     clear hz hw1
     have hf := hO.cells
     simp only [BC, CC, Nat.zero_add, Nat.reduceAdd, and_true] at hf
     go_wp2_with ((with_reducible refine at_store (T := 37) ?_); refine st3_0 hO rfl rfl rfl rfl size_rat rfl rfl ?_; clear hO; intro wE hO; clear hf; have hf := hO.cells; simp only [BC, CC, Nat.zero_add, Nat.reduceAdd, and_true] at hf)
     refine (HNF.out _ _ _ _ _ _ _ ⟨hO.wd 1 rfl, hO.wd 0 rfl⟩).mono ?_
     rintro e wG ⟨A6, n6, c6, B6, m6, e6, rfl, hW1, hW2, hE1⟩
     have hO := ((hO.ext hE1).add hW1).add hW2
     clear hW1 hW2 hE1
     clear hf
     have hf := hO.cells
     simp only [BC, CC, Nat.zero_add, Nat.reduceAdd, and_true] at hf
     go_wp2_with ((with_reducible refine at_store (T := 37) ?_); refine st3_2 hO rfl rfl rfl rfl size_rat rfl rfl ?_; clear hO; intro wH hO; clear hf; have hf := hO.cells; simp only [BC, CC, Nat.zero_add, Nat.reduceAdd, and_true] at hf)
     exact own_ret hO 2 rfl rfl rfl agg_rat size_rat rfl ⟨_, _, _, _, _, _, rfl, hO.wd 1 rfl, hO.wd 0 rfl, hO.toExt⟩
set_option maxHeartbeats 4000000 in
theorem step_nt_dn (k : Int) (A : Option Addr) (l c0 : Nat) (B : Option Addr) (kk d N D : Nat) (w : World) (h : RatAt w A l c0 B kk d N D) (v : Int) (hv : decide (v < 0) = true) (Q : Nat) (b1 : Bool) (N1 D1 : Nat) (c u : Int) (ln : Int) (hu : ((u == 1) = true ∧ decide (0 < ln) = true) ∨ (u == 1) = false) (k0 : (k == 0) = false) (k1 : (k == 1) = false) (k2 : (k == 2) = false) (k3 : (k != 3) = true) (hc : (decide (0 < c) = false ∧ (c == 0) = false) ∨ (decide (0 < c) = false ∧ (c == 0) = true ∧ (k == 5) = false ∧ (u == 1) = false)) (bf : Bool)
   (HSG : Hid (∀ (A1 : Option Addr) (l1 c1 : Nat) (B1 : Option Addr) (k1 d1 : Nat) w, RatAt w A1 l1 c1 B1 k1 d1 N D → Calls Tryz.prog 17 #[.agg #[.bool true, .slice A1 l1 c1, .slice B1 k1 d1]] w (fun e w' => e = .returned (.int .i64 v) ∧ Ext w w')))
   (HNG : Hid (∀ (A1 : Option Addr) (l1 c1 : Nat) (B1 : Option Addr) (k1 d1 : Nat) w, RatAt w A1 l1 c1 B1 k1 d1 N D → Calls Tryz.prog 21 #[.agg #[.bool true, .slice A1 l1 c1, .slice B1 k1 d1]] w (RetR false N D w)))
   (HFL : Hid (∀ (A1 : Option Addr) (l1 c1 : Nat) (B1 : Option Addr) (k1 d1 : Nat) w, RatAt w A1 l1 c1 B1 k1 d1 N D → Calls Tryz.prog 51 #[.agg #[.bool false, .slice A1 l1 c1, .slice B1 k1 d1]] w (RetR false Q 1 w)))
   (HSB : Hid (∀ (A1 : Option Addr) (l1 c1 : Nat) (B1 : Option Addr) (k1 d1 : Nat) (A2 : Option Addr) (l2 c2 : Nat) (B2 : Option Addr) (k2 d2 : Nat) w, RatAt w A1 l1 c1 B1 k1 d1 N D → RatAt w A2 l2 c2 B2 k2 d2 Q 1 → Calls Tryz.prog 52 #[.agg #[.bool false, .slice A1 l1 c1, .slice B1 k1 d1], .agg #[.bool false, .slice A2 l2 c2, .slice B2 k2 d2]] w (RetR b1 N1 D1 w)))
   (HFH : Hid (∀ (w : World), Calls Tryz.prog 33 #[.bool false, .slice (some ⟨w.heap.size, 0, none⟩) 1 1, .slice (some ⟨w.heap.size + 1, 0, none⟩) 1 1, .int .i64 0] ((w.alloc (.cells #[.int .u32 1] 61)).alloc (.cells #[.int .u32 2] 61)) (RetR false 1 2 ((w.alloc (.cells #[.int .u32 1] 61)).alloc (.cells #[.int .u32 2] 61)))))
   (HRC : Hid (∀ (A1 : Option Addr) (l1 c1 : Nat) (B1 : Option Addr) (k1 d1 : Nat) (A2 : Option Addr) (l2 c2 : Nat) (B2 : Option Addr) (k2 d2 : Nat) w, RatAt w A1 l1 c1 B1 k1 d1 N1 D1 → RatAt w A2 l2 c2 B2 k2 d2 1 2 → Calls Tryz.prog 20 #[.agg #[.bool b1, .slice A1 l1 c1, .slice B1 k1 d1], .agg #[.bool false, .slice A2 l2 c2, .slice B2 k2 d2]] w (fun e w' => e = .returned (.int .i64 c) ∧ Ext w w')))
   (HBT : Hid (∀ (A1 : Option Addr) (l1 c1 : Nat) w, Wds w A1 l1 c1 (nd Q) → Calls Tryz.prog 53 #[.slice A1 l1 c1, .int .i64 0] w (fun e w' => e = .returned (.int .u32 u) ∧ w = w')))
   (HLN : Hid (∀ (A1 : Option Addr) (l1 c1 : Nat) w, Wds w A1 l1 c1 (nd Q) → Calls Tryz.prog 54 #[.slice A1 l1 c1] w (fun e w' => e = .returned (.int .i64 ln) ∧ w = w')))
   (HNF : Hid (∀ (A1 : Option Addr) (l1 c1 : Nat) (B1 : Option Addr) (k1 d1 : Nat) w, RatAt w A1 l1 c1 B1 k1 d1 Q 1 → Calls Tryz.prog 21 #[.agg #[.bool false, .slice A1 l1 c1, .slice B1 k1 d1]] w (RetR bf Q 1 w))) :
   Calls Tryz.prog 24 #[.int .i64 k, .agg #[.bool true, .slice A l c0, .slice B kk d]] w (RetR bf Q 1 w) := by
 have hO := ((Own.start w).add h.1).add h.2
 have hf : True := trivial
 clear h
 rcases hc with ⟨g1, g2⟩ | ⟨g1, g2, g3, g4⟩ <;> rcases hu with ⟨u1, u2⟩ | u1
 case inr.inl => rw [u1] at g4; cases g4
 all_goals
   as_aux_lemma =>
     go_enter Tryz.func24, Tryz.ntmps24
     go_wp2_with (first | ((with_reducible refine at_box ?_); refine own_box (cs := [.bool true, .slice A l c0, .slice B kk d]) hO rfl rfl ?_; clear hO; intro ga wa hO; clear hf; have hf := hO.cells; simp only [BC, CC, Nat.zero_add, Nat.reduceAdd, and_true] at hf) | ((with_reducible refine at_alloc ?_); refine own_alloc hO zero_rat rfl rfl ?_; clear hO; intro g4 wb hO; clear hf; have hf := hO.cells; simp only [BC, CC, Nat.zero_add, Nat.reduceAdd, and_true] at hf))
     refine (HSG.out _ _ _ _ _ _ _ ⟨hO.wd 1 rfl, hO.wd 0 rfl⟩).mono ?_
     rintro e w2 ⟨rfl, hE1⟩
     have hO := hO.ext hE1
     clear hE1
     clear hf
     have hf := hO.cells
     simp only [BC, CC, Nat.zero_add, Nat.reduceAdd, and_true] at hf
     go_wp2_with (first | ((with_reducible refine at_alloc ?_); refine own_alloc hO zero_rat rfl rfl ?_; clear hO; intro g6 w3 hO; clear hf; have hf := hO.cells; simp only [BC, CC, Nat.zero_add, Nat.reduceAdd, and_true] at hf) | ((with_reducible refine at_store (T := 37) ?_); refine st3_0 hO rfl rfl rfl rfl size_rat rfl rfl ?_; clear hO; intro w4 hO; clear hf; have hf := hO.cells; simp only [BC, CC, Nat.zero_add, Nat.reduceAdd, and_true] at hf))
     refine (HNG.out _ _ _ _ _ _ _ ⟨hO.wd 1 rfl, hO.wd 0 rfl⟩).mono ?_
     rintro e w5 ⟨A1, n1, c1, B1, m1, e1, rfl, hW1, hW2, hE1⟩
     have hO := ((hO.ext hE1).add hW1).add hW2
     clear hW1 hW2 hE1
     clear hf
     have hf := hO.cells
     simp only [BC, CC, Nat.zero_add, Nat.reduceAdd, and_true] at hf
     go_wp2_with ((with_reducible refine at_store (T := 37) ?_); refine st3_0 hO rfl rfl rfl rfl size_rat rfl rfl ?_; clear hO; intro w6 hO; clear hf; have hf := hO.cells; simp only [BC, CC, Nat.zero_add, Nat.reduceAdd, and_true] at hf)
     refine (HFL.out _ _ _ _ _ _ _ ⟨hO.wd 1 rfl, hO.wd 0 rfl⟩).mono ?_
     rintro e w7 ⟨A2, n2, c2, B2, m2, e2, rfl, hW1, hW2, hE1⟩
     have hO := ((hO.ext hE1).add hW1).add hW2
     clear hW1 hW2 hE1
     clear hf
     have hf := hO.cells
     simp only [BC, CC, Nat.zero_add, Nat.reduceAdd, and_true] at hf
     go_wp2_with (first | ((with_reducible refine at_alloc ?_); refine own_alloc hO zero_rat rfl rfl ?_; clear hO; intro g7 w8 hO; clear hf; have hf := hO.cells; simp only [BC, CC, Nat.zero_add, Nat.reduceAdd, and_true] at hf) | ((with_reducible refine at_store (T := 37) ?_); refine st3_0 hO rfl rfl rfl rfl size_rat rfl rfl ?_; clear hO; intro w9 hO; clear hf; have hf := hO.cells; simp only [BC, CC, Nat.zero_add, Nat.reduceAdd, and_true] at hf))
     refine (HSB.out _ _ _ _ _ _ _ _ _ _ _ _ _ ⟨hO.wd 3 rfl, hO.wd 2 rfl⟩ ⟨hO.wd 1 rfl, hO.wd 0 rfl⟩).mono ?_
     rintro e wA ⟨A3, n3, c3, B3, m3, e3, rfl, hW1, hW2, hE1⟩
     have hO := ((hO.ext hE1).add hW1).add hW2
     clear hW1 hW2 hE1
     clear hf
     have hf := hO.cells
     simp only [BC, CC, Nat.zero_add, Nat.reduceAdd, and_true] at hf
     have HP2 := Lib.hid (HFH.out wA)
     have HO1 := Lib.hid ((hO.ext ((Ext.refl wA).alloc (.cells #[.int .u32 1] 61))).ext ((Ext.refl (wA.alloc (.cells #[.int .u32 1] 61))).alloc (.cells #[.int .u32 2] 61)))
     clear hO hf
     go_wp2_with fail
     refine HP2.out.mono ?_
     rintro e wB ⟨A4, n4, c4, B4, m4, e4, rfl, hW1, hW2, hE1⟩
     have hO := ((HO1.out.ext hE1).add hW1).add hW2
     clear hW1 hW2 hE1 HO1 HP2
     have hf := hO.cells
     simp only [BC, CC, Nat.zero_add, Nat.reduceAdd, and_true] at hf
     go_wp2_with fail
     refine (HRC.out _ _ _ _ _ _ _ _ _ _ _ _ _ ⟨hO.wd 3 rfl, hO.wd 2 rfl⟩ ⟨hO.wd 1 rfl, hO.wd 0 rfl⟩).mono ?_
     rintro e wC ⟨rfl, hE1⟩
     have hO := hO.ext hE1
     clear hE1
     clear hf
     have hf := hO.cells
     simp only [BC, CC, Nat.zero_add, Nat.reduceAdd, and_true] at hf
     go_wp2_with fail
     refine (HBT.out _ _ _ _ (hO.wd 5 rfl)).mono ?_
     rintro e w' ⟨rfl, rfl⟩
     go_wp2_with (go_at_call 54; refine (HLN.out _ _ _ _ (hO.wd 5 rfl)).mono ?_; rintro e w' ⟨rfl, rfl⟩)
     refine (HNF.out _ _ _ _ _ _ _ ⟨hO.wd 5 rfl, hO.wd 4 rfl⟩).mono ?_
     rintro e wG ⟨A6, n6, c6, B6, m6, e6, rfl, hW1, hW2, hE1⟩
     have hO := ((hO.ext hE1).add hW1).add hW2
     clear hW1 hW2 hE1
     clear hf
     have hf := hO.cells
     simp only [BC, CC, Nat.zero_add, Nat.reduceAdd, and_true] at hf
     go_wp2_with ((with_reducible refine at_store (T := 37) ?_); refine st3_2 hO rfl rfl rfl rfl size_rat rfl rfl ?_; clear hO; intro wH hO; clear hf; have hf := hO.cells; simp only [BC, CC, Nat.zero_add, Nat.reduceAdd, and_true] at hf)
     exact own_ret hO 2 rfl rfl rfl agg_rat size_rat rfl ⟨_, _, _, _, _, _, rfl, hO.wd 1 rfl, hO.wd 0 rfl, hO.toExt⟩
end Go.Proofs.YtbcaggdgoidlaaaGreatDoor
