/-
  The walk of the law RoundRatios: it answers true. Conditions: those that each theorem names.
-/
import Derived.Test.YtjblogfbcglnmaaZ36
import Derived.Test.YtjblogfbcglnmaaZ38
import Derived.Test.YtjblogfbcglnmaaZ14
import Derived.StillTailTactics
namespace Go.Proofs.Ytjblogfbcglnmaa
open Go.RowKit Nm Rn
set_option maxRecDepth 100000
set_option linter.unusedVariables false
set_option linter.unusedSimpArgs false

/-- What stands at any time: the box of the argument, the two other lists, the two lists that are asked. -/
structure RS (w : World) (ga gv gw gl gm : Nat) (t : TypeId) (cs : Array Value) (ys1 ys2 zs1 zs2 : List Nat) (wk : World) : Prop where
  box : Blk wk ga t cs
  rv : Row wk gv (ys1 ++ GD)
  rw : Row wk gw (ys2 ++ GD)
  rl : Row wk gl (zs1 ++ GD)
  rm : Row wk gm (zs2 ++ GD)
  ext : Ext w wk
  na : ga < gl
  nv : gv < gl
  nw : gw < gl
  nl : gl < gm
variable {w : World} {ga gv gw gl gm : Nat} {t : TypeId} {cs : Array Value} {ys1 ys2 zs1 zs2 : List Nat} {wk wl : World}
theorem RS.ext_ (h : RS w ga gv gw gl gm t cs ys1 ys2 zs1 zs2 wk) (he : Ext wk wl) : RS w ga gv gw gl gm t cs ys1 ys2 zs1 zs2 wl :=
  ⟨h.box.ext he, h.rv.ext he, h.rw.ext he, h.rl.ext he, h.rm.ext he, h.ext.trans he, h.na, h.nv, h.nw, h.nl⟩
theorem RS.placed1 (h : RS w ga gv gw gl gm t cs ys1 ys2 zs1 zs2 wk) {zs : List Nat} (hr : Row wl gl (zs ++ GD)) (he : ExtO w gl wk wl) : RS w ga gv gw gl gm t cs ys1 ys2 zs zs2 wl :=
  ⟨h.box.only (Nat.ne_of_lt h.na) he.2, h.rv.only (Nat.ne_of_lt h.nv) he.2, h.rw.only (Nat.ne_of_lt h.nw) he.2, hr, h.rm.only (Nat.ne_of_gt h.nl) he.2, he.1, h.na, h.nv, h.nw, h.nl⟩
theorem RS.placed2 (h : RS w ga gv gw gl gm t cs ys1 ys2 zs1 zs2 wk) {zs : List Nat} (hr : Row wl gm (zs ++ GD)) (he : ExtO w gm wk wl) : RS w ga gv gw gl gm t cs ys1 ys2 zs1 zs wl :=
  ⟨h.box.only (Nat.ne_of_lt (Nat.lt_trans h.na h.nl)) he.2, h.rv.only (Nat.ne_of_lt (Nat.lt_trans h.nv h.nl)) he.2, h.rw.only (Nat.ne_of_lt (Nat.lt_trans h.nw h.nl)) he.2, h.rl.only (Nat.ne_of_lt h.nl) he.2, hr, he.1, h.na, h.nv, h.nw, h.nl⟩

set_option maxHeartbeats 8000000 in
theorem rats_law (d : Int) (neg : Bool) (A : Option Addr) (n c : Nat) (xs : List Nat) (B : Option Addr) (m e' : Nat) (zs : List Nat) (exp : Int) (w : World) (h : Wds w A n c xs) (k : Wds w B m e' zs) (hn0 : n ≤ 1048576) (hm0 : m ≤ 1048576) :
    Calls Try.prog 8 #[.agg #[.int .i64 d, .bool neg, .slice A n c, .slice B m e', .int .i64 exp]] w fun e w' => e = .returned (.bool true) ∧ Ext w w' := by
  have HX := Lib.hid h
  have HXW := Lib.hid (And.intro h.len h.ws)
  have HZ := Lib.hid k
  have HZW := Lib.hid (And.intro k.len k.ws)
  have HO1 := Lib.hid (fun w h => lother_any A n c xs w h (by omega))
  have HO2 := Lib.hid (fun w h => lother_any B m e' zs w h (by omega))
  have HRY1 := Lib.hid (fun w h => lroomy_any A n c xs w h (by omega))
  have HRY2 := Lib.hid (fun w h => lroomy_any B m e' zs w h (by omega))
  have HWT := Lib.hid (fun w h k => ratio3_any d neg A n c xs B m e' zs exp w h (by omega) k (by omega))
  have HRX := Lib.hid (fun g g' w h k => pratio_any d neg (some ⟨g, 0, none⟩) n (n + 40) xs (some ⟨g', 0, none⟩) m (m + 40) zs exp w h (by omega) k (by omega))
  have HWL := Lib.hid (fun w h => ratio3_any d neg A n c xs A n c xs exp w h (by omega) h (by omega))
  have HRL := Lib.hid (fun g w h k => pratio_any d neg (some ⟨g, 0, none⟩) n (n + 40) xs (some ⟨g, 0, none⟩) n (n + 40) xs exp w h (by omega) k (by omega))
  have HL := Lib.hid (fun r w h => lbits_any r w h)
  clear h k
  generalize hWT : ratR d neg (nv xs) (nv zs) exp = want at HWT HRX
  generalize hWL : ratR d neg (nv xs) (nv xs) exp = same at HWL HRL
  clear hWT hWL
  have hO := Own.start w
  go_enter Try.func8, Try.ntmps8
  go_upto_region 1 with ((with_reducible refine at_box ?_); refine own_box (cs := [.int .i64 d, .bool neg, .slice A n c, .slice B m e', .int .i64 exp]) hO rfl rfl ?_; clear hO; intro ga w1 hO)
  have hb1 : Blk w1 ga 34 #[.int .i64 d, .bool neg, .slice A n c, .slice B m e', .int .i64 exp] := hO.blk 0 rfl
  have hE1 := hO.toExt
  clear hO
  have g0 := hb1.cell 0
  have g1 := hb1.cell 1
  have g2 := hb1.cell 2
  have g3 := hb1.cell 3
  have g4 := hb1.cell 4
  simp only [List.getElem?_toArray, List.getElem?_cons_zero, List.getElem?_cons_succ] at g0 g1 g2 g3 g4
  go_wp2_with fail
  refine (HO1.out _ (HX.out.ext hE1)).mono ?_
  rintro e w2 ⟨gv, ys1, rfl, hyl, hyw, hrv, hgv, hE2⟩
  have HY1 := Lib.hid (And.intro hyl hyw)
  have hb2 := hb1.ext hE2
  have hE2' := hE1.trans hE2
  clear hb1 hE1 hE2 hgv hyl hyw
  clear g0 g1 g2 g3 g4
  have g0 := hb2.cell 0
  have g1 := hb2.cell 1
  have g2 := hb2.cell 2
  have g3 := hb2.cell 3
  have g4 := hb2.cell 4
  simp only [List.getElem?_toArray, List.getElem?_cons_zero, List.getElem?_cons_succ] at g0 g1 g2 g3 g4
  go_wp2_with fail
  refine (HO2.out _ (HZ.out.ext hE2')).mono ?_
  rintro e w3 ⟨gw, ys2, rfl, hyl, hyw, hrw, hgw, hE3⟩
  have HY2 := Lib.hid (And.intro hyl hyw)
  have hb3 := hb2.ext hE3
  have hrv3 := hrv.ext hE3
  have hE3' := hE2'.trans hE3
  clear hb2 hrv hE2' hE3 hgw hyl hyw
  clear g0 g1 g2 g3 g4
  have g0 := hb3.cell 0
  have g1 := hb3.cell 1
  have g2 := hb3.cell 2
  have g3 := hb3.cell 3
  have g4 := hb3.cell 4
  simp only [List.getElem?_toArray, List.getElem?_cons_zero, List.getElem?_cons_succ] at g0 g1 g2 g3 g4
  have HNX := Lib.hid (fun w h k => ratio3_any d neg (some ⟨gv, 0, none⟩) n (n + 40) ys1 (some ⟨gw, 0, none⟩) m (m + 40) ys2 exp w h (by omega) k (by omega))
  have HRN := Lib.hid (fun g g' w h k => pratio_any d neg (some ⟨g, 0, none⟩) n (n + 40) ys1 (some ⟨g', 0, none⟩) m (m + 40) ys2 exp w h (by omega) k (by omega))
  generalize hNX : ratR d neg (nv ys1) (nv ys2) exp = next at HNX HRN
  clear hNX
  go_wp2_with fail
  refine (HWT.out _ (HX.out.ext hE3') (HZ.out.ext hE3')).mono ?_
  rintro e w4 ⟨rfl, hE⟩
  have hb4 := hb3.ext hE
  have hrv4 := hrv3.ext hE
  have hrw4 := hrw.ext hE
  have hE4 := hE3'.trans hE
  clear hb3 hrv3 hrw hE3' hE
  clear g0 g1 g2 g3 g4
  have g0 := hb4.cell 0
  have g1 := hb4.cell 1
  have g2 := hb4.cell 2
  have g3 := hb4.cell 3
  have g4 := hb4.cell 4
  simp only [List.getElem?_toArray, List.getElem?_cons_zero, List.getElem?_cons_succ] at g0 g1 g2 g3 g4
  go_wp2_with fail
  refine (HNX.out _ (hrv4.wdsp HY1.out.2 HY1.out.1 (by omega)) (hrw4.wdsp HY2.out.2 HY2.out.1 (by omega))).mono ?_
  rintro e w5 ⟨rfl, hE⟩
  have hb5 := hb4.ext hE
  have hrv5 := hrv4.ext hE
  have hrw5 := hrw4.ext hE
  have hE5 := hE4.trans hE
  clear hb4 hrv4 hrw4 hE4 hE
  clear g0 g1 g2 g3 g4
  have g0 := hb5.cell 0
  have g1 := hb5.cell 1
  have g2 := hb5.cell 2
  have g3 := hb5.cell 3
  have g4 := hb5.cell 4
  simp only [List.getElem?_toArray, List.getElem?_cons_zero, List.getElem?_cons_succ] at g0 g1 g2 g3 g4
  go_wp2_with fail
  refine (HRY1.out _ (HX.out.ext hE5)).mono ?_
  rintro e w6 ⟨gl, rfl, hrl, hgl, hE⟩
  have hglw : w.heap.size ≤ gl := Nat.le_trans hE5.size hgl
  have n1 : ga < gl := by have := hb5.lt; omega
  have n2 : gv < gl := by have := hrv5.lt; omega
  have n3 : gw < gl := by have := hrw5.lt; omega
  have hb6 := hb5.ext hE
  have hrv6 := hrv5.ext hE
  have hrw6 := hrw5.ext hE
  have hE6 := hE5.trans hE
  clear hb5 hrv5 hrw5 hE5 hE hgl
  clear g0 g1 g2 g3 g4
  have g0 := hb6.cell 0
  have g1 := hb6.cell 1
  have g2 := hb6.cell 2
  have g3 := hb6.cell 3
  have g4 := hb6.cell 4
  simp only [List.getElem?_toArray, List.getElem?_cons_zero, List.getElem?_cons_succ] at g0 g1 g2 g3 g4
  go_wp2_with fail
  refine (HRY2.out _ (HZ.out.ext hE6)).mono ?_
  rintro e w7 ⟨gm, rfl, hrm, hgm, hE⟩
  have hgmw : w.heap.size ≤ gm := Nat.le_trans hE6.size hgm
  have hS : RS w ga gv gw gl gm 34 #[.int .i64 d, .bool neg, .slice A n c, .slice B m e', .int .i64 exp] ys1 ys2 xs zs w7 := ⟨hb6.ext hE, hrv6.ext hE, hrw6.ext hE, hrl.ext hE, hrm, hE6.trans hE, n1, n2, n3, by have := hrl.lt; omega⟩
  clear hb6 hrv6 hrw6 hE6 hE hrl hrm hgm n1 n2 n3
  clear g0 g1 g2 g3 g4
  have g0 := hS.box.cell 0
  have g1 := hS.box.cell 1
  have g2 := hS.box.cell 2
  have g3 := hS.box.cell 3
  have g4 := hS.box.cell 4
  simp only [List.getElem?_toArray, List.getElem?_cons_zero, List.getElem?_cons_succ] at g0 g1 g2 g3 g4
  go_wp2_with fail
  refine (HRX.out _ _ _ (hS.rl.wdsp HXW.out.2 HXW.out.1 (by omega)) (hS.rm.wdsp HZW.out.2 HZW.out.1 (by omega))).mono ?_
  rintro e wk ⟨r, rfl, hr, hc, hE⟩
  have hS := hS.ext_ hE
  go_wp2_with fail
  refine (HL.out r _ hr).mono ?_
  rintro e w' ⟨rfl, rfl⟩
  rw [hc]
  clear g0 g1 g2 g3 g4
  have g0 := hS.box.cell 0
  have g1 := hS.box.cell 1
  have g2 := hS.box.cell 2
  have g3 := hS.box.cell 3
  have g4 := hS.box.cell 4
  simp only [List.getElem?_toArray, List.getElem?_cons_zero, List.getElem?_cons_succ] at g0 g1 g2 g3 g4
  clear hc hr hE
  go_wp2_with fail
  refine (lleft_any A n c gl xs _ (HX.out.ext hS.ext) hS.rl (by omega)).mono ?_
  rintro e wk ⟨rfl, hE⟩
  clear g0 g1 g2 g3 g4
  have hS := hS.ext_ hE
  have g0 := hS.box.cell 0
  have g1 := hS.box.cell 1
  have g2 := hS.box.cell 2
  have g3 := hS.box.cell 3
  have g4 := hS.box.cell 4
  simp only [List.getElem?_toArray, List.getElem?_cons_zero, List.getElem?_cons_succ] at g0 g1 g2 g3 g4
  clear hE
  go_wp2_with fail
  refine (lleft_any B m e' gm zs _ (HZ.out.ext hS.ext) hS.rm (by omega)).mono ?_
  rintro e wk ⟨rfl, hE⟩
  clear g0 g1 g2 g3 g4
  have hS := hS.ext_ hE
  have g0 := hS.box.cell 0
  have g1 := hS.box.cell 1
  have g2 := hS.box.cell 2
  have g3 := hS.box.cell 3
  have g4 := hS.box.cell 4
  simp only [List.getElem?_toArray, List.getElem?_cons_zero, List.getElem?_cons_succ] at g0 g1 g2 g3 g4
  clear hE
  go_wp2_with fail
  refine (HRX.out _ _ _ (hS.rl.wdsp HXW.out.2 HXW.out.1 (by omega)) (hS.rm.wdsp HZW.out.2 HZW.out.1 (by omega))).mono ?_
  rintro e wk ⟨r, rfl, hr, hc, hE⟩
  have hS := hS.ext_ hE
  go_wp2_with fail
  refine (HL.out r _ hr).mono ?_
  rintro e w' ⟨rfl, rfl⟩
  rw [hc]
  clear g0 g1 g2 g3 g4
  have g0 := hS.box.cell 0
  have g1 := hS.box.cell 1
  have g2 := hS.box.cell 2
  have g3 := hS.box.cell 3
  have g4 := hS.box.cell 4
  simp only [List.getElem?_toArray, List.getElem?_cons_zero, List.getElem?_cons_succ] at g0 g1 g2 g3 g4
  clear hc hr hE
  go_wp2_with fail
  refine (lplace_any gl n (n + 40) xs (some ⟨gv, 0, none⟩) (n + 40) ys1 w _ hS.rl HXW.out.1 HY1.out.1 (by omega) (Lib.hid fun w' hw' => (hS.rv.only (Nat.ne_of_lt hS.nv) hw'.2).wdsp HY1.out.2 HY1.out.1 (by omega)) hS.ext hglw).mono ?_
  rintro e wk ⟨rfl, hrl, hEO⟩
  clear g0 g1 g2 g3 g4
  have hS := hS.placed1 hrl hEO
  have g0 := hS.box.cell 0
  have g1 := hS.box.cell 1
  have g2 := hS.box.cell 2
  have g3 := hS.box.cell 3
  have g4 := hS.box.cell 4
  simp only [List.getElem?_toArray, List.getElem?_cons_zero, List.getElem?_cons_succ] at g0 g1 g2 g3 g4
  clear hrl hEO
  go_wp2_with fail
  refine (lplace_any gm m (m + 40) zs (some ⟨gw, 0, none⟩) (m + 40) ys2 w _ hS.rm HZW.out.1 HY2.out.1 (by omega) (Lib.hid fun w' hw' => (hS.rw.only (Nat.ne_of_lt (Nat.lt_trans hS.nw hS.nl)) hw'.2).wdsp HY2.out.2 HY2.out.1 (by omega)) hS.ext hgmw).mono ?_
  rintro e wk ⟨rfl, hrl, hEO⟩
  clear g0 g1 g2 g3 g4
  have hS := hS.placed2 hrl hEO
  have g0 := hS.box.cell 0
  have g1 := hS.box.cell 1
  have g2 := hS.box.cell 2
  have g3 := hS.box.cell 3
  have g4 := hS.box.cell 4
  simp only [List.getElem?_toArray, List.getElem?_cons_zero, List.getElem?_cons_succ] at g0 g1 g2 g3 g4
  clear hrl hEO
  go_wp2_with fail
  refine (HRN.out _ _ _ (hS.rl.wdsp HY1.out.2 HY1.out.1 (by omega)) (hS.rm.wdsp HY2.out.2 HY2.out.1 (by omega))).mono ?_
  rintro e wk ⟨r, rfl, hr, hc, hE⟩
  have hS := hS.ext_ hE
  go_wp2_with fail
  refine (HL.out r _ hr).mono ?_
  rintro e w' ⟨rfl, rfl⟩
  rw [hc]
  clear g0 g1 g2 g3 g4
  have g0 := hS.box.cell 0
  have g1 := hS.box.cell 1
  have g2 := hS.box.cell 2
  have g3 := hS.box.cell 3
  have g4 := hS.box.cell 4
  simp only [List.getElem?_toArray, List.getElem?_cons_zero, List.getElem?_cons_succ] at g0 g1 g2 g3 g4
  clear hc hr hE
  go_wp2_with fail
  refine (lleft_any (some ⟨gv, 0, none⟩) n (n + 40) gl ys1 _ (hS.rv.wdsp HY1.out.2 HY1.out.1 (by omega)) hS.rl (by omega)).mono ?_
  rintro e wk ⟨rfl, hE⟩
  clear g0 g1 g2 g3 g4
  have hS := hS.ext_ hE
  have g0 := hS.box.cell 0
  have g1 := hS.box.cell 1
  have g2 := hS.box.cell 2
  have g3 := hS.box.cell 3
  have g4 := hS.box.cell 4
  simp only [List.getElem?_toArray, List.getElem?_cons_zero, List.getElem?_cons_succ] at g0 g1 g2 g3 g4
  clear hE
  go_wp2_with fail
  refine (lleft_any (some ⟨gw, 0, none⟩) m (m + 40) gm ys2 _ (hS.rw.wdsp HY2.out.2 HY2.out.1 (by omega)) hS.rm (by omega)).mono ?_
  rintro e wk ⟨rfl, hE⟩
  clear g0 g1 g2 g3 g4
  have hS := hS.ext_ hE
  have g0 := hS.box.cell 0
  have g1 := hS.box.cell 1
  have g2 := hS.box.cell 2
  have g3 := hS.box.cell 3
  have g4 := hS.box.cell 4
  simp only [List.getElem?_toArray, List.getElem?_cons_zero, List.getElem?_cons_succ] at g0 g1 g2 g3 g4
  clear hE
  go_wp2_with fail
  refine (lplace_any gl n (n + 40) ys1 A c xs w _ hS.rl HY1.out.1 HXW.out.1 (by omega) (Lib.hid fun w' hw' => HX.out.ext hw'.1) hS.ext hglw).mono ?_
  rintro e wk ⟨rfl, hrl, hEO⟩
  clear g0 g1 g2 g3 g4
  have hS := hS.placed1 hrl hEO
  have g0 := hS.box.cell 0
  have g1 := hS.box.cell 1
  have g2 := hS.box.cell 2
  have g3 := hS.box.cell 3
  have g4 := hS.box.cell 4
  simp only [List.getElem?_toArray, List.getElem?_cons_zero, List.getElem?_cons_succ] at g0 g1 g2 g3 g4
  clear hrl hEO
  go_wp2_with fail
  refine (lplace_any gm m (m + 40) ys2 B e' zs w _ hS.rm HY2.out.1 HZW.out.1 (by omega) (Lib.hid fun w' hw' => HZ.out.ext hw'.1) hS.ext hgmw).mono ?_
  rintro e wk ⟨rfl, hrl, hEO⟩
  clear g0 g1 g2 g3 g4
  have hS := hS.placed2 hrl hEO
  have g0 := hS.box.cell 0
  have g1 := hS.box.cell 1
  have g2 := hS.box.cell 2
  have g3 := hS.box.cell 3
  have g4 := hS.box.cell 4
  simp only [List.getElem?_toArray, List.getElem?_cons_zero, List.getElem?_cons_succ] at g0 g1 g2 g3 g4
  clear hrl hEO
  go_wp2_with fail
  clear g0 g1 g2 g3 g4
  obtain ⟨S, hSe⟩ : ∃ S : World → Prop, S = RS w ga gv gw gl gm 34 #[.int .i64 d, .bool neg, .slice A n c, .slice B m e', .int .i64 exp] ys1 ys2 xs zs := ⟨_, rfl⟩
  have hSE : ∀ w w', S w → Ext w w' → S w' := fun w w' h1 h2 => by rw [hSe] at h1 ⊢; exact h1.ext_ h2
  have hS1 := hS.ext_ (Ext.refl _).drew
  rw [← hSe] at hS1
  have HS := Lib.hid hSe
  clear hSe hS
  have hLL : ∀ w', RS w ga gv gw gl gm 34 #[.int .i64 d, .bool neg, .slice A n c, .slice B m e', .int .i64 exp] ys1 ys2 xs zs w' → Wds w' (some ⟨gl, 0, none⟩) n (n + 40) xs := fun w' hS => (hS.rl.wdsp HXW.out.2 HXW.out.1 (by omega))
  have HLL := Lib.hid hLL
  clear hLL
  obtain ⟨sp, hsp⟩ : ∃ sp : Nat → Sp, sp = ofList [det (.pointer (some ⟨ga, 0, none⟩)), det (.int .i64 d), det (.pointer (some ⟨ga, 1, none⟩)), det (.bool neg), det (.slice (some ⟨gl, 0, none⟩) n (n + 40)), det (.slice (some ⟨gl, 0, none⟩) n (n + 40)), det (.pointer (some ⟨ga, 4, none⟩)), det (.int .i64 exp),
    anyOf (fun v wz => ∃ r, v = .float .f64 r ∧ r < 18446744073709551616 ∧ cn r = same), det (.int .u64 (same : Int)), det (.pointer (some ⟨ga, 0, none⟩)), det (.int .i64 d), det (.pointer (some ⟨ga, 1, none⟩)), det (.bool neg), det (.pointer (some ⟨ga, 2, none⟩)), det (.slice A n c), det (.pointer (some ⟨ga, 2, none⟩)), det (.slice A n c), det (.pointer (some ⟨ga, 4, none⟩)), det (.int .i64 exp)] := ⟨_, rfl⟩
  have HSP := Lib.hid hsp
  clear hsp
  refine wp_region_loose 20 S sp (by kernel_rfl) (by kernel_rfl) hS1 hSE ?_
  simp only [List.take_succ_cons, List.take_zero, List.drop_succ_cons, List.drop_zero]
  iterate 20
    refine wpX_step (fun K hK => ?_)
    go_simp
    first
    | (refine ⟨by rw [HSP.out]; rfl, hK _ _ ?_⟩
       clear hK K)
    | (refine StepY.any (by rw [HSP.out]; rfl) ?_ ?_
       · intro wz hz hF
         clear hF
         rw [HS.out] at hz
         have hWL := HLL.out _ hz
         clear hz
         go_simp
         go_at_call 35
         refine (HRL.out _ _ hWL hWL).mono ?_
         rintro e w2 ⟨r, rfl, hr, hc, hE1⟩
         exact ⟨_, rfl, ⟨r, rfl, hr, hc⟩, hE1⟩
       intro v
       refine hK _ _ ?_
       clear hK K)
    | (refine StepY.det (by rw [HSP.out]; rfl) ?_ ?_
       · intro wz hz hF
         first
         | (rw [HS.out] at hz
            have g0 := hz.box.cell 0
            have g1 := hz.box.cell 1
            have g2 := hz.box.cell 2
            have g4 := hz.box.cell 4
            simp only [List.getElem?_toArray, List.getElem?_cons_zero, List.getElem?_cons_succ] at g0 g1 g2 g4
            clear hz hF
            go_simp
            exact ⟨rfl, Ext.refl _⟩)
         | (obtain ⟨wa', ea, r, hv1, hr, hc⟩ := hF.any 8 (by kernel_rfl) (by rw [HSP.out]; rfl)
            clear hF
            simp only [asFun, List.nil_append, List.cons_append, List.getD_cons_succ, List.getD_cons_zero] at hv1
            subst hv1
            go_simp
            go_at_call 24
            refine (HL.out r _ hr).mono ?_
            rintro e w5 ⟨rfl, rfl⟩
            exact ⟨_, rfl, by rw [hc]; rfl, Ext.refl _⟩)
       refine hK _ _ ?_
       clear hK K)
  refine wpX_nil ?_
  intro wk hz hF
  clear hF
  rw [HS.out] at hz
  have hS := hz
  clear hz hS1 hSE HS HSP HLL
  go_wp2_with fail
  refine (HWL.out _ (HX.out.ext hS.ext)).mono ?_
  rintro e wk ⟨rfl, hE⟩
  have hS := hS.ext_ hE
  have g0 := hS.box.cell 0
  have g1 := hS.box.cell 1
  have g2 := hS.box.cell 2
  have g3 := hS.box.cell 3
  have g4 := hS.box.cell 4
  simp only [List.getElem?_toArray, List.getElem?_cons_zero, List.getElem?_cons_succ] at g0 g1 g2 g3 g4
  clear hE
  go_wp2_with fail
  refine (HRX.out _ _ _ (hS.rl.wdsp HXW.out.2 HXW.out.1 (by omega)) (hS.rm.wdsp HZW.out.2 HZW.out.1 (by omega))).mono ?_
  rintro e wk ⟨r, rfl, hr, hc, hE⟩
  have hS := hS.ext_ hE
  go_wp2_with fail
  refine (HL.out r _ hr).mono ?_
  rintro e w' ⟨rfl, rfl⟩
  rw [hc]
  clear g0 g1 g2 g3 g4
  have g0 := hS.box.cell 0
  have g1 := hS.box.cell 1
  have g2 := hS.box.cell 2
  have g3 := hS.box.cell 3
  have g4 := hS.box.cell 4
  simp only [List.getElem?_toArray, List.getElem?_cons_zero, List.getElem?_cons_succ] at g0 g1 g2 g3 g4
  clear hc hr hE
  go_wp2_with fail
  refine (lleft_any A n c gl xs _ (HX.out.ext hS.ext) hS.rl (by omega)).mono ?_
  rintro e wk ⟨rfl, hE⟩
  clear g0 g1 g2 g3 g4
  have hS := hS.ext_ hE
  have g0 := hS.box.cell 0
  have g1 := hS.box.cell 1
  have g2 := hS.box.cell 2
  have g3 := hS.box.cell 3
  have g4 := hS.box.cell 4
  simp only [List.getElem?_toArray, List.getElem?_cons_zero, List.getElem?_cons_succ] at g0 g1 g2 g3 g4
  clear hE
  go_wp2_with fail
  refine (lleft_any B m e' gm zs _ (HZ.out.ext hS.ext) hS.rm (by omega)).mono ?_
  rintro e wk ⟨rfl, hE⟩
  clear g0 g1 g2 g3 g4
  have hS := hS.ext_ hE
  have g0 := hS.box.cell 0
  have g1 := hS.box.cell 1
  have g2 := hS.box.cell 2
  have g3 := hS.box.cell 3
  have g4 := hS.box.cell 4
  simp only [List.getElem?_toArray, List.getElem?_cons_zero, List.getElem?_cons_succ] at g0 g1 g2 g3 g4
  clear hE

  go_wp2
  go_ret
  exact ⟨rfl, hS.ext⟩
end Go.Proofs.Ytjblogfbcglnmaa
