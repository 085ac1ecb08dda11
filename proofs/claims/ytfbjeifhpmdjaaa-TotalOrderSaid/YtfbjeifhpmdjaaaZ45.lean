/-
  Plain: terms in other orders and in parts. Conditions: those that each theorem names.
-/
import Derived.Test.YtfbjeifhpmdjaaaZ37
import Derived.Test.YtfbjeifhpmdjaaaZ43
import Derived.Test.YtfbjeifhpmdjaaaZ27
import Derived.Test.YtfbjeifhpmdjaaaZ05
namespace Go.Proofs.Ytfbjeifhpmdjaaa
open Nm Rn
set_option linter.unusedVariables false
set_option linter.unusedSimpArgs false

/-- The term at i. -/
def tmA (ts : List Tm) (i : Nat) : Tm := ts.getD i (0, 0, false)
theorem tmA_of {ts : List Tm} {i : Nat} {q : Tm} (h : ts[i]? = some q) : tmA ts i = q := by unfold tmA; rw [List.getD_eq_getElem?_getD, h]; rfl
theorem tmA_lt {ts : List Tm} (ht : ∀ q ∈ ts, q.1 < 18446744073709551616 ∧ q.2.1 < 18446744073709551616) (i : Nat) : (tmA ts i).1 < 18446744073709551616 ∧ (tmA ts i).2.1 < 18446744073709551616 := by
  unfold tmA
  rw [List.getD_eq_getElem?_getD]
  cases h : ts[i]? with
  | none => exact ⟨by decide, by decide⟩
  | some q => exact ht q (List.mem_of_getElem? h)
/-- One term taken. -/
def tkA (S : Sm) (q : Tm) : Sm := S.take q.1 q.2.1 q.2.2
theorem tkA_ok {S : Sm} {q : Tm} (h : S.Ok) (g : q.1 < 18446744073709551616 ∧ q.2.1 < 18446744073709551616) : (tkA S q).Ok := h.take g.1 g.2
/-- From the first on; from the last on; every third. -/
def fwS (ts : List Tm) : Nat → Sm
  | 0 => Sm.nil
  | i + 1 => tkA (fwS ts i) (tmA ts i)
def bwS (ts : List Tm) (K : Nat) : Nat → Sm
  | 0 => Sm.nil
  | i + 1 => tkA (bwS ts K i) (tmA ts (K - 1 - i))
def ptS (ts : List Tm) (j : Nat) : Nat → Sm
  | 0 => Sm.nil
  | i + 1 => if i % 3 = j then tkA (ptS ts j i) (tmA ts i) else ptS ts j i
section
variable {ts : List Tm} (ht : ∀ q ∈ ts, q.1 < 18446744073709551616 ∧ q.2.1 < 18446744073709551616)
include ht
theorem fwS_ok : ∀ i, (fwS ts i).Ok
  | 0 => Sm.Ok.nil
  | i + 1 => tkA_ok (fwS_ok i) (tmA_lt ht i)
theorem bwS_ok (K : Nat) : ∀ i, (bwS ts K i).Ok
  | 0 => Sm.Ok.nil
  | i + 1 => tkA_ok (bwS_ok K i) (tmA_lt ht _)
theorem ptS_ok (j : Nat) : ∀ i, (ptS ts j i).Ok
  | 0 => Sm.Ok.nil
  | i + 1 => by
    unfold ptS
    split
    · exact tkA_ok (ptS_ok j i) (tmA_lt ht i)
    · exact ptS_ok j i
end
theorem cnt_lo {t k : Nat} (h : t + k < 4000000) : cnt t k = t + k := by unfold cnt; rw [if_neg (by omega)]
theorem cntN_lo {b : Bool} {t k : Nat} (h : t + k < 4000000) : cntN b t k = b := by
  unfold cntN
  rw [decide_eq_false (by omega)]
  cases b <;> rfl
theorem add_eff (S : Sm) (x : Nat) (h : S.t + 1 < 4000000) : S.add x = ⟨S.T + (Sm.nil.add x).T, S.p || (Sm.nil.add x).p, S.m || (Sm.nil.add x).m, S.n || (Sm.nil.add x).n, S.t + 1⟩ := by
  have h1 := cnt_lo h
  have h2 := cntN_lo (b := S.n) h
  have h3 : cntN false 0 1 = false := cntN_lo (by omega)
  unfold Sm.add Sm.nil Sm.more Sm.lay
  by_cases hn : isNaN x = true
  · rw [if_pos hn, if_pos hn, h1]; simp
  · rw [if_neg hn, if_neg hn]
    by_cases hi : isInf x = true
    · rw [if_pos hi, if_pos hi]
      by_cases hs : sg x = true
      · rw [if_pos hs, if_pos hs, h1, h2, h3]; simp
      · rw [if_neg hs, if_neg hs, h1, h2, h3]; simp
    · rw [if_neg hi, if_neg hi, h1, h2, h3]; simp
theorem tkA_eff (S : Sm) (q : Tm) (h : S.t + 1 < 4000000) : tkA S q = ⟨S.T + (tkA Sm.nil q).T, S.p || (tkA Sm.nil q).p, S.m || (tkA Sm.nil q).m, S.n || (tkA Sm.nil q).n, S.t + 1⟩ := by
  unfold tkA Sm.take
  by_cases hb : q.2.2 = true
  · rw [if_pos hb, if_pos hb]
    unfold Sm.mul
    by_cases ho : (oddP q.1 || oddP q.2.1) = true
    · rw [if_pos ho, if_pos ho]; exact add_eff S _ h
    · have h1 := cnt_lo h
      have h2 := cntN_lo (b := S.n) h
      have h3 : cntN false 0 1 = false := cntN_lo (by omega)
      rw [if_neg ho, if_neg ho]
      unfold Sm.nil Sm.more Sm.lay
      rw [h1, h2, h3]; simp
  · rw [if_neg hb, if_neg hb]; exact add_eff S _ h
/-- What holds of a sum of terms, whatever their order. -/
structure Fold (S : Sm) (a : Nat) (T : Int) (P M N : Prop) : Prop where
  t : S.t ≤ a
  T : S.T = T
  p : S.p = true ↔ P
  m : S.m = true ↔ M
  n : S.n = true ↔ N
def tvA (q : Tm) : Int := (tkA Sm.nil q).T
def fp (q : Tm) : Prop := (tkA Sm.nil q).p = true
def fm (q : Tm) : Prop := (tkA Sm.nil q).m = true
def fn (q : Tm) : Prop := (tkA Sm.nil q).n = true
theorem Fold.nil : Fold Sm.nil 0 0 False False False := ⟨Nat.le_refl _, rfl, by simp [Sm.nil], by simp [Sm.nil], by simp [Sm.nil]⟩
theorem Fold.tk {S : Sm} {a : Nat} {T : Int} {P M N : Prop} (h : Fold S a T P M N) (q : Tm) (ha : a < 3000000) : Fold (tkA S q) (a + 1) (T + tvA q) (P ∨ fp q) (M ∨ fm q) (N ∨ fn q) := by
  obtain ⟨h1, h2, h3, h4, h5⟩ := h
  rw [tkA_eff S q (by omega)]
  refine ⟨?_, ?_, ?_, ?_, ?_⟩
  · show S.t + 1 ≤ _; omega
  · show S.T + _ = _; rw [h2]; rfl
  · show (S.p || _) = true ↔ _; rw [Bool.or_eq_true, h3]; rfl
  · show (S.m || _) = true ↔ _; rw [Bool.or_eq_true, h4]; rfl
  · show (S.n || _) = true ↔ _; rw [Bool.or_eq_true, h5]; rfl
theorem Fold.merge {S O : Sm} {a b : Nat} {T V : Int} {P M N P' M' N' : Prop} (h : Fold S a T P M N) (g : Fold O b V P' M' N') (hab : a + b < 3000000) : Fold (S.merge O) (a + b) (T + V) (P ∨ P') (M ∨ M') (N ∨ N') := by
  obtain ⟨h1, h2, h3, h4, h5⟩ := h
  obtain ⟨g1, g2, g3, g4, g5⟩ := g
  refine ⟨?_, ?_, ?_, ?_, ?_⟩
  · show cnt S.t O.t ≤ _; rw [cnt_lo (by omega)]; omega
  · show S.T + O.T = _; rw [h2, g2]
  · show (S.p || O.p) = true ↔ _; rw [Bool.or_eq_true, h3, g3]
  · show (S.m || O.m) = true ↔ _; rw [Bool.or_eq_true, h4, g4]
  · show (cntN S.n S.t O.t || O.n) = true ↔ _; rw [cntN_lo (by omega), Bool.or_eq_true, h5, g5]
theorem Fold.same {S O : Sm} {a b : Nat} {T V : Int} {P M N P' M' N' : Prop} (h : Fold S a T P M N) (g : Fold O b V P' M' N') (hT : T = V) (hP : P ↔ P') (hM : M ↔ M') (hN : N ↔ N') : S.state = O.state ∧ S.T = O.T := by
  have e1 : S.p = O.p := Bool.eq_iff_iff.2 (h.p.trans (hP.trans g.p.symm))
  have e2 : S.m = O.m := Bool.eq_iff_iff.2 (h.m.trans (hM.trans g.m.symm))
  have e3 : S.n = O.n := Bool.eq_iff_iff.2 (h.n.trans (hN.trans g.n.symm))
  refine ⟨?_, h.T.trans (hT.trans g.T.symm)⟩
  unfold Sm.state
  rw [e1, e2, e3]
/-- Sums of values; where a mark is met. -/
def sT (ts : List Tm) : Nat → Int
  | 0 => 0
  | i + 1 => sT ts i + tvA (tmA ts i)
def rT3 (ts : List Tm) (j : Nat) : Nat → Int
  | 0 => 0
  | i + 1 => rT3 ts j i + if i % 3 = j then tvA (tmA ts i) else 0
def bT (ts : List Tm) (K : Nat) : Nat → Int
  | 0 => 0
  | i + 1 => bT ts K i + tvA (tmA ts (K - 1 - i))
def Met (f : Tm → Prop) (ts : List Tm) (i : Nat) : Prop := ∃ j, j < i ∧ f (tmA ts j)
def Met3 (f : Tm → Prop) (ts : List Tm) (r i : Nat) : Prop := ∃ j, j < i ∧ j % 3 = r ∧ f (tmA ts j)
def MetB (f : Tm → Prop) (ts : List Tm) (K i : Nat) : Prop := ∃ j, j < i ∧ f (tmA ts (K - 1 - j))
theorem Met.succ (f : Tm → Prop) (ts : List Tm) (i : Nat) : (Met f ts i ∨ f (tmA ts i)) = Met f ts (i + 1) := propext ⟨fun h => by
    rcases h with ⟨j, h1, h2⟩ | h
    · exact ⟨j, by omega, h2⟩
    · exact ⟨i, by omega, h⟩, fun ⟨j, h1, h2⟩ => by
    rcases Nat.lt_or_ge j i with h | h
    · exact .inl ⟨j, h, h2⟩
    · have : j = i := by omega
      subst this; exact .inr h2⟩
theorem MetB.succ (f : Tm → Prop) (ts : List Tm) (K i : Nat) : (MetB f ts K i ∨ f (tmA ts (K - 1 - i))) = MetB f ts K (i + 1) := propext ⟨fun h => by
    rcases h with ⟨j, h1, h2⟩ | h
    · exact ⟨j, by omega, h2⟩
    · exact ⟨i, by omega, h⟩, fun ⟨j, h1, h2⟩ => by
    rcases Nat.lt_or_ge j i with h | h
    · exact .inl ⟨j, h, h2⟩
    · have : j = i := by omega
      subst this; exact .inr h2⟩
theorem Met3.succ (f : Tm → Prop) (ts : List Tm) {r i : Nat} (hr : i % 3 = r) : (Met3 f ts r i ∨ f (tmA ts i)) = Met3 f ts r (i + 1) := propext ⟨fun h => by
    rcases h with ⟨j, h1, h2, h3⟩ | h
    · exact ⟨j, by omega, h2, h3⟩
    · exact ⟨i, by omega, hr, h⟩, fun ⟨j, h1, h2, h3⟩ => by
    rcases Nat.lt_or_ge j i with h | h
    · exact .inl ⟨j, h, h2, h3⟩
    · have : j = i := by omega
      subst this; exact .inr h3⟩
theorem Met3.skip (f : Tm → Prop) (ts : List Tm) {r i : Nat} (hr : i % 3 ≠ r) : Met3 f ts r i = Met3 f ts r (i + 1) := propext ⟨fun ⟨j, h1, h2, h3⟩ => ⟨j, by omega, h2, h3⟩, fun ⟨j, h1, h2, h3⟩ => by
    rcases Nat.lt_or_ge j i with h | h
    · exact ⟨j, h, h2, h3⟩
    · have : j = i := by omega
      subst this; exact absurd h2 hr⟩
theorem Met.zero (f : Tm → Prop) (ts : List Tm) : False = Met f ts 0 := propext ⟨fun h => h.elim, fun ⟨j, h, _⟩ => by omega⟩
theorem MetB.zero (f : Tm → Prop) (ts : List Tm) (K : Nat) : False = MetB f ts K 0 := propext ⟨fun h => h.elim, fun ⟨j, h, _⟩ => by omega⟩
theorem Met3.zero (f : Tm → Prop) (ts : List Tm) (r : Nat) : False = Met3 f ts r 0 := propext ⟨fun h => h.elim, fun ⟨j, h, _⟩ => by omega⟩
theorem fwS_fold (ts : List Tm) : ∀ i, i ≤ 3000 → Fold (fwS ts i) i (sT ts i) (Met fp ts i) (Met fm ts i) (Met fn ts i)
  | 0, _ => ⟨Fold.nil.t, Fold.nil.T, (by rw [← Met.zero fp ts]; exact Fold.nil.p), (by rw [← Met.zero fm ts]; exact Fold.nil.m), (by rw [← Met.zero fn ts]; exact Fold.nil.n)⟩
  | i + 1, h => by
    have := (fwS_fold ts i (by omega)).tk (tmA ts i) (by omega)
    rwa [Met.succ, Met.succ, Met.succ] at this
theorem bwS_fold (ts : List Tm) (K : Nat) : ∀ i, i ≤ 3000 → Fold (bwS ts K i) i (bT ts K i) (MetB fp ts K i) (MetB fm ts K i) (MetB fn ts K i)
  | 0, _ => ⟨Fold.nil.t, Fold.nil.T, (by rw [← MetB.zero fp ts K]; exact Fold.nil.p), (by rw [← MetB.zero fm ts K]; exact Fold.nil.m), (by rw [← MetB.zero fn ts K]; exact Fold.nil.n)⟩
  | i + 1, h => by
    have := (bwS_fold ts K i (by omega)).tk (tmA ts (K - 1 - i)) (by omega)
    rwa [MetB.succ, MetB.succ, MetB.succ] at this
theorem ptS_fold (ts : List Tm) (r : Nat) : ∀ i, i ≤ 3000 → Fold (ptS ts r i) i (rT3 ts r i) (Met3 fp ts r i) (Met3 fm ts r i) (Met3 fn ts r i)
  | 0, _ => ⟨Fold.nil.t, Fold.nil.T, (by rw [← Met3.zero fp ts r]; exact Fold.nil.p), (by rw [← Met3.zero fm ts r]; exact Fold.nil.m), (by rw [← Met3.zero fn ts r]; exact Fold.nil.n)⟩
  | i + 1, h => by
    have ih := ptS_fold ts r i (by omega)
    by_cases hr : i % 3 = r
    · have := ih.tk (tmA ts i) (by omega)
      rw [Met3.succ fp ts hr, Met3.succ fm ts hr, Met3.succ fn ts hr] at this
      rw [show ptS ts r (i + 1) = if i % 3 = r then tkA (ptS ts r i) (tmA ts i) else ptS ts r i from rfl, if_pos hr, show rT3 ts r (i + 1) = rT3 ts r i + if i % 3 = r then tvA (tmA ts i) else 0 from rfl, if_pos hr]
      exact this
    · rw [show ptS ts r (i + 1) = if i % 3 = r then tkA (ptS ts r i) (tmA ts i) else ptS ts r i from rfl, if_neg hr, show rT3 ts r (i + 1) = rT3 ts r i + if i % 3 = r then tvA (tmA ts i) else 0 from rfl, if_neg hr, ← Met3.skip fp ts hr, ← Met3.skip fm ts hr, ← Met3.skip fn ts hr, Int.add_zero]
      exact ⟨by have := ih.t; omega, ih.T, ih.p, ih.m, ih.n⟩
theorem bT_sT (ts : List Tm) {K : Nat} : ∀ i, i ≤ K → bT ts K i + sT ts (K - i) = sT ts K
  | 0, _ => by show (0 : Int) + _ = _; rw [Nat.sub_zero]; omega
  | i + 1, h => by
    have ih := bT_sT ts (K := K) i (by omega)
    have h2 : sT ts (K - 1 - i + 1) = sT ts (K - 1 - i) + tvA (tmA ts (K - 1 - i)) := rfl
    rw [show K - 1 - i + 1 = K - i by omega] at h2
    show bT ts K i + tvA (tmA ts (K - 1 - i)) + _ = _
    rw [show K - (i + 1) = K - 1 - i by omega]
    omega
theorem rT3_sT (ts : List Tm) : ∀ i, rT3 ts 0 i + rT3 ts 1 i + rT3 ts 2 i = sT ts i
  | 0 => rfl
  | i + 1 => by
    have ih := rT3_sT ts i
    show rT3 ts 0 i + (if i % 3 = 0 then tvA (tmA ts i) else 0) + (rT3 ts 1 i + if i % 3 = 1 then tvA (tmA ts i) else 0) + (rT3 ts 2 i + if i % 3 = 2 then tvA (tmA ts i) else 0) = sT ts i + tvA (tmA ts i)
    have : i % 3 = 0 ∨ i % 3 = 1 ∨ i % 3 = 2 := by omega
    rcases this with e | e | e <;> rw [e] <;> simp <;> omega
theorem MetB_Met (f : Tm → Prop) (ts : List Tm) (K : Nat) : Met f ts K ↔ MetB f ts K K := ⟨fun ⟨j, h1, h2⟩ => ⟨K - 1 - j, by omega, by rw [show K - 1 - (K - 1 - j) = j by omega]; exact h2⟩, fun ⟨j, h1, h2⟩ => ⟨K - 1 - j, by omega, h2⟩⟩
theorem Met3_Met (f : Tm → Prop) (ts : List Tm) (K : Nat) : Met f ts K ↔ (Met3 f ts 1 K ∨ ((False ∨ Met3 f ts 2 K) ∨ Met3 f ts 0 K)) := ⟨fun ⟨j, h1, h2⟩ => by
    have : j % 3 = 0 ∨ j % 3 = 1 ∨ j % 3 = 2 := by omega
    rcases this with e | e | e
    · exact .inr (.inr ⟨j, h1, e, h2⟩)
    · exact .inl ⟨j, h1, e, h2⟩
    · exact .inr (.inl (.inr ⟨j, h1, e, h2⟩)), fun h => by
    rcases h with ⟨j, h1, _, h2⟩ | ((h | ⟨j, h1, _, h2⟩) | ⟨j, h1, _, h2⟩)
    · exact ⟨j, h1, h2⟩
    · exact h.elim
    · exact ⟨j, h1, h2⟩
    · exact ⟨j, h1, h2⟩⟩
theorem bw_same (ts : List Tm) {K : Nat} (hK : K ≤ 3000) : (fwS ts K).state = (bwS ts K K).state ∧ (fwS ts K).T = (bwS ts K K).T := by
  refine (fwS_fold ts K hK).same (bwS_fold ts K K hK) ?_ (MetB_Met _ _ _) (MetB_Met _ _ _) (MetB_Met _ _ _)
  have := bT_sT ts (K := K) K (Nat.le_refl _)
  rw [Nat.sub_self] at this
  have h0 : sT ts 0 = 0 := rfl
  omega
/-- The three parts, merged. -/
def alS (ts : List Tm) (K : Nat) : Sm := (ptS ts 1 K).merge ((Sm.nil.merge (ptS ts 2 K)).merge (ptS ts 0 K))
theorem al_same (ts : List Tm) {K : Nat} (hK : K ≤ 3000) : (fwS ts K).state = (alS ts K).state ∧ (fwS ts K).T = (alS ts K).T := by
  have h := (ptS_fold ts 1 K hK).merge ((Fold.nil.merge (ptS_fold ts 2 K hK) (by omega)).merge (ptS_fold ts 0 K hK) (by omega)) (by omega)
  refine (fwS_fold ts K hK).same h ?_ (Met3_Met _ _ _) (Met3_Met _ _ _) (Met3_Met _ _ _)
  have := rT3_sT ts K
  omega
theorem alS_ok {ts : List Tm} (ht : ∀ q ∈ ts, q.1 < 18446744073709551616 ∧ q.2.1 < 18446744073709551616) (K : Nat) : (alS ts K).Ok := (ptS_ok ht 1 K).merge ((Sm.Ok.nil.merge (ptS_ok ht 2 K)).merge (ptS_ok ht 0 K))
/-- What is asked of two sums that are worth the same. -/
theorem ask_same {S O : Sm} (hs : S.state = O.state) (hT : S.T = O.T) (d n : Int) : S.round d = O.round d ∧ S.over d n = O.over d n ∧ S.root d = O.root d ∧ S.sign = O.sign := by
  have he : S.ends = O.ends := by unfold Sm.ends; rw [hs]
  refine ⟨?_, ?_, ?_, ?_⟩
  · unfold Sm.round; rw [hs, hT, he]
  · unfold Sm.over; rw [hs, hT, he]
  · unfold Sm.root; rw [hs, hT]
  · unfold Sm.sign; rw [hs, hT]
end Go.Proofs.Ytfbjeifhpmdjaaa

/-
  The contract of the law package's alike. Conditions: those that each theorem names.
-/
namespace Go.Proofs.Ytfbjeifhpmdjaaa
open Go.RowKit Nm Rn
set_option maxRecDepth 100000
set_option linter.unusedVariables false
set_option linter.unusedSimpArgs false

set_option maxHeartbeats 8000000 in
theorem alike_any {w0 w : World} {L : List Bx} {W : List Sw} {g go : Nat} (S O : Sm) (y : Int) (hy : y < 9223372036854775808) (hs : S.state = O.state) (hT : S.T = O.T) (okS : S.Ok) (okO : O.Ok) (hO : Own w0 (⟨g, 36, S.cs⟩ :: ⟨go, 36, O.cs⟩ :: L) W w) :
    Calls Try.prog 34 #[.pointer (some ⟨g, 0, none⟩), .pointer (some ⟨go, 0, none⟩), .int .i64 y] w fun e w' => e = .returned (.bool true) ∧ Ext w w' := by
  have HBT := Lib.hid (fun r w h => bits4_any r w h)
  have HE0 : Hid (∀ wz, Ext w wz → Own w0 (⟨g, 36, S.cs⟩ :: ⟨go, 36, O.cs⟩ :: L) W wz) := Lib.hid (fun wz hz => hO.ext hz)
  have HG1 := Lib.hid (fun wz (hz : Ext w wz) => tsign_any (g := g) S (fun hs => okS.fit hs) (HE0.out wz hz))
  have HG2 := Lib.hid (fun wz (hz : Ext w wz) => tsign_any (g := go) O (fun hs => okO.fit hs) (HE0.out wz hz).swap)
  have HS1 := Lib.hid (fun wz (hz : Ext w wz) => tstate_S (g := g) S (HE0.out wz hz))
  have HS2 := Lib.hid (fun wz (hz : Ext w wz) => tstate_S (g := go) O (HE0.out wz hz).swap)
  rw [(ask_same hs hT 0 0).2.2.2] at HG1
  rw [hs] at HS1
  have HASK := Lib.hid (fun d => ask_same hs hT d y)
  have HR1 := Lib.hid (fun d wz (hz : Ext w wz) => tround_any (g := g) S d (fun hs => okS.fit hs) (HE0.out wz hz))
  have HR2 := Lib.hid (fun d wz (hz : Ext w wz) => tround_any (g := go) O d (fun hs => okO.fit hs) (HE0.out wz hz).swap)
  have HO1 := Lib.hid (fun d wz (hz : Ext w wz) => tover_any (g := g) S d y hy (fun hs => okS.fit hs) (HE0.out wz hz))
  have HO2 := Lib.hid (fun d wz (hz : Ext w wz) => tover_any (g := go) O d y hy (fun hs => okO.fit hs) (HE0.out wz hz).swap)
  have HQ1 := Lib.hid (fun d wz (hz : Ext w wz) => troot_any (g := g) S d (fun hs => okS.fit hs) (HE0.out wz hz))
  have HQ2 := Lib.hid (fun d wz (hz : Ext w wz) => troot_any (g := go) O d (fun hs => okO.fit hs) (HE0.out wz hz).swap)
  generalize O.sign = sg at *
  generalize O.state = st at *
  clear hs hT okS okO hO hy HE0
  have hE := Ext.refl w
  go_enter Try.func34, Try.ntmps34
  go_wp2_with fail
  go_loopw [7] (fun kv wr => ∃ d : Int, kv = .int .i64 d ∧ -1 ≤ d ∧ d ≤ 2 ∧ Ext w wr) (fun kv _ => (2 - intOf kv).toNat)
  case atStart => exact ⟨-1, rfl, by omega, by omega, hE⟩
  case round =>
    obtain ⟨d, rfl, hd1, hd2, hEr⟩ := hrel
    clear hE
    have hE := hEr
    clear hEr
    by_cases hd : d ≤ 1
    · have q0 : decide (d ≤ 1) = true := decide_eq_true hd
      have hw3 : IntKind.i64.wrap (d + 1) = d + 1 := by rw [IntKind.wrap_i64]; omega
      obtain ⟨k1, k2, k3, -⟩ := HASK.out d
      have HR1 := Lib.hid (HR1.out d)
      have HR2 := Lib.hid (HR2.out d)
      have HO1 := Lib.hid (HO1.out d)
      have HO2 := Lib.hid (HO2.out d)
      have HQ1 := Lib.hid (HQ1.out d)
      have HQ2 := Lib.hid (HQ2.out d)
      rw [k1] at HR1
      rw [k2] at HO1
      rw [k3] at HQ1
      generalize O.round d = V1 at *
      generalize O.over d y = V2 at *
      generalize O.root d = V3 at *
      clear k1 k2 k3
      go_wp2_with fail
      refine (HR1.out _ hE).mono ?_
      rintro e w2 ⟨r, rfl, hr, hc, hE1⟩
      have hE := hE.trans hE1
      clear hE1
      go_wp2_with fail
      refine (HBT.out r _ hr).mono ?_
      rintro e w4 ⟨rfl, rfl⟩
      rw [hc]
      clear hr hc
      go_wp2_with fail
      refine (HR2.out _ hE).mono ?_
      rintro e w2 ⟨r, rfl, hr, hc, hE1⟩
      have hE := hE.trans hE1
      clear hE1
      go_wp2_with fail
      refine (HBT.out r _ hr).mono ?_
      rintro e w4 ⟨rfl, rfl⟩
      rw [hc]
      clear hr hc
      go_wp2_with fail
      refine (HO1.out _ hE).mono ?_
      rintro e w2 ⟨r, rfl, hr, hc, hE1⟩
      have hE := hE.trans hE1
      clear hE1
      go_wp2_with fail
      refine (HBT.out r _ hr).mono ?_
      rintro e w4 ⟨rfl, rfl⟩
      rw [hc]
      clear hr hc
      go_wp2_with fail
      refine (HO2.out _ hE).mono ?_
      rintro e w2 ⟨r, rfl, hr, hc, hE1⟩
      have hE := hE.trans hE1
      clear hE1
      go_wp2_with fail
      refine (HBT.out r _ hr).mono ?_
      rintro e w4 ⟨rfl, rfl⟩
      rw [hc]
      clear hr hc
      go_wp2_with fail
      refine (HQ1.out _ hE).mono ?_
      rintro e w2 ⟨r, rfl, hr, hc, hE1⟩
      have hE := hE.trans hE1
      clear hE1
      go_wp2_with fail
      refine (HBT.out r _ hr).mono ?_
      rintro e w4 ⟨rfl, rfl⟩
      rw [hc]
      clear hr hc
      go_wp2_with fail
      refine (HQ2.out _ hE).mono ?_
      rintro e w2 ⟨r, rfl, hr, hc, hE1⟩
      have hE := hE.trans hE1
      clear hE1
      go_wp2_with fail
      refine (HBT.out r _ hr).mono ?_
      rintro e w4 ⟨rfl, rfl⟩
      rw [hc]
      clear hr hc
      go_wp2_with fail
      go_roundw
      case rel => exact ⟨d + 1, rfl, by omega, by omega, hE⟩
      case measure => simp [intOf]; omega
    · have q0 : decide (d ≤ 1) = false := decide_eq_false hd
      go_wp2_with fail
      refine (HG1.out _ hE).mono ?_
      rintro e w4 ⟨rfl, rfl⟩
      go_wp2_with fail
      refine (HG2.out _ hE).mono ?_
      rintro e w4 ⟨rfl, rfl⟩
      go_wp2_with fail
      refine (HS1.out _ hE).mono ?_
      rintro e w4 ⟨rfl, rfl⟩
      go_wp2_with fail
      refine (HS2.out _ hE).mono ?_
      rintro e w4 ⟨rfl, rfl⟩
      go_wp2_with fail
      go_ret
      exact ⟨rfl, hE⟩
end Go.Proofs.Ytfbjeifhpmdjaaa
