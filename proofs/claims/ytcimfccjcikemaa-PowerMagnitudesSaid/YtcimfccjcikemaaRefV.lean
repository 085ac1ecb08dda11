/-
  The contracts of the document's bounds, third part: how two stand to each other, signs. Conditions: those that each theorem names.
-/
import Derived.Test.YtcimfccjcikemaaRefU
import Derived.Test.YtcimfccjcikemaaRefP
namespace Go.Proofs.Ytcimfccjcikemaa
open Go.RowKit Nm Rn
set_option maxRecDepth 100000
set_option linter.unusedVariables false
set_option linter.unusedSimpArgs false

/-- How two bounds stand to each other. -/
def eC (i : Int) (s : Bool) (N D : Nat) (j : Int) (t : Bool) (N2 D2 : Nat) : Int := if i < j then -1 else if j < i then 1 else if i = 0 then rc s N D t N2 D2 else 0
/-- A bound's sign. -/
def eS (i : Int) (s : Bool) (N : Nat) : Int := if i = 0 then sgnZ s N else i

set_option maxHeartbeats 2000000 in
theorem cmp6_any (i : Int) (s : Bool) (A : Option Addr) (l c : Nat) (B : Option Addr) (k d N D : Nat) (j : Int) (t : Bool) (A2 : Option Addr) (l2 c2 : Nat) (B2 : Option Addr) (k2 d2 N2 D2 : Nat) (w : World) (h1 : RatAt w A l c B k d N D) (h2 : RatAt w A2 l2 c2 B2 k2 d2 N2 D2)
    (hN : nw N ≤ 1073741824) (hD : nw D ≤ 1073741824) (hN2 : nw N2 ≤ 1073741824) (hD2 : nw D2 ≤ 1073741824) (hp : D ≠ 0) (hp2 : D2 ≠ 0) :
    Calls Try.prog 65 #[.agg #[.int .i64 i, .bool s, .slice A l c, .slice B k d], .agg #[.int .i64 j, .bool t, .slice A2 l2 c2, .slice B2 k2 d2]] w fun e w' => e = .returned (.int .i64 (eC i s N D j t N2 D2)) ∧ Ext w w' := by
  have hc := fun w (h1 : RatAt w A l c B k d N D) (h2 : RatAt w A2 l2 c2 B2 k2 d2 N2 D2) => rcmp_any s A l c B k d N D t A2 l2 c2 B2 k2 d2 N2 D2 w h1 h2 hN hD hN2 hD2 hp hp2
  obtain ⟨R, hR⟩ : ∃ R, R = rc s N D t N2 D2 := ⟨_, rfl⟩
  unfold eC
  rw [← hR] at hc ⊢
  have HC := Lib.hid hc
  clear hc hR hN hD hN2 hD2 hp hp2
  have hE : Ext w ((w.alloc (.cells #[.int .i64 i, .bool s, .slice A l c, .slice B k d] 68)).alloc (.cells #[.int .i64 j, .bool t, .slice A2 l2 c2, .slice B2 k2 d2] 68)) := ((Ext.refl w).alloc _).alloc _
  by_cases g1 : i < j
  · have g0 : (i != j) = true := by rw [bne_iff_ne]; omega
    have g2 : decide (i < j) = true := decide_eq_true g1
    rw [if_pos g1]
    clear g1 h1 h2 HC
    go_enter Try.func65, Try.ntmps65
    go_wp2
    go_ret
    exact ⟨rfl, hE⟩
  · by_cases g1' : j < i
    · have g0 : (i != j) = true := by rw [bne_iff_ne]; omega
      have g2 : decide (i < j) = false := decide_eq_false (by omega)
      rw [if_neg g1, if_pos g1']
      clear g1 g1' h1 h2 HC
      go_enter Try.func65, Try.ntmps65
      go_wp2
      go_ret
      exact ⟨rfl, hE⟩
    · have g0 : i = j := by omega
      subst g0
      rw [if_neg g1, if_neg g1']
      clear g1 g1'
      have g0 : (i != i) = false := by simp
      by_cases g3 : i = 0
      · subst g3
        rw [if_pos rfl]
        have h1' := h1.ext hE
        have h2' := h2.ext hE
        clear h1 h2
        go_enter Try.func65, Try.ntmps65
        go_wp2_with fail
        refine (HC.out _ h1' h2').mono ?_
        rintro e w2 ⟨rfl, hE2⟩
        have hEE := hE.trans hE2
        clear h1' h2' hE2 hE
        go_wp2
        go_ret
        exact ⟨rfl, hEE⟩
      · have g4 : (i != 0) = true := by rw [bne_iff_ne]; exact g3
        rw [if_neg g3]
        clear g3 h1 h2 HC
        go_enter Try.func65, Try.ntmps65
        go_wp2
        go_ret
        exact ⟨rfl, hE⟩

set_option maxHeartbeats 1000000 in
theorem sign6_any (i : Int) (s : Bool) (A : Option Addr) (l c : Nat) (B : Option Addr) (k d N D : Nat) (w : World) (h1 : RatAt w A l c B k d N D) (hN : nw N ≤ 1073741824) :
    Calls Try.prog 95 #[.agg #[.int .i64 i, .bool s, .slice A l c, .slice B k d]] w fun e w' => e = .returned (.int .i64 (eS i s N)) ∧ Ext w w' := by
  have hlb : l ≤ 1073741824 := by have := h1.lenN; omega
  have hs1 := fun w (h : RatAt w A l c B k d N D) => rsign_any s A l c (nd N) B k d w h.1 (by omega)
  simp only [nv_nd] at hs1
  obtain ⟨R, hR⟩ : ∃ R, R = sgnZ s N := ⟨_, rfl⟩
  unfold eS
  rw [← hR] at hs1 ⊢
  have HC := Lib.hid hs1
  clear hs1 hR hN hlb
  have hE : Ext w (w.alloc (.cells #[.int .i64 i, .bool s, .slice A l c, .slice B k d] 68)) := (Ext.refl w).alloc _
  by_cases g3 : i = 0
  · subst g3
    rw [if_pos rfl]
    have h1' := h1.ext hE
    clear h1
    go_enter Try.func95, Try.ntmps95
    go_wp2_with fail
    refine (HC.out _ h1').mono ?_
    rintro e w2 ⟨rfl, hE2⟩
    have hEE := hE.trans hE2
    clear h1' hE2 hE
    go_wp2
    go_ret
    exact ⟨rfl, hEE⟩
  · have g4 : (i != 0) = true := by rw [bne_iff_ne]; exact g3
    rw [if_neg g3]
    clear g3 h1 HC
    go_enter Try.func95, Try.ntmps95
    go_wp2
    go_ret
    exact ⟨rfl, hE⟩
end Go.Proofs.Ytcimfccjcikemaa
