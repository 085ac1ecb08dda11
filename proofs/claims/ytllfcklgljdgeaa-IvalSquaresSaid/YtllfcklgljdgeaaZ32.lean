/-
  The contract of the document's comparison of ratios. Conditions: those that each theorem names.
-/
import Derived.Test.YtllfcklgljdgeaaZ24
import Derived.Test.YtllfcklgljdgeaaZ22
import Derived.Test.YtllfcklgljdgeaaZ26
import Derived.Test.YtllfcklgljdgeaaZ29
import Derived.Test.YtllfcklgljdgeaaZ18
namespace Go.Proofs.Ytllfcklgljdgeaa
open Go.RowKit Nm Rn
set_option maxRecDepth 100000
set_option linter.unusedVariables false
set_option linter.unusedSimpArgs false

theorem nw_mul_le (a b : Nat) : nw (a * b) ≤ nw a + nw b := by
  rw [nw_le_iff, Nat.pow_add]
  exact Nat.mul_lt_mul'' ((nw_le_iff a _).1 (Nat.le_refl _)) ((nw_le_iff b _).1 (Nat.le_refl _))
theorem cmpN_int (a b : Nat) : cmpN a b = cmpI (a : Int) b := by
  unfold cmpN cmpI; repeat' split
  all_goals omega
theorem cmpN_rng (a b : Nat) : -1 ≤ cmpN a b ∧ cmpN a b ≤ 1 := by
  unfold cmpN; repeat' split
  all_goals omega
theorem cmpI_neg (a b : Int) : cmpI (-a) (-b) = -cmpI a b := by
  unfold cmpI; repeat' split
  all_goals omega
theorem sgnZ_rng (s : Bool) (n : Nat) : -1 ≤ sgnZ s n ∧ sgnZ s n ≤ 1 := by
  unfold sgnZ; repeat' split
  all_goals omega
theorem sgn_prod (s : Bool) (N D : Nat) (hD : D ≠ 0) : (sgnZ s N = 0 ∧ sn s N * (D : Int) = 0) ∨ (sgnZ s N = 1 ∧ 0 < sn s N * (D : Int) ∧ s = false) ∨ (sgnZ s N = -1 ∧ sn s N * (D : Int) < 0 ∧ s = true) := by
  unfold sgnZ
  by_cases h : N = 0
  · subst h; left; refine ⟨rfl, ?_⟩; unfold sn; cases s <;> simp
  · right
    rw [if_neg h]
    have hp : (0 : Int) < (N : Int) * (D : Int) := Int.mul_pos (by omega) (by omega)
    cases s
    · left; exact ⟨rfl, hp, rfl⟩
    · right; exact ⟨rfl, by show -(N : Int) * (D : Int) < 0; rw [Int.neg_mul]; omega, rfl⟩
theorem rc_lt {s t : Bool} {N D N2 D2 : Nat} (hD : D ≠ 0) (hD2 : D2 ≠ 0) (h : sgnZ s N < sgnZ t N2) : rc s N D t N2 D2 = -1 := by
  unfold rc cmpI
  rcases sgn_prod s N D2 hD2 with h1 | h1 | h1 <;> rcases sgn_prod t N2 D hD with h2 | h2 | h2
  all_goals first | (exfalso; omega) | (rw [if_pos (by omega)])
theorem rc_gt {s t : Bool} {N D N2 D2 : Nat} (hD : D ≠ 0) (hD2 : D2 ≠ 0) (h : sgnZ t N2 < sgnZ s N) : rc s N D t N2 D2 = 1 := by
  unfold rc cmpI
  rcases sgn_prod s N D2 hD2 with h1 | h1 | h1 <;> rcases sgn_prod t N2 D hD with h2 | h2 | h2
  all_goals first | (exfalso; omega) | (rw [if_neg (by omega), if_pos (by omega)])
theorem rc_z {s t : Bool} {N D N2 D2 : Nat} (hD : D ≠ 0) (hD2 : D2 ≠ 0) (h : sgnZ s N = 0) (h' : sgnZ t N2 = 0) : rc s N D t N2 D2 = 0 := by
  unfold rc cmpI
  rcases sgn_prod s N D2 hD2 with h1 | h1 | h1 <;> rcases sgn_prod t N2 D hD with h2 | h2 | h2
  all_goals first | (exfalso; omega) | (rw [if_neg (by omega), if_neg (by omega)])
theorem rc_same {s t : Bool} {N D N2 D2 : Nat} (hD : D ≠ 0) (hD2 : D2 ≠ 0) (h : sgnZ s N ≠ 0) (h' : sgnZ t N2 = sgnZ s N) : rc s N D t N2 D2 = if s then -cmpN (N * D2) (N2 * D) else cmpN (N * D2) (N2 * D) := by
  have hst : s = t := by
    rcases sgn_prod s N D2 hD2 with h1 | h1 | h1 <;> rcases sgn_prod t N2 D hD with h2 | h2 | h2
    all_goals first | (exfalso; omega) | (rw [h1.2.2, h2.2.2])
  subst hst
  unfold rc
  rw [sn_mul, sn_mul, cmpN_int]
  unfold sn
  cases s
  · rfl
  · exact cmpI_neg _ _

set_option maxHeartbeats 4000000 in
theorem rcmp_any (s : Bool) (A : Option Addr) (l c : Nat) (B : Option Addr) (k d N D : Nat) (t : Bool) (A2 : Option Addr) (l2 c2 : Nat) (B2 : Option Addr) (k2 d2 N2 D2 : Nat) (w : World) (h1 : RatAt w A l c B k d N D) (h2 : RatAt w A2 l2 c2 B2 k2 d2 N2 D2)
    (hN : nw N ≤ 1073741824) (hD : nw D ≤ 1073741824) (hN2 : nw N2 ≤ 1073741824) (hD2 : nw D2 ≤ 1073741824) (hp : D ≠ 0) (hp2 : D2 ≠ 0) :
    Calls Try.prog 99 #[.agg #[.bool s, .slice A l c, .slice B k d], .agg #[.bool t, .slice A2 l2 c2, .slice B2 k2 d2]] w fun e w' => e = .returned (.int .i64 (rc s N D t N2 D2)) ∧ Ext w w' := by
  have hlb : l ≤ 1073741824 := by have := h1.lenN; omega
  have hkb : k ≤ 1073741824 := by have := h1.lenD; omega
  have hl2b : l2 ≤ 1073741824 := by have := h2.lenN; omega
  have hk2b : k2 ≤ 1073741824 := by have := h2.lenD; omega
  have hs1 := fun w (h : RatAt w A l c B k d N D) => rsign_any s A l c (nd N) B k d w h.1 (by omega)
  have hs2 := fun w (h : RatAt w A2 l2 c2 B2 k2 d2 N2 D2) => rsign_any t A2 l2 c2 (nd N2) B2 k2 d2 w h.1 (by omega)
  simp only [nv_nd] at hs1 hs2
  have ht1 := fun w (h : RatAt w A l c B k d N D) (h' : RatAt w A2 l2 c2 B2 k2 d2 N2 D2) => times_any A l c (nd N) B2 k2 d2 (nd D2) w h.1 (by omega) h'.2 (by omega)
  have ht2 := fun w (h : RatAt w A l c B k d N D) (h' : RatAt w A2 l2 c2 B2 k2 d2 N2 D2) => times_any A2 l2 c2 (nd N2) B k d (nd D) w h'.1 (by omega) h.2 (by omega)
  simp only [nv_nd] at ht1 ht2
  have sz1 : nw (N * D2) ≤ 2147483648 := by have := nw_mul_le N D2; omega
  have sz2 : nw (N2 * D) ≤ 2147483648 := by have := nw_mul_le N2 D; omega
  have r1 := sgnZ_rng s N
  have r2 := sgnZ_rng t N2
  have e1 := rc_lt (s := s) (t := t) (N := N) (N2 := N2) hp hp2
  have e2 := rc_gt (s := s) (t := t) (N := N) (N2 := N2) hp hp2
  have e3 := rc_z (s := s) (t := t) (N := N) (N2 := N2) hp hp2
  have e4 := rc_same (s := s) (t := t) (N := N) (N2 := N2) hp hp2
  have r3 := cmpN_rng (N * D2) (N2 * D)
  have hcm := fun (w : World) A n c B m d h hn k hm => cmp_any A n c (nd (N * D2)) B m d (nd (N2 * D)) w h hn k hm
  simp only [nv_nd] at hcm
  obtain ⟨x, hx⟩ : ∃ x, x = cmpN (N * D2) (N2 * D) := ⟨_, rfl⟩
  obtain ⟨p, hpp⟩ : ∃ p, p = sgnZ s N := ⟨_, rfl⟩
  obtain ⟨q, hqq⟩ : ∃ q, q = sgnZ t N2 := ⟨_, rfl⟩
  obtain ⟨R, hR⟩ : ∃ R, R = rc s N D t N2 D2 := ⟨_, rfl⟩
  obtain ⟨V1, hV1⟩ : ∃ V, V = N * D2 := ⟨_, rfl⟩
  obtain ⟨V2, hV2⟩ : ∃ V, V = N2 * D := ⟨_, rfl⟩
  rw [← hpp] at hs1 r1 e1 e2 e3 e4
  rw [← hqq] at hs2 r2 e1 e2 e3 e4
  rw [← hR] at e1 e2 e3 e4 ⊢
  rw [← hx] at e4 r3 hcm
  rw [← hV1] at ht1 sz1 hcm
  rw [← hV2] at ht2 sz2 hcm
  have hwr : IntKind.i64.wrap (-x) = -x := by simp [IntKind.wrap, IntKind.bits, IntKind.signed]; omega
  have HS1 := Lib.hid hs1
  have HS2 := Lib.hid hs2
  have HT1 := Lib.hid ht1
  have HT2 := Lib.hid ht2
  have HCM := Lib.hid hcm
  have HSZ := Lib.hid (And.intro sz1 sz2)
  clear hs1 hs2 ht1 ht2 hcm sz1 sz2 hx hpp hqq hR hV1 hV2 hN hD hN2 hD2 hp hp2 hlb hkb hl2b hk2b
  obtain ⟨S, hS⟩ : ∃ S : World → Prop, S = fun wz => Blk wz w.heap.size 45 #[.bool s, .slice A l c, .slice B k d] ∧ Blk wz (w.heap.size + 1) 45 #[.bool t, .slice A2 l2 c2, .slice B2 k2 d2] ∧ RatAt wz A l c B k d N D ∧ RatAt wz A2 l2 c2 B2 k2 d2 N2 D2 ∧ Ext w wz := ⟨_, rfl⟩
  have hSE : ∀ w w', S w → Ext w w' → S w' := fun w w' h1 h2 => by rw [hS] at h1 ⊢; exact ⟨h1.1.ext h2, h1.2.1.ext h2, h1.2.2.1.ext h2, h1.2.2.2.1.ext h2, h1.2.2.2.2.trans h2⟩
  have hS0 : S ((w.alloc (.cells #[.bool s, .slice A l c, .slice B k d] 45)).alloc (.cells #[.bool t, .slice A2 l2 c2, .slice B2 k2 d2] 45)) := by
    have hE : Ext w ((w.alloc (.cells #[.bool s, .slice A l c, .slice B k d] 45)).alloc (.cells #[.bool t, .slice A2 l2 c2, .slice B2 k2 d2] 45)) := ((Ext.refl w).alloc _).alloc _
    rw [hS]; exact ⟨(Blk.new w _ _).ext ((Ext.refl _).alloc _), Blk.next w _ _ _, h1.ext hE, h2.ext hE, hE⟩
  have HS := Lib.hid hS
  have HSE := Lib.hid hSE
  clear hS hSE h1 h2
  have three : q < p ∨ p < q ∨ p = q := by omega
  have HE1 := Lib.hid e1
  have HE2 := Lib.hid e2
  have HE3 := Lib.hid e3
  have HE4 := Lib.hid e4
  clear e1 e2 e3 e4
  have hsr0 := hS0
  rw [HS.out] at hsr0
  go_enter Try.func99, Try.ntmps99
  go_wp2_with fail
  refine (HS1.out _ hsr0.2.2.1).mono ?_
  rintro e w2 ⟨rfl, hE2⟩
  have hS2 := HSE.out _ _ hS0 hE2
  clear hS0 hsr0 hE2
  have hsr2 := hS2
  rw [HS.out] at hsr2
  have b0 : w2.cell? ⟨w.heap.size + 1, 0, none⟩ = some (.bool t) := hsr2.2.1.cell 0
  have b1 : w2.cell? ⟨w.heap.size + 1, 1, none⟩ = some (.slice A2 l2 c2) := hsr2.2.1.cell 1
  have b2 : w2.cell? ⟨w.heap.size + 1, 2, none⟩ = some (.slice B2 k2 d2) := hsr2.2.1.cell 2
  have hrr := hsr2.2.2.2.1
  clear hsr2
  go_wp2_with fail
  refine (HS2.out _ hrr).mono ?_
  rintro e w3 ⟨rfl, hE3⟩
  have hS3 := HSE.out _ _ hS2 hE3
  clear hS2 hE3 hrr b0 b1 b2
  rcases three with h3 | h3 | h3
  · have g1 : decide (p < q) = false := decide_eq_false (by omega)
    have g2 : decide (q < p) = true := decide_eq_true h3
    rw [HS.out] at hS3
    have hEw := hS3.2.2.2.2
    go_wp2
    go_ret
    exact ⟨ret_int (HE2.out h3).symm, hEw⟩
  · have g1 : decide (p < q) = true := decide_eq_true h3
    rw [HS.out] at hS3
    have hEw := hS3.2.2.2.2
    go_wp2
    go_ret
    exact ⟨ret_int (HE1.out h3).symm, hEw⟩
  · subst h3
    have g1 : decide (p < p) = false := decide_eq_false (by omega)
    obtain ⟨sp, hsp⟩ : ∃ sp : Nat → Sp, sp = ofList [det (.pointer (some ⟨w.heap.size, 1, none⟩)), det (.slice A l c), det (.pointer (some ⟨w.heap.size + 1, 2, none⟩)), det (.slice B2 k2 d2), anyOf (fun v wz => ∃ A n c, v = .slice A n c ∧ Wds wz A n c (nd V1)), det (.pointer (some ⟨w.heap.size + 1, 1, none⟩)), det (.slice A2 l2 c2), det (.pointer (some ⟨w.heap.size, 2, none⟩)), det (.slice B k d), anyOf (fun v wz => ∃ A n c, v = .slice A n c ∧ Wds wz A n c (nd V2))] := ⟨_, rfl⟩
    have HSP := Lib.hid hsp
    clear hsp
    have hS4 : S { w3 with drawn := w3.drawn + 1 } := HSE.out _ _ hS3 (Ext.refl w3).drew
    go_wp2_with fail
    refine wp_region_loose 10 S sp (by kernel_rfl) (by kernel_rfl) hS4 HSE.out ?_
    simp only [List.take_succ_cons, List.take_zero, List.drop_succ_cons, List.drop_zero]
    repeat (refine wpX_step (fun K hK => ?_)
            go_simp
            first
            | (refine ⟨by rw [HSP.out]; rfl, hK _ _ ?_⟩
               clear hK K)
            | (refine StepY.det (by rw [HSP.out]; rfl) ?_ ?_
               · intro wz hz hF
                 have hz' := hz
                 rw [HS.out] at hz'
                 have g0 := hz'.1.cell 0
                 have g1 := hz'.1.cell 1
                 have g2 := hz'.1.cell 2
                 have g3 := hz'.2.1.cell 0
                 have g4 := hz'.2.1.cell 1
                 have g5 := hz'.2.1.cell 2
                 simp only [List.getElem?_toArray, List.getElem?_cons_zero, List.getElem?_cons_succ] at g0 g1 g2 g3 g4 g5
                 clear hz' hF
                 go_simp
                 exact ⟨rfl, Ext.refl _⟩
               refine hK _ _ ?_
               clear hK K)
            | (refine StepY.any (by rw [HSP.out]; rfl) ?_ ?_
               · intro wz hz hF
                 have hz' := hz
                 rw [HS.out] at hz'
                 have hx := hz'.2.2.1
                 have hy := hz'.2.2.2.1
                 clear hz'
                 go_simp
                 go_at_call 98
                 first
                 | (with_reducible refine (HT1.out _ hx hy).mono ?_)
                 | (with_reducible refine (HT2.out _ hx hy).mono ?_)
                 rintro e w2 ⟨A1, n1, c1, rfl, hW1, hE1⟩
                 exact ⟨_, rfl, ⟨A1, n1, c1, rfl, hW1⟩, hE1⟩
               intro v
               refine hK _ _ ?_
               clear hK K))
    refine wpX_nil ?_
    intro w5 hz hF
    obtain ⟨wa, ea, A3, n3, c3, hv, hw3⟩ := fact_any (hF 4 (by omega)) (by rw [HSP.out]; rfl)
    obtain ⟨wb, eb, A4, n4, c4, hv', hw4⟩ := fact_any (hF 9 (by omega)) (by rw [HSP.out]; rfl)
    clear hF
    simp only [asFun, List.nil_append, List.cons_append, List.getD_cons_succ, List.getD_cons_zero] at hv hv'
    subst hv hv'
    have hk3 := hw3.ext ea
    have hk4 := hw4.ext eb
    have hl3 : n3 ≤ 2147483648 := by have h1 := hk3.len; have h2 := HSZ.out; rw [nd_length] at h1; omega
    have hl4 : n4 ≤ 2147483648 := by have h1 := hk4.len; have h2 := HSZ.out; rw [nd_length] at h1; omega
    clear ea eb hw3 hw4 HSZ
    go_wp2_with fail
    refine (HCM.out _ _ _ _ _ _ _ hk3 (by omega) hk4 (by omega)).mono ?_
    rintro e w6 ⟨rfl, qn, rfl⟩
    have hS6 := HSE.out _ _ hz ((Ext.refl w5).drewN qn)
    generalize w5.drewN qn = w6 at hS6 ⊢
    rw [HS.out] at hS6
    have hEw := hS6.2.2.2.2
    have b0 : w6.cell? ⟨w.heap.size, 0, none⟩ = some (.bool s) := hS6.1.cell 0
    clear hS6 hz hS4 hS3
    have hz0 : p = 0 ∨ p ≠ 0 := by omega
    rcases hz0 with h0 | h0
    · subst h0
      have hres := HE3.out (by first | trivial | rfl) (by first | trivial | rfl)
      cases s
      all_goals
        go_wp2
        go_ret
        exact ⟨ret_int hres.symm, hEw⟩
    · have g3 : (p == 0) = false := by rw [beq_eq_false_iff_ne]; exact h0
      have hres := HE4.out h0 (by first | trivial | rfl)
      cases s
      all_goals
        go_wp2
        go_ret
        exact ⟨ret_int hres.symm, hEw⟩
end Go.Proofs.Ytllfcklgljdgeaa

/-
  The contracts of the document's bounds, third part: how two stand to each other, signs. Conditions: those that each theorem names.
-/
namespace Go.Proofs.Ytllfcklgljdgeaa
open Go.RowKit Nm Rn
set_option maxRecDepth 100000
set_option linter.unusedVariables false
set_option linter.unusedSimpArgs false

/-- How two bounds stand to each other. -/
def eC (i : Int) (s : Bool) (N D : Nat) (j : Int) (t : Bool) (N2 D2 : Nat) : Int := if i < j then -1 else if j < i then 1 else if i = 0 then rc s N D t N2 D2 else 0
/-- A bound's sign. -/
def eS (i : Int) (s : Bool) (N : Nat) : Int := if i = 0 then sgnZ s N else i

set_option maxHeartbeats 2000000 in
theorem cmp6_any (i : Int) (s : Bool) (A : Option Addr) (l c : Nat) (B : Option Addr) (k d N D : Nat) (j : Int) (t : Bool) (A2 : Option Addr) (l2 c2 : Nat) (B2 : Option Addr) (k2 d2 N2 D2 : Nat) (w : World) (h1 : RatAt w A l c B k d N D) (h2 : RatAt w A2 l2 c2 B2 k2 d2 N2 D2)
    (hN : nw N ≤ 1073741824) (hD : nw D ≤ 1073741824) (hN2 : nw N2 ≤ 1073741824) (hD2 : nw D2 ≤ 1073741824) (hp : D ≠ 0) (hp2 : D2 ≠ 0) :
    Calls Try.prog 65 #[.agg #[.int .i64 i, .bool s, .slice A l c, .slice B k d], .agg #[.int .i64 j, .bool t, .slice A2 l2 c2, .slice B2 k2 d2]] w fun e w' => e = .returned (.int .i64 (eC i s N D j t N2 D2)) ∧ Ext w w' := by
  have hc := fun w (h1 : RatAt w A l c B k d N D) (h2 : RatAt w A2 l2 c2 B2 k2 d2 N2 D2) => rcmp_any s A l c B k d N D t A2 l2 c2 B2 k2 d2 N2 D2 w h1 h2 hN hD hN2 hD2 hp hp2
  obtain ⟨R, hR⟩ : ∃ R, R = rc s N D t N2 D2 := ⟨_, rfl⟩
  unfold eC
  rw [← hR] at hc ⊢
  have HC := Lib.hid hc
  clear hc hR hN hD hN2 hD2 hp hp2
  have hE : Ext w ((w.alloc (.cells #[.int .i64 i, .bool s, .slice A l c, .slice B k d] 47)).alloc (.cells #[.int .i64 j, .bool t, .slice A2 l2 c2, .slice B2 k2 d2] 47)) := ((Ext.refl w).alloc _).alloc _
  by_cases g1 : i < j
  · have g0 : (i != j) = true := by rw [bne_iff_ne]; omega
    have g2 : decide (i < j) = true := decide_eq_true g1
    rw [if_pos g1]
    clear g1 h1 h2 HC
    go_enter Try.func65, Try.ntmps65
    go_wp2
    go_ret
    exact ⟨rfl, hE⟩
  · by_cases g1' : j < i
    · have g0 : (i != j) = true := by rw [bne_iff_ne]; omega
      have g2 : decide (i < j) = false := decide_eq_false (by omega)
      rw [if_neg g1, if_pos g1']
      clear g1 g1' h1 h2 HC
      go_enter Try.func65, Try.ntmps65
      go_wp2
      go_ret
      exact ⟨rfl, hE⟩
    · have g0 : i = j := by omega
      subst g0
      rw [if_neg g1, if_neg g1']
      clear g1 g1'
      have g0 : (i != i) = false := by simp
      by_cases g3 : i = 0
      · subst g3
        rw [if_pos rfl]
        have h1' := h1.ext hE
        have h2' := h2.ext hE
        clear h1 h2
        go_enter Try.func65, Try.ntmps65
        go_wp2_with fail
        refine (HC.out _ h1' h2').mono ?_
        rintro e w2 ⟨rfl, hE2⟩
        have hEE := hE.trans hE2
        clear h1' h2' hE2 hE
        go_wp2
        go_ret
        exact ⟨rfl, hEE⟩
      · have g4 : (i != 0) = true := by rw [bne_iff_ne]; exact g3
        rw [if_neg g3]
        clear g3 h1 h2 HC
        go_enter Try.func65, Try.ntmps65
        go_wp2
        go_ret
        exact ⟨rfl, hE⟩

set_option maxHeartbeats 1000000 in
theorem sign6_any (i : Int) (s : Bool) (A : Option Addr) (l c : Nat) (B : Option Addr) (k d N D : Nat) (w : World) (h1 : RatAt w A l c B k d N D) (hN : nw N ≤ 1073741824) :
    Calls Try.prog 44 #[.agg #[.int .i64 i, .bool s, .slice A l c, .slice B k d]] w fun e w' => e = .returned (.int .i64 (eS i s N)) ∧ Ext w w' := by
  have hlb : l ≤ 1073741824 := by have := h1.lenN; omega
  have hs1 := fun w (h : RatAt w A l c B k d N D) => rsign_any s A l c (nd N) B k d w h.1 (by omega)
  simp only [nv_nd] at hs1
  obtain ⟨R, hR⟩ : ∃ R, R = sgnZ s N := ⟨_, rfl⟩
  unfold eS
  rw [← hR] at hs1 ⊢
  have HC := Lib.hid hs1
  clear hs1 hR hN hlb
  have hE : Ext w (w.alloc (.cells #[.int .i64 i, .bool s, .slice A l c, .slice B k d] 47)) := (Ext.refl w).alloc _
  by_cases g3 : i = 0
  · subst g3
    rw [if_pos rfl]
    have h1' := h1.ext hE
    clear h1
    go_enter Try.func44, Try.ntmps44
    go_wp2_with fail
    refine (HC.out _ h1').mono ?_
    rintro e w2 ⟨rfl, hE2⟩
    have hEE := hE.trans hE2
    clear h1' hE2 hE
    go_wp2
    go_ret
    exact ⟨rfl, hEE⟩
  · have g4 : (i != 0) = true := by rw [bne_iff_ne]; exact g3
    rw [if_neg g3]
    clear g3 h1 HC
    go_enter Try.func44, Try.ntmps44
    go_wp2
    go_ret
    exact ⟨rfl, hE⟩
end Go.Proofs.Ytllfcklgljdgeaa

/-
  Plain: the bounds of patterns: how they stand to each other, signs, magnitudes, the least interval between two. Conditions: those that each theorem names.
-/
namespace Go.Proofs.Ytllfcklgljdgeaa
open Go.RowKit Nm Rn
set_option linter.unusedVariables false
set_option linter.unusedSimpArgs false

theorem key_fin {x : Nat} (h : mg x < infR) : -9218868437227405312 < key x ∧ key x < 9218868437227405312 := by
  have e := infR_val
  unfold key
  split <;> omega
theorem bnd_cases {x : Nat} (hx : x < 18446744073709551616) (hn : isNaN x = false) :
    (x = infR ∧ bI x = 1 ∧ key x = 9218868437227405312) ∨ (x = minf ∧ bI x = -1 ∧ key x = -9218868437227405312) ∨
    (bI x = 0 ∧ bNeg x = (sg x && decide (mg x ≠ 0)) ∧ bN x = fbN x ∧ bD x = fbD x ∧ -9218868437227405312 < key x ∧ key x < 9218868437227405312 ∧ mg x < infR ∧ x ≠ infR ∧ x ≠ minf) := by
  by_cases h1 : x = infR
  · subst h1; left; exact ⟨rfl, by unfold bI; rw [if_pos rfl], key_inf⟩
  · by_cases h2 : x = minf
    · subst h2; right; left; exact ⟨rfl, by unfold bI; rw [if_neg h1, if_pos rfl], key_minf⟩
    · right; right
      have hf := mg_fin hx hn h1 h2
      have hk := key_fin hf
      exact ⟨by unfold bI; rw [if_neg h1, if_neg h2], by unfold bNeg; rw [if_neg h1, if_neg h2], by unfold bN; rw [if_neg h1, if_neg h2], by unfold bD; rw [if_neg h1, if_neg h2], hk.1, hk.2, hf, h1, h2⟩

theorem eC_bits {x y : Nat} (hx : x < 18446744073709551616) (hy : y < 18446744073709551616) (nx : isNaN x = false) (ny : isNaN y = false) :
    eC (bI x) (bNeg x) (bN x) (bD x) (bI y) (bNeg y) (bN y) (bD y) = cmpI (key x) (key y) := by
  have hc := rc_bits x y
  unfold eC
  rcases bnd_cases hx nx with h | h | h <;> rcases bnd_cases hy ny with g | g | g
  case inr.inr.inr.inr =>
    rw [h.1, g.1, if_neg (by omega), if_neg (by omega), if_pos rfl, h.2.1, h.2.2.1, h.2.2.2.1, g.2.1, g.2.2.1, g.2.2.2.1, hc]
  all_goals
    unfold cmpI
    repeat' split
    all_goals omega

theorem eS_bits {x : Nat} (hx : x < 18446744073709551616) (nx : isNaN x = false) : eS (bI x) (bNeg x) (bN x) = cmpI (key x) 0 := by
  unfold eS
  rcases bnd_cases hx nx with h | h | h
  · rw [h.2.1, h.2.2]; rfl
  · rw [h.2.1, h.2.2]; rfl
  · rw [h.1, if_pos rfl, h.2.1, h.2.2.1]
    unfold sgnZ
    by_cases h0 : mg x = 0
    · rw [if_pos ((fbN_zero x).2 h0)]
      have : key x = 0 := by unfold key; rw [h0]; split <;> rfl
      rw [this]; rfl
    · rw [if_neg (fun e => h0 ((fbN_zero x).1 e)), decide_eq_true h0, Bool.and_true]
      cases hs : sg x
      · have hk : key x = (mg x : Int) := by unfold key; rw [hs]; rfl
        rw [hk]; unfold cmpI
        show (1 : Int) = _
        rw [if_neg (by omega), if_pos (by omega)]
      · have hk : key x = -(mg x : Int) := by unfold key; rw [hs]; rfl
        rw [hk]; unfold cmpI
        show (-1 : Int) = _
        rw [if_pos (by omega)]

/-- A pattern's magnitude. -/
def mx (x : Nat) : Nat := if key x < 0 then mg x else x
theorem mx_neg {x : Nat} (hx : x < 18446744073709551616) (nx : isNaN x = false) (hk : key x < 0) :
    bI (mg x) = -(bI x) ∧ bNeg (mg x) = (!bNeg x && decide (bN x ≠ 0)) ∧ bN (mg x) = bN x ∧ bD (mg x) = bD x := by
  have i1 := infR_val
  have i2 := minf_val
  rcases bnd_cases hx nx with h | h | h
  · exfalso; omega
  · have e : mg x = infR := by rw [h.1]; rfl
    rw [e, h.1]
    have n1 : minf ≠ infR := by omega
    refine ⟨?_, ?_, ?_, ?_⟩
    · unfold bI; rw [if_pos rfl, if_neg n1, if_pos rfl]; rfl
    · have : bN minf = 0 := by unfold bN; rw [if_neg n1, if_pos rfl]; exact fracN_zero 1 0
      rw [this]
      unfold bNeg; rw [if_pos rfl, if_neg n1, if_pos rfl]; rfl
    · unfold bN; rw [if_pos rfl, if_neg n1, if_pos rfl]
    · unfold bD; rw [if_pos rfl, if_neg n1, if_pos rfl]
  · obtain ⟨h1, h2, h3, h4, _, _, hf, _, _⟩ := h
    have hm : mg x < 9223372036854775808 := by unfold mg; omega
    have hs : sg x = true := by
      revert hk; unfold key; cases sg x
      · intro hk; rw [if_neg (by simp)] at hk; omega
      · intro _; rfl
    have h0 : mg x ≠ 0 := by
      intro h0; revert hk; unfold key; rw [h0]; split <;> omega
    have e2 : mg (mg x) = mg x := by unfold mg; omega
    have e3 : sg (mg x) = false := decide_eq_false (by omega)
    have eN : fbN (mg x) = fbN x ∧ fbD (mg x) = fbD x := by
      have e1 : mg x % 4503599627370496 = x % 4503599627370496 := by unfold mg; omega
      have e2 : mg x / 4503599627370496 % 2048 = x / 4503599627370496 % 2048 := by unfold mg; omega
      unfold fbN fbD fbSig fbExp
      rw [e1, e2]
      exact ⟨rfl, rfl⟩
    have n1 : mg x ≠ infR := by omega
    have n2 : mg x ≠ minf := by omega
    rw [h1, h2, h3, h4]
    refine ⟨?_, ?_, ?_, ?_⟩
    · unfold bI; rw [if_neg n1, if_neg n2]; rfl
    · unfold bNeg; rw [if_neg n1, if_neg n2, e3, hs, decide_eq_true h0]; rfl
    · unfold bN; rw [if_neg n1, if_neg n2]; exact eN.1
    · unfold bD; rw [if_neg n1, if_neg n2]; exact eN.2

theorem mx_lt {x : Nat} (hx : x < 18446744073709551616) : mx x < 18446744073709551616 := by unfold mx mg; split <;> omega
theorem mx_nan {x : Nat} (hx : isNaN x = false) : isNaN (mx x) = false := by
  unfold mx; split
  · have : mg (mg x) = mg x := by unfold mg; omega
    unfold isNaN at hx ⊢; rw [this]; exact hx
  · exact hx
theorem mx_key {x : Nat} : key (mx x) = if key x < 0 then -key x else key x := by
  unfold mx
  split
  · rename_i h
    have hm : mg x < 9223372036854775808 := by unfold mg; omega
    have e2 : mg (mg x) = mg x := by unfold mg; omega
    have e3 : sg (mg x) = false := decide_eq_false (by omega)
    unfold key at h ⊢
    rw [e2, e3]
    revert h
    cases sg x
    · intro h; rw [if_neg (by simp)] at h; omega
    · intro _; simp
  · rfl

theorem b_zero : bI 0 = 0 ∧ bNeg 0 = false ∧ bN 0 = fracN 0 1 0 ∧ bD 0 = fracD 0 1 0 := ⟨rfl, rfl, rfl, rfl⟩

/-- The least interval between the bounds of two patterns. -/
theorem ls_lo {x : Nat} (hx : x < 18446744073709551616) (nx : isNaN x = false) (h : x ≠ infR) : lsLo (bI x) (bNeg x) (bN x) (bD x) = pl x := by
  unfold lsLo
  rcases bnd_cases hx nx with g | g | g
  · exact absurd g.1 h
  · rw [g.2.1, if_neg (by omega), g.1]; rfl
  · rw [g.1, if_pos rfl, g.2.1, g.2.2.1, g.2.2.2.1]; exact rnd_bits (-1) hx g.2.2.2.2.2.2.1
theorem ls_hi {x : Nat} (hx : x < 18446744073709551616) (nx : isNaN x = false) (h : x ≠ minf) : lsHi (bI x) (bNeg x) (bN x) (bD x) = pl x := by
  unfold lsHi
  rcases bnd_cases hx nx with g | g | g
  · rw [g.2.1, if_neg (by omega), g.1]; rfl
  · exact absurd g.1 h
  · rw [g.1, if_pos rfl, g.2.1, g.2.2.1, g.2.2.2.1]; exact rnd_bits 1 hx g.2.2.2.2.2.2.1
end Go.Proofs.Ytllfcklgljdgeaa

/-
  Plain: squares of bounds of patterns: how they stand to each other, what they are rounded to. Conditions: those that each theorem names.
-/
namespace Go.Proofs.Ytllfcklgljdgeaa
open Go.RowKit Nm Rn
set_option linter.unusedVariables false
set_option linter.unusedSimpArgs false

/-- The square of a bound. -/
def qI (p : Nat) : Int := if key p = 0 then 0 else if bI p ≠ 0 then 1 else 0
def qN (p : Nat) : Nat := if key p = 0 then fracN 0 1 0 else if bI p ≠ 0 then fracN 0 1 0 else fracN (bN p * bN p) (bD p * bD p) 0
def qD (p : Nat) : Nat := if key p = 0 then fracD 0 1 0 else if bI p ≠ 0 then fracD 0 1 0 else fracD (bN p * bN p) (bD p * bD p) 0
theorem f0N : fracN 0 1 0 = 0 := by decide
theorem f0D : fracD 0 1 0 = 1 := by decide
theorem key_zero {p : Nat} : key p = 0 ↔ mg p = 0 := by unfold key; split <;> omega
theorem sv_zero {p : Nat} (h : mg p = 0) : sv p = 0 := by
  have := sv_abs p
  rw [h, rv_zero] at this
  omega
/-- A finite one's square, as a ratio. -/
theorem sq_val {p : Nat} (hp : p < 18446744073709551616) (hn : isNaN p = false) (h : qI p = 0) : qN p * (K74 * K74) = rv (mg p) * rv (mg p) * qD p ∧ qD p ≠ 0 ∧ mg p < infR := by
  have hinf : mg 0 = 0 := rfl
  unfold qI at h
  unfold qN qD
  by_cases h0 : key p = 0
  · rw [if_pos h0, if_pos h0, f0N, f0D, key_zero.1 h0, rv_zero]
    refine ⟨by simp, by omega, ?_⟩
    rw [infR_val]; omega
  · rw [if_neg h0] at h ⊢
    rw [if_neg h0]
    by_cases h1 : bI p ≠ 0
    · rw [if_pos h1] at h; cases h
    · rw [if_neg h1, if_neg h1]
      rcases bnd3 hp hn with ⟨e, e2⟩ | ⟨e, e2⟩ | ⟨a1, a2, a3, a4, a5, a6⟩
      · rw [e2] at h1; exact absurd (by omega) h1
      · rw [e2] at h1; exact absurd (by omega) h1
      · rw [a3, a4]
        have hD : 0 < fbD p * fbD p := Nat.mul_pos (fbD_pos p) (fbD_pos p)
        refine ⟨?_, by have := fracD_pos (n := fbN p * fbN p) (d := fbD p * fbD p) 0 (by omega); omega, a5⟩
        have h2 := frac_val (n := fbN p * fbN p) (d := fbD p * fbD p) (e := 0) (p := 0) (q := 0) rfl
        rw [Nat.pow_zero, Nat.mul_one, Nat.mul_one] at h2
        have h3 := fb_val p
        refine Nat.eq_of_mul_eq_mul_right hD ?_
        have e1 : fracN (fbN p * fbN p) (fbD p * fbD p) 0 * (K74 * K74) * (fbD p * fbD p) = (fracN (fbN p * fbN p) (fbD p * fbD p) 0 * (fbD p * fbD p)) * (K74 * K74) := by
          simp only [Nat.mul_assoc, Nat.mul_comm, Nat.mul_left_comm]
        rw [e1, h2]
        have e2 : fbN p * fbN p * fracD (fbN p * fbN p) (fbD p * fbD p) 0 * (K74 * K74) = (fbN p * K74) * (fbN p * K74) * fracD (fbN p * fbN p) (fbD p * fbD p) 0 := by
          simp only [Nat.mul_assoc, Nat.mul_comm, Nat.mul_left_comm]
        rw [e2, h3]
        simp only [Nat.mul_assoc, Nat.mul_comm, Nat.mul_left_comm]
theorem qI_cases {p : Nat} (hp : p < 18446744073709551616) (hn : isNaN p = false) : (qI p = 0 ∧ mg p < infR) ∨ (qI p = 1 ∧ mg p = infR) := by
  rcases bnd3 hp hn with ⟨e, e2⟩ | ⟨e, e2⟩ | ⟨a1, a2, a3, a4, a5, a6⟩
  · subst e; right; decide +kernel
  · subst e; right; decide +kernel
  · left
    refine ⟨?_, a5⟩
    unfold qI
    by_cases h0 : key p = 0
    · rw [if_pos h0]
    · rw [if_neg h0, a1, if_neg (by omega)]
theorem cmpI_sq {a b : Nat} : cmpI ((a * a : Nat) : Int) ((b * b : Nat) : Int) = cmpI (a : Int) (b : Int) := by
  unfold cmpI
  rcases Nat.lt_trichotomy a b with h | h | h
  · have := Nat.mul_lt_mul'' h h
    rw [if_pos (by omega), if_pos (by omega)]
  · subst h; simp
  · have := Nat.mul_lt_mul'' h h
    rw [if_neg (by omega), if_pos (by omega), if_neg (by omega), if_pos (by omega)]
theorem cmp_sq {p q : Nat} (hp : p < 18446744073709551616) (np : isNaN p = false) (hq : q < 18446744073709551616) (nq : isNaN q = false) :
    eC (qI q) false (qN q) (qD q) (qI p) false (qN p) (qD p) = cmpI (mg q : Int) (mg p : Int) := by
  unfold eC
  rcases qI_cases hq nq with ⟨g1, g2⟩ | ⟨g1, g2⟩ <;> rcases qI_cases hp np with ⟨k1, k2⟩ | ⟨k1, k2⟩
  · rw [g1, k1, if_neg (by omega), if_neg (by omega), if_pos rfl]
    obtain ⟨v1, d1, -⟩ := sq_val hp np k1
    obtain ⟨v2, d2, -⟩ := sq_val hq nq g1
    unfold rc
    show cmpI ((qN q : Int) * (qD p : Int)) ((qN p : Int) * (qD q : Int)) = _
    have hKK : (0 : Int) < ((K74 * K74 : Nat) : Int) := by
      have := Nat.mul_pos K74_pos K74_pos
      omega
    rw [← cmpI_mul hKK]
    have e1 : (qN q : Int) * (qD p : Int) * ((K74 * K74 : Nat) : Int) = ((rv (mg q) * rv (mg q) : Nat) : Int) * ((qD q * qD p : Nat) : Int) := by
      rw [← Int.natCast_mul, ← Int.natCast_mul, ← Int.natCast_mul]
      congr 1
      rw [Nat.mul_right_comm, v2]
      simp only [Nat.mul_assoc]
    have e2 : (qN p : Int) * (qD q : Int) * ((K74 * K74 : Nat) : Int) = ((rv (mg p) * rv (mg p) : Nat) : Int) * ((qD q * qD p : Nat) : Int) := by
      rw [← Int.natCast_mul, ← Int.natCast_mul, ← Int.natCast_mul]
      congr 1
      rw [Nat.mul_right_comm, v1]
      simp only [Nat.mul_assoc, Nat.mul_comm, Nat.mul_left_comm]
    rw [e1, e2]
    have hDD : (0 : Int) < ((qD q * qD p : Nat) : Int) := by
      have := Nat.mul_pos (show 0 < qD q by omega) (show 0 < qD p by omega)
      omega
    rw [cmpI_mul hDD, cmpI_sq]
    unfold cmpI
    rcases Nat.lt_trichotomy (mg q) (mg p) with h | h | h
    · have := rv_lt h
      rw [if_pos (by omega), if_pos (by omega)]
    · rw [h]; simp
    · have := rv_lt h
      rw [if_neg (by omega), if_pos (by omega), if_neg (by omega), if_pos (by omega)]
  · rw [g1, k1, if_pos (by omega)]
    unfold cmpI
    rw [if_pos (by omega)]
  · rw [g1, k1, if_neg (by omega), if_pos (by omega)]
    unfold cmpI
    rw [if_neg (by omega), if_pos (by omega)]
  · rw [g1, k1, if_neg (by omega), if_neg (by omega), if_neg (by omega)]
    unfold cmpI
    rw [if_neg (by omega), if_neg (by omega)]
theorem sq_rnd (d : Int) {p : Nat} (hp : p < 18446744073709551616) (np : isNaN p = false) (h : qI p = 0) : rnd d false (zr (qN p) (qD p)) = mulR d p p := by
  have hinf : isInf p = false := by
    have := (sq_val hp np h).2.2
    unfold isInf; exact decide_eq_false (by omega)
  have hm : mulR d p p = rT d (sv p * sv p) := by
    unfold mulR
    rw [np, hinf]; rfl
  rw [hm]
  unfold qI at h
  unfold qN qD
  by_cases h0 : key p = 0
  · rw [if_pos h0, if_pos h0, f0N, sv_zero (key_zero.1 h0), zr_zero, rnd_zero, Int.zero_mul, rT_zero]
  · rw [if_neg h0] at h ⊢
    rw [if_neg h0]
    by_cases h1 : bI p ≠ 0
    · rw [if_pos h1] at h; cases h
    · rw [if_neg h1, if_neg h1]
      rcases bnd3 hp np with ⟨e, e2⟩ | ⟨e, e2⟩ | ⟨a1, a2, a3, a4, a5, a6⟩
      · rw [e2] at h1; exact absurd (by omega) h1
      · rw [e2] at h1; exact absurd (by omega) h1
      · rw [a3, a4]
        have := mul_ref d p p (n := sg p && decide (mg p ≠ 0)) (m := sg p && decide (mg p ≠ 0)) rfl rfl
        rw [show ((sg p && decide (mg p ≠ 0)) != (sg p && decide (mg p ≠ 0))) = false by cases (sg p && decide (mg p ≠ 0)) <;> rfl, Bool.false_and] at this
        exact this
theorem mulR_mg (d : Int) {p : Nat} (hp : p < 18446744073709551616) : mulR d (mg p) (mg p) = mulR d p p := by
  have h1 : mg (mg p) = mg p := by unfold mg; omega
  have h2 : sg (mg p) = false := by unfold sg; exact decide_eq_false (by have := mg_lt p; omega)
  have h3 : sv (mg p) * sv (mg p) = sv p * sv p := by
    have e1 := sv_abs (mg p)
    rw [h1, ← sv_abs p] at e1
    rcases Int.natAbs_eq_natAbs_iff.1 e1 with e | e
    · rw [e]
    · rw [e, Int.neg_mul_neg]
  unfold mulR isNaN isInf
  rw [h1, h2, h3, show (sg p != sg p) = (false != false) by cases sg p <;> rfl]
theorem sq_lo {p : Nat} (hp : p < 18446744073709551616) (np : isNaN p = false) (h : mg p < infR) : lsLo (qI p) false (qN p) (qD p) = mulR (-1) (mg p) (mg p) := by
  rcases qI_cases hp np with ⟨g1, g2⟩ | ⟨g1, g2⟩
  · unfold lsLo; rw [if_pos g1, sq_rnd _ hp np g1, mulR_mg _ hp]
  · omega
theorem sq_hi {p : Nat} (hp : p < 18446744073709551616) (np : isNaN p = false) : lsHi (qI p) false (qN p) (qD p) = mulR 1 (mg p) (mg p) := by
  unfold lsHi
  rcases qI_cases hp np with ⟨g1, g2⟩ | ⟨g1, g2⟩
  · rw [if_pos g1, sq_rnd _ hp np g1, mulR_mg _ hp]
  · rw [if_neg (by omega), g2]; decide +kernel
theorem sq_sz (p : Nat) : nw (qN p) ≤ 4096 ∧ nw (qD p) ≤ 4096 ∧ qD p ≠ 0 := by
  have hb : nw (bN p) ≤ 40 ∧ nw (bD p) ≤ 40 := by
    unfold bN bD
    split
    · rw [f0N, f0D]; decide
    · split
      · rw [f0N, f0D]; decide
      · exact ⟨fbN_bits p, fbD_bits p⟩
  have hm : ∀ {a : Nat}, nw a ≤ 40 → nw (a * a) ≤ 80 := fun {a} h => by
    have := nw_mul_le a a
    omega
  have hD : bD p * bD p ≠ 0 := by
    have := Nat.mul_pos (show 0 < bD p by have := bD_ne p; omega) (show 0 < bD p by have := bD_ne p; omega)
    omega
  have hN2 := hm hb.1
  have hD2 := hm hb.2
  have a1 := nw_bl (bN p * bN p)
  have a2 := nw_bl (bD p * bD p)
  have t1 := tz_bl (bN p * bN p)
  have t2 := tz_bl (bD p * bD p)
  have z0 : (-(0 : Int)).toNat = 0 := rfl
  have h1 : nw (fracN (bN p * bN p) (bD p * bD p) 0) ≤ 4096 := le_nw_of (fracN_le _ _ 0) (Nat.le_trans (nw_shift _ (Nat.le_refl _)) (by have : (0 : Int).toNat = 0 := rfl; omega))
  have h2 : nw (fracD (bN p * bN p) (bD p * bD p) 0) ≤ 4096 := le_nw_of (fracD_le_ (n := bN p * bN p) (e := 0) hD) (Nat.le_trans (nw_shift _ (Nat.le_refl _)) (by omega))
  have h3 := fracD_pos (n := bN p * bN p) (d := bD p * bD p) 0 hD
  unfold qN qD
  split
  · rw [f0N, f0D]; decide
  · split
    · rw [f0N, f0D]; decide
    · exact ⟨h1, h2, by omega⟩
end Go.Proofs.Ytllfcklgljdgeaa
