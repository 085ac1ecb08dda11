/-
  The contract of the law's tight, in one: it answers true where the three stand about the ratio. Conditions: those that each theorem names.
-/
import Derived.Test.YtmcfflecaklpcaaZ47
import Derived.Test.YtmcfflecaklpcaaZ32
import Derived.Test.YtmcfflecaklpcaaZ17
import Derived.Test.YtmcfflecaklpcaaZ45
import Derived.Test.YtmcfflecaklpcaaZ44
namespace Go.Proofs.Ytmcfflecaklpcaa
open Go.RowKit Nm Rn
set_option maxRecDepth 100000
set_option linter.unusedVariables false
set_option linter.unusedSimpArgs false

theorem nd1_nv : nv (nd 1) = 1 := nv_nd 1
theorem fr1024_any (s : Bool) (A1 : Option Addr) (n1 c1 : Nat) (A2 : Option Addr) (n2 c2 : Nat) (w : World) (h1 : Wds w A1 n1 c1 (nd 1)) (h2 : Wds w A2 n2 c2 (nd 1)) :
    Calls Try.prog 55 #[.bool s, .slice A1 n1 c1, .slice A2 n2 c2, .int .i64 1024] w (RetR s (fracN 1 1 1024) (fracD 1 1 1024) w) := by
  have l1 := h1.len
  have l2 := h2.len
  have e1 : (nd 1).length = 1 := by decide
  have h := frac_any s A1 n1 c1 (nd 1) A2 n2 c2 (nd 1) 1024 w h1 (by omega) h2 (by omega) (by omega) (by omega) (by rw [nd1_nv]; omega)
  rw [nd1_nv, show (s && decide ((1 : Nat) ≠ 0)) = s by simp] at h
  exact h

/-- An end: a number, or an infinity, with what is made of it. -/
def EndP (s : Bool) (b : Nat) (t : Bool) (tN tD : Nat) : Prop :=
  Ev t tN tD (endV b) ∧ nw tN ≤ 40 ∧ nw tD ≤ 40 ∧ ((mg b < infR ∧ ∀ w, Calls Try.prog 17 #[.int .u64 (b : Int)] w (RetR t tN tD w)) ∨ (decide (mg b < infR) = false ∧ t = s ∧ tN = fracN 1 1 1024 ∧ tD = fracD 1 1 1024))
theorem endP_of {b : Nat} (hb : b < 18446744073709551616) (h : mg b ≤ infR) : ∃ t tN tD, EndP (sg b) b t tN tD := by
  by_cases hf : mg b < infR
  · refine ⟨_, _, _, ev_bits b, fbN_bits b, fbD_bits b, .inl ⟨hf, fun w => frombits_any b w hb⟩⟩
  · have e : mg b = infR := by omega
    have he : endV b = if sg b then -(rv infR : Int) else (rv infR : Int) := by unfold endV; rw [e]
    refine ⟨sg b, _, _, ?_, fr_nw.1, fr_nw.2, .inr ⟨decide_eq_false hf, rfl, rfl, rfl⟩⟩
    rw [he]
    exact ev_top (sg b)

set_option maxHeartbeats 4000000 in
theorem tight_any (s : Bool) (A : Option Addr) (l c : Nat) (B : Option Addr) (k d N D LO HI NE : Nat) (w : World) (h : RatAt w A l c B k d N D) (hD : 0 < D) (hT : Tg (sn s N * (K74 : Int)) (D : Int) LO HI NE) (bN : nw N ≤ 10000) (bD : nw D ≤ 10000) :
    Calls Try.prog 24 #[.agg #[.bool s, .slice A l c, .slice B k d], .int .u64 (LO : Int), .int .u64 (HI : Int), .int .u64 (NE : Int)] w fun e w' => e = .returned (.bool true) ∧ Ext w w' := by
  have hi := infR_val
  have hmi := minf_val
  have l1 := hT.l1
  have h1 := hT.h1
  have l2 := hT.l2
  have h2 := hT.h2
  have l3 := hT.l3
  have h3 := hT.h3
  have l4 := hT.l4
  have h4 := hT.h4
  have mgl : mg LO = LO % 9223372036854775808 := rfl
  have mgh : mg HI = HI % 9223372036854775808 := rfl
  have f1 : ((LO : Int) == 9221120237041090561) = false := by rw [beq_eq_false_iff_ne]; omega
  have f2 : ((HI : Int) == 9221120237041090561) = false := by rw [beq_eq_false_iff_ne]; omega
  have f3 : ((LO : Int) == 9218868437227405312) = false := by rw [beq_eq_false_iff_ne]; omega
  have f4 : ((HI : Int) == 18442240474082181120) = false := by rw [beq_eq_false_iff_ne]; omega
  have f5 : ((LO : Int) == 9223372036854775808) = false := by rw [beq_eq_false_iff_ne]; omega
  have f6 : ((HI : Int) == 9223372036854775808) = false := by rw [beq_eq_false_iff_ne]; omega
  rcases hT.or_ with ⟨he, hn, hm, hv⟩ | ⟨hne, hst, hnr, hlo, hhi, m1, m2, m3⟩
  · subst he
    subst hn
    have hfin := fun w => finite2_any NE w l1
    rw [decide_eq_true hm] at hfin
    have e0 : rc (sg NE && decide (mg NE ≠ 0)) (fbN NE) (fbD NE) s N D = 0 := by rw [(rc_end (ev_bits NE) s hD).1, hv]; exact cmpI_00 rfl
    have b1 := fbN_bits NE
    have b2 := fbD_bits NE
    have b3 := fbD_pos NE
    exact tight_eq s A l c B k d N D NE w h f1 f3 f4 f5 _ _ _ (Lib.hid fun w => frombits_any NE w l1) (Lib.hid hfin)
      (Lib.hid fun g1 g2 => by
        have := rcmp_any (sg NE && decide (mg NE ≠ 0)) _ _ _ _ _ _ _ _ s A l c B k d N D _ g1 g2 (by omega) (by omega) (by omega) (by omega) (by omega) (by omega)
        rwa [e0] at this)
  · have f7 : ((LO : Int) == (HI : Int)) = false := by rw [beq_eq_false_iff_ne]; omega
    have f8 : ((HI : Int) == (LO : Int)) = false := by rw [beq_eq_false_iff_ne]; omega
    have f9 : ((HI : Int) != (LO : Int)) = true := by rw [bne_iff_ne]; omega
    obtain ⟨ls, lN, lD, hEl, bl1, bl2, hL⟩ := endP_of l1 l2
    obtain ⟨hs, hN, hDn, hEh, bh1, bh2, hH⟩ := endP_of h1 h2
    have pl : 0 < lD := hEl.1
    have ph : 0 < hDn := hEh.1
    have qN : nw N ≤ 1073741824 := by omega
    have qD : nw D ≤ 1073741824 := by omega
    have ql1 : nw lN ≤ 1073741824 := by omega
    have ql2 : nw lD ≤ 1073741824 := by omega
    have qh1 : nw hN ≤ 1073741824 := by omega
    have qh2 : nw hDn ≤ 1073741824 := by omega
    have nl : lD ≠ 0 := Nat.ne_of_gt pl
    have nh : hDn ≠ 0 := Nat.ne_of_gt ph
    have nD : D ≠ 0 := Nat.ne_of_gt hD
    have HST : Hid (∀ w, Calls Try.prog 68 #[.int .u64 (LO : Int)] w fun e w' => e = .returned (.int .u64 (HI : Nat)) ∧ w = w') := Lib.hid fun w => by
      have := lstep_any LO w l1
      rwa [hst] at this
    have HFK := Lib.hid (fun w => frombits_any 18442240474082181119 w (by omega))
    have HFL := Lib.hid (fun w => finite2_any LO w l1)
    have HFH := Lib.hid (fun w => finite2_any HI w h1)
    have HFF := Lib.hid (fr1024_any false)
    have hpl : 0 < D * lD := Nat.mul_pos hD pl
    have hph : 0 < hDn * D := Nat.mul_pos ph hD
    have HS1 : Hid (∀ {A1 : Option Addr} {l1 c1 : Nat} {B1 : Option Addr} {k1 d1 : Nat} {w : World}, RatAt w A l c B k d N D → RatAt w A1 l1 c1 B1 k1 d1 lN lD → Calls Try.prog 69 #[.agg #[.bool s, .slice A l c, .slice B k d], .agg #[.bool ls, .slice A1 l1 c1, .slice B1 k1 d1]] w (RetR (sbS s ls N D lN lD) (sbN s ls N D lN lD) (sbD s ls N D lN lD) w)) :=
      Lib.hid fun g1 g2 => rsubq_any s ls A l c B k d N D _ _ _ _ _ _ lN lD _ g1 g2 qN qD ql1 ql2 hpl
    have HS2 : Hid (∀ {A1 : Option Addr} {l1 c1 : Nat} {B1 : Option Addr} {k1 d1 : Nat} {w : World}, RatAt w A1 l1 c1 B1 k1 d1 hN hDn → RatAt w A l c B k d N D → Calls Try.prog 69 #[.agg #[.bool hs, .slice A1 l1 c1, .slice B1 k1 d1], .agg #[.bool s, .slice A l c, .slice B k d]] w (RetR (sbS hs s hN hDn N D) (sbN hs s hN hDn N D) (sbD hs s hN hDn N D) w)) :=
      Lib.hid fun g1 g2 => rsubq_any hs s _ _ _ _ _ _ hN hDn A l c B k d N D _ g1 g2 qh1 qh2 qN qD hph
    have bl3 : nw lN ≤ 10000 := by omega
    have bl4 : nw lD ≤ 10000 := by omega
    have bh3 : nw hN ≤ 10000 := by omega
    have bh4 : nw hDn ≤ 10000 := by omega
    have z1 := sb_nw (n := s) (m := ls) (N := N) (N' := lN) (b := 10000) hD pl bN bD bl3 bl4
    have z2 := sb_nw (n := hs) (m := s) (N := hN) (N' := N) (b := 10000) ph hD bh3 bh4 bN bD
    have p1 := (sub_val s ls (N := N) (N' := lN) hD pl).1
    have p2 := (sub_val hs s (N := hN) (N' := N) ph hD).1
    have y1 : nw (sbN s ls N D lN lD) ≤ 1073741824 := Nat.le_trans z1.1 (by decide)
    have y2 : nw (sbD s ls N D lN lD) ≤ 1073741824 := Nat.le_trans z1.2 (by decide)
    have y3 : nw (sbN hs s hN hDn N D) ≤ 1073741824 := Nat.le_trans z2.1 (by decide)
    have y4 : nw (sbD hs s hN hDn N D) ≤ 1073741824 := Nat.le_trans z2.2 (by decide)
    have hmid := rc_mid (s := s) (N := N) hEl hEh hD
    obtain ⟨cc, hcc⟩ : ∃ cc, cc = cmpI (2 * (sn s N * (K74 : Int))) ((endV LO + endV HI) * (D : Int)) := ⟨_, rfl⟩
    rw [← hcc] at hmid
    have HCM : Hid (∀ {A1 : Option Addr} {l1 c1 : Nat} {B1 : Option Addr} {k1 d1 : Nat} {A2 : Option Addr} {l2 c2 : Nat} {B2 : Option Addr} {k2 d2 : Nat} {w : World}, RatAt w A1 l1 c1 B1 k1 d1 (sbN s ls N D lN lD) (sbD s ls N D lN lD) → RatAt w A2 l2 c2 B2 k2 d2 (sbN hs s hN hDn N D) (sbD hs s hN hDn N D) → Calls Try.prog 18 #[.agg #[.bool (sbS s ls N D lN lD), .slice A1 l1 c1, .slice B1 k1 d1], .agg #[.bool (sbS hs s hN hDn N D), .slice A2 l2 c2, .slice B2 k2 d2]] w fun e w' => e = .returned (.int .i64 cc) ∧ Ext w w') :=
      Lib.hid fun g1 g2 => by
        have := rcmp_any (sbS s ls N D lN lD) _ _ _ _ _ _ _ _ (sbS hs s hN hDn N D) _ _ _ _ _ _ _ _ _ g1 g2 y1 y2 y3 y4 (Nat.ne_of_gt p1) (Nat.ne_of_gt p2)
        rwa [hmid] at this
    have hc3 : (2 * (sn s N * (K74 : Int)) < (endV LO + endV HI) * (D : Int) ∧ cc = -1) ∨ ((endV LO + endV HI) * (D : Int) < 2 * (sn s N * (K74 : Int)) ∧ cc = 1) ∨ (2 * (sn s N * (K74 : Int)) = (endV LO + endV HI) * (D : Int) ∧ cc = 0) := by
      rcases Int.lt_trichotomy (2 * (sn s N * (K74 : Int))) ((endV LO + endV HI) * (D : Int)) with g | g | g
      · exact .inl ⟨g, hcc.trans (cmpI_m1 g)⟩
      · exact .inr (.inr ⟨g, hcc.trans (cmpI_00 g)⟩)
      · exact .inr (.inl ⟨g, hcc.trans (cmpI_p1 g)⟩)
    clear hcc hmid
    have hel : mg LO < infR → rc ls lN lD s N D = -1 := fun g => by rw [(rc_end hEl s hD).1]; exact cmpI_m1 (hlo g)
    have heh : mg HI < infR → rc s N D hs hN hDn = -1 := fun g => by rw [(rc_end hEh s hD).2]; exact cmpI_m1 (hhi g)
    have HFT : decide (mg LO < infR) = false → ls = sg LO → lN = fracN 1 1 1024 → lD = fracD 1 1 1024 → Hid (∀ (A1 : Option Addr) (n1 c1 : Nat) (A2 : Option Addr) (n2 c2 : Nat) (w : World), Wds w A1 n1 c1 (nd 1) → Wds w A2 n2 c2 (nd 1) → Calls Try.prog 55 #[.bool true, .slice A1 n1 c1, .slice A2 n2 c2, .int .i64 1024] w (RetR ls lN lD w)) := fun g0 g1 g2 g3 => by
      have hsgl : sg LO = true := by
        have := of_decide_eq_false g0
        unfold sg
        exact decide_eq_true (by omega)
      rw [g1, hsgl, g2, g3]
      exact Lib.hid (fr1024_any true)
    have HFG : decide (mg HI < infR) = false → hs = sg HI → hN = fracN 1 1 1024 → hDn = fracD 1 1 1024 → Hid (∀ (A1 : Option Addr) (n1 c1 : Nat) (A2 : Option Addr) (n2 c2 : Nat) (w : World), Wds w A1 n1 c1 (nd 1) → Wds w A2 n2 c2 (nd 1) → Calls Try.prog 55 #[.bool false, .slice A1 n1 c1, .slice A2 n2 c2, .int .i64 1024] w (RetR hs hN hDn w)) := fun g0 g1 g2 g3 => by
      have hsgh : sg HI = false := by
        have := of_decide_eq_false g0
        unfold sg
        exact decide_eq_false (by omega)
      rw [g1, hsgh, g2, g3]
      exact Lib.hid (fr1024_any false)
    have HR1 : rc ls lN lD s N D = -1 → Hid (∀ {A1 : Option Addr} {l1 c1 : Nat} {B1 : Option Addr} {k1 d1 : Nat} {w : World}, RatAt w A1 l1 c1 B1 k1 d1 lN lD → RatAt w A l c B k d N D → Calls Try.prog 18 #[.agg #[.bool ls, .slice A1 l1 c1, .slice B1 k1 d1], .agg #[.bool s, .slice A l c, .slice B k d]] w fun e w' => e = .returned (.int .i64 (-1)) ∧ Ext w w') := fun g => Lib.hid fun g1 g2 => by
      have := rcmp_any ls _ _ _ _ _ _ _ _ s A l c B k d N D _ g1 g2 ql1 ql2 qN qD nl nD
      rwa [g] at this
    have HR2 : rc s N D hs hN hDn = -1 → Hid (∀ {A1 : Option Addr} {l1 c1 : Nat} {B1 : Option Addr} {k1 d1 : Nat} {w : World}, RatAt w A l c B k d N D → RatAt w A1 l1 c1 B1 k1 d1 hN hDn → Calls Try.prog 18 #[.agg #[.bool s, .slice A l c, .slice B k d], .agg #[.bool hs, .slice A1 l1 c1, .slice B1 k1 d1]] w fun e w' => e = .returned (.int .i64 (-1)) ∧ Ext w w') := fun g => Lib.hid fun g1 g2 => by
      have := rcmp_any s A l c B k d N D hs _ _ _ _ _ _ _ _ _ g1 g2 qN qD qh1 qh2 nD nh
      rwa [g] at this
    have hnn : NE = LO ∨ NE = HI := hnr
    rcases hnn with hnn | hnn
    · subst hnn
      have hcc : Hid (cc = -1 ∨ (cc = 0 ∧ bits .and .u64 (NE : Int) 1 = 0)) := Lib.hid (by
        rcases hc3 with ⟨g, e⟩ | ⟨g, e⟩ | ⟨g, e⟩
        · exact .inl e
        · exact absurd (m2 g) hne
        · exact .inr ⟨e, even_and NE l1 (m3 g)⟩)
      rcases hL with ⟨hL1, hL2⟩ | ⟨hL1, hL2, hL3, hL4⟩
      · rw [decide_eq_true hL1] at HFL
        rcases hH with ⟨hH1, hH2⟩ | ⟨hH1, hH2, hH3, hH4⟩
        · rw [decide_eq_true hH1] at HFH
          exact tight_011 s A l c B k d N D _ _ w h f1 f3 f5 f2 f4 f6 f7 f8 _ _ _ _ _ _ _ _ _ _ _ _ _ _ _ _ _ _ HST HFK HFL HFH (Lib.hid hL2) (HR1 (hel hL1)) HFF (Lib.hid hH2) (HR2 (heh hH1)) HS1 HS2 HCM hcc
        · rw [hH1] at HFH
          exact tight_010 s A l c B k d N D _ _ w h f1 f3 f5 f2 f4 f6 f7 f8 _ _ _ _ _ _ _ _ _ _ _ _ _ _ _ _ HST HFK HFL HFH (Lib.hid hL2) (HR1 (hel hL1)) (HFG hH1 hH2 hH3 hH4) HS1 HS2 HCM hcc
      · rw [hL1] at HFL
        rcases hH with ⟨hH1, hH2⟩ | ⟨hH1, hH2, hH3, hH4⟩
        · rw [decide_eq_true hH1] at HFH
          exact tight_001 s A l c B k d N D _ _ w h f1 f3 f5 f2 f4 f6 f7 f8 _ _ _ _ _ _ _ _ _ _ _ _ _ _ _ _ _ _ HST HFK HFL HFH (HFT hL1 hL2 hL3 hL4) HFF (Lib.hid hH2) (HR2 (heh hH1)) HS1 HS2 HCM hcc
        · rw [hH1] at HFH
          exact tight_000 s A l c B k d N D _ _ w h f1 f3 f5 f2 f4 f6 f7 f8 _ _ _ _ _ _ _ _ _ _ _ _ _ _ _ _ HST HFK HFL HFH (HFT hL1 hL2 hL3 hL4) (HFG hH1 hH2 hH3 hH4) HS1 HS2 HCM hcc
    · subst hnn
      have hcc : Hid (cc = 1 ∨ (cc = 0 ∧ bits .and .u64 (NE : Int) 1 = 0)) := Lib.hid (by
        rcases hc3 with ⟨g, e⟩ | ⟨g, e⟩ | ⟨g, e⟩
        · exact absurd (m1 g).symm hne
        · exact .inl e
        · exact .inr ⟨e, even_and NE h1 (m3 g)⟩)
      rcases hL with ⟨hL1, hL2⟩ | ⟨hL1, hL2, hL3, hL4⟩
      · rw [decide_eq_true hL1] at HFL
        rcases hH with ⟨hH1, hH2⟩ | ⟨hH1, hH2, hH3, hH4⟩
        · rw [decide_eq_true hH1] at HFH
          exact tight_111 s A l c B k d N D _ _ w h f1 f3 f5 f2 f4 f6 f7 f8 f9 _ _ _ _ _ _ _ _ _ _ _ _ _ _ _ _ _ _ HST HFK HFL HFH (Lib.hid hL2) (HR1 (hel hL1)) HFF (Lib.hid hH2) (HR2 (heh hH1)) HS1 HS2 HCM hcc
        · rw [hH1] at HFH
          exact tight_110 s A l c B k d N D _ _ w h f1 f3 f5 f2 f4 f6 f7 f8 f9 _ _ _ _ _ _ _ _ _ _ _ _ _ _ _ _ HST HFK HFL HFH (Lib.hid hL2) (HR1 (hel hL1)) (HFG hH1 hH2 hH3 hH4) HS1 HS2 HCM hcc
      · rw [hL1] at HFL
        rcases hH with ⟨hH1, hH2⟩ | ⟨hH1, hH2, hH3, hH4⟩
        · rw [decide_eq_true hH1] at HFH
          exact tight_101 s A l c B k d N D _ _ w h f1 f3 f5 f2 f4 f6 f7 f8 f9 _ _ _ _ _ _ _ _ _ _ _ _ _ _ _ _ _ _ HST HFK HFL HFH (HFT hL1 hL2 hL3 hL4) HFF (Lib.hid hH2) (HR2 (heh hH1)) HS1 HS2 HCM hcc
        · rw [hH1] at HFH
          exact tight_100 s A l c B k d N D _ _ w h f1 f3 f5 f2 f4 f6 f7 f8 f9 _ _ _ _ _ _ _ _ _ _ _ _ _ _ _ _ HST HFK HFL HFH (HFT hL1 hL2 hL3 hL4) (HFG hH1 hH2 hH3 hH4) HS1 HS2 HCM hcc
end Go.Proofs.Ytmcfflecaklpcaa

/-
  Plain: sums and products of ratios, rounded. Conditions: those that each theorem names.
-/
set_option linter.unusedVariables false
set_option linter.unusedSimpArgs false
namespace Go.Proofs.Ytmcfflecaklpcaa.Rn
open Nm
/-- The product's value. -/
theorem mul_val (x y : Nat) {n m : Bool} (hn : n = (sg x && decide (mg x ≠ 0))) (hm : m = (sg y && decide (mg y ≠ 0))) :
    sn ((n != m) && decide (fbN x * fbN y ≠ 0)) (fracN (fbN x * fbN y) (fbD x * fbD y) 0) * ((K74 * K74 : Nat) : Int) = sv x * sv y * (fracD (fbN x * fbN y) (fbD x * fbD y) 0 : Int) := by
  have hp : 0 < fbD x * fbD y := Nat.mul_pos (fbD_pos x) (fbD_pos y)
  have h1 := sn_frac (neg := n != m) (n := fbN x * fbN y) (d := fbD x * fbD y) (e := 0) (p := 0) (q := 0) rfl
  rw [sn_bne] at h1
  have h2 := fb_sv x
  have h3 := fb_sv y
  rw [← hn] at h2
  rw [← hm] at h3
  obtain ⟨F, hF⟩ : ∃ F, F = sn ((n != m) && decide (fbN x * fbN y ≠ 0)) (fracN (fbN x * fbN y) (fbD x * fbD y) 0) := ⟨_, rfl⟩
  obtain ⟨G, hG⟩ : ∃ G, G = fracD (fbN x * fbN y) (fbD x * fbD y) 0 := ⟨_, rfl⟩
  rw [← hF, ← hG] at h1 ⊢
  obtain ⟨a, ha⟩ : ∃ a, a = sn n (fbN x) := ⟨_, rfl⟩
  obtain ⟨b, hb⟩ : ∃ b, b = sn m (fbN y) := ⟨_, rfl⟩
  rw [← ha, ← hb] at h1
  rw [← ha] at h2
  rw [← hb] at h3
  have hpi : (0 : Int) < ((fbD x * fbD y : Nat) : Int) := by omega
  refine Int.eq_of_mul_eq_mul_right (Int.ne_of_gt hpi) ?_
  have e1 : ((fbD x * fbD y * 2 ^ 0 : Nat) : Int) = ((fbD x * fbD y : Nat) : Int) := by simp
  have e2 : ((2 ^ 0 * G : Nat) : Int) = (G : Int) := by simp
  rw [e1, e2] at h1
  have e3 : F * ((K74 * K74 : Nat) : Int) * ((fbD x * fbD y : Nat) : Int) = (a * K74) * (b * K74) * G := by
    rw [Int.mul_right_comm, h1]
    push_cast
    simp only [Int.mul_assoc, Int.mul_comm, Int.mul_left_comm]
  rw [e3, h2, h3]
  push_cast
  simp only [Int.mul_assoc, Int.mul_comm, Int.mul_left_comm]
/-- The sum of two ratios, reduced and rounded. -/
theorem add_gen (d : Int) {a b : Bool} {N1 D1 N2 D2 : Nat} {T1 T2 : Int} (hD1 : 0 < D1) (hD2 : 0 < D2) (h1 : sn a N1 * ((K74 * K74 : Nat) : Int) = T1 * (D1 : Int)) (h2 : sn b N2 * ((K74 * K74 : Nat) : Int) = T2 * (D2 : Int)) :
    rnd d (aNeg a b (N1 * D2) (N2 * D1) && decide (aMag a b (N1 * D2) (N2 * D1) ≠ 0)) (zr (fracN (aMag a b (N1 * D2) (N2 * D1)) (D1 * D2) 0) (fracD (aMag a b (N1 * D2) (N2 * D1)) (D1 * D2) 0)) = rT d (T1 + T2) := by
  have hp : 0 < D1 * D2 := Nat.mul_pos hD1 hD2
  obtain ⟨X, hX⟩ : ∃ X, X = aMag a b (N1 * D2) (N2 * D1) := ⟨_, rfl⟩
  obtain ⟨z, hz⟩ : ∃ z, z = aNeg a b (N1 * D2) (N2 * D1) := ⟨_, rfl⟩
  have hs := sn_sum a b (N1 * D2) (N2 * D1)
  rw [← hX, ← hz] at hs ⊢
  have h0 := sn_frac (neg := z) (n := X) (d := D1 * D2) (e := 0) (p := 0) (q := 0) rfl
  rw [hs, ← sn_mul, ← sn_mul] at h0
  refine rT_rat (fracD_pos _ (by omega)) ?_
  obtain ⟨F, hF⟩ : ∃ F, F = sn (z && decide (X ≠ 0)) (fracN X (D1 * D2) 0) := ⟨_, rfl⟩
  obtain ⟨G, hG⟩ : ∃ G, G = fracD X (D1 * D2) 0 := ⟨_, rfl⟩
  rw [← hF, ← hG] at h0 ⊢
  obtain ⟨u, hu⟩ : ∃ u, u = sn a N1 := ⟨_, rfl⟩
  obtain ⟨v, hv⟩ : ∃ v, v = sn b N2 := ⟨_, rfl⟩
  obtain ⟨K, hK⟩ : ∃ K, K = K74 * K74 := ⟨_, rfl⟩
  rw [← hu, ← hv] at h0
  rw [← hu, ← hK] at h1
  rw [← hv, ← hK] at h2
  rw [← hK]
  have hpi : (0 : Int) < ((D1 * D2 : Nat) : Int) := by omega
  refine Int.eq_of_mul_eq_mul_right (Int.ne_of_gt hpi) ?_
  have e1 : ((D1 * D2 * 2 ^ 0 : Nat) : Int) = ((D1 * D2 : Nat) : Int) := by simp
  have e2 : ((2 ^ 0 * G : Nat) : Int) = (G : Int) := by simp
  rw [e1, e2] at h0
  have e3 : F * (K : Int) * ((D1 * D2 : Nat) : Int) = (u * K) * D2 * G + (v * K) * D1 * G := by
    rw [Int.mul_right_comm, h0, Int.add_mul, Int.add_mul]
    simp only [Int.mul_assoc, Int.mul_comm, Int.mul_left_comm]
  rw [e3, h1, h2, Int.add_mul, Int.add_mul]
  push_cast
  simp only [Int.mul_assoc, Int.mul_comm, Int.mul_left_comm]
theorem one_val (z : Nat) {k : Bool} (hk : k = (sg z && decide (mg z ≠ 0))) : sn k (fbN z) * ((K74 * K74 : Nat) : Int) = sv z * (K74 : Int) * (fbD z : Int) := by
  have h := fb_sv z
  rw [← hk] at h
  push_cast
  rw [← Int.mul_assoc, h]
  simp only [Int.mul_assoc, Int.mul_comm, Int.mul_left_comm]
end Go.Proofs.Ytmcfflecaklpcaa.Rn

/-
  What the five operations answer, in one form. Conditions: those that each theorem names.
-/
namespace Go.Proofs.Ytmcfflecaklpcaa
open Go.RowKit Nm Rn
set_option maxRecDepth 100000
set_option linter.unusedVariables false
set_option linter.unusedSimpArgs false

/-- What is asked and what is exact, of one operation. -/
structure OpS (k : Int) (x y z : Nat) (s : Bool) (N D : Nat) : Prop where
  ex : Hid (∀ (A1 : Option Addr) (l1 c1 : Nat) (B1 : Option Addr) (k1 d1 : Nat) (A2 : Option Addr) (l2 c2 : Nat) (B2 : Option Addr) (k2 d2 : Nat) (A3 : Option Addr) (l3 c3 : Nat) (B3 : Option Addr) (k3 d3 : Nat) (w : World), RatAt w A1 l1 c1 B1 k1 d1 (fbN x) (fbD x) → RatAt w A2 l2 c2 B2 k2 d2 (fbN y) (fbD y) → RatAt w A3 l3 c3 B3 k3 d3 (fbN z) (fbD z) → Calls Try.prog 25 #[.int .i64 k, .agg #[.bool (sg x && decide (mg x ≠ 0)), .slice A1 l1 c1, .slice B1 k1 d1], .agg #[.bool (sg y && decide (mg y ≠ 0)), .slice A2 l2 c2, .slice B2 k2 d2], .agg #[.bool (sg z && decide (mg z ≠ 0)), .slice A3 l3 c3, .slice B3 k3 d3]] w (RetR s N D w))
  as_ : Hid (∀ (d : Int) (w : World), Calls Try.prog 23 #[.int .i64 k, .int .i64 d, .float .f64 x, .float .f64 y, .float .f64 z] w fun e w' => e = .returned (.int .u64 (rnd d s (zr N D) : Nat)) ∧ Ext w w')
  pos : 0 < D
  sgn : N = 0 → s = false
  bN : nw N ≤ 10000
  bD : nw D ≤ 10000

theorem fin_flags {x : Nat} (h : mg x < infR) : isNaN x = false ∧ isInf x = false := ⟨by unfold isNaN; exact decide_eq_false (by omega), by unfold isInf; exact decide_eq_false (by omega)⟩
theorem nw_m2 (a b : Nat) : nw (a * b) ≤ nw a + nw b := by
  refine (nw_le_iff _ _).2 ?_
  rw [Nat.pow_add]
  exact Nat.mul_lt_mul'' (lt_pow_nw a) (lt_pow_nw b)
theorem nw_a2 (a b k : Nat) (h1 : nw a ≤ k) (h2 : nw b ≤ k) : nw (a + b) ≤ k + 1 := by
  refine (nw_le_iff _ _).2 ?_
  have b1 := lt_pow_nw a
  have b2 := lt_pow_nw b
  have c1 : 4294967296 ^ nw a ≤ 4294967296 ^ k := Nat.pow_le_pow_right (by omega) h1
  have c2 : 4294967296 ^ nw b ≤ 4294967296 ^ k := Nat.pow_le_pow_right (by omega) h2
  rw [Nat.pow_succ]
  omega
theorem nw_am (n m : Bool) (P Q k : Nat) (h1 : nw P ≤ k) (h2 : nw Q ≤ k) : nw (aMag n m P Q) ≤ k + 1 := by
  refine Nat.le_trans (nw_mono (b := P + Q) ?_) (nw_a2 P Q k h1 h2)
  unfold aMag
  split
  · omega
  · split <;> omega
theorem nw_fr {n d b : Nat} (hd : d ≠ 0) (h1 : nw n ≤ b) (h2 : nw d ≤ b) : nw (fracN n d 0) ≤ b ∧ nw (fracD n d 0) ≤ b :=
  ⟨Nat.le_trans (nw_mono (fracN_le_z _ _)) h1, Nat.le_trans (nw_mono (fracD_le_z hd)) h2⟩
theorem sg_fr (s : Bool) (n d : Nat) : fracN n d 0 = 0 → (s && decide (n ≠ 0)) = false := fun h => by
  rw [fracN_eq_zero.1 h]; simp

set_option maxHeartbeats 1000000 in
theorem op_0 (x y z : Nat) (hx : x < 18446744073709551616) (hy : y < 18446744073709551616) (hz : z < 18446744073709551616) (fx : mg x < infR) (fy : mg y < infR) (fz : mg z < infR) : ∃ s N D, OpS 0 x y z s N D := by
  have sx := fbN_bits x
  have sy := fbN_bits y
  have sz := fbN_bits z
  have tx := fbD_bits x
  have ty := fbD_bits y
  have tz_ := fbD_bits z
  have px := fbD_pos x
  have py := fbD_pos y
  have pz := fbD_pos z
  have pxy : 0 < fbD x * fbD y := Nat.mul_pos px py
  have a1 := nw_m2 (fbN x) (fbD y)
  have a2 := nw_m2 (fbN y) (fbD x)
  have a3 := nw_m2 (fbD x) (fbD y)
  have a4 := nw_m2 (fbN x) (fbN y)
  have a5 := nw_m2 (fbD x) (fbN y)
  obtain ⟨nx, ix⟩ := fin_flags fx
  obtain ⟨ny, iy⟩ := fin_flags fy
  obtain ⟨nz, iz⟩ := fin_flags fz
  have hm := nw_am (sg x && decide (mg x ≠ 0)) (sg y && decide (mg y ≠ 0)) (fbN x * fbD y) (fbN y * fbD x) 80 (by omega) (by omega)
  refine ⟨(aNeg (sg x && decide (mg x ≠ 0)) (sg y && decide (mg y ≠ 0)) (fbN x * fbD y) (fbN y * fbD x) && decide (aMag (sg x && decide (mg x ≠ 0)) (sg y && decide (mg y ≠ 0)) (fbN x * fbD y) (fbN y * fbD x) ≠ 0)), fracN (aMag (sg x && decide (mg x ≠ 0)) (sg y && decide (mg y ≠ 0)) (fbN x * fbD y) (fbN y * fbD x)) (fbD x * fbD y) 0, fracD (aMag (sg x && decide (mg x ≠ 0)) (sg y && decide (mg y ≠ 0)) (fbN x * fbD y) (fbN y * fbD x)) (fbD x * fbD y) 0, Lib.hid fun A1 l1 c1 B1 k1 d1 A2 l2 c2 B2 k2 d2 A3 l3 c3 B3 k3 d3 w h1 h2 h3 => ?_, Lib.hid fun d w => ?_, fracD_pos _ (by omega), sg_fr _ _ _, ?_, ?_⟩
  · exact exactly_0 _ A1 l1 c1 B1 k1 d1 _ _ _ A2 l2 c2 B2 k2 d2 _ _ _ A3 l3 c3 B3 k3 d3 _ _ _ _ _ w h1 h2 h3 (Lib.hid fun w g1 g2 => radd_any _ _ A1 l1 c1 B1 k1 d1 _ _ A2 l2 c2 B2 k2 d2 _ _ w g1 g2 (by omega) (by omega) (by omega) (by omega) pxy)
  · rw [add_ref d x y rfl rfl, show rT d ((sv x + sv y) * (K74 : Int)) = addR d x y by unfold addR; rw [nx, ny, ix, iy]; rfl]
    exact asked_0 d x y z _ w (Lib.hid fun w => radd_any_ d x y w hx hy)
  · exact (nw_fr (by omega) (by omega) (by omega)).1
  · exact (nw_fr (by omega) (by omega) (by omega)).2

set_option maxHeartbeats 1000000 in
theorem op_1 (x y z : Nat) (hx : x < 18446744073709551616) (hy : y < 18446744073709551616) (hz : z < 18446744073709551616) (fx : mg x < infR) (fy : mg y < infR) (fz : mg z < infR) : ∃ s N D, OpS 1 x y z s N D := by
  have sx := fbN_bits x
  have sy := fbN_bits y
  have sz := fbN_bits z
  have tx := fbD_bits x
  have ty := fbD_bits y
  have tz_ := fbD_bits z
  have px := fbD_pos x
  have py := fbD_pos y
  have pz := fbD_pos z
  have pxy : 0 < fbD x * fbD y := Nat.mul_pos px py
  have a1 := nw_m2 (fbN x) (fbD y)
  have a2 := nw_m2 (fbN y) (fbD x)
  have a3 := nw_m2 (fbD x) (fbD y)
  have a4 := nw_m2 (fbN x) (fbN y)
  have a5 := nw_m2 (fbD x) (fbN y)
  obtain ⟨nx, ix⟩ := fin_flags fx
  obtain ⟨ny, iy⟩ := fin_flags fy
  obtain ⟨nz, iz⟩ := fin_flags fz
  have hm := nw_am (sg x && decide (mg x ≠ 0)) (!(sg y && decide (mg y ≠ 0)) && decide (fbN y ≠ 0)) (fbN x * fbD y) (fbN y * fbD x) 80 (by omega) (by omega)
  refine ⟨sbS (sg x && decide (mg x ≠ 0)) (sg y && decide (mg y ≠ 0)) (fbN x) (fbD x) (fbN y) (fbD y), sbN (sg x && decide (mg x ≠ 0)) (sg y && decide (mg y ≠ 0)) (fbN x) (fbD x) (fbN y) (fbD y), sbD (sg x && decide (mg x ≠ 0)) (sg y && decide (mg y ≠ 0)) (fbN x) (fbD x) (fbN y) (fbD y), Lib.hid fun A1 l1 c1 B1 k1 d1 A2 l2 c2 B2 k2 d2 A3 l3 c3 B3 k3 d3 w h1 h2 h3 => ?_, Lib.hid fun d w => ?_, fracD_pos _ (by omega), sg_fr _ _ _, ?_, ?_⟩
  · exact exactly_1 _ A1 l1 c1 B1 k1 d1 _ _ _ A2 l2 c2 B2 k2 d2 _ _ _ A3 l3 c3 B3 k3 d3 _ _ _ _ _ w h1 h2 h3 (Lib.hid fun w g1 g2 => rsubq_any _ _ A1 l1 c1 B1 k1 d1 _ _ A2 l2 c2 B2 k2 d2 _ _ w g1 g2 (by omega) (by omega) (by omega) (by omega) pxy)
  · have hm : (!(sg y && decide (mg y ≠ 0)) && decide (fbN y ≠ 0)) = (sg (ng y) && decide (mg (ng y) ≠ 0)) := by
      rw [sg_ng hy, mg_ng hy, decide_eq_decide.2 (not_congr (fbN_zero y))]
      cases sg y <;> cases decide (mg y ≠ 0) <;> rfl
    have hr := add_ref d x (ng y) (n := (sg x && decide (mg x ≠ 0))) rfl hm
    rw [(fb_ng hy).1, (fb_ng hy).2] at hr
    unfold sbS sbN sbD
    have ny' : isNaN (ng y) = false := by unfold isNaN; rw [mg_ng hy]; exact ny
    have iy' : isInf (ng y) = false := by unfold isInf; rw [mg_ng hy]; exact iy
    rw [hr, show rT d ((sv x + sv (ng y)) * (K74 : Int)) = addR d x (ng y) by unfold addR; rw [nx, ny', ix, iy']; rfl]
    exact asked_1 d x y z _ w (Lib.hid fun w => rsub_any d x y w hx hy)
  · exact (nw_fr (by omega) (by omega) (by omega)).1
  · exact (nw_fr (by omega) (by omega) (by omega)).2

set_option maxHeartbeats 1000000 in
theorem op_2 (x y z : Nat) (hx : x < 18446744073709551616) (hy : y < 18446744073709551616) (hz : z < 18446744073709551616) (fx : mg x < infR) (fy : mg y < infR) (fz : mg z < infR) : ∃ s N D, OpS 2 x y z s N D := by
  have sx := fbN_bits x
  have sy := fbN_bits y
  have sz := fbN_bits z
  have tx := fbD_bits x
  have ty := fbD_bits y
  have tz_ := fbD_bits z
  have px := fbD_pos x
  have py := fbD_pos y
  have pz := fbD_pos z
  have pxy : 0 < fbD x * fbD y := Nat.mul_pos px py
  have a1 := nw_m2 (fbN x) (fbD y)
  have a2 := nw_m2 (fbN y) (fbD x)
  have a3 := nw_m2 (fbD x) (fbD y)
  have a4 := nw_m2 (fbN x) (fbN y)
  have a5 := nw_m2 (fbD x) (fbN y)
  obtain ⟨nx, ix⟩ := fin_flags fx
  obtain ⟨ny, iy⟩ := fin_flags fy
  obtain ⟨nz, iz⟩ := fin_flags fz
  refine ⟨(((sg x && decide (mg x ≠ 0)) != (sg y && decide (mg y ≠ 0))) && decide (fbN x * fbN y ≠ 0)), fracN (fbN x * fbN y) (fbD x * fbD y) 0, fracD (fbN x * fbN y) (fbD x * fbD y) 0, Lib.hid fun A1 l1 c1 B1 k1 d1 A2 l2 c2 B2 k2 d2 A3 l3 c3 B3 k3 d3 w h1 h2 h3 => ?_, Lib.hid fun d w => ?_, fracD_pos _ (by omega), sg_fr _ _ _, ?_, ?_⟩
  · exact exactly_2 _ A1 l1 c1 B1 k1 d1 _ _ _ A2 l2 c2 B2 k2 d2 _ _ _ A3 l3 c3 B3 k3 d3 _ _ _ _ _ w h1 h2 h3 (Lib.hid fun w g1 g2 => rmulq_any _ _ A1 l1 c1 B1 k1 d1 _ _ A2 l2 c2 B2 k2 d2 _ _ w g1 g2 (by omega) (by omega) (by omega) (by omega) pxy)
  · rw [mul_ref d x y rfl rfl, show rT d (sv x * sv y) = mulR d x y by unfold mulR; rw [nx, ny, ix, iy]; rfl]
    exact asked_2 d x y z _ w (Lib.hid fun w => rmul_any d x y w hx hy)
  · exact (nw_fr (by omega) (by omega) (by omega)).1
  · exact (nw_fr (by omega) (by omega) (by omega)).2

set_option maxHeartbeats 1000000 in
theorem op_3 (x y z : Nat) (hx : x < 18446744073709551616) (hy : y < 18446744073709551616) (hz : z < 18446744073709551616) (fx : mg x < infR) (fy : mg y < infR) (fz : mg z < infR) (hy0 : mg y ≠ 0) : ∃ s N D, OpS 3 x y z s N D := by
  have sx := fbN_bits x
  have sy := fbN_bits y
  have sz := fbN_bits z
  have tx := fbD_bits x
  have ty := fbD_bits y
  have tz_ := fbD_bits z
  have px := fbD_pos x
  have py := fbD_pos y
  have pz := fbD_pos z
  have pxy : 0 < fbD x * fbD y := Nat.mul_pos px py
  have a1 := nw_m2 (fbN x) (fbD y)
  have a2 := nw_m2 (fbN y) (fbD x)
  have a3 := nw_m2 (fbD x) (fbD y)
  have a4 := nw_m2 (fbN x) (fbN y)
  have a5 := nw_m2 (fbD x) (fbN y)
  obtain ⟨nx, ix⟩ := fin_flags fx
  obtain ⟨ny, iy⟩ := fin_flags fy
  obtain ⟨nz, iz⟩ := fin_flags fz
  have hNy : 0 < fbN y := Nat.pos_of_ne_zero fun h => hy0 ((fbN_zero y).1 h)
  have pq : 0 < fbD x * fbN y := Nat.mul_pos px hNy
  refine ⟨(((sg x && decide (mg x ≠ 0)) != (sg y && decide (mg y ≠ 0))) && decide (fbN x * fbD y ≠ 0)), fracN (fbN x * fbD y) (fbD x * fbN y) 0, fracD (fbN x * fbD y) (fbD x * fbN y) 0, Lib.hid fun A1 l1 c1 B1 k1 d1 A2 l2 c2 B2 k2 d2 A3 l3 c3 B3 k3 d3 w h1 h2 h3 => ?_, Lib.hid fun d w => ?_, fracD_pos _ (by omega), sg_fr _ _ _, ?_, ?_⟩
  · exact exactly_3 _ A1 l1 c1 B1 k1 d1 _ _ _ A2 l2 c2 B2 k2 d2 _ _ _ A3 l3 c3 B3 k3 d3 _ _ _ _ _ w h1 h2 h3 (Lib.hid fun w g1 g2 => rquoq_any _ _ A1 l1 c1 B1 k1 d1 _ _ A2 l2 c2 B2 k2 d2 _ _ w g1 g2 (by omega) (by omega) (by omega) (by omega) pq)
  · rw [quo_ref d x y hy0 rfl rfl, show rnd d (sg x != sg y) (zq (rv (mg x) * K75) (rv (mg y))) = divR d x y by unfold divR; rw [nx, ny, ix, iy, decide_eq_false hy0, if_neg hy0]; simp]
    exact asked_3 d x y z _ w (Lib.hid fun w => rdiv_any d x y w hx hy)
  · exact (nw_fr (by omega) (by omega) (by omega)).1
  · exact (nw_fr (by omega) (by omega) (by omega)).2

set_option maxHeartbeats 1000000 in
theorem op_4 (x y z : Nat) (hx : x < 18446744073709551616) (hy : y < 18446744073709551616) (hz : z < 18446744073709551616) (fx : mg x < infR) (fy : mg y < infR) (fz : mg z < infR) : ∃ s N D, OpS 4 x y z s N D := by
  have sx := fbN_bits x
  have sy := fbN_bits y
  have sz := fbN_bits z
  have tx := fbD_bits x
  have ty := fbD_bits y
  have tz_ := fbD_bits z
  have px := fbD_pos x
  have py := fbD_pos y
  have pz := fbD_pos z
  have pxy : 0 < fbD x * fbD y := Nat.mul_pos px py
  have a1 := nw_m2 (fbN x) (fbD y)
  have a2 := nw_m2 (fbN y) (fbD x)
  have a3 := nw_m2 (fbD x) (fbD y)
  have a4 := nw_m2 (fbN x) (fbN y)
  have a5 := nw_m2 (fbD x) (fbN y)
  obtain ⟨nx, ix⟩ := fin_flags fx
  obtain ⟨ny, iy⟩ := fin_flags fy
  obtain ⟨nz, iz⟩ := fin_flags fz
  have hpv := mul_val x y (n := (sg x && decide (mg x ≠ 0))) (m := (sg y && decide (mg y ≠ 0))) rfl rfl
  have hpb := nw_fr (n := fbN x * fbN y) (d := fbD x * fbD y) (b := 80) (by omega) (by omega) (by omega)
  have hpD0 : 0 < fracD (fbN x * fbN y) (fbD x * fbD y) 0 := fracD_pos _ (by omega)
  obtain ⟨pS, hpS⟩ : ∃ p, p = (((sg x && decide (mg x ≠ 0)) != (sg y && decide (mg y ≠ 0))) && decide (fbN x * fbN y ≠ 0)) := ⟨_, rfl⟩
  obtain ⟨pN, hpN⟩ : ∃ p, p = fracN (fbN x * fbN y) (fbD x * fbD y) 0 := ⟨_, rfl⟩
  obtain ⟨pD, hpD⟩ : ∃ p, p = fracD (fbN x * fbN y) (fbD x * fbD y) 0 := ⟨_, rfl⟩
  rw [← hpS, ← hpN, ← hpD] at hpv
  rw [← hpN, ← hpD] at hpb
  rw [← hpD] at hpD0
  have b1 := nw_m2 pN (fbD z)
  have b2 := nw_m2 (fbN z) pD
  have b3 := nw_m2 pD (fbD z)
  have ppz : 0 < pD * fbD z := Nat.mul_pos hpD0 pz
  have hm := nw_am pS (sg z && decide (mg z ≠ 0)) (pN * fbD z) (fbN z * pD) 130 (by omega) (by omega)
  refine ⟨(aNeg pS (sg z && decide (mg z ≠ 0)) (pN * fbD z) (fbN z * pD) && decide ((aMag pS (sg z && decide (mg z ≠ 0)) (pN * fbD z) (fbN z * pD)) ≠ 0)), fracN (aMag pS (sg z && decide (mg z ≠ 0)) (pN * fbD z) (fbN z * pD)) (pD * fbD z) 0, fracD (aMag pS (sg z && decide (mg z ≠ 0)) (pN * fbD z) (fbN z * pD)) (pD * fbD z) 0, Lib.hid fun A1 l1 c1 B1 k1 d1 A2 l2 c2 B2 k2 d2 A3 l3 c3 B3 k3 d3 w h1 h2 h3 => ?_, Lib.hid fun d w => ?_, fracD_pos _ (by omega), sg_fr _ _ _, ?_, ?_⟩
  · refine exactly_4 _ A1 l1 c1 B1 k1 d1 _ _ _ A2 l2 c2 B2 k2 d2 _ _ _ A3 l3 c3 B3 k3 d3 _ _ _ _ _ w h1 h2 h3 pS pN pD (Lib.hid fun w g1 g2 => ?_) (Lib.hid fun A l c B k d w g1 g2 => radd_any _ _ A l c B k d _ _ A3 l3 c3 B3 k3 d3 _ _ w g1 g2 (by omega) (by omega) (by omega) (by omega) ppz)
    rw [hpS, hpN, hpD]
    exact rmulq_any _ _ A1 l1 c1 B1 k1 d1 _ _ A2 l2 c2 B2 k2 d2 _ _ w g1 g2 (by omega) (by omega) (by omega) (by omega) pxy
  · rw [add_gen d hpD0 pz hpv (one_val z rfl), show rT d (sv x * sv y + sv z * (K74 : Int)) = fmaR d x y z by unfold fmaR oddP; rw [nx, ny, nz, ix, iy, iz]; rfl]
    exact asked_4 d x y z _ w (Lib.hid fun w => rfma_any d x y z w hx hy hz)
  · exact (nw_fr (by omega) (by omega) (by omega)).1
  · exact (nw_fr (by omega) (by omega) (by omega)).2

end Go.Proofs.Ytmcfflecaklpcaa
