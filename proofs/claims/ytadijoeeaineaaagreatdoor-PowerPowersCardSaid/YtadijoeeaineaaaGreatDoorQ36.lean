/-
  The contract of the document's powers of intervals. Conditions: those that each theorem names.
-/
import Derived.Test.YtadijoeeaineaaaGreatDoorQ32
import Derived.Test.YtadijoeeaineaaaGreatDoorQ34
import Derived.Test.YtadijoeeaineaaaGreatDoorQ35
import Derived.Test.YtadijoeeaineaaaGreatDoorQ33
import Derived.Test.YtadijoeeaineaaaGreatDoorQ06
import Derived.Test.YtadijoeeaineaaaGreatDoorQ13
import Derived.Test.YtadijoeeaineaaaGreatDoorQ21
import Derived.Deep.RegionWith
import Derived.Test.YtadijoeeaineaaaGreatDoorQ04
import Derived.Outline
import Derived.StillTailTactics
import Derived.Test.YtadijoeeaineaaaGreatDoorQ14
import Derived.Test.YtadijoeeaineaaaGreatDoorQ12
import Derived.Deep.DeepCutAuto
namespace Go.Proofs.YtadijoeeaineaaaGreatDoor
open Go.RowKit Nm Rn
set_option maxRecDepth 100000
set_option linter.unusedVariables false
set_option linter.unusedSimpArgs false

/-- A bound's power. -/
def poS (a m : Nat) : Bool := if bI a = 0 then pwS (bNeg a) m && decide (bN a ^ m ≠ 0) else bNeg a
def poN (a m : Nat) : Nat := if bI a = 0 then fracN (bN a ^ m) (bD a ^ m) 0 else bN a
def poD (a m : Nat) : Nat := if bI a = 0 then fracD (bN a ^ m) (bD a ^ m) 0 else bD a
def sgK (k : Int) : Int := if 0 < k then 1 else if k < 0 then -1 else 0

theorem bl_small {x : Nat} : bl (bN x) ≤ 3000 ∧ bl (bD x) ≤ 3000 := by
  obtain ⟨h1, h2⟩ := bN_small x
  rw [nw_bl] at h1 h2
  omega
theorem power7_any (a m : Nat) (hm : m ≤ 1024) : ∀ (A : Option Addr) (l c : Nat) (B : Option Addr) (k d : Nat) (w : World), RatAt w A l c B k d (bN a) (bD a) →
    Calls Tryz.prog 64 #[.agg #[.int .i64 (bI a), .bool (bNeg a), .slice A l c, .slice B k d], .int .i64 (m : Int)] w (RetEnd (bI a) (poS a m) (poN a m) (poD a m) w) := by
  intro A l c B k d w h
  unfold poS poN poD
  by_cases hi : bI a = 0
  · rw [if_pos hi, if_pos hi, if_pos hi]
    have := power7_q (bI a) (bNeg a) A l c B k d (bN a) (bD a) (m : Int) _ _ _ w h (by rw [hi]; rfl) (Lib.hid fun w g => rpowb_any (bNeg a) A l c B k d (bN a) (bD a) m w g hm bl_small.1 bl_small.2 (Nat.pos_of_ne_zero (bD_nz a)))
    rw [hi] at this
    rw [hi]
    exact this
  · rw [if_neg hi, if_neg hi, if_neg hi]
    exact power7_i (bI a) (bNeg a) A l c B k d (bN a) (bD a) (m : Int) w h (by rw [bne_iff_ne]; exact hi)
theorem po_eg {a m : Nat} (ha : a < 18446744073709551616) (na : isNaN a = false) (hm0 : 0 < m) (hm : m ≤ 1024) (hev : m % 2 = 0 → 0 ≤ key a) : EG (bI a) (poS a m) (poN a m) (poD a m) (sgK (key a)) := by
  unfold poS poN poD sgK
  rcases bnd_cases ha na with ⟨h1, h2, h3⟩ | ⟨h1, h2, h3⟩ | ⟨h1, h2, h3, h4, h5, h6, h7, _, _⟩
  · rw [h2, if_neg (by omega), if_neg (by omega), if_neg (by omega), h3, if_pos (by omega), h1]
    exact ⟨by omega, by decide, by decide, by decide, by decide, fun _ => rfl⟩
  · rw [h2, if_neg (by omega), if_neg (by omega), if_neg (by omega), h3, if_neg (by omega), if_pos (by omega), h1]
    exact ⟨by omega, by decide, by decide, by decide, by decide, fun _ => rfl⟩
  · rw [h1, if_pos rfl, if_pos rfl, if_pos rfl, h2, h3, h4]
    have b := bl_small (x := a)
    rw [h3, h4] at b
    have pD := fbD_pos a
    have hsz := pow_sz (m := m) hm b.1 b.2 pD
    have hD := Nat.ne_of_gt (fracD_pos (n := fbN a ^ m) 0 (Nat.ne_of_gt (Nat.pow_pos (n := m) pD)))
    by_cases hz : mg a = 0
    · have hN : fbN a ^ m = 0 := by rw [(fbN_zero a).2 hz]; exact Nat.zero_pow hm0
      have hk : key a = 0 := by unfold key; rw [hz]; split <;> rfl
      rw [hN] at hsz hD ⊢
      rw [hk, fracN_zero]
      refine ⟨by omega, by decide, hsz.2, hD, ?_, fun _ => by simp⟩
      unfold eS sgnZ; simp
    · have hN : fbN a ^ m ≠ 0 := Nat.ne_of_gt (Nat.pow_pos (Nat.pos_of_ne_zero fun h => hz ((fbN_zero a).1 h)))
      have hF : fracN (fbN a ^ m) (fbD a ^ m) 0 ≠ 0 := fun h => hN (fracN_eq_zero.1 h)
      rw [decide_eq_true hN, Bool.and_true, decide_eq_true hz, Bool.and_true]
      refine ⟨by omega, hsz.1, hsz.2, hD, ?_, fun h => absurd h hF⟩
      unfold eS sgnZ
      rw [if_pos rfl, if_neg hF]
      cases hs : sg a
      · have hk : 0 < key a := by unfold key; rw [hs]; simp; omega
        rw [if_pos hk, pwS_false]; rfl
      · have hk : key a < 0 := by unfold key; rw [hs]; simp; omega
        have ho : m % 2 = 1 := by
          rcases Nat.mod_two_eq_zero_or_one m with h | h
          · have := hev h; omega
          · exact h
        have e : pwS true m = true := by unfold pwS; rw [ho]; rfl
        rw [e, if_pos rfl, if_neg (c := 0 < key a) (by omega), if_pos hk]
/-- What a power is rounded to. -/
theorem po_rnd {d : Int} {a m : Nat} {n : Int} (ha : a < 18446744073709551616) (na : isNaN a = false) (hn : n = (m : Int)) (hm0 : 0 < m) (hm : m ≤ 1024) (hi : bI a = 0) : rnd d (poS a m) (zr (poN a m) (poD a m)) = powR d a n := by
  unfold poS poN poD
  rcases bnd_cases ha na with ⟨h1, h2, h3⟩ | ⟨h1, h2, h3⟩ | ⟨h1, h2, h3, h4, h5, h6, h7, _, _⟩
  · omega
  · omega
  · rw [if_pos hi, if_pos hi, if_pos hi, h2, h3, h4]
    rw [powR_pos na (by omega) h7 (by omega), show n.toNat = m by omega]
    have e : zr (fracN (fbN a ^ m) (fbD a ^ m) 0) (fracD (fbN a ^ m) (fbD a ^ m) 0) = ZP a m := rfl
    rw [e]
    by_cases hz : mg a = 0
    · rw [ZP_zero hz hm0, rnd_zero, rnd_zero]
    · have hN : fbN a ^ m ≠ 0 := Nat.ne_of_gt (Nat.pow_pos (Nat.pos_of_ne_zero fun h => hz ((fbN_zero a).1 h)))
      rw [decide_eq_true hN, Bool.and_true, decide_eq_true hz, Bool.and_true]
theorem po_lo {a m : Nat} {n : Int} (ha : a < 18446744073709551616) (na : isNaN a = false) (hn : n = (m : Int)) (hm0 : 0 < m) (hm : m ≤ 1024) (hev : m % 2 = 0 → 0 ≤ key a) (hi : a ≠ infR) : lsLo (bI a) (poS a m) (poN a m) (poD a m) = powR (-1) a n := by
  unfold lsLo
  by_cases h0 : bI a = 0
  · rw [if_pos h0]; exact po_rnd ha na hn hm0 hm h0
  · rw [if_neg h0]
    rcases bnd_cases ha na with ⟨h1, h2, h3⟩ | ⟨h1, h2, h3⟩ | ⟨h1, _⟩
    · exact absurd h1 hi
    · have ho : m % 2 = 1 := by
        rcases Nat.mod_two_eq_zero_or_one m with h | h
        · have := hev h; omega
        · exact h
      rw [powR_inf na (by omega) (by rw [h1]; decide) (by omega), if_neg (by omega), h1]
      rw [show sg minf = true by decide, Bool.true_and, if_pos (by rw [decide_eq_true_iff]; omega)]
    · exact absurd h1 h0
theorem po_hi {a m : Nat} {n : Int} (ha : a < 18446744073709551616) (na : isNaN a = false) (hn : n = (m : Int)) (hm0 : 0 < m) (hm : m ≤ 1024) (hi : a ≠ minf) : lsHi (bI a) (poS a m) (poN a m) (poD a m) = powR 1 a n := by
  unfold lsHi
  by_cases h0 : bI a = 0
  · rw [if_pos h0]; exact po_rnd ha na hn hm0 hm h0
  · rw [if_neg h0]
    rcases bnd_cases ha na with ⟨h1, h2, h3⟩ | ⟨h1, h2, h3⟩ | ⟨h1, _⟩
    · rw [powR_inf na (by omega) (by rw [h1]; decide) (by omega), if_neg (by omega), h1]
      rw [show sg infR = false by decide, Bool.false_and, if_neg (by simp)]
    · exact absurd h1 hi
    · exact absurd h1 h0
theorem zr01 : zr (fracN 0 1 0) (fracD 0 1 0) = 0 := by rw [fr0.1]; exact zr_zero _
/-- What an inverse of a power is rounded to. -/
theorem iv_rnd {d : Int} {a m : Nat} {n : Int} (ha : a < 18446744073709551616) (na : isNaN a = false) (hn : n = -(m : Int)) (hm0 : 0 < m) (hm : m ≤ 1024) (hk : key a ≠ 0) : rnd d (ivS (bI a) (poS a m)) (zr (ivN (bI a) (poN a m) (poD a m)) (ivD (bI a) (poN a m) (poD a m))) = powR d a n := by
  unfold ivS ivN ivD
  by_cases h0 : bI a = 0
  · rw [if_pos h0, if_pos h0, if_pos h0]
    unfold poS poN poD
    rcases bnd_cases ha na with ⟨h1, h2, h3⟩ | ⟨h1, h2, h3⟩ | ⟨h1, h2, h3, h4, h5, h6, h7, _, _⟩
    · omega
    · omega
    · have hz : mg a ≠ 0 := fun h => hk (by unfold key; rw [h]; split <;> rfl)
      rw [if_pos h0, if_pos h0, if_pos h0, h2, h3, h4]
      have hN : fbN a ^ m ≠ 0 := Nat.ne_of_gt (Nat.pow_pos (Nat.pos_of_ne_zero fun h => hz ((fbN_zero a).1 h)))
      rw [decide_eq_true hN, Bool.and_true, decide_eq_true hz, Bool.and_true]
      rw [powR_neg na (by omega) h7 hz (by omega), show (-n).toNat = m by omega]
      rfl
  · rw [if_neg h0, if_neg h0, if_neg h0, zr01, rnd_zero]
    rcases bnd_cases ha na with ⟨h1, h2, h3⟩ | ⟨h1, h2, h3⟩ | ⟨h1, _⟩
    · rw [powR_inf na (by omega) (by rw [h1]; decide) (by omega), if_pos (by omega)]
    · rw [powR_inf na (by omega) (by rw [h1]; decide) (by omega), if_pos (by omega)]
    · exact absurd h1 h0
theorem nv_rnd {d : Int} {a m : Nat} {n : Int} (ha : a < 18446744073709551616) (na : isNaN a = false) (hn : n = -(m : Int)) (hm0 : 0 < m) (hm : m ≤ 1024) (hk : key a < 0) (hev : m % 2 = 0 → 0 ≤ key a) : rnd d (nvS (bI a) (poS a m) (poN a m) (poD a m)) (zr (ivN (-(bI a)) (poN a m) (poD a m)) (ivD (-(bI a)) (poN a m) (poD a m))) = powR d a n := by
  have hg := po_eg ha na hm0 hm hev
  have hv : sgK (key a) = -1 := by unfold sgK; rw [if_neg (by omega), if_pos hk]
  rw [hv] at hg
  rw [← iv_rnd (d := d) ha na hn hm0 hm (by omega)]
  rcases hg.cases with ⟨_, _, _, h⟩ | ⟨_, _, _, h⟩ | ⟨h1, h2, h3, _⟩ | ⟨h1, h2⟩
  · omega
  · omega
  · unfold nvS ivS ivN ivD
    rw [h1, h3]
    simp only [Int.neg_zero, if_true, Bool.not_true, Bool.false_and, Bool.not_false, Bool.true_and]
    have hne : fracN (1 * poD a m) (1 * poN a m) 0 ≠ 0 := fun h => by
      have := fracN_eq_zero.1 h
      have := hg.hp
      omega
    rw [decide_eq_true hne]
  · unfold nvS ivS ivN ivD
    have h3 : ¬ -(bI a) = 0 := by omega
    simp only [if_neg h1, if_neg h3]
    rw [zr01, rnd_zero, rnd_zero]

theorem sz_nz {p q : Nat} (h : PnE p q) : pl (szLo p q) = szLo p q ∧ pl (szHi p q) = szHi p q := by
  have hm : ∀ {x : Nat}, x ≠ 9223372036854775808 → mx x ≠ 9223372036854775808 := fun hx => by
    unfold mx; split
    · unfold mg; omega
    · exact hx
  have h1 := hm h.ma
  have h2 := hm h.mb
  constructor
  · unfold pl; rw [if_neg]
    unfold szLo; split
    · omega
    · split <;> assumption
  · unfold pl; rw [if_neg]
    unfold szHi; split <;> assumption
theorem ls0 : lsLo 0 false (fracN 1 1 0) (fracD 1 1 0) = 4607182418800017408 ∧ lsHi 0 false (fracN 1 1 0) (fracD 1 1 0) = 4607182418800017408 := by decide +kernel

/-- The ends that are raised to the m-th. -/
structure Rs_ (a b m : Nat) : Prop where
  e : PnE a b
  ev : m % 2 = 0 → 0 ≤ key a

/-- The powers of a set, and the least interval that holds them. -/
theorem pw_least {a b m : Nat} {n : Int} (h : Rs_ a b m) (hm0 : 0 < m) (hm : m ≤ 1024) (hn : n = (m : Int)) :
    ∀ (A : Option Addr) (l c : Nat) (B : Option Addr) (k d : Nat) (A' : Option Addr) (l' c' : Nat) (B' : Option Addr) (k' d' : Nat) (w : World), RatAt w A l c B k d (poN a m) (poD a m) → RatAt w A' l' c' B' k' d' (poN b m) (poD b m) →
      Calls Tryz.prog 31 #[.agg #[.bool false, .int .i64 (bI a), .bool (poS a m), .slice A l c, .slice B k d, .int .i64 (bI b), .bool (poS b m), .slice A' l' c', .slice B' k' d']] w (RetI (powR (-1) a n) (powR 1 b n) w) := by
  intro A l c B k d A' l' c' B' k' d' w h1 h2
  have ha := po_eg h.e.la h.e.na hm0 hm h.ev
  have hb := po_eg h.e.lb h.e.nb hm0 hm (fun g => by have := h.ev g; have := h.e.ki; omega)
  have := least6_full (bI a) (poS a m) A l c B k d _ _ (bI b) (poS b m) A' l' c' B' k' d' _ _ w h1 h2 (by have := ha.hN; omega) (by have := ha.hD; omega) (by have := hb.hN; omega) (by have := hb.hD; omega) ha.hp hb.hp
  rwa [po_lo h.e.la h.e.na hn hm0 hm h.ev h.e.ia, po_hi h.e.lb h.e.nb hn hm0 hm h.e.ib] at this
end Go.Proofs.YtadijoeeaineaaaGreatDoor

/-
  The contract of the document's powers of intervals, the whole. Conditions: those that each theorem names.
-/
namespace Go.Proofs.YtadijoeeaineaaaGreatDoor
open Go.RowKit Nm Rn
set_option maxRecDepth 100000
set_option linter.unusedVariables false
set_option linter.unusedSimpArgs false

theorem inv_least {a b m : Nat} {n : Int} (h : Rs_ a b m) (hm0 : 0 < m) (hm : m ≤ 1024) (hn : n = -(m : Int)) :
    ∃ (nR : Bool) (i3 : Int) (s3 : Bool) (N3 D3 : Nat) (i4 : Int) (s4 : Bool) (N4 D4 : Nat),
      (∀ (A : Option Addr) (l c : Nat) (B : Option Addr) (k d : Nat) (A' : Option Addr) (l' c' : Nat) (B' : Option Addr) (k' d' : Nat) (w : World), RatAt w A l c B k d (poN a m) (poD a m) → RatAt w A' l' c' B' k' d' (poN b m) (poD b m) →
        Calls Tryz.prog 65 #[.agg #[.bool false, .int .i64 (bI a), .bool (poS a m), .slice A l c, .slice B k d, .int .i64 (bI b), .bool (poS b m), .slice A' l' c', .slice B' k' d']] w (RetSet nR i3 s3 N3 D3 i4 s4 N4 D4 w)) ∧
      (∀ (A : Option Addr) (l c : Nat) (B : Option Addr) (k d : Nat) (A' : Option Addr) (l' c' : Nat) (B' : Option Addr) (k' d' : Nat) (w : World), RatAt w A l c B k d N3 D3 → RatAt w A' l' c' B' k' d' N4 D4 →
        Calls Tryz.prog 31 #[.agg #[.bool nR, .int .i64 i3, .bool s3, .slice A l c, .slice B k d, .int .i64 i4, .bool s4, .slice A' l' c', .slice B' k' d']] w (RetI (pwLo a b n) (pwHi a b n) w)) := by
  have hevb : m % 2 = 0 → 0 ≤ key b := fun g => by have := h.ev g; have := h.e.ki; omega
  have ha := po_eg h.e.la h.e.na hm0 hm h.ev
  have hb := po_eg h.e.lb h.e.nb hm0 hm hevb
  have kab := h.e.ki
  have ka : key a = 0 ↔ mg a = 0 := by unfold key; split <;> omega
  have kb : key b = 0 ↔ mg b = 0 := by unfold key; split <;> omega
  have hnp : ¬ 0 < n := by omega
  have vp : ∀ {k : Int}, 0 < k → sgK k = 1 := fun h => if_pos h
  have vz : ∀ {k : Int}, k = 0 → sgK k = 0 := fun h => by subst h; rfl
  have vn : ∀ {k : Int}, k < 0 → sgK k = -1 := fun h => by unfold sgK; rw [if_neg (by omega), if_pos h]
  have z1 : nw (fracN 0 1 0) ≤ 1073741824 := by decide
  have z2 : nw (fracD 0 1 0) ≤ 1073741824 := by decide
  have z3 : fracD 0 1 0 ≠ 0 := by decide
  by_cases a1 : 0 < key a
  · rw [vp a1] at ha
    rw [vp (show 0 < key b by omega)] at hb
    obtain ⟨sa1, sa2, sa3⟩ := ivN_sz ha (by omega)
    obtain ⟨sb1, sb2, sb3⟩ := ivN_sz hb (by omega)
    obtain ⟨e1, e2⟩ : pwLo a b n = powR (-1) b n ∧ pwHi a b n = powR 1 a n := by
      unfold pwLo pwHi
      constructor <;> (repeat' split) <;> first | rfl | (exfalso; omega)
    rw [e1, e2]
    refine ⟨_, _, _, _, _, _, _, _, _, inverse_pp ha (by omega) hb (by omega), fun A l c B k d A' l' c' B' k' d' w h1 h2 => ?_⟩
    have := least6_full 0 (ivS (bI b) (poS b m)) A l c B k d _ _ 0 (ivS (bI a) (poS a m)) A' l' c' B' k' d' _ _ w h1 h2 sb1 sb2 sa1 sa2 sb3 sa3
    unfold lsLo lsHi at this
    rwa [if_pos rfl, if_pos rfl, iv_rnd h.e.lb h.e.nb hn hm0 hm (by omega), iv_rnd h.e.la h.e.na hn hm0 hm (by omega)] at this
  · by_cases a0 : key a = 0
    · rw [vz a0] at ha
      by_cases b0 : key b = 0
      · rw [vz b0] at hb
        obtain ⟨e1, e2⟩ : pwLo a b n = infR ∧ pwHi a b n = minf := by
          unfold pwLo pwHi
          constructor <;> (repeat' split) <;> first | rfl | (exfalso; omega)
        rw [e1, e2]
        exact ⟨_, _, _, _, _, _, _, _, _, inverse_zz ha rfl hb rfl, fun A l c B k d A' l' c' B' k' d' w h1 h2 => least6_none 0 false A l c B k d _ _ 0 false A' l' c' B' k' d' _ _ w h1 h2⟩
      · rw [vp (show 0 < key b by omega)] at hb
        obtain ⟨sb1, sb2, sb3⟩ := ivN_sz hb (by omega)
        obtain ⟨e1, e2⟩ : pwLo a b n = powR (-1) b n ∧ pwHi a b n = infR := by
          unfold pwLo pwHi
          constructor <;> (repeat' split) <;> first | rfl | (exfalso; omega)
        rw [e1, e2]
        refine ⟨_, _, _, _, _, _, _, _, _, inverse_zp ha rfl hb (by omega), fun A l c B k d A' l' c' B' k' d' w h1 h2 => ?_⟩
        have := least6_full 0 (ivS (bI b) (poS b m)) A l c B k d _ _ 1 false A' l' c' B' k' d' _ _ w h1 h2 sb1 sb2 z1 z2 sb3 z3
        unfold lsLo lsHi at this
        rwa [if_pos rfl, if_neg (by omega), iv_rnd h.e.lb h.e.nb hn hm0 hm b0] at this
    · have an : key a < 0 := by omega
      rw [vn an] at ha
      obtain ⟨sa1, sa2, sa3⟩ := ivN_sz ha.neg (by omega)
      by_cases b1 : 0 < key b
      · rw [vp b1] at hb
        obtain ⟨e1, e2⟩ : pwLo a b n = minf ∧ pwHi a b n = infR := by
          unfold pwLo pwHi
          constructor <;> (repeat' split) <;> first | rfl | (exfalso; omega)
        rw [e1, e2]
        refine ⟨_, _, _, _, _, _, _, _, _, inverse_np ha (by omega) hb (by omega), fun A l c B k d A' l' c' B' k' d' w h1 h2 => ?_⟩
        have := least6_full (-1) (!false && decide (fracN 0 1 0 ≠ 0)) A l c B k d _ _ 1 false A' l' c' B' k' d' _ _ w h1 h2 z1 z2 z1 z2 z3 z3
        unfold lsLo lsHi at this
        rwa [if_neg (by omega), if_neg (by omega)] at this
      · by_cases b0 : key b = 0
        · rw [vz b0] at hb
          obtain ⟨e1, e2⟩ : pwLo a b n = minf ∧ pwHi a b n = powR 1 a n := by
            unfold pwLo pwHi
            constructor <;> (repeat' split) <;> first | rfl | (exfalso; omega)
          rw [e1, e2]
          refine ⟨_, _, _, _, _, _, _, _, _, inverse_nz ha (by omega) hb rfl, fun A l c B k d A' l' c' B' k' d' w h1 h2 => ?_⟩
          have := least6_full (-1) (!false && decide (fracN 0 1 0 ≠ 0)) A l c B k d _ _ (-0) (nvS (bI a) (poS a m) (poN a m) (poD a m)) A' l' c' B' k' d' _ _ w h1 h2 z1 z2 sa1 sa2 z3 sa3
          unfold lsLo lsHi at this
          rwa [if_neg (by omega), if_pos (by omega), nv_rnd h.e.la h.e.na hn hm0 hm an h.ev] at this
        · have bn : key b < 0 := by omega
          rw [vn bn] at hb
          obtain ⟨sb1, sb2, sb3⟩ := ivN_sz hb.neg (by omega)
          obtain ⟨e1, e2⟩ : pwLo a b n = powR (-1) b n ∧ pwHi a b n = powR 1 a n := by
            unfold pwLo pwHi
            constructor <;> (repeat' split) <;> first | rfl | (exfalso; omega)
          rw [e1, e2]
          refine ⟨_, _, _, _, _, _, _, _, _, inverse_nn ha (by omega) hb (by omega), fun A l c B k d A' l' c' B' k' d' w h1 h2 => ?_⟩
          have := least6_full (-0) (nvS (bI b) (poS b m) (poN b m) (poD b m)) A l c B k d _ _ (-0) (nvS (bI a) (poS a m) (poN a m) (poD a m)) A' l' c' B' k' d' _ _ w h1 h2 sb1 sb2 sa1 sa2 sb3 sa3
          unfold lsLo lsHi at this
          rwa [if_pos (by omega), if_pos (by omega), nv_rnd h.e.lb h.e.nb hn hm0 hm bn hevb, nv_rnd h.e.la h.e.na hn hm0 hm an h.ev] at this

theorem pown7_any (lo hi : Nat) (n : Int) (w : World) (hl : lo < 18446744073709551616) (hh : hi < 18446744073709551616) :
    Calls Tryz.prog 8 #[.agg #[.int .u64 (lo : Int), .int .u64 (hi : Int)], .int .i64 n] w (RetI (pwnLo lo hi n) (pwnHi lo hi n) w) := by
  unfold pwnLo pwnHi
  by_cases he : emp lo hi
  · rw [if_pos he, if_pos he]
    have HOF := Lib.hid (fun w => of6_none lo hi w hl hh he)
    have HEM := Lib.hid (fun w => empty6_any w)
    by_cases h1 : n < -1024
    · exact pown7_b0t (h1 := decide_eq_true h1) (HEM := HEM) (w := w) (HOF := HOF)
    · by_cases h2 : 1024 < n
      · exact pown7_b1t (h1 := decide_eq_false h1) (h2 := decide_eq_true h2) (HEM := HEM) (w := w) (HOF := HOF)
      · exact pown7_w (h1 := decide_eq_false h1) (h2 := decide_eq_false h2) (w := w) (HOF := HOF)
          (HPS := Lib.hid fun A l c B k d A' l' c' B' k' d' w g1 g2 => powers7_n 0 false A l c B k d _ _ 0 false A' l' c' B' k' d' _ _ n w g1 g2)
          (HLE := Lib.hid fun A l c B k d A' l' c' B' k' d' w g1 g2 => least6_none 0 false A l c B k d _ _ 0 false A' l' c' B' k' d' _ _ w g1 g2)
  · rw [if_neg he, if_neg he]
    have HOF := Lib.hid (fun w => of6_full lo hi w hl hh he)
    have hE := pnE_rd hl hh he
    have HEM := Lib.hid (fun w => entire6_any w)
    generalize rdLo lo hi = p at *
    generalize rdHi lo hi = q at *
    by_cases h1 : n < -1024
    · rw [if_pos (.inl h1), if_pos (.inl h1)]
      exact pown7_b0f (h1 := decide_eq_true h1) (HEM := HEM) (w := w) (HOF := HOF)
    · by_cases h2 : 1024 < n
      · rw [if_pos (.inr h2), if_pos (.inr h2)]
        exact pown7_b1f (h1 := decide_eq_false h1) (h2 := decide_eq_true h2) (HEM := HEM) (w := w) (HOF := HOF)
      · have hr : ¬ (n < -1024 ∨ 1024 < n) := by omega
        rw [if_neg hr, if_neg hr]
        by_cases h0 : n = 0
        · rw [if_pos h0, if_pos h0]
          have HI := Lib.hid (fun w => int_any 1 w (by omega))
          refine pown7_w (h1 := decide_eq_false h1) (h2 := decide_eq_false h2) (w := w) (HOF := HOF)
            (HPS := Lib.hid fun A l c B k d A' l' c' B' k' d' w g1 g2 => powers7_0 _ _ A l c B k d _ _ _ _ A' l' c' B' k' d' _ _ n _ _ w g1 g2 (by rw [h0]; rfl) HI)
            (HLE := Lib.hid fun A l c B k d A' l' c' B' k' d' w g1 g2 => ?_)
          have := least6_full 0 false A l c B k d _ _ 0 false A' l' c' B' k' d' _ _ w g1 g2 (by decide) (by decide) (by decide) (by decide) (by decide) (by decide)
          rwa [ls0.1, ls0.2] at this
        · rw [if_neg h0, if_neg h0]
          have hn0 : (n == 0) = false := by rw [beq_eq_false_iff_ne]; exact h0
          have hsz := sz_nz hE
          have hES := pnE_sz hE
          rw [hsz.1, hsz.2] at hES
          have k0 := (@sz_key p q).2
          by_cases hp : 0 < n
          · obtain ⟨m, hm⟩ : ∃ m : Nat, n = (m : Int) := Int.eq_ofNat_of_zero_le (by omega)
            have hm0 : 0 < m := by omega
            have hm1 : m ≤ 1024 := by omega
            have htm : n.tmod 2 = ((m % 2 : Nat) : Int) := by rw [hm]; rfl
            unfold pwLo pwHi
            rw [if_pos hp, if_pos hp]
            by_cases hev : n.tmod 2 = 0
            · have e1 : pnA p q n = szLo p q := by unfold pnA; rw [if_pos hev, hsz.1]
              have e2 : pnB p q n = szHi p q := by unfold pnB; rw [if_pos hev, hsz.2]
              rw [e1, e2]
              have hR : Rs_ (szLo p q) (szHi p q) m := ⟨hES, fun _ => k0⟩
              refine pown7_w (h1 := decide_eq_false h1) (h2 := decide_eq_false h2) (w := w) (HOF := HOF) (HPS := Lib.hid fun A l c B k d A' l' c' B' k' d' w g1 g2 => ?_) (HLE := Lib.hid (pw_least hR hm0 hm1 hm))
              rw [hm]
              exact powers7_ep (h1 := g1) (h2 := g2) (h0 := by rw [← hm]; exact hn0) (hs := decide_eq_false (by omega)) (he := by rw [← hm, htm, beq_iff_eq]; omega)
                (HSZ := Lib.hid fun w f1 f2 => sizeb_full p q A l c B k d A' l' c' B' k' d' w hE.la hE.lb hE.na hE.nb f1 f2)
                (HP1 := Lib.hid (power7_any (szLo p q) m hm1)) (HP2 := Lib.hid (power7_any (szHi p q) m hm1))
            · have e1 : pnA p q n = p := by unfold pnA; rw [if_neg hev]
              have e2 : pnB p q n = q := by unfold pnB; rw [if_neg hev]
              rw [e1, e2]
              have hR : Rs_ p q m := ⟨hE, fun g => by omega⟩
              refine pown7_w (h1 := decide_eq_false h1) (h2 := decide_eq_false h2) (w := w) (HOF := HOF) (HPS := Lib.hid fun A l c B k d A' l' c' B' k' d' w g1 g2 => ?_) (HLE := Lib.hid (pw_least hR hm0 hm1 hm))
              rw [hm]
              exact powers7_op (h1 := g1) (h2 := g2) (h0 := by rw [← hm]; exact hn0) (hs := decide_eq_false (by omega)) (he := by rw [← hm, htm, beq_eq_false_iff_ne]; omega)
                (HP1 := Lib.hid (power7_any p m hm1)) (HP2 := Lib.hid (power7_any q m hm1))
          · obtain ⟨m, hm⟩ : ∃ m : Nat, -n = (m : Int) := Int.eq_ofNat_of_zero_le (by omega)
            have hm0 : 0 < m := by omega
            have hm1 : m ≤ 1024 := by omega
            have hmn : n = -(m : Int) := by omega
            have htm : n.tmod 2 = -((m % 2 : Nat) : Int) := by rw [hmn, Int.neg_tmod]; rfl
            have hw : IntKind.i64.wrap (-n) = (m : Int) := by rw [IntWalk.i64_in _ (by omega)]; exact hm
            have hmt : ((m : Int)).tmod 2 = ((m % 2 : Nat) : Int) := rfl
            by_cases hev : n.tmod 2 = 0
            · have e1 : pnA p q n = szLo p q := by unfold pnA; rw [if_pos hev, hsz.1]
              have e2 : pnB p q n = szHi p q := by unfold pnB; rw [if_pos hev, hsz.2]
              rw [e1, e2]
              obtain ⟨nR, i3, s3, N3, D3, i4, s4, N4, D4, HIN, HLE⟩ := inv_least (n := n) (⟨hES, fun _ => k0⟩ : Rs_ (szLo p q) (szHi p q) m) hm0 hm1 hmn
              refine pown7_w (h1 := decide_eq_false h1) (h2 := decide_eq_false h2) (w := w) (HOF := HOF) (HPS := Lib.hid fun A l c B k d A' l' c' B' k' d' w g1 g2 => ?_) (HLE := Lib.hid HLE)
              exact powers7_en (h1 := g1) (h2 := g2) (h0 := hn0) (hs := decide_eq_true (by omega)) (hm := hw) (he := by rw [hmt, beq_iff_eq]; omega)
                (HSZ := Lib.hid fun w f1 f2 => sizeb_full p q A l c B k d A' l' c' B' k' d' w hE.la hE.lb hE.na hE.nb f1 f2)
                (HP1 := Lib.hid (power7_any (szLo p q) m hm1)) (HP2 := Lib.hid (power7_any (szHi p q) m hm1)) (HIN := Lib.hid HIN)
            · have e1 : pnA p q n = p := by unfold pnA; rw [if_neg hev]
              have e2 : pnB p q n = q := by unfold pnB; rw [if_neg hev]
              rw [e1, e2]
              obtain ⟨nR, i3, s3, N3, D3, i4, s4, N4, D4, HIN, HLE⟩ := inv_least (n := n) (⟨hE, fun g => by omega⟩ : Rs_ p q m) hm0 hm1 hmn
              refine pown7_w (h1 := decide_eq_false h1) (h2 := decide_eq_false h2) (w := w) (HOF := HOF) (HPS := Lib.hid fun A l c B k d A' l' c' B' k' d' w g1 g2 => ?_) (HLE := Lib.hid HLE)
              exact powers7_on (h1 := g1) (h2 := g2) (h0 := hn0) (hs := decide_eq_true (by omega)) (hm := hw) (he := by rw [hmt, beq_eq_false_iff_ne]; omega)
                (HP1 := Lib.hid (power7_any p m hm1)) (HP2 := Lib.hid (power7_any q m hm1)) (HIN := Lib.hid HIN)
end Go.Proofs.YtadijoeeaineaaaGreatDoor

/-
  The contract of the program's Pow where it answers a number. Conditions: those that each theorem names.
-/
namespace Go.Proofs.YtadijoeeaineaaaGreatDoor
open Go.RowKit Nm Rn
theorem pow_num (d : Int) (x : Nat) (n : Int) (w : World) (hx : x < 18446744073709551616) (hT : Tab w) (h : isNaN (powR d x n) = false) :
    Calls Tryz.prog 26 #[.int .i64 d, .float .f64 x, .int .i64 n] w fun e w' => e = .returned (.float .f64 (powR d x n)) ∧ Ext w w' := by
  refine (rpow_prog d x n w hx hT).mono ?_
  rintro e w2 ⟨r, rfl, hr, hc, hE⟩
  rw [cn_eq hc h]
  exact ⟨rfl, hE⟩
end Go.Proofs.YtadijoeeaineaaaGreatDoor

/-
  The contracts of the program's intervals, first part: how two ends are read, made, found valid. Conditions: those that each theorem names.
-/
namespace Go.Proofs.YtadijoeeaineaaaGreatDoor
open Go.RowKit Nm Rn
set_option maxRecDepth 100000
set_option linter.unusedVariables false
set_option linter.unusedSimpArgs false

set_option maxHeartbeats 400000 in
theorem iplain_any (b : Nat) (w : World) (h : b < 18446744073709551616) :
    Calls Tryz.prog 52 #[.float .f64 b] w fun e w' => e = .returned (.float .f64 (pl b)) ∧ w = w' := by
  have hq := fo_eq h (show 0 < 18446744073709551616 by omega)
  rw [eq0 h] at hq
  by_cases h0 : b = 0 ∨ b = 9223372036854775808
  · rw [decide_eq_true h0] at hq
    have HF : Hid (0 = pl b) := Lib.hid (by unfold pl; rcases h0 with h0 | h0 <;> subst h0 <;> rfl)
    clear h0 h
    go_enter Tryz.func52, Tryz.ntmps52
    go_wp2
    go_ret
    exact ⟨ret_float HF.out, rfl⟩
  · rw [decide_eq_false h0] at hq
    have HF : Hid (b = pl b) := Lib.hid (by unfold pl; rw [if_neg (fun h => h0 (.inr h))])
    clear h0 h
    go_enter Tryz.func52, Tryz.ntmps52
    go_wp2
    go_ret
    exact ⟨ret_float HF.out, rfl⟩

set_option maxHeartbeats 1000000 in
theorem isound_any (lo hi : Nat) (w : World) (hl : lo < 18446744073709551616) (hh : hi < 18446744073709551616) :
    Calls Tryz.prog 51 #[.float .f64 lo, .float .f64 hi] w fun e w' => e = .returned (.bool (sndB lo hi)) ∧ w = w' := by
  have h1 := fo_lt hl hh
  have h1' := fo_eq hl hh
  have h12 := fo_le hl hh
  rw [h1, h1'] at h12
  have h2 := fo_lt hl infR_lt
  have h3 := fo_gt hh minf_lt
  have hF : sndB lo hi = (leB lo hi && ltB lo infR && ltB minf hi) := rfl
  obtain ⟨a, ha⟩ : ∃ a, a = ltB lo hi := ⟨_, rfl⟩
  obtain ⟨a', ha'⟩ : ∃ a', a' = eqB lo hi := ⟨_, rfl⟩
  obtain ⟨b, hb⟩ : ∃ b, b = ltB lo infR := ⟨_, rfl⟩
  obtain ⟨c, hc⟩ : ∃ c, c = ltB minf hi := ⟨_, rfl⟩
  rw [← h12, ← ha, ← ha', ← hb, ← hc] at hF
  rw [← ha] at h1
  rw [← ha'] at h1'
  rw [← hb] at h2
  rw [← hc] at h3
  have HF := Lib.hid hF
  clear h12 hF ha ha' hb hc hl hh
  cases a <;> cases a' <;> cases b <;> cases c
  all_goals
    go_enter Tryz.func51, Tryz.ntmps51
    go_wp2_with (first | (go_at_call 27; ((with_reducible refine (inf_p _).mono ?_); rintro e w' ⟨rfl, rfl⟩)) | (go_at_call 27; ((with_reducible refine (inf_m _).mono ?_); rintro e w' ⟨rfl, rfl⟩)))
    go_ret
    exact ⟨ret_bool (by rw [HF.out]; rfl), rfl⟩
end Go.Proofs.YtadijoeeaineaaaGreatDoor

/-
  The contracts of the program's intervals, second part: Empty, Entire, Read, New, Point, Valid. Conditions: those that each theorem names.
-/
namespace Go.Proofs.YtadijoeeaineaaaGreatDoor
open Go.RowKit Nm Rn
set_option maxRecDepth 100000
set_option linter.unusedVariables false
set_option linter.unusedSimpArgs false

/-- A result of two floats. -/
def RetF (lo hi : Nat) (w : World) (e : Ending) (w' : World) : Prop := e = .returned (.agg #[.float .f64 lo, .float .f64 hi]) ∧ Ext w w'

set_option maxHeartbeats 400000 in
theorem iempty_any (w : World) : Calls Tryz.prog 23 #[] w (RetF infR minf w) := by
  go_enter Tryz.func23, Tryz.ntmps23
  go_wp2_with (first | (go_at_call 27; ((with_reducible refine (inf_p _).mono ?_); rintro e w' ⟨rfl, rfl⟩)) | (go_at_call 27; ((with_reducible refine (inf_m _).mono ?_); rintro e w' ⟨rfl, rfl⟩)))
  exact bodyPost_ret (v := .agg #[.float .f64 infR, .float .f64 minf]) (by simp [results, Tryz.results23, go_sem]) rfl ⟨rfl, (Ext.refl w).alloc _⟩
set_option maxHeartbeats 400000 in
theorem ientire_any (w : World) : Calls Tryz.prog 24 #[] w (RetF minf infR w) := by
  go_enter Tryz.func24, Tryz.ntmps24
  go_wp2_with (first | (go_at_call 27; ((with_reducible refine (inf_p _).mono ?_); rintro e w' ⟨rfl, rfl⟩)) | (go_at_call 27; ((with_reducible refine (inf_m _).mono ?_); rintro e w' ⟨rfl, rfl⟩)))
  exact bodyPost_ret (v := .agg #[.float .f64 minf, .float .f64 infR]) (by simp [results, Tryz.results24, go_sem]) rfl ⟨rfl, (Ext.refl w).alloc _⟩

set_option maxHeartbeats 1000000 in
theorem iread_any (lo hi : Nat) (w : World) (hl : lo < 18446744073709551616) (hh : hi < 18446744073709551616) :
    Calls Tryz.prog 22 #[.agg #[.float .f64 lo, .float .f64 hi]] w (RetF (rdLo lo hi) (rdHi lo hi) w) := by
  have hs := fun w => isound_any lo hi w hl hh
  have hp1 := fun w => iplain_any lo w hl
  have hp2 := fun w => iplain_any hi w hh
  cases hb : sndB lo hi
  · rw [hb] at hs
    obtain ⟨e1, e2⟩ := empty_rd hb
    rw [← e1, ← e2]
    have HS := Lib.hid hs
    clear hs hp1 hp2 hb e1 e2 hl hh
    go_enter Tryz.func22, Tryz.ntmps22
    go_wp2_with fail
    refine (HS.out _).mono ?_
    rintro e w1 ⟨rfl, rfl⟩
    go_wp2_with fail
    refine (iempty_any _).mono ?_
    rintro e w2 ⟨rfl, hE⟩
    have hblk := (Blk.new2 w (.cells #[.float .f64 lo, .float .f64 hi] 28) 28 #[.float .f64 0, .float .f64 0]).ext hE
    have hEw : Ext w w2 := (((Ext.refl w).alloc _).alloc _).trans hE
    obtain ⟨G, hG⟩ : ∃ G, G = w.heap.size + 1 := ⟨_, rfl⟩
    rw [← hG] at hblk
    rw [← hG]
    have hGw : w.heap.size ≤ G := by omega
    have hGl := hblk.lt
    have q0 : w2.cell? ⟨G, 0, none⟩ = some (.float .f64 0) := hblk.cell 0
    have q1 : w2.cell? ⟨G, 1, none⟩ = some (.float .f64 0) := hblk.cell 1
    have f0 := hblk.frozen 0
    have f1 := hblk.frozen 1
    clear hG hE
    go_wp2
    exact bodyPost_ret (v := .agg #[.float .f64 infR, .float .f64 minf]) (by simp [results, Tryz.results22, go_sem, hGl, q0, q1]) rfl ⟨rfl, (hEw.setCell hGw _).setCell hGw _⟩
  · rw [hb] at hs
    have e1 : pl lo = rdLo lo hi := by unfold rdLo; rw [if_pos hb]
    have e2 : pl hi = rdHi lo hi := by unfold rdHi; rw [if_pos hb]
    rw [e1] at hp1
    rw [e2] at hp2
    obtain ⟨a, ha⟩ : ∃ a, a = rdLo lo hi := ⟨_, rfl⟩
    obtain ⟨b, hb'⟩ : ∃ b, b = rdHi lo hi := ⟨_, rfl⟩
    rw [← ha] at hp1 ⊢
    rw [← hb'] at hp2 ⊢
    have HS := Lib.hid hs
    have HP1 := Lib.hid hp1
    have HP2 := Lib.hid hp2
    clear hs hp1 hp2 hb e1 e2 hl hh ha hb'
    go_enter Tryz.func22, Tryz.ntmps22
    go_wp2_with fail
    refine (HS.out _).mono ?_
    rintro e w1 ⟨rfl, rfl⟩
    generalize hX : (w.alloc (.cells #[.float .f64 lo, .float .f64 hi] 28)).alloc (.cells #[.float .f64 0, .float .f64 0] 28) = w1
    have hE1 : Ext ((w.alloc (.cells #[.float .f64 lo, .float .f64 hi] 28)).alloc (.cells #[.float .f64 0, .float .f64 0] 28)) w1 := by rw [← hX]; exact Ext.refl _
    clear hX
    have hblk := (Blk.new2 w (.cells #[.float .f64 lo, .float .f64 hi] 28) 28 #[.float .f64 0, .float .f64 0]).ext hE1
    have hbox := ((Blk.new w 28 #[.float .f64 lo, .float .f64 hi]).ext ((Ext.refl _).alloc (.cells #[.float .f64 0, .float .f64 0] 28))).ext hE1
    have hEw : Ext w w1 := (((Ext.refl w).alloc _).alloc _).trans hE1
    have b0 : w1.cell? ⟨w.heap.size, 0, none⟩ = some (.float .f64 lo) := hbox.cell 0
    have b1 : w1.cell? ⟨w.heap.size, 1, none⟩ = some (.float .f64 hi) := hbox.cell 1
    obtain ⟨G, hG⟩ : ∃ G, G = w.heap.size + 1 := ⟨_, rfl⟩
    rw [← hG] at hblk
    rw [← hG]
    have hGw : w.heap.size ≤ G := by omega
    have hGl := hblk.lt
    have q0 : w1.cell? ⟨G, 0, none⟩ = some (.float .f64 0) := hblk.cell 0
    have q1 : w1.cell? ⟨G, 1, none⟩ = some (.float .f64 0) := hblk.cell 1
    have f0 := hblk.frozen 0
    have f1 := hblk.frozen 1
    clear hG hE1
    go_wp2_with fail
    refine wp_region_still_tail 7 (by kernel_rfl) (by kernel_rfl) ?_
    simp only [List.take_succ_cons, List.take_zero, List.drop_succ_cons, List.drop_zero]
    still_step
    still_step
    still_call ((HP1.out _).mono fun _ _ h => ⟨h.1, h.2.symm⟩)
    still_step
    still_step
    still_call ((HP2.out _).mono fun _ _ h => ⟨h.1, h.2.symm⟩)
    still_step
    refine wpStill_nil ?_
    change wpList _ _ _ _ _ w1.drew
    go_wp2
    exact bodyPost_ret (v := .agg #[.float .f64 a, .float .f64 b]) (by simp [results, Tryz.results22, go_sem, hGl, q0, q1]) rfl ⟨rfl, (hEw.drew.setCell hGw _).setCell hGw _⟩

end Go.Proofs.YtadijoeeaineaaaGreatDoor

/-
  The contracts of the program's intervals, third part: patterns in and out of them; Valid. Conditions: those that each theorem names.
-/
namespace Go.Proofs.YtadijoeeaineaaaGreatDoor
open Go.RowKit Nm Rn
set_option maxRecDepth 100000
set_option linter.unusedVariables false
set_option linter.unusedSimpArgs false

/-- A world in which a box of two words lies, and behind it another one. -/
theorem two_boxes (w : World) (s t : TypeId) (x y p q : Value) : ∃ w1, w1 = (w.alloc (.cells #[x, y] s)).alloc (.cells #[p, q] t) ∧ Ext w w1 ∧ w1.cell? ⟨w.heap.size, 0, none⟩ = some x ∧ w1.cell? ⟨w.heap.size, 1, none⟩ = some y ∧
    Blk w1 (w.heap.size + 1) t #[p, q] := by
  have hb := (Blk.new w s #[x, y]).ext ((Ext.refl _).alloc (.cells #[p, q] t))
  exact ⟨_, rfl, ((Ext.refl w).alloc _).alloc _, hb.cell 0, hb.cell 1, Blk.new2 w _ t #[p, q]⟩

set_option maxHeartbeats 1000000 in
theorem out7_any (lo hi : Nat) (w : World) :
    Calls Tryz.prog 5 #[.agg #[.float .f64 lo, .float .f64 hi]] w (RetI lo hi w) := by
  obtain ⟨w1, hw1, hEw, b0, b1, hblk⟩ := two_boxes w 28 24 (.float .f64 lo) (.float .f64 hi) (.int .u64 0) (.int .u64 0)
  go_enter Tryz.func5, Tryz.ntmps5
  go_wp2_with fail
  rw [← hw1]
  clear hw1
  obtain ⟨G, hG⟩ : ∃ G, G = w.heap.size + 1 := ⟨_, rfl⟩
  rw [← hG] at hblk
  rw [← hG]
  have hGw : w.heap.size ≤ G := by omega
  have hGl := hblk.lt
  have q0 : w1.cell? ⟨G, 0, none⟩ = some (.int .u64 0) := hblk.cell 0
  have q1 : w1.cell? ⟨G, 1, none⟩ = some (.int .u64 0) := hblk.cell 1
  have f0 := hblk.frozen 0
  have f1 := hblk.frozen 1
  clear hG
  go_still_tail 7, (by kernel_rfl)
  change wpList _ _ _ _ _ w1.drew
  go_wp2
  exact bodyPost_ret (v := .agg #[.int .u64 (lo : Int), .int .u64 (hi : Int)]) (by simp [results, Tryz.results5, go_sem, hGl, q0, q1]) rfl ⟨rfl, (hEw.drew.setCell hGw _).setCell hGw _⟩
set_option maxHeartbeats 1000000 in
theorem in7_any (lo hi : Nat) (w : World) :
    Calls Tryz.prog 7 #[.agg #[.int .u64 (lo : Int), .int .u64 (hi : Int)]] w (RetF lo hi w) := by
  obtain ⟨w1, hw1, hEw, b0, b1, hblk⟩ := two_boxes w 24 28 (.int .u64 (lo : Int)) (.int .u64 (hi : Int)) (.float .f64 0) (.float .f64 0)
  go_enter Tryz.func7, Tryz.ntmps7
  go_wp2_with fail
  rw [← hw1]
  clear hw1
  obtain ⟨G, hG⟩ : ∃ G, G = w.heap.size + 1 := ⟨_, rfl⟩
  rw [← hG] at hblk
  rw [← hG]
  have hGw : w.heap.size ≤ G := by omega
  have hGl := hblk.lt
  have q0 : w1.cell? ⟨G, 0, none⟩ = some (.float .f64 0) := hblk.cell 0
  have q1 : w1.cell? ⟨G, 1, none⟩ = some (.float .f64 0) := hblk.cell 1
  have f0 := hblk.frozen 0
  have f1 := hblk.frozen 1
  clear hG
  go_still_tail 7, (by kernel_rfl)
  change wpList _ _ _ _ _ w1.drew
  go_wp2
  exact bodyPost_ret (v := .agg #[.float .f64 lo, .float .f64 hi]) (by simp [results, Tryz.results7, go_sem, hGl, q0, q1]) rfl ⟨rfl, (hEw.drew.setCell hGw _).setCell hGw _⟩
end Go.Proofs.YtadijoeeaineaaaGreatDoor

/-
  The contract of the program's empty; its intervals' zero and size. Conditions: those that each theorem names.
-/
namespace Go.Proofs.YtadijoeeaineaaaGreatDoor
open Go.RowKit Nm Rn
set_option maxRecDepth 100000
set_option linter.unusedVariables false
set_option linter.unusedSimpArgs false

theorem zero_iv (w : World) : (zeroValue 28).run Tryz.prog w = .ok (.agg #[.float .f64 0, .float .f64 0]) w := by kernel_rfl
theorem agg_iv (w : World) : (isAgg 28).run Tryz.prog w = .ok true w := by kernel_rfl
theorem size_iv (w : World) : (sizeOf 28).run Tryz.prog w = .ok 2 w := by kernel_rfl
set_option maxHeartbeats 1000000 in
theorem iemp_any (lo hi : Nat) (w : World) (hl : lo < 18446744073709551616) (hh : hi < 18446744073709551616) :
    Calls Tryz.prog 80 #[.agg #[.float .f64 lo, .float .f64 hi]] w fun e w' => e = .returned (.bool (ltB hi lo)) ∧ Ext w w' := by
  have hq := fo_gt hl hh
  obtain ⟨R, hR⟩ : ∃ R, R = ltB hi lo := ⟨_, rfl⟩
  rw [← hR] at hq ⊢
  clear hR hl hh
  go_enter Tryz.func80, Tryz.ntmps80
  go_wp2
  go_ret
  exact ⟨ret_bool (by first | rfl | exact hq), (Ext.refl w).alloc _⟩

end Go.Proofs.YtadijoeeaineaaaGreatDoor

/-
  The contracts of the program's intervals, fourth part: Valid. Conditions: those that each theorem names.
-/
namespace Go.Proofs.YtadijoeeaineaaaGreatDoor
open Go.RowKit Nm Rn
set_option maxRecDepth 100000
set_option linter.unusedVariables false
set_option linter.unusedSimpArgs false

@[go_sem] theorem run_equalIn_float (P : Program) (w : World) (d : Nat) (t : TypeId) (k : FloatKind) (a b : Nat) (h : P.underlying t = some (.float k)) : (Op.equalIn (d + 1) t (.float k a) (.float k b)).run P w = .ok (k.format.order a b == some .eq) w := by
  simp [Op.equalIn, run_underlying h, Op.floatEq]
theorem eqF {a b c d : Nat} (ha : a < 18446744073709551616) (hb : b < 18446744073709551616) (hc : c < 18446744073709551616) (hd : d < 18446744073709551616) (w : World) : (binOp .eql 28 (.agg #[.float .f64 a, .float .f64 b]) (.agg #[.float .f64 c, .float .f64 d])).run Tryz.prog w = .ok (.bool (eqB a c && eqB b d)) w := by
  rw [← fo_eq ha hc, ← fo_eq hb hd]
  cases h1 : (FloatKind.f64.format.order a c == some .eq) <;> cases h2 : (FloatKind.f64.format.order b d == some .eq) <;> go_simp <;> simp [h1, h2]
theorem eqF' {a b c d : Nat} (ha : a < 18446744073709551616) (hb : b < 18446744073709551616) (hc : c < 18446744073709551616) (hd : d < 18446744073709551616) {E : Bool} (h : (eqB a c && eqB b d) = E) (w : World) : (binOp .eql 28 (.agg #[.float .f64 a, .float .f64 b]) (.agg #[.float .f64 c, .float .f64 d])).run Tryz.prog w = .ok (.bool E) w := by rw [eqF ha hb hc hd, h]

end Go.Proofs.YtadijoeeaineaaaGreatDoor
