/-
  The contract of chapter 7's document: Abs. Conditions: those that each theorem names.
-/
import Derived.Test.YtcimfccjcikemaaRefY
namespace Go.Proofs.Ytcimfccjcikemaa
open Go.RowKit Nm Rn
set_option maxRecDepth 100000
set_option linter.unusedVariables false
set_option linter.unusedSimpArgs false

theorem sz_ends {p q : Nat} (hp : p < 18446744073709551616) (hq : q < 18446744073709551616) (np : isNaN p = false) (nq : isNaN q = false) (h1 : p ≠ infR) (h2 : q ≠ minf) :
    szLo p q < 18446744073709551616 ∧ isNaN (szLo p q) = false ∧ szLo p q ≠ infR ∧ szHi p q < 18446744073709551616 ∧ isNaN (szHi p q) = false ∧ szHi p q ≠ minf := by
  have P1 := mx_lt hp
  have P2 := mx_nan np
  have Q1 := mx_lt hq
  have Q2 := mx_nan nq
  have kp := @mx_key p
  have kq := @mx_key q
  have rp := key_le np
  have rq := key_le nq
  have ip := key_eq_inf hp np
  have iq := key_eq_minf hq nq
  have i1 := infR_val
  have z0 : isNaN 0 = false := rfl
  refine ⟨?_, ?_, ?_, ?_, ?_, ?_⟩
  · unfold szLo; split
    · omega
    · split <;> assumption
  · unfold szLo; split
    · exact z0
    · split <;> assumption
  · intro h
    have hk : key (szLo p q) = 9218868437227405312 := by rw [h]; exact key_inf
    revert hk
    unfold szLo
    split
    · intro hk; have e : key 0 = 0 := rfl; omega
    · rename_i g
      split
      · intro hk; revert kp kq; split <;> split <;> (intros; omega)
      · intro hk; revert kp kq; split <;> split <;> (intros; omega)
  · unfold szHi; split <;> assumption
  · unfold szHi; split <;> assumption
  · intro h
    have hk : key (szHi p q) = -9218868437227405312 := by rw [h]; exact key_minf
    revert hk
    unfold szHi
    revert kp kq
    split <;> split <;> split <;> (intros; omega)

set_option maxHeartbeats 2000000 in
theorem abs7_none (lo hi : Nat) (w : World) (hl : lo < 18446744073709551616) (hh : hi < 18446744073709551616) (he : rdLo lo hi = infR ∧ rdHi lo hi = minf) :
    Calls Try.prog 32 #[.agg #[.int .u64 (lo : Int), .int .u64 (hi : Int)]] w (RetI infR minf w) := by
  have ho := fun w => of6_none lo hi w hl hh he
  obtain ⟨N, hN⟩ : ∃ N, N = fracN 0 1 0 := ⟨_, rfl⟩
  obtain ⟨D, hD⟩ : ∃ D, D = fracD 0 1 0 := ⟨_, rfl⟩
  rw [← hN, ← hD] at ho
  have hm := fun A l c B k d A2 l2 c2 B2 k2 d2 w h1 h2 => size_none 0 false A l c B k d N D 0 false A2 l2 c2 B2 k2 d2 N D w h1 h2
  have hls := fun A l c B k d A2 l2 c2 B2 k2 d2 w h1 h2 => least6_none 0 false A l c B k d N D 0 false A2 l2 c2 B2 k2 d2 N D w h1 h2
  obtain ⟨r1, hr1⟩ : ∃ r, r = infR := ⟨_, rfl⟩
  obtain ⟨r2, hr2⟩ : ∃ r, r = minf := ⟨_, rfl⟩
  rw [← hr1, ← hr2] at hls ⊢
  have HO := Lib.hid ho
  have HM := Lib.hid hm
  have HL := Lib.hid hls
  clear ho hm hls hN hD hr1 hr2 he hl hh
  have hbG := Blk.new2 w (.cells #[.int .u64 (lo : Int), .int .u64 (hi : Int)] 24) 24 #[.int .u64 0, .int .u64 0]
  have hEw : Ext w ((w.alloc (.cells #[.int .u64 (lo : Int), .int .u64 (hi : Int)] 24)).alloc (.cells #[.int .u64 0, .int .u64 0] 24)) := ((Ext.refl w).alloc _).alloc _
  obtain ⟨G, hG⟩ : ∃ G, G = w.heap.size + 1 := ⟨_, rfl⟩
  rw [← hG] at hbG
  have hGw : w.heap.size ≤ G := by omega
  have HGS := Lib.hid (show w.heap.size + 1 = G from hG.symm)
  clear hG
  go_enter Try.func32, Try.ntmps32
  go_wp2_with fail
  refine (HO.out _).mono ?_
  rintro e w2 ⟨A1, l1, c1, B1, k1, d1, A2, l2, c2, B2, k2, d2, rfl, h1, h2, hE2⟩
  go_wp2_with fail
  refine (HM.out _ _ _ _ _ _ _ _ _ _ _ _ _ h1 h2).mono ?_
  rintro e w3 ⟨A3, l3, c3, B3, k3, d3, A4, l4, c4, B4, k4, d4, rfl, h3, h4, hE3⟩
  go_wp2_with fail
  refine (HL.out _ _ _ _ _ _ _ _ _ _ _ _ _ h3 h4).mono ?_
  rintro e w4 ⟨rfl, hE4⟩
  rw [HGS.out]
  have hb4 := ((hbG.ext hE2).ext hE3).ext hE4
  have HE := Lib.hid (((hEw.trans hE2).trans hE3).trans hE4)
  have hGl := hb4.lt
  have q0 : w4.cell? ⟨G, 0, none⟩ = some (.int .u64 0) := hb4.cell 0
  have q1 : w4.cell? ⟨G, 1, none⟩ = some (.int .u64 0) := hb4.cell 1
  have f0 := hb4.frozen 0
  have f1 := hb4.frozen 1
  clear hb4 hbG hEw hE2 hE3 hE4 h1 h2 h3 h4 HGS HO HM HL
  go_wp2
  exact bodyPost_ret (v := .agg #[.int .u64 (r1 : Int), .int .u64 (r2 : Int)]) (by simp [results, Try.results32, go_sem, hGl, q0, q1]) rfl ⟨rfl, (HE.out.setCell hGw _).setCell hGw _⟩

set_option maxHeartbeats 2000000 in
theorem abs7_full (lo hi : Nat) (w : World) (hl : lo < 18446744073709551616) (hh : hi < 18446744073709551616) (he : ¬ (rdLo lo hi = infR ∧ rdHi lo hi = minf)) :
    Calls Try.prog 32 #[.agg #[.int .u64 (lo : Int), .int .u64 (hi : Int)]] w (RetI (pl (szLo (rdLo lo hi) (rdHi lo hi))) (pl (szHi (rdLo lo hi) (rdHi lo hi))) w) := by
  have ho := fun w => of6_full lo hi w hl hh he
  obtain ⟨g1, g2, g3, g4, g5, g6, _, _⟩ := rd_ends hl hh he
  obtain ⟨k1, k2, k3, k4, k5, k6⟩ := sz_ends g1 g2 g3 g4 g5 g6
  have hr1' := ls_lo k1 k2 k3
  have hr2' := ls_hi k4 k5 k6
  obtain ⟨p, hp⟩ : ∃ p, p = rdLo lo hi := ⟨_, rfl⟩
  obtain ⟨q, hq⟩ : ∃ q, q = rdHi lo hi := ⟨_, rfl⟩
  rw [← hp] at ho hr1' hr2' g1 g3 ⊢
  rw [← hq] at ho hr1' hr2' g2 g4 ⊢
  have hm := fun A l c B k d A2 l2 c2 B2 k2 d2 w h1 h2 => size_full p q A l c B k d A2 l2 c2 B2 k2 d2 w g1 g2 g3 g4 h1 h2
  obtain ⟨P, hP⟩ : ∃ P, P = szLo p q := ⟨_, rfl⟩
  obtain ⟨Q, hQ⟩ : ∃ Q, Q = szHi p q := ⟨_, rfl⟩
  rw [← hP] at hm hr1' ⊢
  rw [← hQ] at hm hr2' ⊢
  have hls := fun A l c B k d A2 l2 c2 B2 k2 d2 w h1 h2 => least6_full (bI P) (bNeg P) A l c B k d (bN P) (bD P) (bI Q) (bNeg Q) A2 l2 c2 B2 k2 d2 (bN Q) (bD Q) w h1 h2 (bN_sz P) (bD_sz P) (bN_sz Q) (bD_sz Q) (bD_ne P) (bD_ne Q)
  rw [hr1', hr2'] at hls
  obtain ⟨r1, hr1⟩ : ∃ r, r = pl P := ⟨_, rfl⟩
  obtain ⟨r2, hr2⟩ : ∃ r, r = pl Q := ⟨_, rfl⟩
  rw [← hr1, ← hr2] at hls ⊢
  obtain ⟨i1, hi1⟩ : ∃ i, i = bI p := ⟨_, rfl⟩
  obtain ⟨i2, hi2⟩ : ∃ i, i = bI q := ⟨_, rfl⟩
  obtain ⟨s1, hs1⟩ : ∃ s, s = bNeg p := ⟨_, rfl⟩
  obtain ⟨s2, hs2⟩ : ∃ s, s = bNeg q := ⟨_, rfl⟩
  obtain ⟨N1, hN1⟩ : ∃ N, N = bN p := ⟨_, rfl⟩
  obtain ⟨N2, hN2⟩ : ∃ N, N = bN q := ⟨_, rfl⟩
  obtain ⟨D1, hD1⟩ : ∃ D, D = bD p := ⟨_, rfl⟩
  obtain ⟨D2, hD2⟩ : ∃ D, D = bD q := ⟨_, rfl⟩
  rw [← hi1, ← hs1, ← hN1, ← hD1, ← hi2, ← hs2, ← hN2, ← hD2] at ho hm
  have HO := Lib.hid ho
  have HM := Lib.hid hm
  have HL := Lib.hid hls
  clear ho hm hls hp hq hr1 hr2 hi1 hi2 hs1 hs2 hN1 hN2 hD1 hD2 hP hQ he hl hh g1 g2 g3 g4 g5 g6 hr1' hr2' k1 k2 k3 k4 k5 k6
  have hbG := Blk.new2 w (.cells #[.int .u64 (lo : Int), .int .u64 (hi : Int)] 24) 24 #[.int .u64 0, .int .u64 0]
  have hEw : Ext w ((w.alloc (.cells #[.int .u64 (lo : Int), .int .u64 (hi : Int)] 24)).alloc (.cells #[.int .u64 0, .int .u64 0] 24)) := ((Ext.refl w).alloc _).alloc _
  obtain ⟨G, hG⟩ : ∃ G, G = w.heap.size + 1 := ⟨_, rfl⟩
  rw [← hG] at hbG
  have hGw : w.heap.size ≤ G := by omega
  have HGS := Lib.hid (show w.heap.size + 1 = G from hG.symm)
  clear hG
  go_enter Try.func32, Try.ntmps32
  go_wp2_with fail
  refine (HO.out _).mono ?_
  rintro e w2 ⟨A1, l1, c1, B1, k1, d1, A2, l2, c2, B2, k2, d2, rfl, h1, h2, hE2⟩
  go_wp2_with fail
  refine (HM.out _ _ _ _ _ _ _ _ _ _ _ _ _ h1 h2).mono ?_
  rintro e w3 ⟨A3, l3, c3, B3, k3, d3, A4, l4, c4, B4, k4, d4, rfl, h3, h4, hE3⟩
  go_wp2_with fail
  refine (HL.out _ _ _ _ _ _ _ _ _ _ _ _ _ h3 h4).mono ?_
  rintro e w4 ⟨rfl, hE4⟩
  rw [HGS.out]
  have hb4 := ((hbG.ext hE2).ext hE3).ext hE4
  have HE := Lib.hid (((hEw.trans hE2).trans hE3).trans hE4)
  have hGl := hb4.lt
  have q0 : w4.cell? ⟨G, 0, none⟩ = some (.int .u64 0) := hb4.cell 0
  have q1 : w4.cell? ⟨G, 1, none⟩ = some (.int .u64 0) := hb4.cell 1
  have f0 := hb4.frozen 0
  have f1 := hb4.frozen 1
  clear hb4 hbG hEw hE2 hE3 hE4 h1 h2 h3 h4 HGS HO HM HL
  go_wp2
  exact bodyPost_ret (v := .agg #[.int .u64 (r1 : Int), .int .u64 (r2 : Int)]) (by simp [results, Try.results32, go_sem, hGl, q0, q1]) rfl ⟨rfl, (HE.out.setCell hGw _).setCell hGw _⟩

/-- The ends of the magnitudes of an interval. -/
def abLo (lo hi : Nat) : Nat := if rdLo lo hi = infR ∧ rdHi lo hi = minf then infR else pl (szLo (rdLo lo hi) (rdHi lo hi))
def abHi (lo hi : Nat) : Nat := if rdLo lo hi = infR ∧ rdHi lo hi = minf then minf else pl (szHi (rdLo lo hi) (rdHi lo hi))
theorem abs7_any (lo hi : Nat) (w : World) (hl : lo < 18446744073709551616) (hh : hi < 18446744073709551616) :
    Calls Try.prog 32 #[.agg #[.int .u64 (lo : Int), .int .u64 (hi : Int)]] w (RetI (abLo lo hi) (abHi lo hi) w) := by
  by_cases he : rdLo lo hi = infR ∧ rdHi lo hi = minf
  · unfold abLo abHi; rw [if_pos he, if_pos he]; exact abs7_none lo hi w hl hh he
  · unfold abLo abHi; rw [if_neg he, if_neg he]; exact abs7_full lo hi w hl hh he
end Go.Proofs.Ytcimfccjcikemaa
