/-
  The contract of the document's Neg. Conditions: those that each theorem names.
-/
import Derived.Test.YtcimfccjcikemaaRefS
import Derived.Test.YtcimfccjcikemaaNg
namespace Go.Proofs.Ytcimfccjcikemaa
open Go.RowKit Nm Rn
set_option maxRecDepth 100000
set_option linter.unusedVariables false
set_option linter.unusedSimpArgs false

theorem bI_rng (x : Nat) : -1 ≤ bI x ∧ bI x ≤ 1 := by unfold bI; split <;> (try split) <;> omega
theorem bN_sz (x : Nat) : nw (bN x) ≤ 1073741824 := by
  have h0 : nw (fracN 0 1 0) ≤ 1073741824 := by
    have : fracN 0 1 0 = 0 := fracN_zero 1 0
    rw [this]
    exact Nat.le_trans ((nw_le_iff 0 0).2 (by omega)) (by omega)
  unfold bN
  split
  · exact h0
  · split
    · exact h0
    · exact Nat.le_trans (fbN_bits x) (by omega)
theorem bD_sz (x : Nat) : nw (bD x) ≤ 1073741824 := by
  have h0 : nw (fracD 0 1 0) ≤ 1073741824 := by
    have : fracD 0 1 0 = 1 := rfl
    rw [this]
    exact Nat.le_trans ((nw_le_iff 1 1).2 (by omega)) (by omega)
  unfold bD
  split
  · exact h0
  · split
    · exact h0
    · exact Nat.le_trans (fbD_bits x) (by omega)
theorem bD_ne (x : Nat) : bD x ≠ 0 := by
  have h0 : fracD 0 1 0 ≠ 0 := by have := fracD_pos (n := 0) (d := 1) 0 (by omega); omega
  unfold bD
  split
  · exact h0
  · split
    · exact h0
    · have := fbD_pos x; omega

theorem ls_ng {x : Nat} (h : x < 18446744073709551616) (hn : isNaN x = false) :
    (x ≠ minf → lsLo (-(bI x)) (!bNeg x && decide (bN x ≠ 0)) (bN x) (bD x) = pl (ng x)) ∧ (x ≠ infR → lsHi (-(bI x)) (!bNeg x && decide (bN x ≠ 0)) (bN x) (bD x) = pl (ng x)) := by
  by_cases h1 : x = infR
  · subst h1
    refine ⟨fun _ => ?_, fun h => absurd rfl h⟩
    unfold lsLo bI
    rw [if_pos rfl, if_neg (by omega)]
    rfl
  · by_cases h2 : x = minf
    · subst h2
      refine ⟨fun h => absurd rfl h, fun _ => ?_⟩
      unfold lsHi bI
      rw [if_neg h1, if_pos rfl, if_neg (by omega)]
      rfl
    · have e1 : bI x = 0 := by unfold bI; rw [if_neg h1, if_neg h2]
      have e2 : bNeg x = (sg x && decide (mg x ≠ 0)) := by unfold bNeg; rw [if_neg h1, if_neg h2]
      have e3 : bN x = fbN x := by unfold bN; rw [if_neg h1, if_neg h2]
      have e4 : bD x = fbD x := by unfold bD; rw [if_neg h1, if_neg h2]
      rw [e1, e2, e3, e4]
      unfold lsLo lsHi
      rw [if_pos (by omega), if_pos (by omega)]
      have hf := mg_fin h hn h1 h2
      exact ⟨fun _ => rnd_ng (-1) h hf, fun _ => rnd_ng 1 h hf⟩

set_option maxHeartbeats 2000000 in
theorem neg6_none (lo hi : Nat) (w : World) (hl : lo < 18446744073709551616) (hh : hi < 18446744073709551616) (he : rdLo lo hi = infR ∧ rdHi lo hi = minf) :
    Calls Try.prog 28 #[.agg #[.int .u64 (lo : Int), .int .u64 (hi : Int)]] w (RetI infR minf w) := by
  have ho := fun w => of6_none lo hi w hl hh he
  obtain ⟨N, hN⟩ : ∃ N, N = fracN 0 1 0 := ⟨_, rfl⟩
  obtain ⟨D, hD⟩ : ∃ D, D = fracD 0 1 0 := ⟨_, rfl⟩
  rw [← hN, ← hD] at ho
  have hm := fun A l c B k d A2 l2 c2 B2 k2 d2 w h1 h2 => minus6_none 0 false A l c B k d N D 0 false A2 l2 c2 B2 k2 d2 N D w h1 h2
  have hls := fun A l c B k d A2 l2 c2 B2 k2 d2 w h1 h2 => least6_none 0 false A l c B k d N D 0 false A2 l2 c2 B2 k2 d2 N D w h1 h2
  obtain ⟨r1, hr1⟩ : ∃ r, r = infR := ⟨_, rfl⟩
  obtain ⟨r2, hr2⟩ : ∃ r, r = minf := ⟨_, rfl⟩
  rw [← hr1, ← hr2] at hls ⊢
  have HO := Lib.hid ho
  have HM := Lib.hid hm
  have HL := Lib.hid hls
  clear ho hm hls hN hD hr1 hr2 he hl hh
  have hbG := Blk.new2 w (.cells #[.int .u64 (lo : Int), .int .u64 (hi : Int)] 24) 24 #[.int .u64 0, .int .u64 0]
  have hEw : Ext w ((w.alloc (.cells #[.int .u64 (lo : Int), .int .u64 (hi : Int)] 24)).alloc (.cells #[.int .u64 0, .int .u64 0] 24)) := ((Ext.refl w).alloc _).alloc _
  obtain ⟨G, hG⟩ : ∃ G, G = w.heap.size + 1 := ⟨_, rfl⟩
  rw [← hG] at hbG
  have hGw : w.heap.size ≤ G := by omega
  have HGS := Lib.hid (show w.heap.size + 1 = G from hG.symm)
  clear hG
  go_enter Try.func28, Try.ntmps28
  go_wp2_with fail
  refine (HO.out _).mono ?_
  rintro e w2 ⟨A1, l1, c1, B1, k1, d1, A2, l2, c2, B2, k2, d2, rfl, h1, h2, hE2⟩
  go_wp2_with fail
  refine (HM.out _ _ _ _ _ _ _ _ _ _ _ _ _ h1 h2).mono ?_
  rintro e w3 ⟨A3, l3, c3, B3, k3, d3, A4, l4, c4, B4, k4, d4, rfl, h3, h4, hE3⟩
  go_wp2_with fail
  refine (HL.out _ _ _ _ _ _ _ _ _ _ _ _ _ h3 h4).mono ?_
  rintro e w4 ⟨rfl, hE4⟩
  rw [HGS.out]
  have hb4 := ((hbG.ext hE2).ext hE3).ext hE4
  have HE := Lib.hid (((hEw.trans hE2).trans hE3).trans hE4)
  have hGl := hb4.lt
  have q0 : w4.cell? ⟨G, 0, none⟩ = some (.int .u64 0) := hb4.cell 0
  have q1 : w4.cell? ⟨G, 1, none⟩ = some (.int .u64 0) := hb4.cell 1
  have f0 := hb4.frozen 0
  have f1 := hb4.frozen 1
  clear hb4 hbG hEw hE2 hE3 hE4 h1 h2 h3 h4 HGS HO HM HL
  go_wp2
  exact bodyPost_ret (v := .agg #[.int .u64 (r1 : Int), .int .u64 (r2 : Int)]) (by simp [results, Try.results28, go_sem, hGl, q0, q1]) rfl ⟨rfl, (HE.out.setCell hGw _).setCell hGw _⟩

set_option maxHeartbeats 2000000 in
theorem neg6_full (lo hi : Nat) (w : World) (hl : lo < 18446744073709551616) (hh : hi < 18446744073709551616) (he : ¬ (rdLo lo hi = infR ∧ rdHi lo hi = minf)) :
    Calls Try.prog 28 #[.agg #[.int .u64 (lo : Int), .int .u64 (hi : Int)]] w (RetI (pl (ng (rdHi lo hi))) (pl (ng (rdLo lo hi))) w) := by
  have ho := fun w => of6_full lo hi w hl hh he
  obtain ⟨g1, g2, g3, g4, g5, g6, _, _⟩ := rd_ends hl hh he
  have hr1' := (ls_ng g2 g4).1 g6
  have hr2' := (ls_ng g1 g3).2 g5
  obtain ⟨p, hp⟩ : ∃ p, p = rdLo lo hi := ⟨_, rfl⟩
  obtain ⟨q, hq⟩ : ∃ q, q = rdHi lo hi := ⟨_, rfl⟩
  rw [← hp] at ho hr2' ⊢
  rw [← hq] at ho hr1' ⊢
  have hm := fun A l c B k d A2 l2 c2 B2 k2 d2 w h1 h2 => minus6_full (bI p) (bNeg p) A l c B k d (bN p) (bD p) (bI q) (bNeg q) A2 l2 c2 B2 k2 d2 (bN q) (bD q) w h1 h2 (bI_rng p) (bI_rng q) (bN_sz p) (bD_sz p) (bN_sz q) (bD_sz q)
  have hls := fun A l c B k d A2 l2 c2 B2 k2 d2 w h1 h2 => least6_full (-(bI q)) (!bNeg q && decide (bN q ≠ 0)) A l c B k d (bN q) (bD q) (-(bI p)) (!bNeg p && decide (bN p ≠ 0)) A2 l2 c2 B2 k2 d2 (bN p) (bD p) w h1 h2 (bN_sz q) (bD_sz q) (bN_sz p) (bD_sz p) (bD_ne q) (bD_ne p)
  rw [hr1', hr2'] at hls
  obtain ⟨r1, hr1⟩ : ∃ r, r = pl (ng q) := ⟨_, rfl⟩
  obtain ⟨r2, hr2⟩ : ∃ r, r = pl (ng p) := ⟨_, rfl⟩
  rw [← hr1, ← hr2] at hls ⊢
  obtain ⟨i1, hi1⟩ : ∃ i, i = bI p := ⟨_, rfl⟩
  obtain ⟨i2, hi2⟩ : ∃ i, i = bI q := ⟨_, rfl⟩
  obtain ⟨s1, hs1⟩ : ∃ s, s = bNeg p := ⟨_, rfl⟩
  obtain ⟨s2, hs2⟩ : ∃ s, s = bNeg q := ⟨_, rfl⟩
  obtain ⟨N1, hN1⟩ : ∃ N, N = bN p := ⟨_, rfl⟩
  obtain ⟨N2, hN2⟩ : ∃ N, N = bN q := ⟨_, rfl⟩
  obtain ⟨D1, hD1⟩ : ∃ D, D = bD p := ⟨_, rfl⟩
  obtain ⟨D2, hD2⟩ : ∃ D, D = bD q := ⟨_, rfl⟩
  rw [← hi1, ← hs1, ← hN1, ← hD1, ← hi2, ← hs2, ← hN2, ← hD2] at ho hm hls
  obtain ⟨j1, hj1⟩ : ∃ i, i = -i1 := ⟨_, rfl⟩
  obtain ⟨j2, hj2⟩ : ∃ i, i = -i2 := ⟨_, rfl⟩
  obtain ⟨t1, ht1⟩ : ∃ s, s = (!s1 && decide (N1 ≠ 0)) := ⟨_, rfl⟩
  obtain ⟨t2, ht2⟩ : ∃ s, s = (!s2 && decide (N2 ≠ 0)) := ⟨_, rfl⟩
  rw [← hj1, ← hj2, ← ht1, ← ht2] at hm hls
  have HO := Lib.hid ho
  have HM := Lib.hid hm
  have HL := Lib.hid hls
  clear ho hm hls hp hq hr1 hr2 hi1 hi2 hs1 hs2 hN1 hN2 hD1 hD2 hj1 hj2 ht1 ht2 he hl hh g1 g2 g3 g4 g5 g6 hr1' hr2'
  have hbG := Blk.new2 w (.cells #[.int .u64 (lo : Int), .int .u64 (hi : Int)] 24) 24 #[.int .u64 0, .int .u64 0]
  have hEw : Ext w ((w.alloc (.cells #[.int .u64 (lo : Int), .int .u64 (hi : Int)] 24)).alloc (.cells #[.int .u64 0, .int .u64 0] 24)) := ((Ext.refl w).alloc _).alloc _
  obtain ⟨G, hG⟩ : ∃ G, G = w.heap.size + 1 := ⟨_, rfl⟩
  rw [← hG] at hbG
  have hGw : w.heap.size ≤ G := by omega
  have HGS := Lib.hid (show w.heap.size + 1 = G from hG.symm)
  clear hG
  go_enter Try.func28, Try.ntmps28
  go_wp2_with fail
  refine (HO.out _).mono ?_
  rintro e w2 ⟨A1, l1, c1, B1, k1, d1, A2, l2, c2, B2, k2, d2, rfl, h1, h2, hE2⟩
  go_wp2_with fail
  refine (HM.out _ _ _ _ _ _ _ _ _ _ _ _ _ h1 h2).mono ?_
  rintro e w3 ⟨A3, l3, c3, B3, k3, d3, A4, l4, c4, B4, k4, d4, rfl, h3, h4, hE3⟩
  go_wp2_with fail
  refine (HL.out _ _ _ _ _ _ _ _ _ _ _ _ _ h3 h4).mono ?_
  rintro e w4 ⟨rfl, hE4⟩
  rw [HGS.out]
  have hb4 := ((hbG.ext hE2).ext hE3).ext hE4
  have HE := Lib.hid (((hEw.trans hE2).trans hE3).trans hE4)
  have hGl := hb4.lt
  have q0 : w4.cell? ⟨G, 0, none⟩ = some (.int .u64 0) := hb4.cell 0
  have q1 : w4.cell? ⟨G, 1, none⟩ = some (.int .u64 0) := hb4.cell 1
  have f0 := hb4.frozen 0
  have f1 := hb4.frozen 1
  clear hb4 hbG hEw hE2 hE3 hE4 h1 h2 h3 h4 HGS HO HM HL
  go_wp2
  exact bodyPost_ret (v := .agg #[.int .u64 (r1 : Int), .int .u64 (r2 : Int)]) (by simp [results, Try.results28, go_sem, hGl, q0, q1]) rfl ⟨rfl, (HE.out.setCell hGw _).setCell hGw _⟩

theorem neg6_any (lo hi : Nat) (w : World) (hl : lo < 18446744073709551616) (hh : hi < 18446744073709551616) :
    Calls Try.prog 28 #[.agg #[.int .u64 (lo : Int), .int .u64 (hi : Int)]] w (RetI (ngLo lo hi) (ngHi lo hi) w) := by
  by_cases he : rdLo lo hi = infR ∧ rdHi lo hi = minf
  · unfold ngLo ngHi; rw [if_pos he, if_pos he]; exact neg6_none lo hi w hl hh he
  · unfold ngLo ngHi; rw [if_neg he, if_neg he]; exact neg6_full lo hi w hl hh he
end Go.Proofs.Ytcimfccjcikemaa
