/-
  The contract of the program's powers of intervals. Conditions: those that each theorem names.
-/
import Derived.Test.YtadijoeeaineaaaGreatDoorW30
import Derived.Test.YtadijoeeaineaaaGreatDoorW25
import Derived.Test.YtadijoeeaineaaaGreatDoorW22
import Derived.Test.YtadijoeeaineaaaGreatDoorW03
import Derived.Test.YtadijoeeaineaaaGreatDoorW04
import Derived.Deep.DeepCutAuto
namespace Go.Proofs.YtadijoeeaineaaaGreatDoor
open Go.RowKit Nm Rn
set_option maxRecDepth 100000
set_option linter.unusedVariables false
set_option linter.unusedSimpArgs false

theorem powTo_of (d : Int) {x : Nat} {n : Int} (hx : x < 18446744073709551616) (h : isNaN x = false) (hn : ¬ (n < -1024 ∨ 1024 < n)) : Hid (PowTo d x n (powR d x n)) :=
  Lib.hid (fun w hT => pow_num d x n w hx hT (powR_ok h hn).1)

theorem pown_any (lo hi : Nat) (n : Int) (w : World) (hT : Tab w) (hl : lo < 18446744073709551616) (hh : hi < 18446744073709551616) :
    Calls Tryz.prog 6 #[.agg #[.float .f64 lo, .float .f64 hi], .int .i64 n] w (RetF (pwnLo lo hi n) (pwnHi lo hi n) w) := by
  have HR := Lib.hid (fun w => iread_any lo hi w hl hh)
  unfold pwnLo pwnHi
  by_cases he : emp lo hi
  · rw [if_pos he, if_pos he]
    rw [he.1, he.2] at HR
    exact pown_e lo hi infR minf n w hT HR (eqF' infR_lt minf_lt infR_lt minf_lt rfl)
  · rw [if_neg he, if_neg he]
    have hE0 := pnE_rd hl hh he
    have hrr := rd_rd hl hh he
    have HA := Lib.hid (fun w => pabs_any (rdLo lo hi) (rdHi lo hi) w hE0.la hE0.lb)
    have hab : abLo (rdLo lo hi) (rdHi lo hi) = pl (szLo (rdLo lo hi) (rdHi lo hi)) ∧ abHi (rdLo lo hi) (rdHi lo hi) = pl (szHi (rdLo lo hi) (rdHi lo hi)) := by
      have he' : ¬ (rdLo lo hi = infR ∧ rdHi lo hi = minf) := he
      unfold abLo abHi
      rw [hrr.1, hrr.2, if_neg he', if_neg he']
      exact ⟨rfl, rfl⟩
    rw [hab.1, hab.2] at HA
    clear hab hrr he
    generalize rdLo lo hi = p at *
    generalize rdHi lo hi = q at *
    have hq := eqF' (E := false) hE0.la hE0.lb infR_lt minf_lt (by
      rw [eq_key hE0.na nan_inf, eq_key hE0.nb nan_minf, key_inf, key_minf, Bool.and_eq_false_iff, decide_eq_false_iff_not, decide_eq_false_iff_not, key_eq_inf hE0.la hE0.na]
      exact .inl hE0.ia)
    by_cases hb : n < -1024 ∨ 1024 < n
    · rw [if_pos hb, if_pos hb]
      by_cases h1 : n < -1024
      · exact pown_b1 lo hi p q n w hT HR hq (decide_eq_true h1)
      · exact pown_b2 lo hi p q n w hT HR hq (decide_eq_false h1) (decide_eq_true (by omega))
    · rw [if_neg hb, if_neg hb]
      have r1 : decide (n < -1024) = false := decide_eq_false (by omega)
      have r2 : decide (1024 < n) = false := decide_eq_false (by omega)
      by_cases h0 : n = 0
      · rw [if_pos h0, if_pos h0]
        exact pown_0 lo hi p q n w hT HR hq r1 r2 (by rw [h0]; rfl)
      · rw [if_neg h0, if_neg h0]
        have r3 : (n == 0) = false := by rw [beq_eq_false_iff_ne]; exact h0
        have z0 : (0 : Nat) < 18446744073709551616 := by omega
        have n0 : isNaN 0 = false := rfl
        have k0 : key 0 = 0 := rfl
        by_cases hev : n.tmod 2 = 0
        · have e1 : pnA p q n = pl (szLo p q) := if_pos hev
          have e2 : pnB p q n = pl (szHi p q) := if_pos hev
          rw [e1, e2]
          have hE := pnE_sz hE0
          have r4 : (n.tmod 2 == 0) = true := by rw [beq_iff_eq]; exact hev
          clear hE0 e1 e2
          generalize pl (szLo p q) = a at *
          generalize pl (szHi p q) = b at *
          unfold pwLo pwHi
          have E1 := fo_eq hE.la z0
          have E2 := fo_eq hE.lb z0
          have L1 := fo_lt hE.la z0
          have G2 := fo_gt hE.lb z0
          have N1 := fo_ne hE.la z0
          have N2 := fo_ne hE.lb z0
          rw [eqB_zero_ hE.na] at E1 N1
          rw [eqB_zero_ hE.nb] at E2 N2
          rw [lt_key hE.na n0, k0] at L1
          rw [lt_key n0 hE.nb, k0] at G2
          have ka : key a = 0 ↔ mg a = 0 := by unfold key; split <;> omega
          have kb : key b = 0 ↔ mg b = 0 := by unfold key; split <;> omega
          have hab := hE.ki
          by_cases hp : 0 < n
          · rw [if_pos hp, if_pos hp]
            exact pown_ev_p lo hi p q n w hT HR hq r1 r2 r3 r4 a b HA (decide_eq_true hp) _ _ (powTo_of (-1) hE.la hE.na hb) (powTo_of 1 hE.lb hE.nb hb)
          · rw [if_neg hp, if_neg hp]
            have r5 : decide (0 < n) = false := decide_eq_false hp
            by_cases hz : mg a = 0 ∧ mg b = 0
            · rw [if_pos hz, if_pos hz]
              exact pown_ev_ee lo hi p q n w hT HR hq r1 r2 r3 r4 a b HA r5 (by rw [E1, decide_eq_true hz.1]) (by rw [E2, decide_eq_true hz.2])
            · rw [if_neg hz, if_neg hz]
              by_cases hc : key a < 0 ∧ 0 < key b
              · rw [if_pos hc, if_pos hc]
                exact pown_ev_en lo hi p q n w hT HR hq r1 r2 r3 r4 a b HA r5 (by rw [E1, decide_eq_false (by omega)]) (by rw [L1, decide_eq_true hc.1]) (by rw [G2, decide_eq_true hc.2])
              · rw [if_neg hc, if_neg hc]
                by_cases za : mg a = 0
                · have zb : mg b ≠ 0 := by omega
                  rw [if_neg zb, if_pos za]
                  exact pown_ev_nD lo hi p q n w hT HR hq r1 r2 r3 r4 a b HA r5 (by rw [E1, decide_eq_true za]) (by rw [E2, decide_eq_false zb]) (by rw [L1, decide_eq_false (by omega)]) (by rw [N2, decide_eq_false zb]; rfl) (by rw [N1, decide_eq_true za]; rfl) _ 0 (powTo_of (-1) hE.lb hE.nb hb)
                · rw [if_neg za]
                  by_cases zb : mg b = 0
                  · rw [if_pos zb]
                    exact pown_ev_nC lo hi p q n w hT HR hq r1 r2 r3 r4 a b HA r5 (by rw [E1, decide_eq_false za]) (by rw [L1, decide_eq_true (by omega)]) (by rw [G2, decide_eq_false (by omega)]) (by rw [N2, decide_eq_true zb]; rfl) (by rw [N1, decide_eq_false za]; rfl) 0 _ (powTo_of 1 hE.la hE.na hb)
                  · rw [if_neg zb]
                    by_cases la : key a < 0
                    · exact pown_ev_nB lo hi p q n w hT HR hq r1 r2 r3 r4 a b HA r5 (by rw [E1, decide_eq_false za]) (by rw [L1, decide_eq_true la]) (by rw [G2, decide_eq_false (by omega)]) (by rw [N2, decide_eq_false zb]; rfl) (by rw [N1, decide_eq_false za]; rfl) _ _ (powTo_of (-1) hE.lb hE.nb hb) (powTo_of 1 hE.la hE.na hb)
                    · exact pown_ev_nA lo hi p q n w hT HR hq r1 r2 r3 r4 a b HA r5 (by rw [E1, decide_eq_false za]) (by rw [L1, decide_eq_false la]) (by rw [N2, decide_eq_false zb]; rfl) (by rw [N1, decide_eq_false za]; rfl) _ _ (powTo_of (-1) hE.lb hE.nb hb) (powTo_of 1 hE.la hE.na hb)
        · have e1 : pnA p q n = p := if_neg hev
          have e2 : pnB p q n = q := if_neg hev
          rw [e1, e2]
          have hE := hE0
          have r4 : (n.tmod 2 == 0) = false := by rw [beq_eq_false_iff_ne]; exact hev
          clear hE0 e1 e2 HA
          unfold pwLo pwHi
          have E1 := fo_eq hE.la z0
          have E2 := fo_eq hE.lb z0
          have L1 := fo_lt hE.la z0
          have G2 := fo_gt hE.lb z0
          have N1 := fo_ne hE.la z0
          have N2 := fo_ne hE.lb z0
          rw [eqB_zero_ hE.na] at E1 N1
          rw [eqB_zero_ hE.nb] at E2 N2
          rw [lt_key hE.na n0, k0] at L1
          rw [lt_key n0 hE.nb, k0] at G2
          have ka : key p = 0 ↔ mg p = 0 := by unfold key; split <;> omega
          have kb : key q = 0 ↔ mg q = 0 := by unfold key; split <;> omega
          have hab := hE.ki
          by_cases hp : 0 < n
          · rw [if_pos hp, if_pos hp]
            exact pown_od_p lo hi p q n w hT HR hq r1 r2 r3 r4 (decide_eq_true hp) _ _ (powTo_of (-1) hE.la hE.na hb) (powTo_of 1 hE.lb hE.nb hb)
          · rw [if_neg hp, if_neg hp]
            have r5 : decide (0 < n) = false := decide_eq_false hp
            by_cases hz : mg p = 0 ∧ mg q = 0
            · rw [if_pos hz, if_pos hz]
              exact pown_od_ee lo hi p q n w hT HR hq r1 r2 r3 r4 r5 (by rw [E1, decide_eq_true hz.1]) (by rw [E2, decide_eq_true hz.2])
            · rw [if_neg hz, if_neg hz]
              by_cases hc : key p < 0 ∧ 0 < key q
              · rw [if_pos hc, if_pos hc]
                exact pown_od_en lo hi p q n w hT HR hq r1 r2 r3 r4 r5 (by rw [E1, decide_eq_false (by omega)]) (by rw [L1, decide_eq_true hc.1]) (by rw [G2, decide_eq_true hc.2])
              · rw [if_neg hc, if_neg hc]
                by_cases za : mg p = 0
                · have zb : mg q ≠ 0 := by omega
                  rw [if_neg zb, if_pos za]
                  exact pown_od_nD lo hi p q n w hT HR hq r1 r2 r3 r4 r5 (by rw [E1, decide_eq_true za]) (by rw [E2, decide_eq_false zb]) (by rw [L1, decide_eq_false (by omega)]) (by rw [N2, decide_eq_false zb]; rfl) (by rw [N1, decide_eq_true za]; rfl) _ 0 (powTo_of (-1) hE.lb hE.nb hb)
                · rw [if_neg za]
                  by_cases zb : mg q = 0
                  · rw [if_pos zb]
                    exact pown_od_nC lo hi p q n w hT HR hq r1 r2 r3 r4 r5 (by rw [E1, decide_eq_false za]) (by rw [L1, decide_eq_true (by omega)]) (by rw [G2, decide_eq_false (by omega)]) (by rw [N2, decide_eq_true zb]; rfl) (by rw [N1, decide_eq_false za]; rfl) 0 _ (powTo_of 1 hE.la hE.na hb)
                  · rw [if_neg zb]
                    by_cases la : key p < 0
                    · exact pown_od_nB lo hi p q n w hT HR hq r1 r2 r3 r4 r5 (by rw [E1, decide_eq_false za]) (by rw [L1, decide_eq_true la]) (by rw [G2, decide_eq_false (by omega)]) (by rw [N2, decide_eq_false zb]; rfl) (by rw [N1, decide_eq_false za]; rfl) _ _ (powTo_of (-1) hE.lb hE.nb hb) (powTo_of 1 hE.la hE.na hb)
                    · exact pown_od_nA lo hi p q n w hT HR hq r1 r2 r3 r4 r5 (by rw [E1, decide_eq_false za]) (by rw [L1, decide_eq_false la]) (by rw [N2, decide_eq_false zb]; rfl) (by rw [N1, decide_eq_false za]; rfl) _ _ (powTo_of (-1) hE.lb hE.nb hb) (powTo_of 1 hE.la hE.na hb)
end Go.Proofs.YtadijoeeaineaaaGreatDoor

/-
  Plain: a power at a known input, through its odd part. Conditions: those that each theorem names.
-/
namespace Go.Proofs.YtadijoeeaineaaaGreatDoor
open Go.RowKit Nm Rn
set_option maxRecDepth 100000
set_option linter.unusedVariables false
set_option linter.unusedSimpArgs false
set_option exponentiation.threshold 100000

theorem powR_at (d : Int) (x : Nat) (n : Int) (m O k : Nat) (E : Int) (V : Nat) (h1 : isNaN x = false) (h2 : isInf x = false) (hz : mg x ≠ 0) (hn : n = (m : Int)) (hm0 : 0 < m) (hm2 : m ≤ 1024) (hs : fbSig x = 2 ^ k * O) (hO : O % 2 = 1) (hE : fbExp x + (k : Int) = E) (hV : rnd d (pwS (sg x) m) (zd (O ^ m) (E * m)) = V) : powR d x n = V := by
  have ht := tz_uniq hs hO
  have hoS : odS x = O := by
    unfold odS
    rw [ht, hs, Nat.mul_div_cancel_left _ (two_pow_pos k)]
  have hoE : odE x = E := by
    unfold odE
    rw [ht, hE]
  have htn : n.toNat = m := by omega
  unfold powR
  rw [if_neg (by rw [h1]; simp; omega), if_neg (by omega), if_neg (by rw [h2]; simp), if_neg (by rintro ⟨h, _⟩; exact hz h), if_pos (by omega), htn]
  rw [← pow_pos_eq d _ x hm2]
  obtain ⟨e1, e2⟩ := odE_m x m hm2
  have hb := pow_bl x m hm2
  rw [ofR_zd d _ (by omega) (by omega) (by omega), hoS, hoE]
  exact hV
end Go.Proofs.YtadijoeeaineaaaGreatDoor

/-
  The values that chapter 7's lives and PowerKnown ask for. Conditions: those that each theorem names.
-/
namespace Go.Proofs.YtadijoeeaineaaaGreatDoor
open Go.RowKit Nm Rn
set_option maxRecDepth 100000
set_option linter.unusedVariables false
set_option linter.unusedSimpArgs false
set_option exponentiation.threshold 100000

theorem pkLo_0 : pwnLo 13835058055282163712 4613937818241073152 3 = 13844065254536904704 := by decide +kernel
theorem pkHi_0 : pwnHi 13835058055282163712 4613937818241073152 3 = 4628293042053316608 := by decide +kernel
theorem pk_0 (w : World) (hT : Tab w) : Calls Tryz.prog 6 #[.agg #[.float .f64 13835058055282163712, .float .f64 4613937818241073152], .int .i64 3] w (RetF 13844065254536904704 4628293042053316608 w) := by
  have := pown_any 13835058055282163712 4613937818241073152 3 w hT (by decide) (by decide)
  rw [pkLo_0, pkHi_0] at this
  exact this
theorem pkLo_1 : pwnLo 13835058055282163712 4613937818241073152 2 = 0 := by decide +kernel
theorem pkHi_1 : pwnHi 13835058055282163712 4613937818241073152 2 = 4621256167635550208 := by decide +kernel
theorem pk_1 (w : World) (hT : Tab w) : Calls Tryz.prog 6 #[.agg #[.float .f64 13835058055282163712, .float .f64 4613937818241073152], .int .i64 2] w (RetF 0 4621256167635550208 w) := by
  have := pown_any 13835058055282163712 4613937818241073152 2 w hT (by decide) (by decide)
  rw [pkLo_1, pkHi_1] at this
  exact this
theorem pkLo_2 : pwnLo 18442240474082181120 9218868437227405312 0 = 4607182418800017408 := by decide +kernel
theorem pkHi_2 : pwnHi 18442240474082181120 9218868437227405312 0 = 4607182418800017408 := by decide +kernel
theorem pk_2 (w : World) (hT : Tab w) : Calls Tryz.prog 6 #[.agg #[.float .f64 18442240474082181120, .float .f64 9218868437227405312], .int .i64 0] w (RetF 4607182418800017408 4607182418800017408 w) := by
  have := pown_any 18442240474082181120 9218868437227405312 0 w hT (by decide) (by decide)
  rw [pkLo_2, pkHi_2] at this
  exact this
theorem pkLo_3 : pwnLo 0 4616189618054758400 (-1) = 4598175219545276416 := by decide +kernel
theorem pkHi_3 : pwnHi 0 4616189618054758400 (-1) = 9218868437227405312 := by decide +kernel
theorem pk_3 (w : World) (hT : Tab w) : Calls Tryz.prog 6 #[.agg #[.float .f64 0, .float .f64 4616189618054758400], .int .i64 (-1)] w (RetF 4598175219545276416 9218868437227405312 w) := by
  have := pown_any 0 4616189618054758400 (-1) w hT (by decide) (by decide)
  rw [pkLo_3, pkHi_3] at this
  exact this
theorem pkLo_4 : pwnLo 13835058055282163712 4616189618054758400 (-2) = 4589168020290535424 := by decide +kernel
theorem pkHi_4 : pwnHi 13835058055282163712 4616189618054758400 (-2) = 9218868437227405312 := by decide +kernel
theorem pk_4 (w : World) (hT : Tab w) : Calls Tryz.prog 6 #[.agg #[.float .f64 13835058055282163712, .float .f64 4616189618054758400], .int .i64 (-2)] w (RetF 4589168020290535424 9218868437227405312 w) := by
  have := pown_any 13835058055282163712 4616189618054758400 (-2) w hT (by decide) (by decide)
  rw [pkLo_4, pkHi_4] at this
  exact this
theorem pkLo_5 : pwnLo 0 0 (-2) = 9218868437227405312 := by decide +kernel
theorem pkHi_5 : pwnHi 0 0 (-2) = 18442240474082181120 := by decide +kernel
theorem pk_5 (w : World) (hT : Tab w) : Calls Tryz.prog 6 #[.agg #[.float .f64 0, .float .f64 0], .int .i64 (-2)] w (RetF 9218868437227405312 18442240474082181120 w) := by
  have := pown_any 0 0 (-2) w hT (by decide) (by decide)
  rw [pkLo_5, pkHi_5] at this
  exact this
theorem pkLo_6 : pwnLo 13839561654909534208 0 (-3) = 18442240474082181120 := by decide +kernel
theorem pkHi_6 : pwnHi 13839561654909534208 0 (-3) = 13803532857890570240 := by decide +kernel
theorem pk_6 (w : World) (hT : Tab w) : Calls Tryz.prog 6 #[.agg #[.float .f64 13839561654909534208, .float .f64 0], .int .i64 (-3)] w (RetF 18442240474082181120 13803532857890570240 w) := by
  have := pown_any 13839561654909534208 0 (-3) w hT (by decide) (by decide)
  rw [pkLo_6, pkHi_6] at this
  exact this
theorem pkLo_7 : pwnLo 4611686018427387904 9218868437227405312 (-2) = 0 := by decide +kernel
theorem pkHi_7 : pwnHi 4611686018427387904 9218868437227405312 (-2) = 4598175219545276416 := by decide +kernel
theorem pk_7 (w : World) (hT : Tab w) : Calls Tryz.prog 6 #[.agg #[.float .f64 4611686018427387904, .float .f64 9218868437227405312], .int .i64 (-2)] w (RetF 0 4598175219545276416 w) := by
  have := pown_any 4611686018427387904 9218868437227405312 (-2) w hT (by decide) (by decide)
  rw [pkLo_7, pkHi_7] at this
  exact this
theorem pkLo_8 : pwnLo 4621819117588971520 4621819117588971520 400 = 9218868437227405311 := by
  have e : powR (-1) 4621819117588971520 400 = 9218868437227405311 := powR_at (-1) 4621819117588971520 400 400 5 50 1 9218868437227405311 (by decide) (by decide) (by decide) (by decide) (by decide) (by decide) (by decide +kernel) (by decide) (by decide +kernel) (by decide +kernel)
  have h1 : ¬ emp 4621819117588971520 4621819117588971520 := by decide +kernel
  have h2 : pnA (rdLo 4621819117588971520 4621819117588971520) (rdHi 4621819117588971520 4621819117588971520) 400 = 4621819117588971520 ∧ pnB (rdLo 4621819117588971520 4621819117588971520) (rdHi 4621819117588971520 4621819117588971520) 400 = 4621819117588971520 := by decide +kernel
  unfold pwnLo
  rw [if_neg h1, if_neg (by omega), if_neg (by omega), h2.1, h2.2]
  unfold pwLo
  rw [if_pos (by omega)]
  exact e
theorem pkHi_8 : pwnHi 4621819117588971520 4621819117588971520 400 = 9218868437227405312 := by
  have e : powR 1 4621819117588971520 400 = 9218868437227405312 := powR_at 1 4621819117588971520 400 400 5 50 1 9218868437227405312 (by decide) (by decide) (by decide) (by decide) (by decide) (by decide) (by decide +kernel) (by decide) (by decide +kernel) (by decide +kernel)
  have h1 : ¬ emp 4621819117588971520 4621819117588971520 := by decide +kernel
  have h2 : pnA (rdLo 4621819117588971520 4621819117588971520) (rdHi 4621819117588971520 4621819117588971520) 400 = 4621819117588971520 ∧ pnB (rdLo 4621819117588971520 4621819117588971520) (rdHi 4621819117588971520 4621819117588971520) 400 = 4621819117588971520 := by decide +kernel
  unfold pwnHi
  rw [if_neg h1, if_neg (by omega), if_neg (by omega), h2.1, h2.2]
  unfold pwHi
  rw [if_pos (by omega)]
  exact e
theorem pk_8 (w : World) (hT : Tab w) : Calls Tryz.prog 6 #[.agg #[.float .f64 4621819117588971520, .float .f64 4621819117588971520], .int .i64 400] w (RetF 9218868437227405311 9218868437227405312 w) := by
  have := pown_any 4621819117588971520 4621819117588971520 400 w hT (by decide) (by decide)
  rw [pkLo_8, pkHi_8] at this
  exact this
theorem pkLo_9 : pwnLo 9223372036854775809 1 3 = 9223372036854775809 := by decide +kernel
theorem pkHi_9 : pwnHi 9223372036854775809 1 3 = 1 := by decide +kernel
theorem pk_9 (w : World) (hT : Tab w) : Calls Tryz.prog 6 #[.agg #[.float .f64 9223372036854775809, .float .f64 1], .int .i64 3] w (RetF 9223372036854775809 1 w) := by
  have := pown_any 9223372036854775809 1 3 w hT (by decide) (by decide)
  rw [pkLo_9, pkHi_9] at this
  exact this
theorem pkLo_10 : pwnLo 4591870180066957722 4591870180066957722 2 = 4576918229304087675 := by decide +kernel
theorem pkHi_10 : pwnHi 4591870180066957722 4591870180066957722 2 = 4576918229304087676 := by decide +kernel
theorem pk_10 (w : World) (hT : Tab w) : Calls Tryz.prog 6 #[.agg #[.float .f64 4591870180066957722, .float .f64 4591870180066957722], .int .i64 2] w (RetF 4576918229304087675 4576918229304087676 w) := by
  have := pown_any 4591870180066957722 4591870180066957722 2 w hT (by decide) (by decide)
  rw [pkLo_10, pkHi_10] at this
  exact this
theorem pkLo_11 : pwnLo 4607182418800017408 4611686018427387904 1025 = 18442240474082181120 := by decide +kernel
theorem pkHi_11 : pwnHi 4607182418800017408 4611686018427387904 1025 = 9218868437227405312 := by decide +kernel
theorem pk_11 (w : World) (hT : Tab w) : Calls Tryz.prog 6 #[.agg #[.float .f64 4607182418800017408, .float .f64 4611686018427387904], .int .i64 1025] w (RetF 18442240474082181120 9218868437227405312 w) := by
  have := pown_any 4607182418800017408 4611686018427387904 1025 w hT (by decide) (by decide)
  rw [pkLo_11, pkHi_11] at this
  exact this
theorem pkLo_12 : pwnLo 9218868437227405312 18442240474082181120 1025 = 9218868437227405312 := by decide +kernel
theorem pkHi_12 : pwnHi 9218868437227405312 18442240474082181120 1025 = 18442240474082181120 := by decide +kernel
theorem pk_12 (w : World) (hT : Tab w) : Calls Tryz.prog 6 #[.agg #[.float .f64 9218868437227405312, .float .f64 18442240474082181120], .int .i64 1025] w (RetF 9218868437227405312 18442240474082181120 w) := by
  have := pown_any 9218868437227405312 18442240474082181120 1025 w hT (by decide) (by decide)
  rw [pkLo_12, pkHi_12] at this
  exact this
end Go.Proofs.YtadijoeeaineaaaGreatDoor

/-
  The contracts of the reference's rounding, first part: the pattern of a significand and an exponent; infinities; the greatest number. Conditions: those that each theorem names.
-/
namespace Go.Proofs.YtadijoeeaineaaaGreatDoor
open Go.RowKit Nm Rn
set_option maxRecDepth 100000
set_option linter.unusedVariables false
set_option linter.unusedSimpArgs false

theorem pat_pos {neg : Bool} {r : Nat} (h : r ≠ 0) : pat neg r = if neg then 9223372036854775808 + r else r := by simp [pat, h]
theorem and_one (n : Nat) (h : n < 18446744073709551616) : bits .and .u64 (n : Int) 1 = ((n % 2 : Nat) : Int) := by
  rw [show (1 : Int) = ((1 : Nat) : Int) from rfl, u64_and_nat _ _ h (by omega), nat_mask1]
theorem or_top (n : Nat) (h : n < 9223372036854775808) : bits .or .u64 (n : Int) 9223372036854775808 = ((9223372036854775808 + n : Nat) : Int) := by
  rw [show (9223372036854775808 : Int) = ((9223372036854775808 : Nat) : Int) from rfl, u64_or_nat _ _ (by omega) (by omega), Nat.or_comm, nat_join 63 _ _ (by omega) (by omega)]

set_option maxHeartbeats 1000000 in
theorem made_any (neg : Bool) (sig : Nat) (ex : Int) (w : World) (hs : sig ≤ 9007199254740992) (h1 : -1074 ≤ ex) (h2 : ex ≤ 971) :
    Calls Tryz.prog 122 #[.bool neg, .int .u64 (sig : Int), .int .i64 ex] w fun e w' => e = .returned (.int .u64 (pat neg (rung (sig * 2 ^ (ex + 1074).toNat)) : Nat)) ∧ w = w' := by
  by_cases h0 : sig = 0
  · have HF : Hid ((0 : Int) = (pat neg (rung (sig * 2 ^ (ex + 1074).toNat)) : Nat)) := Lib.hid (by rw [h0, Nat.zero_mul, rung_zero]; rfl)
    have hz : sig ≤ 0 := by omega
    clear h0
    go_enter Tryz.func122, Tryz.ntmps122
    go_wp2
    go_ret
    exact ⟨ret_int HF.out, rfl⟩
  · have hs1 : 0 < sig := by omega
    obtain ⟨V, hV⟩ : ∃ V, V = sig * 2 ^ (ex + 1074).toNat := ⟨_, rfl⟩
    rw [← hV]
    have HV := Lib.hid hV
    clear hV h0
    go_enter Tryz.func122, Tryz.ntmps122
    go_wp2
    go_loop [1, 2] (fun sv ev => ∃ (s : Nat) (e : Int), sv = .int .u64 (s : Int) ∧ ev = .int .i64 e ∧ 0 < s ∧ s ≤ 9007199254740992 ∧ -1074 ≤ e ∧ e ≤ 972 ∧ (s = 9007199254740992 → e ≤ 971) ∧ Hid (s * 2 ^ (e + 1074).toNat = V)) (fun sv _ => (intOf sv).toNat)
    case atStart => exact ⟨sig, ex, rfl, rfl, hs1, hs, h1, by omega, fun _ => h2, Lib.hid HV.out.symm⟩
    case round =>
      obtain ⟨s, e, rfl, rfl, hsp, hsb, he1, he2, he3, hval⟩ := hrel
      by_cases hbig : s = 9007199254740992
      · have hbl : 9007199254740992 ≤ s := by omega
        have he4 := he3 hbig
        have hv2 : Hid (4503599627370496 * 2 ^ (e + 1 + 1074).toNat = V) := Lib.hid (by
          rw [← hval.out, hbig, show (e + 1 + 1074).toNat = (e + 1074).toNat + 1 by omega, mul_pow_succ]; omega)
        have HSB := Lib.hid (show s = 9007199254740992 by omega)
        have hd : decide ((9007199254740992 : Int) ≤ (s : Int)) = true := decide_eq_true (by omega)
        have hs64 : (s : Int) < 18446744073709551616 := by omega
        clear hbig he3 hsb hbl
        go_wp2
        go_round
        case rel => exact ⟨4503599627370496, e + 1, val_int (by have := HSB.out; omega), rfl, by omega, by omega, by omega, by omega, fun h => by omega, hv2⟩
        case measure => simp [intOf]; omega
      · have hsl : s < 9007199254740992 := by omega
        have hd : decide ((9007199254740992 : Int) ≤ (s : Int)) = false := decide_eq_false (by omega)
        have HSL := Lib.hid hsl
        have hodd : ∃ p : Nat, bits .and .u64 (s : Int) 1 = (p : Int) ∧ (p ≤ 0 ∨ 1 ≤ p) := ⟨s % 2, and_one s (by omega), by omega⟩
        obtain ⟨p, hp, hp2⟩ := hodd
        clear he3 hbig hsb hsl
        rcases hp2 with hp2 | hp2
        all_goals
          go_wp2
          clear hp
          go_loop [1, 2] (fun sv ev => ∃ (s : Nat) (e : Int), sv = .int .u64 (s : Int) ∧ ev = .int .i64 e ∧ 0 < s ∧ s < 9007199254740992 ∧ -1074 ≤ e ∧ e ≤ 972 ∧ Hid (s * 2 ^ (e + 1074).toNat = V)) (fun _ ev => (intOf ev + 1074).toNat)
          case atStart => exact ⟨s, e, rfl, rfl, hsp, HSL.out, he1, he2, hval⟩
          case round =>
            clear hval
            obtain ⟨t, f, rfl, rfl, htp, htl, hf1, hf2, hval⟩ := hrel
            have HTL := Lib.hid htl
            clear htl
            by_cases hlow : t < 4503599627370496
            · have hd2 : decide ((t : Int) < 4503599627370496) = true := decide_eq_true (by omega)
              have hd3 : decide ((4503599627370496 : Int) ≤ (t : Int)) = false := decide_eq_false (by omega)
              have HLW := Lib.hid hlow
              have ht63 : IntKind.u64.wrap ((t : Int) * 2) = (t : Int) * 2 := by rw [IntKind.wrap_u64]; omega
              clear hlow
              by_cases hfe : -1074 < f
              · have hv2 : Hid (t * 2 * 2 ^ (f - 1 + 1074).toNat = V) := Lib.hid (by
                  rw [← hval.out, show (f + 1074).toNat = (f - 1 + 1074).toNat + 1 by omega, mul_pow_succ, Nat.mul_comm t 2, Nat.mul_assoc])
                go_wp2
                go_round
                case rel => exact ⟨t * 2, f - 1, val_int (by omega), rfl, by omega, by have := HLW.out; omega, by omega, by omega, hv2⟩
                case measure => simp [intOf]; omega
              · have hV : Hid (rung V = t) := Lib.hid (by
                  have e0 : (f + 1074).toNat = 0 := by omega
                  rw [← hval.out, e0, Nat.pow_zero, Nat.mul_one]
                  have := rung_form (Q := t) (u := 0) (s := t) HTL.out (fun h => absurd rfl h) (by simp) (by simp)
                  simpa using this)
                obtain ⟨T, hT⟩ : ∃ T, T = 9223372036854775808 + t := ⟨_, rfl⟩
                have ho := or_top t (by have := HTL.out; omega)
                rw [← hT] at ho
                have HT := Lib.hid hT
                have hd4 : decide (-1074 < f) = false := decide_eq_false hfe
                have hf0 : f ≤ -1074 := by omega
                clear hT ht63 hfe
                cases neg
                all_goals
                  go_wp2
                  go_ret
                  exact ⟨ret_int (by rw [hV.out, pat_pos (by omega)]; first | rfl | (rw [HT.out]; rfl)), rfl⟩
            · have hd2 : decide ((t : Int) < 4503599627370496) = false := decide_eq_false (by omega)
              have hd3 : decide ((4503599627370496 : Int) ≤ (t : Int)) = true := decide_eq_true (by omega)
              have hV : Hid (rung V = (f + 1074).toNat * 4503599627370496 + t) := Lib.hid (by
                rw [← hval.out]
                exact rung_form HTL.out (fun _ => by omega) (Nat.le_refl _) (Nat.mul_lt_mul_of_pos_right (by omega) (Nat.pow_pos (by omega))))
              obtain ⟨u, hu⟩ : ∃ u : Nat, f + 1075 = (u : Int) := ⟨(f + 1075).toNat, by omega⟩
              have hu1 : 1 ≤ u := by omega
              have hu2 : u ≤ 2047 := by omega
              have hfu : Hid ((f + 1074).toNat = u - 1) := Lib.hid (by omega)
              obtain ⟨X, hX⟩ : ∃ X : Nat, X = t - 4503599627370496 + u * 4503599627370496 := ⟨_, rfl⟩
              have eX : IntKind.u64.wrap (IntKind.u64.wrap ((t : Int) - 4503599627370496) + (u : Int) * 4503599627370496) = (X : Int) := by
                have := HTL.out
                rw [IntKind.wrap_u64, IntKind.wrap_u64]; omega
              have hXb : X < 9223372036854775808 := by have := HTL.out; omega
              have ht0 : (0 : Int) ≤ (t : Int) - 4503599627370496 := by omega
              have HX : Hid ((f + 1074).toNat * 4503599627370496 + t = X) := Lib.hid (by rw [hfu.out, hX]; omega)
              have hXp : Hid (X ≠ 0) := Lib.hid (by omega)
              have ho := or_top X hXb
              obtain ⟨T, hT⟩ : ∃ T, T = 9223372036854775808 + X := ⟨_, rfl⟩
              rw [← hT] at ho
              have HT := Lib.hid hT
              clear hX hlow hXb hT ht0
              cases neg
              all_goals
                go_wp2
                go_ret
                exact ⟨ret_int (by rw [hV.out, HX.out, pat_pos hXp.out]; first | rfl | (rw [HT.out]; rfl)), rfl⟩
end Go.Proofs.YtadijoeeaineaaaGreatDoor

/-
  The contracts of the reference's ratios, second part: signs; numbers of patterns. Conditions: those that each theorem names.
-/
namespace Go.Proofs.YtadijoeeaineaaaGreatDoor
open Go.RowKit Nm Rn
set_option maxRecDepth 100000
set_option linter.unusedVariables false
set_option linter.unusedSimpArgs false

/-- A ratio's sign. -/
def sgnZ (neg : Bool) (n : Nat) : Int := if n = 0 then 0 else if neg then -1 else 1
set_option maxHeartbeats 1000000 in
theorem rsign_any (neg : Bool) (A : Option Addr) (l c : Nat) (xs : List Nat) (B : Option Addr) (k d : Nat) (w : World) (h : Wds w A l c xs) (hl : l ≤ 17592186044416) :
    Calls Tryz.prog 44 #[.agg #[.bool neg, .slice A l c, .slice B k d]] w fun e w' => e = .returned (.int .i64 (sgnZ neg (nv xs))) ∧ Ext w w' := by
  by_cases h0 : nv xs = 0
  · have hz : nw (nv xs) ≤ 0 := by rw [h0, nw_zero]; omega
    have HF : Hid ((0 : Int) = sgnZ neg (nv xs)) := Lib.hid (by rw [h0]; rfl)
    clear h0
    go_enter Tryz.func44, Tryz.ntmps44
    go_wp2_with fail
    refine (norm_any _ _ _ _ _ (h.alloc _) (by omega)).mono ?_
    rintro e w1 ⟨A1, n1, c1, rfl, hN, hE1⟩
    have hn1 : n1 ≤ 0 := by have := hN.len; rw [nd_length] at this; omega
    go_wp2
    go_ret
    exact ⟨ret_int HF.out, ((Ext.refl w).alloc _).trans hE1⟩
  · have hnx1 : 0 < nw (nv xs) := by
      rcases Nat.eq_zero_or_pos (nw (nv xs)) with e | e
      · exact absurd (nw_eq_zero.1 e) h0
      · exact e
    have HF : Hid ((if neg then (-1 : Int) else 1) = sgnZ neg (nv xs)) := Lib.hid (by unfold sgnZ; rw [if_neg h0])
    clear h0
    go_enter Tryz.func44, Tryz.ntmps44
    go_wp2_with fail
    refine (norm_any _ _ _ _ _ (h.alloc _) (by omega)).mono ?_
    rintro e w1 ⟨A1, n1, c1, rfl, hN, hE1⟩
    have hn1 : 0 < n1 := by have := hN.len; rw [nd_length] at this; omega
    have q0 : w1.cell? ⟨w.heap.size, 0, none⟩ = some (.bool neg) := ((Blk.new w 40 #[.bool neg, .slice A l c, .slice B k d]).ext hE1).cell 0
    cases neg
    all_goals
      go_wp2
      go_ret
      exact ⟨ret_int HF.out, ((Ext.refl w).alloc _).trans hE1⟩

set_option maxHeartbeats 1000000 in
theorem frombits_any (b : Nat) (w : World) (hb : b < 18446744073709551616) :
    Calls Tryz.prog 15 #[.int .u64 (b : Int)] w (RetR (sg b && decide (mg b ≠ 0)) (fbN b) (fbD b) w) := by
  obtain ⟨E, hE⟩ : ∃ E, E = b / 4503599627370496 % 2048 := ⟨_, rfl⟩
  obtain ⟨F, hF⟩ : ∃ F, F = b % 4503599627370496 := ⟨_, rfl⟩
  have g1 : bits .and .u64 ((b : Int) / 4503599627370496) 2047 = (E : Int) := by
    rw [show (b : Int) / 4503599627370496 = ((b / 4503599627370496 : Nat) : Int) by omega, show (2047 : Int) = ((2047 : Nat) : Int) from rfl, u64_and_nat _ _ (by omega) (by omega), nat_mask11, hE]
  have g2 : bits .and .u64 (b : Int) 4503599627370495 = (F : Int) := by
    rw [show (4503599627370495 : Int) = ((4503599627370495 : Nat) : Int) from rfl, u64_and_nat _ _ (by omega) (by omega), hF]
    congr 1
    exact Nat.and_two_pow_sub_one_eq_mod b 52
  have hEb : E < 2048 := by omega
  have hFb : F < 4503599627370496 := by omega
  obtain ⟨T, hT⟩ : ∃ T, T = b / 9223372036854775808 := ⟨_, rfl⟩
  have g3 : (b : Int) / 9223372036854775808 = (T : Int) := by omega
  have hS : Hid (sg b = decide (T = 1)) := Lib.hid (by unfold sg; rw [hT]; exact decide_eq_decide.2 (by omega))
  have hTb : T ≤ 1 := by omega
  have hsig : Hid (fbSig b = if E = 0 then F else F + 4503599627370496) := Lib.hid (by unfold fbSig; rw [hE, hF])
  have hexp : Hid (fbExp b = (if E = 0 then 0 else (E : Int) - 1) - 1074) := Lib.hid (by unfold fbExp; rw [hE])
  have hzero := Lib.hid (fbSig_zero b)
  have hNe : Hid (fbN b = fracN (fbSig b) 1 (fbExp b)) := Lib.hid rfl
  have hDe : Hid (fbD b = fracD (fbSig b) 1 (fbExp b)) := Lib.hid rfl
  have hSZ := Lib.hid (show (sg b && decide (mg b ≠ 0)) = (decide (T = 1) && decide (fbSig b ≠ 0)) by
    rw [hS.out]; simp only [ne_eq, hzero.out])
  have HB := Lib.hid hb
  have hbsz := fbSig_lt b
  have hbe1 := fbExp_lo b
  have hbe2 := fbExp_hi b
  obtain ⟨G, hG⟩ : ∃ G, G = fbSig b := ⟨_, rfl⟩
  obtain ⟨X, hX⟩ : ∃ X, X = fbExp b := ⟨_, rfl⟩
  rw [← hG] at hsig hNe hDe hSZ hbsz
  rw [← hX] at hexp hNe hDe hbe1 hbe2
  have hs1 : Hid (E = 0 → F = G ∧ X = -1074) := Lib.hid (fun h => by rw [hsig.out, hexp.out, if_pos h, if_pos h]; exact ⟨rfl, rfl⟩)
  have hs2 : Hid (E ≠ 0 → F + 4503599627370496 = G ∧ X = (E : Int) - 1 - 1074) := Lib.hid (fun h => by rw [hsig.out, hexp.out, if_neg h, if_neg h]; exact ⟨rfl, rfl⟩)
  have HGb := Lib.hid hbsz
  clear hb hE hF hT hG hX hbsz
  have hsm : ∀ w, Calls Tryz.prog 42 #[.int .u64 (G : Int)] w (RetW G w) := fun w => by
    have := small_any (G : Int) w (by omega) (by have := HGb.out; omega)
    rwa [Int.toNat_natCast] at this
  have HSM := Lib.hid hsm
  clear hsm
  have hd1 : T = 0 ∨ T = 1 := by omega
  clear hTb
  by_cases hE0 : E = 0
  · obtain ⟨e1, e2⟩ := hs1.out hE0
    have hE1 : E ≤ 0 := by omega
    have g4 : (F : Int) = (G : Int) := by omega
    have HX : Hid ((E : Int) - 1074 = X) := Lib.hid (by rw [e2]; omega)
    rw [g4] at g2
    clear hE0 e1 e2 hFb g4
    rcases hd1 with hd1 | hd1
    all_goals
      rw [hd1] at g3
      have HT := Lib.hid hd1
      clear hd1
      obtain ⟨sB, hsB⟩ : ∃ sB, sB = (decide (T = 1)) := ⟨_, rfl⟩
      obtain ⟨nb, hnb⟩ : ∃ nb, nb = (sg b && decide (mg b ≠ 0)) := ⟨_, rfl⟩
      obtain ⟨N, hN⟩ : ∃ N, N = fbN b := ⟨_, rfl⟩
      obtain ⟨D, hD⟩ : ∃ D, D = fbD b := ⟨_, rfl⟩
      rw [← hnb, ← hN, ← hD]
      have HNB : Hid (nb = (sB && decide (G ≠ 0))) := Lib.hid (by rw [hnb, hSZ.out, hsB])
      have HN : Hid (N = fracN G 1 X) := Lib.hid (by rw [hN, hNe.out])
      have HD : Hid (D = fracD G 1 X) := Lib.hid (by rw [hD, hDe.out])
      have HSB : Hid (sB = decide (T = 1)) := Lib.hid hsB
      clear hnb hN hD hsB
      go_enter Tryz.func15, Tryz.ntmps15
      go_wp2_with fail
      refine (HSM.out _).mono ?_
      rintro e w1 ⟨A1, n1, c1, rfl, h1, hEx1⟩
      have h2 := h1.alloc (.cells #[.int .u32 1] 65)
      have h3 := one_wds w1 rfl
      have hn1 : n1 ≤ 2 := by
        have := h1.len
        rw [nd_length] at this
        have := nw_of_bits (x := G) (k := 53) (m := 2) HGb.out (by omega)
        omega
      have hblk := ((Blk.new w 40 #[.bool false, .slice none 0 0, .slice none 0 0]).ext hEx1).ext ((Ext.refl w1).alloc (.cells #[.int .u32 1] 65))
      have hEx : Ext w (w1.alloc (.cells #[.int .u32 1] 65)) := (((Ext.refl w).alloc _).trans hEx1).alloc _
      have hfr := frac_any sB A1 n1 c1 (nd G) (some ⟨w1.heap.size, 0, none⟩) 1 1 [1] X (w1.alloc (.cells #[.int .u32 1] 65)) h2 (by omega) h3 (by omega) (by omega) (by omega) (by simp [nv])
      rw [nv_nd, show nv [1] = 1 from rfl, ← HNB.out, ← HN.out, ← HD.out, ← HX.out, HSB.out, HT.out] at hfr
      have HFR := Lib.hid hfr
      clear hfr h3
      go_wp2_with fail
      refine HFR.out.mono ?_
      rintro e w2 ⟨A2, n2, c2, A3, n3, c3, rfl, hr1, hr2, hEx2⟩
      have hblk2 := hblk.ext hEx2
      have hExw := hEx.trans hEx2
      obtain ⟨G0, hG0⟩ : ∃ G0, G0 = w.heap.size := ⟨_, rfl⟩
      rw [← hG0] at hblk2
      rw [← hG0]
      have hGw : w.heap.size ≤ G0 := by omega
      have hGl := hblk2.lt
      have q0 : w2.cell? ⟨G0, 0, none⟩ = some (.bool false) := hblk2.cell 0
      have q1 : w2.cell? ⟨G0, 1, none⟩ = some (.slice none 0 0) := hblk2.cell 1
      have q2 : w2.cell? ⟨G0, 2, none⟩ = some (.slice none 0 0) := hblk2.cell 2
      have f0 := hblk2.frozen 0
      have f1 := hblk2.frozen 1
      have f2 := hblk2.frozen 2
      clear hG0
      go_wp2
      refine bodyPost_ret (v := .agg #[.bool nb, .slice A2 n2 c2, .slice A3 n3 c3]) (by simp [results, Tryz.results15, go_sem, hGl, q0, q1, q2]) rfl ?_
      exact ⟨_, _, _, _, _, _, rfl, hr1.set_box3 hblk2 (noInt3 _ _ _ _ _ _ _) (by simp) (by simp), hr2.set_box3 hblk2 (noInt3 _ _ _ _ _ _ _) (by simp) (by simp), hExw.set3 hGw _ _ _⟩
  · obtain ⟨e1, e2⟩ := hs2.out hE0
    have hE1 : 0 < E := by omega
    have g4 : (F : Int) + 4503599627370496 = (G : Int) := by omega
    have HX : Hid ((E : Int) - 1 - 1074 = X) := Lib.hid e2.symm
    clear hE0 e1 e2
    rcases hd1 with hd1 | hd1
    all_goals
      rw [hd1] at g3
      have HT := Lib.hid hd1
      clear hd1
      obtain ⟨sB, hsB⟩ : ∃ sB, sB = (decide (T = 1)) := ⟨_, rfl⟩
      obtain ⟨nb, hnb⟩ : ∃ nb, nb = (sg b && decide (mg b ≠ 0)) := ⟨_, rfl⟩
      obtain ⟨N, hN⟩ : ∃ N, N = fbN b := ⟨_, rfl⟩
      obtain ⟨D, hD⟩ : ∃ D, D = fbD b := ⟨_, rfl⟩
      rw [← hnb, ← hN, ← hD]
      have HNB : Hid (nb = (sB && decide (G ≠ 0))) := Lib.hid (by rw [hnb, hSZ.out, hsB])
      have HN : Hid (N = fracN G 1 X) := Lib.hid (by rw [hN, hNe.out])
      have HD : Hid (D = fracD G 1 X) := Lib.hid (by rw [hD, hDe.out])
      have HSB : Hid (sB = decide (T = 1)) := Lib.hid hsB
      clear hnb hN hD hsB
      go_enter Tryz.func15, Tryz.ntmps15
      go_wp2_with fail
      refine (HSM.out _).mono ?_
      rintro e w1 ⟨A1, n1, c1, rfl, h1, hEx1⟩
      have h2 := h1.alloc (.cells #[.int .u32 1] 65)
      have h3 := one_wds w1 rfl
      have hn1 : n1 ≤ 2 := by
        have := h1.len
        rw [nd_length] at this
        have := nw_of_bits (x := G) (k := 53) (m := 2) HGb.out (by omega)
        omega
      have hblk := ((Blk.new w 40 #[.bool false, .slice none 0 0, .slice none 0 0]).ext hEx1).ext ((Ext.refl w1).alloc (.cells #[.int .u32 1] 65))
      have hEx : Ext w (w1.alloc (.cells #[.int .u32 1] 65)) := (((Ext.refl w).alloc _).trans hEx1).alloc _
      have hfr := frac_any sB A1 n1 c1 (nd G) (some ⟨w1.heap.size, 0, none⟩) 1 1 [1] X (w1.alloc (.cells #[.int .u32 1] 65)) h2 (by omega) h3 (by omega) (by omega) (by omega) (by simp [nv])
      rw [nv_nd, show nv [1] = 1 from rfl, ← HNB.out, ← HN.out, ← HD.out, ← HX.out, HSB.out, HT.out] at hfr
      have HFR := Lib.hid hfr
      clear hfr h3
      go_wp2_with fail
      refine HFR.out.mono ?_
      rintro e w2 ⟨A2, n2, c2, A3, n3, c3, rfl, hr1, hr2, hEx2⟩
      have hblk2 := hblk.ext hEx2
      have hExw := hEx.trans hEx2
      obtain ⟨G0, hG0⟩ : ∃ G0, G0 = w.heap.size := ⟨_, rfl⟩
      rw [← hG0] at hblk2
      rw [← hG0]
      have hGw : w.heap.size ≤ G0 := by omega
      have hGl := hblk2.lt
      have q0 : w2.cell? ⟨G0, 0, none⟩ = some (.bool false) := hblk2.cell 0
      have q1 : w2.cell? ⟨G0, 1, none⟩ = some (.slice none 0 0) := hblk2.cell 1
      have q2 : w2.cell? ⟨G0, 2, none⟩ = some (.slice none 0 0) := hblk2.cell 2
      have f0 := hblk2.frozen 0
      have f1 := hblk2.frozen 1
      have f2 := hblk2.frozen 2
      clear hG0
      go_wp2
      refine bodyPost_ret (v := .agg #[.bool nb, .slice A2 n2 c2, .slice A3 n3 c3]) (by simp [results, Tryz.results15, go_sem, hGl, q0, q1, q2]) rfl ?_
      exact ⟨_, _, _, _, _, _, rfl, hr1.set_box3 hblk2 (noInt3 _ _ _ _ _ _ _) (by simp) (by simp), hr2.set_box3 hblk2 (noInt3 _ _ _ _ _ _ _) (by simp) (by simp), hExw.set3 hGw _ _ _⟩
end Go.Proofs.YtadijoeeaineaaaGreatDoor
