/-
  The contract of the program's powers of intervals. Conditions: those that each theorem names.
-/
import Derived.Test.YtadijoeeaineaaaDoorT35
import Derived.Test.YtadijoeeaineaaaDoorT22
import Derived.Test.YtadijoeeaineaaaDoorT20
namespace Go.Proofs.YtadijoeeaineaaaDoor
open Go.RowKit Nm Rn
set_option maxRecDepth 100000
set_option linter.unusedVariables false
set_option linter.unusedSimpArgs false

theorem powTo_of (d : Int) {x : Nat} {n : Int} (hx : x < 18446744073709551616) (h : isNaN x = false) (hn : ¬ (n < -1024 ∨ 1024 < n)) : Hid (PowTo d x n (powR d x n)) :=
  Lib.hid (fun w hT => pow_num d x n w hx hT (powR_ok h hn).1)

theorem pown_any (lo hi : Nat) (n : Int) (w : World) (hT : Tab w) (hl : lo < 18446744073709551616) (hh : hi < 18446744073709551616) :
    Calls Tryd.prog 37 #[.agg #[.float .f64 lo, .float .f64 hi], .int .i64 n] w (RetF (pwnLo lo hi n) (pwnHi lo hi n) w) := by
  have HR := Lib.hid (fun w => iread_any lo hi w hl hh)
  unfold pwnLo pwnHi
  by_cases he : emp lo hi
  · rw [if_pos he, if_pos he]
    rw [he.1, he.2] at HR
    exact pown_e lo hi infR minf n w hT HR (eqF' infR_lt minf_lt infR_lt minf_lt rfl)
  · rw [if_neg he, if_neg he]
    have hE0 := pnE_rd hl hh he
    have hrr := rd_rd hl hh he
    have HA := Lib.hid (fun w => pabs_any (rdLo lo hi) (rdHi lo hi) w hE0.la hE0.lb)
    have hab : abLo (rdLo lo hi) (rdHi lo hi) = pl (szLo (rdLo lo hi) (rdHi lo hi)) ∧ abHi (rdLo lo hi) (rdHi lo hi) = pl (szHi (rdLo lo hi) (rdHi lo hi)) := by
      have he' : ¬ (rdLo lo hi = infR ∧ rdHi lo hi = minf) := he
      unfold abLo abHi
      rw [hrr.1, hrr.2, if_neg he', if_neg he']
      exact ⟨rfl, rfl⟩
    rw [hab.1, hab.2] at HA
    clear hab hrr he
    generalize rdLo lo hi = p at *
    generalize rdHi lo hi = q at *
    have hq := eqF' (E := false) hE0.la hE0.lb infR_lt minf_lt (by
      rw [eq_key hE0.na nan_inf, eq_key hE0.nb nan_minf, key_inf, key_minf, Bool.and_eq_false_iff, decide_eq_false_iff_not, decide_eq_false_iff_not, key_eq_inf hE0.la hE0.na]
      exact .inl hE0.ia)
    by_cases hb : n < -1024 ∨ 1024 < n
    · rw [if_pos hb, if_pos hb]
      by_cases h1 : n < -1024
      · exact pown_b1 lo hi p q n w hT HR hq (decide_eq_true h1)
      · exact pown_b2 lo hi p q n w hT HR hq (decide_eq_false h1) (decide_eq_true (by omega))
    · rw [if_neg hb, if_neg hb]
      have r1 : decide (n < -1024) = false := decide_eq_false (by omega)
      have r2 : decide (1024 < n) = false := decide_eq_false (by omega)
      by_cases h0 : n = 0
      · rw [if_pos h0, if_pos h0]
        exact pown_0 lo hi p q n w hT HR hq r1 r2 (by rw [h0]; rfl)
      · rw [if_neg h0, if_neg h0]
        have r3 : (n == 0) = false := by rw [beq_eq_false_iff_ne]; exact h0
        have z0 : (0 : Nat) < 18446744073709551616 := by omega
        have n0 : isNaN 0 = false := rfl
        have k0 : key 0 = 0 := rfl
        by_cases hev : n.tmod 2 = 0
        · have e1 : pnA p q n = pl (szLo p q) := if_pos hev
          have e2 : pnB p q n = pl (szHi p q) := if_pos hev
          rw [e1, e2]
          have hE := pnE_sz hE0
          have r4 : (n.tmod 2 == 0) = true := by rw [beq_iff_eq]; exact hev
          clear hE0 e1 e2
          generalize pl (szLo p q) = a at *
          generalize pl (szHi p q) = b at *
          unfold pwLo pwHi
          have E1 := fo_eq hE.la z0
          have E2 := fo_eq hE.lb z0
          have L1 := fo_lt hE.la z0
          have G2 := fo_gt hE.lb z0
          have N1 := fo_ne hE.la z0
          have N2 := fo_ne hE.lb z0
          rw [eqB_zero_ hE.na] at E1 N1
          rw [eqB_zero_ hE.nb] at E2 N2
          rw [lt_key hE.na n0, k0] at L1
          rw [lt_key n0 hE.nb, k0] at G2
          have ka : key a = 0 ↔ mg a = 0 := by unfold key; split <;> omega
          have kb : key b = 0 ↔ mg b = 0 := by unfold key; split <;> omega
          have hab := hE.ki
          by_cases hp : 0 < n
          · rw [if_pos hp, if_pos hp]
            exact pown_ev_p lo hi p q n w hT HR hq r1 r2 r3 r4 a b HA (decide_eq_true hp) _ _ (powTo_of (-1) hE.la hE.na hb) (powTo_of 1 hE.lb hE.nb hb)
          · rw [if_neg hp, if_neg hp]
            have r5 : decide (0 < n) = false := decide_eq_false hp
            by_cases hz : mg a = 0 ∧ mg b = 0
            · rw [if_pos hz, if_pos hz]
              exact pown_ev_ee lo hi p q n w hT HR hq r1 r2 r3 r4 a b HA r5 (by rw [E1, decide_eq_true hz.1]) (by rw [E2, decide_eq_true hz.2])
            · rw [if_neg hz, if_neg hz]
              by_cases hc : key a < 0 ∧ 0 < key b
              · rw [if_pos hc, if_pos hc]
                exact pown_ev_en lo hi p q n w hT HR hq r1 r2 r3 r4 a b HA r5 (by rw [E1, decide_eq_false (by omega)]) (by rw [L1, decide_eq_true hc.1]) (by rw [G2, decide_eq_true hc.2])
              · rw [if_neg hc, if_neg hc]
                by_cases za : mg a = 0
                · have zb : mg b ≠ 0 := by omega
                  rw [if_neg zb, if_pos za]
                  exact pown_ev_nD lo hi p q n w hT HR hq r1 r2 r3 r4 a b HA r5 (by rw [E1, decide_eq_true za]) (by rw [E2, decide_eq_false zb]) (by rw [L1, decide_eq_false (by omega)]) (by rw [N2, decide_eq_false zb]; rfl) (by rw [N1, decide_eq_true za]; rfl) _ 0 (powTo_of (-1) hE.lb hE.nb hb)
                · rw [if_neg za]
                  by_cases zb : mg b = 0
                  · rw [if_pos zb]
                    exact pown_ev_nC lo hi p q n w hT HR hq r1 r2 r3 r4 a b HA r5 (by rw [E1, decide_eq_false za]) (by rw [L1, decide_eq_true (by omega)]) (by rw [G2, decide_eq_false (by omega)]) (by rw [N2, decide_eq_true zb]; rfl) (by rw [N1, decide_eq_false za]; rfl) 0 _ (powTo_of 1 hE.la hE.na hb)
                  · rw [if_neg zb]
                    by_cases la : key a < 0
                    · exact pown_ev_nB lo hi p q n w hT HR hq r1 r2 r3 r4 a b HA r5 (by rw [E1, decide_eq_false za]) (by rw [L1, decide_eq_true la]) (by rw [G2, decide_eq_false (by omega)]) (by rw [N2, decide_eq_false zb]; rfl) (by rw [N1, decide_eq_false za]; rfl) _ _ (powTo_of (-1) hE.lb hE.nb hb) (powTo_of 1 hE.la hE.na hb)
                    · exact pown_ev_nA lo hi p q n w hT HR hq r1 r2 r3 r4 a b HA r5 (by rw [E1, decide_eq_false za]) (by rw [L1, decide_eq_false la]) (by rw [N2, decide_eq_false zb]; rfl) (by rw [N1, decide_eq_false za]; rfl) _ _ (powTo_of (-1) hE.lb hE.nb hb) (powTo_of 1 hE.la hE.na hb)
        · have e1 : pnA p q n = p := if_neg hev
          have e2 : pnB p q n = q := if_neg hev
          rw [e1, e2]
          have hE := hE0
          have r4 : (n.tmod 2 == 0) = false := by rw [beq_eq_false_iff_ne]; exact hev
          clear hE0 e1 e2 HA
          unfold pwLo pwHi
          have E1 := fo_eq hE.la z0
          have E2 := fo_eq hE.lb z0
          have L1 := fo_lt hE.la z0
          have G2 := fo_gt hE.lb z0
          have N1 := fo_ne hE.la z0
          have N2 := fo_ne hE.lb z0
          rw [eqB_zero_ hE.na] at E1 N1
          rw [eqB_zero_ hE.nb] at E2 N2
          rw [lt_key hE.na n0, k0] at L1
          rw [lt_key n0 hE.nb, k0] at G2
          have ka : key p = 0 ↔ mg p = 0 := by unfold key; split <;> omega
          have kb : key q = 0 ↔ mg q = 0 := by unfold key; split <;> omega
          have hab := hE.ki
          by_cases hp : 0 < n
          · rw [if_pos hp, if_pos hp]
            exact pown_od_p lo hi p q n w hT HR hq r1 r2 r3 r4 (decide_eq_true hp) _ _ (powTo_of (-1) hE.la hE.na hb) (powTo_of 1 hE.lb hE.nb hb)
          · rw [if_neg hp, if_neg hp]
            have r5 : decide (0 < n) = false := decide_eq_false hp
            by_cases hz : mg p = 0 ∧ mg q = 0
            · rw [if_pos hz, if_pos hz]
              exact pown_od_ee lo hi p q n w hT HR hq r1 r2 r3 r4 r5 (by rw [E1, decide_eq_true hz.1]) (by rw [E2, decide_eq_true hz.2])
            · rw [if_neg hz, if_neg hz]
              by_cases hc : key p < 0 ∧ 0 < key q
              · rw [if_pos hc, if_pos hc]
                exact pown_od_en lo hi p q n w hT HR hq r1 r2 r3 r4 r5 (by rw [E1, decide_eq_false (by omega)]) (by rw [L1, decide_eq_true hc.1]) (by rw [G2, decide_eq_true hc.2])
              · rw [if_neg hc, if_neg hc]
                by_cases za : mg p = 0
                · have zb : mg q ≠ 0 := by omega
                  rw [if_neg zb, if_pos za]
                  exact pown_od_nD lo hi p q n w hT HR hq r1 r2 r3 r4 r5 (by rw [E1, decide_eq_true za]) (by rw [E2, decide_eq_false zb]) (by rw [L1, decide_eq_false (by omega)]) (by rw [N2, decide_eq_false zb]; rfl) (by rw [N1, decide_eq_true za]; rfl) _ 0 (powTo_of (-1) hE.lb hE.nb hb)
                · rw [if_neg za]
                  by_cases zb : mg q = 0
                  · rw [if_pos zb]
                    exact pown_od_nC lo hi p q n w hT HR hq r1 r2 r3 r4 r5 (by rw [E1, decide_eq_false za]) (by rw [L1, decide_eq_true (by omega)]) (by rw [G2, decide_eq_false (by omega)]) (by rw [N2, decide_eq_true zb]; rfl) (by rw [N1, decide_eq_false za]; rfl) 0 _ (powTo_of 1 hE.la hE.na hb)
                  · rw [if_neg zb]
                    by_cases la : key p < 0
                    · exact pown_od_nB lo hi p q n w hT HR hq r1 r2 r3 r4 r5 (by rw [E1, decide_eq_false za]) (by rw [L1, decide_eq_true la]) (by rw [G2, decide_eq_false (by omega)]) (by rw [N2, decide_eq_false zb]; rfl) (by rw [N1, decide_eq_false za]; rfl) _ _ (powTo_of (-1) hE.lb hE.nb hb) (powTo_of 1 hE.la hE.na hb)
                    · exact pown_od_nA lo hi p q n w hT HR hq r1 r2 r3 r4 r5 (by rw [E1, decide_eq_false za]) (by rw [L1, decide_eq_false la]) (by rw [N2, decide_eq_false zb]; rfl) (by rw [N1, decide_eq_false za]; rfl) _ _ (powTo_of (-1) hE.lb hE.nb hb) (powTo_of 1 hE.la hE.na hb)
end Go.Proofs.YtadijoeeaineaaaDoor

/-
  Plain: a power at a known input, through its odd part. Conditions: those that each theorem names.
-/
namespace Go.Proofs.YtadijoeeaineaaaDoor
open Go.RowKit Nm Rn
set_option maxRecDepth 100000
set_option linter.unusedVariables false
set_option linter.unusedSimpArgs false
set_option exponentiation.threshold 100000

theorem powR_at (d : Int) (x : Nat) (n : Int) (m O k : Nat) (E : Int) (V : Nat) (h1 : isNaN x = false) (h2 : isInf x = false) (hz : mg x ≠ 0) (hn : n = (m : Int)) (hm0 : 0 < m) (hm2 : m ≤ 1024) (hs : fbSig x = 2 ^ k * O) (hO : O % 2 = 1) (hE : fbExp x + (k : Int) = E) (hV : rnd d (pwS (sg x) m) (zd (O ^ m) (E * m)) = V) : powR d x n = V := by
  have ht := tz_uniq hs hO
  have hoS : odS x = O := by
    unfold odS
    rw [ht, hs, Nat.mul_div_cancel_left _ (two_pow_pos k)]
  have hoE : odE x = E := by
    unfold odE
    rw [ht, hE]
  have htn : n.toNat = m := by omega
  unfold powR
  rw [if_neg (by rw [h1]; simp; omega), if_neg (by omega), if_neg (by rw [h2]; simp), if_neg (by rintro ⟨h, _⟩; exact hz h), if_pos (by omega), htn]
  rw [← pow_pos_eq d _ x hm2]
  obtain ⟨e1, e2⟩ := odE_m x m hm2
  have hb := pow_bl x m hm2
  rw [ofR_zd d _ (by omega) (by omega) (by omega), hoS, hoE]
  exact hV
end Go.Proofs.YtadijoeeaineaaaDoor

/-
  The values that chapter 7's lives and PowerKnown ask for. Conditions: those that each theorem names.
-/
namespace Go.Proofs.YtadijoeeaineaaaDoor
open Go.RowKit Nm Rn
set_option maxRecDepth 100000
set_option linter.unusedVariables false
set_option linter.unusedSimpArgs false
set_option exponentiation.threshold 100000

theorem pkLo_0 : pwnLo 13835058055282163712 4613937818241073152 3 = 13844065254536904704 := by decide +kernel
theorem pkHi_0 : pwnHi 13835058055282163712 4613937818241073152 3 = 4628293042053316608 := by decide +kernel
theorem pk_0 (w : World) (hT : Tab w) : Calls Tryd.prog 37 #[.agg #[.float .f64 13835058055282163712, .float .f64 4613937818241073152], .int .i64 3] w (RetF 13844065254536904704 4628293042053316608 w) := by
  have := pown_any 13835058055282163712 4613937818241073152 3 w hT (by decide) (by decide)
  rw [pkLo_0, pkHi_0] at this
  exact this
theorem pkLo_1 : pwnLo 13835058055282163712 4613937818241073152 2 = 0 := by decide +kernel
theorem pkHi_1 : pwnHi 13835058055282163712 4613937818241073152 2 = 4621256167635550208 := by decide +kernel
theorem pk_1 (w : World) (hT : Tab w) : Calls Tryd.prog 37 #[.agg #[.float .f64 13835058055282163712, .float .f64 4613937818241073152], .int .i64 2] w (RetF 0 4621256167635550208 w) := by
  have := pown_any 13835058055282163712 4613937818241073152 2 w hT (by decide) (by decide)
  rw [pkLo_1, pkHi_1] at this
  exact this
theorem pkLo_2 : pwnLo 18442240474082181120 9218868437227405312 0 = 4607182418800017408 := by decide +kernel
theorem pkHi_2 : pwnHi 18442240474082181120 9218868437227405312 0 = 4607182418800017408 := by decide +kernel
theorem pk_2 (w : World) (hT : Tab w) : Calls Tryd.prog 37 #[.agg #[.float .f64 18442240474082181120, .float .f64 9218868437227405312], .int .i64 0] w (RetF 4607182418800017408 4607182418800017408 w) := by
  have := pown_any 18442240474082181120 9218868437227405312 0 w hT (by decide) (by decide)
  rw [pkLo_2, pkHi_2] at this
  exact this
theorem pkLo_3 : pwnLo 0 4616189618054758400 (-1) = 4598175219545276416 := by decide +kernel
theorem pkHi_3 : pwnHi 0 4616189618054758400 (-1) = 9218868437227405312 := by decide +kernel
theorem pk_3 (w : World) (hT : Tab w) : Calls Tryd.prog 37 #[.agg #[.float .f64 0, .float .f64 4616189618054758400], .int .i64 (-1)] w (RetF 4598175219545276416 9218868437227405312 w) := by
  have := pown_any 0 4616189618054758400 (-1) w hT (by decide) (by decide)
  rw [pkLo_3, pkHi_3] at this
  exact this
theorem pkLo_4 : pwnLo 13835058055282163712 4616189618054758400 (-2) = 4589168020290535424 := by decide +kernel
theorem pkHi_4 : pwnHi 13835058055282163712 4616189618054758400 (-2) = 9218868437227405312 := by decide +kernel
theorem pk_4 (w : World) (hT : Tab w) : Calls Tryd.prog 37 #[.agg #[.float .f64 13835058055282163712, .float .f64 4616189618054758400], .int .i64 (-2)] w (RetF 4589168020290535424 9218868437227405312 w) := by
  have := pown_any 13835058055282163712 4616189618054758400 (-2) w hT (by decide) (by decide)
  rw [pkLo_4, pkHi_4] at this
  exact this
theorem pkLo_5 : pwnLo 0 0 (-2) = 9218868437227405312 := by decide +kernel
theorem pkHi_5 : pwnHi 0 0 (-2) = 18442240474082181120 := by decide +kernel
theorem pk_5 (w : World) (hT : Tab w) : Calls Tryd.prog 37 #[.agg #[.float .f64 0, .float .f64 0], .int .i64 (-2)] w (RetF 9218868437227405312 18442240474082181120 w) := by
  have := pown_any 0 0 (-2) w hT (by decide) (by decide)
  rw [pkLo_5, pkHi_5] at this
  exact this
theorem pkLo_6 : pwnLo 13839561654909534208 0 (-3) = 18442240474082181120 := by decide +kernel
theorem pkHi_6 : pwnHi 13839561654909534208 0 (-3) = 13803532857890570240 := by decide +kernel
theorem pk_6 (w : World) (hT : Tab w) : Calls Tryd.prog 37 #[.agg #[.float .f64 13839561654909534208, .float .f64 0], .int .i64 (-3)] w (RetF 18442240474082181120 13803532857890570240 w) := by
  have := pown_any 13839561654909534208 0 (-3) w hT (by decide) (by decide)
  rw [pkLo_6, pkHi_6] at this
  exact this
theorem pkLo_7 : pwnLo 4611686018427387904 9218868437227405312 (-2) = 0 := by decide +kernel
theorem pkHi_7 : pwnHi 4611686018427387904 9218868437227405312 (-2) = 4598175219545276416 := by decide +kernel
theorem pk_7 (w : World) (hT : Tab w) : Calls Tryd.prog 37 #[.agg #[.float .f64 4611686018427387904, .float .f64 9218868437227405312], .int .i64 (-2)] w (RetF 0 4598175219545276416 w) := by
  have := pown_any 4611686018427387904 9218868437227405312 (-2) w hT (by decide) (by decide)
  rw [pkLo_7, pkHi_7] at this
  exact this
theorem pkLo_8 : pwnLo 4621819117588971520 4621819117588971520 400 = 9218868437227405311 := by
  have e : powR (-1) 4621819117588971520 400 = 9218868437227405311 := powR_at (-1) 4621819117588971520 400 400 5 50 1 9218868437227405311 (by decide) (by decide) (by decide) (by decide) (by decide) (by decide) (by decide +kernel) (by decide) (by decide +kernel) (by decide +kernel)
  have h1 : ¬ emp 4621819117588971520 4621819117588971520 := by decide +kernel
  have h2 : pnA (rdLo 4621819117588971520 4621819117588971520) (rdHi 4621819117588971520 4621819117588971520) 400 = 4621819117588971520 ∧ pnB (rdLo 4621819117588971520 4621819117588971520) (rdHi 4621819117588971520 4621819117588971520) 400 = 4621819117588971520 := by decide +kernel
  unfold pwnLo
  rw [if_neg h1, if_neg (by omega), if_neg (by omega), h2.1, h2.2]
  unfold pwLo
  rw [if_pos (by omega)]
  exact e
theorem pkHi_8 : pwnHi 4621819117588971520 4621819117588971520 400 = 9218868437227405312 := by
  have e : powR 1 4621819117588971520 400 = 9218868437227405312 := powR_at 1 4621819117588971520 400 400 5 50 1 9218868437227405312 (by decide) (by decide) (by decide) (by decide) (by decide) (by decide) (by decide +kernel) (by decide) (by decide +kernel) (by decide +kernel)
  have h1 : ¬ emp 4621819117588971520 4621819117588971520 := by decide +kernel
  have h2 : pnA (rdLo 4621819117588971520 4621819117588971520) (rdHi 4621819117588971520 4621819117588971520) 400 = 4621819117588971520 ∧ pnB (rdLo 4621819117588971520 4621819117588971520) (rdHi 4621819117588971520 4621819117588971520) 400 = 4621819117588971520 := by decide +kernel
  unfold pwnHi
  rw [if_neg h1, if_neg (by omega), if_neg (by omega), h2.1, h2.2]
  unfold pwHi
  rw [if_pos (by omega)]
  exact e
theorem pk_8 (w : World) (hT : Tab w) : Calls Tryd.prog 37 #[.agg #[.float .f64 4621819117588971520, .float .f64 4621819117588971520], .int .i64 400] w (RetF 9218868437227405311 9218868437227405312 w) := by
  have := pown_any 4621819117588971520 4621819117588971520 400 w hT (by decide) (by decide)
  rw [pkLo_8, pkHi_8] at this
  exact this
theorem pkLo_9 : pwnLo 9223372036854775809 1 3 = 9223372036854775809 := by decide +kernel
theorem pkHi_9 : pwnHi 9223372036854775809 1 3 = 1 := by decide +kernel
theorem pk_9 (w : World) (hT : Tab w) : Calls Tryd.prog 37 #[.agg #[.float .f64 9223372036854775809, .float .f64 1], .int .i64 3] w (RetF 9223372036854775809 1 w) := by
  have := pown_any 9223372036854775809 1 3 w hT (by decide) (by decide)
  rw [pkLo_9, pkHi_9] at this
  exact this
theorem pkLo_10 : pwnLo 4591870180066957722 4591870180066957722 2 = 4576918229304087675 := by decide +kernel
theorem pkHi_10 : pwnHi 4591870180066957722 4591870180066957722 2 = 4576918229304087676 := by decide +kernel
theorem pk_10 (w : World) (hT : Tab w) : Calls Tryd.prog 37 #[.agg #[.float .f64 4591870180066957722, .float .f64 4591870180066957722], .int .i64 2] w (RetF 4576918229304087675 4576918229304087676 w) := by
  have := pown_any 4591870180066957722 4591870180066957722 2 w hT (by decide) (by decide)
  rw [pkLo_10, pkHi_10] at this
  exact this
theorem pkLo_11 : pwnLo 4607182418800017408 4611686018427387904 1025 = 18442240474082181120 := by decide +kernel
theorem pkHi_11 : pwnHi 4607182418800017408 4611686018427387904 1025 = 9218868437227405312 := by decide +kernel
theorem pk_11 (w : World) (hT : Tab w) : Calls Tryd.prog 37 #[.agg #[.float .f64 4607182418800017408, .float .f64 4611686018427387904], .int .i64 1025] w (RetF 18442240474082181120 9218868437227405312 w) := by
  have := pown_any 4607182418800017408 4611686018427387904 1025 w hT (by decide) (by decide)
  rw [pkLo_11, pkHi_11] at this
  exact this
theorem pkLo_12 : pwnLo 9218868437227405312 18442240474082181120 1025 = 9218868437227405312 := by decide +kernel
theorem pkHi_12 : pwnHi 9218868437227405312 18442240474082181120 1025 = 18442240474082181120 := by decide +kernel
theorem pk_12 (w : World) (hT : Tab w) : Calls Tryd.prog 37 #[.agg #[.float .f64 9218868437227405312, .float .f64 18442240474082181120], .int .i64 1025] w (RetF 9218868437227405312 18442240474082181120 w) := by
  have := pown_any 9218868437227405312 18442240474082181120 1025 w hT (by decide) (by decide)
  rw [pkLo_12, pkHi_12] at this
  exact this
end Go.Proofs.YtadijoeeaineaaaDoor
