/-
 The contract of the program's powers of intervals. Conditions: those that each theorem names.
-/
import Derived.Test.YtbcaggdgoidlaaaGreatDoorH40
import Derived.Test.YtbcaggdgoidlaaaGreatDoorH23
import Derived.Test.YtbcaggdgoidlaaaGreatDoorH20
namespace Go.Proofs.YtbcaggdgoidlaaaGreatDoor
open Go.RowKit Nm Rn
set_option maxRecDepth 100000
set_option linter.unusedVariables false
set_option linter.unusedSimpArgs false
theorem powTo_of (d : Int) {x : Nat} {n : Int} (hx : x < 18446744073709551616) (h : isNaN x = false) (hn : ¬ (n < -1024 ∨ 1024 < n)) : Hid (PowTo d x n (powR d x n)) :=
 Lib.hid (fun w hT => pow_num d x n w hx hT (powR_ok h hn).1)
theorem pown_any (lo hi : Nat) (n : Int) (w : World) (hT : Tab w) (hl : lo < 18446744073709551616) (hh : hi < 18446744073709551616) :
   Calls Tryz.prog 15 #[.agg #[.float .f64 lo, .float .f64 hi], .int .i64 n] w (RetF (pwnLo lo hi n) (pwnHi lo hi n) w) := by
 have HR := Lib.hid (fun w => iread_any lo hi w hl hh)
 unfold pwnLo pwnHi
 by_cases he : emp lo hi
 · rw [if_pos he, if_pos he]
   rw [he.1, he.2] at HR
   exact pown_e lo hi infR minf n w hT HR (eqF' infR_lt minf_lt infR_lt minf_lt rfl)
 · rw [if_neg he, if_neg he]
   have hE0 := pnE_rd hl hh he
   have hrr := rd_rd hl hh he
   have HA := Lib.hid (fun w => pabs_any (rdLo lo hi) (rdHi lo hi) w hE0.la hE0.lb)
   have hab : abLo (rdLo lo hi) (rdHi lo hi) = pl (szLo (rdLo lo hi) (rdHi lo hi)) ∧ abHi (rdLo lo hi) (rdHi lo hi) = pl (szHi (rdLo lo hi) (rdHi lo hi)) := by
     have he' : ¬ (rdLo lo hi = infR ∧ rdHi lo hi = minf) := he
     unfold abLo abHi
     rw [hrr.1, hrr.2, if_neg he', if_neg he']
     exact ⟨rfl, rfl⟩
   rw [hab.1, hab.2] at HA
   clear hab hrr he
   generalize rdLo lo hi = p at *
   generalize rdHi lo hi = q at *
   have hq := eqF' (E := false) hE0.la hE0.lb infR_lt minf_lt (by
     rw [eq_key hE0.na nan_inf, eq_key hE0.nb nan_minf, key_inf, key_minf, Bool.and_eq_false_iff, decide_eq_false_iff_not, decide_eq_false_iff_not, key_eq_inf hE0.la hE0.na]
     exact .inl hE0.ia)
   by_cases hb : n < -1024 ∨ 1024 < n
   · rw [if_pos hb, if_pos hb]
     by_cases h1 : n < -1024
     · exact pown_b1 lo hi p q n w hT HR hq (decide_eq_true h1)
     · exact pown_b2 lo hi p q n w hT HR hq (decide_eq_false h1) (decide_eq_true (by omega))
   · rw [if_neg hb, if_neg hb]
     have r1 : decide (n < -1024) = false := decide_eq_false (by omega)
     have r2 : decide (1024 < n) = false := decide_eq_false (by omega)
     by_cases h0 : n = 0
     · rw [if_pos h0, if_pos h0]
       exact pown_0 lo hi p q n w hT HR hq r1 r2 (by rw [h0]; rfl)
     · rw [if_neg h0, if_neg h0]
       have r3 : (n == 0) = false := by rw [beq_eq_false_iff_ne]; exact h0
       have z0 : (0 : Nat) < 18446744073709551616 := by omega
       have n0 : isNaN 0 = false := rfl
       have k0 : key 0 = 0 := rfl
       by_cases hev : n.tmod 2 = 0
       · have e1 : pnA p q n = pl (szLo p q) := if_pos hev
         have e2 : pnB p q n = pl (szHi p q) := if_pos hev
         rw [e1, e2]
         have hE := pnE_sz hE0
         have r4 : (n.tmod 2 == 0) = true := by rw [beq_iff_eq]; exact hev
         clear hE0 e1 e2
         generalize pl (szLo p q) = a at *
         generalize pl (szHi p q) = b at *
         unfold pwLo pwHi
         have E1 := fo_eq hE.la z0
         have E2 := fo_eq hE.lb z0
         have L1 := fo_lt hE.la z0
         have G2 := fo_gt hE.lb z0
         have N1 := fo_ne hE.la z0
         have N2 := fo_ne hE.lb z0
         rw [eqB_zero_ hE.na] at E1 N1
         rw [eqB_zero_ hE.nb] at E2 N2
         rw [lt_key hE.na n0, k0] at L1
         rw [lt_key n0 hE.nb, k0] at G2
         have ka : key a = 0 ↔ mg a = 0 := by unfold key; split <;> omega
         have kb : key b = 0 ↔ mg b = 0 := by unfold key; split <;> omega
         have hab := hE.ki
         by_cases hp : 0 < n
         · rw [if_pos hp, if_pos hp]
           exact pown_ev_p lo hi p q n w hT HR hq r1 r2 r3 r4 a b HA (decide_eq_true hp) _ _ (powTo_of (-1) hE.la hE.na hb) (powTo_of 1 hE.lb hE.nb hb)
         · rw [if_neg hp, if_neg hp]
           have r5 : decide (0 < n) = false := decide_eq_false hp
           by_cases hz : mg a = 0 ∧ mg b = 0
           · rw [if_pos hz, if_pos hz]
             exact pown_ev_ee lo hi p q n w hT HR hq r1 r2 r3 r4 a b HA r5 (by rw [E1, decide_eq_true hz.1]) (by rw [E2, decide_eq_true hz.2])
           · rw [if_neg hz, if_neg hz]
             by_cases hc : key a < 0 ∧ 0 < key b
             · rw [if_pos hc, if_pos hc]
               exact pown_ev_en lo hi p q n w hT HR hq r1 r2 r3 r4 a b HA r5 (by rw [E1, decide_eq_false (by omega)]) (by rw [L1, decide_eq_true hc.1]) (by rw [G2, decide_eq_true hc.2])
             · rw [if_neg hc, if_neg hc]
               by_cases za : mg a = 0
               · have zb : mg b ≠ 0 := by omega
                 rw [if_neg zb, if_pos za]
                 exact pown_ev_nD lo hi p q n w hT HR hq r1 r2 r3 r4 a b HA r5 (by rw [E1, decide_eq_true za]) (by rw [E2, decide_eq_false zb]) (by rw [L1, decide_eq_false (by omega)]) (by rw [N2, decide_eq_false zb]; rfl) (by rw [N1, decide_eq_true za]; rfl) _ 0 (powTo_of (-1) hE.lb hE.nb hb)
               · rw [if_neg za]
                 by_cases zb : mg b = 0
                 · rw [if_pos zb]
                   exact pown_ev_nC lo hi p q n w hT HR hq r1 r2 r3 r4 a b HA r5 (by rw [E1, decide_eq_false za]) (by rw [L1, decide_eq_true (by omega)]) (by rw [G2, decide_eq_false (by omega)]) (by rw [N2, decide_eq_true zb]; rfl) (by rw [N1, decide_eq_false za]; rfl) 0 _ (powTo_of 1 hE.la hE.na hb)
                 · rw [if_neg zb]
                   by_cases la : key a < 0
                   · exact pown_ev_nB lo hi p q n w hT HR hq r1 r2 r3 r4 a b HA r5 (by rw [E1, decide_eq_false za]) (by rw [L1, decide_eq_true la]) (by rw [G2, decide_eq_false (by omega)]) (by rw [N2, decide_eq_false zb]; rfl) (by rw [N1, decide_eq_false za]; rfl) _ _ (powTo_of (-1) hE.lb hE.nb hb) (powTo_of 1 hE.la hE.na hb)
                   · exact pown_ev_nA lo hi p q n w hT HR hq r1 r2 r3 r4 a b HA r5 (by rw [E1, decide_eq_false za]) (by rw [L1, decide_eq_false la]) (by rw [N2, decide_eq_false zb]; rfl) (by rw [N1, decide_eq_false za]; rfl) _ _ (powTo_of (-1) hE.lb hE.nb hb) (powTo_of 1 hE.la hE.na hb)
       · have e1 : pnA p q n = p := if_neg hev
         have e2 : pnB p q n = q := if_neg hev
         rw [e1, e2]
         have hE := hE0
         have r4 : (n.tmod 2 == 0) = false := by rw [beq_eq_false_iff_ne]; exact hev
         clear hE0 e1 e2 HA
         unfold pwLo pwHi
         have E1 := fo_eq hE.la z0
         have E2 := fo_eq hE.lb z0
         have L1 := fo_lt hE.la z0
         have G2 := fo_gt hE.lb z0
         have N1 := fo_ne hE.la z0
         have N2 := fo_ne hE.lb z0
         rw [eqB_zero_ hE.na] at E1 N1
         rw [eqB_zero_ hE.nb] at E2 N2
         rw [lt_key hE.na n0, k0] at L1
         rw [lt_key n0 hE.nb, k0] at G2
         have ka : key p = 0 ↔ mg p = 0 := by unfold key; split <;> omega
         have kb : key q = 0 ↔ mg q = 0 := by unfold key; split <;> omega
         have hab := hE.ki
         by_cases hp : 0 < n
         · rw [if_pos hp, if_pos hp]
           exact pown_od_p lo hi p q n w hT HR hq r1 r2 r3 r4 (decide_eq_true hp) _ _ (powTo_of (-1) hE.la hE.na hb) (powTo_of 1 hE.lb hE.nb hb)
         · rw [if_neg hp, if_neg hp]
           have r5 : decide (0 < n) = false := decide_eq_false hp
           by_cases hz : mg p = 0 ∧ mg q = 0
           · rw [if_pos hz, if_pos hz]
             exact pown_od_ee lo hi p q n w hT HR hq r1 r2 r3 r4 r5 (by rw [E1, decide_eq_true hz.1]) (by rw [E2, decide_eq_true hz.2])
           · rw [if_neg hz, if_neg hz]
             by_cases hc : key p < 0 ∧ 0 < key q
             · rw [if_pos hc, if_pos hc]
               exact pown_od_en lo hi p q n w hT HR hq r1 r2 r3 r4 r5 (by rw [E1, decide_eq_false (by omega)]) (by rw [L1, decide_eq_true hc.1]) (by rw [G2, decide_eq_true hc.2])
             · rw [if_neg hc, if_neg hc]
               by_cases za : mg p = 0
               · have zb : mg q ≠ 0 := by omega
                 rw [if_neg zb, if_pos za]
                 exact pown_od_nD lo hi p q n w hT HR hq r1 r2 r3 r4 r5 (by rw [E1, decide_eq_true za]) (by rw [E2, decide_eq_false zb]) (by rw [L1, decide_eq_false (by omega)]) (by rw [N2, decide_eq_false zb]; rfl) (by rw [N1, decide_eq_true za]; rfl) _ 0 (powTo_of (-1) hE.lb hE.nb hb)
               · rw [if_neg za]
                 by_cases zb : mg q = 0
                 · rw [if_pos zb]
                   exact pown_od_nC lo hi p q n w hT HR hq r1 r2 r3 r4 r5 (by rw [E1, decide_eq_false za]) (by rw [L1, decide_eq_true (by omega)]) (by rw [G2, decide_eq_false (by omega)]) (by rw [N2, decide_eq_true zb]; rfl) (by rw [N1, decide_eq_false za]; rfl) 0 _ (powTo_of 1 hE.la hE.na hb)
                 · rw [if_neg zb]
                   by_cases la : key p < 0
                   · exact pown_od_nB lo hi p q n w hT HR hq r1 r2 r3 r4 r5 (by rw [E1, decide_eq_false za]) (by rw [L1, decide_eq_true la]) (by rw [G2, decide_eq_false (by omega)]) (by rw [N2, decide_eq_false zb]; rfl) (by rw [N1, decide_eq_false za]; rfl) _ _ (powTo_of (-1) hE.lb hE.nb hb) (powTo_of 1 hE.la hE.na hb)
                   · exact pown_od_nA lo hi p q n w hT HR hq r1 r2 r3 r4 r5 (by rw [E1, decide_eq_false za]) (by rw [L1, decide_eq_false la]) (by rw [N2, decide_eq_false zb]; rfl) (by rw [N1, decide_eq_false za]; rfl) _ _ (powTo_of (-1) hE.lb hE.nb hb) (powTo_of 1 hE.la hE.na hb)
end Go.Proofs.YtbcaggdgoidlaaaGreatDoor

namespace Go.Proofs.YtbcaggdgoidlaaaGreatDoor
open Go.RowKit Nm Rn
set_option maxRecDepth 100000
set_option linter.unusedVariables false
set_option linter.unusedSimpArgs false
set_option exponentiation.threshold 100000
end Go.Proofs.YtbcaggdgoidlaaaGreatDoor

namespace Go.Proofs.YtbcaggdgoidlaaaGreatDoor
open Go.RowKit Nm Rn
set_option maxRecDepth 100000
set_option linter.unusedVariables false
set_option linter.unusedSimpArgs false
set_option exponentiation.threshold 100000
theorem pkLo_0 : pwnLo 13835058055282163712 4613937818241073152 3 = 13844065254536904704 := by decide +kernel
theorem pkHi_0 : pwnHi 13835058055282163712 4613937818241073152 3 = 4628293042053316608 := by decide +kernel
theorem pk_0 (w : World) (hT : Tab w) : Calls Tryz.prog 15 #[.agg #[.float .f64 13835058055282163712, .float .f64 4613937818241073152], .int .i64 3] w (RetF 13844065254536904704 4628293042053316608 w) := by
 have := pown_any 13835058055282163712 4613937818241073152 3 w hT (by decide) (by decide)
 rw [pkLo_0, pkHi_0] at this
 exact this
end Go.Proofs.YtbcaggdgoidlaaaGreatDoor
