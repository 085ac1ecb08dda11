/-
 Plain: what chapter 7's calls answer holds what the operations make of numbers of the intervals. Conditions: those that each theorem names.
-/
import Derived.Test.YtbcaggdgoidlaaaGreatDoorH32
import Derived.Test.YtbcaggdgoidlaaaGreatDoorH33
import Derived.Test.YtbcaggdgoidlaaaGreatDoorH36
import Derived.Test.YtbcaggdgoidlaaaGreatDoorH23
import Derived.Test.YtbcaggdgoidlaaaGreatDoorH06
import Derived.Test.YtbcaggdgoidlaaaGreatDoorH28
import Derived.StillTailTactics
import Derived.Test.YtbcaggdgoidlaaaGreatDoorH12
import Derived.Deep.DeepCutAuto
namespace Go.Proofs.YtbcaggdgoidlaaaGreatDoor
open Nm Rn
set_option linter.unusedVariables false
set_option linter.unusedSimpArgs false
theorem pwS_even {n : Int} (hn : n.tmod 2 = 0) (hp : 0 < n) (s : Bool) : pwS s n.toNat = false := by
 obtain ⟨m, rfl⟩ := Int.eq_ofNat_of_zero_le (show 0 ≤ n by omega)
 have h2 : m % 2 = 0 := by
   have : (m : Int).tmod 2 = ((m % 2 : Nat) : Int) := rfl
   rw [this] at hn
   omega
 unfold pwS
 rw [Int.toNat_natCast, h2]
 cases s <;> rfl
theorem mg_pw {d : Int} {x y : Nat} {n : Int} (nx : isNaN x = false) (ny : isNaN y = false) (fx : mg x < infR) (e : mg x = mg y) (hn : 0 < n) (hb : n ≤ 1024) (he : n.tmod 2 = 0) : powR d x n = powR d y n := by
 rw [powR_pos nx (by omega) fx hn, powR_pos ny (by omega) (by omega) hn, pwS_even he hn, pwS_even he hn, Nat.le_antisymm (ZP_mono (x := x) (y := y) n.toNat (by omega)) (ZP_mono (x := y) (y := x) n.toNat (by omega))]
theorem mx_mg {x : Nat} : mg (mx x) = mg x := by
 unfold mx
 split
 · unfold mg; omega
 · rfl
theorem mg_plq (y : Nat) : mg (pl y) = mg y := by
 unfold pl
 split
 · rename_i h; rw [h]; decide
 · rfl
theorem sz_mg {p q : Nat} (h : PnE p q) :
   (mg (pl (szLo p q)) = mg p ∨ mg (pl (szLo p q)) = mg q ∨ (key p < 0 ∧ 0 < key q ∧ mg (pl (szLo p q)) = mg 0)) ∧ (mg (pl (szHi p q)) = mg p ∨ mg (pl (szHi p q)) = mg q) := by
 obtain ⟨k1, k2, k3, k4, k5, k6⟩ := sz_ends h.la h.lb h.na h.nb h.ia h.ib
 rw [mg_plq, mg_plq]
 have e1 := @mx_mg p
 have e2 := @mx_mg q
 constructor
 · unfold szLo
   split
   · rename_i hz
     by_cases z1 : key p = 0
     · left; rw [key0.1 z1]; rfl
     · by_cases z2 : key q = 0
       · right; left; rw [key0.1 z2]; rfl
       · right; right; exact ⟨by omega, by omega, rfl⟩
   · split
     · right; left; exact e2
     · left; exact e1
 · unfold szHi
   split
   · left; exact e1
   · right; exact e2
theorem pwn_pos {p q : Nat} (h : PnE p q) {n : Int} (hn : 0 < n) (hb : n ≤ 1024) : pwnLo p q n = powR (-1) (pnA p q n) n ∧ pwnHi p q n = powR 1 (pnB p q n) n := by
 obtain ⟨e1, e2⟩ := pwn_p h n
 rw [e1, e2, if_neg (by omega), if_neg (by omega), if_neg (by omega), if_neg (by omega)]
 unfold pwLo pwHi
 rw [if_pos hn, if_pos hn]
 exact ⟨rfl, rfl⟩
theorem pwn_pt {x : Nat} (h : PnE x x) (fx : mg x < infR) {n : Int} (hn : 0 < n) (hb : n ≤ 1024) : pwnLo x x n = powR (-1) x n ∧ pwnHi x x n = powR 1 x n := by
 obtain ⟨e1, e2⟩ := pwn_pos h hn hb
 rw [e1, e2]
 have hE := pnE_n h n
 by_cases he : n.tmod 2 = 0
 · obtain ⟨g1, g2⟩ := sz_mg h
   have a1 : mg (pnA x x n) = mg x := by
     unfold pnA
     rw [if_pos he]
     rcases g1 with g | g | ⟨g3, g4, _⟩
     · exact g
     · exact g
     · omega
   have a2 : mg (pnB x x n) = mg x := by
     unfold pnB
     rw [if_pos he]
     rcases g2 with g | g <;> exact g
   exact ⟨mg_pw hE.na h.na (by omega) a1 hn hb he, mg_pw hE.nb h.na (by omega) a2 hn hb he⟩
 · unfold pnA pnB
   rw [if_neg he, if_neg he]
   exact ⟨rfl, rfl⟩
theorem pw_keys {a b c e : Nat} {n : Int} (h : Rs a b n) (g : Rs c e n) (hr : ¬ (n < -1024 ∨ 1024 < n)) (hn : n ≠ 0) (k1 : key c ≤ key a) (k2 : key b ≤ key e) (hz : ¬ (n < 0 ∧ mg a = 0 ∧ mg b = 0)) : key (pwLo c e n) ≤ key (pwLo a b n) ∧ key (pwHi a b n) ≤ key (pwHi c e n) := by
 have na := h.na
 have nb := h.nb
 have nc := g.na
 have ne := g.nb
 have ka := @key0 a
 have kb := @key0 b
 have kc := @key0 c
 have ke := @key0 e
 have kab := h.ki
 have hz2 : ¬ (n < 0 ∧ mg c = 0 ∧ mg e = 0) := fun h2 => hz ⟨h2.1, by omega, by omega⟩
 refine ⟨?_, ?_⟩
 · unfold pwLo
   by_cases hp : 0 < n
   · rw [if_pos hp, if_pos hp]
     exact pw_mono_r d2 (c := 0) (e := 0) h hr hp nc na g.ev k1
   · rw [if_neg hp, if_neg hp]
     have hneg : n < 0 := by omega
     rw [if_neg (fun t => hz2 ⟨hneg, t⟩), if_neg (fun t => hz ⟨hneg, t⟩)]
     have bot : ∀ {x : Nat}, isNaN x = false → key minf ≤ key x := fun hx => by rw [key_minf]; exact (key_le hx).2
     have okb := (powR_ok (d := -1) nb hr).1
     by_cases hc2 : key c < 0 ∧ 0 < key e
     · rw [if_pos hc2]
       by_cases hc : key a < 0 ∧ 0 < key b
       · rw [if_pos hc]; exact Int.le_refl _
       · rw [if_neg hc]
         split
         · exact Int.le_refl _
         · exact bot okb
     · rw [if_neg hc2]
       by_cases hc : key a < 0 ∧ 0 < key b
       · exfalso; omega
       · rw [if_neg hc]
         by_cases ze : mg e = 0
         · rw [if_pos ze]
           split
           · exact Int.le_refl _
           · exact bot okb
         · rw [if_neg ze]
           have zb : mg b ≠ 0 := fun g0 => hz ⟨hneg, by omega, g0⟩
           rw [if_neg zb]
           refine pw_anti d2 nb ne hr hneg ?_ k2
           by_cases h1 : 0 < key b
           · exact .inl h1
           · exact .inr ⟨by omega, fun he => by have := h.ev he; omega⟩
 · unfold pwHi
   by_cases hp : 0 < n
   · rw [if_pos hp, if_pos hp]
     exact pw_mono_r d1 (c := 0) (e := 0) h hr hp nb ne (fun he => by have := h.ev he; omega) k2
   · rw [if_neg hp, if_neg hp]
     have hneg : n < 0 := by omega
     rw [if_neg (fun t => hz2 ⟨hneg, t⟩), if_neg (fun t => hz ⟨hneg, t⟩)]
     have topp : ∀ {x : Nat}, isNaN x = false → key x ≤ key infR := fun hx => by rw [key_inf]; exact (key_le hx).1
     have oka := (powR_ok (d := 1) na hr).1
     by_cases hc2 : key c < 0 ∧ 0 < key e
     · rw [if_pos hc2]
       by_cases hc : key a < 0 ∧ 0 < key b
       · rw [if_pos hc]; exact Int.le_refl _
       · rw [if_neg hc]
         split
         · exact Int.le_refl _
         · exact topp oka
     · rw [if_neg hc2]
       by_cases hc : key a < 0 ∧ 0 < key b
       · exfalso; omega
       · rw [if_neg hc]
         by_cases zc : mg c = 0
         · rw [if_pos zc]
           split
           · exact Int.le_refl _
           · exact topp oka
         · rw [if_neg zc]
           have za : mg a ≠ 0 := fun g0 => hz ⟨hneg, g0, by omega⟩
           rw [if_neg za]
           refine pw_anti d1 nc na hr hneg ?_ k1
           by_cases h1 : 0 < key c
           · exact .inl h1
           · exact .inr ⟨by omega, fun he => by have := g.ev he; omega⟩
theorem ab_p {p q : Nat} (h : PnE p q) : abLo p q = pl (szLo p q) ∧ abHi p q = pl (szHi p q) := by
 obtain ⟨e1, e2, e3, _⟩ := rd_pne h
 have e3' : ¬ (rdLo p q = infR ∧ rdHi p q = minf) := e3
 unfold abLo abHi
 rw [if_neg e3', if_neg e3', e1, e2]
 exact ⟨rfl, rfl⟩
theorem pl_self_ {x : Nat} (h : x ≠ 9223372036854775808) : pl x = x := if_neg h
theorem kmin_cases (a b : Nat) : (kmin a b = a ∨ kmin a b = b) ∧ key (kmin a b) ≤ key a ∧ key (kmin a b) ≤ key b := by unfold kmin; split <;> simp <;> omega
theorem kmax_cases (a b : Nat) : (kmax a b = a ∨ kmax a b = b) ∧ key a ≤ key (kmax a b) ∧ key b ≤ key (kmax a b) := by unfold kmax; split <;> simp <;> omega
theorem kmin_pne {p q r t : Nat} (h : PnE p q) (g : PnE r t) : PnE (kmin p r) (kmin q t) := by
 have h1 := kmin_cases p r
 have h2 := kmin_cases q t
 have a := h.ki
 have b := g.ki
 refine ⟨?_, ?_, ?_, ?_, ?_, ?_, ?_, ?_, ?_⟩
 · rcases h1.1 with e | e <;> rw [e]; exact h.la; exact g.la
 · rcases h2.1 with e | e <;> rw [e]; exact h.lb; exact g.lb
 · rcases h1.1 with e | e <;> rw [e]; exact h.na; exact g.na
 · rcases h2.1 with e | e <;> rw [e]; exact h.nb; exact g.nb
 · rcases h2.1 with e | e <;> rw [e] <;> omega
 · rcases h1.1 with e | e <;> rw [e]; exact h.ma; exact g.ma
 · rcases h2.1 with e | e <;> rw [e]; exact h.mb; exact g.mb
 · rcases h1.1 with e | e <;> rw [e]; exact h.ia; exact g.ia
 · rcases h2.1 with e | e <;> rw [e]; exact h.ib; exact g.ib
theorem kmax_pne {p q r t : Nat} (h : PnE p q) (g : PnE r t) : PnE (kmax p r) (kmax q t) := by
 have h1 := kmax_cases p r
 have h2 := kmax_cases q t
 have a := h.ki
 have b := g.ki
 refine ⟨?_, ?_, ?_, ?_, ?_, ?_, ?_, ?_, ?_⟩
 · rcases h1.1 with e | e <;> rw [e]; exact h.la; exact g.la
 · rcases h2.1 with e | e <;> rw [e]; exact h.lb; exact g.lb
 · rcases h1.1 with e | e <;> rw [e]; exact h.na; exact g.na
 · rcases h2.1 with e | e <;> rw [e]; exact h.nb; exact g.nb
 · rcases h1.1 with e | e <;> rw [e] <;> omega
 · rcases h1.1 with e | e <;> rw [e]; exact h.ma; exact g.ma
 · rcases h2.1 with e | e <;> rw [e]; exact h.mb; exact g.mb
 · rcases h1.1 with e | e <;> rw [e]; exact h.ia; exact g.ia
 · rcases h2.1 with e | e <;> rw [e]; exact h.ib; exact g.ib
theorem min_p {p q z1 z2 : Nat} (h : PnE p q) (hz : ¬ emp z1 z2) (hr : PnE (rdLo z1 z2) (rdHi z1 z2)) : minLo p q z1 z2 = kmin p (rdLo z1 z2) ∧ minHi p q z1 z2 = kmin q (rdHi z1 z2) := by
 obtain ⟨e1, e2, e3, _⟩ := rd_pne h
 have hc : ¬ ((rdLo p q = infR ∧ rdHi p q = minf) ∨ (rdLo z1 z2 = infR ∧ rdHi z1 z2 = minf)) := fun g => by rcases g with g | g; exact e3 g; exact hz g
 have hk := kmin_pne h hr
 unfold minLo minHi
 rw [if_neg hc, if_neg hc, e1, e2, pl_self_ hk.ma, pl_self_ hk.mb]
 exact ⟨rfl, rfl⟩
theorem max_p {p q z1 z2 : Nat} (h : PnE p q) (hz : ¬ emp z1 z2) (hr : PnE (rdLo z1 z2) (rdHi z1 z2)) : maxLo z1 z2 p q = kmax (rdLo z1 z2) p ∧ maxHi z1 z2 p q = kmax (rdHi z1 z2) q := by
 obtain ⟨e1, e2, e3, _⟩ := rd_pne h
 have hc : ¬ ((rdLo z1 z2 = infR ∧ rdHi z1 z2 = minf) ∨ (rdLo p q = infR ∧ rdHi p q = minf)) := fun g => by rcases g with g | g; exact hz g; exact e3 g
 have hk := kmax_pne hr h
 unfold maxLo maxHi
 rw [if_neg hc, if_neg hc, e1, e2, pl_self_ hk.ma, pl_self_ hk.mb]
 exact ⟨rfl, rfl⟩
theorem min_e1 {x1 x2 z1 z2 : Nat} (h : emp x1 x2 ∨ emp z1 z2) : minLo x1 x2 z1 z2 = infR ∧ minHi x1 x2 z1 z2 = minf ∧ maxLo x1 x2 z1 z2 = infR ∧ maxHi x1 x2 z1 z2 = minf := by
 have hc : (rdLo x1 x2 = infR ∧ rdHi x1 x2 = minf) ∨ (rdLo z1 z2 = infR ∧ rdHi z1 z2 = minf) := h
 unfold minLo minHi maxLo maxHi
 rw [if_pos hc, if_pos hc, if_pos hc, if_pos hc]
 exact ⟨rfl, rfl, rfl, rfl⟩
theorem pi_p {p q : Nat} (k : Nat) (h : PnE p q) : PnE (piLo k p q) (piHi k p q) ∧ key (piLo k p q) = key (stF k p) ∧ key (piHi k p q) = key (stF k q) := by
 obtain ⟨e1, e2, e3, _⟩ := rd_pne h
 have hs := stF_snd k h.la h.lb h.na h.nb h.ia h.ib h.ki
 obtain ⟨a1, a2, _, _⟩ := stF_facts k h.la h.na
 obtain ⟨b1, b2, _, _⟩ := stF_facts k h.lb h.nb
 have f1 : piLo k p q = pl (stF k p) := by
   unfold piLo; rw [if_neg e3, e1, e2]; unfold rdLo; rw [hs, if_pos rfl]
 have f2 : piHi k p q = pl (stF k q) := by
   unfold piHi; rw [if_neg e3, e1, e2]; unfold rdHi; rw [hs, if_pos rfl]
 obtain ⟨h1, h2, h3⟩ : key (stF k p) ≤ key (stF k q) ∧ key (stF k p) < 9218868437227405312 ∧ -9218868437227405312 < key (stF k q) := by
   have hse := hs
   unfold sndB leB ltB at hse
   simp only [Bool.and_eq_true, key_inf, key_minf] at hse
   exact ⟨of_decide_eq_true hse.1.1.2, of_decide_eq_true hse.1.2.2, of_decide_eq_true hse.2.2⟩
 obtain ⟨p1, p2, p3, p4⟩ := pl_facts a1 a2
 obtain ⟨q1, q2, q3, q4⟩ := pl_facts b1 b2
 rw [f1, f2]
 refine ⟨⟨p1, q1, p2, q2, by rw [p3, q3]; exact h1, p4, q4, fun e => ?_, fun e => ?_⟩, p3, q3⟩
 · rw [e, key_inf] at p3; omega
 · rw [e, key_minf] at q3; omega
theorem hdx_tg {s : Bool} {N D LO HI NE y1 y2 : Nat} (h : Tg (sn s N * (K74 : Int)) (D : Int) LO HI NE) (hD : 0 < D) (hy : PnE y1 y2) (k1 : key y1 ≤ key LO) (k2 : key HI ≤ key y2) : HdX s N D y1 y2 := by
 have hDi : (0 : Int) < (D : Int) := by omega
 constructor
 · by_cases e : y1 = minf
   · exact .inl e
   · right
     rw [(rcL_eq y1 _ hD).1, cmpI_le0]
     exact tg_below h hDi hy.la hy.na hy.ia e k1
 · by_cases e : y2 = infR
   · exact .inl e
   · right
     rw [(rcL_eq y2 _ hD).2, cmpI_le0]
     exact tg_above h hDi hy.lb hy.nb e hy.ib k2
theorem hdx_num {s : Bool} {N D a y1 y2 : Nat} (hv : sn s N * (K74 : Int) = sv a * (D : Int)) (hD : 0 < D) (k1 : key y1 ≤ key a) (k2 : key a ≤ key y2) : HdX s N D y1 y2 := by
 have hDi : (0 : Int) < (D : Int) := by omega
 constructor
 · right
   rw [(rcL_eq y1 _ hD).1, cmpI_le0, hv]
   exact mul_le hDi (sv_mono k1)
 · right
   rw [(rcL_eq y2 _ hD).2, cmpI_le0, hv]
   exact mul_le hDi (sv_mono k2)
def sgb (a : Nat) : Bool := sg a && decide (mg a ≠ 0)
theorem num_val (a : Nat) : sn (sgb a) (fbN a) * (K74 : Int) = sv a * (fbD a : Int) := fb_sv a
theorem fb_pl (a : Nat) : fbN (pl a) = fbN a ∧ fbD (pl a) = fbD a ∧ sgb (pl a) = sgb a := by
 unfold pl
 split
 · rename_i h; subst h; decide +kernel
 · exact ⟨rfl, rfl, rfl⟩
structure HdN (p q x : Nat) : Prop extends PnE x x where
 fx : mg x < infR
 k1 : key p ≤ key x
 k2 : key x ≤ key q
theorem hdn_of {lo hi p : Nat} (h : PnE lo hi) (hp : p < 18446744073709551616) : HdN lo hi (pl (inP lo hi p)) := by
 obtain ⟨a1, a2, a3, a4, a5⟩ := inP_facts h hp
 obtain ⟨b1, b2, b3, b4⟩ := pl_facts a1 a2
 have hf : mg (pl (inP lo hi p)) < infR := by rw [mg_plq]; exact a3
 exact ⟨⟨b1, b1, b2, b2, Int.le_refl _, b4, b4, fun e => by rw [e] at hf; revert hf; decide, fun e => by rw [e] at hf; revert hf; decide⟩, hf, by rw [b3]; exact a4, by rw [b3]; exact a5⟩
section
variable {p q x : Nat} {n : Int}
theorem mg_pwn {d : Int} {x y : Nat} (nx : isNaN x = false) (ny : isNaN y = false) (fx : mg x < infR) (zx : mg x ≠ 0) (e : mg x = mg y) (hn : n < 0) (hb : -1024 ≤ n) (he : n.tmod 2 = 0) : powR d x n = powR d y n := by
 have h2 : (-n).tmod 2 = 0 := by rw [Int.neg_tmod, he]; rfl
 rw [powR_neg nx (by omega) fx zx hn, powR_neg ny (by omega) (by omega) (by omega) hn, pwS_even h2 (by omega), pwS_even h2 (by omega), Nat.le_antisymm (ZN_anti (x := y) (y := x) (-n).toNat (by omega) (by omega)) (ZN_anti (x := x) (y := y) (-n).toNat (by omega) (by omega))]
theorem pwn_ptn (h : PnE x x) (fx : mg x < infR) (zx : mg x ≠ 0) (hn : n < 0) (hb : -1024 ≤ n) : pwLo (pnA x x n) (pnB x x n) n = powR (-1) x n ∧ pwHi (pnA x x n) (pnB x x n) n = powR 1 x n ∧ mg (pnA x x n) ≠ 0 := by
 have hp : ¬ 0 < n := by omega
 by_cases he : n.tmod 2 = 0
 · have e1 : pnA x x n = pl (szLo x x) := if_pos he
   have e2 : pnB x x n = pl (szHi x x) := if_pos he
   obtain ⟨s1, s2⟩ := sz_mg h
   have m1 : mg (pl (szLo x x)) = mg x := by
     rcases s1 with g | g | ⟨g1, g2, _⟩
     · exact g
     · exact g
     · omega
   have m2 : mg (pl (szHi x x)) = mg x := by rcases s2 with g | g <;> exact g
   obtain ⟨k1, k2, k3, k4, k5, k6⟩ := sz_ends h.la h.lb h.na h.nb h.ia h.ib
   have a1 := pl_facts k1 k2
   have a2 := pl_facts k4 k5
   have hk := (@sz_key x x).2
   rw [e1, e2]
   unfold pwLo pwHi
   have hZ : ¬ (mg (pl (szLo x x)) = 0 ∧ mg (pl (szHi x x)) = 0) := fun t => zx (by omega)
   have hK : ¬ (key (pl (szLo x x)) < 0 ∧ 0 < key (pl (szHi x x))) := by rw [a1.2.2.1]; omega
   have hB : ¬ mg (pl (szHi x x)) = 0 := by omega
   have hA : ¬ mg (pl (szLo x x)) = 0 := by omega
   rw [if_neg hp, if_neg hZ, if_neg hK, if_neg hB, if_neg hp, if_neg hZ, if_neg hK, if_neg hA]
   exact ⟨(mg_pwn h.na a2.2.1 fx zx m2.symm hn hb he).symm, (mg_pwn h.na a1.2.1 fx zx m1.symm hn hb he).symm, by omega⟩
 · have e1 : pnA x x n = x := if_neg he
   have e2 : pnB x x n = x := if_neg he
   rw [e1, e2]
   unfold pwLo pwHi
   have hZ : ¬ (mg x = 0 ∧ mg x = 0) := fun t => zx t.1
   have hK : ¬ (key x < 0 ∧ 0 < key x) := by omega
   rw [if_neg hp, if_neg hZ, if_neg hK, if_neg zx, if_neg hp, if_neg hZ, if_neg hK, if_neg zx]
   exact ⟨rfl, rfl, zx⟩
theorem hd_pw (h : PnE p q) (hx : HdN p q x) (hr : -1024 ≤ n ∧ n ≤ 1024) (hn : n ≠ 0) (hz : mg x ≠ 0 ∨ 0 < n) : PnE (pwnLo p q n) (pwnHi p q n) ∧ key (pwnLo p q n) ≤ key (powR (-1) x n) ∧ key (powR 1 x n) ≤ key (pwnHi p q n) := by
 have hr' : ¬ (n < -1024 ∨ 1024 < n) := by omega
 obtain ⟨m1, m2⟩ := pn_mono hx.toPnE h hx.k1 hx.k2 n
 have e := pwn_p h n
 have key' : ¬ (n < 0 ∧ mg (pnA x x n) = 0 ∧ mg (pnB x x n) = 0) ∧ pwLo (pnA x x n) (pnB x x n) n = powR (-1) x n ∧ pwHi (pnA x x n) (pnB x x n) n = powR 1 x n := by
   rcases Int.lt_or_le 0 n with hp | hp
   · refine ⟨by omega, ?_⟩
     have g := pwn_pt hx.toPnE hx.fx hp hr.2
     obtain ⟨g1, g2⟩ := pwn_p hx.toPnE n
     rw [if_neg hr', if_neg hn] at g1 g2
     rw [g1, g2] at g
     exact g
   · obtain ⟨g1, g2, g3⟩ := pwn_ptn hx.toPnE hx.fx (hz.resolve_right (by omega)) (by omega) hr.1
     exact ⟨fun t => g3 t.2.1, g1, g2⟩
 obtain ⟨z0, f1, f2⟩ := key'
 have z1 : ¬ (n < 0 ∧ mg (pnA p q n) = 0 ∧ mg (pnB p q n) = 0) := fun t => z0 ⟨t.1, by
   have a1 := (@key0 (pnA p q n)).2 t.2.1
   have a2 := (@key0 (pnB p q n)).2 t.2.2
   have a3 := (rs_of hx.toPnE n).ki
   exact ⟨key0.1 (by omega), key0.1 (by omega)⟩⟩
 have hk := pw_keys (rs_of hx.toPnE n) (rs_of h n) hr' hn m1 m2 z0
 have hpn := pw_pne (rs_of h n) hr' hn z1
 rw [f1, f2] at hk
 rw [e.1, e.2, if_neg hr', if_neg hr', if_neg hn, if_neg hn]
 exact ⟨hpn, hk⟩
theorem hd_pos (h : PnE p q) (hx : HdN p q x) {m : Nat} (hm0 : 0 < m) (hm : m ≤ 1024) : PnE (pwnLo p q m) (pwnHi p q m) ∧ HdX (tiS x m) (tiN x m) (tiD x m) (pwnLo p q m) (pwnHi p q m) := by
 obtain ⟨a, b, c⟩ := hd_pw (n := (m : Int)) h hx (by omega) (by omega) (.inr (by omega))
 exact ⟨a, hdx_tg (ti_tg hx.na hx.fx rfl hm0 hm) (tiD_pos x m) a b c⟩
theorem hd_zero (h : PnE p q) : PnE (pwnLo p q (0 : Nat)) (pwnHi p q (0 : Nat)) ∧ HdX (tiS x 0) (tiN x 0) (tiD x 0) (pwnLo p q (0 : Nat)) (pwnHi p q (0 : Nat)) := by
 obtain ⟨e1, e2⟩ := pwn_p h ((0 : Nat) : Int)
 rw [if_neg (by omega), if_pos (show ((0 : Nat) : Int) = 0 from rfl)] at e1 e2
 rw [e1, e2]
 have f1 : tiN x 0 = 1 := by unfold tiN; rw [Nat.pow_zero, Nat.pow_zero]; decide +kernel
 have f2 : tiD x 0 = 1 := by unfold tiD; rw [Nat.pow_zero, Nat.pow_zero]; decide +kernel
 have f3 : tiS x 0 = false := by unfold tiS pwS; simp
 rw [f1, f2, f3]
 refine ⟨one_pne, hdx_num (a := 4607182418800017408) (by decide +kernel) (by omega) (Int.le_refl _) (Int.le_refl _)⟩
def nvS (x m : Nat) : Bool := (false != tiS x m) && decide (1 * tiD x m ≠ 0)
def nvN (x m : Nat) : Nat := fracN (1 * tiD x m) (1 * tiN x m) 0
def nvD (x m : Nat) : Nat := fracD (1 * tiD x m) (1 * tiN x m) 0
theorem tiN_pos (hz : mg x ≠ 0) (m : Nat) : 0 < tiN x m := by
 rcases Nat.eq_zero_or_pos (tiN x m) with g | g
 · have := fracN_eq_zero.1 g
   have h2 := Nat.pow_pos (n := m) (fbN_pos_ hz)
   omega
 · exact g
theorem hd_neg (h : PnE p q) (hx : HdN p q x) (hz : mg x ≠ 0) {m : Nat} (hm0 : 0 < m) (hm : m ≤ 1024) : PnE (pwnLo p q (-(m : Int))) (pwnHi p q (-(m : Int))) ∧ 0 < nvD x m ∧ HdX (nvS x m) (nvN x m) (nvD x m) (pwnLo p q (-(m : Int))) (pwnHi p q (-(m : Int))) := by
 obtain ⟨a, b, c⟩ := hd_pw (n := -(m : Int)) h hx (by omega) (by omega) (.inl hz)
 have hN := tiN_pos hz m
 have hD : 0 < nvD x m := fracD_pos 0 (by omega)
 have hT := tiD_pos x m
 have hs : nvS x m = pwS (sg x) m := by
   unfold nvS tiS
   rw [decide_eq_true (show 1 * tiD x m ≠ 0 by omega), decide_eq_true (show fbN x ^ m ≠ 0 from Nat.ne_of_gt (Nat.pow_pos (fbN_pos_ hz))), decide_eq_true hz, Bool.and_true, Bool.and_true, Bool.and_true]
   cases pwS (sg x) m <;> rfl
 have hr : ∀ d, rnd d (nvS x m) (zr (nvN x m) (nvD x m)) = powR d x (-(m : Int)) := fun d => by
   rw [powR_neg hx.na (by omega) hx.fx hz (by omega), hs, show (-(-(m : Int))).toNat = m by omega]
   rfl
 have := tg_of (s := nvS x m) (N := nvN x m) hD (fun e => by
   have h0 := fracN_eq_zero.1 e
   omega)
 rw [hr, hr, hr] at this
 exact ⟨a, hD, hdx_tg this hD a b c⟩
end
end Go.Proofs.YtbcaggdgoidlaaaGreatDoor

namespace Go.Proofs.YtbcaggdgoidlaaaGreatDoor
open Nm Rn
set_option linter.unusedVariables false
set_option linter.unusedSimpArgs false
section
variable {p q r t x y : Nat}
def lsP (x y : Nat) : Nat := if key y < key x then y else x
def grP (x y : Nat) : Nat := if key y < key x then x else y
theorem hd_min (h : PnE p q) (g : PnE r t) (hx : HdN p q x) (hy : HdN r t y) : PnE (minLo p q r t) (minHi p q r t) ∧ HdX (sgb (lsP x y)) (fbN (lsP x y)) (fbD (lsP x y)) (minLo p q r t) (minHi p q r t) := by
 obtain ⟨e1, e2, e3, e4⟩ := rd_pne g
 obtain ⟨f1, f2⟩ := min_p (z1 := r) (z2 := t) h e3 (by rw [e1, e2]; exact g)
 rw [f1, f2, e1, e2]
 have a1 := (kmin_cases p r).2
 have a2 := (kmin_cases q t).1
 have k1 := hx.k1
 have k2 := hx.k2
 have k3 := hy.k1
 have k4 := hy.k2
 have hl : key (lsP x y) ≤ key x ∧ key (lsP x y) ≤ key y ∧ (lsP x y = x ∨ lsP x y = y) := by
   unfold lsP
   split
   · exact ⟨by omega, Int.le_refl _, .inr rfl⟩
   · exact ⟨Int.le_refl _, by omega, .inl rfl⟩
 refine ⟨kmin_pne h g, hdx_num (num_val _) (fbD_pos _) ?_ ?_⟩
 · rcases hl.2.2 with e | e <;> rw [e] <;> omega
 · rcases a2 with e | e <;> rw [e] <;> omega
theorem hd_max (h : PnE p q) (g : PnE r t) (hx : HdN p q x) (hy : HdN r t y) : PnE (maxLo p q r t) (maxHi p q r t) ∧ HdX (sgb (grP x y)) (fbN (grP x y)) (fbD (grP x y)) (maxLo p q r t) (maxHi p q r t) := by
 obtain ⟨e1, e2, e3, e4⟩ := rd_pne h
 obtain ⟨f1, f2⟩ := max_p (z1 := p) (z2 := q) g e3 (by rw [e1, e2]; exact h)
 rw [f1, f2, e1, e2]
 have a1 := (kmax_cases q t).2
 have a2 := (kmax_cases p r).1
 have k1 := hx.k1
 have k2 := hx.k2
 have k3 := hy.k1
 have k4 := hy.k2
 have hl : key x ≤ key (grP x y) ∧ key y ≤ key (grP x y) ∧ (grP x y = x ∨ grP x y = y) := by
   unfold grP
   split
   · exact ⟨Int.le_refl _, by omega, .inl rfl⟩
   · exact ⟨by omega, Int.le_refl _, .inr rfl⟩
 refine ⟨kmax_pne h g, hdx_num (num_val _) (fbD_pos _) ?_ ?_⟩
 · rcases a2 with e | e <;> rw [e] <;> omega
 · rcases hl.2.2 with e | e <;> rw [e] <;> omega
theorem fb_mg (x : Nat) : fbN (mg x) = fbN x ∧ fbD (mg x) = fbD x ∧ sgb (mg x) = false := by
 have e : fbSig (mg x) = fbSig x ∧ fbExp (mg x) = fbExp x := by
   unfold fbSig fbExp mg
   have e1 : x % 9223372036854775808 / 4503599627370496 % 2048 = x / 4503599627370496 % 2048 := by omega
   have e2 : x % 9223372036854775808 % 4503599627370496 = x % 4503599627370496 := by omega
   rw [e1, e2]
   exact ⟨rfl, rfl⟩
 refine ⟨by unfold fbN; rw [e.1, e.2], by unfold fbD; rw [e.1, e.2], ?_⟩
 unfold sgb sg
 rw [decide_eq_false (show ¬ 9223372036854775808 ≤ mg x by unfold mg; omega)]
 rfl
theorem hd_abs (h : PnE p q) (hx : HdN p q x) : PnE (abLo p q) (abHi p q) ∧ HdX false (fbN x) (fbD x) (abLo p q) (abHi p q) := by
 obtain ⟨e1, e2⟩ := ab_p h
 rw [e1, e2]
 obtain ⟨k1, k2, k3, k4, k5, k6⟩ := sz_ends h.la h.lb h.na h.nb h.ia h.ib
 have a1 := (pl_facts k1 k2).2.2.1
 have a2 := (pl_facts k4 k5).2.2.1
 obtain ⟨j1, j2, j3, j4, j5, j6⟩ := sz_ends hx.la hx.lb hx.na hx.nb hx.ia hx.ib
 have b1 := (pl_facts j1 j2).2.2.1
 have b2 := (pl_facts j4 j5).2.2.1
 have hm := sz_mono hx.ki hx.k1 hx.k2
 have hk := @sz_key x x
 obtain ⟨s1, s2⟩ := sz_mg hx.toPnE
 have m1 : mg (pl (szLo x x)) = mg x := by
   rcases s1 with g | g | ⟨g1, g2, _⟩
   · exact g
   · exact g
   · omega
 have m2 : mg (pl (szHi x x)) = mg x := by rcases s2 with g | g <;> exact g
 have n1 := key_nn (x := pl (szLo x x)) (by rw [b1]; omega)
 have n2 := key_nn (x := pl (szHi x x)) (by rw [b2]; omega)
 have kz : key (mg x) = (mg x : Int) := by
   unfold key sg
   rw [decide_eq_false (show ¬ 9223372036854775808 ≤ mg x by unfold mg; omega)]
   show ((mg (mg x) : Nat) : Int) = _
   unfold mg
   rw [Nat.mod_mod]
 obtain ⟨f1, f2, f3⟩ := fb_mg x
 have hv := num_val (mg x)
 rw [f1, f2, f3] at hv
 exact ⟨pnE_sz h, hdx_num hv (fbD_pos _) (by omega) (by omega)⟩
theorem sv_key (b : Nat) : sv b = if key b < 0 then -(rv (key b).natAbs : Int) else (rv (key b).natAbs : Int) := by
 unfold sv key
 cases hs : sg b
 · simp only [Bool.false_eq_true, if_false]
   rw [if_neg (by omega), Int.natAbs_natCast]
 · simp only [if_true]
   rw [Int.natAbs_neg, Int.natAbs_natCast]
   by_cases h0 : mg b = 0
   · rw [h0, if_neg (by omega), rv_zero]; rfl
   · rw [if_pos (by omega)]
theorem sgb_sg (hx : PnE x x) : sgb x = sg x := by
 unfold sgb
 by_cases h0 : mg x = 0
 · have : sg x = false := by
     unfold sg
     have := hx.ma
     have hl := hx.la
     unfold mg at h0
     exact decide_eq_false (by omega)
   rw [this]; rfl
 · rw [decide_eq_true h0, Bool.and_true]
theorem hd_step {k : Nat} (hk : k < 6) (h : PnE p q) (hx : HdN p q x) : PnE (piLo k p q) (piHi k p q) ∧ HdX (sgb x && decide (stZ k (sgb x) (fbN x) (fbD x) ≠ 0)) (stZ k (sgb x) (fbN x) (fbD x)) 1 (piLo k p q) (piHi k p q) := by
 obtain ⟨a1, a2, a3⟩ := pi_p k h
 have k1 := stF_mono k h.la hx.la h.na hx.na hx.k1
 have k2 := stF_mono k hx.la h.lb hx.na h.nb hx.k2
 refine ⟨a1, hdx_num (a := stF k x) ?_ (by omega) (by omega) (by omega)⟩
 have hs := sgb_sg hx.toPnE
 have hkey := (stF_facts k hx.la hx.na).2.2.1
 have hN0 := fbN_zero x
 rw [sv_key, hkey, hs]
 by_cases h0 : k = 0
 · rw [if_pos h0]
   unfold stZ
   rw [if_pos h0]
   by_cases z : mg x = 0
   · rw [if_pos z, if_pos (hN0.2 z)]
     simp [sn, rv_zero]
   · rw [if_neg z, if_neg (fun e => z (hN0.1 e))]
     cases sg x
     · simp only [Bool.false_eq_true, if_false, Bool.false_and]
       rw [if_neg (by omega), show (4607182418800017408 : Int).natAbs = 4607182418800017408 from rfl, one_rv]
       simp [sn]
     · simp only [if_true, Bool.true_and]
       rw [if_pos (by omega), show (-4607182418800017408 : Int).natAbs = 4607182418800017408 from rfl, one_rv]
       simp [sn]
 · rw [if_neg h0]
   have hst : stZ k (sg x) (fbN x) (fbD x) = stQ k (sg x) (rv (mg x)) K74 := by
     unfold stZ
     rw [if_neg h0]
     refine stQ_ratio k (sg x) (fbD_pos x) K74_pos ?_
     have := fb_mg x
     have hv := num_val (mg x)
     rw [this.1, this.2.1, this.2.2] at hv
     have hsv : sv (mg x) = (rv (mg x) : Int) := by
       unfold sv sg
       rw [decide_eq_false (show ¬ 9223372036854775808 ≤ mg x by unfold mg; omega)]
       show ((rv (mg (mg x)) : Nat) : Int) = _
       unfold mg
       rw [Nat.mod_mod]
     rw [hsv] at hv
     simp only [sn, Bool.false_eq_true, if_false] at hv
     exact_mod_cast hv
   obtain ⟨g1, g2⟩ := stR_spec hx.fx k (sg x)
   have hM : stM' k (sg x) (mg x) = stR k (sg x) (mg x) := by unfold stM'; rw [if_pos hx.fx]
   rw [hst, hM]
   have hrz : stR k (sg x) (mg x) = 0 ↔ stQ k (sg x) (rv (mg x)) K74 = 0 := by
     rw [← rv_eq_zero, g2]
     have := K74_pos
     constructor
     · intro e
       rcases Nat.mul_eq_zero.1 e with e | e
       · exact e
       · omega
     · intro e; rw [e, Nat.zero_mul]
   generalize stR k (sg x) (mg x) = R at *
   generalize stQ k (sg x) (rv (mg x)) K74 = Z at *
   have hg : (rv R : Int) = (Z : Int) * (K74 : Int) := by rw [g2]; exact Int.natCast_mul _ _
   cases sg x
   · simp only [Bool.false_eq_true, if_false, Bool.false_and]
     rw [if_neg (by omega), Int.natAbs_natCast, hg]
     simp [sn]
   · simp only [if_true, Bool.true_and]
     by_cases z : Z = 0
     · rw [hrz.2 z, z]
       simp [sn, rv_zero]
     · have : R ≠ 0 := fun e => z (hrz.1 e)
       rw [if_pos (by omega), Int.natAbs_neg, Int.natAbs_natCast, hg, decide_eq_true z]
       simp [sn, Int.neg_mul]
end
end Go.Proofs.YtbcaggdgoidlaaaGreatDoor

namespace Go.Proofs.YtbcaggdgoidlaaaGreatDoor
open Go.RowKit Nm Rn
theorem pow_num (d : Int) (x : Nat) (n : Int) (w : World) (hx : x < 18446744073709551616) (hT : Tab w) (h : isNaN (powR d x n) = false) :
   Calls Tryz.prog 39 #[.int .i64 d, .float .f64 x, .int .i64 n] w fun e w' => e = .returned (.float .f64 (powR d x n)) ∧ Ext w w' := by
 refine (rpow_prog d x n w hx hT).mono ?_
 rintro e w2 ⟨r, rfl, hr, hc, hE⟩
 rw [cn_eq hc h]
 exact ⟨rfl, hE⟩
end Go.Proofs.YtbcaggdgoidlaaaGreatDoor

namespace Go.Proofs.YtbcaggdgoidlaaaGreatDoor
open Go.RowKit Nm Rn
set_option maxRecDepth 100000
set_option linter.unusedVariables false
set_option linter.unusedSimpArgs false
theorem zero_iv (w : World) : (zeroValue 32).run Tryz.prog w = .ok (.agg #[.float .f64 0, .float .f64 0]) w := by kernel_rfl
theorem agg_iv (w : World) : (isAgg 32).run Tryz.prog w = .ok true w := by kernel_rfl
theorem size_iv (w : World) : (sizeOf 32).run Tryz.prog w = .ok 2 w := by kernel_rfl
set_option maxHeartbeats 1000000 in
theorem iemp_any (lo hi : Nat) (w : World) (hl : lo < 18446744073709551616) (hh : hi < 18446744073709551616) :
   Calls Tryz.prog 71 #[.agg #[.float .f64 lo, .float .f64 hi]] w fun e w' => e = .returned (.bool (ltB hi lo)) ∧ Ext w w' := by
 have hq := fo_gt hl hh
 obtain ⟨R, hR⟩ : ∃ R, R = ltB hi lo := ⟨_, rfl⟩
 rw [← hR] at hq ⊢
 clear hR hl hh
 go_enter Tryz.func71, Tryz.ntmps71
 go_wp2
 go_ret
 exact ⟨ret_bool (by first | rfl | exact hq), (Ext.refl w).alloc _⟩
end Go.Proofs.YtbcaggdgoidlaaaGreatDoor

namespace Go.Proofs.YtbcaggdgoidlaaaGreatDoor
open Go.RowKit Nm Rn
set_option maxRecDepth 100000
set_option linter.unusedVariables false
set_option linter.unusedSimpArgs false
@[go_sem] theorem run_equalIn_float (P : Program) (w : World) (d : Nat) (t : TypeId) (k : FloatKind) (a b : Nat) (h : P.underlying t = some (.float k)) : (Op.equalIn (d + 1) t (.float k a) (.float k b)).run P w = .ok (k.format.order a b == some .eq) w := by
 simp [Op.equalIn, run_underlying h, Op.floatEq]
theorem eqF {a b c d : Nat} (ha : a < 18446744073709551616) (hb : b < 18446744073709551616) (hc : c < 18446744073709551616) (hd : d < 18446744073709551616) (w : World) : (binOp .eql 32 (.agg #[.float .f64 a, .float .f64 b]) (.agg #[.float .f64 c, .float .f64 d])).run Tryz.prog w = .ok (.bool (eqB a c && eqB b d)) w := by
 rw [← fo_eq ha hc, ← fo_eq hb hd]
 cases h1 : (FloatKind.f64.format.order a c == some .eq) <;> cases h2 : (FloatKind.f64.format.order b d == some .eq) <;> go_simp <;> simp [h1, h2]
theorem eqF' {a b c d : Nat} (ha : a < 18446744073709551616) (hb : b < 18446744073709551616) (hc : c < 18446744073709551616) (hd : d < 18446744073709551616) {E : Bool} (h : (eqB a c && eqB b d) = E) (w : World) : (binOp .eql 32 (.agg #[.float .f64 a, .float .f64 b]) (.agg #[.float .f64 c, .float .f64 d])).run Tryz.prog w = .ok (.bool E) w := by rw [eqF ha hb hc hd, h]
end Go.Proofs.YtbcaggdgoidlaaaGreatDoor
