/-
 Plain: over a part of an interval each call of chapter 7 answers a part. Conditions: those that each theorem names.
-/
import Derived.Test.YtbcaggdgoidlaaaGreatDoorH24
import Derived.Test.YtbcaggdgoidlaaaGreatDoorH31
import Derived.Test.YtbcaggdgoidlaaaGreatDoorH03
import Derived.Test.YtbcaggdgoidlaaaGreatDoorH02
namespace Go.Proofs.YtbcaggdgoidlaaaGreatDoor
open Nm Rn
set_option linter.unusedVariables false
set_option linter.unusedSimpArgs false
theorem rd_pne {p q : Nat} (h : PnE p q) : rdLo p q = p ∧ rdHi p q = q ∧ ¬ emp p q ∧ sndB p q = true := by
 have r1 := key_le h.na
 have r2 := key_le h.nb
 have i1 := key_eq_inf h.la h.na
 have i2 := key_eq_minf h.lb h.nb
 have ia := h.ia
 have ib := h.ib
 have hs : sndB p q = true := by
   unfold sndB leB ltB
   rw [h.na, h.nb, nan_inf, nan_minf, key_inf, key_minf]
   simp only [Bool.not_false, Bool.true_and, Bool.and_eq_true, decide_eq_true_eq]
   refine ⟨⟨h.ki, ?_⟩, ?_⟩ <;> omega
 have e1 : rdLo p q = p := by unfold rdLo; rw [hs, if_pos rfl]; unfold pl; rw [if_neg h.ma]
 have e2 : rdHi p q = q := by unfold rdHi; rw [hs, if_pos rfl]; unfold pl; rw [if_neg h.mb]
 refine ⟨e1, e2, fun he => ?_, hs⟩
 have := he.1
 rw [e1] at this
 exact ia this
theorem emp_e : emp infR minf := by decide
theorem vld_pne {p q : Nat} (h : PnE p q) : vldB p q = true := by
 have := (rd_pne h).2.2.2
 unfold vldB
 rw [this, decide_eq_true h.ma, decide_eq_true h.mb]
 simp
inductive InR : Nat → Nat → Nat → Nat → Prop
 | ee : InR infR minf infR minf
 | ep {B1 B2 : Nat} (h : PnE B1 B2) : InR infR minf B1 B2
 | pp {s1 s2 B1 B2 : Nat} (hs : PnE s1 s2) (hb : PnE B1 B2) (k1 : key B1 ≤ key s1) (k2 : key s2 ≤ key B2) : InR s1 s2 B1 B2
theorem powR_nz {d : Int} {x : Nat} {n : Int} : powR d x n ≠ 9223372036854775808 := by
 unfold powR
 have hr : ∀ s Z, rnd d s Z ≠ 9223372036854775808 := fun s Z => pat_nz (rr_le d s Z)
 split
 · decide
 · split
   · decide
   · split
     · split
       · decide
       · split <;> decide
     · split
       · decide
       · split
         · exact hr _ _
         · exact hr _ _
theorem rnd_ninf {s : Bool} {Z : Nat} : rnd (-1) s Z ≠ infR ∧ rnd 1 s Z ≠ minf := by
 have e := infR_val
 have e2 := minf_val
 constructor
 · have hl := rr_le (-1) s Z
   unfold rnd pat
   cases s
   · have : rr (-1) false Z ≤ infR - 1 := by unfold rr; rw [if_pos (.inr ⟨rfl, rfl⟩)]; exact Nat.min_le_right _ _
     split
     · omega
     · rw [if_neg (by simp)]; omega
   · split
     · omega
     · rw [if_pos rfl]; omega
 · have hl := rr_le 1 s Z
   unfold rnd pat
   cases s
   · split
     · omega
     · rw [if_neg (by simp)]; omega
   · have : rr 1 true Z ≤ infR - 1 := by unfold rr; rw [if_pos (.inl ⟨rfl, rfl⟩)]; exact Nat.min_le_right _ _
     split
     · omega
     · rw [if_pos rfl]; omega
theorem inf_pat {x : Nat} (hx : x < 18446744073709551616) (h : mg x = infR) : x = if sg x then minf else infR := by
 have := split_pat hx
 have e := infR_val
 have e2 := minf_val
 cases hs : sg x
 · rw [hs] at this; simp at this; rw [if_neg (by simp)]; omega
 · rw [hs] at this; simp at this; rw [if_pos rfl]; omega
theorem tmod_emod {n : Int} : n.tmod 2 = 0 ↔ n % 2 = 0 := by
 constructor
 · intro h; exact Int.emod_eq_zero_of_dvd (Int.dvd_of_tmod_eq_zero h)
 · intro h; exact Int.tmod_eq_zero_of_dvd (Int.dvd_of_emod_eq_zero h)
structure Rs (a b : Nat) (n : Int) : Prop extends PnE a b where
 ev : n.tmod 2 = 0 → 0 ≤ key a
theorem pow_lo_ne {x : Nat} {n : Int} (hx : x < 18446744073709551616) (nx : isNaN x = false) (hr : ¬ (n < -1024 ∨ 1024 < n)) (hn : n ≠ 0) (hz : mg x ≠ 0 ∨ 0 < n) (hi : 0 < n → x ≠ infR) (hev : n.tmod 2 = 0 → 0 ≤ key x) : powR (-1) x n ≠ infR := by
 by_cases fx : mg x = infR
 · rw [powR_inf nx hr fx hn]
   split
   · decide
   · have hp : 0 < n := by omega
     have hpat := inf_pat hx fx
     cases hs : sg x
     · rw [hs] at hpat; exact absurd (by simpa using hpat) (hi hp)
     · have ho : n.tmod 2 ≠ 0 := fun h => by
         have := hev h
         unfold key at this
         rw [hs, fx] at this
         have e := infR_val
         simp at this
         omega
       rw [Bool.true_and, if_pos (by rw [decide_eq_true_iff]; exact fun h => ho (tmod_emod.2 h))]
       decide
 · have hf : mg x < infR := by have := mg_le_inf nx; omega
   by_cases hp : 0 < n
   · rw [powR_pos nx hr hf hp]; exact rnd_ninf.1
   · rw [powR_neg nx hr hf (by omega) (by omega)]; exact rnd_ninf.1
theorem pow_hi_ne {x : Nat} {n : Int} (hx : x < 18446744073709551616) (nx : isNaN x = false) (hr : ¬ (n < -1024 ∨ 1024 < n)) (hn : n ≠ 0) (hz : mg x ≠ 0 ∨ 0 < n) (hi : 0 < n → x ≠ minf) : powR 1 x n ≠ minf := by
 by_cases fx : mg x = infR
 · rw [powR_inf nx hr fx hn]
   split
   · decide
   · have hp : 0 < n := by omega
     have hpat := inf_pat hx fx
     cases hs : sg x
     · rw [Bool.false_and, if_neg (by simp)]; decide
     · rw [hs] at hpat; exact absurd (by simpa using hpat) (hi hp)
 · have hf : mg x < infR := by have := mg_le_inf nx; omega
   by_cases hp : 0 < n
   · rw [powR_pos nx hr hf hp]; exact rnd_ninf.2
   · rw [powR_neg nx hr hf (by omega) (by omega)]; exact rnd_ninf.2
theorem key0 {x : Nat} : key x = 0 ↔ mg x = 0 := by unfold key; split <;> omega
theorem one_pne : PnE 4607182418800017408 4607182418800017408 := ⟨by decide, by decide, by decide, by decide, by decide, by decide, by decide, by decide, by decide⟩
theorem all_pne : PnE minf infR := ⟨by decide, by decide, by decide, by decide, by decide, by decide, by decide, by decide, by decide⟩
theorem d1 : Dir 1 := .inl rfl
theorem d2 : Dir (-1) := .inr rfl
theorem pw_mono_r {d : Int} (hd : Dir d) {a b c e : Nat} {n : Int} (h1 : Rs a b n) (hr : ¬ (n < -1024 ∨ 1024 < n)) (hn : 0 < n) {x y : Nat} (hx : isNaN x = false) (hy : isNaN y = false) (hx0 : n.tmod 2 = 0 → 0 ≤ key x) (h : key x ≤ key y) : key (powR d x n) ≤ key (powR d y n) := by
 by_cases ho : n.tmod 2 = 0
 · exact (pw_mono_nn hd hx hy hr hn (hx0 ho) h).2
 · exact pw_mono_odd hd hx hy hr hn ho h
theorem pw_anti {d : Int} (hd : Dir d) {x y : Nat} {n : Int} (hx : isNaN x = false) (hy : isNaN y = false) (hr : ¬ (n < -1024 ∨ 1024 < n)) (hn : n < 0) (hs : 0 < key x ∨ (key y < 0 ∧ n.tmod 2 ≠ 0)) (h : key x ≤ key y) : key (powR d y n) ≤ key (powR d x n) := by
 rcases hs with h0 | ⟨h0, ho⟩
 · exact (pw_anti_p hd hx hy hr hn h0 h).1
 · exact (pw_anti_n hd hx hy hr hn ho h0 h).1
theorem pw_pne {a b : Nat} {n : Int} (h : Rs a b n) (hr : ¬ (n < -1024 ∨ 1024 < n)) (hn : n ≠ 0) (hz : ¬ (n < 0 ∧ mg a = 0 ∧ mg b = 0)) : PnE (pwLo a b n) (pwHi a b n) := by
 have la := h.la
 have lb := h.lb
 have na := h.na
 have nb := h.nb
 have ka := @key0 a
 have kb := @key0 b
 have kab := h.ki
 have ok : ∀ d x, isNaN x = false → isNaN (powR d x n) = false ∧ powR d x n < 18446744073709551616 := fun d x hx => powR_ok hx hr
 unfold pwLo pwHi
 by_cases hp : 0 < n
 · rw [if_pos hp, if_pos hp]
   refine ⟨(ok _ _ na).2, (ok _ _ nb).2, (ok _ _ na).1, (ok _ _ nb).1, ?_, powR_nz, powR_nz, ?_, ?_⟩
   · have h1 := pw_mono_r d2 (c := 0) (e := 0) h hr hp na nb h.ev kab
     have h2 := pw_dirs nb hr hn (.inr hp)
     omega
   · exact pow_lo_ne la na hr hn (.inr hp) (fun _ => h.ia) h.ev
   · exact pow_hi_ne lb nb hr hn (.inr hp) (fun _ => h.ib)
 · rw [if_neg hp, if_neg hp]
   have hneg : n < 0 := by omega
   rw [if_neg (fun g => hz ⟨hneg, g⟩), if_neg (fun g => hz ⟨hneg, g⟩)]
   by_cases hc : key a < 0 ∧ 0 < key b
   · rw [if_pos hc, if_pos hc]; exact all_pne
   · rw [if_neg hc, if_neg hc]
     have hev := h.ev
     have sgn : mg b ≠ 0 → mg a ≠ 0 → 0 < key a ∨ (key b < 0 ∧ n.tmod 2 ≠ 0) := fun hb0 ha0 => by
       by_cases h1 : 0 < key a
       · exact .inl h1
       · have h2 : key a < 0 := by omega
         exact .inr ⟨by omega, fun he => by have := hev he; omega⟩
     by_cases zb : mg b = 0
     · rw [if_pos zb]
       have za : mg a ≠ 0 := fun g => hz ⟨hneg, g, zb⟩
       rw [if_neg za]
       refine ⟨minf_lt, (ok _ _ na).2, nan_minf, (ok _ _ na).1, ?_, by decide, powR_nz, by decide, pow_hi_ne la na hr hn (.inl za) (fun g => by omega)⟩
       rw [key_minf]
       exact (key_le (ok 1 a na).1).2
     · rw [if_neg zb]
       by_cases za : mg a = 0
       · rw [if_pos za]
         refine ⟨(ok _ _ nb).2, infR_lt, (ok _ _ nb).1, nan_inf, ?_, powR_nz, by decide, pow_lo_ne lb nb hr hn (.inl zb) (fun g => by omega) (fun he => by have := hev he; omega), by decide⟩
         rw [key_inf]
         exact (key_le (ok (-1) b nb).1).1
       · rw [if_neg za]
         refine ⟨(ok _ _ nb).2, (ok _ _ na).2, (ok _ _ nb).1, (ok _ _ na).1, ?_, powR_nz, powR_nz, pow_lo_ne lb nb hr hn (.inl zb) (fun g => by omega) (fun he => by have := hev he; omega), pow_hi_ne la na hr hn (.inl za) (fun g => by omega)⟩
         have h1 := pw_anti d2 na nb hr hneg (sgn zb za) kab
         have h2 := pw_dirs na hr hn (.inl za)
         omega
theorem sz_mono {p q P Q : Nat} (hp : key p ≤ key q) (k1 : key P ≤ key p) (k2 : key q ≤ key Q) : key (szLo P Q) ≤ key (szLo p q) ∧ key (szHi p q) ≤ key (szHi P Q) := by
 have a1 := @mx_key p
 have a2 := @mx_key q
 have a3 := @mx_key P
 have a4 := @mx_key Q
 have k0 : key 0 = 0 := rfl
 have s1 := @sz_key p q
 constructor
 · unfold szLo
   by_cases h1 : key P ≤ 0 ∧ 0 ≤ key Q
   · rw [if_pos h1, k0]; have := s1.2; unfold szLo at this; exact this
   · rw [if_neg h1, if_neg (c := key p ≤ 0 ∧ 0 ≤ key q) (by omega)]
     revert a1 a2 a3 a4
     split <;> split <;> split <;> split <;> split <;> split <;> (intro a1 a2 a3 a4; omega)
 · unfold szHi
   revert a1 a2 a3 a4
   split <;> split <;> split <;> split <;> split <;> split <;> (intro a1 a2 a3 a4; omega)
theorem rs_of {p q : Nat} (h : PnE p q) (n : Int) : Rs (pnA p q n) (pnB p q n) n := by
 refine ⟨pnE_n h n, fun he => ?_⟩
 unfold pnA
 rw [if_pos he]
 obtain ⟨k1, k2, k3, k4, k5, k6⟩ := sz_ends h.la h.lb h.na h.nb h.ia h.ib
 rw [(pl_facts k1 k2).2.2.1]
 exact (@sz_key p q).2
theorem pn_mono {p q P Q : Nat} (h : PnE p q) (g : PnE P Q) (k1 : key P ≤ key p) (k2 : key q ≤ key Q) (n : Int) : key (pnA P Q n) ≤ key (pnA p q n) ∧ key (pnB p q n) ≤ key (pnB P Q n) := by
 unfold pnA pnB
 by_cases he : n.tmod 2 = 0
 · rw [if_pos he, if_pos he, if_pos he, if_pos he]
   obtain ⟨a1, a2, a3, a4, a5, a6⟩ := sz_ends h.la h.lb h.na h.nb h.ia h.ib
   obtain ⟨b1, b2, b3, b4, b5, b6⟩ := sz_ends g.la g.lb g.na g.nb g.ia g.ib
   rw [(pl_facts a1 a2).2.2.1, (pl_facts a4 a5).2.2.1, (pl_facts b1 b2).2.2.1, (pl_facts b4 b5).2.2.1]
   exact sz_mono h.ki k1 k2
 · rw [if_neg he, if_neg he, if_neg he, if_neg he]
   exact ⟨k1, k2⟩
theorem pwn_p {p q : Nat} (h : PnE p q) (n : Int) : (pwnLo p q n = if n < -1024 ∨ 1024 < n then minf else if n = 0 then 4607182418800017408 else pwLo (pnA p q n) (pnB p q n) n) ∧ (pwnHi p q n = if n < -1024 ∨ 1024 < n then infR else if n = 0 then 4607182418800017408 else pwHi (pnA p q n) (pnB p q n) n) := by
 obtain ⟨e1, e2, e3, _⟩ := rd_pne h
 unfold pwnLo pwnHi
 rw [if_neg e3, if_neg e3, e1, e2]
 exact ⟨rfl, rfl⟩
end Go.Proofs.YtbcaggdgoidlaaaGreatDoor

namespace Go.Proofs.YtbcaggdgoidlaaaGreatDoor
open Go.RowKit Nm Rn
set_option maxRecDepth 100000
set_option linter.unusedVariables false
set_option linter.unusedSimpArgs false
set_option maxHeartbeats 4000000 in
theorem inside_raw (lo hi p p1 p2 p3 : Nat) (b0 b1 b2 : Bool) (w : World) (HF : Hid (∀ w, Calls Tryz.prog 35 #[.int .u64 (p : Int)] w fun e w' => e = .returned (.bool b0) ∧ w = w')) (h1 : p1 = if b0 then p else 0)
   (HA1 : Hid (∀ w, Calls Tryz.prog 36 #[.int .u64 (lo : Int), .int .u64 (p1 : Int)] w fun e w' => e = .returned (.bool b1) ∧ w = w')) (h2 : p2 = if b1 then lo else p1)
   (HA2 : Hid (∀ w, Calls Tryz.prog 36 #[.int .u64 (p2 : Int), .int .u64 (hi : Int)] w fun e w' => e = .returned (.bool b2) ∧ w = w')) (h3 : p3 = if b2 then hi else p2) :
   Calls Tryz.prog 13 #[.agg #[.int .u64 (lo : Int), .int .u64 (hi : Int)], .int .u64 (p : Int)] w fun e w' => e = .returned (.int .u64 (p3 : Int)) ∧ Ext w w' := by
 have hO := Own.start w
 have hf : True := trivial
 cases b0 <;> cases b1 <;> cases b2 <;> simp only [if_true, Bool.false_eq_true, if_false] at h1 h2 h3 <;> subst h3 <;> subst h2 <;> subst h1
 all_goals
   try rw [show ((0 : Nat) : Int) = 0 from rfl] at HA1
   try rw [show ((0 : Nat) : Int) = 0 from rfl] at HA2
   try rw [show ((0 : Nat) : Int) = 0 from rfl]
   go_enter Tryz.func13, Tryz.ntmps13
   go_wp2_with (first | ((with_reducible refine at_box ?_); refine own_box (cs := [.int .u64 (lo : Int), .int .u64 (hi : Int)]) hO rfl rfl ?_; clear hO; intro ga wa hO; clear hf; have hf := hO.cells; simp only [BC, CC, Nat.zero_add, Nat.reduceAdd, and_true] at hf) | (go_at_call 35; (with_reducible refine (HF.out _).mono ?_); rintro e w5 ⟨rfl, rfl⟩) | (go_at_call 36; (with_reducible refine (HA1.out _).mono ?_); rintro e w5 ⟨rfl, rfl⟩) | (go_at_call 36; (with_reducible refine (HA2.out _).mono ?_); rintro e w5 ⟨rfl, rfl⟩))
   go_ret
   first
   | exact ⟨rfl, hO.toExt⟩
   | exact ⟨rfl, (Ext.refl _).alloc _⟩
def inP1 (p : Nat) : Nat := if decide (mg p < infR) then p else 0
def inP2 (lo p : Nat) : Nat := if ltB (inP1 p) lo then lo else inP1 p
def inP (lo hi p : Nat) : Nat := if ltB hi (inP2 lo p) then hi else inP2 lo p
theorem inP1_lt {p : Nat} (h : p < 18446744073709551616) : inP1 p < 18446744073709551616 := by unfold inP1; split <;> omega
theorem inP2_lt {lo p : Nat} (hl : lo < 18446744073709551616) (h : p < 18446744073709551616) : inP2 lo p < 18446744073709551616 := by
 unfold inP2
 have := inP1_lt h
 split <;> assumption
theorem inside7_any (lo hi p : Nat) (w : World) (hl : lo < 18446744073709551616) (hh : hi < 18446744073709551616) (hp : p < 18446744073709551616) :
   Calls Tryz.prog 13 #[.agg #[.int .u64 (lo : Int), .int .u64 (hi : Int)], .int .u64 (p : Int)] w fun e w' => e = .returned (.int .u64 (inP lo hi p : Nat)) ∧ Ext w w' :=
 inside_raw lo hi p (inP1 p) (inP2 lo p) (inP lo hi p) _ _ _ w (Lib.hid fun w => finite2_any p w hp) rfl (Lib.hid fun w => above6_any lo _ w hl (inP1_lt hp)) rfl (Lib.hid fun w => above6_any _ hi w (inP2_lt hl hp) hh) rfl
theorem inP_facts {lo hi p : Nat} (h : PnE lo hi) (hp : p < 18446744073709551616) : inP lo hi p < 18446744073709551616 ∧ isNaN (inP lo hi p) = false ∧ mg (inP lo hi p) < infR ∧ key lo ≤ key (inP lo hi p) ∧ key (inP lo hi p) ≤ key hi := by
 have hi0 := infR_val
 have f1 : inP1 p < 18446744073709551616 ∧ mg (inP1 p) < infR := by
   refine ⟨inP1_lt hp, ?_⟩
   unfold inP1
   split
   · rename_i g; exact of_decide_eq_true g
   · decide
 have n1 : isNaN (inP1 p) = false := (by unfold isNaN; exact decide_eq_false (by omega))
 have fin : ∀ {b : Nat}, b < 18446744073709551616 → isNaN b = false → b ≠ infR → b ≠ minf → mg b < infR := fun a b c d => fin_of a b c d
 have kfin : ∀ {b : Nat}, mg b < infR → -(infR : Int) < key b ∧ key b < infR := fun {b} hb => by
   unfold key
   split <;> constructor <;> omega
 have kinf : ∀ {b : Nat}, b = infR → key b = infR := fun e => by rw [e]; decide
 have kmin : ∀ {b : Nat}, b = minf → key b = -(infR : Int) := fun e => by rw [e]; decide
 have hk1 := kfin f1.2
 have hlo : lo ≠ infR := h.ia
 have hhi : hi ≠ minf := h.ib
 have f2 : inP2 lo p < 18446744073709551616 ∧ isNaN (inP2 lo p) = false ∧ mg (inP2 lo p) < infR ∧ key lo ≤ key (inP2 lo p) ∧ (key (inP2 lo p) ≤ key hi ∨ ltB hi (inP2 lo p) = true) := by
   have hh2 : ∀ x, isNaN x = false → key x ≤ key hi ∨ ltB hi x = true := fun x hx => by
     rcases Int.lt_or_le (key hi) (key x) with g | g
     · right; unfold ltB; rw [hx, h.nb, decide_eq_true g]; rfl
     · exact .inl g
   unfold inP2
   by_cases g : ltB (inP1 p) lo = true
   · rw [if_pos g]
     have gk : key (inP1 p) < key lo := by
       unfold ltB at g
       rw [Bool.and_eq_true] at g
       exact of_decide_eq_true g.2
     refine ⟨h.la, h.na, fin h.la h.na hlo (fun e => by have := kmin e; omega), Int.le_refl _, hh2 _ h.na⟩
   · rw [if_neg g]
     refine ⟨f1.1, n1, f1.2, ?_, hh2 _ n1⟩
     rcases Int.lt_or_le (key (inP1 p)) (key lo) with g2 | g2
     · exact absurd (by unfold ltB; rw [n1, h.na, decide_eq_true g2]; rfl) g
     · exact g2
 have hk2 := kfin f2.2.2.1
 unfold inP
 by_cases g : ltB hi (inP2 lo p) = true
 · rw [if_pos g]
   have gk : key hi < key (inP2 lo p) := by
     unfold ltB at g
     rw [Bool.and_eq_true] at g
     exact of_decide_eq_true g.2
   exact ⟨h.lb, h.nb, fin h.lb h.nb (fun e => by have := kinf e; omega) hhi, h.ki, Int.le_refl _⟩
 · rw [if_neg g]
   exact ⟨f2.1, f2.2.1, f2.2.2.1, f2.2.2.2.1, f2.2.2.2.2.resolve_right g⟩
end Go.Proofs.YtbcaggdgoidlaaaGreatDoor

set_option linter.unusedVariables false
set_option linter.unusedSimpArgs false
namespace Go.Proofs.YtbcaggdgoidlaaaGreatDoor.Rn
open Nm
def stMo (k : Nat) (s : Bool) (N D : Nat) : Bool :=
 if k = 1 then s && decide (N % D ≠ 0) else if k = 2 then !s && decide (N % D ≠ 0) else if k = 3 then false
 else decide (D < 2 * (N % D)) || (decide (2 * (N % D) = D) && (decide (k = 5) || decide (N / D % 2 = 1)))
def stQ (k : Nat) (s : Bool) (N D : Nat) : Nat := N / D + (stMo k s N D).toNat
theorem div_ratio {N D T K : Nat} (hD : 0 < D) (hK : 0 < K) (h : N * K = T * D) : N / D = T / K ∧ N % D * K = T % K * D := by
 have h1 := Nat.div_add_mod N D
 have h2 := Nat.mod_lt N hD
 have e : T / K = N / D := by
   rw [Nat.div_eq_iff hK]
   have a1 : N / D * K * D ≤ T * D := by
     rw [← h, Nat.mul_right_comm]
     exact Nat.mul_le_mul_right K (Nat.div_mul_le_self N D)
   have a2 : T * D < (N / D + 1) * K * D := by
     rw [← h, Nat.mul_right_comm]
     refine Nat.mul_lt_mul_of_pos_right ?_ hK
     rw [Nat.mul_comm D] at h1
     rw [Nat.add_mul, Nat.one_mul]
     omega
   have b1 := Nat.le_of_mul_le_mul_right a1 hD
   have b2 := Nat.lt_of_mul_lt_mul_right a2
   rw [Nat.add_mul, Nat.one_mul] at b2
   omega
 refine ⟨e.symm, ?_⟩
 have h3 := Nat.div_add_mod T K
 rw [e] at h3
 have h4 : (D * (N / D) + N % D) * K = (K * (N / D) + T % K) * D := by rw [h1, h3, h]
 rw [Nat.add_mul, Nat.add_mul] at h4
 have h5 : D * (N / D) * K = K * (N / D) * D := by ac_rfl
 omega
theorem stQ_ratio (k : Nat) (s : Bool) {N D T K : Nat} (hD : 0 < D) (hK : 0 < K) (h : N * K = T * D) : stQ k s N D = stQ k s T K := by
 obtain ⟨h1, h2⟩ := div_ratio hD hK h
 have z : N % D = 0 ↔ T % K = 0 := by
   constructor
   · intro e
     rw [e, Nat.zero_mul] at h2
     rcases Nat.mul_eq_zero.1 h2.symm with g | g
     · exact g
     · omega
   · intro e
     rw [e, Nat.zero_mul] at h2
     rcases Nat.mul_eq_zero.1 h2 with g | g
     · exact g
     · omega
 have e1 : 2 * (N % D) * K = 2 * (T % K) * D := by rw [Nat.mul_assoc, h2, Nat.mul_assoc]
 have e2 : D * K = K * D := Nat.mul_comm _ _
 have z1 : D < 2 * (N % D) ↔ K < 2 * (T % K) := by
   constructor
   · intro g
     have := Nat.mul_lt_mul_of_pos_right g hK
     rw [e1, e2] at this
     exact Nat.lt_of_mul_lt_mul_right this
   · intro g
     have := Nat.mul_lt_mul_of_pos_right g hD
     rw [← e1, ← e2] at this
     exact Nat.lt_of_mul_lt_mul_right this
 have z2 : 2 * (N % D) = D ↔ 2 * (T % K) = K := by
   constructor
   · intro g
     rw [g, e2] at e1
     exact (Nat.eq_of_mul_eq_mul_right hD e1).symm
   · intro g
     rw [g, ← e2] at e1
     exact Nat.eq_of_mul_eq_mul_right hK e1
 unfold stQ stMo
 simp only [h1, z1, z2, ne_eq, z]
theorem cut_gen {way : Ieee.Toward} {k : Nat} (hw : (way = .down ∧ k = 1) ∨ (way = .up ∧ k = 2) ∨ (way = .zero ∧ k = 3) ∨ (way = .even ∧ k = 4)) (neg : Bool) (n drop : Nat) :
   way.cut neg n drop = stQ k neg n (2 ^ drop) := by
 have hg : ∀ g : Nat, 0 < g → (n / g + (match way with
   | .even => decide (g < 2 * (n % g)) || (g == 2 * (n % g) && n / g % 2 == 1)
   | .down => neg && n % g != 0
   | .up => !neg && n % g != 0
   | .zero => false).toNat) = stQ k neg n g := by
   intro g _
   have e1 : (g == 2 * (n % g)) = decide (2 * (n % g) = g) := by rw [Bool.eq_iff_iff]; simp; omega
   have e2 : (n / g % 2 == 1) = decide (n / g % 2 = 1) := by rw [Bool.eq_iff_iff]; simp
   have e3 : (n % g != 0) = decide (n % g ≠ 0) := by rw [Bool.eq_iff_iff]; simp
   rcases hw with ⟨rfl, rfl⟩ | ⟨rfl, rfl⟩ | ⟨rfl, rfl⟩ | ⟨rfl, rfl⟩
   · unfold stQ stMo; simp only [e3]; simp
   · unfold stQ stMo; simp only [e3]; simp
   · unfold stQ stMo; simp
   · unfold stQ stMo; simp only [e1, e2]; simp
 have hu : way.cut neg n drop = n / (1 <<< min drop (n.log2 + 2)) + (match way with
   | .even => decide ((1 <<< min drop (n.log2 + 2)) < 2 * (n % (1 <<< min drop (n.log2 + 2)))) || ((1 <<< min drop (n.log2 + 2)) == 2 * (n % (1 <<< min drop (n.log2 + 2))) && n / (1 <<< min drop (n.log2 + 2)) % 2 == 1)
   | .down => neg && n % (1 <<< min drop (n.log2 + 2)) != 0
   | .up => !neg && n % (1 <<< min drop (n.log2 + 2)) != 0
   | .zero => false).toNat := by cases way <;> rfl
 rw [hu, Nat.one_shiftLeft]
 by_cases hd : drop ≤ n.log2 + 2
 · rw [Nat.min_eq_left hd]
   exact hg _ (two_pow_pos _)
 · rw [Nat.min_eq_right (by omega), hg _ (two_pow_pos _)]
   have hn : n < 2 ^ (n.log2 + 1) := by
     by_cases h0 : n = 0
     · subst h0; exact two_pow_pos _
     · exact (log2_bounds h0).2
   have h1 : 2 ^ (n.log2 + 2) = 2 * 2 ^ (n.log2 + 1) := by rw [Nat.pow_succ 2 (n.log2 + 1)]; omega
   have h2 : 2 ^ (n.log2 + 2) ≤ 2 ^ drop := Nat.pow_le_pow_right (by omega) (by omega)
   have a1 := Nat.div_eq_of_lt (show n < 2 ^ (n.log2 + 2) by omega)
   have a2 := Nat.div_eq_of_lt (show n < 2 ^ drop by omega)
   have a3 := Nat.mod_eq_of_lt (show n < 2 ^ (n.log2 + 2) by omega)
   have a4 := Nat.mod_eq_of_lt (show n < 2 ^ drop by omega)
   have c1 : decide (2 ^ (n.log2 + 2) < 2 * n) = false := decide_eq_false (by omega)
   have c2 : decide (2 ^ drop < 2 * n) = false := decide_eq_false (by omega)
   have c3 : decide (2 * n = 2 ^ (n.log2 + 2)) = false := decide_eq_false (by omega)
   have c4 : decide (2 * n = 2 ^ drop) = false := decide_eq_false (by omega)
   unfold stQ stMo
   rw [a1, a2, a3, a4, c1, c2, c3, c4]
theorem whole_rv {q : Nat} (h : q ≤ 4503599627370496) : ∃ g, g < infR ∧ rv g = q * K74 := by
 by_cases h0 : q = 0
 · subst h0
   exact ⟨0, by decide, by rw [rv_zero, Nat.zero_mul]⟩
 · obtain ⟨l1, l2⟩ := log2_bounds h0
   have hl : q.log2 ≤ 52 := by
     rcases Nat.lt_or_ge 52 q.log2 with g | g
     · have : 2 ^ 53 ≤ 2 ^ q.log2 := Nat.pow_le_pow_right (by omega) (by omega)
       have e : (2 : Nat) ^ 53 = 9007199254740992 := by decide
       omega
     · exact g
   obtain ⟨a, ha⟩ : ∃ a, a = 52 - q.log2 := ⟨_, rfl⟩
   have e1 : 2 ^ q.log2 * 2 ^ a = 4503599627370496 := by rw [← Nat.pow_add, show q.log2 + a = 52 by omega]
   have s1 : 4503599627370496 ≤ q * 2 ^ a := by rw [← e1]; exact Nat.mul_le_mul_right _ l1
   have s2 : q * 2 ^ a < 9007199254740992 := by
     have : q * 2 ^ a < 2 ^ (q.log2 + 1) * 2 ^ a := Nat.mul_lt_mul_of_pos_right l2 (two_pow_pos a)
     rw [Nat.pow_succ, Nat.mul_right_comm, e1] at this
     omega
   obtain ⟨c, hc, hK⟩ : ∃ c : Nat, c = 1074 ∧ K74 = 2 ^ c := ⟨1074, rfl, K74_def⟩
   refine ⟨(c - a) * 4503599627370496 + q * 2 ^ a, ?_, ?_⟩
   · rw [show infR = 9218868437227405312 from rfl]; omega
   · rw [rv_form (c - a) (q * 2 ^ a) (by omega) (fun _ => s1), hK, Nat.mul_assoc, ← Nat.pow_add]
     congr 2
     omega
theorem whole_of {f : Nat} (hf : f < infR) (k : Nat) (s : Bool) : ∃ g, g < infR ∧ rv g = stQ k s (rv f) K74 * K74 := by
 have hK := K74_pos
 by_cases hr : rv f % K74 = 0
 · refine ⟨f, hf, ?_⟩
   have hm : stMo k s (rv f) K74 = false := by
     unfold stMo
     rw [hr]
     have c1 : decide (K74 < 2 * 0) = false := decide_eq_false (by omega)
     have c2 : decide (2 * 0 = K74) = false := decide_eq_false (by omega)
     rw [c1, c2]
     simp
   unfold stQ
   rw [hm]
   have := Nat.div_add_mod (rv f) K74
   rw [hr, Nat.mul_comm] at this
   simp only [Bool.toNat_false, Nat.add_zero]
   omega
 · refine whole_rv ?_
   have hq : stQ k s (rv f) K74 ≤ rv f / K74 + 1 := by
     unfold stQ
     have : (stMo k s (rv f) K74).toNat ≤ 1 := Bool.toNat_le _
     omega
   suffices rv f / K74 < 4503599627370496 by omega
   rw [Nat.div_lt_iff_lt_mul hK]
   obtain ⟨u, m, e, hm, hu⟩ := form f
   rw [e, rv_form u m (by omega) hu] at hr ⊢
   obtain ⟨c, hc, hK2⟩ : ∃ c : Nat, c = 1074 ∧ K74 = 2 ^ c := ⟨1074, rfl, K74_def⟩
   rw [hK2] at hr ⊢
   have huc : u < c := by
     rcases Nat.lt_or_ge u c with g | g
     · exact g
     · exfalso
       apply hr
       rw [show u = (u - c) + c by omega, Nat.pow_add, ← Nat.mul_assoc]
       exact Nat.mul_mod_left _ _
   have e2 : (2 : Nat) ^ c = 2 ^ (c - 1 - u) * 2 * 2 ^ u := by
     rw [← Nat.pow_succ, ← Nat.pow_add]
     congr 1
     omega
   rw [e2]
   have h1 : 1 ≤ 2 ^ (c - 1 - u) := two_pow_pos _
   have h2 : 4503599627370496 * (2 ^ (c - 1 - u) * 2 * 2 ^ u) = 9007199254740992 * 2 ^ u * 2 ^ (c - 1 - u) := by
     have e3 : (9007199254740992 : Nat) = 4503599627370496 * 2 := by decide
     rw [e3]
     ac_rfl
   rw [h2]
   refine Nat.lt_of_lt_of_le (Nat.mul_lt_mul_of_pos_right hm (two_pow_pos u)) ?_
   exact Nat.le_mul_of_pos_right _ h1
theorem rr_exact {d : Int} {neg : Bool} {g : Nat} (h : g < infR) : rr d neg (4 * rv g) = g := by
 have e : 4 * rv g / 4 = rv g := by omega
 have ha : away d neg (4 * rv g) = false := by
   unfold away
   rw [e, rung_rv, if_pos rfl]
 unfold rr
 rw [e, rung_rv, ha]
 split
 · omega
 · simp; omega
theorem zd_whole (q : Nat) : zd q 0 = 4 * (q * K74) := by
 obtain ⟨c, hc, hK⟩ : ∃ c : Nat, c = 1074 ∧ K74 = 2 ^ c := ⟨1074, rfl, K74_def⟩
 rw [zd_of (A := c + 1) (B := 0) (by omega), Nat.pow_zero, zq_one, hK, Nat.pow_succ]
 have : q * (2 ^ c * 2) = 2 * (q * 2 ^ c) := by rw [Nat.mul_comm (2 ^ c) 2, Nat.mul_left_comm]
 omega
noncomputable def stR (k : Nat) (s : Bool) (f : Nat) : Nat := rung (stQ k s (rv f) K74 * K74)
theorem stR_spec {f : Nat} (hf : f < infR) (k : Nat) (s : Bool) : stR k s f < infR ∧ rv (stR k s f) = stQ k s (rv f) K74 * K74 := by
 obtain ⟨g, h1, h2⟩ := whole_of hf k s
 unfold stR
 rw [← h2, rung_rv]
 exact ⟨h1, rfl⟩
noncomputable def stP (k : Nat) (x : Nat) : Nat := if mg x < infR then Ieee.double.word (sg x) (stR k (sg x) (mg x)) else x
theorem integral_eq {way : Ieee.Toward} {k : Nat} (hw : (way = .down ∧ k = 1) ∨ (way = .up ∧ k = 2) ∨ (way = .zero ∧ k = 3) ∨ (way = .even ∧ k = 4)) {x : Nat} (hx : x < 18446744073709551616) (hn : isNaN x = false) :
   Ieee.double.write ((Ieee.double.read x).integral way) = stP k x := by
 have hi := infR_val
 unfold isNaN at hn
 have hn' := of_decide_eq_false hn
 unfold stP
 by_cases hf : mg x < infR
 · rw [if_pos hf]
   obtain ⟨m, e, hr, he, hv⟩ := read_fin hx hf
   rw [hr]
   have hcut : way.cut (sg x) (m <<< e.toNat) (-e).toNat = stQ k (sg x) (rv (mg x)) K74 := by
     rw [cut_gen hw, Nat.shiftLeft_eq]
     refine stQ_ratio k _ (two_pow_pos _) K74_pos ?_
     rw [← hv, K74_def]
     obtain ⟨c, hc⟩ : ∃ c : Nat, c = 1074 := ⟨_, rfl⟩
     rw [← hc]
     have : (e + 1074).toNat = (e + (c : Int)).toNat := by omega
     rw [this, Nat.mul_assoc, Nat.mul_assoc, ← Nat.pow_add, ← Nat.pow_add]
     congr 2
     omega
   show Ieee.double.nearest (sg x) (way.cut (sg x) (m <<< e.toNat) (-e).toNat) 0 = _
   rw [hcut, nearest_eq, zd_whole]
   obtain ⟨h1, h2⟩ := stR_spec hf k (sg x)
   rw [← h2, rr_exact h1]
 · rw [if_neg hf]
   have h1 : mg x = infR := by omega
   rw [read_inf hx h1]
   show Ieee.double.word (sg x) Ieee.double.infRung = x
   rw [word_eq, show Ieee.double.infRung = infR from rfl]
   have := split_pat hx
   rw [h1] at this
   exact this.symm
end Go.Proofs.YtbcaggdgoidlaaaGreatDoor.Rn

namespace Go.Proofs.YtbcaggdgoidlaaaGreatDoor.Rn
open Nm
theorem p52 : (2 : Nat) ^ 52 = 4503599627370496 := by decide
theorem p53 : (2 : Nat) ^ 53 = 9007199254740992 := by decide
def rAw (m : Nat) : Nat :=
 if m / 4503599627370496 < 1022 then 0 else if m / 4503599627370496 = 1022 then 4607182418800017408
 else if m / 4503599627370496 < 1075 then m + 2 ^ (1074 - m / 4503599627370496) - (m + 2 ^ (1074 - m / 4503599627370496)) % 2 ^ (1075 - m / 4503599627370496) else m
theorem st5 (s : Bool) (w p : Nat) (hp : 0 < p) : stQ 5 s w (2 * p) = (w + p) / (2 * p) := by
 have h1 := Nat.div_add_mod w (2 * p)
 have h2 := Nat.mod_lt w (show 0 < 2 * p by omega)
 unfold stQ stMo
 rw [if_neg (by omega), if_neg (by omega), if_neg (by omega), decide_eq_true (show (5 : Nat) = 5 from rfl), Bool.true_or, Bool.and_true]
 symm
 rw [Nat.div_eq_iff (by omega)]
 obtain ⟨q, hq⟩ : ∃ q, q = w / (2 * p) := ⟨_, rfl⟩
 obtain ⟨r, hr⟩ : ∃ r, r = w % (2 * p) := ⟨_, rfl⟩
 rw [← hq, ← hr] at h1 ⊢
 rw [← hr] at h2
 obtain ⟨P, hP⟩ : ∃ P, P = 2 * p * q := ⟨_, rfl⟩
 rw [← hP] at h1
 by_cases g : 2 * p ≤ 2 * r
 · have e : (decide (2 * p < 2 * r) || decide (2 * r = 2 * p)) = true := by
     rcases Nat.lt_or_eq_of_le g with g | g
     · rw [decide_eq_true g, Bool.true_or]
     · rw [decide_eq_true g.symm, Bool.or_true]
   rw [e]
   have e2 : (q + Bool.toNat true) * (2 * p) = P + 2 * p := by
     rw [hP, Bool.toNat_true, Nat.add_mul, Nat.one_mul, Nat.mul_comm q]
   rw [e2]
   omega
 · have e : (decide (2 * p < 2 * r) || decide (2 * r = 2 * p)) = false := by
     rw [decide_eq_false (by omega), decide_eq_false (by omega)]; rfl
   rw [e]
   have e2 : (q + Bool.toNat false) * (2 * p) = P := by
     rw [hP, Bool.toNat_false, Nat.add_zero, Nat.mul_comm q]
   rw [e2]
   omega
theorem rAw_eq {m : Nat} (hm : m < infR) (s : Bool) : rAw m = stR 5 s m := by
 have hi := infR_val
 have hK := K74_pos
 obtain ⟨h1, h2⟩ := stR_spec hm 5 s
 refine rv_inj ?_
 rw [h2]
 obtain ⟨E, hE⟩ : ∃ E, E = m / 4503599627370496 := ⟨_, rfl⟩
 unfold rAw
 rw [← hE]
 obtain ⟨h, hh, hK2⟩ : ∃ h : Nat, h = 1073 ∧ K74 = 2 * 2 ^ h := ⟨1073, rfl, by rw [K74_def]; obtain ⟨c, hc⟩ : ∃ c : Nat, c = 1073 := ⟨_, rfl⟩; rw [show 1074 = c + 1 by omega, show 1073 = c by omega, Nat.pow_succ, Nat.mul_comm]⟩
 have hp := two_pow_pos h
 rw [hK2, st5 s (rv m) (2 ^ h) hp]
 by_cases c1 : E < 1022
 · rw [if_pos c1, rv_zero]
   have hv : rv m < 2 ^ h := by
     unfold rv
     split
     · rename_i g
       have a : 2 ^ 52 ≤ 2 ^ h := Nat.pow_le_pow_right (by omega) (by omega)
       have e : (2 : Nat) ^ 52 = 4503599627370496 := by decide
       omega
     · rw [← hE]
       have a1 : (4503599627370496 + m % 4503599627370496) * 2 ^ (E - 1) < 2 ^ 53 * 2 ^ (E - 1) := Nat.mul_lt_mul_of_pos_right (by rw [p53]; omega) (two_pow_pos _)
       rw [← Nat.pow_add] at a1
       have a2 : 2 ^ (53 + (E - 1)) ≤ 2 ^ h := Nat.pow_le_pow_right (by omega) (by omega)
       omega
   rw [Nat.div_eq_of_lt (by omega), Nat.zero_mul]
 · rw [if_neg c1]
   have hrv : rv m = (4503599627370496 + m % 4503599627370496) * 2 ^ (E - 1) := by
     unfold rv
     rw [if_neg (by omega), ← hE]
   obtain ⟨w, hw⟩ : ∃ w, w = 4503599627370496 + m % 4503599627370496 := ⟨_, rfl⟩
   rw [← hw] at hrv
   have w1 : 4503599627370496 ≤ w := by omega
   have w2 : w < 9007199254740992 := by omega
   have hmw : m = (E - 1) * 4503599627370496 + w := by omega
   by_cases c2 : E = 1022
   · rw [if_pos c2]
     have e1 : rv 4607182418800017408 = 2 * 2 ^ h := by
       rw [show (4607182418800017408 : Nat) = (h - 51) * 4503599627370496 + 4503599627370496 by omega, rv_form (h - 51) 4503599627370496 (by omega) (fun _ => Nat.le_refl _), show (4503599627370496 : Nat) = 2 ^ 52 by decide, ← Nat.pow_add, show 52 + (h - 51) = h + 1 by omega, Nat.pow_succ, Nat.mul_comm]
     rw [e1]
     have b1 : 2 ^ h ≤ rv m := by
       rw [hrv]
       have : 2 ^ 52 * 2 ^ (E - 1) ≤ w * 2 ^ (E - 1) := Nat.mul_le_mul_right _ (by rw [p52]; omega)
       rw [← Nat.pow_add, show 52 + (E - 1) = h by omega] at this
       exact this
     have b2 : rv m < 2 * 2 ^ h := by
       rw [hrv]
       have : w * 2 ^ (E - 1) < 2 ^ 53 * 2 ^ (E - 1) := Nat.mul_lt_mul_of_pos_right (by rw [p53]; omega) (two_pow_pos _)
       rw [← Nat.pow_add, show 53 + (E - 1) = h + 1 by omega, Nat.pow_succ, Nat.mul_comm _ 2] at this
       exact this
     have b3 : (rv m + 2 ^ h) / (2 * 2 ^ h) = 1 := by
       rw [Nat.div_eq_iff (by omega)]
       omega
     rw [b3, Nat.one_mul]
   · rw [if_neg c2]
     by_cases c3 : E < 1075
     · rw [if_pos c3]
       obtain ⟨c, hc⟩ : ∃ c, c = 1074 - E := ⟨_, rfl⟩
       rw [← hc, show 1075 - E = c + 1 by omega]
       have hc51 : c ≤ 51 := by omega
       have hpc : 2 ^ h = 2 ^ c * 2 ^ (E - 1) := by rw [← Nat.pow_add]; congr 1; omega
       obtain ⟨u, hu⟩ : ∃ u, u = E - 1 := ⟨_, rfl⟩
       rw [← hu] at hrv hmw hpc
       have hup := two_pow_pos u
       have hcp := two_pow_pos c
       have e1 : (rv m + 2 ^ h) / (2 * 2 ^ h) = (w + 2 ^ c) / (2 * 2 ^ c) := by
         rw [hrv, hpc, ← Nat.add_mul, ← Nat.mul_assoc, Nat.mul_div_mul_right _ _ hup]
       rw [e1]
       have e2 : (2 : Nat) ^ (c + 1) = 2 * 2 ^ c := by rw [Nat.pow_succ, Nat.mul_comm]
       rw [e2]
       obtain ⟨p, hpp⟩ : ∃ p, p = 2 ^ c := ⟨_, rfl⟩
       rw [← hpp] at hpc hcp ⊢
       -- 2p divides 2^52
       obtain ⟨t, ht⟩ : ∃ t, 4503599627370496 = 2 * p * t := ⟨2 ^ (51 - c), by
         rw [hpp, Nat.mul_assoc, ← Nat.pow_add, show c + (51 - c) = 51 by omega]⟩
       have e3 : (m + p) % (2 * p) = (w + p) % (2 * p) := by
         rw [hmw, ht, Nat.add_assoc, show u * (2 * p * t) = 2 * p * (u * t) by ac_rfl, Nat.mul_add_mod]
       rw [e3]
       have d1 := Nat.div_add_mod (w + p) (2 * p)
       obtain ⟨q, hq⟩ : ∃ q, q = (w + p) / (2 * p) := ⟨_, rfl⟩
       rw [← hq] at d1 ⊢
       have e4 : m + p - (w + p) % (2 * p) = u * 4503599627370496 + 2 * p * q := by omega
       rw [e4]
       have q1 : 2 * p * q ≤ 9007199254740992 := by
         have z1 : q ≤ 2 * t := by
           rw [hq]
           have z2 : (w + p) < (2 * t + 1) * (2 * p) := by
             rw [Nat.add_mul, Nat.one_mul, show 2 * t * (2 * p) = 2 * (2 * p * t) by ac_rfl, ← ht]
             omega
           have := (Nat.div_lt_iff_lt_mul (show 0 < 2 * p by omega)).2 z2
           omega
         have := Nat.mul_le_mul_left (2 * p) z1
         rw [show 2 * p * (2 * t) = 2 * (2 * p * t) by ac_rfl, ← ht] at this
         omega
       have q2 : 4503599627370496 ≤ 2 * p * q := by
         have z1 : t ≤ q := by
           rw [hq]
           refine (Nat.le_div_iff_mul_le (show 0 < 2 * p by omega)).2 ?_
           rw [Nat.mul_comm, ← ht]
           omega
         have := Nat.mul_le_mul_left (2 * p) z1
         omega
       rw [rv_form u (2 * p * q) q1 (fun _ => q2), hpc]
       ac_rfl
     · rw [if_neg c3]
       obtain ⟨a, ha⟩ : ∃ a, E - 1 = a + (h + 1) := ⟨E - 1 - (h + 1), by omega⟩
       have e1 : rv m = w * 2 ^ a * (2 * 2 ^ h) := by
         rw [hrv, ha, Nat.pow_add, Nat.pow_succ, Nat.mul_comm (2 ^ h) 2]
         ac_rfl
       have e2 : (rv m + 2 ^ h) / (2 * 2 ^ h) = w * 2 ^ a := by
         rw [Nat.div_eq_iff (by omega), ← e1]
         omega
       rw [e2, ← e1]
end Go.Proofs.YtbcaggdgoidlaaaGreatDoor.Rn
