/-
  Plain: over a part of an interval each call of chapter 7 answers a part. Conditions: those that each theorem names.
-/
import Derived.Test.YtadijoeeaineaaaDoorG24
import Derived.Test.YtadijoeeaineaaaDoorG26
import Derived.Test.YtadijoeeaineaaaDoorG27
import Derived.Test.YtadijoeeaineaaaDoorG22
import Derived.Test.YtadijoeeaineaaaDoorG06
import Derived.Test.YtadijoeeaineaaaDoorG25
import Derived.StillTailTactics
import Derived.Test.YtadijoeeaineaaaDoorG12
import Derived.Deep.DeepCutAuto
namespace Go.Proofs.YtadijoeeaineaaaDoor
open Nm Rn
set_option linter.unusedVariables false
set_option linter.unusedSimpArgs false

theorem rd_pne {p q : Nat} (h : PnE p q) : rdLo p q = p ∧ rdHi p q = q ∧ ¬ emp p q ∧ sndB p q = true := by
  have r1 := key_le h.na
  have r2 := key_le h.nb
  have i1 := key_eq_inf h.la h.na
  have i2 := key_eq_minf h.lb h.nb
  have ia := h.ia
  have ib := h.ib
  have hs : sndB p q = true := by
    unfold sndB leB ltB
    rw [h.na, h.nb, nan_inf, nan_minf, key_inf, key_minf]
    simp only [Bool.not_false, Bool.true_and, Bool.and_eq_true, decide_eq_true_eq]
    refine ⟨⟨h.ki, ?_⟩, ?_⟩ <;> omega
  have e1 : rdLo p q = p := by unfold rdLo; rw [hs, if_pos rfl]; unfold pl; rw [if_neg h.ma]
  have e2 : rdHi p q = q := by unfold rdHi; rw [hs, if_pos rfl]; unfold pl; rw [if_neg h.mb]
  refine ⟨e1, e2, fun he => ?_, hs⟩
  have := he.1
  rw [e1] at this
  exact ia this
theorem emp_e : emp infR minf := by decide
theorem vld_pne {p q : Nat} (h : PnE p q) : vldB p q = true := by
  have := (rd_pne h).2.2.2
  unfold vldB
  rw [this, decide_eq_true h.ma, decide_eq_true h.mb]
  simp
theorem vld_e : vldB infR minf = true := by decide
theorem inc_e {b1 b2 : Nat} (l3 : b1 < 18446744073709551616) (l4 : b2 < 18446744073709551616) (h : vldB b1 b2 = true) : Inc infR minf b1 b2 :=
  ⟨by decide, by decide, l3, l4, vld_e, h, .inl ⟨rfl, rfl⟩⟩
theorem inc_ee : Inc infR minf infR minf := inc_e (by decide) (by decide) vld_e
theorem inc_ep {b1 b2 : Nat} (h : PnE b1 b2) : Inc infR minf b1 b2 := inc_e h.la h.lb (vld_pne h)
theorem inc_pp {a1 a2 b1 b2 : Nat} (ha : PnE a1 a2) (hb : PnE b1 b2) (k1 : key b1 ≤ key a1) (k2 : key a2 ≤ key b2) : Inc a1 a2 b1 b2 := by
  refine ⟨ha.la, ha.lb, hb.la, hb.lb, vld_pne ha, vld_pne hb, .inr ⟨fun h => hb.ia h.1, ?_, ?_⟩⟩
  · unfold ltB; rw [decide_eq_false (show ¬ key a1 < key b1 by omega), Bool.and_false]
  · unfold ltB; rw [decide_eq_false (show ¬ key b2 < key a2 by omega), Bool.and_false]

/-- The smaller interval is empty, or both are intervals, one in the other. -/
inductive InR : Nat → Nat → Nat → Nat → Prop
  | ee : InR infR minf infR minf
  | ep {B1 B2 : Nat} (h : PnE B1 B2) : InR infR minf B1 B2
  | pp {s1 s2 B1 B2 : Nat} (hs : PnE s1 s2) (hb : PnE B1 B2) (k1 : key B1 ≤ key s1) (k2 : key s2 ≤ key B2) : InR s1 s2 B1 B2

/-- Powers. -/
theorem powR_nz {d : Int} {x : Nat} {n : Int} : powR d x n ≠ 9223372036854775808 := by
  unfold powR
  have hr : ∀ s Z, rnd d s Z ≠ 9223372036854775808 := fun s Z => pat_nz (rr_le d s Z)
  split
  · decide
  · split
    · decide
    · split
      · split
        · decide
        · split <;> decide
      · split
        · decide
        · split
          · exact hr _ _
          · exact hr _ _
theorem rnd_ninf {s : Bool} {Z : Nat} : rnd (-1) s Z ≠ infR ∧ rnd 1 s Z ≠ minf := by
  have e := infR_val
  have e2 := minf_val
  constructor
  · have hl := rr_le (-1) s Z
    unfold rnd pat
    cases s
    · have : rr (-1) false Z ≤ infR - 1 := by unfold rr; rw [if_pos (.inr ⟨rfl, rfl⟩)]; exact Nat.min_le_right _ _
      split
      · omega
      · rw [if_neg (by simp)]; omega
    · split
      · omega
      · rw [if_pos rfl]; omega
  · have hl := rr_le 1 s Z
    unfold rnd pat
    cases s
    · split
      · omega
      · rw [if_neg (by simp)]; omega
    · have : rr 1 true Z ≤ infR - 1 := by unfold rr; rw [if_pos (.inl ⟨rfl, rfl⟩)]; exact Nat.min_le_right _ _
      split
      · omega
      · rw [if_pos rfl]; omega
theorem inf_pat {x : Nat} (hx : x < 18446744073709551616) (h : mg x = infR) : x = if sg x then minf else infR := by
  have := split_pat hx
  have e := infR_val
  have e2 := minf_val
  cases hs : sg x
  · rw [hs] at this; simp at this; rw [if_neg (by simp)]; omega
  · rw [hs] at this; simp at this; rw [if_pos rfl]; omega
theorem tmod_emod {n : Int} : n.tmod 2 = 0 ↔ n % 2 = 0 := by
  constructor
  · intro h; exact Int.emod_eq_zero_of_dvd (Int.dvd_of_tmod_eq_zero h)
  · intro h; exact Int.tmod_eq_zero_of_dvd (Int.dvd_of_emod_eq_zero h)
/-- The ends that are raised. -/
structure Rs (a b : Nat) (n : Int) : Prop extends PnE a b where
  ev : n.tmod 2 = 0 → 0 ≤ key a
theorem pow_lo_ne {x : Nat} {n : Int} (hx : x < 18446744073709551616) (nx : isNaN x = false) (hr : ¬ (n < -1024 ∨ 1024 < n)) (hn : n ≠ 0) (hz : mg x ≠ 0 ∨ 0 < n) (hi : 0 < n → x ≠ infR) (hev : n.tmod 2 = 0 → 0 ≤ key x) : powR (-1) x n ≠ infR := by
  by_cases fx : mg x = infR
  · rw [powR_inf nx hr fx hn]
    split
    · decide
    · have hp : 0 < n := by omega
      have hpat := inf_pat hx fx
      cases hs : sg x
      · rw [hs] at hpat; exact absurd (by simpa using hpat) (hi hp)
      · have ho : n.tmod 2 ≠ 0 := fun h => by
          have := hev h
          unfold key at this
          rw [hs, fx] at this
          have e := infR_val
          simp at this
          omega
        rw [Bool.true_and, if_pos (by rw [decide_eq_true_iff]; exact fun h => ho (tmod_emod.2 h))]
        decide
  · have hf : mg x < infR := by have := mg_le_inf nx; omega
    by_cases hp : 0 < n
    · rw [powR_pos nx hr hf hp]; exact rnd_ninf.1
    · rw [powR_neg nx hr hf (by omega) (by omega)]; exact rnd_ninf.1
theorem pow_hi_ne {x : Nat} {n : Int} (hx : x < 18446744073709551616) (nx : isNaN x = false) (hr : ¬ (n < -1024 ∨ 1024 < n)) (hn : n ≠ 0) (hz : mg x ≠ 0 ∨ 0 < n) (hi : 0 < n → x ≠ minf) : powR 1 x n ≠ minf := by
  by_cases fx : mg x = infR
  · rw [powR_inf nx hr fx hn]
    split
    · decide
    · have hp : 0 < n := by omega
      have hpat := inf_pat hx fx
      cases hs : sg x
      · rw [Bool.false_and, if_neg (by simp)]; decide
      · rw [hs] at hpat; exact absurd (by simpa using hpat) (hi hp)
  · have hf : mg x < infR := by have := mg_le_inf nx; omega
    by_cases hp : 0 < n
    · rw [powR_pos nx hr hf hp]; exact rnd_ninf.2
    · rw [powR_neg nx hr hf (by omega) (by omega)]; exact rnd_ninf.2
theorem key0 {x : Nat} : key x = 0 ↔ mg x = 0 := by unfold key; split <;> omega
theorem one_pne : PnE 4607182418800017408 4607182418800017408 := ⟨by decide, by decide, by decide, by decide, by decide, by decide, by decide, by decide, by decide⟩
theorem all_pne : PnE minf infR := ⟨by decide, by decide, by decide, by decide, by decide, by decide, by decide, by decide, by decide⟩
theorem d1 : Dir 1 := .inl rfl
theorem d2 : Dir (-1) := .inr rfl
theorem pw_mono_r {d : Int} (hd : Dir d) {a b c e : Nat} {n : Int} (h1 : Rs a b n) (hr : ¬ (n < -1024 ∨ 1024 < n)) (hn : 0 < n) {x y : Nat} (hx : isNaN x = false) (hy : isNaN y = false) (hx0 : n.tmod 2 = 0 → 0 ≤ key x) (h : key x ≤ key y) : key (powR d x n) ≤ key (powR d y n) := by
  by_cases ho : n.tmod 2 = 0
  · exact (pw_mono_nn hd hx hy hr hn (hx0 ho) h).2
  · exact pw_mono_odd hd hx hy hr hn ho h
/-- A negative power turns order round among ends of one sign. -/
theorem pw_anti {d : Int} (hd : Dir d) {x y : Nat} {n : Int} (hx : isNaN x = false) (hy : isNaN y = false) (hr : ¬ (n < -1024 ∨ 1024 < n)) (hn : n < 0) (hs : 0 < key x ∨ (key y < 0 ∧ n.tmod 2 ≠ 0)) (h : key x ≤ key y) : key (powR d y n) ≤ key (powR d x n) := by
  rcases hs with h0 | ⟨h0, ho⟩
  · exact (pw_anti_p hd hx hy hr hn h0 h).1
  · exact (pw_anti_n hd hx hy hr hn ho h0 h).1

theorem pw_pne {a b : Nat} {n : Int} (h : Rs a b n) (hr : ¬ (n < -1024 ∨ 1024 < n)) (hn : n ≠ 0) (hz : ¬ (n < 0 ∧ mg a = 0 ∧ mg b = 0)) : PnE (pwLo a b n) (pwHi a b n) := by
  have la := h.la
  have lb := h.lb
  have na := h.na
  have nb := h.nb
  have ka := @key0 a
  have kb := @key0 b
  have kab := h.ki
  have ok : ∀ d x, isNaN x = false → isNaN (powR d x n) = false ∧ powR d x n < 18446744073709551616 := fun d x hx => powR_ok hx hr
  unfold pwLo pwHi
  by_cases hp : 0 < n
  · rw [if_pos hp, if_pos hp]
    refine ⟨(ok _ _ na).2, (ok _ _ nb).2, (ok _ _ na).1, (ok _ _ nb).1, ?_, powR_nz, powR_nz, ?_, ?_⟩
    · have h1 := pw_mono_r d2 (c := 0) (e := 0) h hr hp na nb h.ev kab
      have h2 := pw_dirs nb hr hn (.inr hp)
      omega
    · exact pow_lo_ne la na hr hn (.inr hp) (fun _ => h.ia) h.ev
    · exact pow_hi_ne lb nb hr hn (.inr hp) (fun _ => h.ib)
  · rw [if_neg hp, if_neg hp]
    have hneg : n < 0 := by omega
    rw [if_neg (fun g => hz ⟨hneg, g⟩), if_neg (fun g => hz ⟨hneg, g⟩)]
    by_cases hc : key a < 0 ∧ 0 < key b
    · rw [if_pos hc, if_pos hc]; exact all_pne
    · rw [if_neg hc, if_neg hc]
      have hev := h.ev
      have sgn : mg b ≠ 0 → mg a ≠ 0 → 0 < key a ∨ (key b < 0 ∧ n.tmod 2 ≠ 0) := fun hb0 ha0 => by
        by_cases h1 : 0 < key a
        · exact .inl h1
        · have h2 : key a < 0 := by omega
          exact .inr ⟨by omega, fun he => by have := hev he; omega⟩
      by_cases zb : mg b = 0
      · rw [if_pos zb]
        have za : mg a ≠ 0 := fun g => hz ⟨hneg, g, zb⟩
        rw [if_neg za]
        refine ⟨minf_lt, (ok _ _ na).2, nan_minf, (ok _ _ na).1, ?_, by decide, powR_nz, by decide, pow_hi_ne la na hr hn (.inl za) (fun g => by omega)⟩
        rw [key_minf]
        exact (key_le (ok 1 a na).1).2
      · rw [if_neg zb]
        by_cases za : mg a = 0
        · rw [if_pos za]
          refine ⟨(ok _ _ nb).2, infR_lt, (ok _ _ nb).1, nan_inf, ?_, powR_nz, by decide, pow_lo_ne lb nb hr hn (.inl zb) (fun g => by omega) (fun he => by have := hev he; omega), by decide⟩
          rw [key_inf]
          exact (key_le (ok (-1) b nb).1).1
        · rw [if_neg za]
          refine ⟨(ok _ _ nb).2, (ok _ _ na).2, (ok _ _ nb).1, (ok _ _ na).1, ?_, powR_nz, powR_nz, pow_lo_ne lb nb hr hn (.inl zb) (fun g => by omega) (fun he => by have := hev he; omega), pow_hi_ne la na hr hn (.inl za) (fun g => by omega)⟩
          have h1 := pw_anti d2 na nb hr hneg (sgn zb za) kab
          have h2 := pw_dirs na hr hn (.inl za)
          omega
theorem pw_zero {a b : Nat} {n : Int} (hz : n < 0 ∧ mg a = 0 ∧ mg b = 0) : pwLo a b n = infR ∧ pwHi a b n = minf := by
  have hn : ¬ 0 < n := by omega
  unfold pwLo pwHi
  rw [if_neg hn, if_neg hn, if_pos hz.2, if_pos hz.2]
  exact ⟨rfl, rfl⟩
theorem pw_inc {a b c e : Nat} {n : Int} (h : Rs a b n) (g : Rs c e n) (hr : ¬ (n < -1024 ∨ 1024 < n)) (hn : n ≠ 0) (k1 : key c ≤ key a) (k2 : key b ≤ key e) : Inc (pwLo a b n) (pwHi a b n) (pwLo c e n) (pwHi c e n) := by
  have na := h.na
  have nb := h.nb
  have nc := g.na
  have ne := g.nb
  have ka := @key0 a
  have kb := @key0 b
  have kc := @key0 c
  have ke := @key0 e
  have kab := h.ki
  by_cases hz : n < 0 ∧ mg a = 0 ∧ mg b = 0
  · rw [(pw_zero hz).1, (pw_zero hz).2]
    by_cases hz2 : n < 0 ∧ mg c = 0 ∧ mg e = 0
    · rw [(pw_zero hz2).1, (pw_zero hz2).2]; exact inc_ee
    · exact inc_ep (pw_pne g hr hn hz2)
  · have hz2 : ¬ (n < 0 ∧ mg c = 0 ∧ mg e = 0) := fun h2 => hz ⟨h2.1, by omega, by omega⟩
    refine inc_pp (pw_pne h hr hn hz) (pw_pne g hr hn hz2) ?_ ?_
    · unfold pwLo
      by_cases hp : 0 < n
      · rw [if_pos hp, if_pos hp]
        exact pw_mono_r d2 (c := 0) (e := 0) h hr hp nc na g.ev k1
      · rw [if_neg hp, if_neg hp]
        have hneg : n < 0 := by omega
        rw [if_neg (fun t => hz2 ⟨hneg, t⟩), if_neg (fun t => hz ⟨hneg, t⟩)]
        have bot : ∀ {x : Nat}, isNaN x = false → key minf ≤ key x := fun hx => by rw [key_minf]; exact (key_le hx).2
        have okb := (powR_ok (d := -1) nb hr).1
        by_cases hc2 : key c < 0 ∧ 0 < key e
        · rw [if_pos hc2]
          by_cases hc : key a < 0 ∧ 0 < key b
          · rw [if_pos hc]; exact Int.le_refl _
          · rw [if_neg hc]
            split
            · exact Int.le_refl _
            · exact bot okb
        · rw [if_neg hc2]
          by_cases hc : key a < 0 ∧ 0 < key b
          · exfalso; omega
          · rw [if_neg hc]
            by_cases ze : mg e = 0
            · rw [if_pos ze]
              split
              · exact Int.le_refl _
              · exact bot okb
            · rw [if_neg ze]
              have zb : mg b ≠ 0 := fun g0 => hz ⟨hneg, by omega, g0⟩
              rw [if_neg zb]
              refine pw_anti d2 nb ne hr hneg ?_ k2
              by_cases h1 : 0 < key b
              · exact .inl h1
              · exact .inr ⟨by omega, fun he => by have := h.ev he; omega⟩
    · unfold pwHi
      by_cases hp : 0 < n
      · rw [if_pos hp, if_pos hp]
        exact pw_mono_r d1 (c := 0) (e := 0) h hr hp nb ne (fun he => by have := h.ev he; omega) k2
      · rw [if_neg hp, if_neg hp]
        have hneg : n < 0 := by omega
        rw [if_neg (fun t => hz2 ⟨hneg, t⟩), if_neg (fun t => hz ⟨hneg, t⟩)]
        have topp : ∀ {x : Nat}, isNaN x = false → key x ≤ key infR := fun hx => by rw [key_inf]; exact (key_le hx).1
        have oka := (powR_ok (d := 1) na hr).1
        by_cases hc2 : key c < 0 ∧ 0 < key e
        · rw [if_pos hc2]
          by_cases hc : key a < 0 ∧ 0 < key b
          · rw [if_pos hc]; exact Int.le_refl _
          · rw [if_neg hc]
            split
            · exact Int.le_refl _
            · exact topp oka
        · rw [if_neg hc2]
          by_cases hc : key a < 0 ∧ 0 < key b
          · exfalso; omega
          · rw [if_neg hc]
            by_cases zc : mg c = 0
            · rw [if_pos zc]
              split
              · exact Int.le_refl _
              · exact topp oka
            · rw [if_neg zc]
              have za : mg a ≠ 0 := fun g0 => hz ⟨hneg, g0, by omega⟩
              rw [if_neg za]
              refine pw_anti d1 nc na hr hneg ?_ k1
              by_cases h1 : 0 < key c
              · exact .inl h1
              · exact .inr ⟨by omega, fun he => by have := g.ev he; omega⟩
theorem sz_mono {p q P Q : Nat} (hp : key p ≤ key q) (k1 : key P ≤ key p) (k2 : key q ≤ key Q) : key (szLo P Q) ≤ key (szLo p q) ∧ key (szHi p q) ≤ key (szHi P Q) := by
  have a1 := @mx_key p
  have a2 := @mx_key q
  have a3 := @mx_key P
  have a4 := @mx_key Q
  have k0 : key 0 = 0 := rfl
  have s1 := @sz_key p q
  constructor
  · unfold szLo
    by_cases h1 : key P ≤ 0 ∧ 0 ≤ key Q
    · rw [if_pos h1, k0]; have := s1.2; unfold szLo at this; exact this
    · rw [if_neg h1, if_neg (c := key p ≤ 0 ∧ 0 ≤ key q) (by omega)]
      revert a1 a2 a3 a4
      split <;> split <;> split <;> split <;> split <;> split <;> (intro a1 a2 a3 a4; omega)
  · unfold szHi
    revert a1 a2 a3 a4
    split <;> split <;> split <;> split <;> split <;> split <;> (intro a1 a2 a3 a4; omega)
theorem rs_of {p q : Nat} (h : PnE p q) (n : Int) : Rs (pnA p q n) (pnB p q n) n := by
  refine ⟨pnE_n h n, fun he => ?_⟩
  unfold pnA
  rw [if_pos he]
  obtain ⟨k1, k2, k3, k4, k5, k6⟩ := sz_ends h.la h.lb h.na h.nb h.ia h.ib
  rw [(pl_facts k1 k2).2.2.1]
  exact (@sz_key p q).2
theorem pn_mono {p q P Q : Nat} (h : PnE p q) (g : PnE P Q) (k1 : key P ≤ key p) (k2 : key q ≤ key Q) (n : Int) : key (pnA P Q n) ≤ key (pnA p q n) ∧ key (pnB p q n) ≤ key (pnB P Q n) := by
  unfold pnA pnB
  by_cases he : n.tmod 2 = 0
  · rw [if_pos he, if_pos he, if_pos he, if_pos he]
    obtain ⟨a1, a2, a3, a4, a5, a6⟩ := sz_ends h.la h.lb h.na h.nb h.ia h.ib
    obtain ⟨b1, b2, b3, b4, b5, b6⟩ := sz_ends g.la g.lb g.na g.nb g.ia g.ib
    rw [(pl_facts a1 a2).2.2.1, (pl_facts a4 a5).2.2.1, (pl_facts b1 b2).2.2.1, (pl_facts b4 b5).2.2.1]
    exact sz_mono h.ki k1 k2
  · rw [if_neg he, if_neg he, if_neg he, if_neg he]
    exact ⟨k1, k2⟩
theorem pwn_e {n : Int} : pwnLo infR minf n = infR ∧ pwnHi infR minf n = minf := ⟨if_pos emp_e, if_pos emp_e⟩
theorem pwn_p {p q : Nat} (h : PnE p q) (n : Int) : (pwnLo p q n = if n < -1024 ∨ 1024 < n then minf else if n = 0 then 4607182418800017408 else pwLo (pnA p q n) (pnB p q n) n) ∧ (pwnHi p q n = if n < -1024 ∨ 1024 < n then infR else if n = 0 then 4607182418800017408 else pwHi (pnA p q n) (pnB p q n) n) := by
  obtain ⟨e1, e2, e3, _⟩ := rd_pne h
  unfold pwnLo pwnHi
  rw [if_neg e3, if_neg e3, e1, e2]
  exact ⟨rfl, rfl⟩
theorem pwn_vld {p q : Nat} (h : PnE p q) (n : Int) : Inc infR minf (pwnLo p q n) (pwnHi p q n) := by
  rw [(pwn_p h n).1, (pwn_p h n).2]
  by_cases hr : n < -1024 ∨ 1024 < n
  · rw [if_pos hr, if_pos hr]; exact inc_ep all_pne
  · rw [if_neg hr, if_neg hr]
    by_cases hn : n = 0
    · rw [if_pos hn, if_pos hn]; exact inc_ep one_pne
    · rw [if_neg hn, if_neg hn]
      by_cases hz : n < 0 ∧ mg (pnA p q n) = 0 ∧ mg (pnB p q n) = 0
      · rw [(pw_zero hz).1, (pw_zero hz).2]; exact inc_ee
      · exact inc_ep (pw_pne (rs_of h n) hr hn hz)
theorem pwn_inc {s1 s2 B1 B2 : Nat} (h : InR s1 s2 B1 B2) (n : Int) : Inc (pwnLo s1 s2 n) (pwnHi s1 s2 n) (pwnLo B1 B2 n) (pwnHi B1 B2 n) := by
  cases h with
  | ee => rw [pwn_e.1, pwn_e.2]; exact inc_ee
  | ep h => rw [pwn_e.1, pwn_e.2]; exact pwn_vld h n
  | pp hs hb k1 k2 =>
    rw [(pwn_p hs n).1, (pwn_p hs n).2, (pwn_p hb n).1, (pwn_p hb n).2]
    by_cases hr : n < -1024 ∨ 1024 < n
    · rw [if_pos hr, if_pos hr, if_pos hr, if_pos hr]; exact inc_pp all_pne all_pne (Int.le_refl _) (Int.le_refl _)
    · rw [if_neg hr, if_neg hr, if_neg hr, if_neg hr]
      by_cases hn : n = 0
      · rw [if_pos hn, if_pos hn, if_pos hn, if_pos hn]; exact inc_pp one_pne one_pne (Int.le_refl _) (Int.le_refl _)
      · rw [if_neg hn, if_neg hn, if_neg hn, if_neg hn]
        obtain ⟨m1, m2⟩ := pn_mono hs hb k1 k2 n
        exact pw_inc (rs_of hs n) (rs_of hb n) hr hn m1 m2
/-- Magnitudes. -/
theorem ab_p {p q : Nat} (h : PnE p q) : abLo p q = pl (szLo p q) ∧ abHi p q = pl (szHi p q) := by
  obtain ⟨e1, e2, e3, _⟩ := rd_pne h
  have e3' : ¬ (rdLo p q = infR ∧ rdHi p q = minf) := e3
  unfold abLo abHi
  rw [if_neg e3', if_neg e3', e1, e2]
  exact ⟨rfl, rfl⟩
theorem ab_e : abLo infR minf = infR ∧ abHi infR minf = minf := by decide
theorem ab_inc {s1 s2 B1 B2 : Nat} (h : InR s1 s2 B1 B2) : Inc (abLo s1 s2) (abHi s1 s2) (abLo B1 B2) (abHi B1 B2) := by
  cases h with
  | ee => rw [ab_e.1, ab_e.2]; exact inc_ee
  | ep h => rw [ab_e.1, ab_e.2, (ab_p h).1, (ab_p h).2]; exact inc_ep (pnE_sz h)
  | pp hs hb k1 k2 =>
    rw [(ab_p hs).1, (ab_p hs).2, (ab_p hb).1, (ab_p hb).2]
    obtain ⟨a1, a2, a3, a4, a5, a6⟩ := sz_ends hs.la hs.lb hs.na hs.nb hs.ia hs.ib
    obtain ⟨b1, b2, b3, b4, b5, b6⟩ := sz_ends hb.la hb.lb hb.na hb.nb hb.ia hb.ib
    have hm := sz_mono hs.ki k1 k2
    refine inc_pp (pnE_sz hs) (pnE_sz hb) ?_ ?_
    · rw [(pl_facts a1 a2).2.2.1, (pl_facts b1 b2).2.2.1]; exact hm.1
    · rw [(pl_facts a4 a5).2.2.1, (pl_facts b4 b5).2.2.1]; exact hm.2
/-- The lesser, the greater. -/
theorem pl_self_ {x : Nat} (h : x ≠ 9223372036854775808) : pl x = x := if_neg h
theorem kmin_cases (a b : Nat) : (kmin a b = a ∨ kmin a b = b) ∧ key (kmin a b) ≤ key a ∧ key (kmin a b) ≤ key b := by unfold kmin; split <;> simp <;> omega
theorem kmax_cases (a b : Nat) : (kmax a b = a ∨ kmax a b = b) ∧ key a ≤ key (kmax a b) ∧ key b ≤ key (kmax a b) := by unfold kmax; split <;> simp <;> omega
theorem kmin_pne {p q r t : Nat} (h : PnE p q) (g : PnE r t) : PnE (kmin p r) (kmin q t) := by
  have h1 := kmin_cases p r
  have h2 := kmin_cases q t
  have a := h.ki
  have b := g.ki
  refine ⟨?_, ?_, ?_, ?_, ?_, ?_, ?_, ?_, ?_⟩
  · rcases h1.1 with e | e <;> rw [e]; exact h.la; exact g.la
  · rcases h2.1 with e | e <;> rw [e]; exact h.lb; exact g.lb
  · rcases h1.1 with e | e <;> rw [e]; exact h.na; exact g.na
  · rcases h2.1 with e | e <;> rw [e]; exact h.nb; exact g.nb
  · rcases h2.1 with e | e <;> rw [e] <;> omega
  · rcases h1.1 with e | e <;> rw [e]; exact h.ma; exact g.ma
  · rcases h2.1 with e | e <;> rw [e]; exact h.mb; exact g.mb
  · rcases h1.1 with e | e <;> rw [e]; exact h.ia; exact g.ia
  · rcases h2.1 with e | e <;> rw [e]; exact h.ib; exact g.ib
theorem kmax_pne {p q r t : Nat} (h : PnE p q) (g : PnE r t) : PnE (kmax p r) (kmax q t) := by
  have h1 := kmax_cases p r
  have h2 := kmax_cases q t
  have a := h.ki
  have b := g.ki
  refine ⟨?_, ?_, ?_, ?_, ?_, ?_, ?_, ?_, ?_⟩
  · rcases h1.1 with e | e <;> rw [e]; exact h.la; exact g.la
  · rcases h2.1 with e | e <;> rw [e]; exact h.lb; exact g.lb
  · rcases h1.1 with e | e <;> rw [e]; exact h.na; exact g.na
  · rcases h2.1 with e | e <;> rw [e]; exact h.nb; exact g.nb
  · rcases h1.1 with e | e <;> rw [e] <;> omega
  · rcases h1.1 with e | e <;> rw [e]; exact h.ma; exact g.ma
  · rcases h2.1 with e | e <;> rw [e]; exact h.mb; exact g.mb
  · rcases h1.1 with e | e <;> rw [e]; exact h.ia; exact g.ia
  · rcases h2.1 with e | e <;> rw [e]; exact h.ib; exact g.ib
theorem kmin_mono {a b c d : Nat} (h1 : key a ≤ key c) (h2 : key b ≤ key d) : key (kmin a b) ≤ key (kmin c d) := by
  have h3 := kmin_cases a b
  rcases (kmin_cases c d).1 with e | e <;> rw [e] <;> omega
theorem kmax_mono {a b c d : Nat} (h1 : key a ≤ key c) (h2 : key b ≤ key d) : key (kmax a b) ≤ key (kmax c d) := by
  have h3 := kmax_cases c d
  rcases (kmax_cases a b).1 with e | e <;> rw [e] <;> omega
theorem min_p {p q z1 z2 : Nat} (h : PnE p q) (hz : ¬ emp z1 z2) (hr : PnE (rdLo z1 z2) (rdHi z1 z2)) : minLo p q z1 z2 = kmin p (rdLo z1 z2) ∧ minHi p q z1 z2 = kmin q (rdHi z1 z2) := by
  obtain ⟨e1, e2, e3, _⟩ := rd_pne h
  have hc : ¬ ((rdLo p q = infR ∧ rdHi p q = minf) ∨ (rdLo z1 z2 = infR ∧ rdHi z1 z2 = minf)) := fun g => by rcases g with g | g; exact e3 g; exact hz g
  have hk := kmin_pne h hr
  unfold minLo minHi
  rw [if_neg hc, if_neg hc, e1, e2, pl_self_ hk.ma, pl_self_ hk.mb]
  exact ⟨rfl, rfl⟩
theorem max_p {p q z1 z2 : Nat} (h : PnE p q) (hz : ¬ emp z1 z2) (hr : PnE (rdLo z1 z2) (rdHi z1 z2)) : maxLo z1 z2 p q = kmax (rdLo z1 z2) p ∧ maxHi z1 z2 p q = kmax (rdHi z1 z2) q := by
  obtain ⟨e1, e2, e3, _⟩ := rd_pne h
  have hc : ¬ ((rdLo z1 z2 = infR ∧ rdHi z1 z2 = minf) ∨ (rdLo p q = infR ∧ rdHi p q = minf)) := fun g => by rcases g with g | g; exact hz g; exact e3 g
  have hk := kmax_pne hr h
  unfold maxLo maxHi
  rw [if_neg hc, if_neg hc, e1, e2, pl_self_ hk.ma, pl_self_ hk.mb]
  exact ⟨rfl, rfl⟩
theorem min_e1 {x1 x2 z1 z2 : Nat} (h : emp x1 x2 ∨ emp z1 z2) : minLo x1 x2 z1 z2 = infR ∧ minHi x1 x2 z1 z2 = minf ∧ maxLo x1 x2 z1 z2 = infR ∧ maxHi x1 x2 z1 z2 = minf := by
  have hc : (rdLo x1 x2 = infR ∧ rdHi x1 x2 = minf) ∨ (rdLo z1 z2 = infR ∧ rdHi z1 z2 = minf) := h
  unfold minLo minHi maxLo maxHi
  rw [if_pos hc, if_pos hc, if_pos hc, if_pos hc]
  exact ⟨rfl, rfl, rfl, rfl⟩
theorem min_inc {s1 s2 B1 B2 z1 z2 : Nat} (h : InR s1 s2 B1 B2) (hl : z1 < 18446744073709551616) (hh : z2 < 18446744073709551616) : Inc (minLo s1 s2 z1 z2) (minHi s1 s2 z1 z2) (minLo B1 B2 z1 z2) (minHi B1 B2 z1 z2) := by
  by_cases hz : emp z1 z2
  · rw [(min_e1 (x1 := s1) (x2 := s2) (.inr hz)).1, (min_e1 (x1 := s1) (x2 := s2) (.inr hz)).2.1, (min_e1 (x1 := B1) (x2 := B2) (.inr hz)).1, (min_e1 (x1 := B1) (x2 := B2) (.inr hz)).2.1]
    exact inc_ee
  · have hr := pnE_rd hl hh hz
    cases h with
    | ee => rw [(min_e1 (z1 := z1) (z2 := z2) (.inl emp_e)).1, (min_e1 (z1 := z1) (z2 := z2) (.inl emp_e)).2.1]; exact inc_ee
    | ep h => rw [(min_e1 (z1 := z1) (z2 := z2) (.inl emp_e)).1, (min_e1 (z1 := z1) (z2 := z2) (.inl emp_e)).2.1, (min_p h hz hr).1, (min_p h hz hr).2]; exact inc_ep (kmin_pne h hr)
    | pp hs hb k1 k2 =>
      rw [(min_p hs hz hr).1, (min_p hs hz hr).2, (min_p hb hz hr).1, (min_p hb hz hr).2]
      exact inc_pp (kmin_pne hs hr) (kmin_pne hb hr) (kmin_mono k1 (Int.le_refl _)) (kmin_mono k2 (Int.le_refl _))
theorem max_inc {s1 s2 B1 B2 z1 z2 : Nat} (h : InR s1 s2 B1 B2) (hl : z1 < 18446744073709551616) (hh : z2 < 18446744073709551616) : Inc (maxLo z1 z2 s1 s2) (maxHi z1 z2 s1 s2) (maxLo z1 z2 B1 B2) (maxHi z1 z2 B1 B2) := by
  by_cases hz : emp z1 z2
  · rw [(min_e1 (z1 := s1) (z2 := s2) (.inl hz)).2.2.1, (min_e1 (z1 := s1) (z2 := s2) (.inl hz)).2.2.2, (min_e1 (z1 := B1) (z2 := B2) (.inl hz)).2.2.1, (min_e1 (z1 := B1) (z2 := B2) (.inl hz)).2.2.2]
    exact inc_ee
  · have hr := pnE_rd hl hh hz
    cases h with
    | ee => rw [(min_e1 (x1 := z1) (x2 := z2) (.inr emp_e)).2.2.1, (min_e1 (x1 := z1) (x2 := z2) (.inr emp_e)).2.2.2]; exact inc_ee
    | ep h => rw [(min_e1 (x1 := z1) (x2 := z2) (.inr emp_e)).2.2.1, (min_e1 (x1 := z1) (x2 := z2) (.inr emp_e)).2.2.2, (max_p h hz hr).1, (max_p h hz hr).2]; exact inc_ep (kmax_pne hr h)
    | pp hs hb k1 k2 =>
      rw [(max_p hs hz hr).1, (max_p hs hz hr).2, (max_p hb hz hr).1, (max_p hb hz hr).2]
      exact inc_pp (kmax_pne hr hs) (kmax_pne hr hb) (kmax_mono (Int.le_refl _) k1) (kmax_mono (Int.le_refl _) k2)
/-- Steps. -/
theorem pi_p {p q : Nat} (k : Nat) (h : PnE p q) : PnE (piLo k p q) (piHi k p q) ∧ key (piLo k p q) = key (stF k p) ∧ key (piHi k p q) = key (stF k q) := by
  obtain ⟨e1, e2, e3, _⟩ := rd_pne h
  have hs := stF_snd k h.la h.lb h.na h.nb h.ia h.ib h.ki
  obtain ⟨a1, a2, _, _⟩ := stF_facts k h.la h.na
  obtain ⟨b1, b2, _, _⟩ := stF_facts k h.lb h.nb
  have f1 : piLo k p q = pl (stF k p) := by
    unfold piLo; rw [if_neg e3, e1, e2]; unfold rdLo; rw [hs, if_pos rfl]
  have f2 : piHi k p q = pl (stF k q) := by
    unfold piHi; rw [if_neg e3, e1, e2]; unfold rdHi; rw [hs, if_pos rfl]
  obtain ⟨h1, h2, h3⟩ : key (stF k p) ≤ key (stF k q) ∧ key (stF k p) < 9218868437227405312 ∧ -9218868437227405312 < key (stF k q) := by
    have hse := hs
    unfold sndB leB ltB at hse
    simp only [Bool.and_eq_true, key_inf, key_minf] at hse
    exact ⟨of_decide_eq_true hse.1.1.2, of_decide_eq_true hse.1.2.2, of_decide_eq_true hse.2.2⟩
  obtain ⟨p1, p2, p3, p4⟩ := pl_facts a1 a2
  obtain ⟨q1, q2, q3, q4⟩ := pl_facts b1 b2
  rw [f1, f2]
  refine ⟨⟨p1, q1, p2, q2, by rw [p3, q3]; exact h1, p4, q4, fun e => ?_, fun e => ?_⟩, p3, q3⟩
  · rw [e, key_inf] at p3; omega
  · rw [e, key_minf] at q3; omega
theorem pi_e (k : Nat) : piLo k infR minf = infR ∧ piHi k infR minf = minf := ⟨if_pos emp_e, if_pos emp_e⟩
theorem pi_inc {s1 s2 B1 B2 : Nat} (h : InR s1 s2 B1 B2) (k : Nat) : Inc (piLo k s1 s2) (piHi k s1 s2) (piLo k B1 B2) (piHi k B1 B2) := by
  cases h with
  | ee => rw [(pi_e k).1, (pi_e k).2]; exact inc_ee
  | ep h => rw [(pi_e k).1, (pi_e k).2]; exact inc_ep (pi_p k h).1
  | pp hs hb k1 k2 =>
    obtain ⟨a1, a2, a3⟩ := pi_p k hs
    obtain ⟨b1, b2, b3⟩ := pi_p k hb
    refine inc_pp a1 b1 ?_ ?_
    · rw [a2, b2]; exact stF_mono k hb.la hs.la hb.na hs.na k1
    · rw [a3, b3]; exact stF_mono k hs.lb hb.lb hs.nb hb.nb k2
/-- The law's own two intervals. -/
theorem hull_in {x1 x2 y1 y2 : Nat} (hx1 : x1 < 18446744073709551616) (hx2 : x2 < 18446744073709551616) (hy1 : y1 < 18446744073709551616) (hy2 : y2 < 18446744073709551616) : InR (rdLo x1 x2) (rdHi x1 x2) (huLo x1 x2 y1 y2) (huHi x1 x2 y1 y2) := by
  unfold huLo huHi
  by_cases h1 : emp x1 x2
  · rw [if_pos h1, if_pos h1, h1.1, h1.2]
    by_cases h2 : emp y1 y2
    · rw [h2.1, h2.2]; exact .ee
    · exact .ep (pnE_rd hy1 hy2 h2)
  · rw [if_neg h1, if_neg h1]
    have hx := pnE_rd hx1 hx2 h1
    by_cases h2 : emp y1 y2
    · rw [if_pos h2, if_pos h2]; exact .pp hx hx (Int.le_refl _) (Int.le_refl _)
    · rw [if_neg h2, if_neg h2]
      have hy := pnE_rd hy1 hy2 h2
      generalize rdLo x1 x2 = p at *
      generalize rdHi x1 x2 = q at *
      generalize rdLo y1 y2 = r at *
      generalize rdHi y1 y2 = t at *
      have a := hx.ki
      have b := hy.ki
      have l1 : (ltB r p = true) ↔ key r < key p := by unfold ltB; rw [hx.na, hy.na]; simp
      have l2 : (ltB q t = true) ↔ key q < key t := by unfold ltB; rw [hx.nb, hy.nb]; simp
      by_cases c1 : ltB r p = true <;> by_cases c2 : ltB q t = true
      · rw [if_pos c1, if_pos c2]
        exact .pp hx hy (by have := l1.1 c1; omega) (by have := l2.1 c2; omega)
      · rw [if_pos c1, if_neg c2]
        have d1 := l1.1 c1
        refine .pp hx ⟨hy.la, hx.lb, hy.na, hx.nb, by omega, hy.ma, hx.mb, hy.ia, hx.ib⟩ (by omega) (Int.le_refl _)
      · rw [if_neg c1, if_pos c2]
        have d2 := l2.1 c2
        refine .pp hx ⟨hx.la, hy.lb, hx.na, hy.nb, by omega, hx.ma, hy.mb, hx.ia, hy.ib⟩ (Int.le_refl _) (by omega)
      · rw [if_neg c1, if_neg c2]
        exact .pp hx hx (Int.le_refl _) (Int.le_refl _)
end Go.Proofs.YtadijoeeaineaaaDoor

/-
  The contract of the program's Pow where it answers a number. Conditions: those that each theorem names.
-/
namespace Go.Proofs.YtadijoeeaineaaaDoor
open Go.RowKit Nm Rn
theorem pow_num (d : Int) (x : Nat) (n : Int) (w : World) (hx : x < 18446744073709551616) (hT : Tab w) (h : isNaN (powR d x n) = false) :
    Calls Tryd.prog 10 #[.int .i64 d, .float .f64 x, .int .i64 n] w fun e w' => e = .returned (.float .f64 (powR d x n)) ∧ Ext w w' := by
  refine (rpow_prog d x n w hx hT).mono ?_
  rintro e w2 ⟨r, rfl, hr, hc, hE⟩
  rw [cn_eq hc h]
  exact ⟨rfl, hE⟩
end Go.Proofs.YtadijoeeaineaaaDoor

/-
  The contract of the program's empty; its intervals' zero and size. Conditions: those that each theorem names.
-/
namespace Go.Proofs.YtadijoeeaineaaaDoor
open Go.RowKit Nm Rn
set_option maxRecDepth 100000
set_option linter.unusedVariables false
set_option linter.unusedSimpArgs false

theorem zero_iv (w : World) : (zeroValue 61).run Tryd.prog w = .ok (.agg #[.float .f64 0, .float .f64 0]) w := by kernel_rfl
theorem agg_iv (w : World) : (isAgg 61).run Tryd.prog w = .ok true w := by kernel_rfl
theorem size_iv (w : World) : (sizeOf 61).run Tryd.prog w = .ok 2 w := by kernel_rfl
set_option maxHeartbeats 1000000 in
theorem iemp_any (lo hi : Nat) (w : World) (hl : lo < 18446744073709551616) (hh : hi < 18446744073709551616) :
    Calls Tryd.prog 150 #[.agg #[.float .f64 lo, .float .f64 hi]] w fun e w' => e = .returned (.bool (ltB hi lo)) ∧ Ext w w' := by
  have hq := fo_gt hl hh
  obtain ⟨R, hR⟩ : ∃ R, R = ltB hi lo := ⟨_, rfl⟩
  rw [← hR] at hq ⊢
  clear hR hl hh
  go_enter Tryd.func150, Tryd.ntmps150
  go_wp2
  go_ret
  exact ⟨ret_bool (by first | rfl | exact hq), (Ext.refl w).alloc _⟩

end Go.Proofs.YtadijoeeaineaaaDoor

/-
  The contracts of the program's intervals, fourth part: Valid. Conditions: those that each theorem names.
-/
namespace Go.Proofs.YtadijoeeaineaaaDoor
open Go.RowKit Nm Rn
set_option maxRecDepth 100000
set_option linter.unusedVariables false
set_option linter.unusedSimpArgs false

@[go_sem] theorem run_equalIn_float (P : Program) (w : World) (d : Nat) (t : TypeId) (k : FloatKind) (a b : Nat) (h : P.underlying t = some (.float k)) : (Op.equalIn (d + 1) t (.float k a) (.float k b)).run P w = .ok (k.format.order a b == some .eq) w := by
  simp [Op.equalIn, run_underlying h, Op.floatEq]
theorem eqF {a b c d : Nat} (ha : a < 18446744073709551616) (hb : b < 18446744073709551616) (hc : c < 18446744073709551616) (hd : d < 18446744073709551616) (w : World) : (binOp .eql 61 (.agg #[.float .f64 a, .float .f64 b]) (.agg #[.float .f64 c, .float .f64 d])).run Tryd.prog w = .ok (.bool (eqB a c && eqB b d)) w := by
  rw [← fo_eq ha hc, ← fo_eq hb hd]
  cases h1 : (FloatKind.f64.format.order a c == some .eq) <;> cases h2 : (FloatKind.f64.format.order b d == some .eq) <;> go_simp <;> simp [h1, h2]
theorem eqF' {a b c d : Nat} (ha : a < 18446744073709551616) (hb : b < 18446744073709551616) (hc : c < 18446744073709551616) (hd : d < 18446744073709551616) {E : Bool} (h : (eqB a c && eqB b d) = E) (w : World) : (binOp .eql 61 (.agg #[.float .f64 a, .float .f64 b]) (.agg #[.float .f64 c, .float .f64 d])).run Tryd.prog w = .ok (.bool E) w := by rw [eqF ha hb hc hd, h]

end Go.Proofs.YtadijoeeaineaaaDoor
