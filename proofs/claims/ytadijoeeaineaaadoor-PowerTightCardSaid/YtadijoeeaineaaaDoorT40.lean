/-
  Plain: over a part of an interval each call of chapter 7 answers a part. Conditions: those that each theorem names.
-/
import Derived.Test.YtadijoeeaineaaaDoorT23
import Derived.Test.YtadijoeeaineaaaDoorT27
import Derived.Test.YtadijoeeaineaaaDoorT39
import Derived.Test.YtadijoeeaineaaaDoorT35
namespace Go.Proofs.YtadijoeeaineaaaDoor
open Nm Rn
set_option linter.unusedVariables false
set_option linter.unusedSimpArgs false

theorem rd_pne {p q : Nat} (h : PnE p q) : rdLo p q = p ∧ rdHi p q = q ∧ ¬ emp p q ∧ sndB p q = true := by
  have r1 := key_le h.na
  have r2 := key_le h.nb
  have i1 := key_eq_inf h.la h.na
  have i2 := key_eq_minf h.lb h.nb
  have ia := h.ia
  have ib := h.ib
  have hs : sndB p q = true := by
    unfold sndB leB ltB
    rw [h.na, h.nb, nan_inf, nan_minf, key_inf, key_minf]
    simp only [Bool.not_false, Bool.true_and, Bool.and_eq_true, decide_eq_true_eq]
    refine ⟨⟨h.ki, ?_⟩, ?_⟩ <;> omega
  have e1 : rdLo p q = p := by unfold rdLo; rw [hs, if_pos rfl]; unfold pl; rw [if_neg h.ma]
  have e2 : rdHi p q = q := by unfold rdHi; rw [hs, if_pos rfl]; unfold pl; rw [if_neg h.mb]
  refine ⟨e1, e2, fun he => ?_, hs⟩
  have := he.1
  rw [e1] at this
  exact ia this
theorem emp_e : emp infR minf := by decide
theorem vld_pne {p q : Nat} (h : PnE p q) : vldB p q = true := by
  have := (rd_pne h).2.2.2
  unfold vldB
  rw [this, decide_eq_true h.ma, decide_eq_true h.mb]
  simp
/-- The smaller interval is empty, or both are intervals, one in the other. -/
inductive InR : Nat → Nat → Nat → Nat → Prop
  | ee : InR infR minf infR minf
  | ep {B1 B2 : Nat} (h : PnE B1 B2) : InR infR minf B1 B2
  | pp {s1 s2 B1 B2 : Nat} (hs : PnE s1 s2) (hb : PnE B1 B2) (k1 : key B1 ≤ key s1) (k2 : key s2 ≤ key B2) : InR s1 s2 B1 B2

/-- Powers. -/
theorem powR_nz {d : Int} {x : Nat} {n : Int} : powR d x n ≠ 9223372036854775808 := by
  unfold powR
  have hr : ∀ s Z, rnd d s Z ≠ 9223372036854775808 := fun s Z => pat_nz (rr_le d s Z)
  split
  · decide
  · split
    · decide
    · split
      · split
        · decide
        · split <;> decide
      · split
        · decide
        · split
          · exact hr _ _
          · exact hr _ _
theorem rnd_ninf {s : Bool} {Z : Nat} : rnd (-1) s Z ≠ infR ∧ rnd 1 s Z ≠ minf := by
  have e := infR_val
  have e2 := minf_val
  constructor
  · have hl := rr_le (-1) s Z
    unfold rnd pat
    cases s
    · have : rr (-1) false Z ≤ infR - 1 := by unfold rr; rw [if_pos (.inr ⟨rfl, rfl⟩)]; exact Nat.min_le_right _ _
      split
      · omega
      · rw [if_neg (by simp)]; omega
    · split
      · omega
      · rw [if_pos rfl]; omega
  · have hl := rr_le 1 s Z
    unfold rnd pat
    cases s
    · split
      · omega
      · rw [if_neg (by simp)]; omega
    · have : rr 1 true Z ≤ infR - 1 := by unfold rr; rw [if_pos (.inl ⟨rfl, rfl⟩)]; exact Nat.min_le_right _ _
      split
      · omega
      · rw [if_pos rfl]; omega
theorem inf_pat {x : Nat} (hx : x < 18446744073709551616) (h : mg x = infR) : x = if sg x then minf else infR := by
  have := split_pat hx
  have e := infR_val
  have e2 := minf_val
  cases hs : sg x
  · rw [hs] at this; simp at this; rw [if_neg (by simp)]; omega
  · rw [hs] at this; simp at this; rw [if_pos rfl]; omega
theorem tmod_emod {n : Int} : n.tmod 2 = 0 ↔ n % 2 = 0 := by
  constructor
  · intro h; exact Int.emod_eq_zero_of_dvd (Int.dvd_of_tmod_eq_zero h)
  · intro h; exact Int.tmod_eq_zero_of_dvd (Int.dvd_of_emod_eq_zero h)
/-- The ends that are raised. -/
structure Rs (a b : Nat) (n : Int) : Prop extends PnE a b where
  ev : n.tmod 2 = 0 → 0 ≤ key a
theorem pow_lo_ne {x : Nat} {n : Int} (hx : x < 18446744073709551616) (nx : isNaN x = false) (hr : ¬ (n < -1024 ∨ 1024 < n)) (hn : n ≠ 0) (hz : mg x ≠ 0 ∨ 0 < n) (hi : 0 < n → x ≠ infR) (hev : n.tmod 2 = 0 → 0 ≤ key x) : powR (-1) x n ≠ infR := by
  by_cases fx : mg x = infR
  · rw [powR_inf nx hr fx hn]
    split
    · decide
    · have hp : 0 < n := by omega
      have hpat := inf_pat hx fx
      cases hs : sg x
      · rw [hs] at hpat; exact absurd (by simpa using hpat) (hi hp)
      · have ho : n.tmod 2 ≠ 0 := fun h => by
          have := hev h
          unfold key at this
          rw [hs, fx] at this
          have e := infR_val
          simp at this
          omega
        rw [Bool.true_and, if_pos (by rw [decide_eq_true_iff]; exact fun h => ho (tmod_emod.2 h))]
        decide
  · have hf : mg x < infR := by have := mg_le_inf nx; omega
    by_cases hp : 0 < n
    · rw [powR_pos nx hr hf hp]; exact rnd_ninf.1
    · rw [powR_neg nx hr hf (by omega) (by omega)]; exact rnd_ninf.1
theorem pow_hi_ne {x : Nat} {n : Int} (hx : x < 18446744073709551616) (nx : isNaN x = false) (hr : ¬ (n < -1024 ∨ 1024 < n)) (hn : n ≠ 0) (hz : mg x ≠ 0 ∨ 0 < n) (hi : 0 < n → x ≠ minf) : powR 1 x n ≠ minf := by
  by_cases fx : mg x = infR
  · rw [powR_inf nx hr fx hn]
    split
    · decide
    · have hp : 0 < n := by omega
      have hpat := inf_pat hx fx
      cases hs : sg x
      · rw [Bool.false_and, if_neg (by simp)]; decide
      · rw [hs] at hpat; exact absurd (by simpa using hpat) (hi hp)
  · have hf : mg x < infR := by have := mg_le_inf nx; omega
    by_cases hp : 0 < n
    · rw [powR_pos nx hr hf hp]; exact rnd_ninf.2
    · rw [powR_neg nx hr hf (by omega) (by omega)]; exact rnd_ninf.2
theorem key0 {x : Nat} : key x = 0 ↔ mg x = 0 := by unfold key; split <;> omega
theorem one_pne : PnE 4607182418800017408 4607182418800017408 := ⟨by decide, by decide, by decide, by decide, by decide, by decide, by decide, by decide, by decide⟩
theorem all_pne : PnE minf infR := ⟨by decide, by decide, by decide, by decide, by decide, by decide, by decide, by decide, by decide⟩
theorem d1 : Dir 1 := .inl rfl
theorem d2 : Dir (-1) := .inr rfl
theorem pw_mono_r {d : Int} (hd : Dir d) {a b c e : Nat} {n : Int} (h1 : Rs a b n) (hr : ¬ (n < -1024 ∨ 1024 < n)) (hn : 0 < n) {x y : Nat} (hx : isNaN x = false) (hy : isNaN y = false) (hx0 : n.tmod 2 = 0 → 0 ≤ key x) (h : key x ≤ key y) : key (powR d x n) ≤ key (powR d y n) := by
  by_cases ho : n.tmod 2 = 0
  · exact (pw_mono_nn hd hx hy hr hn (hx0 ho) h).2
  · exact pw_mono_odd hd hx hy hr hn ho h
/-- A negative power turns order round among ends of one sign. -/
theorem pw_anti {d : Int} (hd : Dir d) {x y : Nat} {n : Int} (hx : isNaN x = false) (hy : isNaN y = false) (hr : ¬ (n < -1024 ∨ 1024 < n)) (hn : n < 0) (hs : 0 < key x ∨ (key y < 0 ∧ n.tmod 2 ≠ 0)) (h : key x ≤ key y) : key (powR d y n) ≤ key (powR d x n) := by
  rcases hs with h0 | ⟨h0, ho⟩
  · exact (pw_anti_p hd hx hy hr hn h0 h).1
  · exact (pw_anti_n hd hx hy hr hn ho h0 h).1

theorem pw_pne {a b : Nat} {n : Int} (h : Rs a b n) (hr : ¬ (n < -1024 ∨ 1024 < n)) (hn : n ≠ 0) (hz : ¬ (n < 0 ∧ mg a = 0 ∧ mg b = 0)) : PnE (pwLo a b n) (pwHi a b n) := by
  have la := h.la
  have lb := h.lb
  have na := h.na
  have nb := h.nb
  have ka := @key0 a
  have kb := @key0 b
  have kab := h.ki
  have ok : ∀ d x, isNaN x = false → isNaN (powR d x n) = false ∧ powR d x n < 18446744073709551616 := fun d x hx => powR_ok hx hr
  unfold pwLo pwHi
  by_cases hp : 0 < n
  · rw [if_pos hp, if_pos hp]
    refine ⟨(ok _ _ na).2, (ok _ _ nb).2, (ok _ _ na).1, (ok _ _ nb).1, ?_, powR_nz, powR_nz, ?_, ?_⟩
    · have h1 := pw_mono_r d2 (c := 0) (e := 0) h hr hp na nb h.ev kab
      have h2 := pw_dirs nb hr hn (.inr hp)
      omega
    · exact pow_lo_ne la na hr hn (.inr hp) (fun _ => h.ia) h.ev
    · exact pow_hi_ne lb nb hr hn (.inr hp) (fun _ => h.ib)
  · rw [if_neg hp, if_neg hp]
    have hneg : n < 0 := by omega
    rw [if_neg (fun g => hz ⟨hneg, g⟩), if_neg (fun g => hz ⟨hneg, g⟩)]
    by_cases hc : key a < 0 ∧ 0 < key b
    · rw [if_pos hc, if_pos hc]; exact all_pne
    · rw [if_neg hc, if_neg hc]
      have hev := h.ev
      have sgn : mg b ≠ 0 → mg a ≠ 0 → 0 < key a ∨ (key b < 0 ∧ n.tmod 2 ≠ 0) := fun hb0 ha0 => by
        by_cases h1 : 0 < key a
        · exact .inl h1
        · have h2 : key a < 0 := by omega
          exact .inr ⟨by omega, fun he => by have := hev he; omega⟩
      by_cases zb : mg b = 0
      · rw [if_pos zb]
        have za : mg a ≠ 0 := fun g => hz ⟨hneg, g, zb⟩
        rw [if_neg za]
        refine ⟨minf_lt, (ok _ _ na).2, nan_minf, (ok _ _ na).1, ?_, by decide, powR_nz, by decide, pow_hi_ne la na hr hn (.inl za) (fun g => by omega)⟩
        rw [key_minf]
        exact (key_le (ok 1 a na).1).2
      · rw [if_neg zb]
        by_cases za : mg a = 0
        · rw [if_pos za]
          refine ⟨(ok _ _ nb).2, infR_lt, (ok _ _ nb).1, nan_inf, ?_, powR_nz, by decide, pow_lo_ne lb nb hr hn (.inl zb) (fun g => by omega) (fun he => by have := hev he; omega), by decide⟩
          rw [key_inf]
          exact (key_le (ok (-1) b nb).1).1
        · rw [if_neg za]
          refine ⟨(ok _ _ nb).2, (ok _ _ na).2, (ok _ _ nb).1, (ok _ _ na).1, ?_, powR_nz, powR_nz, pow_lo_ne lb nb hr hn (.inl zb) (fun g => by omega) (fun he => by have := hev he; omega), pow_hi_ne la na hr hn (.inl za) (fun g => by omega)⟩
          have h1 := pw_anti d2 na nb hr hneg (sgn zb za) kab
          have h2 := pw_dirs na hr hn (.inl za)
          omega
theorem sz_mono {p q P Q : Nat} (hp : key p ≤ key q) (k1 : key P ≤ key p) (k2 : key q ≤ key Q) : key (szLo P Q) ≤ key (szLo p q) ∧ key (szHi p q) ≤ key (szHi P Q) := by
  have a1 := @mx_key p
  have a2 := @mx_key q
  have a3 := @mx_key P
  have a4 := @mx_key Q
  have k0 : key 0 = 0 := rfl
  have s1 := @sz_key p q
  constructor
  · unfold szLo
    by_cases h1 : key P ≤ 0 ∧ 0 ≤ key Q
    · rw [if_pos h1, k0]; have := s1.2; unfold szLo at this; exact this
    · rw [if_neg h1, if_neg (c := key p ≤ 0 ∧ 0 ≤ key q) (by omega)]
      revert a1 a2 a3 a4
      split <;> split <;> split <;> split <;> split <;> split <;> (intro a1 a2 a3 a4; omega)
  · unfold szHi
    revert a1 a2 a3 a4
    split <;> split <;> split <;> split <;> split <;> split <;> (intro a1 a2 a3 a4; omega)
theorem rs_of {p q : Nat} (h : PnE p q) (n : Int) : Rs (pnA p q n) (pnB p q n) n := by
  refine ⟨pnE_n h n, fun he => ?_⟩
  unfold pnA
  rw [if_pos he]
  obtain ⟨k1, k2, k3, k4, k5, k6⟩ := sz_ends h.la h.lb h.na h.nb h.ia h.ib
  rw [(pl_facts k1 k2).2.2.1]
  exact (@sz_key p q).2
theorem pn_mono {p q P Q : Nat} (h : PnE p q) (g : PnE P Q) (k1 : key P ≤ key p) (k2 : key q ≤ key Q) (n : Int) : key (pnA P Q n) ≤ key (pnA p q n) ∧ key (pnB p q n) ≤ key (pnB P Q n) := by
  unfold pnA pnB
  by_cases he : n.tmod 2 = 0
  · rw [if_pos he, if_pos he, if_pos he, if_pos he]
    obtain ⟨a1, a2, a3, a4, a5, a6⟩ := sz_ends h.la h.lb h.na h.nb h.ia h.ib
    obtain ⟨b1, b2, b3, b4, b5, b6⟩ := sz_ends g.la g.lb g.na g.nb g.ia g.ib
    rw [(pl_facts a1 a2).2.2.1, (pl_facts a4 a5).2.2.1, (pl_facts b1 b2).2.2.1, (pl_facts b4 b5).2.2.1]
    exact sz_mono h.ki k1 k2
  · rw [if_neg he, if_neg he, if_neg he, if_neg he]
    exact ⟨k1, k2⟩
theorem pwn_p {p q : Nat} (h : PnE p q) (n : Int) : (pwnLo p q n = if n < -1024 ∨ 1024 < n then minf else if n = 0 then 4607182418800017408 else pwLo (pnA p q n) (pnB p q n) n) ∧ (pwnHi p q n = if n < -1024 ∨ 1024 < n then infR else if n = 0 then 4607182418800017408 else pwHi (pnA p q n) (pnB p q n) n) := by
  obtain ⟨e1, e2, e3, _⟩ := rd_pne h
  unfold pwnLo pwnHi
  rw [if_neg e3, if_neg e3, e1, e2]
  exact ⟨rfl, rfl⟩
end Go.Proofs.YtadijoeeaineaaaDoor

/-
  Plain: the ends of a power of an interval are those of the powers of numbers of it. Conditions: those that each theorem names.
-/
namespace Go.Proofs.YtadijoeeaineaaaDoor
open Nm Rn
set_option linter.unusedVariables false
set_option linter.unusedSimpArgs false

theorem pwS_even {n : Int} (hn : n.tmod 2 = 0) (hp : 0 < n) (s : Bool) : pwS s n.toNat = false := by
  obtain ⟨m, rfl⟩ := Int.eq_ofNat_of_zero_le (show 0 ≤ n by omega)
  have h2 : m % 2 = 0 := by
    have : (m : Int).tmod 2 = ((m % 2 : Nat) : Int) := rfl
    rw [this] at hn
    omega
  unfold pwS
  rw [Int.toNat_natCast, h2]
  cases s <;> rfl
theorem mg_pw {d : Int} {x y : Nat} {n : Int} (nx : isNaN x = false) (ny : isNaN y = false) (fx : mg x < infR) (e : mg x = mg y) (hn : 0 < n) (hb : n ≤ 1024) (he : n.tmod 2 = 0) : powR d x n = powR d y n := by
  rw [powR_pos nx (by omega) fx hn, powR_pos ny (by omega) (by omega) hn, pwS_even he hn, pwS_even he hn, Nat.le_antisymm (ZP_mono (x := x) (y := y) n.toNat (by omega)) (ZP_mono (x := y) (y := x) n.toNat (by omega))]
theorem mx_mg {x : Nat} : mg (mx x) = mg x := by
  unfold mx
  split
  · unfold mg; omega
  · rfl
theorem mg_plq (y : Nat) : mg (pl y) = mg y := by
  unfold pl
  split
  · rename_i h; rw [h]; decide
  · rfl
/-- The magnitude of an end of an even power. -/
theorem sz_mg {p q : Nat} (h : PnE p q) :
    (mg (pl (szLo p q)) = mg p ∨ mg (pl (szLo p q)) = mg q ∨ (key p < 0 ∧ 0 < key q ∧ mg (pl (szLo p q)) = mg 0)) ∧ (mg (pl (szHi p q)) = mg p ∨ mg (pl (szHi p q)) = mg q) := by
  obtain ⟨k1, k2, k3, k4, k5, k6⟩ := sz_ends h.la h.lb h.na h.nb h.ia h.ib
  rw [mg_plq, mg_plq]
  have e1 := @mx_mg p
  have e2 := @mx_mg q
  constructor
  · unfold szLo
    split
    · rename_i hz
      by_cases z1 : key p = 0
      · left; rw [key0.1 z1]; rfl
      · by_cases z2 : key q = 0
        · right; left; rw [key0.1 z2]; rfl
        · right; right; exact ⟨by omega, by omega, rfl⟩
    · split
      · right; left; exact e2
      · left; exact e1
  · unfold szHi
    split
    · left; exact e1
    · right; exact e2
theorem pwn_pos {p q : Nat} (h : PnE p q) {n : Int} (hn : 0 < n) (hb : n ≤ 1024) : pwnLo p q n = powR (-1) (pnA p q n) n ∧ pwnHi p q n = powR 1 (pnB p q n) n := by
  obtain ⟨e1, e2⟩ := pwn_p h n
  rw [e1, e2, if_neg (by omega), if_neg (by omega), if_neg (by omega), if_neg (by omega)]
  unfold pwLo pwHi
  rw [if_pos hn, if_pos hn]
  exact ⟨rfl, rfl⟩
/-- The powers of an interval of one number. -/
theorem pwn_pt {x : Nat} (h : PnE x x) (fx : mg x < infR) {n : Int} (hn : 0 < n) (hb : n ≤ 1024) : pwnLo x x n = powR (-1) x n ∧ pwnHi x x n = powR 1 x n := by
  obtain ⟨e1, e2⟩ := pwn_pos h hn hb
  rw [e1, e2]
  have hE := pnE_n h n
  by_cases he : n.tmod 2 = 0
  · obtain ⟨g1, g2⟩ := sz_mg h
    have a1 : mg (pnA x x n) = mg x := by
      unfold pnA
      rw [if_pos he]
      rcases g1 with g | g | ⟨g3, g4, _⟩
      · exact g
      · exact g
      · omega
    have a2 : mg (pnB x x n) = mg x := by
      unfold pnB
      rw [if_pos he]
      rcases g2 with g | g <;> exact g
    exact ⟨mg_pw hE.na h.na (by omega) a1 hn hb he, mg_pw hE.nb h.na (by omega) a2 hn hb he⟩
  · unfold pnA pnB
    rw [if_neg he, if_neg he]
    exact ⟨rfl, rfl⟩
/-- A power of a number of an interval lies between the ends of the interval's. -/
theorem ti_in {p q x : Nat} (h : PnE p q) (hx : PnE x x) (fx : mg x < infR) (k1 : key p ≤ key x) (k2 : key x ≤ key q) {n : Int} (hn : 0 < n) (hb : n ≤ 1024) : key (pwnLo p q n) ≤ key (powR (-1) x n) ∧ key (powR 1 x n) ≤ key (pwnHi p q n) := by
  have hr : ¬ (n < -1024 ∨ 1024 < n) := by omega
  obtain ⟨e1, e2⟩ := pwn_pt hx fx hn hb
  obtain ⟨e3, e4⟩ := pwn_pos h hn hb
  obtain ⟨e5, e6⟩ := pwn_pos hx hn hb
  rw [<- e1, <- e2, e3, e4, e5, e6]
  obtain ⟨m1, m2⟩ := pn_mono hx h k1 k2 n
  have r1 := rs_of h n
  have r2 := rs_of hx n
  constructor
  · by_cases ho : n.tmod 2 = 0
    · exact (pw_mono_nn d2 r1.na r2.na hr hn (r1.ev ho) m1).2
    · exact pw_mono_odd d2 r1.na r2.na hr hn ho m1
  · by_cases ho : n.tmod 2 = 0
    · exact (pw_mono_nn d1 r2.nb r1.nb hr hn (by have := r2.ev ho; have := r2.ki; omega) m2).2
    · exact pw_mono_odd d1 r2.nb r1.nb hr hn ho m2
/-- Both ends are some number's. -/
theorem ti_att {p q : Nat} (h : PnE p q) (fp : mg p < infR) (fq : mg q < infR) {n : Int} (hn : 0 < n) (hb : n ≤ 1024) :
    (pwnLo p q n = powR (-1) p n ∨ pwnLo p q n = powR (-1) q n ∨ (key p < 0 ∧ 0 < key q ∧ pwnLo p q n = powR (-1) 0 n)) ∧ (pwnHi p q n = powR 1 p n ∨ pwnHi p q n = powR 1 q n) := by
  obtain ⟨e3, e4⟩ := pwn_pos h hn hb
  rw [e3, e4]
  have hE := pnE_n h n
  have n0 : isNaN 0 = false := by decide
  have f0 : mg 0 < infR := by decide
  by_cases he : n.tmod 2 = 0
  · obtain ⟨g1, g2⟩ := sz_mg h
    have a1 : pnA p q n = pl (szLo p q) := by unfold pnA; rw [if_pos he]
    have a2 : pnB p q n = pl (szHi p q) := by unfold pnB; rw [if_pos he]
    rw [<- a1] at g1
    rw [<- a2] at g2
    constructor
    · rcases g1 with g | g | ⟨g3, g4, g⟩
      · exact .inl (mg_pw hE.na h.na (by omega) g hn hb he)
      · exact .inr (.inl (mg_pw hE.na h.nb (by omega) g hn hb he))
      · exact .inr (.inr ⟨g3, g4, mg_pw hE.na n0 (by omega) g hn hb he⟩)
    · rcases g2 with g | g
      · exact .inl (mg_pw hE.nb h.na (by omega) g hn hb he)
      · exact .inr (mg_pw hE.nb h.nb (by omega) g hn hb he)
  · unfold pnA pnB
    rw [if_neg he, if_neg he]
    exact ⟨.inl rfl, .inr rfl⟩

/-- The flags that a number raises. -/
def tiLow (x m y1 : Nat) : Bool := decide (stepP y1 = infR) || decide (rcR (tiS x m) (tiN x m) (tiD x m) (stepP y1) < 0)
def tiHigh (x m y2 : Nat) : Bool := (decide (y2 = 0) && decide (0 < rcR (tiS x m) (tiN x m) (tiD x m) 9223372036854775809)) || (decide (y2 ≠ 0) && (decide (prevP y2 = minf) || decide (0 < rcR (tiS x m) (tiN x m) (tiD x m) (prevP y2))))
theorem tiLow_of {x m y1 : Nat} {n : Int} (nx : isNaN x = false) (fx : mg x < infR) (hn : n = (m : Int)) (hm0 : 0 < m) (hm : m ≤ 1024) (e : y1 = powR (-1) x n) : tiLow x m y1 = true := by
  unfold tiLow
  rw [Bool.or_eq_true, decide_eq_true_iff, decide_eq_true_iff, e]
  exact ti_low nx fx hn hm0 hm
theorem tiHigh_of {x m y2 : Nat} {n : Int} (nx : isNaN x = false) (fx : mg x < infR) (hn : n = (m : Int)) (hm0 : 0 < m) (hm : m ≤ 1024) (e : y2 = powR 1 x n) : tiHigh x m y2 = true := by
  unfold tiHigh
  rw [Bool.or_eq_true, Bool.and_eq_true, Bool.and_eq_true, Bool.or_eq_true, decide_eq_true_iff, decide_eq_true_iff, decide_eq_true_iff, decide_eq_true_iff, decide_eq_true_iff, e]
  exact ti_high nx fx hn hm0 hm
end Go.Proofs.YtadijoeeaineaaaDoor

/-
  The walk through PowerTight, the whole. Conditions: those that each theorem names.
-/
namespace Go.Proofs.YtadijoeeaineaaaDoor
open Go.RowKit Go.Proofs.YtadijoeeaineaaaDoor.Nm Rn
set_option maxRecDepth 100000
set_option linter.unusedVariables false
set_option linter.unusedSimpArgs false

theorem xor_ng {b : Nat} (h : b < 18446744073709551616) : bits .xor .u64 (b : Int) 9223372036854775808 = ((ng b : Nat) : Int) := by
  rw [show (9223372036854775808 : Int) = ((9223372036854775808 : Nat) : Int) from rfl, u64_xor_nat _ _ h (by omega), ng_xor h]
theorem stepP_lt {b : Nat} (h : b < 18446744073709551615) : stepP b < 18446744073709551616 := by
  unfold stepP
  split
  · omega
  · split <;> omega
theorem bl_40 {n : Nat} (h : nw n ≤ 40) : bl n ≤ 3000 := by
  rw [nw_bl] at h
  omega
theorem tiE_of {x m y1 y2 : Nat} (hx : x < 18446744073709551616) (nx : isNaN x = false) (fx : mg x < infR) (hm0 : 0 < m) (hm : m ≤ 64) (hy : PnE y1 y2) (hv : vldB y1 y2 = true) (h : TiX x m y1 y2) (l1 : stepP y1 < 18446744073709551616) (l2 : prevP y2 < 18446744073709551616) :
    ∃ fS fN fD vS vN vD nS nN nD tS tN tD lS lN lD r1 r2 r3 c1 c2 c3, TiE x m y1 y2 (stepP y1) (prevP y2) (tiLow x m y1) (tiHigh x m y2) fS fN fD vS vN vD nS nN nD tS tN tD lS lN lD r1 r2 r3 c1 c2 c3 := by
  have im := minf_val
  have ii := infR_val
  obtain ⟨n1, n2⟩ := ti_nw x m (by omega)
  have pD := tiD_pos x m
  have ZN : ∀ b, nw (fbN b) ≤ 1000000 := fun b => Nat.le_trans (fbN_bits b) (by decide)
  have ZD : ∀ b, nw (fbD b) ≤ 1000000 := fun b => Nat.le_trans (fbD_bits b) (by decide)
  have CM : ∀ (b : Nat) (A1 : Option Addr) (l1 c1 : Nat) (B1 : Option Addr) (k1 d1 : Nat) (A2 : Option Addr) (l2 c2 : Nat) (B2 : Option Addr) (k2 d2 : Nat) (w : World), RatAt w A1 l1 c1 B1 k1 d1 (tiN x m) (tiD x m) → RatAt w A2 l2 c2 B2 k2 d2 (fbN b) (fbD b) → Calls Tryd.prog 43 #[.agg #[.bool (tiS x m), .slice A1 l1 c1, .slice B1 k1 d1], .agg #[.bool (sg b && decide (mg b ≠ 0)), .slice A2 l2 c2, .slice B2 k2 d2]] w (fun e w' => e = .returned (.int .i64 (rcR (tiS x m) (tiN x m) (tiD x m) b)) ∧ Ext w w') := by
    intro b A1 l1 c1 B1 k1 d1 A2 l2 c2 B2 k2 d2 w g1 g2
    have a1 := ZN b
    have a2 := ZD b
    have a3 := fbD_pos b
    exact rcmp_any _ A1 l1 c1 B1 k1 d1 _ _ _ A2 l2 c2 B2 k2 d2 _ _ w g1 g2 (by omega) (by omega) (by omega) (by omega) (by omega) (by omega)
  refine ⟨_, _, _, _, _, _, _, _, _, _, _, _, _, _, _, _, _, _, decide (stepP y1 = infR), decide (y2 = 0), decide (prevP y2 = minf),
    ⟨Lib.hid fun w => frombits_any x w hx, Lib.hid fun A l c B k d w g => rpowb_any _ A l c B k d _ _ m w g (by omega) (bl_40 (fbN_bits x)) (bl_40 (fbD_bits x)) (fbD_pos x),
     Lib.hid (holds7_any (by omega) hy hv h), Lib.hid fun w => frombits_any _ w l1, Lib.hid (CM _), Lib.hid fun w => frombits_any 9223372036854775809 w (by decide), Lib.hid (CM _), Lib.hid fun w => frombits_any _ w l2, Lib.hid (CM _),
     Lib.hid (by rw [Bool.eq_iff_iff, beq_iff_eq, decide_eq_true_iff]; omega), Lib.hid (by rw [Bool.eq_iff_iff, beq_iff_eq, decide_eq_true_iff]; omega), Lib.hid (by rw [Bool.eq_iff_iff, beq_iff_eq, decide_eq_true_iff]; omega), Lib.hid rfl, Lib.hid (by unfold tiHigh; rw [decide_not])⟩⟩
theorem tight_go (x1 x2 p q a b m : Nat) (n0 n1 : Int) (fe fp fq bad : Bool) (w : World) (hT : Tab w) (HRD : Hid (∀ w, Calls Tryd.prog 32 #[.agg #[.int .u64 (x1 : Int), .int .u64 (x2 : Int)]] w (RetI p q w)))
    (HLM : Hid (∀ w, Calls Tryd.prog 33 #[.int .i64 n0] w (fun x w' => x = .returned (.int .i64 n1) ∧ w = w'))) (hn : (decide (n1 < 1) = true ∧ m = 2) ∨ (decide (n1 < 1) = false ∧ n1 = (m : Int)))
    (hm0 : 0 < m) (hm : m ≤ 64)
    (hq1 : ∀ w, (binOp .eql 53 (.agg #[.int .u64 (p : Int), .int .u64 (q : Int)]) (.agg #[.int .u64 (infR : Int), .int .u64 (minf : Int)])).run Tryd.prog w = .ok (.bool fe) w)
    (HFP : Hid (∀ w, Calls Tryd.prog 20 #[.int .u64 (p : Int)] w (fun x w' => x = .returned (.bool fp) ∧ w = w'))) (HFQ : Hid (∀ w, Calls Tryd.prog 20 #[.int .u64 (q : Int)] w (fun x w' => x = .returned (.bool fq) ∧ w = w')))
    (hbad : (fe = true ∧ bad = true) ∨ (fe = false ∧ fp = false ∧ bad = true) ∨ (fe = false ∧ fp = true ∧ fq = false ∧ bad = true) ∨ (fe = false ∧ fp = true ∧ fq = true ∧ bad = false))
    (hab : (bad = true ∧ a = 13832806255468478464 ∧ b = 4613937818241073152) ∨ (bad = false ∧ a = p ∧ b = q)) (hE : PnE a b) (fa : mg a < infR) (fb : mg b < infR) :
    Calls Tryd.prog 6 #[.agg #[.int .u64 (x1 : Int), .int .u64 (x2 : Int)], .int .i64 n0] w fun e w' => e = .returned (.bool true) ∧ Ext w w' := by
  have hM : (0 : Int) < (m : Int) := by omega
  have hM2 : (m : Int) ≤ 1024 := by omega
  have hy : PnE (pwnLo a b (m : Int)) (pwnHi a b (m : Int)) := by
    obtain ⟨e1, e2⟩ := pwn_p hE (m : Int)
    rw [e1, e2, if_neg (by omega), if_neg (by omega), if_neg (by omega), if_neg (by omega)]
    exact pw_pne (rs_of hE _) (by omega) (by omega) (by omega)
  have hv := vld_pne hy
  have hin := fun x (h1 : PnE x x) (h2 : mg x < infR) (h3 : key a ≤ key x) (h4 : key x ≤ key b) => ti_in hE h1 h2 h3 h4 hM hM2
  obtain ⟨at1, at2⟩ := ti_att hE fa fb hM hM2
  have ii := infR_val
  have im := minf_val
  have HPN := Lib.hid (fun w hT => pown_any a b (m : Int) w hT hE.la hE.lb)
  generalize pwnLo a b (m : Int) = y1 at *
  generalize pwnHi a b (m : Int) = y2 at *
  have s1 := step_key hy.la hy.na hy.ia hy.ma
  have my2 := mg_le_inf hy.nb
  have my1 := mg_le_inf hy.na
  have l0 : ng y2 < 18446744073709551615 := by
    have := ng_lt hy.lb
    have e := mg_ng hy.lb
    unfold mg at e my2
    omega
  have l1 : y1 < 18446744073709551615 := by unfold mg at my1; have := hy.la; omega
  have l2 := stepP_lt l0
  have l3 : prevP y2 < 18446744073709551616 := ng_lt l2
  have hpa : PnE a a := ⟨hE.la, hE.la, hE.na, hE.na, Int.le_refl _, hE.ma, hE.ma, hE.ia, fun e => by rw [e] at fa; revert fa; decide⟩
  have hpb : PnE b b := ⟨hE.lb, hE.lb, hE.nb, hE.nb, Int.le_refl _, hE.mb, hE.mb, fun e => by rw [e] at fb; revert fb; decide, hE.ib⟩
  have hp0 : PnE 0 0 := ⟨by decide, by decide, by decide, by decide, by decide, by decide, by decide, by decide, by decide⟩
  have f0 : mg 0 < infR := by decide
  have n0' : isNaN 0 = false := by decide
  have k0 : key 0 = 0 := rfl
  have hL1 : ltB a 0 = decide (key a < 0) := by unfold ltB; rw [hE.na, n0', k0]; rfl
  have hL2 : ltB 0 b = decide (0 < key b) := by unfold ltB; rw [hE.nb, n0', k0]; rfl
  obtain ⟨xs, z, hxs, hz, hmem, hflo, hfhi⟩ : ∃ (xs : List Nat) (z : Bool), ((z = true ∧ xs = [a, b, 0]) ∨ (z = false ∧ xs = [a, b])) ∧ ((ltB a 0 = false ∧ z = false) ∨ (ltB a 0 = true ∧ ltB 0 b = z)) ∧ (∀ x ∈ xs, PnE x x ∧ mg x < infR ∧ key a ≤ key x ∧ key x ≤ key b) ∧ (xs.any (fun x => tiLow x m y1) = true) ∧ (xs.any (fun x => tiHigh x m y2) = true) := by
    have ka := hE.ki
    have LW : ∀ x, PnE x x → mg x < infR → y1 = powR (-1) x (m : Int) → tiLow x m y1 = true := fun x h1 h2 e => tiLow_of h1.na h2 rfl hm0 (by omega) e
    have HW : ∀ x, PnE x x → mg x < infR → y2 = powR 1 x (m : Int) → tiHigh x m y2 = true := fun x h1 h2 e => tiHigh_of h1.na h2 rfl hm0 (by omega) e
    by_cases hzz : key a < 0 ∧ 0 < key b
    · refine ⟨[a, b, 0], true, .inl ⟨rfl, rfl⟩, .inr ⟨by rw [hL1]; exact decide_eq_true hzz.1, by rw [hL2]; exact decide_eq_true hzz.2⟩, fun x hx => ?_, ?_, ?_⟩
      · simp only [List.mem_cons, List.not_mem_nil, or_false] at hx
        rcases hx with rfl | rfl | rfl
        · exact ⟨hpa, fa, Int.le_refl _, ka⟩
        · exact ⟨hpb, fb, ka, Int.le_refl _⟩
        · exact ⟨hp0, f0, by omega, by omega⟩
      · simp only [List.any_cons, List.any_nil, Bool.or_false, Bool.or_eq_true]
        rcases at1 with e | e | ⟨_, _, e⟩
        · exact .inl (LW a hpa fa e)
        · exact .inr (.inl (LW b hpb fb e))
        · exact .inr (.inr (LW 0 hp0 f0 e))
      · simp only [List.any_cons, List.any_nil, Bool.or_false, Bool.or_eq_true]
        rcases at2 with e | e
        · exact .inl (HW a hpa fa e)
        · exact .inr (.inl (HW b hpb fb e))
    · refine ⟨[a, b], false, .inr ⟨rfl, rfl⟩, ?_, fun x hx => ?_, ?_, ?_⟩
      · by_cases h1 : key a < 0
        · exact .inr ⟨by rw [hL1]; exact decide_eq_true h1, by rw [hL2]; exact decide_eq_false (fun h2 => hzz ⟨h1, h2⟩)⟩
        · exact .inl ⟨by rw [hL1]; exact decide_eq_false h1, rfl⟩
      · simp only [List.mem_cons, List.not_mem_nil, or_false] at hx
        rcases hx with rfl | rfl
        · exact ⟨hpa, fa, Int.le_refl _, ka⟩
        · exact ⟨hpb, fb, ka, Int.le_refl _⟩
      · simp only [List.any_cons, List.any_nil, Bool.or_false, Bool.or_eq_true]
        rcases at1 with e | e | ⟨h1, h2, e⟩
        · exact .inl (LW a hpa fa e)
        · exact .inr (LW b hpb fb e)
        · exact absurd ⟨h1, h2⟩ hzz
      · simp only [List.any_cons, List.any_nil, Bool.or_false, Bool.or_eq_true]
        rcases at2 with e | e
        · exact .inl (HW a hpa fa e)
        · exact .inr (HW b hpb fb e)
  have hq2 := eqI' (a := (y1 : Int)) (b := (y2 : Int)) (c := (infR : Int)) (d := (minf : Int)) (E := false) (by
    rw [Bool.and_eq_false_iff, beq_eq_false_iff_ne]
    have := hy.ia
    exact .inl (by omega))
  exact tight_w x1 x2 p q infR minf a b y1 y2 m n0 n1 fe fp fq bad w hT HRD HLM hn (Lib.hid fun w => empty6_any w) hq1 HFP HFQ hbad hab (ltB a 0) (ltB 0 b) z xs (Lib.hid fun w => above6_any 0 a w (by decide) hE.la) (Lib.hid fun w => above6_any b 0 w hE.lb (by decide)) hz hxs
    (Lib.hid fun w => in7_any a b w) HPN (Lib.hid fun w => out7_any y1 y2 w) (Lib.hid fun w => hv ▸ valid6_any y1 y2 w hy.la hy.lb) hq2 (stepP y1) (ng y2) (stepP (ng y2)) (prevP y2) (Lib.hid fun w => up7_any y1 w hy.la (by omega)) (Lib.hid fun w => up7_any (ng y2) w (ng_lt hy.lb) (by omega)) (xor_ng hy.lb) (xor_ng l2)
    (fun x => tiLow x m y1) (fun x => tiHigh x m y2) (Lib.hid ⟨hflo, hfhi⟩) (Lib.hid fun i x hx => by
      obtain ⟨g1, g2, g3, g4⟩ := hmem x (List.mem_of_getElem? hx)
      obtain ⟨k1, k2⟩ := hin x g1 g2 g3 g4
      exact tiE_of g1.la g1.na g2 hm0 hm hy hv (tiX_of g1.na g2 rfl hm0 (by omega) hy k1 k2) s1.1 l3)
theorem eqEt {p q : Nat} : (((p : Int) == (infR : Int)) && ((q : Int) == (minf : Int))) = decide (p = infR ∧ q = minf) := by
  rw [Bool.eq_iff_iff, Bool.and_eq_true, beq_iff_eq, beq_iff_eq, decide_eq_true_iff]
  omega
theorem tight_walk (x1 x2 : Nat) (n0 : Int) (w : World) (hx1 : x1 < 18446744073709551616) (hx2 : x2 < 18446744073709551616) (hT : Tab w) :
    Calls Tryd.prog 6 #[.agg #[.int .u64 (x1 : Int), .int .u64 (x2 : Int)], .int .i64 n0] w fun e w' => e = .returned (.bool true) ∧ Ext w w' := by
  have HRD := Lib.hid (fun w => read6_any x1 x2 w hx1 hx2)
  have HLM := Lib.hid (fun w => limit7_any n0 w)
  obtain ⟨m, hm0, hm1, hn⟩ : ∃ m : Nat, 0 < m ∧ m ≤ 64 ∧ ((decide (limI n0 < 1) = true ∧ m = 2) ∨ (decide (limI n0 < 1) = false ∧ limI n0 = (m : Int))) := by
    have hl : limI n0 ≤ 64 := by unfold limI; split <;> omega
    by_cases h : limI n0 < 1
    · exact ⟨2, by omega, by omega, .inl ⟨decide_eq_true h, rfl⟩⟩
    · exact ⟨(limI n0).toNat, by omega, by omega, .inr ⟨decide_eq_false h, by omega⟩⟩
  have hBA : PnE 13832806255468478464 4613937818241073152 := ⟨by decide, by decide, by decide, by decide, by decide, by decide, by decide, by decide, by decide⟩
  have hpl : rdLo x1 x2 < 18446744073709551616 ∧ rdHi x1 x2 < 18446744073709551616 := by
    by_cases he : emp x1 x2
    · rw [he.1, he.2]; decide
    · exact ⟨(pnE_rd hx1 hx2 he).la, (pnE_rd hx1 hx2 he).lb⟩
  have hpe : (rdLo x1 x2 = infR ∧ rdHi x1 x2 = minf) ∨ PnE (rdLo x1 x2) (rdHi x1 x2) := by
    by_cases he : emp x1 x2
    · exact .inl he
    · exact .inr (pnE_rd hx1 hx2 he)
  generalize rdLo x1 x2 = p at *
  generalize rdHi x1 x2 = q at *
  have G := fun a b fe fp fq bad => tight_go x1 x2 p q a b m n0 (limI n0) fe fp fq bad w hT HRD HLM hn hm0 hm1
  have HFP := Lib.hid (fun w => finite2_any p w hpl.1)
  have HFQ := Lib.hid (fun w => finite2_any q w hpl.2)
  by_cases he : p = infR ∧ q = minf
  · exact G 13832806255468478464 4613937818241073152 true _ _ true (eqI' (by rw [eqEt]; exact decide_eq_true he)) HFP HFQ (.inl ⟨rfl, rfl⟩) (.inl ⟨rfl, rfl, rfl⟩) hBA (by decide) (by decide)
  · have hE := hpe.resolve_left he
    have hq := eqI' (a := (p : Int)) (b := (q : Int)) (c := (infR : Int)) (d := (minf : Int)) (E := false) (by rw [eqEt]; exact decide_eq_false he)
    by_cases h1 : mg p < infR
    · by_cases h2 : mg q < infR
      · exact G p q false _ _ false hq HFP HFQ (.inr (.inr (.inr ⟨rfl, decide_eq_true h1, decide_eq_true h2, rfl⟩))) (.inr ⟨rfl, rfl, rfl⟩) hE h1 h2
      · exact G 13832806255468478464 4613937818241073152 false _ _ true hq HFP HFQ (.inr (.inr (.inl ⟨rfl, decide_eq_true h1, decide_eq_false h2, rfl⟩))) (.inl ⟨rfl, rfl, rfl⟩) hBA (by decide) (by decide)
    · exact G 13832806255468478464 4613937818241073152 false _ _ true hq HFP HFQ (.inr (.inl ⟨rfl, decide_eq_false h1, rfl⟩)) (.inl ⟨rfl, rfl, rfl⟩) hBA (by decide) (by decide)
end Go.Proofs.YtadijoeeaineaaaDoor
