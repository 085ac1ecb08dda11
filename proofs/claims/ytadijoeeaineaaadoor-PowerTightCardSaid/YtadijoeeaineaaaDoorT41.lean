/-
  Plain: over a part of an interval each call of chapter 7 answers a part. Conditions: those that each theorem names.
-/
import Derived.Test.YtadijoeeaineaaaDoorT23
import Derived.Test.YtadijoeeaineaaaDoorT27
namespace Go.Proofs.YtadijoeeaineaaaDoor
open Nm Rn
set_option linter.unusedVariables false
set_option linter.unusedSimpArgs false

theorem rd_pne {p q : Nat} (h : PnE p q) : rdLo p q = p ∧ rdHi p q = q ∧ ¬ emp p q ∧ sndB p q = true := by
  have r1 := key_le h.na
  have r2 := key_le h.nb
  have i1 := key_eq_inf h.la h.na
  have i2 := key_eq_minf h.lb h.nb
  have ia := h.ia
  have ib := h.ib
  have hs : sndB p q = true := by
    unfold sndB leB ltB
    rw [h.na, h.nb, nan_inf, nan_minf, key_inf, key_minf]
    simp only [Bool.not_false, Bool.true_and, Bool.and_eq_true, decide_eq_true_eq]
    refine ⟨⟨h.ki, ?_⟩, ?_⟩ <;> omega
  have e1 : rdLo p q = p := by unfold rdLo; rw [hs, if_pos rfl]; unfold pl; rw [if_neg h.ma]
  have e2 : rdHi p q = q := by unfold rdHi; rw [hs, if_pos rfl]; unfold pl; rw [if_neg h.mb]
  refine ⟨e1, e2, fun he => ?_, hs⟩
  have := he.1
  rw [e1] at this
  exact ia this
theorem emp_e : emp infR minf := by decide
theorem vld_pne {p q : Nat} (h : PnE p q) : vldB p q = true := by
  have := (rd_pne h).2.2.2
  unfold vldB
  rw [this, decide_eq_true h.ma, decide_eq_true h.mb]
  simp
/-- The smaller interval is empty, or both are intervals, one in the other. -/
inductive InR : Nat → Nat → Nat → Nat → Prop
  | ee : InR infR minf infR minf
  | ep {B1 B2 : Nat} (h : PnE B1 B2) : InR infR minf B1 B2
  | pp {s1 s2 B1 B2 : Nat} (hs : PnE s1 s2) (hb : PnE B1 B2) (k1 : key B1 ≤ key s1) (k2 : key s2 ≤ key B2) : InR s1 s2 B1 B2

/-- Powers. -/
theorem powR_nz {d : Int} {x : Nat} {n : Int} : powR d x n ≠ 9223372036854775808 := by
  unfold powR
  have hr : ∀ s Z, rnd d s Z ≠ 9223372036854775808 := fun s Z => pat_nz (rr_le d s Z)
  split
  · decide
  · split
    · decide
    · split
      · split
        · decide
        · split <;> decide
      · split
        · decide
        · split
          · exact hr _ _
          · exact hr _ _
theorem rnd_ninf {s : Bool} {Z : Nat} : rnd (-1) s Z ≠ infR ∧ rnd 1 s Z ≠ minf := by
  have e := infR_val
  have e2 := minf_val
  constructor
  · have hl := rr_le (-1) s Z
    unfold rnd pat
    cases s
    · have : rr (-1) false Z ≤ infR - 1 := by unfold rr; rw [if_pos (.inr ⟨rfl, rfl⟩)]; exact Nat.min_le_right _ _
      split
      · omega
      · rw [if_neg (by simp)]; omega
    · split
      · omega
      · rw [if_pos rfl]; omega
  · have hl := rr_le 1 s Z
    unfold rnd pat
    cases s
    · split
      · omega
      · rw [if_neg (by simp)]; omega
    · have : rr 1 true Z ≤ infR - 1 := by unfold rr; rw [if_pos (.inl ⟨rfl, rfl⟩)]; exact Nat.min_le_right _ _
      split
      · omega
      · rw [if_pos rfl]; omega
theorem inf_pat {x : Nat} (hx : x < 18446744073709551616) (h : mg x = infR) : x = if sg x then minf else infR := by
  have := split_pat hx
  have e := infR_val
  have e2 := minf_val
  cases hs : sg x
  · rw [hs] at this; simp at this; rw [if_neg (by simp)]; omega
  · rw [hs] at this; simp at this; rw [if_pos rfl]; omega
theorem tmod_emod {n : Int} : n.tmod 2 = 0 ↔ n % 2 = 0 := by
  constructor
  · intro h; exact Int.emod_eq_zero_of_dvd (Int.dvd_of_tmod_eq_zero h)
  · intro h; exact Int.tmod_eq_zero_of_dvd (Int.dvd_of_emod_eq_zero h)
/-- The ends that are raised. -/
structure Rs (a b : Nat) (n : Int) : Prop extends PnE a b where
  ev : n.tmod 2 = 0 → 0 ≤ key a
theorem pow_lo_ne {x : Nat} {n : Int} (hx : x < 18446744073709551616) (nx : isNaN x = false) (hr : ¬ (n < -1024 ∨ 1024 < n)) (hn : n ≠ 0) (hz : mg x ≠ 0 ∨ 0 < n) (hi : 0 < n → x ≠ infR) (hev : n.tmod 2 = 0 → 0 ≤ key x) : powR (-1) x n ≠ infR := by
  by_cases fx : mg x = infR
  · rw [powR_inf nx hr fx hn]
    split
    · decide
    · have hp : 0 < n := by omega
      have hpat := inf_pat hx fx
      cases hs : sg x
      · rw [hs] at hpat; exact absurd (by simpa using hpat) (hi hp)
      · have ho : n.tmod 2 ≠ 0 := fun h => by
          have := hev h
          unfold key at this
          rw [hs, fx] at this
          have e := infR_val
          simp at this
          omega
        rw [Bool.true_and, if_pos (by rw [decide_eq_true_iff]; exact fun h => ho (tmod_emod.2 h))]
        decide
  · have hf : mg x < infR := by have := mg_le_inf nx; omega
    by_cases hp : 0 < n
    · rw [powR_pos nx hr hf hp]; exact rnd_ninf.1
    · rw [powR_neg nx hr hf (by omega) (by omega)]; exact rnd_ninf.1
theorem pow_hi_ne {x : Nat} {n : Int} (hx : x < 18446744073709551616) (nx : isNaN x = false) (hr : ¬ (n < -1024 ∨ 1024 < n)) (hn : n ≠ 0) (hz : mg x ≠ 0 ∨ 0 < n) (hi : 0 < n → x ≠ minf) : powR 1 x n ≠ minf := by
  by_cases fx : mg x = infR
  · rw [powR_inf nx hr fx hn]
    split
    · decide
    · have hp : 0 < n := by omega
      have hpat := inf_pat hx fx
      cases hs : sg x
      · rw [Bool.false_and, if_neg (by simp)]; decide
      · rw [hs] at hpat; exact absurd (by simpa using hpat) (hi hp)
  · have hf : mg x < infR := by have := mg_le_inf nx; omega
    by_cases hp : 0 < n
    · rw [powR_pos nx hr hf hp]; exact rnd_ninf.2
    · rw [powR_neg nx hr hf (by omega) (by omega)]; exact rnd_ninf.2
theorem key0 {x : Nat} : key x = 0 ↔ mg x = 0 := by unfold key; split <;> omega
theorem one_pne : PnE 4607182418800017408 4607182418800017408 := ⟨by decide, by decide, by decide, by decide, by decide, by decide, by decide, by decide, by decide⟩
theorem all_pne : PnE minf infR := ⟨by decide, by decide, by decide, by decide, by decide, by decide, by decide, by decide, by decide⟩
theorem d1 : Dir 1 := .inl rfl
theorem d2 : Dir (-1) := .inr rfl
theorem pw_mono_r {d : Int} (hd : Dir d) {a b c e : Nat} {n : Int} (h1 : Rs a b n) (hr : ¬ (n < -1024 ∨ 1024 < n)) (hn : 0 < n) {x y : Nat} (hx : isNaN x = false) (hy : isNaN y = false) (hx0 : n.tmod 2 = 0 → 0 ≤ key x) (h : key x ≤ key y) : key (powR d x n) ≤ key (powR d y n) := by
  by_cases ho : n.tmod 2 = 0
  · exact (pw_mono_nn hd hx hy hr hn (hx0 ho) h).2
  · exact pw_mono_odd hd hx hy hr hn ho h
/-- A negative power turns order round among ends of one sign. -/
theorem pw_anti {d : Int} (hd : Dir d) {x y : Nat} {n : Int} (hx : isNaN x = false) (hy : isNaN y = false) (hr : ¬ (n < -1024 ∨ 1024 < n)) (hn : n < 0) (hs : 0 < key x ∨ (key y < 0 ∧ n.tmod 2 ≠ 0)) (h : key x ≤ key y) : key (powR d y n) ≤ key (powR d x n) := by
  rcases hs with h0 | ⟨h0, ho⟩
  · exact (pw_anti_p hd hx hy hr hn h0 h).1
  · exact (pw_anti_n hd hx hy hr hn ho h0 h).1

theorem pw_pne {a b : Nat} {n : Int} (h : Rs a b n) (hr : ¬ (n < -1024 ∨ 1024 < n)) (hn : n ≠ 0) (hz : ¬ (n < 0 ∧ mg a = 0 ∧ mg b = 0)) : PnE (pwLo a b n) (pwHi a b n) := by
  have la := h.la
  have lb := h.lb
  have na := h.na
  have nb := h.nb
  have ka := @key0 a
  have kb := @key0 b
  have kab := h.ki
  have ok : ∀ d x, isNaN x = false → isNaN (powR d x n) = false ∧ powR d x n < 18446744073709551616 := fun d x hx => powR_ok hx hr
  unfold pwLo pwHi
  by_cases hp : 0 < n
  · rw [if_pos hp, if_pos hp]
    refine ⟨(ok _ _ na).2, (ok _ _ nb).2, (ok _ _ na).1, (ok _ _ nb).1, ?_, powR_nz, powR_nz, ?_, ?_⟩
    · have h1 := pw_mono_r d2 (c := 0) (e := 0) h hr hp na nb h.ev kab
      have h2 := pw_dirs nb hr hn (.inr hp)
      omega
    · exact pow_lo_ne la na hr hn (.inr hp) (fun _ => h.ia) h.ev
    · exact pow_hi_ne lb nb hr hn (.inr hp) (fun _ => h.ib)
  · rw [if_neg hp, if_neg hp]
    have hneg : n < 0 := by omega
    rw [if_neg (fun g => hz ⟨hneg, g⟩), if_neg (fun g => hz ⟨hneg, g⟩)]
    by_cases hc : key a < 0 ∧ 0 < key b
    · rw [if_pos hc, if_pos hc]; exact all_pne
    · rw [if_neg hc, if_neg hc]
      have hev := h.ev
      have sgn : mg b ≠ 0 → mg a ≠ 0 → 0 < key a ∨ (key b < 0 ∧ n.tmod 2 ≠ 0) := fun hb0 ha0 => by
        by_cases h1 : 0 < key a
        · exact .inl h1
        · have h2 : key a < 0 := by omega
          exact .inr ⟨by omega, fun he => by have := hev he; omega⟩
      by_cases zb : mg b = 0
      · rw [if_pos zb]
        have za : mg a ≠ 0 := fun g => hz ⟨hneg, g, zb⟩
        rw [if_neg za]
        refine ⟨minf_lt, (ok _ _ na).2, nan_minf, (ok _ _ na).1, ?_, by decide, powR_nz, by decide, pow_hi_ne la na hr hn (.inl za) (fun g => by omega)⟩
        rw [key_minf]
        exact (key_le (ok 1 a na).1).2
      · rw [if_neg zb]
        by_cases za : mg a = 0
        · rw [if_pos za]
          refine ⟨(ok _ _ nb).2, infR_lt, (ok _ _ nb).1, nan_inf, ?_, powR_nz, by decide, pow_lo_ne lb nb hr hn (.inl zb) (fun g => by omega) (fun he => by have := hev he; omega), by decide⟩
          rw [key_inf]
          exact (key_le (ok (-1) b nb).1).1
        · rw [if_neg za]
          refine ⟨(ok _ _ nb).2, (ok _ _ na).2, (ok _ _ nb).1, (ok _ _ na).1, ?_, powR_nz, powR_nz, pow_lo_ne lb nb hr hn (.inl zb) (fun g => by omega) (fun he => by have := hev he; omega), pow_hi_ne la na hr hn (.inl za) (fun g => by omega)⟩
          have h1 := pw_anti d2 na nb hr hneg (sgn zb za) kab
          have h2 := pw_dirs na hr hn (.inl za)
          omega
theorem sz_mono {p q P Q : Nat} (hp : key p ≤ key q) (k1 : key P ≤ key p) (k2 : key q ≤ key Q) : key (szLo P Q) ≤ key (szLo p q) ∧ key (szHi p q) ≤ key (szHi P Q) := by
  have a1 := @mx_key p
  have a2 := @mx_key q
  have a3 := @mx_key P
  have a4 := @mx_key Q
  have k0 : key 0 = 0 := rfl
  have s1 := @sz_key p q
  constructor
  · unfold szLo
    by_cases h1 : key P ≤ 0 ∧ 0 ≤ key Q
    · rw [if_pos h1, k0]; have := s1.2; unfold szLo at this; exact this
    · rw [if_neg h1, if_neg (c := key p ≤ 0 ∧ 0 ≤ key q) (by omega)]
      revert a1 a2 a3 a4
      split <;> split <;> split <;> split <;> split <;> split <;> (intro a1 a2 a3 a4; omega)
  · unfold szHi
    revert a1 a2 a3 a4
    split <;> split <;> split <;> split <;> split <;> split <;> (intro a1 a2 a3 a4; omega)
theorem rs_of {p q : Nat} (h : PnE p q) (n : Int) : Rs (pnA p q n) (pnB p q n) n := by
  refine ⟨pnE_n h n, fun he => ?_⟩
  unfold pnA
  rw [if_pos he]
  obtain ⟨k1, k2, k3, k4, k5, k6⟩ := sz_ends h.la h.lb h.na h.nb h.ia h.ib
  rw [(pl_facts k1 k2).2.2.1]
  exact (@sz_key p q).2
theorem pn_mono {p q P Q : Nat} (h : PnE p q) (g : PnE P Q) (k1 : key P ≤ key p) (k2 : key q ≤ key Q) (n : Int) : key (pnA P Q n) ≤ key (pnA p q n) ∧ key (pnB p q n) ≤ key (pnB P Q n) := by
  unfold pnA pnB
  by_cases he : n.tmod 2 = 0
  · rw [if_pos he, if_pos he, if_pos he, if_pos he]
    obtain ⟨a1, a2, a3, a4, a5, a6⟩ := sz_ends h.la h.lb h.na h.nb h.ia h.ib
    obtain ⟨b1, b2, b3, b4, b5, b6⟩ := sz_ends g.la g.lb g.na g.nb g.ia g.ib
    rw [(pl_facts a1 a2).2.2.1, (pl_facts a4 a5).2.2.1, (pl_facts b1 b2).2.2.1, (pl_facts b4 b5).2.2.1]
    exact sz_mono h.ki k1 k2
  · rw [if_neg he, if_neg he, if_neg he, if_neg he]
    exact ⟨k1, k2⟩
theorem pwn_p {p q : Nat} (h : PnE p q) (n : Int) : (pwnLo p q n = if n < -1024 ∨ 1024 < n then minf else if n = 0 then 4607182418800017408 else pwLo (pnA p q n) (pnB p q n) n) ∧ (pwnHi p q n = if n < -1024 ∨ 1024 < n then infR else if n = 0 then 4607182418800017408 else pwHi (pnA p q n) (pnB p q n) n) := by
  obtain ⟨e1, e2, e3, _⟩ := rd_pne h
  unfold pwnLo pwnHi
  rw [if_neg e3, if_neg e3, e1, e2]
  exact ⟨rfl, rfl⟩
end Go.Proofs.YtadijoeeaineaaaDoor

/-
  Plain: the ends of a power of an interval are those of the powers of numbers of it. Conditions: those that each theorem names.
-/
namespace Go.Proofs.YtadijoeeaineaaaDoor
open Nm Rn
set_option linter.unusedVariables false
set_option linter.unusedSimpArgs false

theorem pwS_even {n : Int} (hn : n.tmod 2 = 0) (hp : 0 < n) (s : Bool) : pwS s n.toNat = false := by
  obtain ⟨m, rfl⟩ := Int.eq_ofNat_of_zero_le (show 0 ≤ n by omega)
  have h2 : m % 2 = 0 := by
    have : (m : Int).tmod 2 = ((m % 2 : Nat) : Int) := rfl
    rw [this] at hn
    omega
  unfold pwS
  rw [Int.toNat_natCast, h2]
  cases s <;> rfl
theorem mg_pw {d : Int} {x y : Nat} {n : Int} (nx : isNaN x = false) (ny : isNaN y = false) (fx : mg x < infR) (e : mg x = mg y) (hn : 0 < n) (hb : n ≤ 1024) (he : n.tmod 2 = 0) : powR d x n = powR d y n := by
  rw [powR_pos nx (by omega) fx hn, powR_pos ny (by omega) (by omega) hn, pwS_even he hn, pwS_even he hn, Nat.le_antisymm (ZP_mono (x := x) (y := y) n.toNat (by omega)) (ZP_mono (x := y) (y := x) n.toNat (by omega))]
theorem mx_mg {x : Nat} : mg (mx x) = mg x := by
  unfold mx
  split
  · unfold mg; omega
  · rfl
theorem mg_plq (y : Nat) : mg (pl y) = mg y := by
  unfold pl
  split
  · rename_i h; rw [h]; decide
  · rfl
/-- The magnitude of an end of an even power. -/
theorem sz_mg {p q : Nat} (h : PnE p q) :
    (mg (pl (szLo p q)) = mg p ∨ mg (pl (szLo p q)) = mg q ∨ (key p < 0 ∧ 0 < key q ∧ mg (pl (szLo p q)) = mg 0)) ∧ (mg (pl (szHi p q)) = mg p ∨ mg (pl (szHi p q)) = mg q) := by
  obtain ⟨k1, k2, k3, k4, k5, k6⟩ := sz_ends h.la h.lb h.na h.nb h.ia h.ib
  rw [mg_plq, mg_plq]
  have e1 := @mx_mg p
  have e2 := @mx_mg q
  constructor
  · unfold szLo
    split
    · rename_i hz
      by_cases z1 : key p = 0
      · left; rw [key0.1 z1]; rfl
      · by_cases z2 : key q = 0
        · right; left; rw [key0.1 z2]; rfl
        · right; right; exact ⟨by omega, by omega, rfl⟩
    · split
      · right; left; exact e2
      · left; exact e1
  · unfold szHi
    split
    · left; exact e1
    · right; exact e2
theorem pwn_pos {p q : Nat} (h : PnE p q) {n : Int} (hn : 0 < n) (hb : n ≤ 1024) : pwnLo p q n = powR (-1) (pnA p q n) n ∧ pwnHi p q n = powR 1 (pnB p q n) n := by
  obtain ⟨e1, e2⟩ := pwn_p h n
  rw [e1, e2, if_neg (by omega), if_neg (by omega), if_neg (by omega), if_neg (by omega)]
  unfold pwLo pwHi
  rw [if_pos hn, if_pos hn]
  exact ⟨rfl, rfl⟩
/-- The powers of an interval of one number. -/
theorem pwn_pt {x : Nat} (h : PnE x x) (fx : mg x < infR) {n : Int} (hn : 0 < n) (hb : n ≤ 1024) : pwnLo x x n = powR (-1) x n ∧ pwnHi x x n = powR 1 x n := by
  obtain ⟨e1, e2⟩ := pwn_pos h hn hb
  rw [e1, e2]
  have hE := pnE_n h n
  by_cases he : n.tmod 2 = 0
  · obtain ⟨g1, g2⟩ := sz_mg h
    have a1 : mg (pnA x x n) = mg x := by
      unfold pnA
      rw [if_pos he]
      rcases g1 with g | g | ⟨g3, g4, _⟩
      · exact g
      · exact g
      · omega
    have a2 : mg (pnB x x n) = mg x := by
      unfold pnB
      rw [if_pos he]
      rcases g2 with g | g <;> exact g
    exact ⟨mg_pw hE.na h.na (by omega) a1 hn hb he, mg_pw hE.nb h.na (by omega) a2 hn hb he⟩
  · unfold pnA pnB
    rw [if_neg he, if_neg he]
    exact ⟨rfl, rfl⟩
/-- A power of a number of an interval lies between the ends of the interval's. -/
theorem ti_in {p q x : Nat} (h : PnE p q) (hx : PnE x x) (fx : mg x < infR) (k1 : key p ≤ key x) (k2 : key x ≤ key q) {n : Int} (hn : 0 < n) (hb : n ≤ 1024) : key (pwnLo p q n) ≤ key (powR (-1) x n) ∧ key (powR 1 x n) ≤ key (pwnHi p q n) := by
  have hr : ¬ (n < -1024 ∨ 1024 < n) := by omega
  obtain ⟨e1, e2⟩ := pwn_pt hx fx hn hb
  obtain ⟨e3, e4⟩ := pwn_pos h hn hb
  obtain ⟨e5, e6⟩ := pwn_pos hx hn hb
  rw [<- e1, <- e2, e3, e4, e5, e6]
  obtain ⟨m1, m2⟩ := pn_mono hx h k1 k2 n
  have r1 := rs_of h n
  have r2 := rs_of hx n
  constructor
  · by_cases ho : n.tmod 2 = 0
    · exact (pw_mono_nn d2 r1.na r2.na hr hn (r1.ev ho) m1).2
    · exact pw_mono_odd d2 r1.na r2.na hr hn ho m1
  · by_cases ho : n.tmod 2 = 0
    · exact (pw_mono_nn d1 r2.nb r1.nb hr hn (by have := r2.ev ho; have := r2.ki; omega) m2).2
    · exact pw_mono_odd d1 r2.nb r1.nb hr hn ho m2
/-- Both ends are some number's. -/
theorem ti_att {p q : Nat} (h : PnE p q) (fp : mg p < infR) (fq : mg q < infR) {n : Int} (hn : 0 < n) (hb : n ≤ 1024) :
    (pwnLo p q n = powR (-1) p n ∨ pwnLo p q n = powR (-1) q n ∨ (key p < 0 ∧ 0 < key q ∧ pwnLo p q n = powR (-1) 0 n)) ∧ (pwnHi p q n = powR 1 p n ∨ pwnHi p q n = powR 1 q n) := by
  obtain ⟨e3, e4⟩ := pwn_pos h hn hb
  rw [e3, e4]
  have hE := pnE_n h n
  have n0 : isNaN 0 = false := by decide
  have f0 : mg 0 < infR := by decide
  by_cases he : n.tmod 2 = 0
  · obtain ⟨g1, g2⟩ := sz_mg h
    have a1 : pnA p q n = pl (szLo p q) := by unfold pnA; rw [if_pos he]
    have a2 : pnB p q n = pl (szHi p q) := by unfold pnB; rw [if_pos he]
    rw [<- a1] at g1
    rw [<- a2] at g2
    constructor
    · rcases g1 with g | g | ⟨g3, g4, g⟩
      · exact .inl (mg_pw hE.na h.na (by omega) g hn hb he)
      · exact .inr (.inl (mg_pw hE.na h.nb (by omega) g hn hb he))
      · exact .inr (.inr ⟨g3, g4, mg_pw hE.na n0 (by omega) g hn hb he⟩)
    · rcases g2 with g | g
      · exact .inl (mg_pw hE.nb h.na (by omega) g hn hb he)
      · exact .inr (mg_pw hE.nb h.nb (by omega) g hn hb he)
  · unfold pnA pnB
    rw [if_neg he, if_neg he]
    exact ⟨.inl rfl, .inr rfl⟩

/-- The flags that a number raises. -/
def tiLow (x m y1 : Nat) : Bool := decide (stepP y1 = infR) || decide (rcR (tiS x m) (tiN x m) (tiD x m) (stepP y1) < 0)
def tiHigh (x m y2 : Nat) : Bool := (decide (y2 = 0) && decide (0 < rcR (tiS x m) (tiN x m) (tiD x m) 9223372036854775809)) || (decide (y2 ≠ 0) && (decide (prevP y2 = minf) || decide (0 < rcR (tiS x m) (tiN x m) (tiD x m) (prevP y2))))
theorem tiLow_of {x m y1 : Nat} {n : Int} (nx : isNaN x = false) (fx : mg x < infR) (hn : n = (m : Int)) (hm0 : 0 < m) (hm : m ≤ 1024) (e : y1 = powR (-1) x n) : tiLow x m y1 = true := by
  unfold tiLow
  rw [Bool.or_eq_true, decide_eq_true_iff, decide_eq_true_iff, e]
  exact ti_low nx fx hn hm0 hm
theorem tiHigh_of {x m y2 : Nat} {n : Int} (nx : isNaN x = false) (fx : mg x < infR) (hn : n = (m : Int)) (hm0 : 0 < m) (hm : m ≤ 1024) (e : y2 = powR 1 x n) : tiHigh x m y2 = true := by
  unfold tiHigh
  rw [Bool.or_eq_true, Bool.and_eq_true, Bool.and_eq_true, Bool.or_eq_true, decide_eq_true_iff, decide_eq_true_iff, decide_eq_true_iff, decide_eq_true_iff, decide_eq_true_iff, e]
  exact ti_high nx fx hn hm0 hm
end Go.Proofs.YtadijoeeaineaaaDoor
