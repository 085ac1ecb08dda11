/-
  Plain: rounding keeps order; so do powers. Conditions: those that each theorem names.
-/
import Derived.Test.YtadijoeeaineaaaGreatDoorQ33
import Derived.Test.YtadijoeeaineaaaGreatDoorQ21
import Derived.Test.YtadijoeeaineaaaGreatDoorQ16
import Derived.Test.YtadijoeeaineaaaGreatDoorQ03
import Derived.Test.YtadijoeeaineaaaGreatDoorQ06
import Derived.Test.YtadijoeeaineaaaGreatDoorQ15
namespace Go.Proofs.YtadijoeeaineaaaGreatDoor
open Nm Rn
set_option linter.unusedVariables false
set_option linter.unusedSimpArgs false

/-- One of the two directions. -/
def Dir (d : Int) : Prop := d = 1 ∨ d = -1
theorem rr_mono {d : Int} (hd : Dir d) (neg : Bool) {Z Z' : Nat} (h : Z ≤ Z') : rr d neg Z ≤ rr d neg Z' := by
  have h4 : Z / 4 ≤ Z' / 4 := Nat.div_le_div_right h
  have hm := rung_mono h4
  have h1 := rung_spec (Z / 4)
  have h2 := rung_spec (Z' / 4)
  unfold rr
  generalize infR = I at *
  split
  · omega
  · rename_i hc
    have ha : ∀ W, away d neg W = !decide (W = 4 * rv (rung (W / 4))) := fun W => by
      unfold away
      by_cases he : W = 4 * rv (rung (W / 4))
      · rw [if_pos he, decide_eq_true he]; rfl
      · rw [if_neg he, decide_eq_false he]
        rcases hd with rfl | rfl
        · rw [if_pos rfl]; cases neg
          · rfl
          · exact absurd (.inl ⟨rfl, rfl⟩) hc
        · rw [if_neg (by decide), if_pos rfl]; cases neg
          · exact absurd (.inr ⟨rfl, rfl⟩) hc
          · rfl
    rw [ha, ha]
    by_cases e : rung (Z / 4) = rung (Z' / 4)
    · rw [← e]
      by_cases e1 : Z = 4 * rv (rung (Z / 4))
      · rw [decide_eq_true e1]
        simp only [Bool.not_true, Bool.false_eq_true, if_false]
        split <;> omega
      · rw [decide_eq_false e1, decide_eq_false (show ¬ Z' = 4 * rv (rung (Z / 4)) by omega)]
        omega
    · split <;> split <;> omega
theorem rr_dirs (neg : Bool) (Z : Nat) : if neg then rr 1 true Z ≤ rr (-1) true Z else rr (-1) false Z ≤ rr 1 false Z := by
  cases neg
  · simp only [Bool.false_eq_true, if_false]
    unfold rr
    rw [if_pos (.inr ⟨rfl, rfl⟩), if_neg (by simp)]
    split <;> omega
  · simp only [if_true]
    unfold rr
    rw [if_pos (.inl ⟨rfl, rfl⟩), if_neg (by simp)]
    split <;> omega
theorem key_pat {s : Bool} {r : Nat} (hr : r ≤ infR) : key (pat s r) = if s then -(r : Int) else (r : Int) := by
  have e := infR_val
  unfold pat
  by_cases h : r = 0
  · rw [if_pos h, h]; cases s <;> rfl
  · rw [if_neg h]
    cases s
    · simp only [Bool.false_eq_true, if_false]
      unfold key
      have h1 : sg r = false := decide_eq_false (by omega)
      have h2 : mg r = r := by unfold mg; omega
      rw [h1, h2]; rfl
    · simp only [if_true]
      unfold key
      have h1 : sg (9223372036854775808 + r) = true := decide_eq_true (by omega)
      have h2 : mg (9223372036854775808 + r) = r := by unfold mg; omega
      rw [h1, h2]; rfl
theorem pat_nz {s : Bool} {r : Nat} (hr : r ≤ infR) : pat s r ≠ 9223372036854775808 := by
  have e := infR_val
  unfold pat
  split
  · omega
  · split <;> omega
theorem key_rnd (d : Int) (s : Bool) (Z : Nat) : key (rnd d s Z) = if s then -(rr d s Z : Int) else (rr d s Z : Int) := key_pat (rr_le d s Z)

theorem zq_mono {N m N' m' : Nat} (hm : 0 < m) (hm' : 0 < m') (h : N * m' ≤ N' * m) : zq N m ≤ zq N' m' := by
  rcases Nat.lt_or_ge (zq N' m') (zq N m) with hlt | hge
  · exfalso
    by_cases he : zq N' m' % 2 = 0
    · obtain ⟨T, hT⟩ : ∃ T, zq N' m' = 2 * T := ⟨zq N' m' / 2, by omega⟩
      have a1 := (zq_gt (N := N) hm (T := T)).1 (by omega)
      have a2 : ¬ T * m' < N' := fun h2 => by have := (zq_gt (N := N') hm' (T := T)).2 h2; omega
      have b1 : T * m * m' < N * m' := Nat.mul_lt_mul_of_pos_right a1 hm'
      have b2 : N' * m ≤ T * m' * m := Nat.mul_le_mul_right m (by omega)
      have b3 : T * m * m' = T * m' * m := by rw [Nat.mul_assoc, Nat.mul_comm m m', ← Nat.mul_assoc]
      omega
    · obtain ⟨T, hT⟩ : ∃ T, zq N' m' = 2 * T + 1 := ⟨zq N' m' / 2, by omega⟩
      have a1 := (zq_le (N := N) hm (T := T + 1)).1 (by omega)
      have a2 : ¬ (T + 1) * m' ≤ N' := fun h2 => by have := (zq_le (N := N') hm' (T := T + 1)).2 h2; omega
      have b1 : (T + 1) * m * m' ≤ N * m' := Nat.mul_le_mul_right m' a1
      have b2 : N' * m < (T + 1) * m' * m := Nat.mul_lt_mul_of_pos_right (by omega) hm
      have b3 : (T + 1) * m * m' = (T + 1) * m' * m := by rw [Nat.mul_assoc, Nat.mul_comm m m', ← Nat.mul_assoc]
      omega
  · exact hge
theorem zr_mono {N m N' m' : Nat} (hm : 0 < m) (hm' : 0 < m') (h : N * m' ≤ N' * m) : zr N m ≤ zr N' m' := by
  refine zq_mono hm hm' ?_
  have := Nat.mul_le_mul_right K75 h
  calc N * K75 * m' = N * m' * K75 := by ac_rfl
    _ ≤ N' * m * K75 := this
    _ = N' * K75 * m := by ac_rfl
theorem fb_cross {x y : Nat} (h : mg x ≤ mg y) : fbN x * fbD y ≤ fbN y * fbD x := by
  have h1 := fb_val x
  have h2 := fb_val y
  have h3 := rv_le h
  have h4 := Nat.mul_le_mul_right (fbD x * fbD y) h3
  have e1 : fbN x * fbD y * K74 = rv (mg x) * (fbD x * fbD y) := by
    calc fbN x * fbD y * K74 = fbN x * K74 * fbD y := by ac_rfl
      _ = rv (mg x) * (fbD x * fbD y) := by rw [h1]; ac_rfl
  have e2 : fbN y * fbD x * K74 = rv (mg y) * (fbD x * fbD y) := by
    calc fbN y * fbD x * K74 = fbN y * K74 * fbD x := by ac_rfl
      _ = rv (mg y) * (fbD x * fbD y) := by rw [h2]; ac_rfl
  rw [← e1, ← e2] at h4
  exact Nat.le_of_mul_le_mul_right h4 K74_pos
/-- The powers, as what is rounded. -/
def ZP (x m : Nat) : Nat := zr (fracN (fbN x ^ m) (fbD x ^ m) 0) (fracD (fbN x ^ m) (fbD x ^ m) 0)
def ZN (x m : Nat) : Nat := zr (fracN (1 * fracD (fbN x ^ m) (fbD x ^ m) 0) (1 * fracN (fbN x ^ m) (fbD x ^ m) 0) 0) (fracD (1 * fracD (fbN x ^ m) (fbD x ^ m) 0) (1 * fracN (fbN x ^ m) (fbD x ^ m) 0) 0)
theorem zr_frac_ {N D : Nat} (hD : 0 < D) : zr (fracN N D 0) (fracD N D 0) = zr N D := by
  have h := frac_val (n := N) (d := D) (e := 0) (p := 0) (q := 0) rfl
  rw [Nat.pow_zero, Nat.mul_one, Nat.mul_one] at h
  exact zr_congr (fracD_pos _ (by omega)) hD h
theorem ZP_eq (x m : Nat) : ZP x m = zr (fbN x ^ m) (fbD x ^ m) := zr_frac_ (Nat.pow_pos (fbD_pos x))
theorem fbN_pos_ {x : Nat} (h : mg x ≠ 0) : 0 < fbN x := Nat.pos_of_ne_zero fun e => h ((fbN_zero x).1 e)
theorem ZN_eq {x : Nat} (m : Nat) (h : mg x ≠ 0) : ZN x m = zr (fbD x ^ m) (fbN x ^ m) := by
  have hN : 0 < fbN x ^ m := Nat.pow_pos (fbN_pos_ h)
  have hD : 0 < fbD x ^ m := Nat.pow_pos (fbD_pos x)
  have hF := frac_val (n := fbN x ^ m) (d := fbD x ^ m) (e := 0) (p := 0) (q := 0) rfl
  rw [Nat.pow_zero, Nat.mul_one, Nat.mul_one] at hF
  have hP : 0 < fracN (fbN x ^ m) (fbD x ^ m) 0 := Nat.pos_of_ne_zero fun e => Nat.ne_of_gt hN (fracN_eq_zero.1 e)
  have hQ := fracD_pos (n := fbN x ^ m) 0 (Nat.ne_of_gt hD)
  unfold ZN
  rw [Nat.one_mul, Nat.one_mul, zr_frac_ hP]
  refine zr_congr hP hN ?_
  rw [Nat.mul_comm (fracD _ _ _), ← hF, Nat.mul_comm]
theorem ZP_mono {x y : Nat} (m : Nat) (h : mg x ≤ mg y) : ZP x m ≤ ZP y m := by
  rw [ZP_eq, ZP_eq]
  refine zr_mono (Nat.pow_pos (fbD_pos x)) (Nat.pow_pos (fbD_pos y)) ?_
  rw [← Nat.mul_pow, ← Nat.mul_pow]
  exact Nat.pow_le_pow_left (fb_cross h) m
theorem ZN_anti {x y : Nat} (m : Nat) (h0 : mg x ≠ 0) (h : mg x ≤ mg y) : ZN y m ≤ ZN x m := by
  have hy : mg y ≠ 0 := by omega
  rw [ZN_eq m h0, ZN_eq m hy]
  refine zr_mono (Nat.pow_pos (fbN_pos_ hy)) (Nat.pow_pos (fbN_pos_ h0)) ?_
  rw [← Nat.mul_pow, ← Nat.mul_pow]
  refine Nat.pow_le_pow_left ?_ m
  have := fb_cross h
  rw [Nat.mul_comm (fbD y), Nat.mul_comm (fbD x)]
  exact this

/-- What Pow answers at numbers. -/
theorem powR_pos {d : Int} {x : Nat} {n : Int} (hx : isNaN x = false) (hr : ¬ (n < -1024 ∨ 1024 < n)) (hi : mg x < infR) (hn : 0 < n) : powR d x n = rnd d (pwS (sg x) n.toNat) (ZP x n.toNat) := by
  have h2 : isInf x = false := decide_eq_false (by omega)
  unfold powR
  rw [if_neg (by rw [hx]; simp; omega), if_neg (by omega), if_neg (by rw [h2]; simp), if_neg (by omega), if_pos hn]
  rfl
theorem powR_neg {d : Int} {x : Nat} {n : Int} (hx : isNaN x = false) (hr : ¬ (n < -1024 ∨ 1024 < n)) (hi : mg x < infR) (h0 : mg x ≠ 0) (hn : n < 0) : powR d x n = rnd d (pwS (sg x) (-n).toNat) (ZN x (-n).toNat) := by
  have h2 : isInf x = false := decide_eq_false (by omega)
  unfold powR
  rw [if_neg (by rw [hx]; simp; omega), if_neg (by omega), if_neg (by rw [h2]; simp), if_neg (by omega), if_neg (by omega)]
  rfl
theorem powR_inf {d : Int} {x : Nat} {n : Int} (hx : isNaN x = false) (hr : ¬ (n < -1024 ∨ 1024 < n)) (hi : mg x = infR) (hn : n ≠ 0) : powR d x n = if n < 0 then 0 else if (sg x && decide (n % 2 ≠ 0)) = true then minf else infR := by
  have h2 : isInf x = true := decide_eq_true hi
  unfold powR
  rw [if_neg (by rw [hx]; simp; omega), if_neg hn, if_pos h2]
theorem mg_le_inf {x : Nat} (h : isNaN x = false) : mg x ≤ infR := by
  unfold isNaN at h
  have := of_decide_eq_false h
  omega
theorem key_nn {x : Nat} (h : 0 ≤ key x) : key x = (mg x : Int) := by
  unfold key at h ⊢
  cases hs : sg x
  · simp
  · rw [hs] at h; simp at h ⊢; omega
theorem key_np {x : Nat} (h : key x < 0) : key x = -(mg x : Int) ∧ sg x = true ∧ mg x ≠ 0 := by
  unfold key at h ⊢
  cases hs : sg x
  · rw [hs] at h; simp at h; omega
  · rw [hs] at h; simp at h ⊢; omega
theorem sg_nn {x : Nat} (h : 0 ≤ key x) (h0 : mg x ≠ 0) : sg x = false := by
  unfold key at h
  cases hs : sg x
  · rfl
  · rw [hs] at h; simp at h; omega
theorem pwS_false (m : Nat) : pwS false m = false := by unfold pwS; rfl
theorem ZP_zero {x m : Nat} (h : mg x = 0) (hm : 0 < m) : ZP x m = 0 := by
  rw [ZP_eq, (fbN_zero x).2 h, Nat.zero_pow hm]
  exact zr_zero _
/-- Powers of what is not below 0 keep order. -/
theorem pw_mono_nn {d : Int} (hd : Dir d) {x y : Nat} {n : Int} (hx : isNaN x = false) (hy : isNaN y = false) (hr : ¬ (n < -1024 ∨ 1024 < n)) (hn : 0 < n) (h0 : 0 ≤ key x) (h : key x ≤ key y) : 0 ≤ key (powR d x n) ∧ key (powR d x n) ≤ key (powR d y n) := by
  have kx := key_nn h0
  have ky := key_nn (show 0 ≤ key y by omega)
  have mx_ := mg_le_inf hx
  have my := mg_le_inf hy
  have nnat : 0 < n.toNat := by omega
  have val : ∀ {z : Nat}, isNaN z = false → 0 ≤ key z → mg z < infR → key (powR d z n) = (rr d false (ZP z n.toNat) : Int) := fun {z} hz hk hf => by
    rw [powR_pos hz hr hf hn, key_rnd]
    by_cases h1 : mg z = 0
    · rw [ZP_zero h1 nnat, rr_zero, rr_zero]; split <;> simp
    · rw [sg_nn hk h1, pwS_false]; rfl
  have vinf : ∀ {z : Nat}, isNaN z = false → 0 ≤ key z → mg z = infR → key (powR d z n) = 9218868437227405312 := fun {z} hz hk hf => by
    rw [powR_inf hz hr hf (by omega), if_neg (by omega), sg_nn hk (by rw [hf]; decide)]
    rfl
  have hle := rr_le d false (ZP x n.toNat)
  have e := infR_val
  by_cases fx : mg x = infR
  · have fy : mg y = infR := by omega
    rw [vinf hx h0 fx, vinf hy (by omega) fy]
    omega
  · rw [val hx h0 (by omega)]
    refine ⟨by omega, ?_⟩
    by_cases fy : mg y = infR
    · rw [vinf hy (by omega) fy]; omega
    · rw [val hy (by omega) (by omega)]
      have := rr_mono hd false (ZP_mono n.toNat (show mg x ≤ mg y by omega))
      omega
theorem pwS_odd {n : Int} (hn : n.tmod 2 ≠ 0) (hp : 0 < n) (s : Bool) : pwS s n.toNat = s := by
  obtain ⟨m, rfl⟩ := Int.eq_ofNat_of_zero_le (show 0 ≤ n by omega)
  have h2 : m % 2 = 1 := by
    have : (m : Int).tmod 2 = ((m % 2 : Nat) : Int) := rfl
    rw [this] at hn
    omega
  unfold pwS
  rw [Int.toNat_natCast, h2]
  cases s <;> rfl
/-- Odd powers keep order. -/
theorem pw_mono_odd {d : Int} (hd : Dir d) {x y : Nat} {n : Int} (hx : isNaN x = false) (hy : isNaN y = false) (hr : ¬ (n < -1024 ∨ 1024 < n)) (hn : 0 < n) (ho : n.tmod 2 ≠ 0) (h : key x ≤ key y) : key (powR d x n) ≤ key (powR d y n) := by
  by_cases h0 : 0 ≤ key x
  · exact (pw_mono_nn hd hx hy hr hn h0 h).2
  · obtain ⟨kx, sx, zx⟩ := key_np (show key x < 0 by omega)
    have e := infR_val
    have mx_ := mg_le_inf hx
    have my := mg_le_inf hy
    have n2 : (n % 2 ≠ 0) := by
      have := Int.emod_two_eq n
      rcases this with h1 | h1
      · exfalso
        obtain ⟨m, rfl⟩ := Int.eq_ofNat_of_zero_le (show 0 ≤ n by omega)
        have h2 : (m : Int).tmod 2 = ((m % 2 : Nat) : Int) := rfl
        rw [h2] at ho
        omega
      · omega
    have val : ∀ {z : Nat}, isNaN z = false → sg z = true → mg z < infR → key (powR d z n) = -(rr d true (ZP z n.toNat) : Int) := fun {z} hz hs hf => by
      rw [powR_pos hz hr hf hn, key_rnd, pwS_odd ho hn, hs]; rfl
    have vinf : ∀ {z : Nat}, isNaN z = false → sg z = true → mg z = infR → key (powR d z n) = -9218868437227405312 := fun {z} hz hs hf => by
      rw [powR_inf hz hr hf (by omega), if_neg (by omega), hs, decide_eq_true n2]
      rfl
    have lx : key (powR d x n) ≤ 0 := by
      by_cases fx : mg x = infR
      · rw [vinf hx sx fx]; omega
      · rw [val hx sx (by omega)]; omega
    by_cases hy0 : 0 ≤ key y
    · have := (pw_mono_nn hd hy hy hr hn hy0 (Int.le_refl _)).1
      omega
    · obtain ⟨ky, sy, zy⟩ := key_np (show key y < 0 by omega)
      by_cases fx : mg x = infR
      · have hk := key_le (powR_ok (d := d) hy hr).1
        rw [vinf hx sx fx]
        exact hk.2
      · have fy : mg y ≠ infR := by omega
        rw [val hx sx (by omega), val hy sy (by omega)]
        have := rr_mono hd true (ZP_mono n.toNat (show mg y ≤ mg x by omega))
        omega
/-- Powers below 0 turn order round, on each side of 0. -/
theorem pw_anti_p {d : Int} (hd : Dir d) {x y : Nat} {n : Int} (hx : isNaN x = false) (hy : isNaN y = false) (hr : ¬ (n < -1024 ∨ 1024 < n)) (hn : n < 0) (h0 : 0 < key x) (h : key x ≤ key y) : key (powR d y n) ≤ key (powR d x n) ∧ 0 ≤ key (powR d y n) := by
  have kx := key_nn (show 0 ≤ key x by omega)
  have ky := key_nn (show 0 ≤ key y by omega)
  have mx_ := mg_le_inf hx
  have my := mg_le_inf hy
  have val : ∀ {z : Nat}, isNaN z = false → 0 < key z → mg z < infR → key (powR d z n) = (rr d false (ZN z (-n).toNat) : Int) := fun {z} hz hk hf => by
    have hk0 := key_nn (show 0 ≤ key z by omega)
    rw [powR_neg hz hr hf (by omega) hn, key_rnd, sg_nn (by omega) (by omega), pwS_false]; rfl
  have vinf : ∀ {z : Nat}, isNaN z = false → mg z = infR → key (powR d z n) = 0 := fun {z} hz hf => by
    rw [powR_inf hz hr hf (by omega), if_pos hn]
    rfl
  by_cases fy : mg y = infR
  · rw [vinf hy fy]
    refine ⟨?_, by omega⟩
    by_cases fx : mg x = infR
    · rw [vinf hx fx]; omega
    · rw [val hx h0 (by omega)]; omega
  · rw [val hy (by omega) (by omega), val hx h0 (by omega)]
    have := rr_mono hd false (ZN_anti (-n).toNat (show mg x ≠ 0 by omega) (show mg x ≤ mg y by omega))
    omega
theorem pwS_oddn {n : Int} (hn : n.tmod 2 ≠ 0) (hp : n < 0) (s : Bool) : pwS s (-n).toNat = s := by
  refine pwS_odd (n := -n) ?_ (by omega) s
  rw [Int.neg_tmod]
  omega
theorem pw_anti_n {d : Int} (hd : Dir d) {x y : Nat} {n : Int} (hx : isNaN x = false) (hy : isNaN y = false) (hr : ¬ (n < -1024 ∨ 1024 < n)) (hn : n < 0) (ho : n.tmod 2 ≠ 0) (h0 : key y < 0) (h : key x ≤ key y) : key (powR d y n) ≤ key (powR d x n) ∧ key (powR d x n) ≤ 0 := by
  obtain ⟨kx, sx, zx⟩ := key_np (show key x < 0 by omega)
  obtain ⟨ky, sy, zy⟩ := key_np h0
  have mx_ := mg_le_inf hx
  have my := mg_le_inf hy
  have val : ∀ {z : Nat}, isNaN z = false → sg z = true → mg z ≠ 0 → mg z < infR → key (powR d z n) = -(rr d true (ZN z (-n).toNat) : Int) := fun {z} hz hs h1 hf => by
    rw [powR_neg hz hr hf h1 hn, key_rnd, pwS_oddn ho hn, hs]; rfl
  have vinf : ∀ {z : Nat}, isNaN z = false → mg z = infR → key (powR d z n) = 0 := fun {z} hz hf => by
    rw [powR_inf hz hr hf (by omega), if_pos hn]
    rfl
  by_cases fx : mg x = infR
  · rw [vinf hx fx]
    refine ⟨?_, by omega⟩
    by_cases fy : mg y = infR
    · rw [vinf hy fy]; omega
    · rw [val hy sy zy (by omega)]; omega
  · rw [val hx sx zx (by omega), val hy sy zy (by omega)]
    have := rr_mono hd true (ZN_anti (-n).toNat zy (show mg y ≤ mg x by omega))
    omega
/-- Down is not above Up. -/
theorem pw_dirs {x : Nat} {n : Int} (hx : isNaN x = false) (hr : ¬ (n < -1024 ∨ 1024 < n)) (hn : n ≠ 0) (h0 : mg x ≠ 0 ∨ 0 < n) : key (powR (-1) x n) ≤ key (powR 1 x n) := by
  have mx_ := mg_le_inf hx
  by_cases fx : mg x = infR
  · rw [powR_inf hx hr fx hn, powR_inf hx hr fx hn]
    exact Int.le_refl _
  · have go : ∀ (s : Bool) (Z : Nat), key (rnd (-1) s Z) ≤ key (rnd 1 s Z) := fun s Z => by
      rw [key_rnd, key_rnd]
      have := rr_dirs s Z
      cases s
      · simp only [Bool.false_eq_true, if_false] at this ⊢; omega
      · simp only [if_true] at this ⊢; omega
    by_cases hp : 0 < n
    · rw [powR_pos hx hr (by omega) hp, powR_pos hx hr (by omega) hp]; exact go _ _
    · rw [powR_neg hx hr (by omega) (by omega) (by omega), powR_neg hx hr (by omega) (by omega) (by omega)]; exact go _ _
end Go.Proofs.YtadijoeeaineaaaGreatDoor

/-
  The contract of the document's Neg. Conditions: those that each theorem names.
-/
namespace Go.Proofs.YtadijoeeaineaaaGreatDoor
open Go.RowKit Nm Rn
set_option maxRecDepth 100000
set_option linter.unusedVariables false
set_option linter.unusedSimpArgs false

theorem bI_rng (x : Nat) : -1 ≤ bI x ∧ bI x ≤ 1 := by unfold bI; split <;> (try split) <;> omega
theorem bN_sz (x : Nat) : nw (bN x) ≤ 1073741824 := by
  have h0 : nw (fracN 0 1 0) ≤ 1073741824 := by
    have : fracN 0 1 0 = 0 := fracN_zero 1 0
    rw [this]
    exact Nat.le_trans ((nw_le_iff 0 0).2 (by omega)) (by omega)
  unfold bN
  split
  · exact h0
  · split
    · exact h0
    · exact Nat.le_trans (fbN_bits x) (by omega)
theorem bD_sz (x : Nat) : nw (bD x) ≤ 1073741824 := by
  have h0 : nw (fracD 0 1 0) ≤ 1073741824 := by
    have : fracD 0 1 0 = 1 := rfl
    rw [this]
    exact Nat.le_trans ((nw_le_iff 1 1).2 (by omega)) (by omega)
  unfold bD
  split
  · exact h0
  · split
    · exact h0
    · exact Nat.le_trans (fbD_bits x) (by omega)
theorem bD_ne (x : Nat) : bD x ≠ 0 := by
  have h0 : fracD 0 1 0 ≠ 0 := by have := fracD_pos (n := 0) (d := 1) 0 (by omega); omega
  unfold bD
  split
  · exact h0
  · split
    · exact h0
    · have := fbD_pos x; omega

theorem ls_ng {x : Nat} (h : x < 18446744073709551616) (hn : isNaN x = false) :
    (x ≠ minf → lsLo (-(bI x)) (!bNeg x && decide (bN x ≠ 0)) (bN x) (bD x) = pl (ng x)) ∧ (x ≠ infR → lsHi (-(bI x)) (!bNeg x && decide (bN x ≠ 0)) (bN x) (bD x) = pl (ng x)) := by
  by_cases h1 : x = infR
  · subst h1
    refine ⟨fun _ => ?_, fun h => absurd rfl h⟩
    unfold lsLo bI
    rw [if_pos rfl, if_neg (by omega)]
    rfl
  · by_cases h2 : x = minf
    · subst h2
      refine ⟨fun h => absurd rfl h, fun _ => ?_⟩
      unfold lsHi bI
      rw [if_neg h1, if_pos rfl, if_neg (by omega)]
      rfl
    · have e1 : bI x = 0 := by unfold bI; rw [if_neg h1, if_neg h2]
      have e2 : bNeg x = (sg x && decide (mg x ≠ 0)) := by unfold bNeg; rw [if_neg h1, if_neg h2]
      have e3 : bN x = fbN x := by unfold bN; rw [if_neg h1, if_neg h2]
      have e4 : bD x = fbD x := by unfold bD; rw [if_neg h1, if_neg h2]
      rw [e1, e2, e3, e4]
      unfold lsLo lsHi
      rw [if_pos (by omega), if_pos (by omega)]
      have hf := mg_fin h hn h1 h2
      exact ⟨fun _ => rnd_ng (-1) h hf, fun _ => rnd_ng 1 h hf⟩

end Go.Proofs.YtadijoeeaineaaaGreatDoor

/-
  Plain: the bounds of patterns: how they stand to each other, signs, magnitudes, the least interval between two. Conditions: those that each theorem names.
-/
namespace Go.Proofs.YtadijoeeaineaaaGreatDoor
open Go.RowKit Nm Rn
set_option linter.unusedVariables false
set_option linter.unusedSimpArgs false

theorem bnd_cases {x : Nat} (hx : x < 18446744073709551616) (hn : isNaN x = false) :
    (x = infR ∧ bI x = 1 ∧ key x = 9218868437227405312) ∨ (x = minf ∧ bI x = -1 ∧ key x = -9218868437227405312) ∨
    (bI x = 0 ∧ bNeg x = (sg x && decide (mg x ≠ 0)) ∧ bN x = fbN x ∧ bD x = fbD x ∧ -9218868437227405312 < key x ∧ key x < 9218868437227405312 ∧ mg x < infR ∧ x ≠ infR ∧ x ≠ minf) := by
  by_cases h1 : x = infR
  · subst h1; left; exact ⟨rfl, by unfold bI; rw [if_pos rfl], key_inf⟩
  · by_cases h2 : x = minf
    · subst h2; right; left; exact ⟨rfl, by unfold bI; rw [if_neg h1, if_pos rfl], key_minf⟩
    · right; right
      have hf := mg_fin hx hn h1 h2
      have hk := key_fin hf
      exact ⟨by unfold bI; rw [if_neg h1, if_neg h2], by unfold bNeg; rw [if_neg h1, if_neg h2], by unfold bN; rw [if_neg h1, if_neg h2], by unfold bD; rw [if_neg h1, if_neg h2], hk.1, hk.2, hf, h1, h2⟩

theorem eC_bits {x y : Nat} (hx : x < 18446744073709551616) (hy : y < 18446744073709551616) (nx : isNaN x = false) (ny : isNaN y = false) :
    eC (bI x) (bNeg x) (bN x) (bD x) (bI y) (bNeg y) (bN y) (bD y) = cmpI (key x) (key y) := by
  have hc := rc_bits x y
  unfold eC
  rcases bnd_cases hx nx with h | h | h <;> rcases bnd_cases hy ny with g | g | g
  case inr.inr.inr.inr =>
    rw [h.1, g.1, if_neg (by omega), if_neg (by omega), if_pos rfl, h.2.1, h.2.2.1, h.2.2.2.1, g.2.1, g.2.2.1, g.2.2.2.1, hc]
  all_goals
    unfold cmpI
    repeat' split
    all_goals omega

theorem eS_bits {x : Nat} (hx : x < 18446744073709551616) (nx : isNaN x = false) : eS (bI x) (bNeg x) (bN x) = cmpI (key x) 0 := by
  unfold eS
  rcases bnd_cases hx nx with h | h | h
  · rw [h.2.1, h.2.2]; rfl
  · rw [h.2.1, h.2.2]; rfl
  · rw [h.1, if_pos rfl, h.2.1, h.2.2.1]
    unfold sgnZ
    by_cases h0 : mg x = 0
    · rw [if_pos ((fbN_zero x).2 h0)]
      have : key x = 0 := by unfold key; rw [h0]; split <;> rfl
      rw [this]; rfl
    · rw [if_neg (fun e => h0 ((fbN_zero x).1 e)), decide_eq_true h0, Bool.and_true]
      cases hs : sg x
      · have hk : key x = (mg x : Int) := by unfold key; rw [hs]; rfl
        rw [hk]; unfold cmpI
        show (1 : Int) = _
        rw [if_neg (by omega), if_pos (by omega)]
      · have hk : key x = -(mg x : Int) := by unfold key; rw [hs]; rfl
        rw [hk]; unfold cmpI
        show (-1 : Int) = _
        rw [if_pos (by omega)]

theorem mx_neg {x : Nat} (hx : x < 18446744073709551616) (nx : isNaN x = false) (hk : key x < 0) :
    bI (mg x) = -(bI x) ∧ bNeg (mg x) = (!bNeg x && decide (bN x ≠ 0)) ∧ bN (mg x) = bN x ∧ bD (mg x) = bD x := by
  have i1 := infR_val
  have i2 := minf_val
  rcases bnd_cases hx nx with h | h | h
  · exfalso; omega
  · have e : mg x = infR := by rw [h.1]; rfl
    rw [e, h.1]
    have n1 : minf ≠ infR := by omega
    refine ⟨?_, ?_, ?_, ?_⟩
    · unfold bI; rw [if_pos rfl, if_neg n1, if_pos rfl]; rfl
    · have : bN minf = 0 := by unfold bN; rw [if_neg n1, if_pos rfl]; exact fracN_zero 1 0
      rw [this]
      unfold bNeg; rw [if_pos rfl, if_neg n1, if_pos rfl]; rfl
    · unfold bN; rw [if_pos rfl, if_neg n1, if_pos rfl]
    · unfold bD; rw [if_pos rfl, if_neg n1, if_pos rfl]
  · obtain ⟨h1, h2, h3, h4, _, _, hf, _, _⟩ := h
    have hm : mg x < 9223372036854775808 := by unfold mg; omega
    have hs : sg x = true := by
      revert hk; unfold key; cases sg x
      · intro hk; rw [if_neg (by simp)] at hk; omega
      · intro _; rfl
    have h0 : mg x ≠ 0 := by
      intro h0; revert hk; unfold key; rw [h0]; split <;> omega
    have e2 : mg (mg x) = mg x := by unfold mg; omega
    have e3 : sg (mg x) = false := decide_eq_false (by omega)
    have eN : fbN (mg x) = fbN x ∧ fbD (mg x) = fbD x := by
      have e1 : mg x % 4503599627370496 = x % 4503599627370496 := by unfold mg; omega
      have e2 : mg x / 4503599627370496 % 2048 = x / 4503599627370496 % 2048 := by unfold mg; omega
      unfold fbN fbD fbSig fbExp
      rw [e1, e2]
      exact ⟨rfl, rfl⟩
    have n1 : mg x ≠ infR := by omega
    have n2 : mg x ≠ minf := by omega
    rw [h1, h2, h3, h4]
    refine ⟨?_, ?_, ?_, ?_⟩
    · unfold bI; rw [if_neg n1, if_neg n2]; rfl
    · unfold bNeg; rw [if_neg n1, if_neg n2, e3, hs, decide_eq_true h0]; rfl
    · unfold bN; rw [if_neg n1, if_neg n2]; exact eN.1
    · unfold bD; rw [if_neg n1, if_neg n2]; exact eN.2

theorem b_zero : bI 0 = 0 ∧ bNeg 0 = false ∧ bN 0 = fracN 0 1 0 ∧ bD 0 = fracD 0 1 0 := ⟨rfl, rfl, rfl, rfl⟩

/-- The least interval between the bounds of two patterns. -/
theorem ls_lo {x : Nat} (hx : x < 18446744073709551616) (nx : isNaN x = false) (h : x ≠ infR) : lsLo (bI x) (bNeg x) (bN x) (bD x) = pl x := by
  unfold lsLo
  rcases bnd_cases hx nx with g | g | g
  · exact absurd g.1 h
  · rw [g.2.1, if_neg (by omega), g.1]; rfl
  · rw [g.1, if_pos rfl, g.2.1, g.2.2.1, g.2.2.2.1]; exact rnd_bits (-1) hx g.2.2.2.2.2.2.1
theorem ls_hi {x : Nat} (hx : x < 18446744073709551616) (nx : isNaN x = false) (h : x ≠ minf) : lsHi (bI x) (bNeg x) (bN x) (bD x) = pl x := by
  unfold lsHi
  rcases bnd_cases hx nx with g | g | g
  · rw [g.2.1, if_neg (by omega), g.1]; rfl
  · exact absurd g.1 h
  · rw [g.1, if_pos rfl, g.2.1, g.2.2.1, g.2.2.2.1]; exact rnd_bits 1 hx g.2.2.2.2.2.2.1
end Go.Proofs.YtadijoeeaineaaaGreatDoor

/-
  The contracts of chapter 7's document: the magnitude of a bound. Conditions: those that each theorem names.
-/
namespace Go.Proofs.YtadijoeeaineaaaGreatDoor
open Go.RowKit Nm Rn
set_option maxRecDepth 100000
set_option linter.unusedVariables false
set_option linter.unusedSimpArgs false

set_option maxHeartbeats 2000000 in
theorem magn_pos (i : Int) (hi : -1 ≤ i ∧ i ≤ 1) (s : Bool) (A : Option Addr) (l c : Nat) (B : Option Addr) (k d N D : Nat) (w : World) (h : RatAt w A l c B k d N D) (hN : nw N ≤ 1073741824) (hD : nw D ≤ 1073741824) (x : Int) (hx : ¬ x < 0) (hsg : eS i s N = x) :
    Calls Tryz.prog 90 #[.agg #[.int .i64 i, .bool s, .slice A l c, .slice B k d]] w (RetEnd i s N D w) := by
  have hs := fun w (h : RatAt w A l c B k d N D) => sign6_any i s A l c B k d N D w h hN
  rw [hsg] at hs
  have HSG := Lib.hid hs
  have hbG := Blk.new2 w (.cells #[.int .i64 i, .bool s, .slice A l c, .slice B k d] 55) 55 #[.int .i64 0, .bool false, .slice none 0 0, .slice none 0 0]
  have hbI := (Blk.new w 55 #[.int .i64 i, .bool s, .slice A l c, .slice B k d]).ext ((Ext.refl _).alloc (.cells #[.int .i64 0, .bool false, .slice none 0 0, .slice none 0 0] 55))
  have hEw : Ext w ((w.alloc (.cells #[.int .i64 i, .bool s, .slice A l c, .slice B k d] 55)).alloc (.cells #[.int .i64 0, .bool false, .slice none 0 0, .slice none 0 0] 55)) := ((Ext.refl w).alloc _).alloc _
  obtain ⟨G, hG⟩ : ∃ G, G = w.heap.size + 1 := ⟨_, rfl⟩
  rw [← hG] at hbG
  have hGw : w.heap.size ≤ G := by omega
  have HGS := Lib.hid (show w.heap.size + 1 = G from hG.symm)
  have hr := h.ext hEw
  clear hs hG h hN hD hi hsg
  have g1 : decide (x < 0) = false := decide_eq_false hx
  go_enter Tryz.func90, Tryz.ntmps90
  go_wp2_with fail
  refine (HSG.out _ hr).mono ?_
  rintro e w2 ⟨rfl, hE2⟩
  rw [HGS.out]
  have hb2 := hbI.ext hE2
  have hg2 := hbG.ext hE2
  have hr2 := hr.ext hE2
  have hEE := hEw.trans hE2
  clear hbI hbG hr hEw hE2 HGS HSG
  have i0 : w2.cell? ⟨w.heap.size, 0, none⟩ = some (.int .i64 i) := hb2.cell 0
  have i1 : w2.cell? ⟨w.heap.size, 1, none⟩ = some (.bool s) := hb2.cell 1
  have i2 : w2.cell? ⟨w.heap.size, 2, none⟩ = some (.slice A l c) := hb2.cell 2
  have i3 : w2.cell? ⟨w.heap.size, 3, none⟩ = some (.slice B k d) := hb2.cell 3
  have hGl := hg2.lt
  have q0 : w2.cell? ⟨G, 0, none⟩ = some (.int .i64 0) := hg2.cell 0
  have q1 : w2.cell? ⟨G, 1, none⟩ = some (.bool false) := hg2.cell 1
  have q2 : w2.cell? ⟨G, 2, none⟩ = some (.slice none 0 0) := hg2.cell 2
  have q3 : w2.cell? ⟨G, 3, none⟩ = some (.slice none 0 0) := hg2.cell 3
  have f0 := hg2.frozen 0
  have f1 := hg2.frozen 1
  have f2 := hg2.frozen 2
  have f3 := hg2.frozen 3
  have HB := Lib.hid (RatBox.mk hr2 hg2 (NoU.of rfl))
  clear hb2 hg2 hr2
  go_wp2
  exact bodyPost_ret (v := .agg #[.int .i64 i, .bool s, .slice A l c, .slice B k d]) (by simp [results, Tryz.results90, go_sem, hGl, q0, q1, q2, q3]) rfl
    ⟨_, _, _, _, _, _, rfl, (HB.out.set4 rfl rfl rfl rfl).rat, hEE.set4 hGw _ _ _ _⟩

set_option maxHeartbeats 2000000 in
theorem magn_neg (i : Int) (hi : -1 ≤ i ∧ i ≤ 1) (s : Bool) (A : Option Addr) (l c : Nat) (B : Option Addr) (k d N D : Nat) (w : World) (h : RatAt w A l c B k d N D) (hN : nw N ≤ 1073741824) (hD : nw D ≤ 1073741824) (x : Int) (hx : x < 0) (hsg : eS i s N = x) :
    Calls Tryz.prog 90 #[.agg #[.int .i64 i, .bool s, .slice A l c, .slice B k d]] w (RetEnd (-i) (!s && decide (N ≠ 0)) N D w) := by
  have hs := fun w (h : RatAt w A l c B k d N D) => sign6_any i s A l c B k d N D w h hN
  rw [hsg] at hs
  have HSG := Lib.hid hs
  have hbG := Blk.new2 w (.cells #[.int .i64 i, .bool s, .slice A l c, .slice B k d] 55) 55 #[.int .i64 0, .bool false, .slice none 0 0, .slice none 0 0]
  have hbI := (Blk.new w 55 #[.int .i64 i, .bool s, .slice A l c, .slice B k d]).ext ((Ext.refl _).alloc (.cells #[.int .i64 0, .bool false, .slice none 0 0, .slice none 0 0] 55))
  have hEw : Ext w ((w.alloc (.cells #[.int .i64 i, .bool s, .slice A l c, .slice B k d] 55)).alloc (.cells #[.int .i64 0, .bool false, .slice none 0 0, .slice none 0 0] 55)) := ((Ext.refl w).alloc _).alloc _
  obtain ⟨G, hG⟩ : ∃ G, G = w.heap.size + 1 := ⟨_, rfl⟩
  rw [← hG] at hbG
  have hGw : w.heap.size ≤ G := by omega
  have HGS := Lib.hid (show w.heap.size + 1 = G from hG.symm)
  have hr := h.ext hEw
  have hwr : IntKind.i64.wrap (-i) = -i := by simp [IntKind.wrap, IntKind.bits, IntKind.signed]; omega
  obtain ⟨j, hj⟩ : ∃ j, j = -i := ⟨_, rfl⟩
  rw [← hj] at hwr ⊢
  have hneg : IntKind.i64.wrap (-i) = j := by rw [← hj]; exact hwr
  obtain ⟨r, hr'⟩ : ∃ r, r = (!s && decide (N ≠ 0)) := ⟨_, rfl⟩
  have hc := fun w A l c B k d h => rneg_any s A l c B k d N D w h hN hD
  rw [← hr'] at hc ⊢
  have HC := Lib.hid hc
  have g1 : decide (x < 0) = true := decide_eq_true hx
  clear hs hG h hN hD hi hsg hc hr' hj hwr
  go_enter Tryz.func90, Tryz.ntmps90
  go_wp2_with fail
  refine (HSG.out _ hr).mono ?_
  rintro e w1 ⟨rfl, hE2⟩
  rw [HGS.out]
  obtain ⟨S, hS⟩ : ∃ S : World → Prop, S = fun wz => Blk wz w.heap.size 55 #[.int .i64 i, .bool s, .slice A l c, .slice B k d] ∧ Blk wz G 55 #[.int .i64 0, .bool false, .slice none 0 0, .slice none 0 0] ∧ RatAt wz A l c B k d N D ∧ Ext w wz := ⟨_, rfl⟩
  have hSE : ∀ w w', S w → Ext w w' → S w' := fun w w' h1 h2 => by rw [hS] at h1 ⊢; exact ⟨h1.1.ext h2, h1.2.1.ext h2, h1.2.2.1.ext h2, h1.2.2.2.trans h2⟩
  have hS1 : S { w1 with drawn := w1.drawn + 1 } := hSE _ _ (by rw [hS]; exact ⟨hbI.ext hE2, hbG.ext hE2, hr.ext hE2, hEw.trans hE2⟩) (Ext.refl w1).drew
  obtain ⟨sp, hsp⟩ : ∃ sp : Nat → Sp, sp = ofList [det (.pointer (some ⟨w.heap.size, 0, none⟩)), det (.int .i64 i), det (.int .i64 j), det (.pointer (some ⟨w.heap.size, 1, none⟩)), det (.agg #[.bool s, .slice A l c, .slice B k d]), anyOf (fun v wz => ∃ A1 n1 c1 A2 n2 c2, v = .agg #[.bool r, .slice A1 n1 c1, .slice A2 n2 c2] ∧ RatAt wz A1 n1 c1 A2 n2 c2 N D), anyOf (fun v wz => ∃ A1 n1 c1 A2 n2 c2, v = .agg #[.int .i64 j, .bool r, .slice A1 n1 c1, .slice A2 n2 c2] ∧ RatAt wz A1 n1 c1 A2 n2 c2 N D)] := ⟨_, rfl⟩
  have HS := Lib.hid hS
  have HSP := Lib.hid hsp
  clear hS hsp hbI hbG hr hEw hE2 HGS HSG
  go_wp2_with fail
  refine wp_region_loose 7 S sp (by kernel_rfl) (by kernel_rfl) hS1 hSE ?_
  simp only [List.take_succ_cons, List.take_zero, List.drop_succ_cons, List.drop_zero]

  repeat (refine wpX_step (fun K hK => ?_)
          go_simp
          first
          | (refine ⟨by rw [HSP.out]; rfl, hK _ _ ?_⟩
             clear hK K)
          | (refine StepY.det (by rw [HSP.out]; rfl) ?_ ?_
             · intro wz hz hF
               have hz' := hz
               rw [HS.out] at hz'
               have g0 := hz'.1.cell 0
               have g1 := hz'.1.cell 1
               have g2 := hz'.1.cell 2
               have g3 := hz'.1.cell 3
               simp only [List.getElem?_toArray, List.getElem?_cons_zero, List.getElem?_cons_succ] at g0 g1 g2 g3
               clear hz' hF
               go_simp
               exact ⟨rfl, Ext.refl _⟩
             refine hK _ _ ?_
             clear hK K)
          | (refine StepY.any (by rw [HSP.out]; rfl) ?_ ?_
             · intro wz hz hF
               have hz' := hz
               rw [HS.out] at hz'
               have hx := hz'.2.2.1
               clear hz'
               go_simp
               go_at_call 48
               (with_reducible refine (HC.out _ _ _ _ _ _ _ hx).mono ?_)
               rintro e w2 ⟨A1, n1, c1, A2, n2, c2, rfl, hW1, hW2, hE1⟩
               exact ⟨_, rfl, ⟨A1, n1, c1, A2, n2, c2, rfl, hW1, hW2⟩, hE1⟩
             intro v
             refine hK _ _ ?_
             clear hK K))
  refine wpX_step (fun K hK => ?_)
  go_simp
  refine StepY.any (by rw [HSP.out]; rfl) ?_ ?_
  · intro wz hz hF
    obtain ⟨wa, ea, A1, n1, c1, A2, n2, c2, hv1, hw1⟩ := hF.any 5 (by kernel_rfl) (by rw [HSP.out]; rfl)
    clear hF
    simp only [asFun, List.nil_append, List.cons_append, List.getD_cons_succ, List.getD_cons_zero] at hv1
    subst hv1
    go_simp
    exact ⟨⟨A1, n1, c1, A2, n2, c2, rfl, hw1.ext ea⟩, Ext.refl _⟩
  · intro v
    refine hK _ _ ?_
    clear hK K
    refine wpX_nil ?_
    intro w3 hz hF
    obtain ⟨w0, e0, A1, n1, c1, A2, n2, c2, hv, hw0⟩ := fact_any (hF 6 (by omega)) (by rw [HSP.out]; rfl)
    clear hF
    simp only [asFun, List.nil_append, List.cons_append, List.getD_cons_succ, List.getD_cons_zero] at hv
    subst hv
    rw [HS.out] at hz
    have hb3 := hz.2.1
    have hEx := hz.2.2.2
    have hr := hw0.ext e0
    have hGl := hb3.lt
    have q0 : w3.cell? ⟨G, 0, none⟩ = some (.int .i64 0) := hb3.cell 0
    have q1 : w3.cell? ⟨G, 1, none⟩ = some (.bool false) := hb3.cell 1
    have q2 : w3.cell? ⟨G, 2, none⟩ = some (.slice none 0 0) := hb3.cell 2
    have q3 : w3.cell? ⟨G, 3, none⟩ = some (.slice none 0 0) := hb3.cell 3
    have f0 := hb3.frozen 0
    have f1 := hb3.frozen 1
    have f2 := hb3.frozen 2
    have f3 := hb3.frozen 3
    clear hz hw0 e0
    go_wp2
    exact bodyPost_ret (v := .agg #[.int .i64 j, .bool r, .slice A1 n1 c1, .slice A2 n2 c2]) (by simp [results, Tryz.results90, go_sem, hGl, q0, q1, q2, q3]) rfl
      ⟨_, _, _, _, _, _, rfl, ((RatBox.mk hr hb3 (NoU.of rfl)).set4 rfl rfl rfl rfl).rat, hEx.set4 hGw _ _ _ _⟩

/-- .. of a pattern's bound. -/
theorem magn_any (x : Nat) (A : Option Addr) (l c : Nat) (B : Option Addr) (k d : Nat) (w : World) (hx : x < 18446744073709551616) (nx : isNaN x = false) (h : RatAt w A l c B k d (bN x) (bD x)) :
    Calls Tryz.prog 90 #[.agg #[.int .i64 (bI x), .bool (bNeg x), .slice A l c, .slice B k d]] w (RetEnd (bI (mx x)) (bNeg (mx x)) (bN (mx x)) (bD (mx x)) w) := by
  have hs := eS_bits hx nx
  by_cases hk : key x < 0
  · have e : mx x = mg x := by unfold mx; rw [if_pos hk]
    obtain ⟨e1, e2, e3, e4⟩ := mx_neg hx nx hk
    rw [e, e1, e2, e3, e4]
    exact magn_neg (bI x) (bI_rng x) (bNeg x) A l c B k d (bN x) (bD x) w h (bN_sz x) (bD_sz x) _ (by unfold cmpI; rw [if_pos hk]; omega) hs
  · have e : mx x = x := by unfold mx; rw [if_neg hk]
    rw [e]
    exact magn_pos (bI x) (bI_rng x) (bNeg x) A l c B k d (bN x) (bD x) w h (bN_sz x) (bD_sz x) _ (by unfold cmpI; rw [if_neg hk]; split <;> omega) hs
end Go.Proofs.YtadijoeeaineaaaGreatDoor
