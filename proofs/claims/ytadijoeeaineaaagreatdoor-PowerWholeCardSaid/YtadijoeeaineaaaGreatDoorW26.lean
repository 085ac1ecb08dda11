/-
  Plain: rounding keeps order; so do powers. Conditions: those that each theorem names.
-/
import Derived.Test.YtadijoeeaineaaaGreatDoorW25
import Derived.Test.YtadijoeeaineaaaGreatDoorW11
import Derived.Test.YtadijoeeaineaaaGreatDoorW07
import Derived.Test.YtadijoeeaineaaaGreatDoorW08
namespace Go.Proofs.YtadijoeeaineaaaGreatDoor
open Nm Rn
set_option linter.unusedVariables false
set_option linter.unusedSimpArgs false

/-- One of the two directions. -/
def Dir (d : Int) : Prop := d = 1 ∨ d = -1
theorem rr_mono {d : Int} (hd : Dir d) (neg : Bool) {Z Z' : Nat} (h : Z ≤ Z') : rr d neg Z ≤ rr d neg Z' := by
  have h4 : Z / 4 ≤ Z' / 4 := Nat.div_le_div_right h
  have hm := rung_mono h4
  have h1 := rung_spec (Z / 4)
  have h2 := rung_spec (Z' / 4)
  unfold rr
  generalize infR = I at *
  split
  · omega
  · rename_i hc
    have ha : ∀ W, away d neg W = !decide (W = 4 * rv (rung (W / 4))) := fun W => by
      unfold away
      by_cases he : W = 4 * rv (rung (W / 4))
      · rw [if_pos he, decide_eq_true he]; rfl
      · rw [if_neg he, decide_eq_false he]
        rcases hd with rfl | rfl
        · rw [if_pos rfl]; cases neg
          · rfl
          · exact absurd (.inl ⟨rfl, rfl⟩) hc
        · rw [if_neg (by decide), if_pos rfl]; cases neg
          · exact absurd (.inr ⟨rfl, rfl⟩) hc
          · rfl
    rw [ha, ha]
    by_cases e : rung (Z / 4) = rung (Z' / 4)
    · rw [← e]
      by_cases e1 : Z = 4 * rv (rung (Z / 4))
      · rw [decide_eq_true e1]
        simp only [Bool.not_true, Bool.false_eq_true, if_false]
        split <;> omega
      · rw [decide_eq_false e1, decide_eq_false (show ¬ Z' = 4 * rv (rung (Z / 4)) by omega)]
        omega
    · split <;> split <;> omega
theorem rr_dirs (neg : Bool) (Z : Nat) : if neg then rr 1 true Z ≤ rr (-1) true Z else rr (-1) false Z ≤ rr 1 false Z := by
  cases neg
  · simp only [Bool.false_eq_true, if_false]
    unfold rr
    rw [if_pos (.inr ⟨rfl, rfl⟩), if_neg (by simp)]
    split <;> omega
  · simp only [if_true]
    unfold rr
    rw [if_pos (.inl ⟨rfl, rfl⟩), if_neg (by simp)]
    split <;> omega
theorem key_pat {s : Bool} {r : Nat} (hr : r ≤ infR) : key (pat s r) = if s then -(r : Int) else (r : Int) := by
  have e := infR_val
  unfold pat
  by_cases h : r = 0
  · rw [if_pos h, h]; cases s <;> rfl
  · rw [if_neg h]
    cases s
    · simp only [Bool.false_eq_true, if_false]
      unfold key
      have h1 : sg r = false := decide_eq_false (by omega)
      have h2 : mg r = r := by unfold mg; omega
      rw [h1, h2]; rfl
    · simp only [if_true]
      unfold key
      have h1 : sg (9223372036854775808 + r) = true := decide_eq_true (by omega)
      have h2 : mg (9223372036854775808 + r) = r := by unfold mg; omega
      rw [h1, h2]; rfl
theorem pat_nz {s : Bool} {r : Nat} (hr : r ≤ infR) : pat s r ≠ 9223372036854775808 := by
  have e := infR_val
  unfold pat
  split
  · omega
  · split <;> omega
theorem key_rnd (d : Int) (s : Bool) (Z : Nat) : key (rnd d s Z) = if s then -(rr d s Z : Int) else (rr d s Z : Int) := key_pat (rr_le d s Z)

theorem zq_mono {N m N' m' : Nat} (hm : 0 < m) (hm' : 0 < m') (h : N * m' ≤ N' * m) : zq N m ≤ zq N' m' := by
  rcases Nat.lt_or_ge (zq N' m') (zq N m) with hlt | hge
  · exfalso
    by_cases he : zq N' m' % 2 = 0
    · obtain ⟨T, hT⟩ : ∃ T, zq N' m' = 2 * T := ⟨zq N' m' / 2, by omega⟩
      have a1 := (zq_gt (N := N) hm (T := T)).1 (by omega)
      have a2 : ¬ T * m' < N' := fun h2 => by have := (zq_gt (N := N') hm' (T := T)).2 h2; omega
      have b1 : T * m * m' < N * m' := Nat.mul_lt_mul_of_pos_right a1 hm'
      have b2 : N' * m ≤ T * m' * m := Nat.mul_le_mul_right m (by omega)
      have b3 : T * m * m' = T * m' * m := by rw [Nat.mul_assoc, Nat.mul_comm m m', ← Nat.mul_assoc]
      omega
    · obtain ⟨T, hT⟩ : ∃ T, zq N' m' = 2 * T + 1 := ⟨zq N' m' / 2, by omega⟩
      have a1 := (zq_le (N := N) hm (T := T + 1)).1 (by omega)
      have a2 : ¬ (T + 1) * m' ≤ N' := fun h2 => by have := (zq_le (N := N') hm' (T := T + 1)).2 h2; omega
      have b1 : (T + 1) * m * m' ≤ N * m' := Nat.mul_le_mul_right m' a1
      have b2 : N' * m < (T + 1) * m' * m := Nat.mul_lt_mul_of_pos_right (by omega) hm
      have b3 : (T + 1) * m * m' = (T + 1) * m' * m := by rw [Nat.mul_assoc, Nat.mul_comm m m', ← Nat.mul_assoc]
      omega
  · exact hge
theorem zr_mono {N m N' m' : Nat} (hm : 0 < m) (hm' : 0 < m') (h : N * m' ≤ N' * m) : zr N m ≤ zr N' m' := by
  refine zq_mono hm hm' ?_
  have := Nat.mul_le_mul_right K75 h
  calc N * K75 * m' = N * m' * K75 := by ac_rfl
    _ ≤ N' * m * K75 := this
    _ = N' * K75 * m := by ac_rfl
theorem fb_cross {x y : Nat} (h : mg x ≤ mg y) : fbN x * fbD y ≤ fbN y * fbD x := by
  have h1 := fb_val x
  have h2 := fb_val y
  have h3 := rv_le h
  have h4 := Nat.mul_le_mul_right (fbD x * fbD y) h3
  have e1 : fbN x * fbD y * K74 = rv (mg x) * (fbD x * fbD y) := by
    calc fbN x * fbD y * K74 = fbN x * K74 * fbD y := by ac_rfl
      _ = rv (mg x) * (fbD x * fbD y) := by rw [h1]; ac_rfl
  have e2 : fbN y * fbD x * K74 = rv (mg y) * (fbD x * fbD y) := by
    calc fbN y * fbD x * K74 = fbN y * K74 * fbD x := by ac_rfl
      _ = rv (mg y) * (fbD x * fbD y) := by rw [h2]; ac_rfl
  rw [← e1, ← e2] at h4
  exact Nat.le_of_mul_le_mul_right h4 K74_pos
/-- The powers, as what is rounded. -/
def ZP (x m : Nat) : Nat := zr (fracN (fbN x ^ m) (fbD x ^ m) 0) (fracD (fbN x ^ m) (fbD x ^ m) 0)
def ZN (x m : Nat) : Nat := zr (fracN (1 * fracD (fbN x ^ m) (fbD x ^ m) 0) (1 * fracN (fbN x ^ m) (fbD x ^ m) 0) 0) (fracD (1 * fracD (fbN x ^ m) (fbD x ^ m) 0) (1 * fracN (fbN x ^ m) (fbD x ^ m) 0) 0)
theorem zr_frac_ {N D : Nat} (hD : 0 < D) : zr (fracN N D 0) (fracD N D 0) = zr N D := by
  have h := frac_val (n := N) (d := D) (e := 0) (p := 0) (q := 0) rfl
  rw [Nat.pow_zero, Nat.mul_one, Nat.mul_one] at h
  exact zr_congr (fracD_pos _ (by omega)) hD h
theorem ZP_eq (x m : Nat) : ZP x m = zr (fbN x ^ m) (fbD x ^ m) := zr_frac_ (Nat.pow_pos (fbD_pos x))
theorem fbN_pos_ {x : Nat} (h : mg x ≠ 0) : 0 < fbN x := Nat.pos_of_ne_zero fun e => h ((fbN_zero x).1 e)
theorem ZN_eq {x : Nat} (m : Nat) (h : mg x ≠ 0) : ZN x m = zr (fbD x ^ m) (fbN x ^ m) := by
  have hN : 0 < fbN x ^ m := Nat.pow_pos (fbN_pos_ h)
  have hD : 0 < fbD x ^ m := Nat.pow_pos (fbD_pos x)
  have hF := frac_val (n := fbN x ^ m) (d := fbD x ^ m) (e := 0) (p := 0) (q := 0) rfl
  rw [Nat.pow_zero, Nat.mul_one, Nat.mul_one] at hF
  have hP : 0 < fracN (fbN x ^ m) (fbD x ^ m) 0 := Nat.pos_of_ne_zero fun e => Nat.ne_of_gt hN (fracN_eq_zero.1 e)
  have hQ := fracD_pos (n := fbN x ^ m) 0 (Nat.ne_of_gt hD)
  unfold ZN
  rw [Nat.one_mul, Nat.one_mul, zr_frac_ hP]
  refine zr_congr hP hN ?_
  rw [Nat.mul_comm (fracD _ _ _), ← hF, Nat.mul_comm]
theorem ZP_mono {x y : Nat} (m : Nat) (h : mg x ≤ mg y) : ZP x m ≤ ZP y m := by
  rw [ZP_eq, ZP_eq]
  refine zr_mono (Nat.pow_pos (fbD_pos x)) (Nat.pow_pos (fbD_pos y)) ?_
  rw [← Nat.mul_pow, ← Nat.mul_pow]
  exact Nat.pow_le_pow_left (fb_cross h) m
theorem ZN_anti {x y : Nat} (m : Nat) (h0 : mg x ≠ 0) (h : mg x ≤ mg y) : ZN y m ≤ ZN x m := by
  have hy : mg y ≠ 0 := by omega
  rw [ZN_eq m h0, ZN_eq m hy]
  refine zr_mono (Nat.pow_pos (fbN_pos_ hy)) (Nat.pow_pos (fbN_pos_ h0)) ?_
  rw [← Nat.mul_pow, ← Nat.mul_pow]
  refine Nat.pow_le_pow_left ?_ m
  have := fb_cross h
  rw [Nat.mul_comm (fbD y), Nat.mul_comm (fbD x)]
  exact this

/-- What Pow answers at numbers. -/
theorem powR_pos {d : Int} {x : Nat} {n : Int} (hx : isNaN x = false) (hr : ¬ (n < -1024 ∨ 1024 < n)) (hi : mg x < infR) (hn : 0 < n) : powR d x n = rnd d (pwS (sg x) n.toNat) (ZP x n.toNat) := by
  have h2 : isInf x = false := decide_eq_false (by omega)
  unfold powR
  rw [if_neg (by rw [hx]; simp; omega), if_neg (by omega), if_neg (by rw [h2]; simp), if_neg (by omega), if_pos hn]
  rfl
theorem powR_neg {d : Int} {x : Nat} {n : Int} (hx : isNaN x = false) (hr : ¬ (n < -1024 ∨ 1024 < n)) (hi : mg x < infR) (h0 : mg x ≠ 0) (hn : n < 0) : powR d x n = rnd d (pwS (sg x) (-n).toNat) (ZN x (-n).toNat) := by
  have h2 : isInf x = false := decide_eq_false (by omega)
  unfold powR
  rw [if_neg (by rw [hx]; simp; omega), if_neg (by omega), if_neg (by rw [h2]; simp), if_neg (by omega), if_neg (by omega)]
  rfl
theorem powR_inf {d : Int} {x : Nat} {n : Int} (hx : isNaN x = false) (hr : ¬ (n < -1024 ∨ 1024 < n)) (hi : mg x = infR) (hn : n ≠ 0) : powR d x n = if n < 0 then 0 else if (sg x && decide (n % 2 ≠ 0)) = true then minf else infR := by
  have h2 : isInf x = true := decide_eq_true hi
  unfold powR
  rw [if_neg (by rw [hx]; simp; omega), if_neg hn, if_pos h2]
theorem mg_le_inf {x : Nat} (h : isNaN x = false) : mg x ≤ infR := by
  unfold isNaN at h
  have := of_decide_eq_false h
  omega
theorem key_nn {x : Nat} (h : 0 ≤ key x) : key x = (mg x : Int) := by
  unfold key at h ⊢
  cases hs : sg x
  · simp
  · rw [hs] at h; simp at h ⊢; omega
theorem key_np {x : Nat} (h : key x < 0) : key x = -(mg x : Int) ∧ sg x = true ∧ mg x ≠ 0 := by
  unfold key at h ⊢
  cases hs : sg x
  · rw [hs] at h; simp at h; omega
  · rw [hs] at h; simp at h ⊢; omega
theorem sg_nn {x : Nat} (h : 0 ≤ key x) (h0 : mg x ≠ 0) : sg x = false := by
  unfold key at h
  cases hs : sg x
  · rfl
  · rw [hs] at h; simp at h; omega
theorem pwS_false (m : Nat) : pwS false m = false := by unfold pwS; rfl
theorem ZP_zero {x m : Nat} (h : mg x = 0) (hm : 0 < m) : ZP x m = 0 := by
  rw [ZP_eq, (fbN_zero x).2 h, Nat.zero_pow hm]
  exact zr_zero _
/-- Powers of what is not below 0 keep order. -/
theorem pw_mono_nn {d : Int} (hd : Dir d) {x y : Nat} {n : Int} (hx : isNaN x = false) (hy : isNaN y = false) (hr : ¬ (n < -1024 ∨ 1024 < n)) (hn : 0 < n) (h0 : 0 ≤ key x) (h : key x ≤ key y) : 0 ≤ key (powR d x n) ∧ key (powR d x n) ≤ key (powR d y n) := by
  have kx := key_nn h0
  have ky := key_nn (show 0 ≤ key y by omega)
  have mx_ := mg_le_inf hx
  have my := mg_le_inf hy
  have nnat : 0 < n.toNat := by omega
  have val : ∀ {z : Nat}, isNaN z = false → 0 ≤ key z → mg z < infR → key (powR d z n) = (rr d false (ZP z n.toNat) : Int) := fun {z} hz hk hf => by
    rw [powR_pos hz hr hf hn, key_rnd]
    by_cases h1 : mg z = 0
    · rw [ZP_zero h1 nnat, rr_zero, rr_zero]; split <;> simp
    · rw [sg_nn hk h1, pwS_false]; rfl
  have vinf : ∀ {z : Nat}, isNaN z = false → 0 ≤ key z → mg z = infR → key (powR d z n) = 9218868437227405312 := fun {z} hz hk hf => by
    rw [powR_inf hz hr hf (by omega), if_neg (by omega), sg_nn hk (by rw [hf]; decide)]
    rfl
  have hle := rr_le d false (ZP x n.toNat)
  have e := infR_val
  by_cases fx : mg x = infR
  · have fy : mg y = infR := by omega
    rw [vinf hx h0 fx, vinf hy (by omega) fy]
    omega
  · rw [val hx h0 (by omega)]
    refine ⟨by omega, ?_⟩
    by_cases fy : mg y = infR
    · rw [vinf hy (by omega) fy]; omega
    · rw [val hy (by omega) (by omega)]
      have := rr_mono hd false (ZP_mono n.toNat (show mg x ≤ mg y by omega))
      omega
theorem pwS_odd {n : Int} (hn : n.tmod 2 ≠ 0) (hp : 0 < n) (s : Bool) : pwS s n.toNat = s := by
  obtain ⟨m, rfl⟩ := Int.eq_ofNat_of_zero_le (show 0 ≤ n by omega)
  have h2 : m % 2 = 1 := by
    have : (m : Int).tmod 2 = ((m % 2 : Nat) : Int) := rfl
    rw [this] at hn
    omega
  unfold pwS
  rw [Int.toNat_natCast, h2]
  cases s <;> rfl
/-- Odd powers keep order. -/
theorem pw_mono_odd {d : Int} (hd : Dir d) {x y : Nat} {n : Int} (hx : isNaN x = false) (hy : isNaN y = false) (hr : ¬ (n < -1024 ∨ 1024 < n)) (hn : 0 < n) (ho : n.tmod 2 ≠ 0) (h : key x ≤ key y) : key (powR d x n) ≤ key (powR d y n) := by
  by_cases h0 : 0 ≤ key x
  · exact (pw_mono_nn hd hx hy hr hn h0 h).2
  · obtain ⟨kx, sx, zx⟩ := key_np (show key x < 0 by omega)
    have e := infR_val
    have mx_ := mg_le_inf hx
    have my := mg_le_inf hy
    have n2 : (n % 2 ≠ 0) := by
      have := Int.emod_two_eq n
      rcases this with h1 | h1
      · exfalso
        obtain ⟨m, rfl⟩ := Int.eq_ofNat_of_zero_le (show 0 ≤ n by omega)
        have h2 : (m : Int).tmod 2 = ((m % 2 : Nat) : Int) := rfl
        rw [h2] at ho
        omega
      · omega
    have val : ∀ {z : Nat}, isNaN z = false → sg z = true → mg z < infR → key (powR d z n) = -(rr d true (ZP z n.toNat) : Int) := fun {z} hz hs hf => by
      rw [powR_pos hz hr hf hn, key_rnd, pwS_odd ho hn, hs]; rfl
    have vinf : ∀ {z : Nat}, isNaN z = false → sg z = true → mg z = infR → key (powR d z n) = -9218868437227405312 := fun {z} hz hs hf => by
      rw [powR_inf hz hr hf (by omega), if_neg (by omega), hs, decide_eq_true n2]
      rfl
    have lx : key (powR d x n) ≤ 0 := by
      by_cases fx : mg x = infR
      · rw [vinf hx sx fx]; omega
      · rw [val hx sx (by omega)]; omega
    by_cases hy0 : 0 ≤ key y
    · have := (pw_mono_nn hd hy hy hr hn hy0 (Int.le_refl _)).1
      omega
    · obtain ⟨ky, sy, zy⟩ := key_np (show key y < 0 by omega)
      by_cases fx : mg x = infR
      · have hk := key_le (powR_ok (d := d) hy hr).1
        rw [vinf hx sx fx]
        exact hk.2
      · have fy : mg y ≠ infR := by omega
        rw [val hx sx (by omega), val hy sy (by omega)]
        have := rr_mono hd true (ZP_mono n.toNat (show mg y ≤ mg x by omega))
        omega
/-- Powers below 0 turn order round, on each side of 0. -/
theorem pw_anti_p {d : Int} (hd : Dir d) {x y : Nat} {n : Int} (hx : isNaN x = false) (hy : isNaN y = false) (hr : ¬ (n < -1024 ∨ 1024 < n)) (hn : n < 0) (h0 : 0 < key x) (h : key x ≤ key y) : key (powR d y n) ≤ key (powR d x n) ∧ 0 ≤ key (powR d y n) := by
  have kx := key_nn (show 0 ≤ key x by omega)
  have ky := key_nn (show 0 ≤ key y by omega)
  have mx_ := mg_le_inf hx
  have my := mg_le_inf hy
  have val : ∀ {z : Nat}, isNaN z = false → 0 < key z → mg z < infR → key (powR d z n) = (rr d false (ZN z (-n).toNat) : Int) := fun {z} hz hk hf => by
    have hk0 := key_nn (show 0 ≤ key z by omega)
    rw [powR_neg hz hr hf (by omega) hn, key_rnd, sg_nn (by omega) (by omega), pwS_false]; rfl
  have vinf : ∀ {z : Nat}, isNaN z = false → mg z = infR → key (powR d z n) = 0 := fun {z} hz hf => by
    rw [powR_inf hz hr hf (by omega), if_pos hn]
    rfl
  by_cases fy : mg y = infR
  · rw [vinf hy fy]
    refine ⟨?_, by omega⟩
    by_cases fx : mg x = infR
    · rw [vinf hx fx]; omega
    · rw [val hx h0 (by omega)]; omega
  · rw [val hy (by omega) (by omega), val hx h0 (by omega)]
    have := rr_mono hd false (ZN_anti (-n).toNat (show mg x ≠ 0 by omega) (show mg x ≤ mg y by omega))
    omega
theorem pwS_oddn {n : Int} (hn : n.tmod 2 ≠ 0) (hp : n < 0) (s : Bool) : pwS s (-n).toNat = s := by
  refine pwS_odd (n := -n) ?_ (by omega) s
  rw [Int.neg_tmod]
  omega
theorem pw_anti_n {d : Int} (hd : Dir d) {x y : Nat} {n : Int} (hx : isNaN x = false) (hy : isNaN y = false) (hr : ¬ (n < -1024 ∨ 1024 < n)) (hn : n < 0) (ho : n.tmod 2 ≠ 0) (h0 : key y < 0) (h : key x ≤ key y) : key (powR d y n) ≤ key (powR d x n) ∧ key (powR d x n) ≤ 0 := by
  obtain ⟨kx, sx, zx⟩ := key_np (show key x < 0 by omega)
  obtain ⟨ky, sy, zy⟩ := key_np h0
  have mx_ := mg_le_inf hx
  have my := mg_le_inf hy
  have val : ∀ {z : Nat}, isNaN z = false → sg z = true → mg z ≠ 0 → mg z < infR → key (powR d z n) = -(rr d true (ZN z (-n).toNat) : Int) := fun {z} hz hs h1 hf => by
    rw [powR_neg hz hr hf h1 hn, key_rnd, pwS_oddn ho hn, hs]; rfl
  have vinf : ∀ {z : Nat}, isNaN z = false → mg z = infR → key (powR d z n) = 0 := fun {z} hz hf => by
    rw [powR_inf hz hr hf (by omega), if_pos hn]
    rfl
  by_cases fx : mg x = infR
  · rw [vinf hx fx]
    refine ⟨?_, by omega⟩
    by_cases fy : mg y = infR
    · rw [vinf hy fy]; omega
    · rw [val hy sy zy (by omega)]; omega
  · rw [val hx sx zx (by omega), val hy sy zy (by omega)]
    have := rr_mono hd true (ZN_anti (-n).toNat zy (show mg y ≤ mg x by omega))
    omega
/-- Down is not above Up. -/
theorem pw_dirs {x : Nat} {n : Int} (hx : isNaN x = false) (hr : ¬ (n < -1024 ∨ 1024 < n)) (hn : n ≠ 0) (h0 : mg x ≠ 0 ∨ 0 < n) : key (powR (-1) x n) ≤ key (powR 1 x n) := by
  have mx_ := mg_le_inf hx
  by_cases fx : mg x = infR
  · rw [powR_inf hx hr fx hn, powR_inf hx hr fx hn]
    exact Int.le_refl _
  · have go : ∀ (s : Bool) (Z : Nat), key (rnd (-1) s Z) ≤ key (rnd 1 s Z) := fun s Z => by
      rw [key_rnd, key_rnd]
      have := rr_dirs s Z
      cases s
      · simp only [Bool.false_eq_true, if_false] at this ⊢; omega
      · simp only [if_true] at this ⊢; omega
    by_cases hp : 0 < n
    · rw [powR_pos hx hr (by omega) hp, powR_pos hx hr (by omega) hp]; exact go _ _
    · rw [powR_neg hx hr (by omega) (by omega) (by omega), powR_neg hx hr (by omega) (by omega) (by omega)]; exact go _ _
end Go.Proofs.YtadijoeeaineaaaGreatDoor

/-
  Plain: what Add answers, by its roads; + where an operand is no number. Conditions: those that each theorem names.
-/
set_option linter.unusedVariables false
set_option linter.unusedSimpArgs false
namespace Go.Proofs.YtadijoeeaineaaaGreatDoor
open Nm Rn
/-- The sign and the size of a sum of P and Q with signs. -/
def aNeg (n m : Bool) (P Q : Nat) : Bool := if n = m then n else if Q ≤ P then n else m
def aMag (n m : Bool) (P Q : Nat) : Nat := if n = m then P + Q else if Q ≤ P then P - Q else Q - P
theorem sn_sum (n m : Bool) (P Q : Nat) : sn (aNeg n m P Q) (aMag n m P Q) = sn n P + sn m Q := by
  unfold aNeg aMag
  by_cases h : n = m
  · rw [if_pos h, if_pos h, h]
    unfold sn
    cases m
    · simp
    · simp only [if_true]; omega
  · rw [if_neg h, if_neg h]
    by_cases hle : Q ≤ P
    · rw [if_pos hle, if_pos hle]
      unfold sn
      cases n <;> cases m
      · exact absurd rfl h
      · simp only [if_true, Bool.false_eq_true, if_false]; omega
      · simp only [if_true, Bool.false_eq_true, if_false]; omega
      · exact absurd rfl h
    · rw [if_neg hle, if_neg hle]
      unfold sn
      cases n <;> cases m
      · exact absurd rfl h
      · simp only [if_true, Bool.false_eq_true, if_false]; omega
      · simp only [if_true, Bool.false_eq_true, if_false]; omega
      · exact absurd rfl h
end Go.Proofs.YtadijoeeaineaaaGreatDoor
namespace Go.Proofs.YtadijoeeaineaaaGreatDoor.Rn
open Nm
/-- The document's sum. -/
theorem add_ref (d : Int) (x y : Nat) {n m : Bool} (hn : n = (sg x && decide (mg x ≠ 0))) (hm : m = (sg y && decide (mg y ≠ 0))) :
    rnd d (aNeg n m (fbN x * fbD y) (fbN y * fbD x) && decide (aMag n m (fbN x * fbD y) (fbN y * fbD x) ≠ 0)) (zr (fracN (aMag n m (fbN x * fbD y) (fbN y * fbD x)) (fbD x * fbD y) 0) (fracD (aMag n m (fbN x * fbD y) (fbN y * fbD x)) (fbD x * fbD y) 0)) = rT d ((sv x + sv y) * (K74 : Int)) := by
  have hp : 0 < fbD x * fbD y := Nat.mul_pos (fbD_pos x) (fbD_pos y)
  obtain ⟨X, hX⟩ : ∃ X, X = aMag n m (fbN x * fbD y) (fbN y * fbD x) := ⟨_, rfl⟩
  obtain ⟨z, hz⟩ : ∃ z, z = aNeg n m (fbN x * fbD y) (fbN y * fbD x) := ⟨_, rfl⟩
  have hs := sn_sum n m (fbN x * fbD y) (fbN y * fbD x)
  rw [← hX, ← hz] at hs ⊢
  have h1 := sn_frac (neg := z) (n := X) (d := fbD x * fbD y) (e := 0) (p := 0) (q := 0) rfl
  rw [hs, ← sn_mul, ← sn_mul] at h1
  have h2 := fb_sv x
  have h3 := fb_sv y
  rw [← hn] at h2
  rw [← hm] at h3
  refine rT_rat (fracD_pos _ (by omega)) ?_
  obtain ⟨F, hF⟩ : ∃ F, F = sn (z && decide (X ≠ 0)) (fracN X (fbD x * fbD y) 0) := ⟨_, rfl⟩
  obtain ⟨G, hG⟩ : ∃ G, G = fracD X (fbD x * fbD y) 0 := ⟨_, rfl⟩
  rw [← hF, ← hG] at h1 ⊢
  obtain ⟨a, ha⟩ : ∃ a, a = sn n (fbN x) := ⟨_, rfl⟩
  obtain ⟨b, hb⟩ : ∃ b, b = sn m (fbN y) := ⟨_, rfl⟩
  rw [← ha, ← hb] at h1
  rw [← ha] at h2
  rw [← hb] at h3
  have hpi : (0 : Int) < ((fbD x * fbD y : Nat) : Int) := by omega
  refine Int.eq_of_mul_eq_mul_right (Int.ne_of_gt hpi) ?_
  have e1 : ((fbD x * fbD y * 2 ^ 0 : Nat) : Int) = ((fbD x * fbD y : Nat) : Int) := by simp
  have e2 : ((2 ^ 0 * G : Nat) : Int) = (G : Int) := by simp
  rw [e1, e2] at h1
  have e3 : F * ((K74 * K74 : Nat) : Int) * ((fbD x * fbD y : Nat) : Int) = (a * K74) * (fbD y) * K74 * G + (b * K74) * (fbD x) * K74 * G := by
    rw [Int.mul_right_comm, h1, Int.add_mul, Int.add_mul]
    push_cast
    simp only [Int.mul_assoc, Int.mul_comm, Int.mul_left_comm]
  rw [e3, h2, h3, Int.add_mul, Int.add_mul, Int.add_mul]
  push_cast
  simp only [Int.mul_assoc, Int.mul_comm, Int.mul_left_comm]

/-- A whole number of units 2^-2148. -/
def un (neg : Bool) (V : Nat) (e : Int) : Int := sn neg V * ((2 ^ (e + 2148).toNat : Nat) : Int)
theorem part_un (b : Nat) : un (sg b) (fbSig b) (fbExp b) = sv b * (K74 : Int) := by
  unfold un
  have h := fbExp_lo b
  obtain ⟨c, hc⟩ : ∃ c, c = 1074 := ⟨_, rfl⟩
  have e : (fbExp b + 2148).toNat = (fbExp b + 1074).toNat + c := by omega
  have hK : ((K74 : Nat) : Int) = ((2 ^ c : Nat) : Int) := by rw [hc, K74_def]
  rw [e, ← part_sv, Int.mul_assoc, hK, pow_add_]
  push_cast
  rfl
/-- The exact road's answer. -/
theorem un_exact (d : Int) {neg : Bool} {V : Nat} {e T : Int} (he : -2148 ≤ e) (h : un neg V e = T) : rnd d neg (zd (2 * V) (e - 1)) = rT d T := by
  unfold un at h
  refine rT_dy (A := (e + 2148).toNat) (B := 0) (by omega) ?_
  rw [h]; simp

theorem inf_cases {b : Nat} (hb : b < 18446744073709551616) (h : mg b = infR) : b = infP (sg b) := by
  have := split_pat hb
  rw [h] at this
  unfold infP
  cases hs : sg b
  · rw [hs] at this; simpa using this
  · rw [hs] at this
    rw [infR_val] at this
    rw [minf_val, if_pos rfl]
    simpa using this
/-- A sum with an operand that is no number. -/
theorem add_odd {x y : Nat} (hx : x < 18446744073709551616) (hy : y < 18446744073709551616) (h : (isNaN x || isInf x || (isNaN y || isInf y)) = true) :
    (Ieee.double.add x y = none ∧ ∀ d, addR d x y = NaNc) ∨ ∃ s, Ieee.double.add x y = some (infP s) ∧ ∀ d, addR d x y = infP s := by
  unfold addR Ieee.Format.add
  rcases kind x with ⟨n1, i1, k1⟩ | ⟨n1, i1, k1⟩ | ⟨n1, i1, k1⟩
  · left
    rw [read_nan hx k1, n1]
    exact ⟨rfl, fun d => rfl⟩
  · rcases kind y with ⟨n2, i2, k2⟩ | ⟨n2, i2, k2⟩ | ⟨n2, i2, k2⟩
    · left
      rw [read_nan hy k2, read_inf hx k1, n2, n1]
      exact ⟨rfl, fun d => rfl⟩
    · rw [read_inf hy k2, read_inf hx k1, n1, n2, i1, i2]
      have ex := inf_cases hx k1
      have ey := inf_cases hy k2
      by_cases hs : sg x = sg y
      · right
        have hxy : x = y := by rw [ex, ey, hs]
        refine ⟨sg x, ?_, fun d => ?_⟩
        · show Option.map _ (if sg x = sg y then some _ else none) = _
          rw [if_pos hs]
          show some (Ieee.double.write _) = _
          rw [write_inf]
        · rw [decide_eq_false (show ¬ x ≠ y from fun h => h hxy)]
          exact ex
      · left
        have hxy : x ≠ y := fun h => hs (by rw [h])
        refine ⟨?_, fun d => ?_⟩
        · show Option.map _ (if sg x = sg y then some _ else none) = _
          rw [if_neg hs]; rfl
        · rw [decide_eq_true hxy]; rfl
    · right
      obtain ⟨m, e, hr, -, hv⟩ := read_fin hy k2
      rw [hr, read_inf hx k1, n1, n2, i1, i2]
      refine ⟨sg x, ?_, fun d => inf_cases hx k1⟩
      show some (Ieee.double.write _) = _
      rw [write_inf]
  · rcases kind y with ⟨n2, i2, k2⟩ | ⟨n2, i2, k2⟩ | ⟨n2, i2, k2⟩
    · left
      obtain ⟨m, e, hr, -, hv⟩ := read_fin hx k1
      rw [read_nan hy k2, hr, n2, n1]
      exact ⟨rfl, fun d => rfl⟩
    · right
      obtain ⟨m, e, hr, -, hv⟩ := read_fin hx k1
      rw [hr, read_inf hy k2, n1, n2, i1, i2]
      refine ⟨sg y, ?_, fun d => inf_cases hy k2⟩
      show some (Ieee.double.write _) = _
      rw [write_inf]
    · rw [n1, n2, i1, i2] at h
      cases h
end Go.Proofs.YtadijoeeaineaaaGreatDoor.Rn

/-
  Plain: what the difference of two ratios is, and how long. Conditions: those that each theorem names.
-/
set_option linter.unusedVariables false
set_option linter.unusedSimpArgs false
namespace Go.Proofs.YtadijoeeaineaaaGreatDoor.Rn
open Nm

/-- What RSub answers: its sign, its magnitude. -/
def sbS (n m : Bool) (N D N' D' : Nat) : Bool := aNeg n (!m && decide (N' ≠ 0)) (N * D') (N' * D) && decide (aMag n (!m && decide (N' ≠ 0)) (N * D') (N' * D) ≠ 0)
def sbN (n m : Bool) (N D N' D' : Nat) : Nat := fracN (aMag n (!m && decide (N' ≠ 0)) (N * D') (N' * D)) (D * D') 0
def sbD (n m : Bool) (N D N' D' : Nat) : Nat := fracD (aMag n (!m && decide (N' ≠ 0)) (N * D') (N' * D)) (D * D') 0
theorem sn_turn (m : Bool) (N : Nat) : sn (!m && decide (N ≠ 0)) N = -sn m N := by
  unfold sn
  by_cases h : N = 0
  · subst h; cases m <;> simp
  · rw [decide_eq_true h, Bool.and_true]; cases m <;> simp
theorem sub_val (n m : Bool) {N D N' D' : Nat} (hD : 0 < D) (hD' : 0 < D') : 0 < sbD n m N D N' D' ∧ sn (sbS n m N D N' D') (sbN n m N D N' D') * ((D : Int) * (D' : Int)) = (sn n N * (D' : Int) - sn m N' * (D : Int)) * (sbD n m N D N' D' : Int) := by
  have hp : 0 < D * D' := Nat.mul_pos hD hD'
  refine ⟨fracD_pos _ (by omega), ?_⟩
  unfold sbS sbN sbD
  have hs := sn_sum n (!m && decide (N' ≠ 0)) (N * D') (N' * D)
  obtain ⟨X, hX⟩ : ∃ X, X = aMag n (!m && decide (N' ≠ 0)) (N * D') (N' * D) := ⟨_, rfl⟩
  obtain ⟨z, hz⟩ : ∃ z, z = aNeg n (!m && decide (N' ≠ 0)) (N * D') (N' * D) := ⟨_, rfl⟩
  rw [← hX, ← hz] at hs ⊢
  have h1 := sn_frac (neg := z) (n := X) (d := D * D') (e := 0) (p := 0) (q := 0) rfl
  rw [hs, ← sn_mul, ← sn_mul, sn_turn] at h1
  have e1 : ((D * D' * 2 ^ 0 : Nat) : Int) = (D : Int) * (D' : Int) := by simp
  have e2 : ((2 ^ 0 * fracD X (D * D') 0 : Nat) : Int) = (fracD X (D * D') 0 : Int) := by simp
  rw [e1, e2, Int.neg_mul] at h1
  rw [h1, Int.sub_eq_add_neg]

theorem fracN_le_z (n d : Nat) : fracN n d 0 ≤ n := by
  unfold fracN
  split
  · omega
  · have h1 : ((0 : Int) + tz n - tz d).toNat ≤ tz n := by omega
    have h2 := Nat.pow_le_pow_right (n := 2) (by omega) h1
    have h3 := Nat.mul_le_mul_left (n / 2 ^ tz n) h2
    rwa [tz_div] at h3
theorem fracD_le_z {n d : Nat} (hd : d ≠ 0) : fracD n d 0 ≤ d := by
  unfold fracD
  split
  · omega
  · have h1 : (-((0 : Int) + tz n - tz d)).toNat ≤ tz d := by omega
    have h2 := Nat.pow_le_pow_right (n := 2) (by omega) h1
    have h3 := Nat.mul_le_mul_left (d / 2 ^ tz d) h2
    rwa [tz_div] at h3
/-- Sizes. -/
theorem sb_nw {n m : Bool} {N D N' D' b : Nat} (hD : 0 < D) (hD' : 0 < D') (h1 : nw N ≤ b) (h2 : nw D ≤ b) (h3 : nw N' ≤ b) (h4 : nw D' ≤ b) : nw (sbN n m N D N' D') ≤ 2 * b + 1 ∧ nw (sbD n m N D N' D') ≤ 2 * b := by
  have nm2 : ∀ a c : Nat, nw (a * c) ≤ nw a + nw c := fun a c => by
    refine (nw_le_iff _ _).2 ?_
    rw [Nat.pow_add]
    exact Nat.mul_lt_mul'' (lt_pow_nw a) (lt_pow_nw c)
  have hp : 0 < D * D' := Nat.mul_pos hD hD'
  have a1 := nm2 N D'
  have a2 := nm2 N' D
  have a3 := nm2 D D'
  constructor
  · unfold sbN
    refine Nat.le_trans (nw_mono (fracN_le_z _ _)) ?_
    have hm : aMag n (!m && decide (N' ≠ 0)) (N * D') (N' * D) ≤ N * D' + N' * D := by unfold aMag; split; omega; split <;> omega
    refine Nat.le_trans (nw_mono hm) ?_
    refine (nw_le_iff _ _).2 ?_
    have b1 := lt_pow_nw (N * D')
    have b2 := lt_pow_nw (N' * D)
    have c1 : 4294967296 ^ nw (N * D') ≤ 4294967296 ^ (2 * b) := Nat.pow_le_pow_right (by omega) (by omega)
    have c2 : 4294967296 ^ nw (N' * D) ≤ 4294967296 ^ (2 * b) := Nat.pow_le_pow_right (by omega) (by omega)
    rw [Nat.pow_succ]
    omega
  · unfold sbD
    exact Nat.le_trans (nw_mono (fracD_le_z (show D * D' ≠ 0 by omega))) (by omega)
end Go.Proofs.YtadijoeeaineaaaGreatDoor.Rn

/-
  Plain: the ends of the steps are whole or infinite; Floor's lie where they must. Conditions: those that each theorem names.
-/
namespace Go.Proofs.YtadijoeeaineaaaGreatDoor
open Nm Rn
set_option linter.unusedVariables false
set_option linter.unusedSimpArgs false

theorem mg_pat {s : Bool} {r : Nat} (hr : r ≤ infR) : mg (pat s r) = r ∧ sv (pat s r) = if s then -(rv r : Int) else (rv r : Int) := by
  have e := infR_val
  unfold pat
  by_cases h : r = 0
  · rw [if_pos h, h]; cases s <;> exact ⟨rfl, rfl⟩
  · rw [if_neg h]
    cases s
    · simp only [Bool.false_eq_true, if_false]
      have h1 : sg r = false := decide_eq_false (by omega)
      have h2 : mg r = r := by unfold mg; omega
      refine ⟨h2, ?_⟩
      unfold sv; rw [h1, h2]; rfl
    · simp only [if_true]
      have h1 : sg (9223372036854775808 + r) = true := decide_eq_true (by omega)
      have h2 : mg (9223372036854775808 + r) = r := by unfold mg; omega
      refine ⟨h2, ?_⟩
      unfold sv; rw [h1, h2]; rfl
/-- A whole number's denominator is 1. -/
theorem fbD_whole {e W : Nat} (h : rv (mg e) = W * K74) : fbD e = 1 := by
  have hv := fb_val e
  rw [h] at hv
  have h1 : fbN e = W * fbD e := Nat.eq_of_mul_eq_mul_right K74_pos (by rw [hv]; ac_rfl)
  unfold fbN fbD fracN fracD at h1
  unfold fbD fracD
  by_cases h0 : fbSig e = 0
  · rw [if_pos h0]
  · rw [if_neg h0] at h1 ⊢
    rw [if_neg h0] at h1
    rw [show tz 1 = 0 from rfl, Nat.pow_zero, Nat.div_one, Nat.one_mul] at h1 ⊢
    rcases Int.lt_or_le (fbExp e + (tz (fbSig e) : Int) - ((0 : Nat) : Int)) 0 with hl | hg
    · exfalso
      obtain ⟨j, hj⟩ : ∃ j, (-(fbExp e + (tz (fbSig e) : Int) - ((0 : Nat) : Int))).toNat = j + 1 := ⟨(-(fbExp e + (tz (fbSig e) : Int) - ((0 : Nat) : Int))).toNat - 1, by omega⟩
      rw [hj, show (fbExp e + (tz (fbSig e) : Int) - ((0 : Nat) : Int)).toNat = 0 by omega, Nat.pow_zero, Nat.mul_one, Nat.pow_succ] at h1
      have ho := tz_bit h0
      have h2 : fbSig e / 2 ^ tz (fbSig e) = 2 * (W * 2 ^ j) := by rw [h1]; ac_rfl
      omega
    · rw [show (-(fbExp e + (tz (fbSig e) : Int) - ((0 : Nat) : Int))).toNat = 0 by omega, Nat.pow_zero]
/-- An end that a step makes of a number. -/
theorem wh_num {k f : Nat} (hk : k ≠ 0) (hf : f < 18446744073709551616) (nf : isNaN f = false) (fin : mg f < infR) : pl (stF k f) = pat (sg f) (stR k (sg f) (mg f)) ∧ stR k (sg f) (mg f) < infR ∧ rv (stR k (sg f) (mg f)) = stQ k (sg f) (rv (mg f)) K74 * K74 := by
  obtain ⟨_, _, _, h4⟩ := stF_facts k hf nf
  obtain ⟨s1, s2⟩ := stR_spec fin k (sg f)
  rw [if_neg hk] at h4
  have e : stM' k (sg f) (mg f) = stR k (sg f) (mg f) := by unfold stM'; rw [if_pos fin]
  rw [e] at h4
  exact ⟨h4, s1, s2⟩
theorem wh_inf {k f : Nat} (hk : k ≠ 0) (nf : isNaN f = false) (inf : ¬ mg f < infR) (hz : f ≠ 9223372036854775808) : pl (stF k f) = f := by
  unfold stF stP
  rw [if_neg hk, if_neg inf]
  exact if_neg hz
theorem wh_same {k f : Nat} (hk : k ≠ 0) (hf : f < 18446744073709551616) (nf : isNaN f = false) (hz : f ≠ 9223372036854775808) : isInf (pl (stF k f)) = isInf f := by
  by_cases fin : mg f < infR
  · obtain ⟨h1, h2, _⟩ := wh_num hk hf nf fin
    rw [h1]
    unfold isInf
    rw [(mg_pat (Nat.le_of_lt h2)).1, decide_eq_false (by omega), decide_eq_false (by omega)]
  · rw [wh_inf hk nf fin hz]
theorem wh_den {k f : Nat} (hf : f < 18446744073709551616) (nf : isNaN f = false) (fin : mg f < infR) : fbD (pl (stF k f)) = 1 := by
  by_cases hk : k = 0
  · obtain ⟨_, _, _, h4⟩ := stF_facts k hf nf
    rw [if_pos hk] at h4
    rw [h4]
    split
    · decide
    · cases sg f <;> decide +kernel
  · obtain ⟨h1, h2, h3⟩ := wh_num hk hf nf fin
    rw [h1]
    refine fbD_whole (W := stQ k (sg f) (rv (mg f)) K74) ?_
    rw [(mg_pat (Nat.le_of_lt h2)).1, h3]
/-- Floor's. -/
theorem wh_floor {f : Nat} (hf : f < 18446744073709551616) (nf : isNaN f = false) (fin : mg f < infR) : sv (pl (stF 1 f)) ≤ sv f ∧ sv f - (K74 : Int) < sv (pl (stF 1 f)) := by
  obtain ⟨h1, h2, h3⟩ := wh_num (k := 1) (by omega) hf nf fin
  have hK := K74_pos
  rw [h1, (mg_pat (Nat.le_of_lt h2)).2, h3]
  unfold sv
  have hd := Nat.div_add_mod (rv (mg f)) K74
  have hm := Nat.mod_lt (rv (mg f)) hK
  unfold stQ stMo
  rw [if_pos rfl]
  generalize rv (mg f) = N at *
  generalize K74 = K at *
  cases hs : sg f
  · simp only [Bool.false_and, Bool.toNat_false, Nat.add_zero, Bool.false_eq_true, if_false]
    rw [Nat.mul_comm (N / K) K]
    omega
  · simp only [Bool.true_and, if_true]
    by_cases h0 : N % K = 0
    · rw [decide_eq_false (by omega)]
      simp only [Bool.toNat_false, Nat.add_zero]
      rw [Nat.mul_comm (N / K) K]
      omega
    · rw [decide_eq_true h0]
      simp only [Bool.toNat_true]
      rw [Nat.add_mul, Nat.one_mul, Nat.mul_comm (N / K) K]
      omega
/-- How Floor's end stands to the argument's, and to it less 1. -/
theorem wh_rc {f : Nat} (hf : f < 18446744073709551616) (nf : isNaN f = false) (fin : mg f < infR) :
    decide (0 < rc (sg (pl (stF 1 f)) && decide (mg (pl (stF 1 f)) ≠ 0)) (fbN (pl (stF 1 f))) (fbD (pl (stF 1 f))) (sg f && decide (mg f ≠ 0)) (fbN f) (fbD f)) = false ∧
    decide (0 ≤ rc (sbS (sg f && decide (mg f ≠ 0)) false (fbN f) (fbD f) 1 1) (sbN (sg f && decide (mg f ≠ 0)) false (fbN f) (fbD f) 1 1) (sbD (sg f && decide (mg f ≠ 0)) false (fbN f) (fbD f) 1 1) (sg (pl (stF 1 f)) && decide (mg (pl (stF 1 f)) ≠ 0)) (fbN (pl (stF 1 f))) (fbD (pl (stF 1 f)))) = false := by
  obtain ⟨h1, h2⟩ := wh_floor hf nf fin
  generalize pl (stF 1 f) = e at *
  have hK : (0 : Int) < (K74 : Int) := by have := K74_pos; omega
  have pf : (0 : Int) < (fbD f : Int) := by have := fbD_pos f; omega
  have pe : (0 : Int) < (fbD e : Int) := by have := fbD_pos e; omega
  have ve := fb_sv e
  have vf := fb_sv f
  constructor
  · rw [rc_bits]
    obtain ⟨g1, g2⟩ := rv_key f e
    unfold cmpI
    refine decide_eq_false ?_
    split
    · omega
    · split
      · rename_i hlt
        have := g1.2 hlt
        omega
      · omega
  · obtain ⟨pS, vS⟩ := sub_val (sg f && decide (mg f ≠ 0)) false (N := fbN f) (D := fbD f) (N' := 1) (D' := 1) (fbD_pos f) (by omega)
    unfold rc cmpI
    refine decide_eq_false ?_
    rw [if_pos]
    · omega
    · generalize sn (sbS (sg f && decide (mg f ≠ 0)) false (fbN f) (fbD f) 1 1) (sbN (sg f && decide (mg f ≠ 0)) false (fbN f) (fbD f) 1 1) = X at *
      generalize hY : (sbD (sg f && decide (mg f ≠ 0)) false (fbN f) (fbD f) 1 1 : Int) = Y at *
      have pY : 0 < Y := by omega
      generalize sn (sg f && decide (mg f ≠ 0)) (fbN f) = F at *
      generalize sn (sg e && decide (mg e ≠ 0)) (fbN e) = G at *
      generalize (fbD f : Int) = Df at *
      generalize (fbD e : Int) = De at *
      generalize (K74 : Int) = K at *
      have e1 : sn false 1 = 1 := rfl
      rw [e1] at vS
      have vT : X * (Df * 1) = (F * 1 - 1 * Df) * Y := vS
      have p2 : 0 < Df * K := Int.mul_pos pf hK
      refine Int.lt_of_mul_lt_mul_right (a := Df * K) ?_ (Int.le_of_lt p2)
      have l1 : X * De * (Df * K) = (sv f - K) * (Df * De * Y) := by
        calc X * De * (Df * K) = X * (Df * 1) * (De * K) := by rw [Int.mul_one]; ac_rfl
          _ = (F * 1 - 1 * Df) * Y * (De * K) := by rw [vT]
          _ = (F * K - K * Df) * (De * Y) := by rw [Int.mul_one, Int.one_mul, Int.sub_mul, Int.sub_mul, Int.sub_mul]; congr 1 <;> ac_rfl
          _ = (sv f - K) * (Df * De * Y) := by rw [vf, ← Int.sub_mul]; ac_rfl
      have l2 : G * Y * (Df * K) = sv e * (Df * De * Y) := by
        calc G * Y * (Df * K) = G * K * (Df * Y) := by ac_rfl
          _ = sv e * (Df * De * Y) := by rw [ve]; ac_rfl
      rw [l1, l2]
      exact Int.mul_lt_mul_of_pos_right h2 (Int.mul_pos (Int.mul_pos pf pe) pY)
end Go.Proofs.YtadijoeeaineaaaGreatDoor
