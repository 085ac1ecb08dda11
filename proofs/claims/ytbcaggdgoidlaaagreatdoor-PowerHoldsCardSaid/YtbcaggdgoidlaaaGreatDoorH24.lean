/-
 Plain: rounding keeps order; so do powers. Conditions: those that each theorem names.
-/
import Derived.Test.YtbcaggdgoidlaaaGreatDoorH23
import Derived.Test.YtbcaggdgoidlaaaGreatDoorH09
import Derived.Test.YtbcaggdgoidlaaaGreatDoorH06
import Derived.Test.YtbcaggdgoidlaaaGreatDoorH05
namespace Go.Proofs.YtbcaggdgoidlaaaGreatDoor
open Nm Rn
set_option linter.unusedVariables false
set_option linter.unusedSimpArgs false
def Dir (d : Int) : Prop := d = 1 ∨ d = -1
theorem rr_mono {d : Int} (hd : Dir d) (neg : Bool) {Z Z' : Nat} (h : Z ≤ Z') : rr d neg Z ≤ rr d neg Z' := by
 have h4 : Z / 4 ≤ Z' / 4 := Nat.div_le_div_right h
 have hm := rung_mono h4
 have h1 := rung_spec (Z / 4)
 have h2 := rung_spec (Z' / 4)
 unfold rr
 generalize infR = I at *
 split
 · omega
 · rename_i hc
   have ha : ∀ W, away d neg W = !decide (W = 4 * rv (rung (W / 4))) := fun W => by
     unfold away
     by_cases he : W = 4 * rv (rung (W / 4))
     · rw [if_pos he, decide_eq_true he]; rfl
     · rw [if_neg he, decide_eq_false he]
       rcases hd with rfl | rfl
       · rw [if_pos rfl]; cases neg
         · rfl
         · exact absurd (.inl ⟨rfl, rfl⟩) hc
       · rw [if_neg (by decide), if_pos rfl]; cases neg
         · exact absurd (.inr ⟨rfl, rfl⟩) hc
         · rfl
   rw [ha, ha]
   by_cases e : rung (Z / 4) = rung (Z' / 4)
   · rw [← e]
     by_cases e1 : Z = 4 * rv (rung (Z / 4))
     · rw [decide_eq_true e1]
       simp only [Bool.not_true, Bool.false_eq_true, if_false]
       split <;> omega
     · rw [decide_eq_false e1, decide_eq_false (show ¬ Z' = 4 * rv (rung (Z / 4)) by omega)]
       omega
   · split <;> split <;> omega
theorem rr_dirs (neg : Bool) (Z : Nat) : if neg then rr 1 true Z ≤ rr (-1) true Z else rr (-1) false Z ≤ rr 1 false Z := by
 cases neg
 · simp only [Bool.false_eq_true, if_false]
   unfold rr
   rw [if_pos (.inr ⟨rfl, rfl⟩), if_neg (by simp)]
   split <;> omega
 · simp only [if_true]
   unfold rr
   rw [if_pos (.inl ⟨rfl, rfl⟩), if_neg (by simp)]
   split <;> omega
theorem key_pat {s : Bool} {r : Nat} (hr : r ≤ infR) : key (pat s r) = if s then -(r : Int) else (r : Int) := by
 have e := infR_val
 unfold pat
 by_cases h : r = 0
 · rw [if_pos h, h]; cases s <;> rfl
 · rw [if_neg h]
   cases s
   · simp only [Bool.false_eq_true, if_false]
     unfold key
     have h1 : sg r = false := decide_eq_false (by omega)
     have h2 : mg r = r := by unfold mg; omega
     rw [h1, h2]; rfl
   · simp only [if_true]
     unfold key
     have h1 : sg (9223372036854775808 + r) = true := decide_eq_true (by omega)
     have h2 : mg (9223372036854775808 + r) = r := by unfold mg; omega
     rw [h1, h2]; rfl
theorem pat_nz {s : Bool} {r : Nat} (hr : r ≤ infR) : pat s r ≠ 9223372036854775808 := by
 have e := infR_val
 unfold pat
 split
 · omega
 · split <;> omega
theorem key_rnd (d : Int) (s : Bool) (Z : Nat) : key (rnd d s Z) = if s then -(rr d s Z : Int) else (rr d s Z : Int) := key_pat (rr_le d s Z)
theorem zq_mono {N m N' m' : Nat} (hm : 0 < m) (hm' : 0 < m') (h : N * m' ≤ N' * m) : zq N m ≤ zq N' m' := by
 rcases Nat.lt_or_ge (zq N' m') (zq N m) with hlt | hge
 · exfalso
   by_cases he : zq N' m' % 2 = 0
   · obtain ⟨T, hT⟩ : ∃ T, zq N' m' = 2 * T := ⟨zq N' m' / 2, by omega⟩
     have a1 := (zq_gt (N := N) hm (T := T)).1 (by omega)
     have a2 : ¬ T * m' < N' := fun h2 => by have := (zq_gt (N := N') hm' (T := T)).2 h2; omega
     have b1 : T * m * m' < N * m' := Nat.mul_lt_mul_of_pos_right a1 hm'
     have b2 : N' * m ≤ T * m' * m := Nat.mul_le_mul_right m (by omega)
     have b3 : T * m * m' = T * m' * m := by rw [Nat.mul_assoc, Nat.mul_comm m m', ← Nat.mul_assoc]
     omega
   · obtain ⟨T, hT⟩ : ∃ T, zq N' m' = 2 * T + 1 := ⟨zq N' m' / 2, by omega⟩
     have a1 := (zq_le (N := N) hm (T := T + 1)).1 (by omega)
     have a2 : ¬ (T + 1) * m' ≤ N' := fun h2 => by have := (zq_le (N := N') hm' (T := T + 1)).2 h2; omega
     have b1 : (T + 1) * m * m' ≤ N * m' := Nat.mul_le_mul_right m' a1
     have b2 : N' * m < (T + 1) * m' * m := Nat.mul_lt_mul_of_pos_right (by omega) hm
     have b3 : (T + 1) * m * m' = (T + 1) * m' * m := by rw [Nat.mul_assoc, Nat.mul_comm m m', ← Nat.mul_assoc]
     omega
 · exact hge
theorem zr_mono {N m N' m' : Nat} (hm : 0 < m) (hm' : 0 < m') (h : N * m' ≤ N' * m) : zr N m ≤ zr N' m' := by
 refine zq_mono hm hm' ?_
 have := Nat.mul_le_mul_right K75 h
 calc N * K75 * m' = N * m' * K75 := by ac_rfl
   _ ≤ N' * m * K75 := this
   _ = N' * K75 * m := by ac_rfl
theorem fb_cross {x y : Nat} (h : mg x ≤ mg y) : fbN x * fbD y ≤ fbN y * fbD x := by
 have h1 := fb_val x
 have h2 := fb_val y
 have h3 := rv_le h
 have h4 := Nat.mul_le_mul_right (fbD x * fbD y) h3
 have e1 : fbN x * fbD y * K74 = rv (mg x) * (fbD x * fbD y) := by
   calc fbN x * fbD y * K74 = fbN x * K74 * fbD y := by ac_rfl
     _ = rv (mg x) * (fbD x * fbD y) := by rw [h1]; ac_rfl
 have e2 : fbN y * fbD x * K74 = rv (mg y) * (fbD x * fbD y) := by
   calc fbN y * fbD x * K74 = fbN y * K74 * fbD x := by ac_rfl
     _ = rv (mg y) * (fbD x * fbD y) := by rw [h2]; ac_rfl
 rw [← e1, ← e2] at h4
 exact Nat.le_of_mul_le_mul_right h4 K74_pos
def ZP (x m : Nat) : Nat := zr (fracN (fbN x ^ m) (fbD x ^ m) 0) (fracD (fbN x ^ m) (fbD x ^ m) 0)
def ZN (x m : Nat) : Nat := zr (fracN (1 * fracD (fbN x ^ m) (fbD x ^ m) 0) (1 * fracN (fbN x ^ m) (fbD x ^ m) 0) 0) (fracD (1 * fracD (fbN x ^ m) (fbD x ^ m) 0) (1 * fracN (fbN x ^ m) (fbD x ^ m) 0) 0)
theorem zr_frac_ {N D : Nat} (hD : 0 < D) : zr (fracN N D 0) (fracD N D 0) = zr N D := by
 have h := frac_val (n := N) (d := D) (e := 0) (p := 0) (q := 0) rfl
 rw [Nat.pow_zero, Nat.mul_one, Nat.mul_one] at h
 exact zr_congr (fracD_pos _ (by omega)) hD h
theorem ZP_eq (x m : Nat) : ZP x m = zr (fbN x ^ m) (fbD x ^ m) := zr_frac_ (Nat.pow_pos (fbD_pos x))
theorem fbN_pos_ {x : Nat} (h : mg x ≠ 0) : 0 < fbN x := Nat.pos_of_ne_zero fun e => h ((fbN_zero x).1 e)
theorem ZN_eq {x : Nat} (m : Nat) (h : mg x ≠ 0) : ZN x m = zr (fbD x ^ m) (fbN x ^ m) := by
 have hN : 0 < fbN x ^ m := Nat.pow_pos (fbN_pos_ h)
 have hD : 0 < fbD x ^ m := Nat.pow_pos (fbD_pos x)
 have hF := frac_val (n := fbN x ^ m) (d := fbD x ^ m) (e := 0) (p := 0) (q := 0) rfl
 rw [Nat.pow_zero, Nat.mul_one, Nat.mul_one] at hF
 have hP : 0 < fracN (fbN x ^ m) (fbD x ^ m) 0 := Nat.pos_of_ne_zero fun e => Nat.ne_of_gt hN (fracN_eq_zero.1 e)
 have hQ := fracD_pos (n := fbN x ^ m) 0 (Nat.ne_of_gt hD)
 unfold ZN
 rw [Nat.one_mul, Nat.one_mul, zr_frac_ hP]
 refine zr_congr hP hN ?_
 rw [Nat.mul_comm (fracD _ _ _), ← hF, Nat.mul_comm]
theorem ZP_mono {x y : Nat} (m : Nat) (h : mg x ≤ mg y) : ZP x m ≤ ZP y m := by
 rw [ZP_eq, ZP_eq]
 refine zr_mono (Nat.pow_pos (fbD_pos x)) (Nat.pow_pos (fbD_pos y)) ?_
 rw [← Nat.mul_pow, ← Nat.mul_pow]
 exact Nat.pow_le_pow_left (fb_cross h) m
theorem ZN_anti {x y : Nat} (m : Nat) (h0 : mg x ≠ 0) (h : mg x ≤ mg y) : ZN y m ≤ ZN x m := by
 have hy : mg y ≠ 0 := by omega
 rw [ZN_eq m h0, ZN_eq m hy]
 refine zr_mono (Nat.pow_pos (fbN_pos_ hy)) (Nat.pow_pos (fbN_pos_ h0)) ?_
 rw [← Nat.mul_pow, ← Nat.mul_pow]
 refine Nat.pow_le_pow_left ?_ m
 have := fb_cross h
 rw [Nat.mul_comm (fbD y), Nat.mul_comm (fbD x)]
 exact this
theorem powR_pos {d : Int} {x : Nat} {n : Int} (hx : isNaN x = false) (hr : ¬ (n < -1024 ∨ 1024 < n)) (hi : mg x < infR) (hn : 0 < n) : powR d x n = rnd d (pwS (sg x) n.toNat) (ZP x n.toNat) := by
 have h2 : isInf x = false := decide_eq_false (by omega)
 unfold powR
 rw [if_neg (by rw [hx]; simp; omega), if_neg (by omega), if_neg (by rw [h2]; simp), if_neg (by omega), if_pos hn]
 rfl
theorem powR_neg {d : Int} {x : Nat} {n : Int} (hx : isNaN x = false) (hr : ¬ (n < -1024 ∨ 1024 < n)) (hi : mg x < infR) (h0 : mg x ≠ 0) (hn : n < 0) : powR d x n = rnd d (pwS (sg x) (-n).toNat) (ZN x (-n).toNat) := by
 have h2 : isInf x = false := decide_eq_false (by omega)
 unfold powR
 rw [if_neg (by rw [hx]; simp; omega), if_neg (by omega), if_neg (by rw [h2]; simp), if_neg (by omega), if_neg (by omega)]
 rfl
theorem powR_inf {d : Int} {x : Nat} {n : Int} (hx : isNaN x = false) (hr : ¬ (n < -1024 ∨ 1024 < n)) (hi : mg x = infR) (hn : n ≠ 0) : powR d x n = if n < 0 then 0 else if (sg x && decide (n % 2 ≠ 0)) = true then minf else infR := by
 have h2 : isInf x = true := decide_eq_true hi
 unfold powR
 rw [if_neg (by rw [hx]; simp; omega), if_neg hn, if_pos h2]
theorem mg_le_inf {x : Nat} (h : isNaN x = false) : mg x ≤ infR := by
 unfold isNaN at h
 have := of_decide_eq_false h
 omega
theorem key_nn {x : Nat} (h : 0 ≤ key x) : key x = (mg x : Int) := by
 unfold key at h ⊢
 cases hs : sg x
 · simp
 · rw [hs] at h; simp at h ⊢; omega
theorem key_np {x : Nat} (h : key x < 0) : key x = -(mg x : Int) ∧ sg x = true ∧ mg x ≠ 0 := by
 unfold key at h ⊢
 cases hs : sg x
 · rw [hs] at h; simp at h; omega
 · rw [hs] at h; simp at h ⊢; omega
theorem sg_nn {x : Nat} (h : 0 ≤ key x) (h0 : mg x ≠ 0) : sg x = false := by
 unfold key at h
 cases hs : sg x
 · rfl
 · rw [hs] at h; simp at h; omega
theorem pwS_false (m : Nat) : pwS false m = false := by unfold pwS; rfl
theorem ZP_zero {x m : Nat} (h : mg x = 0) (hm : 0 < m) : ZP x m = 0 := by
 rw [ZP_eq, (fbN_zero x).2 h, Nat.zero_pow hm]
 exact zr_zero _
theorem pw_mono_nn {d : Int} (hd : Dir d) {x y : Nat} {n : Int} (hx : isNaN x = false) (hy : isNaN y = false) (hr : ¬ (n < -1024 ∨ 1024 < n)) (hn : 0 < n) (h0 : 0 ≤ key x) (h : key x ≤ key y) : 0 ≤ key (powR d x n) ∧ key (powR d x n) ≤ key (powR d y n) := by
 have kx := key_nn h0
 have ky := key_nn (show 0 ≤ key y by omega)
 have mx_ := mg_le_inf hx
 have my := mg_le_inf hy
 have nnat : 0 < n.toNat := by omega
 have val : ∀ {z : Nat}, isNaN z = false → 0 ≤ key z → mg z < infR → key (powR d z n) = (rr d false (ZP z n.toNat) : Int) := fun {z} hz hk hf => by
   rw [powR_pos hz hr hf hn, key_rnd]
   by_cases h1 : mg z = 0
   · rw [ZP_zero h1 nnat, rr_zero, rr_zero]; split <;> simp
   · rw [sg_nn hk h1, pwS_false]; rfl
 have vinf : ∀ {z : Nat}, isNaN z = false → 0 ≤ key z → mg z = infR → key (powR d z n) = 9218868437227405312 := fun {z} hz hk hf => by
   rw [powR_inf hz hr hf (by omega), if_neg (by omega), sg_nn hk (by rw [hf]; decide)]
   rfl
 have hle := rr_le d false (ZP x n.toNat)
 have e := infR_val
 by_cases fx : mg x = infR
 · have fy : mg y = infR := by omega
   rw [vinf hx h0 fx, vinf hy (by omega) fy]
   omega
 · rw [val hx h0 (by omega)]
   refine ⟨by omega, ?_⟩
   by_cases fy : mg y = infR
   · rw [vinf hy (by omega) fy]; omega
   · rw [val hy (by omega) (by omega)]
     have := rr_mono hd false (ZP_mono n.toNat (show mg x ≤ mg y by omega))
     omega
theorem pwS_odd {n : Int} (hn : n.tmod 2 ≠ 0) (hp : 0 < n) (s : Bool) : pwS s n.toNat = s := by
 obtain ⟨m, rfl⟩ := Int.eq_ofNat_of_zero_le (show 0 ≤ n by omega)
 have h2 : m % 2 = 1 := by
   have : (m : Int).tmod 2 = ((m % 2 : Nat) : Int) := rfl
   rw [this] at hn
   omega
 unfold pwS
 rw [Int.toNat_natCast, h2]
 cases s <;> rfl
theorem pw_mono_odd {d : Int} (hd : Dir d) {x y : Nat} {n : Int} (hx : isNaN x = false) (hy : isNaN y = false) (hr : ¬ (n < -1024 ∨ 1024 < n)) (hn : 0 < n) (ho : n.tmod 2 ≠ 0) (h : key x ≤ key y) : key (powR d x n) ≤ key (powR d y n) := by
 by_cases h0 : 0 ≤ key x
 · exact (pw_mono_nn hd hx hy hr hn h0 h).2
 · obtain ⟨kx, sx, zx⟩ := key_np (show key x < 0 by omega)
   have e := infR_val
   have mx_ := mg_le_inf hx
   have my := mg_le_inf hy
   have n2 : (n % 2 ≠ 0) := by
     have := Int.emod_two_eq n
     rcases this with h1 | h1
     · exfalso
       obtain ⟨m, rfl⟩ := Int.eq_ofNat_of_zero_le (show 0 ≤ n by omega)
       have h2 : (m : Int).tmod 2 = ((m % 2 : Nat) : Int) := rfl
       rw [h2] at ho
       omega
     · omega
   have val : ∀ {z : Nat}, isNaN z = false → sg z = true → mg z < infR → key (powR d z n) = -(rr d true (ZP z n.toNat) : Int) := fun {z} hz hs hf => by
     rw [powR_pos hz hr hf hn, key_rnd, pwS_odd ho hn, hs]; rfl
   have vinf : ∀ {z : Nat}, isNaN z = false → sg z = true → mg z = infR → key (powR d z n) = -9218868437227405312 := fun {z} hz hs hf => by
     rw [powR_inf hz hr hf (by omega), if_neg (by omega), hs, decide_eq_true n2]
     rfl
   have lx : key (powR d x n) ≤ 0 := by
     by_cases fx : mg x = infR
     · rw [vinf hx sx fx]; omega
     · rw [val hx sx (by omega)]; omega
   by_cases hy0 : 0 ≤ key y
   · have := (pw_mono_nn hd hy hy hr hn hy0 (Int.le_refl _)).1
     omega
   · obtain ⟨ky, sy, zy⟩ := key_np (show key y < 0 by omega)
     by_cases fx : mg x = infR
     · have hk := key_le (powR_ok (d := d) hy hr).1
       rw [vinf hx sx fx]
       exact hk.2
     · have fy : mg y ≠ infR := by omega
       rw [val hx sx (by omega), val hy sy (by omega)]
       have := rr_mono hd true (ZP_mono n.toNat (show mg y ≤ mg x by omega))
       omega
theorem pw_anti_p {d : Int} (hd : Dir d) {x y : Nat} {n : Int} (hx : isNaN x = false) (hy : isNaN y = false) (hr : ¬ (n < -1024 ∨ 1024 < n)) (hn : n < 0) (h0 : 0 < key x) (h : key x ≤ key y) : key (powR d y n) ≤ key (powR d x n) ∧ 0 ≤ key (powR d y n) := by
 have kx := key_nn (show 0 ≤ key x by omega)
 have ky := key_nn (show 0 ≤ key y by omega)
 have mx_ := mg_le_inf hx
 have my := mg_le_inf hy
 have val : ∀ {z : Nat}, isNaN z = false → 0 < key z → mg z < infR → key (powR d z n) = (rr d false (ZN z (-n).toNat) : Int) := fun {z} hz hk hf => by
   have hk0 := key_nn (show 0 ≤ key z by omega)
   rw [powR_neg hz hr hf (by omega) hn, key_rnd, sg_nn (by omega) (by omega), pwS_false]; rfl
 have vinf : ∀ {z : Nat}, isNaN z = false → mg z = infR → key (powR d z n) = 0 := fun {z} hz hf => by
   rw [powR_inf hz hr hf (by omega), if_pos hn]
   rfl
 by_cases fy : mg y = infR
 · rw [vinf hy fy]
   refine ⟨?_, by omega⟩
   by_cases fx : mg x = infR
   · rw [vinf hx fx]; omega
   · rw [val hx h0 (by omega)]; omega
 · rw [val hy (by omega) (by omega), val hx h0 (by omega)]
   have := rr_mono hd false (ZN_anti (-n).toNat (show mg x ≠ 0 by omega) (show mg x ≤ mg y by omega))
   omega
theorem pwS_oddn {n : Int} (hn : n.tmod 2 ≠ 0) (hp : n < 0) (s : Bool) : pwS s (-n).toNat = s := by
 refine pwS_odd (n := -n) ?_ (by omega) s
 rw [Int.neg_tmod]
 omega
theorem pw_anti_n {d : Int} (hd : Dir d) {x y : Nat} {n : Int} (hx : isNaN x = false) (hy : isNaN y = false) (hr : ¬ (n < -1024 ∨ 1024 < n)) (hn : n < 0) (ho : n.tmod 2 ≠ 0) (h0 : key y < 0) (h : key x ≤ key y) : key (powR d y n) ≤ key (powR d x n) ∧ key (powR d x n) ≤ 0 := by
 obtain ⟨kx, sx, zx⟩ := key_np (show key x < 0 by omega)
 obtain ⟨ky, sy, zy⟩ := key_np h0
 have mx_ := mg_le_inf hx
 have my := mg_le_inf hy
 have val : ∀ {z : Nat}, isNaN z = false → sg z = true → mg z ≠ 0 → mg z < infR → key (powR d z n) = -(rr d true (ZN z (-n).toNat) : Int) := fun {z} hz hs h1 hf => by
   rw [powR_neg hz hr hf h1 hn, key_rnd, pwS_oddn ho hn, hs]; rfl
 have vinf : ∀ {z : Nat}, isNaN z = false → mg z = infR → key (powR d z n) = 0 := fun {z} hz hf => by
   rw [powR_inf hz hr hf (by omega), if_pos hn]
   rfl
 by_cases fx : mg x = infR
 · rw [vinf hx fx]
   refine ⟨?_, by omega⟩
   by_cases fy : mg y = infR
   · rw [vinf hy fy]; omega
   · rw [val hy sy zy (by omega)]; omega
 · rw [val hx sx zx (by omega), val hy sy zy (by omega)]
   have := rr_mono hd true (ZN_anti (-n).toNat zy (show mg y ≤ mg x by omega))
   omega
theorem pw_dirs {x : Nat} {n : Int} (hx : isNaN x = false) (hr : ¬ (n < -1024 ∨ 1024 < n)) (hn : n ≠ 0) (h0 : mg x ≠ 0 ∨ 0 < n) : key (powR (-1) x n) ≤ key (powR 1 x n) := by
 have mx_ := mg_le_inf hx
 by_cases fx : mg x = infR
 · rw [powR_inf hx hr fx hn, powR_inf hx hr fx hn]
   exact Int.le_refl _
 · have go : ∀ (s : Bool) (Z : Nat), key (rnd (-1) s Z) ≤ key (rnd 1 s Z) := fun s Z => by
     rw [key_rnd, key_rnd]
     have := rr_dirs s Z
     cases s
     · simp only [Bool.false_eq_true, if_false] at this ⊢; omega
     · simp only [if_true] at this ⊢; omega
   by_cases hp : 0 < n
   · rw [powR_pos hx hr (by omega) hp, powR_pos hx hr (by omega) hp]; exact go _ _
   · rw [powR_neg hx hr (by omega) (by omega) (by omega), powR_neg hx hr (by omega) (by omega) (by omega)]; exact go _ _
end Go.Proofs.YtbcaggdgoidlaaaGreatDoor

set_option linter.unusedVariables false
set_option linter.unusedSimpArgs false
namespace Go.Proofs.YtbcaggdgoidlaaaGreatDoor
open Nm Rn
def aNeg (n m : Bool) (P Q : Nat) : Bool := if n = m then n else if Q ≤ P then n else m
def aMag (n m : Bool) (P Q : Nat) : Nat := if n = m then P + Q else if Q ≤ P then P - Q else Q - P
theorem sn_sum (n m : Bool) (P Q : Nat) : sn (aNeg n m P Q) (aMag n m P Q) = sn n P + sn m Q := by
 unfold aNeg aMag
 by_cases h : n = m
 · rw [if_pos h, if_pos h, h]
   unfold sn
   cases m
   · simp
   · simp only [if_true]; omega
 · rw [if_neg h, if_neg h]
   by_cases hle : Q ≤ P
   · rw [if_pos hle, if_pos hle]
     unfold sn
     cases n <;> cases m
     · exact absurd rfl h
     · simp only [if_true, Bool.false_eq_true, if_false]; omega
     · simp only [if_true, Bool.false_eq_true, if_false]; omega
     · exact absurd rfl h
   · rw [if_neg hle, if_neg hle]
     unfold sn
     cases n <;> cases m
     · exact absurd rfl h
     · simp only [if_true, Bool.false_eq_true, if_false]; omega
     · simp only [if_true, Bool.false_eq_true, if_false]; omega
     · exact absurd rfl h
end Go.Proofs.YtbcaggdgoidlaaaGreatDoor
namespace Go.Proofs.YtbcaggdgoidlaaaGreatDoor.Rn
open Nm
def un (neg : Bool) (V : Nat) (e : Int) : Int := sn neg V * ((2 ^ (e + 2148).toNat : Nat) : Int)
end Go.Proofs.YtbcaggdgoidlaaaGreatDoor.Rn

namespace Go.Proofs.YtbcaggdgoidlaaaGreatDoor.Rn
def Asks (T : Nat) : Prop := ∃ k, T = 2 * rv k ∨ T = rv k + rv (k + 1)
theorem asks_dvd {T a b : Nat} (hT : Asks T) (h : 9007199254740992 * 2 ^ a < T * 2 ^ b) : 2 ^ a ∣ T * 2 ^ b := by
 obtain ⟨k, hk⟩ := hT
 obtain ⟨s, h1, h2, h3, -⟩ := rv_dvd k
 generalize k / 4503599627370496 - 1 = v at *
 have key : ∀ {m c : Nat}, m < 9007199254740992 → T * 2 ^ b = m * 2 ^ c → 2 ^ a ∣ T * 2 ^ b := by
   intro m c hm e
   rw [e] at h ⊢
   rcases Nat.lt_or_ge c a with h4 | h4
   · exfalso
     have h5 := pow_mono (Nat.le_of_lt h4)
     have := Nat.mul_le_mul (Nat.le_of_lt hm) h5
     omega
   · exact Nat.dvd_mul_left_of_dvd (pow_dvd h4) _
 rcases hk with hk | hk
 · refine key (m := s) (c := v + 1 + b) h3 ?_
   rw [hk, h1, pow_add_ (v + 1) b, two_pow_s]
   ac_rfl
 · have e : T * 2 ^ b = (2 * s + 1) * 2 ^ (v + b) := by
     rw [hk, h1, h2, pow_add_, ← Nat.mul_assoc, ← Nat.add_mul]
     congr 2
     omega
   rw [e] at h ⊢
   rcases Nat.lt_or_ge (v + b) a with h4 | h4
   · exfalso
     have h5 := pow_mono (show v + b + 1 ≤ a by omega)
     rw [two_pow_s] at h5
     have : (2 * s + 1) * 2 ^ (v + b) ≤ 18014398509481984 * 2 ^ (v + b) := Nat.mul_le_mul_right _ (by omega)
     omega
   · exact Nat.dvd_mul_left_of_dvd (pow_dvd h4) _
theorem between {Q a b T : Nat} (hQ : 9007199254740992 ≤ Q) (hT : Asks T) (h1 : Q * 2 ^ a < T * 2 ^ b) (h2 : T * 2 ^ b < (Q + 1) * 2 ^ a) : False := by
 have h3 := asks_dvd (a := a) (b := b) hT (Nat.lt_of_le_of_lt (Nat.mul_le_mul_right _ hQ) h1)
 obtain ⟨m, hm⟩ := h3
 rw [hm, Nat.mul_comm _ (2 ^ a)] at h1 h2
 have := Nat.lt_of_mul_lt_mul_left h1
 have := Nat.lt_of_mul_lt_mul_left h2
 omega
end Go.Proofs.YtbcaggdgoidlaaaGreatDoor.Rn
