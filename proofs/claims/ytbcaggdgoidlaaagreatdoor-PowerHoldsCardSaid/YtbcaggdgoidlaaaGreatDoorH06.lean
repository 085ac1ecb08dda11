/-
 Plain: a natural times a power of 2, and a little more, cut to 55 bits and rounded out of the last two. Conditions: those that each theorem names.
-/
import Derived.Test.YtbcaggdgoidlaaaGreatDoorH03
import Derived.Test.YtbcaggdgoidlaaaGreatDoorH05
import Derived.Test.YtbcaggdgoidlaaaGreatDoorRows
import Derived.Test.YtbcaggdgoidlaaaGreatDoorH01
import Derived.WalkKit
import Derived.WalkSpells
import Derived.WalkLawsBesides
import Derived.Below
import Derived.Laws.OwnMore
import Derived.Deep.AppendLies
import Derived.Deep.Draws
import Derived.Lib.Hide
set_option linter.unusedVariables false
set_option linter.unusedSimpArgs false
namespace Go.Proofs.YtbcaggdgoidlaaaGreatDoor.Rn
open Go.Proofs.YtbcaggdgoidlaaaGreatDoor.Nm
def upO (d : Int) (neg : Bool) (s r : Nat) : Bool := if r = 0 then false else if d = 1 then !neg else if d = -1 then neg else (decide (r = 3) || (decide (r = 2) && decide (s % 2 = 1)))
def stick (W : Nat) (f : Bool) : Nat := if f && W % 2 == 0 then W + 1 else W
theorem stick_div (W : Nat) (f : Bool) : stick W f / 4 = W / 4 := by
 unfold stick
 split
 · rename_i h
   simp at h
   omega
 · rfl
theorem stick_mod (W : Nat) (f : Bool) : stick W f % 4 = if f then (if W % 4 < 2 then 1 else 3) else W % 4 := by
 unfold stick
 cases f
 · simp
 · simp only [Bool.true_and, if_true]
   by_cases h : W % 2 = 0
   · rw [if_pos (by simpa using h)]; split <;> omega
   · rw [if_neg (by simpa using h)]; split <;> omega
theorem or_one (W : Nat) : W ||| 1 = stick W true := by
 unfold stick
 by_cases h : W % 2 = 0
 · rw [if_pos (by simpa using h)]
   have := Nat.two_pow_add_eq_or_of_lt (i := 1) (b := 1) (by omega) (W / 2)
   have e : 2 ^ 1 * (W / 2) = W := by omega
   rw [e] at this
   exact this.symm
 · rw [if_neg (by simpa using h)]
   have := Nat.two_pow_add_eq_or_of_lt (i := 1) (b := 1) (by omega) (W / 2)
   have e : 2 ^ 1 * (W / 2) + 1 = W := by omega
   rw [e] at this
   rw [this, Nat.or_assoc, Nat.or_self]
theorem rr_parts {mag a b G W t u : Nat} {place L : Int} (hu0 : (u : Int) = L + 1074) (hab : (a : Int) - b = place - L) (hG : 2 ^ b = 4 * G) (hx : mag * 2 ^ a = W * G + t) (ht : t < G)
   (hs : W / 4 < 9007199254740992) (hu : u ≠ 0 → 4503599627370496 ≤ W / 4) (huu : u ≤ 2045) (d : Int) (neg : Bool) {v : Nat} (hv : v = stick W (decide (t ≠ 0))) :
   rnd d neg (zd mag place) = pat neg (u * 4503599627370496 + (v / 4 + (upO d neg (v / 4) (v % 4)).toNat)) := by
 have hd : v / 4 = W / 4 := by rw [hv, stick_div]
 have hm : v % 4 = if t ≠ 0 then (if W % 4 < 2 then 1 else 3) else W % 4 := by rw [hv, stick_mod]; simp only [decide_eq_true_eq]
 obtain ⟨s, hse⟩ : ∃ s, s = W / 4 := ⟨_, rfl⟩
 obtain ⟨r, hre⟩ : ∃ r, r = W % 4 := ⟨_, rfl⟩
 rw [← hse] at hs hu hd
 rw [← hre] at hm
 have hr4 : r < 4 := by omega
 have hW : W * G = s * (4 * G) + r * G := by
   have : W = s * 4 + r := by omega
   rw [this, Nat.add_mul, Nat.mul_assoc]
 rw [hW, Nat.add_assoc] at hx
 rw [hd]
 have e0 : r * G + t < 4 * G := by
   have : r * G ≤ 3 * G := Nat.mul_le_mul_right _ (by omega)
   omega
 have hup : upO d neg s (v % 4) = if mag * 2 ^ a = s * 2 ^ b then false else if d = 1 then !neg else if d = -1 then neg else
     decide ((2 * s + 1) * 2 ^ b < 2 * (mag * 2 ^ a)) || (decide (2 * (mag * 2 ^ a) = (2 * s + 1) * 2 ^ b) && decide (s % 2 = 1)) := by
   rw [hG, hx]
   unfold upO
   have c1 : v % 4 = 0 ↔ s * (4 * G) + (r * G + t) = s * (4 * G) := by
     rw [hm]
     constructor
     · intro h
       by_cases h0 : t ≠ 0
       · rw [if_pos h0] at h; split at h <;> omega
       · rw [if_neg h0] at h
         have : t = 0 := Decidable.not_not.1 h0
         rw [this, h]; simp
     · intro h
       have h1 : r * G + t = 0 := by omega
       have h2 : t = 0 := by omega
       have h3 : r * G = 0 := by omega
       rw [if_neg (by omega)]
       rcases Nat.mul_eq_zero.1 h3 with h4 | h4
       · exact h4
       · omega
   have e1 : (2 * s + 1) * (4 * G) = 2 * (s * (4 * G)) + 4 * G := by rw [Nat.add_mul, Nat.mul_assoc]; omega
   have e2 : 2 * (s * (4 * G) + (r * G + t)) = 2 * (s * (4 * G)) + 2 * (r * G + t) := by omega
   have hrG : r = 0 ∧ r * G = 0 ∨ r = 1 ∧ r * G = G ∨ r = 2 ∧ r * G = 2 * G ∨ r = 3 ∧ r * G = 3 * G := by
     have : r = 0 ∨ r = 1 ∨ r = 2 ∨ r = 3 := by omega
     rcases this with h | h | h | h <;> subst h <;> simp
   have c3 : v % 4 = 3 ↔ (2 * s + 1) * (4 * G) < 2 * (s * (4 * G) + (r * G + t)) := by
     rw [hm, e1, e2]
     rcases hrG with ⟨h1, h2⟩ | ⟨h1, h2⟩ | ⟨h1, h2⟩ | ⟨h1, h2⟩ <;> rw [h2, h1] <;> by_cases h0 : t = 0 <;> simp [h0] <;> omega
   have c2 : v % 4 = 2 ↔ 2 * (s * (4 * G) + (r * G + t)) = (2 * s + 1) * (4 * G) := by
     rw [hm, e1, e2]
     rcases hrG with ⟨h1, h2⟩ | ⟨h1, h2⟩ | ⟨h1, h2⟩ | ⟨h1, h2⟩ <;> rw [h2, h1] <;> by_cases h0 : t = 0 <;> simp [h0] <;> omega
   simp only [c1, c2, c3]
 have hlo : s * 2 ^ b ≤ mag * 2 ^ a := by rw [hG, hx]; omega
 have hhi : mag * 2 ^ a < (s + 1) * 2 ^ b := by rw [hG, hx, Nat.add_mul]; omega
 have hf := rr_form hu0 hab hs hu hlo hhi d neg _ hup
 unfold rnd
 rw [hf]
 have hb1 : (upO d neg s (v % 4)).toNat ≤ 1 := by cases upO d neg s (v % 4) <;> simp
 split
 · rename_i htw
   have : upO d neg s (v % 4) = false := by
     unfold upO
     rcases htw with ⟨h1, h2⟩ | ⟨h1, h2⟩
     · rw [h1, h2]; split <;> simp
     · rw [h1, h2]; split <;> simp
   rw [this, rr_min' huu hs]; rfl
 · rw [rr_min hb1 huu hs]
theorem zd_zr (mag : Nat) (place : Int) : zd mag place = zr (mag * 2 ^ place.toNat) (2 ^ (-place).toNat) := by
 rw [zr_eq, K75_pow]
 obtain ⟨c, hc⟩ : ∃ c, c = 1075 := ⟨_, rfl⟩
 rw [← hc, zd_of (A := place.toNat + c) (B := (-place).toNat) (by omega), Nat.mul_assoc, ← Nat.pow_add]
theorem rnd_big {V m : Nat} {exp : Int} (hV : V ≠ 0) (h : 1023 < (bl V : Int) - 1 + exp) (d : Int) (neg : Bool) : rnd d neg (zd (2 * V + m) (exp - 1)) = pat neg (if twB d neg then infR - 1 else infR) := by
 unfold rnd twB
 rw [zd_zr, rr_over (two_pow_pos _) ?_]
 · simp
 · have h1 := pow_le_of_bl hV
   have hb := bl_pos hV
   have h2 : 2 ^ (bl V) ≤ 2 * V + m := by
     have : 2 ^ (bl V) = 2 * 2 ^ (bl V - 1) := by rw [← Nat.pow_succ']; congr 1; omega
     omega
   obtain ⟨c, hc⟩ : ∃ c, c = 1024 := ⟨_, rfl⟩
   have hK : K1024 = 2 ^ c := by rw [hc]; exact K1024_def
   rw [hK, ← Nat.pow_add]
   refine Nat.le_trans ?_ (Nat.mul_le_mul_right _ h2)
   rw [← Nat.pow_add]
   exact Nat.pow_le_pow_right (by omega) (by omega)
def ofW (V : Nat) (cut : Int) : Nat := if 0 < cut then V / 2 ^ cut.toNat else V * 2 ^ (-cut).toNat
def ofF (V : Nat) (cut : Int) (more : Bool) : Bool := (decide (0 < cut) && decide (V % 2 ^ cut.toNat ≠ 0)) || more
def ofE (V : Nat) (exp : Int) : Int := max ((bl V : Int) - 53 + exp) (-1074)
theorem ofW_lt {V : Nat} {exp cut : Int} (hV : V ≠ 0) (hc : cut = ofE V exp - 2 - exp) : ofW V cut < 36028797018963968 ∧ (ofE V exp ≠ -1074 → 18014398509481984 ≤ ofW V cut) ∧ (cut ≤ 0 → bl V + (-cut).toNat ≤ 55) := by
 have h1 := pow_le_of_bl hV
 have h2 := lt_pow_bl V
 have hb := bl_pos hV
 unfold ofE at hc ⊢
 unfold ofW
 have e55 : (36028797018963968 : Nat) = 2 ^ 55 := rfl
 have e54 : (18014398509481984 : Nat) = 2 ^ 54 := rfl
 by_cases hcut : 0 < cut
 · rw [if_pos hcut]
   obtain ⟨c, hcc⟩ : ∃ c : Nat, cut = c := ⟨cut.toNat, by omega⟩
   rw [hcc, Int.toNat_natCast]
   refine ⟨?_, fun hne => ?_, fun h => by omega⟩
   · rw [Nat.div_lt_iff_lt_mul (two_pow_pos c), e55, ← Nat.pow_add]
     exact Nat.lt_of_lt_of_le h2 (Nat.pow_le_pow_right (by omega) (by omega))
   · rw [Nat.le_div_iff_mul_le (two_pow_pos c), e54, ← Nat.pow_add]
     exact Nat.le_trans (Nat.pow_le_pow_right (by omega) (by omega)) h1
 · rw [if_neg hcut]
   obtain ⟨c, hcc⟩ : ∃ c : Nat, -cut = c := ⟨(-cut).toNat, by omega⟩
   rw [hcc, Int.toNat_natCast]
   refine ⟨?_, fun hne => ?_, fun h => by omega⟩
   · have : V * 2 ^ c < 2 ^ bl V * 2 ^ c := Nat.mul_lt_mul_of_pos_right h2 (two_pow_pos c)
     rw [← Nat.pow_add] at this
     rw [e55]
     exact Nat.lt_of_lt_of_le this (Nat.pow_le_pow_right (by omega) (by omega))
   · have : 2 ^ (bl V - 1) * 2 ^ c ≤ V * 2 ^ c := Nat.mul_le_mul_right _ h1
     rw [← Nat.pow_add] at this
     rw [e54]
     exact Nat.le_trans (Nat.pow_le_pow_right (by omega) (by omega)) this
theorem rnd_ofW {V : Nat} {exp cut : Int} {more : Bool} (hV : V ≠ 0) (hm : more = true → 55 ≤ bl V) (hc : cut = ofE V exp - 2 - exp) (hf : (bl V : Int) - 1 + exp ≤ 1023) (d : Int) (neg : Bool) {v u : Nat} (hv : v = stick (ofW V cut) (ofF V cut more)) (hu : (u : Int) = ofE V exp + 1074) :
   rnd d neg (zd (2 * V + more.toNat) (exp - 1)) = pat neg (u * 4503599627370496 + (v / 4 + (upO d neg (v / 4) (v % 4)).toNat)) ∧ u ≤ 2045 ∧ v / 4 + (upO d neg (v / 4) (v % 4)).toNat ≤ 9007199254740992 ∧ (u ≠ 0 → 4503599627370496 ≤ v / 4 + (upO d neg (v / 4) (v % 4)).toNat) := by
 obtain ⟨w1, w2, w3⟩ := ofW_lt hV hc
 have hu45 : u ≤ 2045 := by unfold ofE at hu; omega
 have hb1 : ∀ s r, (upO d neg s r).toNat ≤ 1 := fun s r => by cases upO d neg s r <;> simp
 have hsd : v / 4 = ofW V cut / 4 := by rw [hv, stick_div]
 have hu2 : u ≠ 0 → 4503599627370496 ≤ ofW V cut / 4 := fun h => by have := w2 (by omega); omega
 refine ⟨?_, hu45, by have := hb1 (v / 4) (v % 4); omega, fun h => by have := hu2 h; omega⟩
 by_cases hcut : 0 < cut
 · obtain ⟨c, hcc⟩ : ∃ c : Nat, cut = c := ⟨cut.toNat, by omega⟩
   have hWe : ofW V cut = V / 2 ^ c := by unfold ofW; rw [if_pos hcut, hcc, Int.toNat_natCast]
   have hFe : ofF V cut more = decide (2 * (V % 2 ^ c) + more.toNat ≠ 0) := by
     unfold ofF
     rw [decide_eq_true hcut, Bool.true_and, hcc, Int.toNat_natCast]
     cases more
     · simp only [Bool.or_false, Bool.toNat_false, Nat.add_zero]
       exact decide_eq_decide.2 (by omega)
     · rw [Bool.or_true]; symm; exact decide_eq_true (by simp)
   have hlt := Nat.mod_lt V (two_pow_pos c)
   have hdm := Nat.div_add_mod V (2 ^ c)
   have hm1 : more.toNat ≤ 1 := by cases more <;> simp
   refine rr_parts (a := 0) (b := c + 3) (G := 2 * 2 ^ c) (W := ofW V cut) (t := 2 * (V % 2 ^ c) + more.toNat) (L := ofE V exp) hu (by omega) ?_ ?_ (by omega) (by omega) hu2 hu45 d neg (by rw [hv, hFe])
   · rw [Nat.pow_add, show (2 ^ 3 : Nat) = 8 from rfl]; omega
   · rw [hWe, Nat.pow_zero, Nat.mul_one]
     have e1 : V / 2 ^ c * (2 * 2 ^ c) = 2 * (2 ^ c * (V / 2 ^ c)) := by
       simp only [Nat.mul_assoc, Nat.mul_comm, Nat.mul_left_comm]
     rw [e1]
     omega
 · obtain ⟨c, hcc⟩ : ∃ c : Nat, -cut = c := ⟨(-cut).toNat, by omega⟩
   have hWe : ofW V cut = V * 2 ^ c := by unfold ofW; rw [if_neg hcut, hcc, Int.toNat_natCast]
   have hFe : ofF V cut more = decide (more.toNat ≠ 0) := by
     unfold ofF
     rw [decide_eq_false hcut, Bool.false_and, Bool.false_or]
     cases more <;> rfl
   refine rr_parts (a := c) (b := 3) (G := 2) (W := ofW V cut) (t := more.toNat) (L := ofE V exp) hu (by omega) (by omega) ?_ (by cases more <;> simp) (by omega) hu2 hu45 d neg (by rw [hv, hFe])
   rw [hWe, Nat.add_mul]
   have e2 : more.toNat * 2 ^ c = more.toNat := by
     cases hmo : more
     · simp
     · have h55 := hm hmo
       have := w3 (by omega)
       have hc0 : c = 0 := by omega
       rw [hc0]; simp
   rw [e2, Nat.mul_assoc, Nat.mul_comm 2]
end Go.Proofs.YtbcaggdgoidlaaaGreatDoor.Rn

namespace Go.Proofs.YtbcaggdgoidlaaaGreatDoor.Rn
open Nm
end Go.Proofs.YtbcaggdgoidlaaaGreatDoor.Rn

namespace Go.Proofs.YtbcaggdgoidlaaaGreatDoor.Rn
open Nm
def NaNc : Nat := 9221120237041090561
theorem NaNc_val : NaNc = 9221120237041090561 := rfl
def cn (b : Nat) : Nat := if isNaN b then NaNc else b
def infP (s : Bool) : Nat := if s then minf else infR
theorem sn_dec (neg : Bool) (n m : Nat) (h : m = 0 ↔ n = 0) : sn (neg && decide (m ≠ 0)) n = sn neg n := by
 unfold sn
 by_cases h0 : n = 0
 · simp [h0]
 · have : m ≠ 0 := fun hm => h0 (h.1 hm)
   simp [this]
theorem sn_frac {neg : Bool} {n d : Nat} {e : Int} {p q : Nat} (hpq : (p : Int) - q = e) : sn (neg && decide (n ≠ 0)) (fracN n d e) * ((d * 2 ^ q : Nat) : Int) = sn neg n * ((2 ^ p * fracD n d e : Nat) : Int) := by
 have h1 := frac_val (n := n) (d := d) hpq
 have h2 : sn (neg && decide (n ≠ 0)) (fracN n d e) = sn neg (fracN n d e) := sn_dec neg _ _ (fracN_eq_zero (d := d) (e := e)).symm
 rw [h2, sn_mul, sn_mul, h1, Nat.mul_assoc]
end Go.Proofs.YtbcaggdgoidlaaaGreatDoor.Rn

namespace Go.Proofs.YtbcaggdgoidlaaaGreatDoor
open Nm Rn
set_option linter.unusedVariables false
set_option linter.unusedSimpArgs false
theorem plN_pl {b : Nat} (h : isNaN b = false) : plN (pl b) = pl b := by
 have h0 : isNaN 0 = false := rfl
 unfold plN pl
 by_cases h1 : b = 9223372036854775808
 · rw [if_pos h1, h0]; rfl
 · rw [if_neg h1, if_neg h1, h]; rfl
theorem rdLo_pl (lo hi : Nat) : plN (rdLo lo hi) = rdLo lo hi := by
 unfold rdLo
 cases h : sndB lo hi
 · rw [if_neg (by simp)]; unfold plN; rw [nan_inf, infR_val]; rfl
 · rw [if_pos rfl]; exact plN_pl (snd_nan h).1
theorem rdHi_pl (lo hi : Nat) : plN (rdHi lo hi) = rdHi lo hi := by
 unfold rdHi
 cases h : sndB lo hi
 · rw [if_neg (by simp)]; unfold plN; rw [nan_minf, minf_val]; rfl
 · rw [if_pos rfl]; exact plN_pl (snd_nan h).2
def mx (x : Nat) : Nat := if key x < 0 then mg x else x
theorem mx_lt {x : Nat} (hx : x < 18446744073709551616) : mx x < 18446744073709551616 := by unfold mx mg; split <;> omega
theorem mx_nan {x : Nat} (hx : isNaN x = false) : isNaN (mx x) = false := by
 unfold mx; split
 · have : mg (mg x) = mg x := by unfold mg; omega
   unfold isNaN at hx ⊢; rw [this]; exact hx
 · exact hx
theorem mx_key {x : Nat} : key (mx x) = if key x < 0 then -key x else key x := by
 unfold mx
 split
 · rename_i h
   have hm : mg x < 9223372036854775808 := by unfold mg; omega
   have e2 : mg (mg x) = mg x := by unfold mg; omega
   have e3 : sg (mg x) = false := decide_eq_false (by omega)
   unfold key at h ⊢
   rw [e2, e3]
   revert h
   cases sg x
   · intro h; rw [if_neg (by simp)] at h; omega
   · intro _; simp
 · rfl
def szHi (p q : Nat) : Nat := if key (mx q) < key (mx p) then mx p else mx q
def szLo (p q : Nat) : Nat := if key p ≤ 0 ∧ 0 ≤ key q then 0 else if key (mx q) < key (mx p) then mx q else mx p
theorem sz_ends {p q : Nat} (hp : p < 18446744073709551616) (hq : q < 18446744073709551616) (np : isNaN p = false) (nq : isNaN q = false) (h1 : p ≠ infR) (h2 : q ≠ minf) :
   szLo p q < 18446744073709551616 ∧ isNaN (szLo p q) = false ∧ szLo p q ≠ infR ∧ szHi p q < 18446744073709551616 ∧ isNaN (szHi p q) = false ∧ szHi p q ≠ minf := by
 have P1 := mx_lt hp
 have P2 := mx_nan np
 have Q1 := mx_lt hq
 have Q2 := mx_nan nq
 have kp := @mx_key p
 have kq := @mx_key q
 have rp := key_le np
 have rq := key_le nq
 have ip := key_eq_inf hp np
 have iq := key_eq_minf hq nq
 have i1 := infR_val
 have z0 : isNaN 0 = false := rfl
 refine ⟨?_, ?_, ?_, ?_, ?_, ?_⟩
 · unfold szLo; split
   · omega
   · split <;> assumption
 · unfold szLo; split
   · exact z0
   · split <;> assumption
 · intro h
   have hk : key (szLo p q) = 9218868437227405312 := by rw [h]; exact key_inf
   revert hk
   unfold szLo
   split
   · intro hk; have e : key 0 = 0 := rfl; omega
   · rename_i g
     split
     · intro hk; revert kp kq; split <;> split <;> (intros; omega)
     · intro hk; revert kp kq; split <;> split <;> (intros; omega)
 · unfold szHi; split <;> assumption
 · unfold szHi; split <;> assumption
 · intro h
   have hk : key (szHi p q) = -9218868437227405312 := by rw [h]; exact key_minf
   revert hk
   unfold szHi
   revert kp kq
   split <;> split <;> split <;> (intros; omega)
def abLo (lo hi : Nat) : Nat := if rdLo lo hi = infR ∧ rdHi lo hi = minf then infR else pl (szLo (rdLo lo hi) (rdHi lo hi))
def abHi (lo hi : Nat) : Nat := if rdLo lo hi = infR ∧ rdHi lo hi = minf then minf else pl (szHi (rdLo lo hi) (rdHi lo hi))
def kmin (a b : Nat) : Nat := if key b < key a then b else a
def kmax (a b : Nat) : Nat := if key a < key b then b else a
def minLo (x1 x2 y1 y2 : Nat) : Nat := if (rdLo x1 x2 = infR ∧ rdHi x1 x2 = minf) ∨ (rdLo y1 y2 = infR ∧ rdHi y1 y2 = minf) then infR else pl (kmin (rdLo x1 x2) (rdLo y1 y2))
def minHi (x1 x2 y1 y2 : Nat) : Nat := if (rdLo x1 x2 = infR ∧ rdHi x1 x2 = minf) ∨ (rdLo y1 y2 = infR ∧ rdHi y1 y2 = minf) then minf else pl (kmin (rdHi x1 x2) (rdHi y1 y2))
def maxLo (x1 x2 y1 y2 : Nat) : Nat := if (rdLo x1 x2 = infR ∧ rdHi x1 x2 = minf) ∨ (rdLo y1 y2 = infR ∧ rdHi y1 y2 = minf) then infR else pl (kmax (rdLo x1 x2) (rdLo y1 y2))
def maxHi (x1 x2 y1 y2 : Nat) : Nat := if (rdLo x1 x2 = infR ∧ rdHi x1 x2 = minf) ∨ (rdLo y1 y2 = infR ∧ rdHi y1 y2 = minf) then minf else pl (kmax (rdHi x1 x2) (rdHi y1 y2))
def vldB (lo hi : Nat) : Bool := (decide (lo = infR) && decide (hi = minf)) || (sndB lo hi && decide (lo ≠ 9223372036854775808) && decide (hi ≠ 9223372036854775808))
end Go.Proofs.YtbcaggdgoidlaaaGreatDoor

namespace Go.Proofs.YtbcaggdgoidlaaaGreatDoor
open Nm Rn
def emp (lo hi : Nat) : Prop := rdLo lo hi = infR ∧ rdHi lo hi = minf
instance (lo hi : Nat) : Decidable (emp lo hi) := by unfold emp; exact inferInstance
theorem cn_eq {r V : Nat} (h : cn r = V) (hV : isNaN V = false) : r = V := by
 unfold cn at h
 cases hr : isNaN r
 · rw [hr] at h; exact h
 · rw [hr] at h
   rw [← h] at hV
   cases hV
end Go.Proofs.YtbcaggdgoidlaaaGreatDoor

namespace Go.Proofs.YtbcaggdgoidlaaaGreatDoor
open Go.RowKit Nm
theorem block_of_add (a : Addr) (n : Nat) : (a.add n).block = a.block := by unfold Addr.add; split <;> rfl
theorem add_of_add (a : Addr) (i j : Nat) : (a.add i).add j = a.add (i + j) := by
 unfold Addr.add
 by_cases hi : i = 0 <;> by_cases hj : j = 0 <;> simp [hi, hj, Nat.add_assoc]
def Wds (w : World) (A : Option Addr) (n c : Nat) (xs : List Nat) : Prop :=
 xs.length = n ∧ n ≤ c ∧ c ≤ maxLen ∧ Ws xs ∧ (0 < n → ∃ ad, A = some ad ∧ ad.block < w.heap.size ∧ ∀ (k x : Nat), xs[k]? = some x → w.cell? (ad.add k) = some (.int .u32 (x : Int)))
section
variable {w w' : World} {n c : Nat} {A : Option Addr} {xs : List Nat}
theorem Wds.len (h : Wds w A n c xs) : xs.length = n := h.1
theorem Wds.ws (h : Wds w A n c xs) : Ws xs := h.2.2.2.1
theorem Wds.lec (h : Wds w A n c xs) : n ≤ c := h.2.1
theorem Wds.cmax (h : Wds w A n c xs) : c ≤ maxLen := h.2.2.1
theorem Wds.at_ {k : Nat} (h : Wds w A n c xs) (hk : k < n) : ∃ ad, ∃ hx : k < xs.length, A = some ad ∧ ad.block < w.heap.size ∧ w.cell? (ad.add k) = some (.int .u32 (xs[k] : Int)) := by
 obtain ⟨ad, e, hb, hc⟩ := h.2.2.2.2 (by omega)
 have hl : k < xs.length := by have := h.1; omega
 exact ⟨ad, hl, e, hb, hc k _ (List.getElem?_eq_getElem hl)⟩
theorem Wds.keep (h : Wds w A n c xs) (hs : w.heap.size ≤ w'.heap.size) (hk : ∀ p : Addr, p.block < w.heap.size → w'.cell? p = w.cell? p) : Wds w' A n c xs :=
 ⟨h.1, h.2.1, h.2.2.1, h.2.2.2.1, fun hn => by
   obtain ⟨ad, e, hb, hc⟩ := h.2.2.2.2 hn
   exact ⟨ad, e, by omega, fun k x hu => (hk _ (by rw [block_of_add]; exact hb)).trans (hc k x hu)⟩⟩
theorem Wds.below (h : Wds w A n c xs) (hb : Below w.heap.size w w') : Wds w' A n c xs := h.keep hb.size fun _ hp => hb.cell hp
theorem Wds.drew (h : Wds w A n c xs) : Wds w.drew A n c xs := h
theorem Wds.drewN (h : Wds w A n c xs) (k : Nat) : Wds (w.drewN k) A n c xs := h
theorem Wds.alloc (h : Wds w A n c xs) (o : Obj) : Wds (w.alloc o) A n c xs := h.keep (by simp) fun p hp => World.cell?_alloc_lt w o p (by omega)
theorem Wds.nil_ (hc : c ≤ maxLen) : Wds w A 0 c [] := ⟨rfl, Nat.zero_le _, hc, Ws.nil, fun h => absurd h (by omega)⟩
end
def Ext (w w' : World) : Prop := Below w.heap.size w w'
section
variable {w w' w'' : World}
theorem Ext.refl (w : World) : Ext w w := Below.refl _ _
theorem Ext.trans (h : Ext w w') (k : Ext w' w'') : Ext w w'' := Below.trans h (Below.mono k (Below.size h))
theorem Ext.size (h : Ext w w') : w.heap.size ≤ w'.heap.size := Below.size h
theorem Ext.drew (h : Ext w w') : Ext w w'.drew := Below.drew h
theorem Ext.drewN (h : Ext w w') (n : Nat) : Ext w (w'.drewN n) := by
 have hb : Below w.heap.size w w' := h
 exact ⟨hb.os, hb.tape, hb.output, hb.size, hb.block⟩
theorem Ext.alloc (h : Ext w w') (o : Obj) : Ext w (w'.alloc o) := Below.alloc h (Below.size h) o
theorem Ext.setCell (h : Ext w w') {p : Addr} (hp : w.heap.size ≤ p.block) (u : Value) : Ext w (w'.setCell p u) := Below.setCell h hp u
theorem Ext.cell (h : Ext w w') {p : Addr} (hp : p.block < w.heap.size) : w'.cell? p = w.cell? p := Below.cell h hp
theorem Ext.frozen (h : Ext w w') {p : Addr} (hp : p.block < w.heap.size) : w'.frozen? p = w.frozen? p := Below.frozen h hp
theorem Ext.grown (h : Ext w w') {row : Option Nat} (hg : w'.grownBy w'' row) (hr : ∀ k, row = some k → w.heap.size ≤ k) : Ext w w'' := Below.grown h hg (Below.size h) hr
theorem Wds.ext {n c : Nat} {A : Option Addr} {xs : List Nat} (h : Wds w A n c xs) (hb : Ext w w') : Wds w' A n c xs := h.below hb
end
def u32s (xs : List Nat) : List Value := xs.map fun (x : Nat) => Value.int .u32 (x : Int)
theorem u32s_length (xs : List Nat) : (u32s xs).length = xs.length := by simp [u32s]
theorem u32s_get {xs : List Nat} {k x : Nat} (h : xs[k]? = some x) : (u32s xs)[k]? = some (Value.int .u32 (x : Int)) := by
 simp [u32s, h]
theorem u32s_snoc (xs : List Nat) (x : Nat) : u32s xs ++ [Value.int .u32 (x : Int)] = u32s (xs ++ [x]) := by simp [u32s]
theorem Wds.of_own {w : World} {base : Nat} {e : TypeId} {v : Value} {n : Nat} {xs : List Nat} (h : w.ownsRow base e 1 v n (u32s xs)) (hw : Ws xs) :
   ∃ A c, v = .slice A n c ∧ Wds w A n c xs := by
 have hl : xs.length = n := by have := h.1; rw [u32s_length] at this; omega
 rcases h.2 with ⟨rfl, rfl⟩ | ⟨g, cap, cur, rfl, _, hh, hnc, hcm, _⟩
 · exact ⟨none, 0, rfl, hl, Nat.le_refl _, by unfold maxLen; omega, hw, fun h => absurd h (by omega)⟩
 · refine ⟨_, cap, rfl, hl, hnc, hcm, hw, fun _ => ⟨_, rfl, ?_, fun k x hx => h.cells (g := g) rfl k _ (u32s_get hx)⟩⟩
   rcases Nat.lt_or_ge g w.heap.size with hlt | hge
   · exact hlt
   · rw [Array.getElem?_eq_none hge] at hh; cases hh
def RetW (V : Nat) (w : World) (e : Ending) (w' : World) : Prop := ∃ A n c, e = .returned (.slice A n c) ∧ Wds w' A n c (nd V) ∧ Ext w w'
theorem val_int {k : IntKind} {a b : Int} (h : a = b) : Value.int k a = Value.int k b := by rw [h]
theorem and_mask (v lo : Nat) (hv : v < 18446744073709551616) (h : lo = v % 4294967296) : bits .and .u64 (v : Int) 4294967295 = (lo : Int) := by
 rw [u64_and _ _ (by omega) (by omega) (by omega) (by omega)]
 rw [Int.toNat_natCast, show (4294967295 : Int).toNat = 4294967295 from rfl, nat_mask32, h]
theorem ret_int {k : IntKind} {a b : Int} (h : a = b) : Ending.returned (.int k a) = .returned (.int k b) := by rw [h]
theorem ret_bool {a b : Bool} (h : a = b) : Ending.returned (.bool a) = .returned (.bool b) := by rw [h]
theorem ret_float {k : FloatKind} {a b : Nat} (h : a = b) : Ending.returned (.float k a) = .returned (.float k b) := by rw [h]
end Go.Proofs.YtbcaggdgoidlaaaGreatDoor
