/-
  Plain: the quick road of a product, on patterns: the parts, and what the nearest number to the product lacks of it. Conditions: those that each theorem names.
-/
import Derived.Test.YtfbjeifhpmdjaaaZ08
import Derived.Test.YtfbjeifhpmdjaaaZ04
set_option linter.unusedVariables false

namespace Go.Proofs.Ytfbjeifhpmdjaaa.Rn

/-- 2^-900 and 2^900, in units of 2^-1074. -/
def Ks : Nat := 2 ^ 174
def Kg : Nat := 2 ^ 1974
theorem Ks_def : Ks = 2 ^ 174 := by
  unfold Ks
  exact Eq.refl _
theorem Kg_def : Kg = 2 ^ 1974 := by
  unfold Kg
  exact Eq.refl _
attribute [irreducible] Ks Kg
theorem Ks_pos : 0 < Ks := by rw [Ks_def]; exact two_pow_pos 174
theorem Kg_pos : 0 < Kg := by rw [Kg_def]; exact two_pow_pos 1974

theorem rp_pow (m u : Nat) (hm : m ≤ 9007199254740992) : Rp (m * 2 ^ u) := Rp.mk u hm
theorem rp_Kg {m : Nat} (hm : m ≤ 9007199254740992) : Rp (m * Kg) := by rw [Kg_def]; exact Rp.mk 1974 hm
theorem nr_le {P Q : Nat} (h : P ≤ Q) (hQ : Rp Q) : rv (nr P) ≤ Q := by
  obtain ⟨k, rfl⟩ := hQ
  have := nr_mono h
  rw [nr_rv] at this
  exact rv_le this
theorem rn_le {S : Int} {Q : Nat} (h : S.natAbs ≤ Q) (hQ : Rp Q) : (rn S).natAbs ≤ Q := by rw [rn_abs]; exact nr_le h hQ
theorem nr_cap {P : Nat} (h : P ≤ 1099511627776 * Kg) : nr P < infR := by
  obtain ⟨c, hc⟩ : ∃ c : Nat, c = 1974 := ⟨_, rfl⟩
  rw [Kg_def, ← hc] at h
  have e : 1099511627776 * 2 ^ c = rv ((c + 40 - 52) * 4503599627370496 + 4503599627370496) := by
    rw [rv_form (c + 40 - 52) 4503599627370496 (by omega) (fun _ => Nat.le_refl _)]
    have : 2 ^ (c + 40) = 2 ^ (c + 40 - 52) * 2 ^ 52 := by rw [← pow_add_]; congr 1; omega
    rw [pow_add_] at this
    have e1 : (2 : Nat) ^ 40 = 1099511627776 := by decide
    have e2 : (2 : Nat) ^ 52 = 4503599627370496 := by decide
    rw [e1, e2] at this
    omega
  rw [e] at h
  have h2 := nr_mono h
  rw [nr_rv] at h2
  rw [infR_val]
  omega

/-- 2^27 + 1, as a pattern. -/
def cP : Nat := 4728779608772575232
theorem cP_fl : Fl cP (134217729 * ((2 ^ 1074 : Nat) : Int)) := by
  refine ⟨by decide, by decide, ?_⟩
  have e1 : sg cP = false := by decide
  have e2 : mg cP = 1049 * 4503599627370496 + 4503599660924928 := by decide
  unfold sv
  rw [e1, e2, rv_form _ _ (by omega) (fun _ => by omega)]
  obtain ⟨c, hc⟩ : ∃ c : Nat, c = 1049 := ⟨_, rfl⟩
  rw [show (1074 : Nat) = 25 + c by omega, ← hc, pow_add_]
  simp only [Bool.false_eq_true, if_false]
  have e3 : (2 : Nat) ^ 25 = 33554432 := by decide
  rw [e3]
  omega

/-- The operations of the cutting. -/
def HalvesOps (x xh xl : Nat) : Prop := ∃ t v, Ieee.double.mul cP x = some t ∧ Ieee.double.sub t x = some v ∧ Ieee.double.sub t v = some xh ∧ Ieee.double.sub x xh = some xl

theorem halves_fl {x : Nat} {X : Int} (h : Fl x X) {u : Nat} (hu : u = ex X.natAbs) (h0 : 4503599627370496 * 2 ^ u ≤ X.natAbs) (hg : X.natAbs < Kg) :
    ∃ xh xl H L, HalvesOps x xh xl ∧ Fl xh H ∧ Fl xl L ∧ Halves u X H L := by
  have hK := Kg_pos
  have r28 := rp_Kg (m := 268435456) (by omega)
  have r29 := rp_Kg (m := 536870912) (by omega)
  obtain ⟨T, hT⟩ : ∃ T, T = rn (134217729 * X) := ⟨_, rfl⟩
  obtain ⟨V, hV⟩ : ∃ V, V = rn (T - X) := ⟨_, rfl⟩
  obtain ⟨H, hH⟩ : ∃ H, H = rn (T - V) := ⟨_, rfl⟩
  obtain ⟨L, hL⟩ : ∃ L, L = rn (X - H) := ⟨_, rfl⟩
  have bT : T.natAbs ≤ 268435456 * Kg := by rw [hT]; exact rn_le (by omega) r28
  have bV : V.natAbs ≤ 536870912 * Kg := by rw [hV]; exact rn_le (by omega) r29
  have bH : H.natAbs ≤ 1073741824 * Kg := by rw [hH]; exact rn_le (by omega) (rp_Kg (by omega))
  obtain ⟨t, ht1, ht2⟩ := cP_fl.mul h (q := 134217729 * X) (by rw [Int.mul_assoc, Int.mul_assoc, Int.mul_comm X]) (nr_cap (by omega))
  rw [← hT] at ht2
  obtain ⟨v, hv1, hv2⟩ := ht2.sub h (nr_cap (by omega))
  rw [← hV] at hv2
  obtain ⟨xh, hh1, hh2⟩ := ht2.sub hv2 (nr_cap (by omega))
  rw [← hH] at hh2
  obtain ⟨xl, hl1, hl2⟩ := h.sub hh2 (nr_cap (by omega))
  rw [← hL] at hl2
  exact ⟨xh, xl, H, L, ⟨t, v, ht1, hv1, hh1, hl1⟩, hh2, hl2, halves_spec h.rp hu h0 hT hV hH hL⟩

/-- The operations of 'missed'. -/
def MissedOps (x y p r : Nat) : Prop := ∃ xh xl yh yl a b c g e1 e2 e3, HalvesOps x xh xl ∧ HalvesOps y yh yl ∧ Ieee.double.mul xh yh = some a ∧ Ieee.double.sub a p = some e1 ∧
  Ieee.double.mul xh yl = some b ∧ Ieee.double.add e1 b = some e2 ∧ Ieee.double.mul xl yh = some c ∧ Ieee.double.add e2 c = some e3 ∧ Ieee.double.mul xl yl = some g ∧ Ieee.double.add e3 g = some r

theorem pow_lt_pow {a b : Nat} (h : 2 ^ a < 2 ^ b) : a < b := (Nat.pow_lt_pow_iff_right (by omega)).1 h

/-- Where two numbers are not below 2^-900, nor is the nearest number to their product: the product is a whole number of units. -/
theorem prod_q {X Y : Int} {u w : Nat} (hX : RpZ X) (hY : RpZ Y) (hu : u = ex X.natAbs) (hw : w = ex Y.natAbs) (hu0 : 4503599627370496 * 2 ^ u ≤ X.natAbs) (hw0 : 4503599627370496 * 2 ^ w ≤ Y.natAbs)
    (hp : Ks * 2 ^ 1074 < (X * Y).natAbs) : ∃ k q, u + w = k + 1074 ∧ q * ((2 ^ 1074 : Nat) : Int) = X * Y ∧ 20282409603651670423947251286016 * 2 ^ k ≤ q.natAbs ∧ q.natAbs < 81129638414606681695789005144064 * 2 ^ k := by
  obtain ⟨c, hc⟩ : ∃ c : Nat, c = 1074 := ⟨_, rfl⟩
  rw [← hc] at hp ⊢
  have h1 := ex_hi X.natAbs
  have h2 := ex_hi Y.natAbs
  rw [← hu] at h1
  rw [← hw] at h2
  have h3 : (X * Y).natAbs < 2 ^ (106 + (u + w)) := by
    rw [Int.natAbs_mul]
    have e1 : 2 ^ (106 + (u + w)) = (9007199254740992 * 2 ^ u) * (9007199254740992 * 2 ^ w) := by
      rw [pow_add_, pow_add_, Nat.mul_mul_mul_comm]
    rw [e1]
    exact Nat.mul_lt_mul'' h1 h2
  have h4 : 106 + (u + w) > 174 + c := by
    refine pow_lt_pow ?_
    rw [pow_add_ 174 c, ← Ks_def]
    exact Nat.lt_trans hp h3
  obtain ⟨k, hk⟩ : ∃ k, u + w = k + c := ⟨u + w - c, by omega⟩
  have d1 := hX.dv (Nat.le_refl _)
  have d2 := hY.dv (Nat.le_refl _)
  rw [← hu] at d1
  rw [← hw] at d2
  have d3 := d1.mul d2
  rw [hk] at d3
  obtain ⟨j, hj⟩ := d3.get
  have hq : (j * ((2 ^ k : Nat) : Int)) * ((2 ^ c : Nat) : Int) = X * Y := by rw [hj, pow_add_, Int.natCast_mul, Int.mul_assoc]
  refine ⟨k, j * ((2 ^ k : Nat) : Int), hk, hq, ?_, ?_⟩
  · have e1 : (4503599627370496 * 2 ^ u) * (4503599627370496 * 2 ^ w) ≤ (X * Y).natAbs := by rw [Int.natAbs_mul]; exact Nat.mul_le_mul hu0 hw0
    rw [Nat.mul_mul_mul_comm, ← pow_add_, hk, pow_add_, ← hq, Int.natAbs_mul, Int.natAbs_natCast, ← Nat.mul_assoc] at e1
    exact Nat.le_of_mul_le_mul_right e1 (two_pow_pos c)
  · rw [pow_add_ 106, hk, pow_add_ k c, ← hq, Int.natAbs_mul, Int.natAbs_natCast, ← Nat.mul_assoc] at h3
    exact Nat.lt_of_mul_lt_mul_right h3

set_option maxHeartbeats 4000000 in
theorem missed_fl {x y p : Nat} {X Y q : Int} (hx : Fl x X) (hy : Fl y Y) {u w k : Nat} (hu : u = ex X.natAbs) (hw : w = ex Y.natAbs) (hu0 : 4503599627370496 * 2 ^ u ≤ X.natAbs) (hw0 : 4503599627370496 * 2 ^ w ≤ Y.natAbs)
    (hk : u + w = k + 1074) (hq : q * ((2 ^ 1074 : Nat) : Int) = X * Y) (hq1 : 20282409603651670423947251286016 * 2 ^ k ≤ q.natAbs) (hq2 : q.natAbs < 81129638414606681695789005144064 * 2 ^ k)
    (hX : X.natAbs < Kg) (hY : Y.natAbs < Kg) (hqg : q.natAbs ≤ 4 * Kg) (hp : Fl p (rn q)) : ∃ r, MissedOps x y p r ∧ Fl r (q - rn q) := by
  obtain ⟨c, hc⟩ : ∃ c : Nat, c = 1074 := ⟨_, rfl⟩
  have hcc : ((2 ^ 1074 : Nat) : Int) = ((2 ^ c : Nat) : Int) := by rw [hc]
  rw [hcc] at hq
  have hKp := Kg_pos
  obtain ⟨xh, xl, H, L, ox, fxh, fxl, sx⟩ := halves_fl hx hu hu0 hX
  obtain ⟨yh, yl, I, M, oy, fyh, fyl, sy⟩ := halves_fl hy hw hw0 hY
  rw [show (1074 : Nat) = c from hc.symm] at hk
  -- a product of two parts, as a whole number of units
  have part : ∀ {S T : Int} {s t m n : Nat}, Dv (s + u) S → Dv (t + w) T → S.natAbs ≤ m * 2 ^ u → T.natAbs ≤ n * 2 ^ w → ∃ z, z * ((2 ^ c : Nat) : Int) = S * T ∧ Dv (s + t + k) z ∧ z.natAbs ≤ m * n * 2 ^ k := by
    intro S T s t m n hS hT bS bT
    have d := hS.mul hT
    rw [show s + u + (t + w) = s + t + k + c by omega] at d
    obtain ⟨j, hj⟩ := d.get
    refine ⟨j * ((2 ^ (s + t + k) : Nat) : Int), ?_, Dv.mk _ _, ?_⟩
    · rw [hj, pow_add_ (s + t + k) c, Int.natCast_mul, Int.mul_assoc]
    · refine abs_div_le (c := c) (S := S * T) ?_ ?_
      · rw [hj, pow_add_ (s + t + k) c, Int.natCast_mul, Int.mul_assoc]
      · have := abs_mul_le bS bT
        rw [Nat.mul_mul_mul_comm, ← pow_add_, hk, pow_add_, ← Nat.mul_assoc] at this
        exact this
  have hl : Dv (0 + u) L := by rw [Nat.zero_add]; exact sx.dvl
  have hm : Dv (0 + w) M := by rw [Nat.zero_add]; exact sy.dvl
  obtain ⟨a, qa, da, la⟩ := part sx.dvh sy.dvh sx.leh sy.leh
  obtain ⟨b, qb, db, lb⟩ := part sx.dvh hm sx.leh sy.lel
  obtain ⟨g, qg, dg, lg⟩ := part hl sy.dvh sx.lel sy.leh
  obtain ⟨z, qz, dz, lz⟩ := part hl hm sx.lel sy.lel
  have hsum : q = a + b + g + z := by
    have hcp : ((2 ^ c : Nat) : Int) ≠ 0 := by have := two_pow_pos c; omega
    refine Int.eq_of_mul_eq_mul_right hcp ?_
    rw [hq, Int.add_mul, Int.add_mul, Int.add_mul, qa, qb, qg, qz, ← sx.sum, ← sy.sum, Int.add_mul, Int.mul_add, Int.mul_add]
    omega
  rw [show 27 + 27 + k = 54 + k by omega] at da
  rw [show 27 + 0 + k = 27 + k by omega] at db
  rw [show 0 + 27 + k = 27 + k by omega] at dg
  rw [show 0 + 0 + k = k by omega] at dz
  obtain ⟨A, hA⟩ : ∃ A, A = 2 ^ k := ⟨_, rfl⟩
  have hAg : 20282409603651670423947251286016 * A ≤ 4 * Kg := by rw [hA]; omega
  have la' : a.natAbs ≤ 81129638414606681695789005144064 * A := by rw [hA]; exact la
  have lb' : b.natAbs ≤ 604462909807314587353088 * A := by rw [hA]; exact lb
  have lg' : g.natAbs ≤ 604462909807314587353088 * A := by rw [hA]; exact lg
  have lz' : z.natAbs ≤ 4503599627370496 * A := by rw [hA]; exact lz
  have e54 : 2 ^ (54 + k) = 18014398509481984 * A := by rw [pow_add_, ← hA]
  have e27 : 2 ^ (27 + k) = 134217728 * A := by rw [pow_add_, ← hA]
  have ra := rn_of (S := a) (da.rp (by rw [e54]; omega))
  have rb := rn_of (S := b) (db.rp (by rw [e27]; omega))
  have rg := rn_of (S := g) (dg.rp (by rw [e27]; omega))
  have rz := rn_of (S := z) (dz.rp (by rw [← hA]; omega))
  have bp : (rn q).natAbs ≤ 4 * Kg := rn_le hqg (rp_Kg (by omega))
  rw [← hcc] at qa qb qg qz
  obtain ⟨pa, oa, fa⟩ := fxh.mul fyh qa (nr_cap (by omega))
  obtain ⟨pb, ob, fb⟩ := fxh.mul fyl qb (nr_cap (by omega))
  obtain ⟨pg, og, fg⟩ := fxl.mul fyh qg (nr_cap (by omega))
  obtain ⟨pz, oz, fz⟩ := fxl.mul fyl qz (nr_cap (by omega))
  rw [ra] at fa
  rw [rb] at fb
  rw [rg] at fg
  rw [rz] at fz
  obtain ⟨E1, hE1⟩ : ∃ E1, E1 = rn (a - rn q) := ⟨_, rfl⟩
  obtain ⟨E2, hE2⟩ : ∃ E2, E2 = rn (E1 + b) := ⟨_, rfl⟩
  obtain ⟨E3, hE3⟩ : ∃ E3, E3 = rn (E2 + g) := ⟨_, rfl⟩
  have b1 : E1.natAbs ≤ 32 * Kg := by rw [hE1]; exact rn_le (by omega) (rp_Kg (by omega))
  have b2 : E2.natAbs ≤ 64 * Kg := by rw [hE2]; exact rn_le (by omega) (rp_Kg (by omega))
  have b3 : E3.natAbs ≤ 128 * Kg := by rw [hE3]; exact rn_le (by omega) (rp_Kg (by omega))
  obtain ⟨p1, o1, f1⟩ := fa.sub hp (nr_cap (by omega))
  rw [← hE1] at f1
  obtain ⟨p2, o2, f2⟩ := f1.add fb (nr_cap (by omega))
  rw [← hE2] at f2
  obtain ⟨p3, o3, f3⟩ := f2.add fg (nr_cap (by omega))
  rw [← hE3] at f3
  obtain ⟨r, o4, f4⟩ := f3.add fz (nr_cap (by omega))
  obtain ⟨d1, -⟩ := dekker (p := rn q) da db dg dz lb lg lz hsum hq1 hq2 rfl hE1 hE2 hE3 rfl
  rw [d1] at f4
  exact ⟨r, ⟨xh, xl, yh, yl, pa, pb, pg, pz, p1, p2, p3, ox, oy, oa, o1, ob, o2, og, o3, oz, o4⟩, f4⟩
end Go.Proofs.Ytfbjeifhpmdjaaa.Rn

/-
  Plain: the quick roads of a sum and of a product answer the number rounded in the direction. Conditions: those that each theorem names.
-/
set_option linter.unusedVariables false

namespace Go.Proofs.Ytfbjeifhpmdjaaa.Rn

theorem key_fl {p : Nat} {S : Int} (h : Fl p (rn S)) : key p = if S < 0 then -(nr S.natAbs : Int) else (nr S.natAbs : Int) := by
  have h1 := h.abs
  rw [rn_abs] at h1
  have h2 := rv_inj h1
  have h3 := h.val
  unfold sv rn at h3
  unfold key
  rw [← h2] at h3 ⊢
  have h4 : rv (nr S.natAbs) = 0 → nr S.natAbs = 0 := fun h => rv_eq_zero.1 h
  cases hs : sg p
  · rw [hs] at h3
    simp only [Bool.false_eq_true, if_false] at h3 ⊢
    by_cases h5 : S < 0
    · rw [if_pos h5] at h3 ⊢
      have := h4 (by omega)
      omega
    · rw [if_neg h5]
  · rw [hs] at h3
    simp only [if_true] at h3 ⊢
    by_cases h5 : S < 0
    · rw [if_pos h5]
    · rw [if_neg h5] at h3 ⊢
      have := h4 (by omega)
      omega

/-- The nearest number to S, and what it lacks: the number rounded in the direction. -/
theorem nudge_fl {p : Nat} {S : Int} (h : Fl p (rn S)) (hS : S.natAbs ≤ 1099511627776 * Kg) (d : Int) : rnd d (decide (S < 0)) (4 * S.natAbs) = kp (key p + adj d (S - rn S)) := by
  have hcap : 4 * S.natAbs ≤ 4 * rv (infR - 2) := by
    have h1 : S.natAbs ≤ rv (infR - 2) := by
      rcases Nat.lt_or_ge (rv (infR - 2)) S.natAbs with h2 | h2
      · exfalso
        have h3 := nr_cap (P := 1099511627776 * Kg) (Nat.le_refl _)
        have h4 : infR - 2 ≤ nr S.natAbs := by have := nr_mono (Nat.le_of_lt h2); rwa [nr_rv] at this
        have h5 := nr_cap hS
        -- the great bound lies far below
        obtain ⟨c, hc⟩ : ∃ c : Nat, c = 1974 := ⟨_, rfl⟩
        rw [Kg_def, ← hc] at hS
        have e : 1099511627776 * 2 ^ c = rv ((c + 40 - 52) * 4503599627370496 + 4503599627370496) := by
          rw [rv_form (c + 40 - 52) 4503599627370496 (by omega) (fun _ => Nat.le_refl _)]
          have : 2 ^ (c + 40) = 2 ^ (c + 40 - 52) * 2 ^ 52 := by rw [← pow_add_]; congr 1; omega
          rw [pow_add_] at this
          have e1 : (2 : Nat) ^ 40 = 1099511627776 := by decide
          have e2 : (2 : Nat) ^ 52 = 4503599627370496 := by decide
          rw [e1, e2] at this
          omega
        rw [e] at hS
        have h6 := Nat.lt_of_lt_of_le h2 hS
        have h7 := rv_lt_iff.1 h6
        rw [infR_val] at h7
        omega
      · exact h2
    omega
  have e0 : near (4 * S.natAbs) = nr S.natAbs := by rw [near_nr]; exact Nat.min_eq_left (by have := nr_cap hS; omega)
  refine rnd_nudge d (decide (S < 0)) hcap (K := key p) (e := S - rn S) ?_ ?_ ?_
  · rw [key_fl h, e0]
    by_cases h5 : S < 0
    · rw [if_pos h5, if_pos (by simpa using h5)]
    · rw [if_neg h5, if_neg (by simpa using h5)]
  · rw [e0]
    unfold rn
    by_cases h5 : S < 0
    · rw [if_pos h5, if_pos (by simpa using h5)]; omega
    · rw [if_neg h5, if_neg (by simpa using h5)]; omega
  · rw [e0]
    unfold rn
    by_cases h5 : S < 0
    · rw [if_pos h5, if_pos (by simpa using h5)]; omega
    · rw [if_neg h5, if_neg (by simpa using h5)]; omega

/-- The operations of a sum's quick road: the nearest, and what it lacks. -/
def SumOps (x y s e : Nat) : Prop := ∃ t u p q, Ieee.double.add x y = some s ∧ Ieee.double.sub s x = some t ∧ Ieee.double.sub s t = some u ∧ Ieee.double.sub x u = some p ∧ Ieee.double.sub y t = some q ∧ Ieee.double.add p q = some e
theorem sum_quick {x y : Nat} {X Y : Int} (hx : Fl x X) (hy : Fl y Y) (bx : X.natAbs ≤ Kg) (by_ : Y.natAbs ≤ Kg) :
    ∃ s e, SumOps x y s e ∧ Fl s (rn (X + Y)) ∧ Fl e (X + Y - rn (X + Y)) ∧ ∀ d, rnd d (decide (X + Y < 0)) (4 * (X + Y).natAbs) = kp (key s + adj d (X + Y - rn (X + Y))) := by
  obtain ⟨S, hS⟩ : ∃ S, S = rn (X + Y) := ⟨_, rfl⟩
  obtain ⟨T, hT⟩ : ∃ T, T = rn (S - X) := ⟨_, rfl⟩
  obtain ⟨U, hU⟩ : ∃ U, U = rn (S - T) := ⟨_, rfl⟩
  obtain ⟨P, hP⟩ : ∃ P, P = rn (X - U) := ⟨_, rfl⟩
  obtain ⟨Q, hQ⟩ : ∃ Q, Q = rn (Y - T) := ⟨_, rfl⟩
  have b1 : S.natAbs ≤ 2 * Kg := by rw [hS]; exact rn_le (by omega) (rp_Kg (by omega))
  have b2 : T.natAbs ≤ 4 * Kg := by rw [hT]; exact rn_le (by omega) (rp_Kg (by omega))
  have b3 : U.natAbs ≤ 8 * Kg := by rw [hU]; exact rn_le (by omega) (rp_Kg (by omega))
  have b4 : P.natAbs ≤ 16 * Kg := by rw [hP]; exact rn_le (by omega) (rp_Kg (by omega))
  have b5 : Q.natAbs ≤ 16 * Kg := by rw [hQ]; exact rn_le (by omega) (rp_Kg (by omega))
  obtain ⟨s, os, fs⟩ := hx.add hy (nr_cap (by omega))
  have fs' := fs
  rw [← hS] at fs
  obtain ⟨t, ot, ft⟩ := fs.sub hx (nr_cap (by omega))
  rw [← hT] at ft
  obtain ⟨u, ou, fu⟩ := fs.sub ft (nr_cap (by omega))
  rw [← hU] at fu
  obtain ⟨p, op, fp⟩ := hx.sub fu (nr_cap (by omega))
  rw [← hP] at fp
  obtain ⟨q, oq, fq⟩ := hy.sub ft (nr_cap (by omega))
  rw [← hQ] at fq
  obtain ⟨e, oe, fe⟩ := fp.add fq (nr_cap (by omega))
  rw [two_sum hx.rp hy.rp hS hT hU hP hQ, hS] at fe
  exact ⟨s, e, ⟨t, u, p, q, os, ot, ou, op, oq, oe⟩, fs', fe, fun d => nudge_fl fs' (by omega) d⟩

theorem near_hi {Z k : Nat} (h : Z ≤ 4 * rv k) : near Z ≤ k := by
  unfold near rr
  rw [if_neg (by omega)]
  have h1 := rung_spec (Z / 4)
  rcases Nat.lt_or_ge Z (4 * rv k) with h2 | h2
  · have h3 : rung (Z / 4) < k := rv_lt_iff.1 (Nat.lt_of_le_of_lt h1.1 (by omega))
    split <;> omega
  · have h3 : Z = 4 * rv k := by omega
    subst h3
    have : 4 * rv k / 4 = rv k := by omega
    unfold away
    rw [this, rung_rv, if_pos rfl]
    simp only [Bool.false_eq_true, if_false]
    omega
theorem near_lo {Z k : Nat} (h : 4 * rv k ≤ Z) (hk : k ≤ infR) : k ≤ near Z := by
  unfold near rr
  rw [if_neg (by omega)]
  have h1 : k ≤ rung (Z / 4) := le_rung_iff.2 (by omega)
  split <;> omega

/-- Neither very small nor very great. -/
def Mid (S : Int) : Prop := Ks < S.natAbs ∧ S.natAbs < Kg
theorem Mid.ex {X : Int} (h : Mid X) : 4503599627370496 * 2 ^ Rn.ex X.natAbs ≤ X.natAbs := by
  refine ex_lo ?_
  have h1 : 9007199254740992 * 2 ^ 0 ≤ X.natAbs := by
    have h2 := h.1
    obtain ⟨c, hc⟩ : ∃ c : Nat, c = 120 := ⟨_, rfl⟩
    have e : (2 : Nat) ^ 174 = 2 ^ 54 * 2 ^ c := by rw [hc, ← pow_add_]
    rw [Ks_def, e] at h2
    have := two_pow_pos c
    have e1 : (2 : Nat) ^ 54 = 18014398509481984 := by decide
    rw [e1] at h2
    rw [Nat.pow_zero]
    omega
  have := ex_gt h1
  omega

theorem rp_Ks : Rp Ks := by
  have := rp_pow 1 174 (by omega)
  rwa [Nat.one_mul, ← Ks_def] at this

/-- The quick road of a product. -/
theorem mul_quick {x y p : Nat} {X Y : Int} (hx : Fl x X) (hy : Fl y Y) (mx : Mid X) (my : Mid Y) (hp : Ieee.double.mul x y = some p) (fp : mg p < infR) (mp : Mid (sv p)) :
    ∃ q e, q * ((2 ^ 1074 : Nat) : Int) = X * Y ∧ q ≠ 0 ∧ q.natAbs ≤ 4 * Kg ∧ MissedOps x y p e ∧ Fl p (rn q) ∧ Fl e (q - rn q) ∧ ∀ d, rnd d (decide (q < 0)) (4 * q.natAbs) = kp (key p + adj d (q - rn q)) := by
  have hm := mul_fin hx.lt hy.lt hx.fin hy.fin
  rw [hm] at hp
  injection hp with hp
  have hnl := near_lt' (zq (rv (mg x) * rv (mg y)) (2 ^ 1073))
  have hmg : mg p = near (zq (rv (mg x) * rv (mg y)) (2 ^ 1073)) := by rw [← hp, mg_word hnl]
  have hP := sv_abs p
  have hxy : rv (mg x) * rv (mg y) = (X * Y).natAbs := by rw [Int.natAbs_mul, hx.abs, hy.abs]
  obtain ⟨c, hc⟩ : ∃ c : Nat, c = 1073 := ⟨_, rfl⟩
  have hc1 : (1074 : Nat) = c + 1 := by omega
  rw [hxy, ← hc] at hmg
  -- the product is not very small
  have hbig : Ks * 2 ^ 1074 < (X * Y).natAbs := by
    rcases Nat.lt_or_ge (Ks * 2 ^ 1074) (X * Y).natAbs with h | h
    · exact h
    · exfalso
      obtain ⟨k, hk⟩ := rp_Ks
      have h1 : zq (X * Y).natAbs (2 ^ c) ≤ 4 * rv k := by
        rw [hk, ← zq_mul_pow (q := Ks) (c := c), ← hc1]
        exact zq_mono (two_pow_pos c) (two_pow_pos c) (Nat.mul_le_mul_right _ h)
      have h2 := rv_le (near_hi h1)
      rw [← hmg, hk, ← hP] at h2
      have := mp.1
      omega
  obtain ⟨k, q, hk, hq, hq1, hq2⟩ := prod_q hx.rp hy.rp rfl rfl mx.ex my.ex hbig
  have hqz : zq (X * Y).natAbs (2 ^ c) = 4 * q.natAbs := by
    rw [← hq, Int.natAbs_mul, Int.natAbs_natCast, hc1, zq_mul_pow]
  rw [hqz] at hmg
  have hqg : q.natAbs ≤ 4 * Kg := by
    rcases Nat.lt_or_ge (4 * Kg) q.natAbs with h | h
    · exfalso
      obtain ⟨j, hj⟩ := rp_Kg (m := 4) (by omega)
      have h0 := nr_cap (P := 4 * Kg) (by omega)
      rw [← hj, nr_rv] at h0
      have h1 := near_lo (Z := 4 * q.natAbs) (k := j) (by omega) (by omega)
      have h2 := rv_le h1
      rw [← hmg, hj, ← hP] at h2
      have := mp.2
      omega
    · exact h
  have hq0 : q ≠ 0 := by
    have := two_pow_pos k
    omega
  have hcap := nr_cap (P := q.natAbs) (by omega)
  obtain ⟨p', hp', fp'⟩ := hx.mul hy hq hcap
  rw [hm] at hp'
  injection hp' with hp'
  rw [← hp', hp] at fp'
  obtain ⟨e, oe, fe⟩ := missed_fl hx hy rfl rfl mx.ex my.ex hk hq hq1 hq2 mx.2 my.2 hqg fp'
  exact ⟨q, e, hq, hq0, hqg, oe, fp', fe, fun d => nudge_fl fp' (by omega) d⟩
end Go.Proofs.Ytfbjeifhpmdjaaa.Rn

/-
  Plain: the quick road of a fused product and sum answers the number rounded in the direction. Conditions: those that each theorem names.
-/
set_option linter.unusedVariables false

namespace Go.Proofs.Ytfbjeifhpmdjaaa.Rn

/-- What is far below half a place does not move the nearest number. -/
theorem rn_far {S E : Int} (hS : RpZ S) (h : E.natAbs * 36028797018963968 < S.natAbs) : rn (S + E) = S := by
  obtain ⟨u, hu⟩ : ∃ u, u = ex S.natAbs := ⟨_, rfl⟩
  have h1 := ex_hi S.natAbs
  rw [← hu] at h1
  have h2 := hS.dv (Nat.le_refl _)
  rw [← hu] at h2
  have h3 := rn_near (S + E) hS
  obtain ⟨g, hg⟩ : ∃ g, g = rn (S + E) := ⟨_, rfl⟩
  rw [← hg] at h3 ⊢
  have hgr : RpZ g := by rw [hg]; exact rn_rp _
  obtain ⟨A, hA⟩ : ∃ A, A = 2 ^ u := ⟨_, rfl⟩
  have hA0 : 0 < A := by rw [hA]; exact two_pow_pos u
  rw [← hA] at h1
  have h4 : 4 * E.natAbs < A := by omega
  -- a difference that is a multiple of B and less than it is none
  have none : ∀ {v : Nat}, Dv v (g - S) → (g - S).natAbs < 2 ^ v → g = S := by
    intro v d hl
    have := d.le (M := 0) (by rw [Nat.zero_add, Nat.one_mul]; exact hl)
    omega
  rcases Nat.lt_or_ge g.natAbs S.natAbs with h5 | h5
  · by_cases hu0 : u = 0
    · subst hu0
      rw [Nat.pow_zero] at hA
      omega
    · obtain ⟨v, hv⟩ : ∃ v, u = v + 1 := ⟨u - 1, by omega⟩
      have h6 := ex_lo (Q := S.natAbs) (by omega)
      rw [← hu, ← hA] at h6
      have hB : A = 2 * 2 ^ v := by rw [hA, hv, two_pow_s]
      have hvg : v ≤ ex g.natAbs := by
        by_cases hv0 : v = 0
        · omega
        · obtain ⟨t, ht⟩ : ∃ t, v = t + 1 := ⟨v - 1, by omega⟩
          have : 9007199254740992 * 2 ^ t ≤ g.natAbs := by
            rw [ht, two_pow_s] at hB
            omega
          have := ex_gt this
          omega
      have d1 : Dv v g := (hgr.dv (Nat.le_refl _)).mono hvg
      exact none (d1.sub (h2.mono (by omega))) (by omega)
  · have d1 : Dv u g := by
      have := hgr.dv h5
      rwa [← hu] at this
    exact none (d1.sub h2) (by rw [← hA]; omega)

theorem fma_quick {x y p z : Nat} {X Y Z : Int} (hx : Fl x X) (hy : Fl y Y) (hz : Fl z Z) (mx : Mid X) (my : Mid Y) (hp : Ieee.double.mul x y = some p) (fp : mg p < infR) (mp : Mid (sv p)) (bz : Z.natAbs ≤ Kg) :
    ∃ q e s f g E F G, q * ((2 ^ 1074 : Nat) : Int) = X * Y ∧ MissedOps x y p e ∧ SumOps p z s f ∧ Ieee.double.add e f = some g ∧ Fl e E ∧ Fl f F ∧ Fl g G ∧ Fl s (sv s) ∧ (sv s).natAbs ≤ 1024 * Kg ∧
      (E = 0 ∨ (F = 0 ∧ E.natAbs * 36028797018963968 < (sv s).natAbs) → ∀ d, rnd d (decide (q + Z < 0)) (4 * (q + Z).natAbs) = kp (key s + adj d G)) := by
  obtain ⟨q, e, hq, hq0, hqg, oe, fpq, fe, -⟩ := mul_quick hx hy mx my hp fp mp
  have hK := Kg_pos
  have bp : (rn q).natAbs ≤ Kg := by rw [← fpq.val]; exact Nat.le_of_lt mp.2
  obtain ⟨s, f, os, fs, ff, hs⟩ := sum_quick fpq hz bp bz
  have bs : (rn (rn q + Z)).natAbs ≤ 1024 * Kg := rn_le (by omega) (rp_Kg (by omega))
  have be : (q - rn q).natAbs ≤ 8 * Kg := by omega
  have bf : (rn q + Z - rn (rn q + Z)).natAbs ≤ 2048 * Kg := by omega
  obtain ⟨g, og, fg⟩ := fe.add ff (nr_cap (by omega))
  refine ⟨q, e, s, f, g, _, _, _, hq, oe, os, og, fe, ff, fg, Fl.of fs.lt fs.fin, by rw [fs.val]; exact bs, ?_⟩
  rintro (h0 | ⟨h0, h1⟩) d
  · have e1 : q = rn q := by omega
    rw [h0, Int.zero_add, rn_of ff.rp]
    have := hs d
    rwa [← e1] at this ⊢
  · rw [h0, Int.add_zero, rn_of fe.rp]
    rw [fs.val] at h1
    have e1 : rn (rn q + Z) = rn q + Z := by omega
    have e2 : rn (q + Z) = rn q + Z := by
      have := rn_far (S := rn q + Z) (E := q - rn q) (by rw [← e1]; exact rn_rp _) (by rw [← e1]; exact h1)
      rwa [show rn q + Z + (q - rn q) = q + Z by omega] at this
    have fs' : Fl s (rn (q + Z)) := by rw [e2, ← e1]; exact fs
    have := nudge_fl fs' (by omega) d
    rwa [show q + Z - rn (q + Z) = q - rn q by omega] at this
end Go.Proofs.Ytfbjeifhpmdjaaa.Rn

/-
  Plain: a natural times a power of 2, and a little more, cut to 55 bits and rounded out of the last two. Conditions: those that each theorem names.
-/
set_option linter.unusedVariables false
set_option linter.unusedSimpArgs false
namespace Go.Proofs.Ytfbjeifhpmdjaaa.Rn
open Go.Proofs.Ytfbjeifhpmdjaaa.Nm

/-- The step away from 0, out of the last two bits. -/
def upO (d : Int) (neg : Bool) (s r : Nat) : Bool := if r = 0 then false else if d = 1 then !neg else if d = -1 then neg else (decide (r = 3) || (decide (r = 2) && decide (s % 2 = 1)))

/-- W, its last bit set where something was cut off. -/
def stick (W : Nat) (f : Bool) : Nat := if f && W % 2 == 0 then W + 1 else W
theorem stick_div (W : Nat) (f : Bool) : stick W f / 4 = W / 4 := by
  unfold stick
  split
  · rename_i h
    simp at h
    omega
  · rfl
theorem stick_mod (W : Nat) (f : Bool) : stick W f % 4 = if f then (if W % 4 < 2 then 1 else 3) else W % 4 := by
  unfold stick
  cases f
  · simp
  · simp only [Bool.true_and, if_true]
    by_cases h : W % 2 = 0
    · rw [if_pos (by simpa using h)]; split <;> omega
    · rw [if_neg (by simpa using h)]; split <;> omega
theorem or_one (W : Nat) : W ||| 1 = stick W true := by
  unfold stick
  by_cases h : W % 2 = 0
  · rw [if_pos (by simpa using h)]
    have := Nat.two_pow_add_eq_or_of_lt (i := 1) (b := 1) (by omega) (W / 2)
    have e : 2 ^ 1 * (W / 2) = W := by omega
    rw [e] at this
    exact this.symm
  · rw [if_neg (by simpa using h)]
    have := Nat.two_pow_add_eq_or_of_lt (i := 1) (b := 1) (by omega) (W / 2)
    have e : 2 ^ 1 * (W / 2) + 1 = W := by omega
    rw [e] at this
    rw [this, Nat.or_assoc, Nat.or_self]

theorem rr_parts {mag a b G W t u : Nat} {place L : Int} (hu0 : (u : Int) = L + 1074) (hab : (a : Int) - b = place - L) (hG : 2 ^ b = 4 * G) (hx : mag * 2 ^ a = W * G + t) (ht : t < G)
    (hs : W / 4 < 9007199254740992) (hu : u ≠ 0 → 4503599627370496 ≤ W / 4) (huu : u ≤ 2045) (d : Int) (neg : Bool) {v : Nat} (hv : v = stick W (decide (t ≠ 0))) :
    rnd d neg (zd mag place) = pat neg (u * 4503599627370496 + (v / 4 + (upO d neg (v / 4) (v % 4)).toNat)) := by
  have hd : v / 4 = W / 4 := by rw [hv, stick_div]
  have hm : v % 4 = if t ≠ 0 then (if W % 4 < 2 then 1 else 3) else W % 4 := by rw [hv, stick_mod]; simp only [decide_eq_true_eq]
  obtain ⟨s, hse⟩ : ∃ s, s = W / 4 := ⟨_, rfl⟩
  obtain ⟨r, hre⟩ : ∃ r, r = W % 4 := ⟨_, rfl⟩
  rw [← hse] at hs hu hd
  rw [← hre] at hm
  have hr4 : r < 4 := by omega
  have hW : W * G = s * (4 * G) + r * G := by
    have : W = s * 4 + r := by omega
    rw [this, Nat.add_mul, Nat.mul_assoc]
  rw [hW, Nat.add_assoc] at hx
  rw [hd]
  have e0 : r * G + t < 4 * G := by
    have : r * G ≤ 3 * G := Nat.mul_le_mul_right _ (by omega)
    omega
  have hup : upO d neg s (v % 4) = if mag * 2 ^ a = s * 2 ^ b then false else if d = 1 then !neg else if d = -1 then neg else
      decide ((2 * s + 1) * 2 ^ b < 2 * (mag * 2 ^ a)) || (decide (2 * (mag * 2 ^ a) = (2 * s + 1) * 2 ^ b) && decide (s % 2 = 1)) := by
    rw [hG, hx]
    unfold upO
    have c1 : v % 4 = 0 ↔ s * (4 * G) + (r * G + t) = s * (4 * G) := by
      rw [hm]
      constructor
      · intro h
        by_cases h0 : t ≠ 0
        · rw [if_pos h0] at h; split at h <;> omega
        · rw [if_neg h0] at h
          have : t = 0 := Decidable.not_not.1 h0
          rw [this, h]; simp
      · intro h
        have h1 : r * G + t = 0 := by omega
        have h2 : t = 0 := by omega
        have h3 : r * G = 0 := by omega
        rw [if_neg (by omega)]
        rcases Nat.mul_eq_zero.1 h3 with h4 | h4
        · exact h4
        · omega
    have e1 : (2 * s + 1) * (4 * G) = 2 * (s * (4 * G)) + 4 * G := by rw [Nat.add_mul, Nat.mul_assoc]; omega
    have e2 : 2 * (s * (4 * G) + (r * G + t)) = 2 * (s * (4 * G)) + 2 * (r * G + t) := by omega
    have hrG : r = 0 ∧ r * G = 0 ∨ r = 1 ∧ r * G = G ∨ r = 2 ∧ r * G = 2 * G ∨ r = 3 ∧ r * G = 3 * G := by
      have : r = 0 ∨ r = 1 ∨ r = 2 ∨ r = 3 := by omega
      rcases this with h | h | h | h <;> subst h <;> simp
    have c3 : v % 4 = 3 ↔ (2 * s + 1) * (4 * G) < 2 * (s * (4 * G) + (r * G + t)) := by
      rw [hm, e1, e2]
      rcases hrG with ⟨h1, h2⟩ | ⟨h1, h2⟩ | ⟨h1, h2⟩ | ⟨h1, h2⟩ <;> rw [h2, h1] <;> by_cases h0 : t = 0 <;> simp [h0] <;> omega
    have c2 : v % 4 = 2 ↔ 2 * (s * (4 * G) + (r * G + t)) = (2 * s + 1) * (4 * G) := by
      rw [hm, e1, e2]
      rcases hrG with ⟨h1, h2⟩ | ⟨h1, h2⟩ | ⟨h1, h2⟩ | ⟨h1, h2⟩ <;> rw [h2, h1] <;> by_cases h0 : t = 0 <;> simp [h0] <;> omega
    simp only [c1, c2, c3]
  have hlo : s * 2 ^ b ≤ mag * 2 ^ a := by rw [hG, hx]; omega
  have hhi : mag * 2 ^ a < (s + 1) * 2 ^ b := by rw [hG, hx, Nat.add_mul]; omega
  have hf := rr_form hu0 hab hs hu hlo hhi d neg _ hup
  unfold rnd
  rw [hf]
  have hb1 : (upO d neg s (v % 4)).toNat ≤ 1 := by cases upO d neg s (v % 4) <;> simp
  split
  · rename_i htw
    have : upO d neg s (v % 4) = false := by
      unfold upO
      rcases htw with ⟨h1, h2⟩ | ⟨h1, h2⟩
      · rw [h1, h2]; split <;> simp
      · rw [h1, h2]; split <;> simp
    rw [this, rr_min' huu hs]; rfl
  · rw [rr_min hb1 huu hs]

/-- Z of mag times 2^place, as a ratio's. -/
theorem zd_zr (mag : Nat) (place : Int) : zd mag place = zr (mag * 2 ^ place.toNat) (2 ^ (-place).toNat) := by
  rw [zr_eq, K75_pow]
  obtain ⟨c, hc⟩ : ∃ c, c = 1075 := ⟨_, rfl⟩
  rw [← hc, zd_of (A := place.toNat + c) (B := (-place).toNat) (by omega), Nat.mul_assoc, ← Nat.pow_add]

/-- Something too great. -/
theorem rnd_big {V m : Nat} {exp : Int} (hV : V ≠ 0) (h : 1023 < (bl V : Int) - 1 + exp) (d : Int) (neg : Bool) : rnd d neg (zd (2 * V + m) (exp - 1)) = pat neg (if twB d neg then infR - 1 else infR) := by
  unfold rnd twB
  rw [zd_zr, rr_over (two_pow_pos _) ?_]
  · simp
  · have h1 := pow_le_of_bl hV
    have hb := bl_pos hV
    have h2 : 2 ^ (bl V) ≤ 2 * V + m := by
      have : 2 ^ (bl V) = 2 * 2 ^ (bl V - 1) := by rw [← Nat.pow_succ']; congr 1; omega
      omega
    obtain ⟨c, hc⟩ : ∃ c, c = 1024 := ⟨_, rfl⟩
    have hK : K1024 = 2 ^ c := by rw [hc]; exact K1024_def
    rw [hK, ← Nat.pow_add]
    refine Nat.le_trans ?_ (Nat.mul_le_mul_right _ h2)
    rw [← Nat.pow_add]
    exact Nat.pow_le_pow_right (by omega) (by omega)

/-- The word that is cut out, and what stands beside it. -/
def ofW (V : Nat) (cut : Int) : Nat := if 0 < cut then V / 2 ^ cut.toNat else V * 2 ^ (-cut).toNat
def ofF (V : Nat) (cut : Int) (more : Bool) : Bool := (decide (0 < cut) && decide (V % 2 ^ cut.toNat ≠ 0)) || more
def ofE (V : Nat) (exp : Int) : Int := max ((bl V : Int) - 53 + exp) (-1074)

theorem ofW_lt {V : Nat} {exp cut : Int} (hV : V ≠ 0) (hc : cut = ofE V exp - 2 - exp) : ofW V cut < 36028797018963968 ∧ (ofE V exp ≠ -1074 → 18014398509481984 ≤ ofW V cut) ∧ (cut ≤ 0 → bl V + (-cut).toNat ≤ 55) := by
  have h1 := pow_le_of_bl hV
  have h2 := lt_pow_bl V
  have hb := bl_pos hV
  unfold ofE at hc ⊢
  unfold ofW
  have e55 : (36028797018963968 : Nat) = 2 ^ 55 := rfl
  have e54 : (18014398509481984 : Nat) = 2 ^ 54 := rfl
  by_cases hcut : 0 < cut
  · rw [if_pos hcut]
    obtain ⟨c, hcc⟩ : ∃ c : Nat, cut = c := ⟨cut.toNat, by omega⟩
    rw [hcc, Int.toNat_natCast]
    refine ⟨?_, fun hne => ?_, fun h => by omega⟩
    · rw [Nat.div_lt_iff_lt_mul (two_pow_pos c), e55, ← Nat.pow_add]
      exact Nat.lt_of_lt_of_le h2 (Nat.pow_le_pow_right (by omega) (by omega))
    · rw [Nat.le_div_iff_mul_le (two_pow_pos c), e54, ← Nat.pow_add]
      exact Nat.le_trans (Nat.pow_le_pow_right (by omega) (by omega)) h1
  · rw [if_neg hcut]
    obtain ⟨c, hcc⟩ : ∃ c : Nat, -cut = c := ⟨(-cut).toNat, by omega⟩
    rw [hcc, Int.toNat_natCast]
    refine ⟨?_, fun hne => ?_, fun h => by omega⟩
    · have : V * 2 ^ c < 2 ^ bl V * 2 ^ c := Nat.mul_lt_mul_of_pos_right h2 (two_pow_pos c)
      rw [← Nat.pow_add] at this
      rw [e55]
      exact Nat.lt_of_lt_of_le this (Nat.pow_le_pow_right (by omega) (by omega))
    · have : 2 ^ (bl V - 1) * 2 ^ c ≤ V * 2 ^ c := Nat.mul_le_mul_right _ h1
      rw [← Nat.pow_add] at this
      rw [e54]
      exact Nat.le_trans (Nat.pow_le_pow_right (by omega) (by omega)) this

/-- What 'of' works out. -/
theorem rnd_ofW {V : Nat} {exp cut : Int} {more : Bool} (hV : V ≠ 0) (hm : more = true → 55 ≤ bl V) (hc : cut = ofE V exp - 2 - exp) (hf : (bl V : Int) - 1 + exp ≤ 1023) (d : Int) (neg : Bool) {v u : Nat} (hv : v = stick (ofW V cut) (ofF V cut more)) (hu : (u : Int) = ofE V exp + 1074) :
    rnd d neg (zd (2 * V + more.toNat) (exp - 1)) = pat neg (u * 4503599627370496 + (v / 4 + (upO d neg (v / 4) (v % 4)).toNat)) ∧ u ≤ 2045 ∧ v / 4 + (upO d neg (v / 4) (v % 4)).toNat ≤ 9007199254740992 ∧ (u ≠ 0 → 4503599627370496 ≤ v / 4 + (upO d neg (v / 4) (v % 4)).toNat) := by
  obtain ⟨w1, w2, w3⟩ := ofW_lt hV hc
  have hu45 : u ≤ 2045 := by unfold ofE at hu; omega
  have hb1 : ∀ s r, (upO d neg s r).toNat ≤ 1 := fun s r => by cases upO d neg s r <;> simp
  have hsd : v / 4 = ofW V cut / 4 := by rw [hv, stick_div]
  have hu2 : u ≠ 0 → 4503599627370496 ≤ ofW V cut / 4 := fun h => by have := w2 (by omega); omega
  refine ⟨?_, hu45, by have := hb1 (v / 4) (v % 4); omega, fun h => by have := hu2 h; omega⟩
  by_cases hcut : 0 < cut
  · obtain ⟨c, hcc⟩ : ∃ c : Nat, cut = c := ⟨cut.toNat, by omega⟩
    have hWe : ofW V cut = V / 2 ^ c := by unfold ofW; rw [if_pos hcut, hcc, Int.toNat_natCast]
    have hFe : ofF V cut more = decide (2 * (V % 2 ^ c) + more.toNat ≠ 0) := by
      unfold ofF
      rw [decide_eq_true hcut, Bool.true_and, hcc, Int.toNat_natCast]
      cases more
      · simp only [Bool.or_false, Bool.toNat_false, Nat.add_zero]
        exact decide_eq_decide.2 (by omega)
      · rw [Bool.or_true]; symm; exact decide_eq_true (by simp)
    have hlt := Nat.mod_lt V (two_pow_pos c)
    have hdm := Nat.div_add_mod V (2 ^ c)
    have hm1 : more.toNat ≤ 1 := by cases more <;> simp
    refine rr_parts (a := 0) (b := c + 3) (G := 2 * 2 ^ c) (W := ofW V cut) (t := 2 * (V % 2 ^ c) + more.toNat) (L := ofE V exp) hu (by omega) ?_ ?_ (by omega) (by omega) hu2 hu45 d neg (by rw [hv, hFe])
    · rw [Nat.pow_add, show (2 ^ 3 : Nat) = 8 from rfl]; omega
    · rw [hWe, Nat.pow_zero, Nat.mul_one]
      have e1 : V / 2 ^ c * (2 * 2 ^ c) = 2 * (2 ^ c * (V / 2 ^ c)) := by
        simp only [Nat.mul_assoc, Nat.mul_comm, Nat.mul_left_comm]
      rw [e1]
      omega
  · obtain ⟨c, hcc⟩ : ∃ c : Nat, -cut = c := ⟨(-cut).toNat, by omega⟩
    have hWe : ofW V cut = V * 2 ^ c := by unfold ofW; rw [if_neg hcut, hcc, Int.toNat_natCast]
    have hFe : ofF V cut more = decide (more.toNat ≠ 0) := by
      unfold ofF
      rw [decide_eq_false hcut, Bool.false_and, Bool.false_or]
      cases more <;> rfl
    refine rr_parts (a := c) (b := 3) (G := 2) (W := ofW V cut) (t := more.toNat) (L := ofE V exp) hu (by omega) (by omega) ?_ (by cases more <;> simp) (by omega) hu2 hu45 d neg (by rw [hv, hFe])
    rw [hWe, Nat.add_mul]
    have e2 : more.toNat * 2 ^ c = more.toNat := by
      cases hmo : more
      · simp
      · have h55 := hm hmo
        have := w3 (by omega)
        have hc0 : c = 0 := by omega
        rw [hc0]; simp
    rw [e2, Nat.mul_assoc, Nat.mul_comm 2]
end Go.Proofs.Ytfbjeifhpmdjaaa.Rn
