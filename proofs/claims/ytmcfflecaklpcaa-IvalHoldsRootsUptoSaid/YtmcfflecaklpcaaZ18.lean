/-
  Plain: what is left behind 54 digits only has to be told from nothing; quotients. Conditions: those that each theorem names.
-/
import Derived.Test.YtmcfflecaklpcaaZ06
import Derived.Test.YtmcfflecaklpcaaZ17
set_option linter.unusedVariables false

namespace Go.Proofs.Ytmcfflecaklpcaa.Rn

/-- What the rounding asks of a Z. -/
def Asks (T : Nat) : Prop := ∃ k, T = 2 * rv k ∨ T = rv k + rv (k + 1)
theorem rr_same {Z Z' : Nat} (h : ∀ T, Asks T → ((2 * T ≤ Z ↔ 2 * T ≤ Z') ∧ (Z = 2 * T ↔ Z' = 2 * T))) (d : Int) (neg : Bool) : rr d neg Z = rr d neg Z' := by
  have hr : rung (Z / 4) = rung (Z' / 4) := by
    have h1 : ∀ k, k ≤ rung (Z / 4) ↔ k ≤ rung (Z' / 4) := fun k => by
      rw [le_rung_iff, le_rung_iff]
      have := (h (2 * rv k) ⟨k, .inl rfl⟩).1
      omega
    have a := (h1 (rung (Z / 4))).1 (Nat.le_refl _)
    have b := (h1 (rung (Z' / 4))).2 (Nat.le_refl _)
    omega
  have ha : away d neg Z = away d neg Z' := by
    unfold away
    rw [hr]
    obtain ⟨h1, h2⟩ := h (2 * rv (rung (Z' / 4))) ⟨_, .inl rfl⟩
    obtain ⟨h3, h4⟩ := h (rv (rung (Z' / 4)) + rv (rung (Z' / 4) + 1)) ⟨_, .inr rfl⟩
    have e1 : (Z = 4 * rv (rung (Z' / 4))) ↔ (Z' = 4 * rv (rung (Z' / 4))) := by omega
    have e2 : decide (2 * (rv (rung (Z' / 4)) + rv (rung (Z' / 4) + 1)) < Z) = decide (2 * (rv (rung (Z' / 4)) + rv (rung (Z' / 4) + 1)) < Z') := decide_eq_decide.2 (by omega)
    have e3 : decide (Z = 2 * (rv (rung (Z' / 4)) + rv (rung (Z' / 4) + 1))) = decide (Z' = 2 * (rv (rung (Z' / 4)) + rv (rung (Z' / 4) + 1))) := decide_eq_decide.2 (by omega)
    rw [e2, e3]
    by_cases h5 : Z = 4 * rv (rung (Z' / 4))
    · rw [if_pos h5, if_pos (e1.1 h5)]
    · rw [if_neg h5, if_neg (fun h6 => h5 (e1.2 h6))]
  unfold rr
  rw [hr, ha]

theorem asks_dvd {T a b : Nat} (hT : Asks T) (h : 9007199254740992 * 2 ^ a < T * 2 ^ b) : 2 ^ a ∣ T * 2 ^ b := by
  obtain ⟨k, hk⟩ := hT
  obtain ⟨s, h1, h2, h3, -⟩ := rv_dvd k
  generalize k / 4503599627370496 - 1 = v at *
  have key : ∀ {m c : Nat}, m < 9007199254740992 → T * 2 ^ b = m * 2 ^ c → 2 ^ a ∣ T * 2 ^ b := by
    intro m c hm e
    rw [e] at h ⊢
    rcases Nat.lt_or_ge c a with h4 | h4
    · exfalso
      have h5 := pow_mono (Nat.le_of_lt h4)
      have := Nat.mul_le_mul (Nat.le_of_lt hm) h5
      omega
    · exact Nat.dvd_mul_left_of_dvd (pow_dvd h4) _
  rcases hk with hk | hk
  · refine key (m := s) (c := v + 1 + b) h3 ?_
    rw [hk, h1, pow_add_ (v + 1) b, two_pow_s]
    ac_rfl
  · have e : T * 2 ^ b = (2 * s + 1) * 2 ^ (v + b) := by
      rw [hk, h1, h2, pow_add_, ← Nat.mul_assoc, ← Nat.add_mul]
      congr 2
      omega
    rw [e] at h ⊢
    rcases Nat.lt_or_ge (v + b) a with h4 | h4
    · exfalso
      have h5 := pow_mono (show v + b + 1 ≤ a by omega)
      rw [two_pow_s] at h5
      have : (2 * s + 1) * 2 ^ (v + b) ≤ 18014398509481984 * 2 ^ (v + b) := Nat.mul_le_mul_right _ (by omega)
      omega
    · exact Nat.dvd_mul_left_of_dvd (pow_dvd h4) _

/-- Nothing that the rounding asks lies strictly between two neighbours of 54 digits. -/
theorem between {Q a b T : Nat} (hQ : 9007199254740992 ≤ Q) (hT : Asks T) (h1 : Q * 2 ^ a < T * 2 ^ b) (h2 : T * 2 ^ b < (Q + 1) * 2 ^ a) : False := by
  have h3 := asks_dvd (a := a) (b := b) hT (Nat.lt_of_le_of_lt (Nat.mul_le_mul_right _ hQ) h1)
  obtain ⟨m, hm⟩ := h3
  rw [hm, Nat.mul_comm _ (2 ^ a)] at h1 h2
  have := Nat.lt_of_mul_lt_mul_left h1
  have := Nat.lt_of_mul_lt_mul_left h2
  omega

/-- How N by M stands to T times 2^b by 2^a, where nothing asked lies between. -/
theorem floor_le {N M Q a b T : Nat} (hM : 0 < M) (hQ : Q = N / M) (hQ1 : 9007199254740992 ≤ Q) (hT : Asks T) :
    (T * (M * 2 ^ b) ≤ N * 2 ^ a ↔ T * 2 ^ b ≤ Q * 2 ^ a) ∧ (N * 2 ^ a = T * (M * 2 ^ b) ↔ N % M = 0 ∧ Q * 2 ^ a = T * 2 ^ b) := by
  have h0 := Nat.div_add_mod N M
  have hl := Nat.mod_lt N hM
  rw [← hQ] at h0
  have hp := two_pow_pos a
  have e0 : T * (M * 2 ^ b) = M * (T * 2 ^ b) := by rw [Nat.mul_left_comm]
  have e1 : N * 2 ^ a = M * (Q * 2 ^ a) + N % M * 2 ^ a := by
    conv => lhs; rw [← h0]
    rw [Nat.add_mul, Nat.mul_assoc]
  have e2 : N % M * 2 ^ a < M * 2 ^ a := Nat.mul_lt_mul_of_pos_right hl hp
  have e3 : M * ((Q + 1) * 2 ^ a) = M * (Q * 2 ^ a) + M * 2 ^ a := by rw [Nat.add_mul, Nat.one_mul, Nat.mul_add]
  rw [e0, e1]
  rcases Nat.lt_or_ge (Q * 2 ^ a) (T * 2 ^ b) with h1 | h1
  · rcases Nat.lt_or_ge (T * 2 ^ b) ((Q + 1) * 2 ^ a) with h2 | h2
    · exact (between hQ1 hT h1 h2).elim
    · have h3 := Nat.mul_le_mul_left M h2
      rw [e3] at h3
      constructor
      · constructor <;> intro <;> omega
      · constructor
        · intro; omega
        · rintro ⟨-, h4⟩; omega
  · have h3 := Nat.mul_le_mul_left M h1
    constructor
    · constructor <;> intro <;> omega
    · constructor
      · intro h4
        have h5 : N % M * 2 ^ a = 0 := by omega
        have h6 : N % M = 0 := by
          rcases Nat.mul_eq_zero.1 h5 with h | h
          · exact h
          · omega
        have h7 : M * (Q * 2 ^ a) = M * (T * 2 ^ b) := by omega
        exact ⟨h6, Nat.eq_of_mul_eq_mul_left hM h7⟩
      · rintro ⟨h4, h5⟩
        rw [h4, h5]; omega

theorem rr_floor {N M N' M' a b : Nat} (hM : 0 < M) (hM' : 0 < M') (hQ : N / M = N' / M') (hQ1 : 9007199254740992 ≤ N / M) (hx : N % M = 0 ↔ N' % M' = 0) (d : Int) (neg : Bool) :
    rr d neg (zq (N * 2 ^ a) (M * 2 ^ b)) = rr d neg (zq (N' * 2 ^ a) (M' * 2 ^ b)) := by
  refine rr_same (fun T hT => ?_) d neg
  have hb := two_pow_pos b
  rw [zq_le (Nat.mul_pos hM hb), zq_le (Nat.mul_pos hM' hb), zq_eq (Nat.mul_pos hM hb), zq_eq (Nat.mul_pos hM' hb)]
  obtain ⟨h1, h2⟩ := floor_le (a := a) (b := b) hM rfl hQ1 hT
  obtain ⟨h3, h4⟩ := floor_le (a := a) (b := b) hM' hQ (by omega) hT
  rw [h1, h2, h3, h4, hx]
  exact ⟨Iff.rfl, Iff.rfl⟩

theorem zq_floor {N M : Nat} (hM : 0 < M) : zq N M / 2 = N / M ∧ (zq N M % 2 = 0 ↔ N % M = 0) := by
  unfold zq
  split <;> rename_i h
  · constructor
    · omega
    · constructor
      · intro; exact h
      · intro; omega
  · constructor
    · omega
    · constructor
      · intro; omega
      · intro h1; exact absurd h1 h

/-- A quotient of finite patterns. -/
theorem div_fin {x y : Nat} (hx : x < 18446744073709551616) (hy : y < 18446744073709551616) (fx : mg x < infR) (fy : mg y < infR) (hy0 : mg y ≠ 0) :
    Ieee.double.div x y = some (Ieee.double.word (sg x ^^ sg y) (near (zq (rv (mg x) * K75) (rv (mg y))))) := by
  obtain ⟨m, i, e1, hi, v1⟩ := read_fin hx fx
  obtain ⟨n, j, e2, hj, v2⟩ := read_fin hy fy
  have hn : n ≠ 0 := by
    intro h
    rw [h, Nat.zero_mul] at v2
    exact hy0 (rv_eq_zero.1 v2.symm)
  unfold Ieee.Format.div
  rw [e1, e2]
  simp only [Ieee.Datum.quotient, if_neg hn, Option.map_some]
  congr 1
  unfold Ieee.Format.write
  simp only
  rw [nearest_eq, near_eq]
  congr 1
  have e3 : Ieee.double.fractionBits + 2 = 54 := rfl
  rw [e3]
  generalize hmore : 54 + n.log2 - m.log2 = more
  have hmag : 2 * (m <<< more / n) + (m <<< more % n != 0).toNat = zq (m * 2 ^ more) n := by
    rw [Nat.shiftLeft_eq]
    unfold zq
    by_cases h : m * 2 ^ more % n = 0
    · rw [h]; rfl
    · rw [if_neg h, show (m * 2 ^ more % n != 0) = true by simpa using h]; rfl
  rw [hmag]
  -- both sides over powers of 2
  obtain ⟨c, hc⟩ : ∃ c : Nat, c = 1075 := ⟨_, rfl⟩
  have hK : K75 = 2 ^ c := by rw [hc]; exact K75_def
  by_cases hm : m = 0
  · have h1 : rv (mg x) = 0 := by rw [← v1, hm, Nat.zero_mul]
    rw [h1, hm, Nat.zero_mul, Nat.zero_mul]
    have z0 : ∀ M, zq 0 M = 0 := fun M => by simp [zq]
    rw [z0, z0, zd_zero]
  · have hfl : 9007199254740992 ≤ m * 2 ^ more / n := by
      rw [Nat.le_div_iff_mul_le (by omega)]
      obtain ⟨a1, a2⟩ := log2_bounds hm
      obtain ⟨b1, b2⟩ := log2_bounds hn
      have e5 : (9007199254740992 : Nat) = 2 ^ 53 := by decide
      rw [e5]
      have h2 : 2 ^ 53 * n ≤ 2 ^ 53 * 2 ^ (n.log2 + 1) := Nat.mul_le_mul_left _ (by omega)
      have h3 : 2 ^ m.log2 * 2 ^ more ≤ m * 2 ^ more := Nat.mul_le_mul_right _ a1
      rw [← pow_add_] at h2 h3
      have h4 := pow_mono (show 53 + (n.log2 + 1) ≤ m.log2 + more by omega)
      omega
    obtain ⟨f1, f2⟩ := zq_floor (N := m * 2 ^ more) (M := n) (by omega)
    -- places
    obtain ⟨A, B, hAB⟩ : ∃ A B : Nat, (A : Int) - B = i - j - more - 1 + 1075 := by
      refine ⟨(i + 1074).toNat + 1075, (j + 1074).toNat + more + 1, ?_⟩
      omega
    rw [zd_of hAB]
    show near _ = near _
    unfold near
    have h5 := rr_floor (N := m * 2 ^ more) (M := n) (N' := zq (m * 2 ^ more) n) (M' := 2) (a := A + 1) (b := B + 1 - 1) (by omega) (by omega) (by omega) hfl (by rw [f2]) 0 false
    rw [show zq (zq (m * 2 ^ more) n * 2 ^ (A + 1)) (2 * 2 ^ (B + 1 - 1)) = zq (zq (m * 2 ^ more) n * 2 ^ A) (2 ^ B) from zq_congr (Nat.mul_pos (by omega) (two_pow_pos _)) (two_pow_pos _) (by
      rw [show B + 1 - 1 = B by omega, two_pow_s]
      ac_rfl)] at h5
    rw [← h5]
    congr 1
    refine zq_congr (Nat.mul_pos (by omega) (two_pow_pos _)) (by rw [← v2]; exact Nat.mul_pos (by omega) (two_pow_pos _)) ?_
    rw [← v1, ← v2, hK, show B + 1 - 1 = B by omega]
    have e6 : more + (A + 1) + (j + 1074).toNat = (i + 1074).toNat + c + B := by omega
    have e7 : 2 ^ more * 2 ^ (A + 1) * 2 ^ (j + 1074).toNat = 2 ^ (i + 1074).toNat * 2 ^ c * 2 ^ B := by
      rw [← pow_add_, ← pow_add_, ← pow_add_, ← pow_add_, e6]
    calc m * 2 ^ more * 2 ^ (A + 1) * (n * 2 ^ (j + 1074).toNat) = m * n * (2 ^ more * 2 ^ (A + 1) * 2 ^ (j + 1074).toNat) := by ac_rfl
      _ = m * n * (2 ^ (i + 1074).toNat * 2 ^ c * 2 ^ B) := by rw [e7]
      _ = m * 2 ^ (i + 1074).toNat * 2 ^ c * (n * 2 ^ B) := by ac_rfl
end Go.Proofs.Ytmcfflecaklpcaa.Rn

/-
  Plain: the quick road of a quotient answers the number rounded in the direction. Conditions: those that each theorem names.
-/
set_option linter.unusedVariables false

namespace Go.Proofs.Ytmcfflecaklpcaa.Rn

theorem cap_rv : 1099511627776 * Kg ≤ rv (infR - 2) := by
  obtain ⟨c, hc⟩ : ∃ c : Nat, c = 1974 := ⟨_, rfl⟩
  rw [Kg_def, ← hc]
  have e : 1099511627776 * 2 ^ c = rv ((c + 40 - 52) * 4503599627370496 + 4503599627370496) := by
    rw [rv_form (c + 40 - 52) 4503599627370496 (by omega) (fun _ => Nat.le_refl _)]
    have : 2 ^ (c + 40) = 2 ^ (c + 40 - 52) * 2 ^ 52 := by rw [← pow_add_]; congr 1; omega
    rw [pow_add_] at this
    have e1 : (2 : Nat) ^ 40 = 1099511627776 := by decide
    have e2 : (2 : Nat) ^ 52 = 4503599627370496 := by decide
    rw [e1, e2] at this
    omega
  rw [e]
  exact rv_le (by rw [infR_val]; omega)

theorem K74_i : ((2 ^ 1074 : Nat) : Int) = (K74 : Int) := congrArg Int.ofNat K74_def.symm

/-- What a Z of a quotient asks. -/
theorem zd_le {X Y r : Nat} (hY : 0 < Y) : 4 * r ≤ zq (X * K75) Y ↔ r * Y ≤ X * K74 := by
  rw [show 4 * r = 2 * (2 * r) by omega, zq_le hY, K75_74]
  have e1 : 2 * r * Y = 2 * (r * Y) := Nat.mul_assoc _ _ _
  have e2 : X * (2 * K74) = 2 * (X * K74) := Nat.mul_left_comm _ _ _
  omega
theorem zd_gt {X Y r : Nat} (hY : 0 < Y) : 4 * r < zq (X * K75) Y ↔ r * Y < X * K74 := by
  rw [show 4 * r = 2 * (2 * r) by omega, zq_gt hY, K75_74]
  have e1 : 2 * r * Y = 2 * (r * Y) := Nat.mul_assoc _ _ _
  have e2 : X * (2 * K74) = 2 * (X * K74) := Nat.mul_left_comm _ _ _
  omega

theorem rn_pos {S : Int} : (0 < rn S ↔ 0 < S) ∧ (rn S < 0 ↔ S < 0) := by
  have h1 : S ≠ 0 → (1 : Int).natAbs ≤ (rn S).natAbs := fun h => rn_ge (g := 1) ⟨1, by decide⟩ (by omega)
  have h2 : S = 0 → rn S = 0 := fun h => by rw [h, rn_zero]
  have h3 : S < 0 → rn S ≤ 0 := fun h => by unfold rn; rw [if_pos h]; omega
  have h4 : ¬ S < 0 → 0 ≤ rn S := fun h => by unfold rn; rw [if_neg h]; omega
  omega

set_option maxHeartbeats 4000000 in
theorem div_quick {x y s p : Nat} {X Y : Int} (hx : Fl x X) (hy : Fl y Y) (mx : Mid X) (my : Mid Y) (hs : Ieee.double.div x y = some s) (fs : mg s < infR) (ms : Mid (sv s)) (hp : Ieee.double.mul s y = some p) (fp : mg p < infR) (mp : Mid (sv p)) :
    ∃ m a b M E, MissedOps s y p m ∧ Ieee.double.sub x p = some a ∧ Ieee.double.sub a m = some b ∧ Fl m M ∧ Fl b E ∧ ∀ d, rnd d (sg x ^^ sg y) (zq (rv (mg x) * K75) (rv (mg y))) = kp (key s + adj d (if Y < 0 then -E else E)) := by
  have hY0 : 0 < rv (mg y) := by have := my.1; have := hy.abs; omega
  have hX0 : 0 < rv (mg x) := by have := mx.1; have := hx.abs; omega
  have hmy : mg y ≠ 0 := fun h => by rw [h, rv_zero] at hY0; omega
  have hdiv := div_fin hx.lt hy.lt hx.fin hy.fin hmy
  rw [hdiv] at hs
  injection hs with hs
  obtain ⟨Z, hZ⟩ : ∃ Z, Z = zq (rv (mg x) * K75) (rv (mg y)) := ⟨_, rfl⟩
  rw [← hZ] at hs ⊢
  have hnl := near_lt' Z
  have hms : mg s = near Z := by rw [← hs, mg_word hnl]
  have hss : sg s = (sg x ^^ sg y) := by rw [← hs, sg_word hnl]
  have hsl : s < 18446744073709551616 := by rw [← hs]; exact word_lt hnl
  have hF : Fl s (sv s) := Fl.of hsl fs
  have hQ := sv_abs s
  obtain ⟨r, m, hr, hr0, hrg, om, fpr, fm, -⟩ := mul_quick hF hy ms my hp fp mp
  -- sizes
  clear hdiv
  have hbig : Z < 4 * (4 * Kg) := by
    rcases Nat.lt_or_ge Z (4 * (4 * Kg)) with h | h
    · exact h
    · exfalso
      obtain ⟨j, hj⟩ := rp_Kg (m := 4) (by omega)
      have h0 := nr_cap (P := 4 * Kg) (by omega)
      rw [← hj, nr_rv] at h0
      have h1 := near_lo (Z := Z) (k := j) (by omega) (by omega)
      have h2 := rv_le h1
      rw [← hms, hj, ← hQ] at h2
      have := ms.2
      omega
  have n3 : near Z = rung (Z / 4) ∨ near Z = rung (Z / 4) + 1 := (near_lt Z (by have := cap_rv; omega)).2.2
  obtain ⟨f, hf⟩ : ∃ f, f = rung (Z / 4) := ⟨_, rfl⟩
  rw [← hf] at n3
  obtain ⟨w1, w2⟩ := rung_spec (Z / 4)
  rw [← hf] at w1 w2
  have z1 : rv f * rv (mg y) ≤ rv (mg x) * K74 := (zd_le hY0).1 (by rw [← hZ]; omega)
  have z2 : rv (mg x) * K74 < rv (f + 1) * rv (mg y) := by
    rcases Nat.lt_or_ge (rv (mg x) * K74) (rv (f + 1) * rv (mg y)) with h | h
    · exact h
    · have := (zd_le hY0).2 h; rw [← hZ] at this; omega
  have hrv : r.natAbs * K74 = rv (mg s) * rv (mg y) := by
    have := congrArg Int.natAbs hr
    rw [Int.natAbs_mul, Int.natAbs_mul, K74_i, Int.natAbs_natCast, hy.abs, hQ] at this
    exact this
  obtain ⟨sf, g1, g2, g3, g4⟩ := rv_dvd f
  obtain ⟨v, hv⟩ : ∃ v, v = f / 4503599627370496 - 1 := ⟨_, rfl⟩
  rw [← hv] at g1 g2 g4
  have hKs : 18014398509481984 * 2 ^ 0 ≤ Ks := by
    obtain ⟨c, hc⟩ : ∃ c : Nat, c = 120 := ⟨_, rfl⟩
    have e : (2 : Nat) ^ 174 = 2 ^ 54 * 2 ^ c := by rw [hc, ← pow_add_]
    rw [Ks_def, e]
    have := two_pow_pos c
    have e1 : (2 : Nat) ^ 54 = 18014398509481984 := by decide
    rw [e1, Nat.pow_zero]
    omega
  rw [Nat.pow_zero, Nat.mul_one] at hKs
  have hs1 := ms.1
  rw [hQ] at hs1
  have hsle : rv (mg s) ≤ rv (f + 1) := rv_le (by omega)
  have hv0 : v ≠ 0 := by
    intro h
    rw [h, Nat.pow_zero] at g2
    omega
  have hu1 : 4503599627370496 * 2 ^ v ≤ rv f := by rw [g1]; exact Nat.mul_le_mul_right _ (g4 hv0)
  have hu2 : rv (f + 1) = rv f + 2 ^ v := by rw [g2, g1, Nat.add_mul, Nat.one_mul]
  obtain ⟨A, hA⟩ : ∃ A, A = 2 ^ v := ⟨_, rfl⟩
  rw [← hA] at hu1 hu2
  clear g1 g2 g3 g4 hA
  -- r beside X
  have hYm : 4503599627370496 * (A * rv (mg y)) ≤ rv f * rv (mg y) := by rw [← Nat.mul_assoc]; exact Nat.mul_le_mul_right _ hu1
  have hs3 : rv f ≤ rv (mg s) := rv_le (by omega)
  have hK := K74_pos
  have b1 : r.natAbs * K74 ≤ rv f * rv (mg y) + A * rv (mg y) := by
    rw [hrv, ← Nat.add_mul, ← hu2]; exact Nat.mul_le_mul_right _ hsle
  have b2 : rv f * rv (mg y) ≤ r.natAbs * K74 := by rw [hrv]; exact Nat.mul_le_mul_right _ hs3
  rw [hu2, Nat.add_mul] at z2
  have c1 : 4503599627370496 * r.natAbs ≤ 4503599627370497 * rv (mg x) := by
    have : (4503599627370496 * r.natAbs) * K74 ≤ (4503599627370497 * rv (mg x)) * K74 := by rw [Nat.mul_assoc, Nat.mul_assoc]; omega
    exact Nat.le_of_mul_le_mul_right this hK
  have c2 : 4503599627370495 * rv (mg x) ≤ 4503599627370496 * r.natAbs := by
    have : (4503599627370495 * rv (mg x)) * K74 ≤ (4503599627370496 * r.natAbs) * K74 := by rw [Nat.mul_assoc, Nat.mul_assoc]; omega
    exact Nat.le_of_mul_le_mul_right this hK
  clear b1 b2 hYm
  -- the signs
  have hXs := sv_sn x
  have hYs := sv_sn y
  have hSs := sv_sn s
  have hx' := hx.abs
  have hy' := hy.abs
  have sgX : (X < 0 ↔ sg x = true) := by
    rw [← hx.val]; unfold sv; cases sg x <;> simp <;> omega
  have sgY : (Y < 0 ↔ sg y = true) := by
    rw [← hy.val]; unfold sv; cases sg y <;> simp <;> omega
  have sgS : (sv s < 0 ↔ sg s = true) := by
    unfold sv; cases sg s <;> simp <;> omega
  have hsr : (r < 0 ↔ X < 0) := by
    have hp : (0 : Int) < (K74 : Int) := by omega
    rw [K74_i] at hr
    have e1 : r < 0 ↔ sv s * Y < 0 := by
      rw [← hr]
      constructor
      · intro h; exact Int.mul_neg_of_neg_of_pos h hp
      · intro h
        rcases Int.lt_or_le r 0 with h' | h'
        · exact h'
        · have := Int.mul_nonneg h' (show (0 : Int) ≤ (K74 : Int) by omega); omega
    rw [e1, sgX]
    rw [hss] at sgS
    have t1 : sv s ≠ 0 := by omega
    have t2 : Y ≠ 0 := by omega
    rcases Int.lt_or_lt_of_ne t1 with a | a <;> rcases Int.lt_or_lt_of_ne t2 with b | b
    · have := Int.mul_pos_of_neg_of_neg a b
      have h1 := sgS.1 a; have h2 := sgY.1 b
      rw [h2] at h1
      cases h3 : sg x
      · exact ⟨fun h => by omega, fun h => by cases h⟩
      · rw [h3] at h1; cases h1
    · have := Int.mul_neg_of_neg_of_pos a b
      have h1 := sgS.1 a
      have h2 : sg y = false := by cases h : sg y; rfl; have := sgY.2 h; omega
      rw [h2] at h1
      cases h3 : sg x
      · rw [h3] at h1; cases h1
      · exact ⟨fun _ => rfl, fun _ => by omega⟩
    · have := Int.mul_neg_of_pos_of_neg a b
      have h1 : ¬ (sg x ^^ sg y) = true := fun h => by have := sgS.2 h; omega
      have h2 := sgY.1 b
      rw [h2] at h1
      cases h3 : sg x
      · rw [h3] at h1; exact absurd rfl h1
      · exact ⟨fun _ => rfl, fun _ => by omega⟩
    · have := Int.mul_pos a b
      have h1 : ¬ (sg x ^^ sg y) = true := fun h => by have := sgS.2 h; omega
      have h2 : sg y = false := by cases h : sg y; rfl; have := sgY.2 h; omega
      rw [h2] at h1
      cases h3 : sg x
      · exact ⟨fun h => by omega, fun h => by cases h⟩
      · rw [h3] at h1; exact absurd rfl h1
  -- x less the nearest product is exact
  have hPr : 9007199254740992 * (rn r - r).natAbs ≤ r.natAbs := by
    have h1 := ex_hi r.natAbs
    have h2 := rn_err h1
    by_cases h3 : ex r.natAbs = 0
    · rw [h3, Nat.pow_zero] at h2; omega
    · have h4 := ex_lo h3
      omega
  have hrep : RpZ (X - rn r) := sterbZ hx.rp (rn_rp _) (by omega)
  have bX := mx.2
  obtain ⟨a, oa, fa⟩ := hx.sub fpr (nr_cap (by omega))
  rw [rn_of hrep] at fa
  obtain ⟨b, ob, fb⟩ := fa.sub fm (nr_cap (by omega))
  rw [show X - rn r - (r - rn r) = X - r by omega] at fb
  refine ⟨m, a, b, _, _, om, oa, ob, fm, fb, fun d => ?_⟩
  obtain ⟨q1, q2⟩ := rn_pos (S := X - r)
  -- the nearest one beside the quotient
  have t1 : 4 * rv (near Z) < Z ↔ r.natAbs < rv (mg x) := by
    rw [← hms]
    conv => lhs; rw [hZ]
    rw [zd_gt hY0, ← hrv]
    exact ⟨fun h => Nat.lt_of_mul_lt_mul_right h, fun h => Nat.mul_lt_mul_of_pos_right h hK⟩
  have t2 : Z < 4 * rv (near Z) ↔ rv (mg x) < r.natAbs := by
    have h1 : 4 * rv (near Z) ≤ Z ↔ r.natAbs ≤ rv (mg x) := by
      rw [← hms]
      conv => lhs; rw [hZ]
      rw [zd_le hY0, ← hrv]
      exact ⟨fun h => Nat.le_of_mul_le_mul_right h hK, fun h => Nat.mul_le_mul_right _ h⟩
    omega
  refine rnd_nudge d (sg x ^^ sg y) (by have := cap_rv; omega) (K := key s) ?_ ?_ ?_
  · unfold key; rw [hss, hms]
  · rw [t1, t2]
    cases h3 : sg x <;> cases h4 : sg y <;> rw [h3] at sgX <;> rw [h4] at sgY <;> simp only [Bool.false_xor, Bool.true_xor, Bool.not_false, Bool.not_true, Bool.false_eq_true, if_true, if_false, iff_false, iff_true] at sgX sgY ⊢
    · rw [if_neg sgY]; omega
    · rw [if_pos sgY]; omega
    · rw [if_neg sgY]; omega
    · rw [if_pos sgY]; omega
  · rw [t1, t2]
    cases h3 : sg x <;> cases h4 : sg y <;> rw [h3] at sgX <;> rw [h4] at sgY <;> simp only [Bool.false_xor, Bool.true_xor, Bool.not_false, Bool.not_true, Bool.false_eq_true, if_true, if_false, iff_false, iff_true] at sgX sgY ⊢
    · rw [if_neg sgY]; omega
    · rw [if_pos sgY]; omega
    · rw [if_neg sgY]; omega
    · rw [if_pos sgY]; omega
end Go.Proofs.Ytmcfflecaklpcaa.Rn

/-
  Plain: what Div answers; / where an operand is no number or nought. Conditions: those that each theorem names.
-/
set_option linter.unusedVariables false
set_option linter.unusedSimpArgs false
namespace Go.Proofs.Ytmcfflecaklpcaa.Rn
open Nm

/-- What Div answers. -/
def divR (d : Int) (x y : Nat) : Nat :=
  if isNaN x || isNaN y || (isInf x && isInf y) || (decide (mg x = 0) && decide (mg y = 0)) then NaNc
  else if mg y = 0 then infP (sg x && decide (mg x ≠ 0))
  else if isInf x then infP (sg x != sg y)
  else if isInf y then 0
  else rnd d (sg x != sg y) (zq (rv (mg x) * K75) (rv (mg y)))

/-- The document's quotient. -/
theorem quo_ref (d : Int) (x y : Nat) (hy : mg y ≠ 0) {n m : Bool} (hn : n = (sg x && decide (mg x ≠ 0))) (hm : m = (sg y && decide (mg y ≠ 0))) :
    rnd d ((n != m) && decide (fbN x * fbD y ≠ 0)) (zr (fracN (fbN x * fbD y) (fbD x * fbN y) 0) (fracD (fbN x * fbD y) (fbD x * fbN y) 0)) = rnd d (sg x != sg y) (zq (rv (mg x) * K75) (rv (mg y))) := by
  have hNy : fbN y ≠ 0 := fun h => hy ((fbN_zero y).1 h)
  have hp : fbD x * fbN y ≠ 0 := by
    have := Nat.mul_pos (fbD_pos x) (show 0 < fbN y by omega)
    omega
  have hry : 0 < rv (mg y) := by
    rcases Nat.eq_zero_or_pos (rv (mg y)) with h | h
    · exact absurd (rv_eq_zero.1 h) hy
    · exact h
  have h1 := frac_val (n := fbN x * fbD y) (d := fbD x * fbN y) (e := 0) (p := 0) (q := 0) rfl
  rw [Nat.pow_zero, Nat.mul_one, Nat.mul_one] at h1
  have h2 := fb_val x
  have h3 := fb_val y
  have hz : zr (fracN (fbN x * fbD y) (fbD x * fbN y) 0) (fracD (fbN x * fbD y) (fbD x * fbN y) 0) = zq (rv (mg x) * K75) (rv (mg y)) := by
    have e1 : zq (rv (mg x) * K75) (rv (mg y)) = zr (rv (mg x)) (rv (mg y)) := rfl
    rw [e1]
    have e2 : zr (fracN (fbN x * fbD y) (fbD x * fbN y) 0) (fracD (fbN x * fbD y) (fbD x * fbN y) 0) = zr (fbN x * fbD y) (fbD x * fbN y) := zr_congr (fracD_pos _ hp) (by omega) h1
    rw [e2]
    refine zr_congr (by omega) hry ?_
    have hK := K74_pos
    have hD := fbD_pos y
    refine Nat.eq_of_mul_eq_mul_right (Nat.mul_pos hK hD) ?_
    have a1 : fbN x * fbD y * rv (mg y) * (K74 * fbD y) = (fbN x * K74) * (rv (mg y) * fbD y) * fbD y := by
      simp only [Nat.mul_assoc, Nat.mul_comm, Nat.mul_left_comm]
    have a2 : rv (mg x) * (fbD x * fbN y) * (K74 * fbD y) = (rv (mg x) * fbD x) * (fbN y * K74) * fbD y := by
      simp only [Nat.mul_assoc, Nat.mul_comm, Nat.mul_left_comm]
    rw [a1, a2, h2, h3]
  rw [hz]
  by_cases hx : mg x = 0
  · rw [hx, rv_zero, Nat.zero_mul]
    have : zq 0 (rv (mg y)) = 0 := by simp [zq]
    rw [this, rnd_zero, rnd_zero]
  · have hNx : fbN x ≠ 0 := fun h => hx ((fbN_zero x).1 h)
    have hpos := Nat.mul_pos (show 0 < fbN x by omega) (fbD_pos y)
    rw [hn, hm, decide_eq_true hx, decide_eq_true hy, decide_eq_true (show fbN x * fbD y ≠ 0 by omega), Bool.and_true, Bool.and_true, Bool.and_true]
end Go.Proofs.Ytmcfflecaklpcaa.Rn

/-
  Plain: the n-th root of a ratio, cut behind some binary digits, with a mark for what was cut off: it rounds alike behind any number of digits that is great enough. Conditions: those that each theorem names.
-/
set_option linter.unusedVariables false
set_option linter.unusedSimpArgs false
namespace Go.Proofs.Ytmcfflecaklpcaa.Rn
open Nm

/-- r is the n-th root of N / D times 2^k, cut; o tells whether something was cut off. -/
def RootAt (N D n : Nat) (k : Int) (r : Nat) (o : Bool) : Prop :=
  ∃ A B : Nat, (A : Int) - B = n * k ∧ r ^ n * (D * 2 ^ B) ≤ N * 2 ^ A ∧ N * 2 ^ A < (r + 1) ^ n * (D * 2 ^ B) ∧ o = decide (r ^ n * (D * 2 ^ B) ≠ N * 2 ^ A)

theorem RootAt.any {N D n : Nat} {k : Int} {r : Nat} {o : Bool} (h : RootAt N D n k r o) {A B : Nat} (hAB : (A : Int) - B = n * k) :
    r ^ n * (D * 2 ^ B) ≤ N * 2 ^ A ∧ N * 2 ^ A < (r + 1) ^ n * (D * 2 ^ B) ∧ o = decide (r ^ n * (D * 2 ^ B) ≠ N * 2 ^ A) := by
  obtain ⟨A', B', hAB', h1, h2, h3⟩ := h
  have hc : A + B' = A' + B := by omega
  have e1 : ∀ R : Nat, R * (D * 2 ^ B) * 2 ^ B' = R * (D * 2 ^ B') * 2 ^ B := fun R => by simp only [Nat.mul_assoc, Nat.mul_comm, Nat.mul_left_comm]
  have e2 : N * 2 ^ A * 2 ^ B' = N * 2 ^ A' * 2 ^ B := by rw [Nat.mul_assoc, Nat.mul_assoc, ← Nat.pow_add, ← Nat.pow_add, hc]
  have hB := two_pow_pos B
  have hB' := two_pow_pos B'
  refine ⟨?_, ?_, ?_⟩
  · refine Nat.le_of_mul_le_mul_right (c := 2 ^ B') ?_ hB'
    rw [e1, e2]
    exact Nat.mul_le_mul_right _ h1
  · refine Nat.lt_of_mul_lt_mul_right (a := 2 ^ B') ?_
    rw [e1, e2]
    exact Nat.mul_lt_mul_of_pos_right h2 hB
  · rw [h3]
    refine decide_eq_decide.2 (not_congr ?_)
    constructor
    · intro h
      refine Nat.eq_of_mul_eq_mul_right hB' ?_
      rw [e1, e2, h]
    · intro h
      refine Nat.eq_of_mul_eq_mul_right hB ?_
      rw [← e1, ← e2, h]

/-- The same ratio. -/
theorem RootAt.congr {N D N' D' n : Nat} {k : Int} {r : Nat} {o : Bool} (hD : 0 < D) (hD' : 0 < D') (he : N * D' = N' * D) (h : RootAt N D n k r o) : RootAt N' D' n k r o := by
  obtain ⟨A, B, hAB, h1, h2, h3⟩ := h
  have e1 : ∀ R : Nat, R * (D * 2 ^ B) * D' = R * (D' * 2 ^ B) * D := fun R => by simp only [Nat.mul_assoc, Nat.mul_comm, Nat.mul_left_comm]
  have e2 : N * 2 ^ A * D' = N' * 2 ^ A * D := by rw [Nat.mul_right_comm, he, Nat.mul_right_comm]
  refine ⟨A, B, hAB, ?_, ?_, ?_⟩
  · refine Nat.le_of_mul_le_mul_right (c := D) ?_ hD
    rw [← e1, ← e2]
    exact Nat.mul_le_mul_right _ h1
  · refine Nat.lt_of_mul_lt_mul_right (a := D) ?_
    rw [← e1, ← e2]
    exact Nat.mul_lt_mul_of_pos_right h2 hD'
  · rw [h3]
    refine decide_eq_decide.2 (not_congr ?_)
    constructor
    · intro h
      refine Nat.eq_of_mul_eq_mul_right hD ?_
      rw [← e1, ← e2, h]
    · intro h
      refine Nat.eq_of_mul_eq_mul_right hD' ?_
      rw [e1, e2, h]

theorem pow_lt_pow_ {a b n : Nat} (hn : n ≠ 0) (h : a < b) : a ^ n < b ^ n := Nat.pow_lt_pow_left h hn
theorem pow_le_pow_ {a b : Nat} (n : Nat) (h : a ≤ b) : a ^ n ≤ b ^ n := Nat.pow_le_pow_left h n

/-- Fewer digits. -/
theorem RootAt.less {N D n : Nat} {k : Int} {r1 r2 j : Nat} {o1 o2 : Bool} (hn : n ≠ 0) (hD : 0 < D) (h1 : RootAt N D n k r1 o1) (h2 : RootAt N D n (k + j) r2 o2) : r1 = r2 / 2 ^ j ∧ o1 = decide ((2 * r2 + o2.toNat) % 2 ^ (j + 1) ≠ 0) := by
  obtain ⟨A, B, hAB, a1, a2, a3⟩ := h1
  have hAB2 : ((A + n * j : Nat) : Int) - B = n * (k + j) := by rw [Int.mul_add]; push_cast; omega
  obtain ⟨b1, b2, b3⟩ := h2.any hAB2
  have hj := two_pow_pos j
  have hpn : 2 ^ (n * j) = (2 ^ j) ^ n := by rw [Nat.mul_comm, Nat.pow_mul]
  obtain ⟨E, hE⟩ : ∃ E, E = D * 2 ^ B := ⟨_, rfl⟩
  have hE0 : 0 < E := by rw [hE]; exact Nat.mul_pos hD (two_pow_pos B)
  obtain ⟨W, hW⟩ : ∃ W, W = N * 2 ^ A := ⟨_, rfl⟩
  obtain ⟨J, hJ⟩ : ∃ J, J = 2 ^ j := ⟨_, rfl⟩
  have hW2 : N * 2 ^ (A + n * j) = W * J ^ n := by rw [Nat.pow_add, ← Nat.mul_assoc, hW, hpn, hJ]
  rw [hW2, ← hE] at b1 b2 b3
  rw [← hE, ← hW] at a1 a2 a3
  rw [← hJ] at hj ⊢
  have hJn : 0 < J ^ n := Nat.pow_pos hj
  have c1 : r1 * J ≤ r2 := by
    rcases Nat.lt_or_ge r2 (r1 * J) with h | h
    · exfalso
      have := pow_le_pow_ n (show r2 + 1 ≤ r1 * J from h)
      rw [Nat.mul_pow] at this
      have h2 : (r2 + 1) ^ n * E ≤ r1 ^ n * J ^ n * E := Nat.mul_le_mul_right _ this
      have h3 : r1 ^ n * J ^ n * E = r1 ^ n * E * J ^ n := Nat.mul_right_comm _ _ _
      have h4 : r1 ^ n * E * J ^ n ≤ W * J ^ n := Nat.mul_le_mul_right _ a1
      omega
    · exact h
  have c2 : r2 < (r1 + 1) * J := by
    rcases Nat.lt_or_ge r2 ((r1 + 1) * J) with h | h
    · exact h
    · exfalso
      have := pow_le_pow_ n h
      rw [Nat.mul_pow] at this
      have h2 : (r1 + 1) ^ n * J ^ n * E ≤ r2 ^ n * E := Nat.mul_le_mul_right _ this
      have h3 : (r1 + 1) ^ n * J ^ n * E = (r1 + 1) ^ n * E * J ^ n := Nat.mul_right_comm _ _ _
      have h4 : W * J ^ n < (r1 + 1) ^ n * E * J ^ n := Nat.mul_lt_mul_of_pos_right a2 hJn
      omega
  have hdiv : r1 = r2 / J := by
    refine (Nat.div_eq_of_lt_le ?_ ?_).symm
    · exact c1
    · exact c2
  refine ⟨hdiv, ?_⟩
  rw [a3]
  refine decide_eq_decide.2 (not_congr ?_)
  rw [Nat.pow_succ, ← hJ]
  have hdm := Nat.div_add_mod r2 J
  rw [← hdiv] at hdm
  have hmod : (2 * r2 + o2.toNat) % (J * 2) = 2 * (r2 % J) + o2.toNat := by
    have ho : o2.toNat ≤ 1 := by cases o2 <;> simp
    have hlt := Nat.mod_lt r2 hj
    have : 2 * r2 + o2.toNat = (2 * (r2 % J) + o2.toNat) + r1 * (J * 2) := by
      have h5 : r1 * (J * 2) = 2 * (J * r1) := by simp only [Nat.mul_assoc, Nat.mul_comm, Nat.mul_left_comm]
      omega
    rw [this, Nat.add_mul_mod_self_right, Nat.mod_eq_of_lt (by omega)]
  rw [hmod]
  constructor
  · intro h
    have e : r1 ^ n * J ^ n * E = W * J ^ n := by rw [Nat.mul_right_comm, h]
    have hr2 : r2 = r1 * J := by
      rcases Nat.lt_or_ge (r1 * J) r2 with h6 | h6
      · exfalso
        have := pow_lt_pow_ hn h6
        rw [Nat.mul_pow] at this
        have h7 : r1 ^ n * J ^ n * E < r2 ^ n * E := Nat.mul_lt_mul_of_pos_right this hE0
        omega
      · omega
    have h0 : r2 % J = 0 := by rw [hr2, Nat.mul_mod_left]
    rw [h0, b3]
    have : ¬ (r2 ^ n * E ≠ W * J ^ n) := by rw [hr2, Nat.mul_pow, e]; simp
    rw [decide_eq_false this]; rfl
  · intro h
    have h0 : r2 % J = 0 := by omega
    have ho : o2 = false := by cases ho2 : o2 with | false => rfl | true => rw [ho2] at h; simp at h
    have hr2 : r2 = r1 * J := by rw [Nat.mul_comm]; omega
    rw [ho] at b3
    have b4 : r2 ^ n * E = W * J ^ n := by
      have := of_decide_eq_false b3.symm
      omega
    refine Nat.eq_of_mul_eq_mul_right hJn ?_
    rw [← b4, hr2, Nat.mul_pow, Nat.mul_right_comm]

/-- More digits round alike. -/
theorem RootAt.rnd_less {N D n : Nat} {k : Int} {r1 r2 j : Nat} {o1 o2 : Bool} (hn : n ≠ 0) (hD : 0 < D) (h1 : RootAt N D n k r1 o1) (h2 : RootAt N D n (k + j) r2 o2) (hb : o1 = true → 55 ≤ bl r1) (d : Int) (neg : Bool) :
    rnd d neg (zd (2 * r1 + o1.toNat) (-k - 1)) = rnd d neg (zd (2 * r2 + o2.toNat) (-(k + j) - 1)) := by
  obtain ⟨e1, e2⟩ := h1.less hn hD h2
  obtain ⟨P, hP⟩ : ∃ P : Nat, P = (-k + 1075).toNat := ⟨_, rfl⟩
  obtain ⟨Q, hQ⟩ : ∃ Q : Nat, Q = (-(-k + 1075)).toNat := ⟨_, rfl⟩
  have hPQ : (P : Int) - Q = -k + 1075 := by omega
  have hz : zd (2 * r2 + o2.toNat) (-(k + j) - 1) = zq ((2 * r2 + o2.toNat) * 2 ^ P) (2 ^ (j + 1) * 2 ^ Q) := by
    rw [zd_of (A := P) (B := j + 1 + Q) (by omega), Nat.pow_add]
  rw [hz]
  refine rnd_quo (X := 2 * r2 + o2.toNat) (Y := 2 ^ (j + 1)) (A := P) (B := Q) (two_pow_pos _) (Nat.mul_pos (two_pow_pos _) (two_pow_pos _)) ?_ e2 hb hPQ ?_ d neg
  · rw [e1, Nat.pow_succ, Nat.mul_comm (2 ^ j) 2, ← Nat.div_div_eq_div_mul]
    have ho : o2.toNat ≤ 1 := by cases o2 <;> simp
    rw [show (2 * r2 + o2.toNat) / 2 = r2 by omega]
  · rfl

theorem RootAt.alike {N D n : Nat} {k1 k2 : Int} {r1 r2 : Nat} {o1 o2 : Bool} (hn : n ≠ 0) (hD : 0 < D) (h1 : RootAt N D n k1 r1 o1) (h2 : RootAt N D n k2 r2 o2) (hb1 : o1 = true → 55 ≤ bl r1) (hb2 : o2 = true → 55 ≤ bl r2) (d : Int) (neg : Bool) :
    rnd d neg (zd (2 * r1 + o1.toNat) (-k1 - 1)) = rnd d neg (zd (2 * r2 + o2.toNat) (-k2 - 1)) := by
  rcases Int.le_total k1 k2 with h | h
  · obtain ⟨j, hj⟩ : ∃ j : Nat, k2 = k1 + j := ⟨(k2 - k1).toNat, by omega⟩
    subst hj
    exact h1.rnd_less hn hD h2 hb1 d neg
  · obtain ⟨j, hj⟩ : ∃ j : Nat, k1 = k2 + j := ⟨(k1 - k2).toNat, by omega⟩
    subst hj
    exact (h2.rnd_less hn hD h1 hb2 d neg).symm

/-- The n-th root of N / D, rounded. -/
noncomputable def rootV (d : Int) (neg : Bool) (N D n : Nat) : Nat :=
  open Classical in
  if h : ∃ V, ∃ k r o, RootAt N D n k r o ∧ (o = true → 55 ≤ bl r) ∧ V = rnd d neg (zd (2 * r + o.toNat) (-k - 1)) then Classical.choose h else 0
theorem RootAt.val {N D n : Nat} {k : Int} {r : Nat} {o : Bool} (h : RootAt N D n k r o) (hn : n ≠ 0) (hD : 0 < D) (hb : o = true → 55 ≤ bl r) (d : Int) (neg : Bool) : rnd d neg (zd (2 * r + o.toNat) (-k - 1)) = rootV d neg N D n := by
  have hex : ∃ V, ∃ k r o, RootAt N D n k r o ∧ (o = true → 55 ≤ bl r) ∧ V = rnd d neg (zd (2 * r + o.toNat) (-k - 1)) := ⟨_, k, r, o, h, hb, rfl⟩
  unfold rootV
  rw [dif_pos hex]
  obtain ⟨k', r', o', h', hb', he⟩ := Classical.choose_spec hex
  rw [he]
  exact h.alike hn hD h' hb hb' d neg

/-- What Root answers. -/
noncomputable def rootR (d : Int) (x : Nat) (n : Int) : Nat :=
  if isNaN x || decide (n < 1) || decide (1024 < n) || (decide (n % 2 = 0) && (sg x && decide (mg x ≠ 0))) then NaNc
  else if isInf x then x
  else if mg x = 0 then 0
  else rootV d (sg x) (rv (mg x)) K74 n.toNat
end Go.Proofs.Ytmcfflecaklpcaa.Rn
