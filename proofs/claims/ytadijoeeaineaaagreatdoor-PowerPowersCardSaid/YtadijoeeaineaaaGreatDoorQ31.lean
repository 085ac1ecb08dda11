/-
  The contracts of the program's Zeros and power. Conditions: those that each theorem names.
-/
import Derived.Test.YtadijoeeaineaaaGreatDoorQ30
import Derived.Test.YtadijoeeaineaaaGreatDoorQ24
import Derived.Test.YtadijoeeaineaaaGreatDoorQ22
import Derived.Test.YtadijoeeaineaaaGreatDoorQ17
import Derived.Lib.TrailingZeros
import Derived.Test.YtadijoeeaineaaaGreatDoorQ06
import Derived.Test.YtadijoeeaineaaaGreatDoorQ20
import Derived.Test.YtadijoeeaineaaaGreatDoorQ11
namespace Go.Proofs.YtadijoeeaineaaaGreatDoor
open Go.RowKit Nm Rn
set_option maxRecDepth 100000
set_option linter.unusedVariables false
set_option linter.unusedSimpArgs false

/-- The table in its variable. -/
def Tab (w : World) : Prop := ∀ j, j < 32 → w.cell? ⟨1, j, none⟩ = some (.int .u8 ((Lib.deBruijn32tab.getD j 0 : Nat) : Int))
theorem cell_lt_ {w : World} {p : Addr} {v : Value} (h : w.cell? p = some v) : p.block < w.heap.size := by
  rcases Nat.lt_or_ge p.block w.heap.size with c | c
  · exact c
  · exfalso
    have : w.heap[p.block]? = none := Array.getElem?_eq_none c
    unfold World.cell? at h
    rw [this] at h
    simp at h
theorem Tab.ext {w w' : World} (h : Tab w) (e : Ext w w') : Tab w' := fun j hj => by
  have h1 := h j hj
  have h2 := cell_lt_ h1
  have e' : Below w.heap.size w w' := e
  rw [e'.cell h2]
  exact h1

theorem and_u32n (a b : Nat) (ha : a < 4294967296) (hb : b < 4294967296) : bits .and .u32 (a : Int) (b : Int) = ((a &&& b : Nat) : Int) := u32_and_nat a b ha hb
theorem tz32_key (x a : Nat) (hx : x < 4294967296) (hx0 : x ≠ 0) (hlow : x &&& (4294967296 - x) = a) :
    bits BinOp.and IntKind.u32 (x : Int) (-(x : Int) % 4294967296) * 125613361 % 4294967296 / 134217728 = ((a * 125613361 % 4294967296 / 134217728 : Nat) : Int) := by
  have e1 : -(x : Int) % 4294967296 = ((4294967296 - x : Nat) : Int) := by omega
  rw [e1, and_u32n x _ hx (by omega), hlow]
  omega
set_option maxHeartbeats 1000000 in
theorem tz32_core (x k idx : Nat) (w : World) (hx0 : ((x : Int) == 0) = false)
    (key : bits BinOp.and IntKind.u32 (x : Int) (-(x : Int) % 4294967296) * 125613361 % 4294967296 / 134217728 = (idx : Int))
    (hi : idx < 32) (hk : k < 32) (hcell : w.cell? ⟨1, idx, none⟩ = some (.int .u8 k)) :
    Calls Tryz.prog 106 #[.int .u32 x] w fun e w' => e = .returned (.int .i64 k) ∧ w = w' := by
  go_enter Tryz.func106, Tryz.ntmps106
  go_wp2_with (simp only [key])
  go_ret
  exact ⟨rfl, rfl⟩
theorem tz32_any (x : Nat) (hx : x < 4294967296) (hx0 : x ≠ 0) (w : World) (hT : Tab w) :
    Calls Tryz.prog 106 #[.int .u32 x] w fun e w' => e = .returned (.int .i64 (Lib.ctz 32 x : Nat)) ∧ w = w' := by
  obtain ⟨hlow, hk⟩ := Lib.lowest_bit 32 x hx0 hx
  obtain ⟨hi, htab⟩ := Lib.deBruijn32_at _ hk
  have hcell := hT _ hi
  rw [htab] at hcell
  exact tz32_core x _ _ w (by simp; omega) (tz32_key x _ hx hx0 hlow) hi hk hcell

theorem tz_uniq {n a m : Nat} (h : n = 2 ^ a * m) (hm : m % 2 = 1) : tz n = a := by
  have h0 : n ≠ 0 := fun e => by
    have := Nat.mul_pos (two_pow_pos a) (show 0 < m by omega)
    omega
  obtain ⟨m', h1, h2⟩ := tz_spec h0
  obtain ⟨b, hb⟩ : ∃ b, b = tz n := ⟨_, rfl⟩
  rw [← hb] at h1 ⊢
  rcases Nat.lt_trichotomy b a with g | g | g
  · exfalso
    rw [h, show a = b + (1 + (a - b - 1)) by omega, Nat.pow_add, Nat.mul_assoc] at h1
    have := Nat.eq_of_mul_eq_mul_left (two_pow_pos b) h1
    rw [Nat.pow_add, Nat.pow_one, Nat.mul_assoc] at this
    omega
  · exact g
  · exfalso
    rw [h, show b = a + (1 + (b - a - 1)) by omega, Nat.pow_add, Nat.mul_assoc] at h1
    have := Nat.eq_of_mul_eq_mul_left (two_pow_pos a) h1
    rw [Nat.pow_add, Nat.pow_one, Nat.mul_assoc] at this
    omega
theorem tz_at {xs : List Nat} (h : Ws xs) {k : Nat} (hk : k < xs.length) (hz : nv (xs.take k) = 0) (hx : xs[k] ≠ 0) : tz (nv xs) = 32 * k + Lib.ctz 32 xs[k] := by
  have hx32 : xs[k] < 4294967296 := h.get hk
  have h1 := nv_take_drop xs k (by omega)
  have h2 := nv_drop_eq hk
  obtain ⟨m, hm, hc⟩ := Lib.ctzFrom_spec 32 xs[k] (by omega) hx32
  have he : Lib.ctz 32 xs[k] = Lib.ctzFrom 32 xs[k] := by unfold Lib.ctz; rw [if_neg hx]
  rw [he]
  obtain ⟨c, hcc⟩ : ∃ c, c = Lib.ctzFrom 32 xs[k] := ⟨_, rfl⟩
  rw [← hcc] at hm hc ⊢
  obtain ⟨R, hR⟩ : ∃ R, R = nv (xs.drop (k + 1)) := ⟨_, rfl⟩
  rw [← hR] at h2
  rw [hz, Nat.zero_add, h2, hm] at h1
  refine tz_uniq (m := 2 * m + 1 + 2 ^ (32 - c) * R) ?_ ?_
  · rw [h1, show (4294967296 : Nat) ^ k = 2 ^ (32 * k) by rw [Nat.pow_mul], Nat.pow_add, Nat.mul_assoc]
    congr 1
    have e : (4294967296 : Nat) = 2 ^ c * 2 ^ (32 - c) := by rw [← Nat.pow_add, show c + (32 - c) = 32 by omega]
    rw [Nat.mul_add (2 ^ c) (2 * m + 1), ← Nat.mul_assoc (2 ^ c) (2 ^ (32 - c)) R, ← e]
  · obtain ⟨t, ht⟩ : ∃ t, 32 - c = 1 + t := ⟨31 - c, by omega⟩
    rw [ht, Nat.pow_add, Nat.pow_one, Nat.mul_assoc]
    omega

set_option maxHeartbeats 1000000 in
theorem nzeros_any (A : Option Addr) (n c : Nat) (xs : List Nat) (w : World) (h : Wds w A n c xs) (hn : n ≤ 1099511627776) (hT : Tab w) :
    Calls Tryz.prog 83 #[.slice A n c] w fun e w' => e = .returned (.int .i64 (tz (nv xs) : Nat)) ∧ w = w' := by
  have hlen := h.len
  have HTZ := Lib.hid (fun x hx hx0 => tz32_any x hx hx0 w hT)
  obtain ⟨Z, hZ⟩ : ∃ Z, Z = tz (nv xs) := ⟨_, rfl⟩
  have HZ := Lib.hid hZ
  rw [← hZ]
  clear hZ hT
  go_enter Tryz.func83, Tryz.ntmps83
  go_wp2
  go_loop [7] (fun iv => ∃ k : Nat, k ≤ n ∧ iv = .int .i64 (k : Int) ∧ Hid (nv (xs.take k) = 0)) (fun iv => n - (intOf iv).toNat)
  case atStart => exact ⟨0, by omega, rfl, Lib.hid (by simp [nv])⟩
  case round =>
    obtain ⟨k, hk, rfl, hz⟩ := hrel
    by_cases hkn : k < n
    · obtain ⟨ad, hx, rfl, hb, hc⟩ := h.at_ (k := k) hkn
      have hX := h.ws.get hx
      have hsucc := Lib.hid (nv_take_succ hx)
      by_cases hx0 : xs[k] = 0
      · have hz2 : Hid (nv (xs.take (k + 1)) = 0) := Lib.hid (by rw [hsucc.out, hz.out, hx0]; simp)
        rw [hx0] at hc
        clear hx0 hsucc hX
        go_wp2
        go_round
        case rel => exact ⟨k + 1, by omega, by go_num, hz2⟩
        case measure => simp [intOf]; omega
      · have hq : ((xs[k] : Int) != 0) = true := by rw [bne_iff_ne]; omega
        have HX := Lib.hid (HTZ.out xs[k] hX hx0)
        have HE := Lib.hid (tz_at h.ws hx hz.out hx0)
        have hcb : Lib.ctz 32 xs[k] < 32 := (Lib.lowest_bit 32 xs[k] hx0 hX).2
        obtain ⟨X, hXX⟩ : ∃ X, X = xs[k] := ⟨_, rfl⟩
        rw [← hXX] at hc hq HX HE hcb
        obtain ⟨q, hqq⟩ : ∃ q, q = Lib.ctz 32 X := ⟨_, rfl⟩
        rw [← hqq] at HX HE hcb
        clear hXX hqq hx0 hsucc hX
        go_wp2_with (go_at_call 106; refine HX.out.mono ?_; rintro e w' ⟨rfl, rfl⟩)
        go_ret
        exact ⟨ret_int (by rw [HZ.out, HE.out]; push_cast; rfl), rfl⟩
    · have hke : k = n := by omega
      subst hke
      have hz0 : Z = 0 := by
        rw [HZ.out]
        have := hz.out
        rw [← hlen, List.take_length] at this
        rw [this]
        rfl
      have HZ0 := Lib.hid hz0
      clear hz0
      go_wp2
      go_ret
      exact ⟨ret_int (by rw [HZ0.out]; rfl), rfl⟩

/-- Is the power below 0? -/
def pwS (s : Bool) (m : Nat) : Bool := s && decide (m % 2 = 1)
theorem cn_ok {r V : Nat} (h : r = V) (h1 : cn V = V) : cn r = V := by rw [h, h1]

set_option maxHeartbeats 2000000 in
theorem rpower_p (d : Int) (s : Bool) (A : Option Addr) (l c : Nat) (sig : Nat) (E : Int) (m : Nat) (w : World) (h : Wds w A l c (nd sig)) (hT : Tab w) (hsg : sig < 9007199254740992) (hE1 : -1074 ≤ E) (hE2 : E ≤ 972) (hm1 : 1 ≤ m) (hm2 : m ≤ 1024) :
    Calls Tryz.prog 57 #[.int .i64 d, .agg #[.bool s, .slice A l c, .int .i64 E], .int .i64 (m : Int)] w (RetFl (ofR d (pwS s m) ((sig / 2 ^ tz sig) ^ m) ((E + tz sig) * m)) w) := by
  have hbl : bl sig ≤ 53 := by rw [bl_le_iff]; have : (2 : Nat) ^ 53 = 9007199254740992 := by decide
                               omega
  have hnw : nw sig ≤ 2 := by have := nw_bl sig; omega
  have hl : l = nw sig := by have := h.len; rw [nd_length] at this; omega
  have htz : tz sig ≤ 53 := by
    by_cases h0 : sig = 0
    · rw [h0]; decide
    · have := tz_lt h0; omega
  have HZE : Hid (∀ w, Wds w A l c (nd sig) → Tab w → Calls Tryz.prog 83 #[.slice A l c] w fun e w' => e = .returned (.int .i64 (tz sig : Nat)) ∧ w = w') := Lib.hid (fun w h hT => by
    have := nzeros_any A l c (nd sig) w h (by omega) hT
    rwa [nv_nd] at this)
  have HSH : Hid (∀ w, Wds w A l c (nd sig) → Calls Tryz.prog 84 #[.slice A l c, .int .i64 (tz sig : Int)] w (RetWBE (sig / 2 ^ tz sig) (lostB sig (tz sig)) 0 w)) := Lib.hid (fun w h => by
    have := nshr_any A l c (nd sig) (tz sig) w h (by omega) (by omega) (by rw [nv_nd]; omega)
    rwa [nv_nd] at this)
  obtain ⟨z, hz⟩ : ∃ z, z = tz sig := ⟨_, rfl⟩
  obtain ⟨O, hO0⟩ : ∃ O, O = sig / 2 ^ tz sig := ⟨_, rfl⟩
  have hOb : bl O ≤ 53 := by
    rw [hO0]
    exact Nat.le_trans (bl_mono (Nat.div_le_self _ _)) hbl
  rw [← hO0] at HSH ⊢
  rw [← hz] at HZE HSH htz ⊢
  have HPW : Hid (∀ (A2 : Option Addr) (l2 c2 : Nat) w, Wds w A2 l2 c2 (nd O) → Calls Tryz.prog 85 #[.slice A2 l2 c2, .int .i64 (m : Int)] w (RetWE (O ^ m) 0 w)) := Lib.hid (fun A2 l2 c2 w h2 => by
    have h3 := h2.len
    rw [nd_length] at h3
    have h4 : nw O ≤ 2 := by have := nw_bl O; omega
    have h5 : bl O * m ≤ 53 * 1024 := Nat.mul_le_mul hOb hm2
    have := npow_any A2 l2 c2 (nd O) m w h2 (by omega) (by omega) (by rw [nv_nd]; omega) (by rw [nv_nd]; omega)
    rwa [nv_nd] at this)
  have hbp : nw (O ^ m) ≤ 4000 := by
    have h1 := lt_pow_bl O
    have h2 : O ^ m ≤ (2 ^ 53) ^ m := Nat.pow_le_pow_left (Nat.le_trans (Nat.le_of_lt h1) (Nat.pow_le_pow_right (by omega) hOb)) m
    rw [← Nat.pow_mul] at h2
    have h3 : 53 * m ≤ 54272 := by omega
    obtain ⟨T, hT'⟩ : ∃ T : Nat, T = 54273 := ⟨_, rfl⟩
    have h4 : bl (O ^ m) ≤ T := by
      rw [bl_le_iff]
      have h5 : 2 ^ (53 * m) < 2 ^ T := Nat.pow_lt_pow_right (by omega) (by omega)
      omega
    have := nw_bl (O ^ m)
    omega
  obtain ⟨V, hV⟩ : ∃ V, V = O ^ m := ⟨_, rfl⟩
  rw [← hV] at HPW hbp ⊢
  obtain ⟨F, hF⟩ : ∃ F : Int, F = (E + z) * m := ⟨_, rfl⟩
  have hFb : -1099776 ≤ F ∧ F ≤ 1126400 := by
    have a1 := Int.mul_le_mul_of_nonneg_right (show E + (z : Int) ≤ 1025 by omega) (show (0 : Int) ≤ (m : Int) by omega)
    have a2 := Int.mul_le_mul_of_nonneg_right (show -1074 ≤ E + (z : Int) by omega) (show (0 : Int) ≤ (m : Int) by omega)
    rw [← hF] at a1 a2
    omega
  have hWF : IntKind.i64.wrap ((E + (z : Int)) * (m : Int)) = F := by
    rw [← hF]
    simp [IntKind.wrap, IntKind.bits, IntKind.signed]
    omega
  have HOF : Hid (∀ (A2 : Option Addr) (l2 c2 : Nat) (t : Bool) w, Wds w A2 l2 c2 (nd V) → Calls Tryz.prog 87 #[.int .i64 d, .bool t, .slice A2 l2 c2, .int .i64 F] w (RetFl (ofR d t V F) w)) := Lib.hid (fun A2 l2 c2 t w h2 => by
    have h3 := h2.len
    rw [nd_length] at h3
    have := rof_any d t A2 l2 c2 (nd V) F w h2 (by omega)
    rwa [nv_nd] at this)
  rw [← hF]
  have hm3 : decide ((m : Int) < 0) = false := decide_eq_false (by omega)
  obtain ⟨par, hpar⟩ : ∃ b, b = decide (m % 2 = 1) := ⟨_, rfl⟩
  have hq : ((m : Int) % 2 == 1) = par := by
    rw [hpar, Bool.eq_iff_iff, beq_iff_eq, decide_eq_true_eq]
    omega
  have hps : pwS s m = (s && par) := by unfold pwS; rw [hpar]
  rw [hps]
  have hO := (Own.start w).add h
  have hf : True := trivial
  have hT' := hT
  clear h hz hO0 hV hF hpar hps hbl hnw hsg hOb hbp hl hT
  cases s
  all_goals
    go_enter Tryz.func57, Tryz.ntmps57
    go_wp2_with (first | ((with_reducible refine at_box ?_); (first | refine own_box (cs := [.bool false, .slice A l c, .int .i64 E]) hO rfl rfl ?_ | refine own_box (cs := [.bool true, .slice A l c, .int .i64 E]) hO rfl rfl ?_); clear hO; intro ga wa hO; clear hf; have hf := hO.cells; simp only [BC, CC, Nat.zero_add, Nat.reduceAdd, and_true] at hf))
    refine (HZE.out _ (hO.wd 0 rfl) (hT'.ext hO.toExt)).mono ?_
    rintro e w' ⟨rfl, rfl⟩
    go_wp2_with fail
    refine (HSH.out _ (hO.wd 0 rfl)).mono ?_
    rintro e w2 ⟨A2, l2, c2, rfl, hW2, hE2⟩
    have hO := (hO.ext hE2).add hW2
    clear hW2 hE2
    clear hf
    have hf := hO.cells
    simp only [BC, CC, Nat.zero_add, Nat.reduceAdd, and_true] at hf
    go_wp2_with fail
    refine (HPW.out _ _ _ _ (hO.wd 0 rfl)).mono ?_
    rintro e w3 ⟨A3, l3, c3, rfl, hW3, hE3⟩
    have hO := (hO.ext hE3).add hW3
    clear hW3 hE3
    clear hf
    have hf := hO.cells
    simp only [BC, CC, Nat.zero_add, Nat.reduceAdd, and_true] at hf
    go_wp2_with fail
    refine (HOF.out _ _ _ _ _ (hO.wd 0 rfl)).mono ?_
    rintro e w4 ⟨r, rfl, hr, hc, hE4⟩
    go_wp2
    go_ret
    exact ⟨r, rfl, hr, by first | exact hc | simpa using hc, hO.toExt.trans hE4⟩
end Go.Proofs.YtadijoeeaineaaaGreatDoor

/-
  Plain: what Add answers, by its roads; + where an operand is no number. Conditions: those that each theorem names.
-/
set_option linter.unusedVariables false
set_option linter.unusedSimpArgs false
namespace Go.Proofs.YtadijoeeaineaaaGreatDoor
open Nm Rn
/-- The sign and the size of a sum of P and Q with signs. -/
def aNeg (n m : Bool) (P Q : Nat) : Bool := if n = m then n else if Q ≤ P then n else m
def aMag (n m : Bool) (P Q : Nat) : Nat := if n = m then P + Q else if Q ≤ P then P - Q else Q - P
theorem sn_sum (n m : Bool) (P Q : Nat) : sn (aNeg n m P Q) (aMag n m P Q) = sn n P + sn m Q := by
  unfold aNeg aMag
  by_cases h : n = m
  · rw [if_pos h, if_pos h, h]
    unfold sn
    cases m
    · simp
    · simp only [if_true]; omega
  · rw [if_neg h, if_neg h]
    by_cases hle : Q ≤ P
    · rw [if_pos hle, if_pos hle]
      unfold sn
      cases n <;> cases m
      · exact absurd rfl h
      · simp only [if_true, Bool.false_eq_true, if_false]; omega
      · simp only [if_true, Bool.false_eq_true, if_false]; omega
      · exact absurd rfl h
    · rw [if_neg hle, if_neg hle]
      unfold sn
      cases n <;> cases m
      · exact absurd rfl h
      · simp only [if_true, Bool.false_eq_true, if_false]; omega
      · simp only [if_true, Bool.false_eq_true, if_false]; omega
      · exact absurd rfl h
end Go.Proofs.YtadijoeeaineaaaGreatDoor
namespace Go.Proofs.YtadijoeeaineaaaGreatDoor.Rn
open Nm
/-- The document's sum. -/
theorem add_ref (d : Int) (x y : Nat) {n m : Bool} (hn : n = (sg x && decide (mg x ≠ 0))) (hm : m = (sg y && decide (mg y ≠ 0))) :
    rnd d (aNeg n m (fbN x * fbD y) (fbN y * fbD x) && decide (aMag n m (fbN x * fbD y) (fbN y * fbD x) ≠ 0)) (zr (fracN (aMag n m (fbN x * fbD y) (fbN y * fbD x)) (fbD x * fbD y) 0) (fracD (aMag n m (fbN x * fbD y) (fbN y * fbD x)) (fbD x * fbD y) 0)) = rT d ((sv x + sv y) * (K74 : Int)) := by
  have hp : 0 < fbD x * fbD y := Nat.mul_pos (fbD_pos x) (fbD_pos y)
  obtain ⟨X, hX⟩ : ∃ X, X = aMag n m (fbN x * fbD y) (fbN y * fbD x) := ⟨_, rfl⟩
  obtain ⟨z, hz⟩ : ∃ z, z = aNeg n m (fbN x * fbD y) (fbN y * fbD x) := ⟨_, rfl⟩
  have hs := sn_sum n m (fbN x * fbD y) (fbN y * fbD x)
  rw [← hX, ← hz] at hs ⊢
  have h1 := sn_frac (neg := z) (n := X) (d := fbD x * fbD y) (e := 0) (p := 0) (q := 0) rfl
  rw [hs, ← sn_mul, ← sn_mul] at h1
  have h2 := fb_sv x
  have h3 := fb_sv y
  rw [← hn] at h2
  rw [← hm] at h3
  refine rT_rat (fracD_pos _ (by omega)) ?_
  obtain ⟨F, hF⟩ : ∃ F, F = sn (z && decide (X ≠ 0)) (fracN X (fbD x * fbD y) 0) := ⟨_, rfl⟩
  obtain ⟨G, hG⟩ : ∃ G, G = fracD X (fbD x * fbD y) 0 := ⟨_, rfl⟩
  rw [← hF, ← hG] at h1 ⊢
  obtain ⟨a, ha⟩ : ∃ a, a = sn n (fbN x) := ⟨_, rfl⟩
  obtain ⟨b, hb⟩ : ∃ b, b = sn m (fbN y) := ⟨_, rfl⟩
  rw [← ha, ← hb] at h1
  rw [← ha] at h2
  rw [← hb] at h3
  have hpi : (0 : Int) < ((fbD x * fbD y : Nat) : Int) := by omega
  refine Int.eq_of_mul_eq_mul_right (Int.ne_of_gt hpi) ?_
  have e1 : ((fbD x * fbD y * 2 ^ 0 : Nat) : Int) = ((fbD x * fbD y : Nat) : Int) := by simp
  have e2 : ((2 ^ 0 * G : Nat) : Int) = (G : Int) := by simp
  rw [e1, e2] at h1
  have e3 : F * ((K74 * K74 : Nat) : Int) * ((fbD x * fbD y : Nat) : Int) = (a * K74) * (fbD y) * K74 * G + (b * K74) * (fbD x) * K74 * G := by
    rw [Int.mul_right_comm, h1, Int.add_mul, Int.add_mul]
    push_cast
    simp only [Int.mul_assoc, Int.mul_comm, Int.mul_left_comm]
  rw [e3, h2, h3, Int.add_mul, Int.add_mul, Int.add_mul]
  push_cast
  simp only [Int.mul_assoc, Int.mul_comm, Int.mul_left_comm]

/-- A whole number of units 2^-2148. -/
def un (neg : Bool) (V : Nat) (e : Int) : Int := sn neg V * ((2 ^ (e + 2148).toNat : Nat) : Int)
theorem part_un (b : Nat) : un (sg b) (fbSig b) (fbExp b) = sv b * (K74 : Int) := by
  unfold un
  have h := fbExp_lo b
  obtain ⟨c, hc⟩ : ∃ c, c = 1074 := ⟨_, rfl⟩
  have e : (fbExp b + 2148).toNat = (fbExp b + 1074).toNat + c := by omega
  have hK : ((K74 : Nat) : Int) = ((2 ^ c : Nat) : Int) := by rw [hc, K74_def]
  rw [e, ← part_sv, Int.mul_assoc, hK, pow_add_]
  push_cast
  rfl
/-- The exact road's answer. -/
theorem un_exact (d : Int) {neg : Bool} {V : Nat} {e T : Int} (he : -2148 ≤ e) (h : un neg V e = T) : rnd d neg (zd (2 * V) (e - 1)) = rT d T := by
  unfold un at h
  refine rT_dy (A := (e + 2148).toNat) (B := 0) (by omega) ?_
  rw [h]; simp

theorem inf_cases {b : Nat} (hb : b < 18446744073709551616) (h : mg b = infR) : b = infP (sg b) := by
  have := split_pat hb
  rw [h] at this
  unfold infP
  cases hs : sg b
  · rw [hs] at this; simpa using this
  · rw [hs] at this
    rw [infR_val] at this
    rw [minf_val, if_pos rfl]
    simpa using this
/-- A sum with an operand that is no number. -/
theorem add_odd {x y : Nat} (hx : x < 18446744073709551616) (hy : y < 18446744073709551616) (h : (isNaN x || isInf x || (isNaN y || isInf y)) = true) :
    (Ieee.double.add x y = none ∧ ∀ d, addR d x y = NaNc) ∨ ∃ s, Ieee.double.add x y = some (infP s) ∧ ∀ d, addR d x y = infP s := by
  unfold addR Ieee.Format.add
  rcases kind x with ⟨n1, i1, k1⟩ | ⟨n1, i1, k1⟩ | ⟨n1, i1, k1⟩
  · left
    rw [read_nan hx k1, n1]
    exact ⟨rfl, fun d => rfl⟩
  · rcases kind y with ⟨n2, i2, k2⟩ | ⟨n2, i2, k2⟩ | ⟨n2, i2, k2⟩
    · left
      rw [read_nan hy k2, read_inf hx k1, n2, n1]
      exact ⟨rfl, fun d => rfl⟩
    · rw [read_inf hy k2, read_inf hx k1, n1, n2, i1, i2]
      have ex := inf_cases hx k1
      have ey := inf_cases hy k2
      by_cases hs : sg x = sg y
      · right
        have hxy : x = y := by rw [ex, ey, hs]
        refine ⟨sg x, ?_, fun d => ?_⟩
        · show Option.map _ (if sg x = sg y then some _ else none) = _
          rw [if_pos hs]
          show some (Ieee.double.write _) = _
          rw [write_inf]
        · rw [decide_eq_false (show ¬ x ≠ y from fun h => h hxy)]
          exact ex
      · left
        have hxy : x ≠ y := fun h => hs (by rw [h])
        refine ⟨?_, fun d => ?_⟩
        · show Option.map _ (if sg x = sg y then some _ else none) = _
          rw [if_neg hs]; rfl
        · rw [decide_eq_true hxy]; rfl
    · right
      obtain ⟨m, e, hr, -, hv⟩ := read_fin hy k2
      rw [hr, read_inf hx k1, n1, n2, i1, i2]
      refine ⟨sg x, ?_, fun d => inf_cases hx k1⟩
      show some (Ieee.double.write _) = _
      rw [write_inf]
  · rcases kind y with ⟨n2, i2, k2⟩ | ⟨n2, i2, k2⟩ | ⟨n2, i2, k2⟩
    · left
      obtain ⟨m, e, hr, -, hv⟩ := read_fin hx k1
      rw [read_nan hy k2, hr, n2, n1]
      exact ⟨rfl, fun d => rfl⟩
    · right
      obtain ⟨m, e, hr, -, hv⟩ := read_fin hx k1
      rw [hr, read_inf hy k2, n1, n2, i1, i2]
      refine ⟨sg y, ?_, fun d => inf_cases hy k2⟩
      show some (Ieee.double.write _) = _
      rw [write_inf]
    · rw [n1, n2, i1, i2] at h
      cases h
end Go.Proofs.YtadijoeeaineaaaGreatDoor.Rn

/-
  Plain: what the difference of two ratios is, and how long. Conditions: those that each theorem names.
-/
set_option linter.unusedVariables false
set_option linter.unusedSimpArgs false
namespace Go.Proofs.YtadijoeeaineaaaGreatDoor.Rn
open Nm

/-- What RSub answers: its sign, its magnitude. -/
def sbS (n m : Bool) (N D N' D' : Nat) : Bool := aNeg n (!m && decide (N' ≠ 0)) (N * D') (N' * D) && decide (aMag n (!m && decide (N' ≠ 0)) (N * D') (N' * D) ≠ 0)
def sbN (n m : Bool) (N D N' D' : Nat) : Nat := fracN (aMag n (!m && decide (N' ≠ 0)) (N * D') (N' * D)) (D * D') 0
def sbD (n m : Bool) (N D N' D' : Nat) : Nat := fracD (aMag n (!m && decide (N' ≠ 0)) (N * D') (N' * D)) (D * D') 0
theorem sn_turn (m : Bool) (N : Nat) : sn (!m && decide (N ≠ 0)) N = -sn m N := by
  unfold sn
  by_cases h : N = 0
  · subst h; cases m <;> simp
  · rw [decide_eq_true h, Bool.and_true]; cases m <;> simp
theorem sub_val (n m : Bool) {N D N' D' : Nat} (hD : 0 < D) (hD' : 0 < D') : 0 < sbD n m N D N' D' ∧ sn (sbS n m N D N' D') (sbN n m N D N' D') * ((D : Int) * (D' : Int)) = (sn n N * (D' : Int) - sn m N' * (D : Int)) * (sbD n m N D N' D' : Int) := by
  have hp : 0 < D * D' := Nat.mul_pos hD hD'
  refine ⟨fracD_pos _ (by omega), ?_⟩
  unfold sbS sbN sbD
  have hs := sn_sum n (!m && decide (N' ≠ 0)) (N * D') (N' * D)
  obtain ⟨X, hX⟩ : ∃ X, X = aMag n (!m && decide (N' ≠ 0)) (N * D') (N' * D) := ⟨_, rfl⟩
  obtain ⟨z, hz⟩ : ∃ z, z = aNeg n (!m && decide (N' ≠ 0)) (N * D') (N' * D) := ⟨_, rfl⟩
  rw [← hX, ← hz] at hs ⊢
  have h1 := sn_frac (neg := z) (n := X) (d := D * D') (e := 0) (p := 0) (q := 0) rfl
  rw [hs, ← sn_mul, ← sn_mul, sn_turn] at h1
  have e1 : ((D * D' * 2 ^ 0 : Nat) : Int) = (D : Int) * (D' : Int) := by simp
  have e2 : ((2 ^ 0 * fracD X (D * D') 0 : Nat) : Int) = (fracD X (D * D') 0 : Int) := by simp
  rw [e1, e2, Int.neg_mul] at h1
  rw [h1, Int.sub_eq_add_neg]

theorem fracN_le_z (n d : Nat) : fracN n d 0 ≤ n := by
  unfold fracN
  split
  · omega
  · have h1 : ((0 : Int) + tz n - tz d).toNat ≤ tz n := by omega
    have h2 := Nat.pow_le_pow_right (n := 2) (by omega) h1
    have h3 := Nat.mul_le_mul_left (n / 2 ^ tz n) h2
    rwa [tz_div] at h3
theorem fracD_le_z {n d : Nat} (hd : d ≠ 0) : fracD n d 0 ≤ d := by
  unfold fracD
  split
  · omega
  · have h1 : (-((0 : Int) + tz n - tz d)).toNat ≤ tz d := by omega
    have h2 := Nat.pow_le_pow_right (n := 2) (by omega) h1
    have h3 := Nat.mul_le_mul_left (d / 2 ^ tz d) h2
    rwa [tz_div] at h3
/-- Sizes. -/
theorem sb_nw {n m : Bool} {N D N' D' b : Nat} (hD : 0 < D) (hD' : 0 < D') (h1 : nw N ≤ b) (h2 : nw D ≤ b) (h3 : nw N' ≤ b) (h4 : nw D' ≤ b) : nw (sbN n m N D N' D') ≤ 2 * b + 1 ∧ nw (sbD n m N D N' D') ≤ 2 * b := by
  have nm2 : ∀ a c : Nat, nw (a * c) ≤ nw a + nw c := fun a c => by
    refine (nw_le_iff _ _).2 ?_
    rw [Nat.pow_add]
    exact Nat.mul_lt_mul'' (lt_pow_nw a) (lt_pow_nw c)
  have hp : 0 < D * D' := Nat.mul_pos hD hD'
  have a1 := nm2 N D'
  have a2 := nm2 N' D
  have a3 := nm2 D D'
  constructor
  · unfold sbN
    refine Nat.le_trans (nw_mono (fracN_le_z _ _)) ?_
    have hm : aMag n (!m && decide (N' ≠ 0)) (N * D') (N' * D) ≤ N * D' + N' * D := by unfold aMag; split; omega; split <;> omega
    refine Nat.le_trans (nw_mono hm) ?_
    refine (nw_le_iff _ _).2 ?_
    have b1 := lt_pow_nw (N * D')
    have b2 := lt_pow_nw (N' * D)
    have c1 : 4294967296 ^ nw (N * D') ≤ 4294967296 ^ (2 * b) := Nat.pow_le_pow_right (by omega) (by omega)
    have c2 : 4294967296 ^ nw (N' * D) ≤ 4294967296 ^ (2 * b) := Nat.pow_le_pow_right (by omega) (by omega)
    rw [Nat.pow_succ]
    omega
  · unfold sbD
    exact Nat.le_trans (nw_mono (fracD_le_z (show D * D' ≠ 0 by omega))) (by omega)
end Go.Proofs.YtadijoeeaineaaaGreatDoor.Rn

/-
  The contracts of the document's powers of ratios of either sign. Conditions: those that each theorem names.
-/
namespace Go.Proofs.YtadijoeeaineaaaGreatDoor
open Go.RowKit Nm Rn
set_option maxRecDepth 100000
set_option linter.unusedVariables false
set_option linter.unusedSimpArgs false

set_option maxHeartbeats 2000000 in
theorem rpown_any (A : Option Addr) (l c : Nat) (B : Option Addr) (k d N D e : Nat) (w : World) (h : RatAt w A l c B k d N D) (he : e ≤ 1024) (bN : bl N ≤ 3000) (bD : bl D ≤ 3000) (hD : 0 < D) :
    Calls Tryz.prog 93 #[.agg #[.bool true, .slice A l c, .slice B k d], .int .i64 (e : Int)] w (RetR (decide (e % 2 = 1) && decide (N ^ e ≠ 0)) (fracN (N ^ e) (D ^ e) 0) (fracD (N ^ e) (D ^ e) 0) w) := by
  have hl := h.lenN
  have hk := h.lenD
  have hO := ((Own.start w).add h.1).add h.2
  have hsz : ∀ V, bl V ≤ 3000 → nw V ≤ 100 ∧ nw ((V + 1) ^ e) ≤ 1000000 ∧ nw (V ^ e) ≤ 1000000 := fun V hV => by
    have h1 := nw_bl V
    obtain ⟨T, hT⟩ : ∃ T, T = 3001 := ⟨_, rfl⟩
    have h2 : (V + 1) ≤ 2 ^ T := by
      have h3 := lt_pow_bl V
      have h4 : 2 ^ bl V ≤ 2 ^ T := Nat.pow_le_pow_right (by omega) (by omega)
      omega
    have h5 := nw_pow_le (n := e) h2
    have h6 : nw (V ^ e) ≤ nw ((V + 1) ^ e) := nw_mono (Nat.pow_le_pow_left (by omega) e)
    rw [hT] at h5
    omega
  obtain ⟨s1, s2, s3⟩ := hsz N bN
  obtain ⟨t1, t2, t3⟩ := hsz D bD
  have hT1 := fun w h => power_any A l c (nd N) e w h (by omega) (by omega) (by rw [nv_nd]; exact s2)
  have hT2 := fun w h => power_any B k d (nd D) e w h (by omega) (by omega) (by rw [nv_nd]; exact t2)
  have hp : 0 < D ^ e := Nat.pow_pos hD
  have hFR := fun A n1 c B n2 d w (h : Wds w A n1 c (nd (N ^ e))) (k : Wds w B n2 d (nd (D ^ e))) => frac_any (decide (e % 2 = 1)) A n1 c (nd (N ^ e)) B n2 d (nd (D ^ e)) 0 w h (by have := h.len; rw [nd_length] at this; omega) k (by have := k.len; rw [nd_length] at this; omega) (by omega) (by omega) (by rw [nv_nd]; exact hp)
  simp only [nv_nd] at hT1 hT2 hFR
  obtain ⟨P, hP⟩ : ∃ P, P = N ^ e := ⟨_, rfl⟩
  obtain ⟨Q, hQ⟩ : ∃ Q, Q = D ^ e := ⟨_, rfl⟩
  rw [← hP] at hT1 hFR ⊢
  rw [← hQ] at hT2 hFR ⊢
  obtain ⟨par, hpar⟩ : ∃ b, b = decide (e % 2 = 1) := ⟨_, rfl⟩
  rw [← hpar] at hFR ⊢
  obtain ⟨R, hR⟩ : ∃ b, b = (par && decide (P ≠ 0)) := ⟨_, rfl⟩
  rw [← hR] at hFR ⊢
  have hq : ((e : Int) % 2 == 1) = par := by
    rw [hpar, Bool.eq_iff_iff, beq_iff_eq, decide_eq_true_eq]
    omega
  have HT1 := Lib.hid hT1
  have HT2 := Lib.hid hT2
  have HFR := Lib.hid hFR
  clear hT1 hT2 hFR hP hQ hpar hR h hl hk hsz s1 s2 s3 t1 t2 t3 bN bD hD hp
  go_enter Tryz.func93, Tryz.ntmps93
  go_wp2_with (first
    | (refine own_box (cs := [.bool true, .slice A l c, .slice B k d]) hO rfl rfl ?_; clear hO; intro ga wa hO)
    | (refine own_alloc hO zero_rat rfl rfl ?_; clear hO; intro g w1 hO))
  obtain ⟨S, hS⟩ : ∃ S : World → Prop, S = Own w [⟨g, 40, [.bool false, .slice none 0 0, .slice none 0 0]⟩, ⟨ga, 40, [.bool true, .slice A l c, .slice B k d]⟩] [⟨B, k, d, nd D⟩, ⟨A, l, c, nd N⟩] := ⟨_, rfl⟩
  have hSE : ∀ w w', S w → Ext w w' → S w' := fun w w' h1 h2 => by rw [hS] at h1 ⊢; exact h1.ext h2
  have hS1 : S w1.drew := by rw [hS]; exact hO.ext (Ext.refl w1).drew
  have HS := Lib.hid hS
  clear hS hO
  obtain ⟨sp, hsp⟩ : ∃ sp : Nat → Sp, sp = ofList [det (.pointer (some ⟨ga, 0, none⟩)), det (.bool true), det (.bool true), det (.int .i64 (e : Int)), det (.int .i64 ((e : Int) % 2)), det (.bool par), det (.bool par),
    det (.pointer (some ⟨ga, 1, none⟩)), det (.slice A l c), det (.int .i64 (e : Int)), anyOf (fun v wz => ∃ A1 n1 c1, v = .slice A1 n1 c1 ∧ Wds wz A1 n1 c1 (nd P)),
    det (.pointer (some ⟨ga, 2, none⟩)), det (.slice B k d), det (.int .i64 (e : Int)), anyOf (fun v wz => ∃ A1 n1 c1, v = .slice A1 n1 c1 ∧ Wds wz A1 n1 c1 (nd Q)),
    anyOf (fun v wz => ∃ A1 n1 c1 A2 n2 c2, v = .agg #[.bool R, .slice A1 n1 c1, .slice A2 n2 c2] ∧ RatAt wz A1 n1 c1 A2 n2 c2 (fracN P Q 0) (fracD P Q 0))] := ⟨_, rfl⟩
  have HSP := Lib.hid hsp
  clear hsp
  refine wp_region_loose 16 S sp (by kernel_rfl) (by kernel_rfl) hS1 hSE ?_
  simp only [List.take_succ_cons, List.take_zero, List.drop_succ_cons, List.drop_zero]
  iterate 15
    refine wpX_step (fun K hK => ?_)
    go_simp
    first
    | (refine ⟨by rw [HSP.out]; rfl, hK _ _ ?_⟩
       clear hK K)
    | (refine StepY.det (by rw [HSP.out]; rfl) ?_ ?_
       · intro wz hz hF
         rw [HS.out] at hz
         have hf := hz.facts
         simp only [BF, CF, Nat.zero_add, Nat.reduceAdd, and_true] at hf
         clear hz hF
         go_simp
         exact ⟨rfl, Ext.refl _⟩
       refine hK _ _ ?_
       clear hK K)
    | (refine StepY.any (by rw [HSP.out]; rfl) ?_ ?_
       · intro wz hz hF
         rw [HS.out] at hz
         have h1 := hz.wd 1 rfl
         have h2 := hz.wd 0 rfl
         clear hz
         go_simp
         go_at_call 123
         first
         | (with_reducible refine (HT1.out _ h1).mono ?_)
         | (with_reducible refine (HT2.out _ h2).mono ?_)
         rintro e w2 ⟨A1, n1, c1, rfl, hW1, hE1⟩
         exact ⟨_, rfl, ⟨A1, n1, c1, rfl, hW1⟩, hE1⟩
       intro v
       refine hK _ _ ?_
       clear hK K)
  refine wpX_step (fun K hK => ?_)
  go_simp
  refine StepY.any (by rw [HSP.out]; rfl) ?_ ?_
  · intro wz hz hF
    obtain ⟨wa', ea, A1, n1, c1, hv1, hw1⟩ := hF.any 10 (by kernel_rfl) (by rw [HSP.out]; rfl)
    obtain ⟨wb', eb, A2, n2, c2, hv2, hw2⟩ := hF.any 14 (by kernel_rfl) (by rw [HSP.out]; rfl)
    clear hF
    simp only [asFun, List.nil_append, List.cons_append, List.getD_cons_succ, List.getD_cons_zero] at hv1 hv2
    subst hv1 hv2
    go_simp
    go_at_call 41
    refine (HFR.out _ _ _ _ _ _ _ (hw1.ext ea) (hw2.ext eb)).mono ?_
    rintro e w2 ⟨A3, n3, c3, A4, n4, c4, rfl, hW1, hW2, hE1⟩
    exact ⟨_, rfl, ⟨A3, n3, c3, A4, n4, c4, rfl, hW1, hW2⟩, hE1⟩
  intro v
  refine hK _ _ ?_
  clear hK K
  refine wpX_nil ?_
  intro w3 hz hF
  obtain ⟨w0, e0, A3, n3, c3, A4, n4, c4, hv, hw0⟩ := fact_any (hF 15 (by omega)) (by rw [HSP.out]; rfl)
  clear hF
  simp only [asFun, List.nil_append, List.cons_append, List.getD_cons_succ, List.getD_cons_zero] at hv
  subst hv
  rw [HS.out] at hz
  have hO := (hz.add (hw0.ext e0).1).add (hw0.ext e0).2
  clear hz hw0 e0
  go_wp2_with (refine own_store hO 0 rfl rfl rfl size_rat rfl rfl rfl ?_; clear hO; intro w4 hO)
  exact own_ret hO 0 rfl rfl rfl agg_rat size_rat rfl ⟨_, _, _, _, _, _, rfl, hO.wd 1 rfl, hO.wd 0 rfl, hO.toExt⟩

theorem fracN_le0 (n d : Nat) : fracN n d 0 ≤ n := by
  unfold fracN
  split
  · omega
  · have h1 : ((0 : Int) + tz n - tz d).toNat ≤ tz n := by omega
    have h2 := Nat.pow_le_pow_right (n := 2) (by omega) h1
    have h3 := Nat.mul_le_mul_left (n / 2 ^ tz n) h2
    rwa [tz_div] at h3
theorem fracD_le0 {n d : Nat} (hd : d ≠ 0) : fracD n d 0 ≤ d := by
  unfold fracD
  split
  · omega
  · have h1 : (-((0 : Int) + tz n - tz d)).toNat ≤ tz d := by omega
    have h2 := Nat.pow_le_pow_right (n := 2) (by omega) h1
    have h3 := Nat.mul_le_mul_left (d / 2 ^ tz d) h2
    rwa [tz_div] at h3
theorem nw_le_of {a b k : Nat} (h : a ≤ b) (hb : nw b ≤ k) : nw a ≤ k := (nw_le_iff _ _).2 (Nat.lt_of_le_of_lt h ((nw_le_iff _ _).1 hb))

theorem rpowb_any (s : Bool) (A : Option Addr) (l c : Nat) (B : Option Addr) (k d N D e : Nat) (w : World) (h : RatAt w A l c B k d N D) (he : e ≤ 1024) (bN : bl N ≤ 3000) (bD : bl D ≤ 3000) (hD : 0 < D) :
    Calls Tryz.prog 93 #[.agg #[.bool s, .slice A l c, .slice B k d], .int .i64 (e : Int)] w (RetR (pwS s e && decide (N ^ e ≠ 0)) (fracN (N ^ e) (D ^ e) 0) (fracD (N ^ e) (D ^ e) 0) w) := by
  unfold pwS
  cases s
  · rw [Bool.false_and, Bool.false_and]
    exact rpow_any A l c B k d N D e w h he bN bD hD
  · rw [Bool.true_and]
    exact rpown_any A l c B k d N D e w h he bN bD hD

theorem pow_sz {N D m : Nat} (hm : m ≤ 1024) (bN : bl N ≤ 3000) (bD : bl D ≤ 3000) (hD : 0 < D) : nw (fracN (N ^ m) (D ^ m) 0) ≤ 1000000 ∧ nw (fracD (N ^ m) (D ^ m) 0) ≤ 1000000 := by
  have hsz : ∀ V, bl V ≤ 3000 → nw (V ^ m) ≤ 1000000 := fun V hV => by
    obtain ⟨T, hT⟩ : ∃ T, T = 3001 := ⟨_, rfl⟩
    have h2 : V ≤ 2 ^ T := by
      have h3 := lt_pow_bl V
      have h4 : 2 ^ bl V ≤ 2 ^ T := Nat.pow_le_pow_right (by omega) (by omega)
      omega
    have h5 := nw_pow_le (n := m) h2
    rw [hT] at h5
    omega
  have h1 := nw_mono (fracN_le_z (N ^ m) (D ^ m))
  have h2 := nw_mono (fracD_le_z (n := N ^ m) (Nat.ne_of_gt (Nat.pow_pos (n := m) hD)))
  have h3 := hsz N bN
  have h4 := hsz D bD
  omega
theorem fr11 : fracN 1 1 0 = 1 ∧ fracD 1 1 0 = 1 := by decide
theorem quo_sz {P Q : Nat} (h1 : nw P ≤ 1000000) (h2 : nw Q ≤ 1000000) (hP : P ≠ 0) : nw (fracN (1 * Q) (1 * P) 0) ≤ 1073741824 ∧ nw (fracD (1 * Q) (1 * P) 0) ≤ 1073741824 := by
  rw [Nat.one_mul, Nat.one_mul]
  have h3 := nw_mono (fracN_le_z Q P)
  have h4 := nw_mono (fracD_le_z (n := Q) hP)
  omega

end Go.Proofs.YtadijoeeaineaaaGreatDoor
