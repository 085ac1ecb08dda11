/-
  Plain: the model's square root, and the root rounded in a direction. Conditions: those that each theorem names.
-/
import Derived.Test.YtfbjeifhpmdjaaaGreatP34
import Derived.Test.YtfbjeifhpmdjaaaGreatP17
import Derived.Test.YtfbjeifhpmdjaaaGreatP26
import Derived.Test.YtfbjeifhpmdjaaaGreatP22
import Derived.Test.YtfbjeifhpmdjaaaGreatP21
import Derived.Test.YtfbjeifhpmdjaaaGreatP19
import Derived.Test.YtfbjeifhpmdjaaaGreatP18
import Derived.Test.YtfbjeifhpmdjaaaGreatP29
set_option linter.unusedVariables false
set_option linter.unusedSimpArgs false
namespace Go.Proofs.YtfbjeifhpmdjaaaGreat.Rn
open Nm

theorem rootFrom_spec (n : Nat) : ∀ todo r : Nat, r * r ≤ n → n < (r + 2 ^ todo) * (r + 2 ^ todo) →
    Ieee.Datum.rootFrom n todo r * Ieee.Datum.rootFrom n todo r ≤ n ∧ n < (Ieee.Datum.rootFrom n todo r + 1) * (Ieee.Datum.rootFrom n todo r + 1)
  | 0, r, h1, h2 => by
    unfold Ieee.Datum.rootFrom
    rw [Nat.pow_zero] at h2
    exact ⟨h1, h2⟩
  | todo + 1, r, h1, h2 => by
    unfold Ieee.Datum.rootFrom
    simp only [Nat.one_shiftLeft]
    have e : r + 2 ^ (todo + 1) = r + 2 ^ todo + 2 ^ todo := by rw [Nat.pow_succ]; omega
    split
    · rename_i h
      exact rootFrom_spec n todo _ h (by rw [← e]; exact h2)
    · rename_i h
      exact rootFrom_spec n todo _ h1 (by omega)
theorem isqrt_spec {n : Nat} (hn : n ≠ 0) : Ieee.Datum.rootFrom n (n.log2 / 2 + 1) 0 * Ieee.Datum.rootFrom n (n.log2 / 2 + 1) 0 ≤ n ∧ n < (Ieee.Datum.rootFrom n (n.log2 / 2 + 1) 0 + 1) * (Ieee.Datum.rootFrom n (n.log2 / 2 + 1) 0 + 1) := by
  refine rootFrom_spec n _ 0 (by omega) ?_
  rw [Nat.zero_add, ← Nat.pow_add]
  have h := (log2_bounds hn).2
  exact Nat.lt_of_lt_of_le h (Nat.pow_le_pow_right (by omega) (by omega))

theorem sq_le_iff {W P r : Nat} (h1 : W * W ≤ P) (h2 : P < (W + 1) * (W + 1)) : r * r ≤ P ↔ r ≤ W := by
  constructor
  · intro h
    rcases Nat.lt_or_ge W r with h3 | h3
    · have := Nat.mul_le_mul (show W + 1 ≤ r from h3) (show W + 1 ≤ r from h3); omega
    · exact h3
  · intro h
    have := Nat.mul_le_mul h h; omega
theorem sq_lt_iff {W P r : Nat} (h1 : W * W ≤ P) (h2 : P < (W + 1) * (W + 1)) : r * r < P ↔ r < W ∨ (r = W ∧ W * W ≠ P) := by
  constructor
  · intro h
    have := (sq_le_iff h1 h2).1 (Nat.le_of_lt h)
    by_cases h3 : r = W
    · subst h3; exact .inr ⟨rfl, by omega⟩
    · exact .inl (by omega)
  · rintro (h | ⟨rfl, h⟩)
    · have h3 : r * r < W * W := Nat.mul_self_lt_mul_self h
      omega
    · omega

/-- The Z of a square root, to the last unit. -/
theorem sqrt_z {X : Nat} (hX : 0 < X) : ∃ Z, (∀ r, 4 * r ≤ Z ↔ r * r ≤ X * K74) ∧ (∀ r, 4 * r < Z ↔ r * r < X * K74) ∧ ∀ d, rootV d false X K74 2 = rnd d false Z := by
  obtain ⟨P, hP⟩ : ∃ P, P = X * K74 := ⟨_, rfl⟩
  have hP0 : P ≠ 0 := by rw [hP]; exact Nat.ne_of_gt (Nat.mul_pos hX K74_pos)
  obtain ⟨W, hW⟩ : ∃ W, W = Ieee.Datum.rootFrom P (P.log2 / 2 + 1) 0 := ⟨_, rfl⟩
  obtain ⟨w1, w2⟩ := isqrt_spec hP0
  rw [← hW] at w1 w2
  obtain ⟨o, ho⟩ : ∃ o, o = decide (W * W ≠ P) := ⟨_, rfl⟩
  have hat : RootAt X K74 2 1074 W o := by
    obtain ⟨c, hc, hK⟩ : ∃ c : Nat, c = 1074 ∧ K74 = 2 ^ c := ⟨1074, rfl, K74_def⟩
    have e1 : X * 2 ^ (c + c) = P * K74 := by rw [hP, hK, Nat.pow_add, Nat.mul_assoc]
    have e2 : ∀ R : Nat, R ^ 2 * (K74 * 2 ^ 0) = R * R * K74 := fun R => by rw [Nat.pow_succ, Nat.pow_one, Nat.pow_zero, Nat.mul_one]
    refine ⟨c + c, 0, by push_cast; omega, ?_, ?_, ?_⟩
    · rw [e1, e2]; exact Nat.mul_le_mul_right _ w1
    · rw [e1, e2]; exact Nat.mul_lt_mul_of_pos_right w2 K74_pos
    · rw [e1, e2, ho]
      refine decide_eq_decide.2 (not_congr ⟨fun h => by rw [h], fun h => Nat.eq_of_mul_eq_mul_right K74_pos h⟩)
  have hbl : 55 ≤ bl W := by
    rcases Nat.lt_or_ge (bl W) 55 with h | h
    · exfalso
      have h1 := lt_pow_bl W
      have h2 : 2 ^ bl W ≤ 2 ^ 54 := Nat.pow_le_pow_right (by omega) (by omega)
      have h3 := Nat.mul_le_mul (show W + 1 ≤ 2 ^ 54 by omega) (show W + 1 ≤ 2 ^ 54 by omega)
      have h4 : P ≥ K74 := by rw [hP]; exact Nat.le_mul_of_pos_left _ hX
      have h5 : (2 : Nat) ^ 54 * 2 ^ 54 ≤ K74 := by
        obtain ⟨c, hc, hK⟩ : ∃ c : Nat, c = 1074 ∧ K74 = 2 ^ c := ⟨1074, rfl, K74_def⟩
        rw [hK, ← Nat.pow_add]; exact Nat.pow_le_pow_right (by omega) (by omega)
      omega
    · exact h
  have hv := fun d => hat.val (by omega) K74_pos (fun _ => hbl) d false
  have hz : zd (2 * W + o.toNat) (-1074 - 1) = 2 * (2 * W + o.toNat) := by
    rw [zd_of (A := 0) (B := 0) (by omega), Nat.pow_zero, Nat.mul_one, zq_one]
  refine ⟨2 * (2 * W + o.toNat), fun r => ?_, fun r => ?_, fun d => by rw [← hv d, hz]⟩
  · rw [← hP, sq_le_iff w1 w2]
    have : o.toNat ≤ 1 := by cases o <;> simp
    omega
  · rw [← hP, sq_lt_iff w1 w2]
    by_cases h : W * W ≠ P
    · rw [ho, decide_eq_true h]; simp [h]; omega
    · rw [ho, decide_eq_false h]; simp [h]; omega

/-- The model's square root is the nearest. -/
theorem sqrt_fin {x : Nat} (hx : x < 18446744073709551616) (fx : mg x < infR) (hs : sg x = false) (h0 : mg x ≠ 0) :
    ∃ Z, Ieee.double.sqrt x = some (Ieee.double.word false (near Z)) ∧ (∀ r, 4 * r ≤ Z ↔ r * r ≤ rv (mg x) * K74) ∧ (∀ r, 4 * r < Z ↔ r * r < rv (mg x) * K74) ∧ ∀ d, rootV d false (rv (mg x)) K74 2 = rnd d false Z := by
  have hX : 0 < rv (mg x) := Nat.pos_of_ne_zero fun e => h0 (rv_eq_zero.1 e)
  obtain ⟨Z, z1, z2, z3⟩ := sqrt_z hX
  refine ⟨Z, ?_, z1, z2, z3⟩
  obtain ⟨m, i, e1, hi, v1⟩ := read_fin hx fx
  have hm : m ≠ 0 := by
    intro h
    rw [h, Nat.zero_mul] at v1
    omega
  unfold Ieee.Format.sqrt
  rw [e1, hs]
  simp only [Ieee.Datum.root, if_neg hm, Bool.false_eq_true, if_false, Option.map_some]
  congr 1
  unfold Ieee.Format.write
  simp only
  rw [nearest_eq, near_eq]
  congr 1
  have e3 : Ieee.double.fractionBits + 2 = 54 := rfl
  rw [e3]
  obtain ⟨m1, hm1⟩ : ∃ m1, m1 = 2 * 54 - m.log2 := ⟨_, rfl⟩
  rw [← hm1]
  obtain ⟨more, hmore⟩ : ∃ more, more = m1 + ((i - m1) % 2).toNat := ⟨_, rfl⟩
  rw [← hmore, Nat.shiftLeft_eq]
  have hn0 : m * 2 ^ more ≠ 0 := Nat.ne_of_gt (Nat.mul_pos (by omega) (two_pow_pos _))
  obtain ⟨w1, w2⟩ := isqrt_spec hn0
  obtain ⟨W, hW⟩ : ∃ W, W = Ieee.Datum.rootFrom (m * 2 ^ more) ((m * 2 ^ more).log2 / 2 + 1) 0 := ⟨_, rfl⟩
  rw [← hW] at w1 w2 ⊢
  have heven : (i - more) % 2 = 0 := by rw [hmore]; omega
  obtain ⟨e, he⟩ : ∃ e, e = (i - (more : Int)) / 2 := ⟨_, rfl⟩
  rw [← he]
  obtain ⟨U, hU⟩ : ∃ U : Nat, U = (i + 1074).toNat := ⟨_, rfl⟩
  rw [← hU] at v1
  have sq : ∀ R : Nat, R ^ 2 = R * R := fun R => by rw [Nat.pow_succ, Nat.pow_one]
  have hat := root_at (V := m) (k := more) (X := U) (N := 2) (r := W) (e := e) (x := i) (by rw [sq]; exact w1) (by rw [sq]; exact w2) (by omega) (by omega)
  rw [v1, sq] at hat
  have hb : 55 ≤ bl W := by
    rcases Nat.lt_or_ge (bl W) 55 with h | h
    · exfalso
      have h1 := lt_pow_bl W
      have h2 : 2 ^ bl W ≤ 2 ^ 54 := Nat.pow_le_pow_right (by omega) (by omega)
      have h3 := Nat.mul_le_mul (show W + 1 ≤ 2 ^ 54 by omega) (show W + 1 ≤ 2 ^ 54 by omega)
      have h4 := (log2_bounds hm).1
      have h5 : 2 ^ m.log2 * 2 ^ more ≤ m * 2 ^ more := Nat.mul_le_mul_right _ h4
      rw [← Nat.pow_add] at h5 h3
      have h6 : (2 : Nat) ^ (54 + 54) ≤ 2 ^ (m.log2 + more) := Nat.pow_le_pow_right (by omega) (by omega)
      omega
    · exact h
  have hv := hat.val (by omega) K74_pos (fun _ => hb) 0 false
  rw [z3 0] at hv
  have hmk : (W * W != m * 2 ^ more) = decide (W * W ≠ m * 2 ^ more) := by
    by_cases h : W * W = m * 2 ^ more
    · rw [h]; simp
    · rw [decide_eq_true h]; simpa using h
  rw [hmk]
  have hp : ∀ z, rnd 0 false z = near z := fun z => by
    unfold rnd pat near
    split
    · rename_i h; exact h.symm
    · rfl
  rw [hp, hp, Int.neg_neg] at hv
  exact hv
end Go.Proofs.YtfbjeifhpmdjaaaGreat.Rn

/-
  The contract of the program's own naturals: the square root. Conditions: those that each theorem names.
-/
namespace Go.Proofs.YtfbjeifhpmdjaaaGreat
open Go.RowKit Nm Rn
set_option maxRecDepth 100000
set_option linter.unusedVariables false
set_option linter.unusedSimpArgs false

noncomputable def rdNt (v : Value) (w : World) : Nat :=
  open Classical in
  if h : ∃ x A n c, v = .slice A n c ∧ Wds w A n c (nd x) then Classical.choose h else 0
theorem Wds.uniqt {w : World} {A : Option Addr} {n c : Nat} {xs ys : List Nat} (h : Wds w A n c xs) (k : Wds w A n c ys) : xs = ys := by
  have hl := h.len
  have kl := k.len
  refine List.ext_getElem? fun i => ?_
  by_cases hi : i < n
  · obtain ⟨-, -, -, -, h5⟩ := h
    obtain ⟨-, -, -, -, k5⟩ := k
    obtain ⟨a, ha, -, hc⟩ := h5 (by omega)
    obtain ⟨b, hb, -, kc⟩ := k5 (by omega)
    rw [ha] at hb
    injection hb with hb
    subst hb
    have e1 := hc i (xs[i]'(by omega)) (List.getElem?_eq_getElem (by omega))
    have e2 := kc i (ys[i]'(by omega)) (List.getElem?_eq_getElem (by omega))
    rw [e1] at e2
    injection e2 with e2
    injection e2 with _ e2
    rw [List.getElem?_eq_getElem (by omega), List.getElem?_eq_getElem (by omega)]
    congr 1
    omega
  · rw [List.getElem?_eq_none (by omega), List.getElem?_eq_none (by omega)]
theorem rdNt_of {w : World} {A : Option Addr} {n c x : Nat} (h : Wds w A n c (nd x)) : rdNt (.slice A n c) w = x := by
  have hex : ∃ x' A' n' c', Value.slice A n c = .slice A' n' c' ∧ Wds w A' n' c' (nd x') := ⟨x, A, n, c, rfl, h⟩
  unfold rdNt
  rw [dif_pos hex]
  obtain ⟨A', n', c', he, hW⟩ := Classical.choose_spec hex
  injection he with e1 e2 e3
  subst e1
  subst e2
  subst e3
  have := hW.uniqt h
  have e := congrArg nv this
  rwa [nv_nd, nv_nd] at e
theorem Wds.nwt {w : World} {A : Option Addr} {n c X : Nat} (h : Wds w A n c (nd X)) : n = nw X := by have := h.len; rw [nd_length] at this; omega
theorem unit_listt (w : World) : Wds (w.alloc (.cells #[.int .u32 1] 104)) (some ⟨w.heap.size, 0, none⟩) 1 1 (nd 1) := by
  rw [show nd 1 = [1] by rw [nd_pos (by omega)]; simp [nd_zero]]
  refine ⟨rfl, by omega, by unfold maxLen; omega, by intro x hx; simp at hx; omega, fun _ => ⟨_, rfl, by simp, fun k x hk => ?_⟩⟩
  match k, hk with
  | 0, hk => simp at hk; subst hk; simp [Addr.add]
  | k + 1, hk => simp at hk

/-- The root, cut. -/
def sqF (V : Nat) : Nat := Ieee.Datum.rootFrom V (V.log2 / 2 + 1) 0
theorem sqF_spec (V : Nat) : sqF V * sqF V ≤ V ∧ V < (sqF V + 1) * (sqF V + 1) := by
  by_cases h : V = 0
  · subst h; decide
  · exact isqrt_spec h
theorem sqF_of {V r : Nat} (h1 : r * r ≤ V) (h2 : V < (r + 1) * (r + 1)) : r = sqF V := by
  obtain ⟨g1, g2⟩ := sqF_spec V
  rcases Nat.lt_trichotomy r (sqF V) with h | h | h
  · have := Nat.mul_le_mul (show r + 1 ≤ sqF V by omega) (show r + 1 ≤ sqF V by omega); omega
  · exact h
  · have := Nat.mul_le_mul (show sqF V + 1 ≤ r by omega) (show sqF V + 1 ≤ r by omega); omega
theorem newt2 (V x : Nat) : newt V 2 x = (V / x + x) / 2 := by
  unfold newt
  rw [Nat.pow_one, show 2 - 1 = 1 from rfl, Nat.mul_one, Nat.add_comm]
theorem half_up (V : Nat) : V < (1 * 2 ^ ((bl V + 1) / 2) + 1) ^ 2 := by
  have h1 := lt_pow_bl V
  have h2 : 2 ^ bl V ≤ 2 ^ ((bl V + 1) / 2 * 2) := Nat.pow_le_pow_right (by omega) (by omega)
  rw [Nat.pow_mul] at h2
  have h3 := Nat.pow_le_pow_left (show 2 ^ ((bl V + 1) / 2) ≤ 1 * 2 ^ ((bl V + 1) / 2) + 1 by omega) 2
  omega

theorem bl_twr {k m : Nat} (h : k < m) : bl (2 ^ k) ≤ m := by rw [bl_le_iff]; exact Nat.pow_lt_pow_right (by omega) h
theorem bl_sumr {a b m : Nat} (ha : bl a ≤ m) (hb : bl b ≤ m) : bl (a + b) ≤ m + 1 := by
  rw [bl_le_iff] at ha hb ⊢
  rw [Nat.pow_succ]; omega

set_option maxHeartbeats 8000000 in
theorem nroot_any (A : Option Addr) (n c V : Nat) (w : World) (h : Wds w A n c (nd V)) (hV : 1 ≤ V) (hb : bl V ≤ 9000) :
    Calls Tryz.prog 73 #[.slice A n c] w (fun e w' => ∃ B m d, e = .returned (.tuple #[.slice B m d, .bool (decide (sqF V * sqF V = V)), .int .i64 0]) ∧ Wds w' B m d (nd (sqF V)) ∧ Ext w w') := by
  have hn := h.nwt
  have hnl : nw V ≤ 16384 := nw_of_bl (by omega)
  have hnp : 0 < nw V := by rcases Nat.eq_zero_or_pos (nw V) with e | e; exact absurd (nw_eq_zero.1 e) (by omega); exact e
  have HG := Lib.hid (fun g w hc hw => (nlong_one g 1 A n c V w hc hw (by omega)).mono fun e w' h => (⟨by rw [h.1, decide_eq_false (by omega)], h.2⟩ : e = .returned (.bool false) ∧ _))
  have HN := Lib.hid (fun w h => nnorm_ret A n c (nd V) w h (by omega))
  rw [nv_nd] at HN
  have HL := Lib.hid (fun A n c w (h : Wds w A n c (nd V)) => nlen_any A n c (nd V) w h (by have := h.nwt; omega))
  simp only [nv_nd] at HL
  obtain ⟨k, hk⟩ : ∃ k, k = (bl V + 1) / 2 := ⟨_, rfl⟩
  have hkk : ((bl V : Int) + 1).tdiv 2 = (k : Int) := by rw [hk, Int.tdiv_eq_ediv_of_nonneg (by omega)]; omega
  have hkw : IntKind.i64.wrap ((bl V : Int) + 1) = (bl V : Int) + 1 := by rw [IntKind.wrap_i64]; omega
  have hwk : IntKind.i64.wrap (k : Int) = (k : Int) := by rw [IntKind.wrap_i64]; omega
  have hwk2 : wrap64 (k : Int) = (k : Int) := by unfold wrap64; omega
  have HU := Lib.hid (fun B m d w (h : Wds w B m d (nd 1)) => nup_any B m d (nd 1) k w h (by have := h.nwt; rw [show nw 1 = 1 from rfl] at this; omega) (by omega))
  simp only [nv_nd] at HU
  have hR0 := WhRel.of (V := V) (n := 2) (x := 1 * 2 ^ k) (by omega) hV (by rw [hk]; exact half_up V)
  have hXb : bl (1 * 2 ^ k) ≤ 4502 := by rw [Nat.one_mul]; exact bl_twr (by omega)
  obtain ⟨XX, hXX⟩ : ∃ XX, XX = 1 * 2 ^ k := ⟨_, rfl⟩
  rw [← hXX] at HU hR0 hXb
  have HR0 := Lib.hid hR0
  have HQ := Lib.hid (fun (A : Option Addr) (n c : Nat) (B : Option Addr) (m d x : Nat) (w : World) (h : Wds w A n c (nd V)) (g : Wds w B m d (nd x)) (hx : x ≤ XX) (h0 : 1 ≤ x) => nquo_any A n c (nd V) B m d (nd x) w h (by have := h.nwt; omega) g (by have := g.nwt; have := nw_mono hx; have := nw_of_bl (V := XX) (by omega); omega) (by rw [nv_nd]; exact hnl) (by rw [nv_nd]; have := nw_mono hx; have := nw_of_bl (V := XX) (by omega); omega) (by rw [nv_nd]; omega))
  simp only [nv_nd] at HQ
  have hsz : ∀ x, x ≤ XX → V / x + x ≤ V + XX := fun x hx => by have := Nat.div_le_self V x; omega
  have hsn : nw (V + XX) ≤ 1000 := by
    have e3 : bl (V + XX) ≤ 9001 := bl_sumr hb (by omega)
    rw [nw_bl]; omega
  have HA := Lib.hid (fun (A : Option Addr) (n c : Nat) (B : Option Addr) (m d x : Nat) (w : World) (h : Wds w A n c (nd (V / x))) (g : Wds w B m d (nd x)) (hx : x ≤ XX) => nadd_any A n c (nd (V / x)) B m d (nd x) w h (by have := h.nwt; have := nw_mono (Nat.le_trans (Nat.le_add_right (V / x) x) (hsz x hx)); omega) g (by have := g.nwt; have := nw_mono hx; have := nw_of_bl (V := XX) (by omega); omega) (by rw [nv_nd]; have := nw_mono (Nat.le_trans (Nat.le_add_right (V / x) x) (hsz x hx)); omega) (by rw [nv_nd]; have := nw_mono hx; have := nw_of_bl (V := XX) (by omega); omega) (by rw [nv_nd, nv_nd]; have := nw_mono (hsz x hx); omega))
  simp only [nv_nd] at HA
  have HD := Lib.hid (fun (A : Option Addr) (n c x : Nat) (w : World) (h : Wds w A n c (nd (V / x + x))) (hx : x ≤ XX) => ndown_any A n c (nd (V / x + x)) 1 w h (by have := h.nwt; have := nw_mono (hsz x hx); omega) (by omega))
  simp only [nv_nd, Nat.pow_one, ← newt2, Int.natCast_one] at HD
  have HC := Lib.hid (fun (A : Option Addr) (n c : Nat) (B : Option Addr) (m d x y : Nat) (w : World) (h : Wds w A n c (nd y)) (g : Wds w B m d (nd x)) (hy : nw y ≤ 16384) (hx : nw x ≤ 16384) => ncmp_any A n c (nd y) B m d (nd x) w h (by have := h.nwt; omega) g (by have := g.nwt; omega))
  simp only [nv_nd] at HC
  have HM := Lib.hid (fun (B : Option Addr) (m d x : Nat) (w : World) (g : Wds w B m d (nd x)) (hx : nw x ≤ 16384) => nmul_raw B m d (nd x) B m d (nd x) w g (by have := g.nwt; omega) g (by have := g.nwt; omega))
  simp only [nv_nd] at HM
  have HXX : Hid (nw XX ≤ 200) := Lib.hid (by rw [nw_bl]; omega)
  have HYY : Hid (∀ x, x ≤ XX → nw (newt V 2 x) ≤ 1000) := Lib.hid (fun x hx => by
    rw [newt2]
    exact Nat.le_trans (nw_mono (Nat.le_trans (Nat.div_le_self _ _) (hsz x hx))) hsn)
  have HVV := Lib.hid hV
  have HNL := Lib.hid hnl
  obtain ⟨bb, hbb⟩ : ∃ bb : Int, bb = (bl V : Int) := ⟨_, rfl⟩
  rw [← hbb] at HL hkk hkw
  have hp1 := h.alloc (.cells #[.slice A n c] 36)
  have hlec := h.lec
  have hn0 : 0 < n := by omega
  have hE0 : Ext w (w.alloc (.cells #[.slice A n c] 36)) := (Ext.refl w).alloc _
  have hcell0 : (w.alloc (.cells #[.slice A n c] 36)).cell? ⟨w.heap.size, 0, none⟩ = some (.slice A n c) := by simp
  have hnp' : nw V ≠ 0 := by omega
  clear hn hnl hnp hk hR0 hXb hXX hsz hsn hbb hV hb h
  go_enter Tryz.func73, Tryz.ntmps73
  go_wp2_with fail
  generalize w.heap.size = g0 at hcell0 ⊢
  generalize w.alloc _ = w1 at hp1 hE0 hcell0 ⊢
  refine (HG.out _ _ hcell0 hp1).mono ?_
  rintro e w' ⟨rfl, rfl⟩
  go_wp2_with fail
  refine (HN.out _ hp1).mono ?_
  rintro e w2 ⟨A2, n2, c2, rfl, hW2, hE2⟩
  have hn2 := hW2.nwt
  have hne : ((n2 : Int) == 0) = false := by rw [beq_eq_false_iff_ne]; omega
  have hE02 := hE0.trans hE2
  clear hE0 hE2 hp1 hcell0 HG HN hn2
  go_wp2_with fail
  have hU2 := unit_listt w2
  have hE3 : Ext w2 (w2.alloc (.cells #[.int .u32 1] 104)) := (Ext.refl w2).alloc _
  have hW3 := hW2.ext hE3
  have hE03 := hE02.trans hE3
  clear hE3 hE02 hW2
  generalize w2.heap.size = g3 at hU2 ⊢
  generalize w2.alloc _ = w3 at hU2 hE03 hW3 ⊢
  refine (HL.out _ _ _ _ hW3).mono ?_
  rintro e w4 ⟨rfl, rfl⟩
  go_wp2_with fail
  refine (HU.out _ _ _ _ hU2).mono ?_
  rintro e w5 ⟨A5, n5, c5, rfl, hW5, hE5⟩
  have hWa := hW3.ext hE5
  have hE1 := hE03.trans hE5
  clear hE03 hE5 hW3 hU2 HL HU hkk hkw hne hwk hwk2
  go_wp2_with fail
  go_loopw [5] (fun xv wr => ∃ (x : Nat) (A1 : Option Addr) (n1 c1 : Nat), xv = .slice A1 n1 c1 ∧ Wds wr A1 n1 c1 (nd x) ∧ Hid (WhRel V 2 XX x) ∧ Wds wr A2 n2 c2 (nd V) ∧ Ext w wr) (fun xv wr => rdNt xv wr)
  case atStart => exact ⟨_, _, _, _, rfl, hW5, HR0, hWa, hE1⟩
  case round =>
    obtain ⟨x, A3, n3, c3, rfl, hWx, hrel, hWr, hEr⟩ := hrel
    clear hE1 hW5 HR0 hWa
    have hxX := hrel.out.xX
    have hx1 := hrel.out.x1
    have hnx : nw x ≤ 16384 := by have := nw_mono hxX; have := HXX.out; omega
    have hny : nw (newt V 2 x) ≤ 16384 := by have := HYY.out x hxX; omega
    have HN' := Lib.hid (fun h => hrel.out.next (by omega) HVV.out h)
    have HD' := Lib.hid (fun h => hrel.out.done (by omega) h)
    have hM2 := rdNt_of hWx
    go_wp2_with fail
    refine (HQ.out _ _ _ _ _ _ x _ hWr hWx hxX hx1).mono ?_
    rintro e w2 ⟨A4, n4, c4, A4', n4', c4', rfl, hW4, -, hE4⟩
    have hWx2 := hWx.ext hE4
    have hWr2 := hWr.ext hE4
    have hEr2 := hEr.trans hE4
    clear hE4 hWx hWr hEr
    go_wp2_with fail
    refine (HA.out _ _ _ _ _ _ x _ hW4 hWx2 hxX).mono ?_
    rintro e w3 ⟨A5, n5, c5, rfl, hW5, hE5⟩
    have hWx3 := hWx2.ext hE5
    have hWr3 := hWr2.ext hE5
    have hEr3 := hEr2.trans hE5
    clear hE5 hWx2 hWr2 hEr2 hW4
    go_wp2_with fail
    refine (HD.out _ _ _ x _ hW5 hxX).mono ?_
    rintro e w4 ⟨A6, n6, c6, rfl, hW6, hE6⟩
    have hWx4 := hWx3.ext hE6
    have hWr4 := hWr3.ext hE6
    have hEr4 := hEr3.trans hE6
    clear hE6 hWx3 hWr3 hEr3 hW5
    go_wp2_with fail
    refine (HC.out _ _ _ _ _ _ x _ _ hW6 hWx4 hny hnx).mono ?_
    rintro e w12 ⟨rfl, z, rfl⟩
    have hWx := hWx4.drewN z
    have hW6 := hW6.drewN z
    have hWr := hWr4.drewN z
    have hEr := hEr4.drewN z
    clear hWx4 hWr4 hEr4
    generalize w4.drewN z = w12 at hWx hW6 hWr hEr ⊢
    generalize newt V 2 x = y at *
    by_cases hlt : y < x
    · have hcc : cmpN y x = -1 := by unfold cmpN; rw [if_pos hlt]
      rw [hcc]
      have HR2 := Lib.hid (HN'.out hlt)
      have hM1 := rdNt_of hW6
      go_wp2
      go_roundw
      case rel => exact ⟨_, _, _, _, rfl, hW6, HR2, hWr, hEr⟩
      case measure =>
        show rdNt (.slice A6 n6 c6) w12 < rdNt (.slice A3 n3 c3) wr
        rw [hM1, hM2]
        exact hlt
    · have hge : (0 : Int) ≤ cmpN y x := by unfold cmpN; rw [if_neg hlt]; split <;> omega
      have hcc : decide (0 ≤ cmpN y x) = true := decide_eq_true hge
      have hF := HD'.out (by omega)
      have HRX : Hid (x = sqF V) := Lib.hid (sqF_of (by rw [← Nat.pow_two]; exact hF.1) (by rw [← Nat.pow_two]; exact hF.2))
      generalize cmpN y x = cc at *
      clear hlt hF HD' HN' hge hM2 hW6 hny
      go_wp2_with fail
      refine (HM.out _ _ _ x _ hWx hnx).mono ?_
      rintro e w6 ⟨g7, L, rfl, hR, hL, hl, hv, -, hE7⟩
      have hWx6 := hWx.ext hE7
      have hWr6 := hWr.ext hE7
      have hEr6 := hEr.trans hE7
      clear hWx hWr hEr hE7
      go_wp2_with fail
      have hn3 := hWx6.nwt
      refine (ncut_any _ _ _ _ _ (hR.wds hL hl (Nat.le_refl _) (by unfold maxLen; omega)) (by omega)).mono ?_
      rintro e w7 ⟨A8, n8, c8, rfl, hW8, hE8⟩
      rw [hv] at hW8
      have hWx7 := hWx6.ext hE8
      have hWr7 := hWr6.ext hE8
      have hEr7 := hEr6.trans hE8
      clear hWx6 hWr6 hEr6 hE8 hR hL hl hv hn3
      have hxx : x * x ≤ V := by rw [HRX.out]; exact (sqF_spec V).1
      have hnxx : nw (x * x) ≤ 16384 := Nat.le_trans (nw_mono hxx) HNL.out
      go_wp2_with fail
      refine (HC.out _ _ _ _ _ _ V (x * x) _ hW8 hWr7 hnxx HNL.out).mono ?_
      rintro e w9 ⟨rfl, q, rfl⟩
      have hcz : (cmpN (x * x) V == 0) = decide (sqF V * sqF V = V) := by
        rw [← HRX.out, Bool.eq_iff_iff, beq_iff_eq, decide_eq_true_iff]
        unfold cmpN
        split
        · omega
        · split <;> omega
      go_wp2_with fail
      go_ret3
      refine ⟨_, _, _, rfl, ?_, hEr7.drewN q⟩
      rw [← HRX.out]
      exact hWx7.drewN q
set_option maxHeartbeats 1000000 in
theorem nroot_zero (A : Option Addr) (n c : Nat) (w : World) (h : Wds w A n c (nd 0)) :
    Calls Tryz.prog 73 #[.slice A n c] w (fun e w' => ∃ B m d, e = .returned (.tuple #[.slice B m d, .bool true, .int .i64 0]) ∧ Wds w' B m d (nd 0) ∧ Ext w w') := by
  have hn := h.nwt
  rw [nw_zero] at hn
  have HG := Lib.hid (fun g w hc hw => (nlong_one g 1 A n c 0 w hc hw (by omega)).mono fun e w' h => (⟨by rw [h.1, decide_eq_false (by rw [nw_zero]; omega)], h.2⟩ : e = .returned (.bool false) ∧ _))
  have HN := Lib.hid (fun w h => nnorm_ret A n c (nd 0) w h (by omega))
  rw [nv_nd] at HN
  have hp1 := h.alloc (.cells #[.slice A n c] 36)
  have hE0 : Ext w (w.alloc (.cells #[.slice A n c] 36)) := (Ext.refl w).alloc _
  have hcell0 : (w.alloc (.cells #[.slice A n c] 36)).cell? ⟨w.heap.size, 0, none⟩ = some (.slice A n c) := by simp
  clear h hn
  go_enter Tryz.func73, Tryz.ntmps73
  go_wp2_with fail
  generalize w.heap.size = g0 at hcell0 ⊢
  generalize w.alloc _ = w1 at hp1 hE0 hcell0 ⊢
  refine (HG.out _ _ hcell0 hp1).mono ?_
  rintro e w' ⟨rfl, rfl⟩
  go_wp2_with fail
  refine (HN.out _ hp1).mono ?_
  rintro e w2 ⟨A2, n2, c2, rfl, hW2, hE2⟩
  have hn2 := hW2.nwt
  rw [nw_zero] at hn2
  subst hn2
  have hE02 := hE0.trans hE2
  clear hE0 hE2 hp1 hcell0 HG HN
  go_wp2_with fail
  go_ret3
  refine ⟨none, 0, 0, rfl, ?_, hE02⟩
  rw [nd_zero]
  exact Wds.nil_ (by unfold maxLen; omega)
end Go.Proofs.YtfbjeifhpmdjaaaGreat

/-
  The contract of the program's sums, eighth part: Root. Conditions: those that each theorem names.
-/
namespace Go.Proofs.YtfbjeifhpmdjaaaGreat
open Go.RowKit Nm Rn
set_option maxRecDepth 100000
set_option linter.unusedVariables false
set_option linter.unusedSimpArgs false

/-- Twice the root of V 2^128, cut, and 1 more where it is not whole. -/
def rtX (X : Nat) : Nat := if sqF X * sqF X = X then sqF X * 2 else sqF X * 2 + 1
def Sm.root (S : Sm) (d : Int) : Nat := if S.state = 1 then infR else if S.state ≠ 0 then NaNc else if S.T < 0 then NaNc else ofR d false (rtX (S.T.natAbs * 2 ^ 128)) (-1139)
theorem sqF_zero : sqF 0 = 0 := by decide
theorem sqF_pos {X : Nat} (h : 1 ≤ X) : 1 ≤ sqF X := by
  obtain ⟨h1, h2⟩ := sqF_spec X
  rcases Nat.eq_zero_or_pos (sqF X) with h0 | h0
  · rw [h0] at h2; omega
  · exact h0
theorem sqF_nw {X k : Nat} (h : bl X ≤ k) : bl (sqF X * 2 + 1) ≤ k + 2 := by
  have h1 := (sqF_spec X).1
  have h2 : sqF X ≤ sqF X * sqF X := by
    rcases Nat.eq_zero_or_pos (sqF X) with h0 | h0
    · rw [h0]; omega
    · exact Nat.le_mul_of_pos_left _ h0
  have h3 := (bl_le_iff (sqF X) k).1 (Nat.le_trans (bl_mono (Nat.le_trans h2 h1)) h)
  rw [bl_le_iff, Nat.pow_add]
  omega
theorem sgn_st {S : Sm} (h : S.state = 0) : S.sign = if S.T < 0 then -1 else if S.T = 0 then 0 else 1 := by
  unfold Sm.sign
  rw [h]
  rfl
section
variable {w0 w : World} {L : List Bx} {W : List Sw} {g : Nat}

set_option maxHeartbeats 4000000 in
theorem troot_any (S : Sm) (d : Int) (hT : S.state = 0 → 2 * S.T.natAbs < MM) (hO : Own w0 (⟨g, 55, S.cs⟩ :: L) W w) :
    Calls Tryz.prog 32 #[.pointer (some ⟨g, 0, none⟩), .int .i64 d] w (RetFl (S.root d) w) := by
  have HST := Lib.hid (fun w h => tstate_S (w0 := w0) (w := w) (L := L) (W := W) (g := g) S h)
  have HSG := Lib.hid (fun w h => tsign_any (w0 := w0) (w := w) (L := L) (W := W) (g := g) S hT h)
  have HO := Lib.hid hO
  by_cases hs : S.state = 0
  · have hT := hT hs
    rw [hs] at HST
    rw [sgn_st hs] at HSG
    by_cases hneg : S.T < 0
    · have HR : Hid (S.root d = NaNc) := Lib.hid (by unfold Sm.root; rw [hs, if_neg (by decide), if_neg (by decide), if_pos hneg])
      rw [if_pos hneg] at HSG
      clear hs hT hO hneg
      rw [HR.out]
      go_enter Tryz.func32, Tryz.ntmps32
      go_wp2_with (first | (go_at_call 36; (with_reducible refine (HST.out _ HO.out).mono ?_); rintro e w2 ⟨rfl, rfl⟩) | (go_at_call 34; (with_reducible refine (HSG.out _ HO.out).mono ?_); rintro e w2 ⟨rfl, rfl⟩) | (go_at_call 67; (with_reducible refine (mnanc_any _).mono ?_); rintro e w2 ⟨rfl, rfl⟩))
      go_ret
      exact ⟨_, rfl, by decide, by decide, Ext.refl _⟩
    have HSZ := Lib.hid (fun h => tsize_any (w0 := w0) (w := w) (L := L) (W := W) (g := g) S hT h)
    rw [decide_eq_false hneg] at HSZ
    rw [if_neg hneg] at HSG
    have hnw := nw_sum hT
    have hbl := bl_sum hT
    obtain ⟨V, hV⟩ : ∃ V, V = S.T.natAbs := ⟨_, rfl⟩
    have HR : Hid (S.root d = ofR d false (rtX (V * 2 ^ 128)) (-1139)) := Lib.hid (by unfold Sm.root; rw [hs, if_neg (by decide), if_neg (by decide), if_neg hneg, hV])
    have hV0 : V = 0 ↔ S.T = 0 := by rw [hV]; omega
    rw [← hV] at hnw hbl HSZ
    rw [HR.out]
    by_cases h0 : V = 0
    · rw [if_pos (hV0.1 h0)] at HSG
      have e : rtX (V * 2 ^ 128) = 0 := by rw [h0, Nat.zero_mul]; decide
      rw [e]
      rw [h0] at HSZ
      have HS1 := Lib.hid (fun A n c s w (h : Wds w A n c (nd 0)) (hs : s ≤ 35184372088832) => nshl_zero A n c (nd 0) s w h (by have := h.nwt; rw [nw_zero] at this; omega) hs (by rw [nv_nd]))
      have HRT := Lib.hid (fun A n c w (h : Wds w A n c (nd 0)) => nroot_zero A n c w h)
      have HOF := Lib.hid (fun A n c w (h : Wds w A n c (nd 0)) => rof_any d false A n c (nd 0) (-1139) w h (by have h1 := h.nwt; rw [nw_zero] at h1; omega))
      rw [nv_nd] at HOF
      clear hs hT hO hneg hnw hbl hV hV0 h0 e
      go_enter Tryz.func32, Tryz.ntmps32
      go_wp2_with (first | (go_at_call 36; (with_reducible refine (HST.out _ HO.out).mono ?_); rintro e w2 ⟨rfl, rfl⟩) | (go_at_call 34; (with_reducible refine (HSG.out _ HO.out).mono ?_); rintro e w2 ⟨rfl, rfl⟩))
      refine (HSZ.out HO.out).mono ?_
      rintro e w2 ⟨A, l, c, rfl, hW, hE⟩
      have HW := Lib.hid hW
      clear hW
      go_wp2_with fail
      refine (HS1.out _ _ _ 128 _ HW.out (by omega)).mono ?_
      rintro e w3 ⟨A3, n3, c3, rfl, hW3, hE3⟩
      have hE := hE.trans hE3
      clear hE3
      go_wp2_with fail
      refine (HRT.out _ _ _ _ hW3).mono ?_
      rintro e w4 ⟨A4, n4, c4, rfl, hW4, hE4⟩
      have hE := hE.trans hE4
      clear hE4 hW3
      go_wp2_with fail
      refine (HS1.out _ _ _ 1 _ hW4 (by omega)).mono ?_
      rintro e w5 ⟨A5, n5, c5, rfl, hW5, hE5⟩
      have hE := hE.trans hE5
      clear hE5 hW4
      go_wp2_with fail
      refine (HOF.out _ _ _ _ hW5).mono ?_
      rintro e w8 ⟨r, rfl, h1, h2, hE8⟩
      go_wp2_with fail
      go_ret
      exact ⟨r, rfl, h1, h2, hE.trans hE8⟩
    · rw [if_neg (fun e => h0 (hV0.2 e))] at HSG
      have hX1 : 1 ≤ V * 2 ^ 128 := Nat.mul_pos (by omega) (two_pow_pos _)
      have hXb : bl (V * 2 ^ 128) ≤ 9000 := by rw [bl_mul_pow 128 (by omega)]; omega
      have HS1 := Lib.hid (fun A n c w (h : Wds w A n c (nd V)) => nshl_any A n c (nd V) 128 w h (by have := h.nwt; omega) (by rw [nv_nd]; omega) (by rw [nv_nd]; omega))
      rw [nv_nd] at HS1
      obtain ⟨X, hX⟩ : ∃ X, X = V * 2 ^ 128 := ⟨_, rfl⟩
      rw [← hX] at HS1 hX1 hXb ⊢
      clear hX
      have HRT := Lib.hid (fun A n c w (h : Wds w A n c (nd X)) => nroot_any A n c X w h hX1 hXb)
      have hq := sqF_pos hX1
      have hb1 := sqF_nw hXb
      have hn1 := nw_of_bl (V := sqF X * 2 + 1) (by omega)
      have hn2 := nw_mono (show sqF X * 2 ≤ sqF X * 2 + 1 by omega)
      have hb2 := bl_mono (show sqF X ≤ sqF X * 2 + 1 by omega)
      have hn3 := nw_mono (show sqF X ≤ sqF X * 2 + 1 by omega)
      have HS2 := Lib.hid (fun A n c w (h : Wds w A n c (nd (sqF X))) => nshl_any A n c (nd (sqF X)) 1 w h (by have := h.nwt; omega) (by rw [nv_nd]; omega) (by rw [nv_nd]; omega))
      rw [nv_nd, Nat.pow_one] at HS2
      by_cases hX : sqF X * sqF X = X
      · rw [show rtX X = sqF X * 2 from if_pos hX]
        have HOF := Lib.hid (fun A n c w (h : Wds w A n c (nd (sqF X * 2))) => rof_any d false A n c (nd (sqF X * 2)) (-1139) w h (by have h1 := h.nwt; omega))
        rw [nv_nd] at HOF
        clear hs hT hO hneg hnw hbl hV hV0 h0 hX1 hXb hq hb1 hn1 hn2 hb2 hn3
        have hex : decide (sqF X * sqF X = X) = true := decide_eq_true hX
        rw [hex] at HRT
        clear hex hX
        go_enter Tryz.func32, Tryz.ntmps32
        go_wp2_with (first | (go_at_call 36; (with_reducible refine (HST.out _ HO.out).mono ?_); rintro e w2 ⟨rfl, rfl⟩) | (go_at_call 34; (with_reducible refine (HSG.out _ HO.out).mono ?_); rintro e w2 ⟨rfl, rfl⟩))
        refine (HSZ.out HO.out).mono ?_
        rintro e w2 ⟨A, l, c, rfl, hW, hE⟩
        have HW := Lib.hid hW
        clear hW
        go_wp2_with fail
        refine (HS1.out _ _ _ _ HW.out).mono ?_
        rintro e w3 ⟨A3, n3, c3, rfl, hW3, hE3⟩
        have hE := hE.trans hE3
        clear hE3
        go_wp2_with fail
        refine (HRT.out _ _ _ _ hW3).mono ?_
        rintro e w4 ⟨A4, n4, c4, rfl, hW4, hE4⟩
        have hE := hE.trans hE4
        clear hE4 hW3
        go_wp2_with fail
        refine (HS2.out _ _ _ _ hW4).mono ?_
        rintro e w5 ⟨A5, n5, c5, rfl, hW5, hE5⟩
        have hE := hE.trans hE5
        clear hE5 hW4
        go_wp2_with fail
        refine (HOF.out _ _ _ _ hW5).mono ?_
        rintro e w8 ⟨r, rfl, h1, h2, hE8⟩
        go_wp2_with fail
        go_ret
        exact ⟨r, rfl, h1, h2, hE.trans hE8⟩
      · rw [show rtX X = sqF X * 2 + 1 from if_neg hX]
        have HOF := Lib.hid (fun A n c w (h : Wds w A n c (nd ((sqF X * 2 + 1)))) => rof_any d false A n c (nd ((sqF X * 2 + 1))) (-1139) w h (by have h1 := h.nwt; omega))
        rw [nv_nd] at HOF
        have HAD := Lib.hid (fun (A : Option Addr) (n c : Nat) (B : Option Addr) (m d : Nat) (w : World) (h : Wds w A n c (nd (sqF X * 2))) (g : Wds w B m d (nd 1)) => nadd_any A n c (nd (sqF X * 2)) B m d (nd 1) w h (by have := h.nwt; omega) g (by have := g.nwt; rw [show nw 1 = 1 from rfl] at this; omega) (by rw [nv_nd]; omega) (by rw [nv_nd, show nw 1 = 1 from rfl]; omega) (by rw [nv_nd, nv_nd]; omega))
        simp only [nv_nd] at HAD
        clear hs hT hO hneg hnw hbl hV hV0 h0 hX1 hXb hq hb1 hn1 hn2 hb2 hn3
        have hex : decide (sqF X * sqF X = X) = false := decide_eq_false hX
        rw [hex] at HRT
        clear hex hX
        go_enter Tryz.func32, Tryz.ntmps32
        go_wp2_with (first | (go_at_call 36; (with_reducible refine (HST.out _ HO.out).mono ?_); rintro e w2 ⟨rfl, rfl⟩) | (go_at_call 34; (with_reducible refine (HSG.out _ HO.out).mono ?_); rintro e w2 ⟨rfl, rfl⟩))
        refine (HSZ.out HO.out).mono ?_
        rintro e w2 ⟨A, l, c, rfl, hW, hE⟩
        have HW := Lib.hid hW
        clear hW
        go_wp2_with fail
        refine (HS1.out _ _ _ _ HW.out).mono ?_
        rintro e w3 ⟨A3, n3, c3, rfl, hW3, hE3⟩
        have hE := hE.trans hE3
        clear hE3
        go_wp2_with fail
        refine (HRT.out _ _ _ _ hW3).mono ?_
        rintro e w4 ⟨A4, n4, c4, rfl, hW4, hE4⟩
        have hE := hE.trans hE4
        clear hE4 hW3
        go_wp2_with fail
        refine (HS2.out _ _ _ _ hW4).mono ?_
        rintro e w5 ⟨A5, n5, c5, rfl, hW5, hE5⟩
        have hE := hE.trans hE5
        clear hE5 hW4
        go_wp2_with fail
        have hU := unit_listt w5
        have hE6 : Ext w5 (w5.alloc (.cells #[.int .u32 1] 104)) := (Ext.refl w5).alloc _
        have hW5 := hW5.ext hE6
        have hE := hE.trans hE6
        clear hE6
        generalize w5.heap.size = g6 at hU ⊢
        generalize w5.alloc _ = w6 at hU hE hW5 ⊢
        refine (HAD.out _ _ _ _ _ _ _ hW5 hU).mono ?_
        rintro e w7 ⟨A5, n5, c5, rfl, hW5, hE7⟩
        have hE := hE.trans hE7
        clear hE7 hU
        go_wp2_with fail
        refine (HOF.out _ _ _ _ hW5).mono ?_
        rintro e w8 ⟨r, rfl, h1, h2, hE8⟩
        go_wp2_with fail
        go_ret
        exact ⟨r, rfl, h1, h2, hE.trans hE8⟩
  · have hs0 := hs
    obtain ⟨st, hst⟩ : ∃ st, st = S.state := ⟨_, rfl⟩
    have q1 : (!(st == 0)) = true := by rw [Bool.not_eq_true', beq_eq_false_iff_ne, hst]; exact hs
    have q0 : (st == 0) = false := by rw [beq_eq_false_iff_ne, hst]; exact hs
    by_cases h1 : st = 1
    · have HR : Hid (S.root d = infR) := Lib.hid (by unfold Sm.root; rw [if_pos (by rw [← hst]; exact h1)])
      rw [← hst, h1] at HST
      rw [HR.out]
      clear hs hs0 hst hT hO q1 q0 HSG h1
      go_enter Tryz.func32, Tryz.ntmps32
      go_wp2_with (first | (go_at_call 36; (with_reducible refine (HST.out _ HO.out).mono ?_); rintro e w2 ⟨rfl, rfl⟩) | (go_at_call 71; (with_reducible refine (inf_p _).mono ?_); rintro e w2 ⟨rfl, rfl⟩))
      go_ret
      exact ⟨_, rfl, by decide, by decide, Ext.refl _⟩
    · have HR : Hid (S.root d = NaNc) := Lib.hid (by unfold Sm.root; rw [if_neg (by rw [← hst]; exact h1), if_pos hs])
      have q3 : (st != 0) = true := by rw [bne, q0]; rfl
      have q4 : st ≠ 0 := by rw [hst]; exact hs
      have q2 : (st == 1) = false := by rw [beq_eq_false_iff_ne]; exact h1
      rw [← hst] at HST
      rw [HR.out]
      clear hs hs0 hst hT hO HSG h1
      go_enter Tryz.func32, Tryz.ntmps32
      go_wp2_with (first | (go_at_call 36; (with_reducible refine (HST.out _ HO.out).mono ?_); rintro e w2 ⟨rfl, rfl⟩) | (go_at_call 67; (with_reducible refine (mnanc_any _).mono ?_); rintro e w2 ⟨rfl, rfl⟩))
      go_ret
      exact ⟨_, rfl, by decide, by decide, Ext.refl _⟩
end
end Go.Proofs.YtfbjeifhpmdjaaaGreat
