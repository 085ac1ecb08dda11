/-
  Plain: the quick road of a quotient answers the number rounded in the direction. Conditions: those that each theorem names.
-/
import Derived.Test.YtadijoeeaineaaaDoorG23
import Derived.Test.YtadijoeeaineaaaDoorG09
import Derived.Test.YtadijoeeaineaaaDoorG06
import Derived.ScopeJumps
import Derived.Test.YtadijoeeaineaaaDoorG22
set_option linter.unusedVariables false

namespace Go.Proofs.YtadijoeeaineaaaDoor.Rn

theorem cap_rv : 1099511627776 * Kg ≤ rv (infR - 2) := by
  obtain ⟨c, hc⟩ : ∃ c : Nat, c = 1974 := ⟨_, rfl⟩
  rw [Kg_def, ← hc]
  have e : 1099511627776 * 2 ^ c = rv ((c + 40 - 52) * 4503599627370496 + 4503599627370496) := by
    rw [rv_form (c + 40 - 52) 4503599627370496 (by omega) (fun _ => Nat.le_refl _)]
    have : 2 ^ (c + 40) = 2 ^ (c + 40 - 52) * 2 ^ 52 := by rw [← pow_add_]; congr 1; omega
    rw [pow_add_] at this
    have e1 : (2 : Nat) ^ 40 = 1099511627776 := by decide
    have e2 : (2 : Nat) ^ 52 = 4503599627370496 := by decide
    rw [e1, e2] at this
    omega
  rw [e]
  exact rv_le (by rw [infR_val]; omega)

theorem K74_i : ((2 ^ 1074 : Nat) : Int) = (K74 : Int) := congrArg Int.ofNat K74_def.symm

/-- What a Z of a quotient asks. -/
theorem zd_le {X Y r : Nat} (hY : 0 < Y) : 4 * r ≤ zq (X * K75) Y ↔ r * Y ≤ X * K74 := by
  rw [show 4 * r = 2 * (2 * r) by omega, zq_le hY, K75_74]
  have e1 : 2 * r * Y = 2 * (r * Y) := Nat.mul_assoc _ _ _
  have e2 : X * (2 * K74) = 2 * (X * K74) := Nat.mul_left_comm _ _ _
  omega
theorem zd_gt {X Y r : Nat} (hY : 0 < Y) : 4 * r < zq (X * K75) Y ↔ r * Y < X * K74 := by
  rw [show 4 * r = 2 * (2 * r) by omega, zq_gt hY, K75_74]
  have e1 : 2 * r * Y = 2 * (r * Y) := Nat.mul_assoc _ _ _
  have e2 : X * (2 * K74) = 2 * (X * K74) := Nat.mul_left_comm _ _ _
  omega

theorem rn_pos {S : Int} : (0 < rn S ↔ 0 < S) ∧ (rn S < 0 ↔ S < 0) := by
  have h1 : S ≠ 0 → (1 : Int).natAbs ≤ (rn S).natAbs := fun h => rn_ge (g := 1) ⟨1, by decide⟩ (by omega)
  have h2 : S = 0 → rn S = 0 := fun h => by rw [h, rn_zero]
  have h3 : S < 0 → rn S ≤ 0 := fun h => by unfold rn; rw [if_pos h]; omega
  have h4 : ¬ S < 0 → 0 ≤ rn S := fun h => by unfold rn; rw [if_neg h]; omega
  omega

set_option maxHeartbeats 4000000 in
theorem div_quick {x y s p : Nat} {X Y : Int} (hx : Fl x X) (hy : Fl y Y) (mx : Mid X) (my : Mid Y) (hs : Ieee.double.div x y = some s) (fs : mg s < infR) (ms : Mid (sv s)) (hp : Ieee.double.mul s y = some p) (fp : mg p < infR) (mp : Mid (sv p)) :
    ∃ m a b M E, MissedOps s y p m ∧ Ieee.double.sub x p = some a ∧ Ieee.double.sub a m = some b ∧ Fl m M ∧ Fl b E ∧ ∀ d, rnd d (sg x ^^ sg y) (zq (rv (mg x) * K75) (rv (mg y))) = kp (key s + adj d (if Y < 0 then -E else E)) := by
  have hY0 : 0 < rv (mg y) := by have := my.1; have := hy.abs; omega
  have hX0 : 0 < rv (mg x) := by have := mx.1; have := hx.abs; omega
  have hmy : mg y ≠ 0 := fun h => by rw [h, rv_zero] at hY0; omega
  have hdiv := div_fin hx.lt hy.lt hx.fin hy.fin hmy
  rw [hdiv] at hs
  injection hs with hs
  obtain ⟨Z, hZ⟩ : ∃ Z, Z = zq (rv (mg x) * K75) (rv (mg y)) := ⟨_, rfl⟩
  rw [← hZ] at hs ⊢
  have hnl := near_lt' Z
  have hms : mg s = near Z := by rw [← hs, mg_word hnl]
  have hss : sg s = (sg x ^^ sg y) := by rw [← hs, sg_word hnl]
  have hsl : s < 18446744073709551616 := by rw [← hs]; exact word_lt hnl
  have hF : Fl s (sv s) := Fl.of hsl fs
  have hQ := sv_abs s
  obtain ⟨r, m, hr, hr0, hrg, om, fpr, fm, -⟩ := mul_quick hF hy ms my hp fp mp
  -- sizes
  clear hdiv
  have hbig : Z < 4 * (4 * Kg) := by
    rcases Nat.lt_or_ge Z (4 * (4 * Kg)) with h | h
    · exact h
    · exfalso
      obtain ⟨j, hj⟩ := rp_Kg (m := 4) (by omega)
      have h0 := nr_cap (P := 4 * Kg) (by omega)
      rw [← hj, nr_rv] at h0
      have h1 := near_lo (Z := Z) (k := j) (by omega) (by omega)
      have h2 := rv_le h1
      rw [← hms, hj, ← hQ] at h2
      have := ms.2
      omega
  have n3 : near Z = rung (Z / 4) ∨ near Z = rung (Z / 4) + 1 := (near_lt Z (by have := cap_rv; omega)).2.2
  obtain ⟨f, hf⟩ : ∃ f, f = rung (Z / 4) := ⟨_, rfl⟩
  rw [← hf] at n3
  obtain ⟨w1, w2⟩ := rung_spec (Z / 4)
  rw [← hf] at w1 w2
  have z1 : rv f * rv (mg y) ≤ rv (mg x) * K74 := (zd_le hY0).1 (by rw [← hZ]; omega)
  have z2 : rv (mg x) * K74 < rv (f + 1) * rv (mg y) := by
    rcases Nat.lt_or_ge (rv (mg x) * K74) (rv (f + 1) * rv (mg y)) with h | h
    · exact h
    · have := (zd_le hY0).2 h; rw [← hZ] at this; omega
  have hrv : r.natAbs * K74 = rv (mg s) * rv (mg y) := by
    have := congrArg Int.natAbs hr
    rw [Int.natAbs_mul, Int.natAbs_mul, K74_i, Int.natAbs_natCast, hy.abs, hQ] at this
    exact this
  obtain ⟨sf, g1, g2, g3, g4⟩ := rv_dvd f
  obtain ⟨v, hv⟩ : ∃ v, v = f / 4503599627370496 - 1 := ⟨_, rfl⟩
  rw [← hv] at g1 g2 g4
  have hKs : 18014398509481984 * 2 ^ 0 ≤ Ks := by
    obtain ⟨c, hc⟩ : ∃ c : Nat, c = 120 := ⟨_, rfl⟩
    have e : (2 : Nat) ^ 174 = 2 ^ 54 * 2 ^ c := by rw [hc, ← pow_add_]
    rw [Ks_def, e]
    have := two_pow_pos c
    have e1 : (2 : Nat) ^ 54 = 18014398509481984 := by decide
    rw [e1, Nat.pow_zero]
    omega
  rw [Nat.pow_zero, Nat.mul_one] at hKs
  have hs1 := ms.1
  rw [hQ] at hs1
  have hsle : rv (mg s) ≤ rv (f + 1) := rv_le (by omega)
  have hv0 : v ≠ 0 := by
    intro h
    rw [h, Nat.pow_zero] at g2
    omega
  have hu1 : 4503599627370496 * 2 ^ v ≤ rv f := by rw [g1]; exact Nat.mul_le_mul_right _ (g4 hv0)
  have hu2 : rv (f + 1) = rv f + 2 ^ v := by rw [g2, g1, Nat.add_mul, Nat.one_mul]
  obtain ⟨A, hA⟩ : ∃ A, A = 2 ^ v := ⟨_, rfl⟩
  rw [← hA] at hu1 hu2
  clear g1 g2 g3 g4 hA
  -- r beside X
  have hYm : 4503599627370496 * (A * rv (mg y)) ≤ rv f * rv (mg y) := by rw [← Nat.mul_assoc]; exact Nat.mul_le_mul_right _ hu1
  have hs3 : rv f ≤ rv (mg s) := rv_le (by omega)
  have hK := K74_pos
  have b1 : r.natAbs * K74 ≤ rv f * rv (mg y) + A * rv (mg y) := by
    rw [hrv, ← Nat.add_mul, ← hu2]; exact Nat.mul_le_mul_right _ hsle
  have b2 : rv f * rv (mg y) ≤ r.natAbs * K74 := by rw [hrv]; exact Nat.mul_le_mul_right _ hs3
  rw [hu2, Nat.add_mul] at z2
  have c1 : 4503599627370496 * r.natAbs ≤ 4503599627370497 * rv (mg x) := by
    have : (4503599627370496 * r.natAbs) * K74 ≤ (4503599627370497 * rv (mg x)) * K74 := by rw [Nat.mul_assoc, Nat.mul_assoc]; omega
    exact Nat.le_of_mul_le_mul_right this hK
  have c2 : 4503599627370495 * rv (mg x) ≤ 4503599627370496 * r.natAbs := by
    have : (4503599627370495 * rv (mg x)) * K74 ≤ (4503599627370496 * r.natAbs) * K74 := by rw [Nat.mul_assoc, Nat.mul_assoc]; omega
    exact Nat.le_of_mul_le_mul_right this hK
  clear b1 b2 hYm
  -- the signs
  have hXs := sv_sn x
  have hYs := sv_sn y
  have hSs := sv_sn s
  have hx' := hx.abs
  have hy' := hy.abs
  have sgX : (X < 0 ↔ sg x = true) := by
    rw [← hx.val]; unfold sv; cases sg x <;> simp <;> omega
  have sgY : (Y < 0 ↔ sg y = true) := by
    rw [← hy.val]; unfold sv; cases sg y <;> simp <;> omega
  have sgS : (sv s < 0 ↔ sg s = true) := by
    unfold sv; cases sg s <;> simp <;> omega
  have hsr : (r < 0 ↔ X < 0) := by
    have hp : (0 : Int) < (K74 : Int) := by omega
    rw [K74_i] at hr
    have e1 : r < 0 ↔ sv s * Y < 0 := by
      rw [← hr]
      constructor
      · intro h; exact Int.mul_neg_of_neg_of_pos h hp
      · intro h
        rcases Int.lt_or_le r 0 with h' | h'
        · exact h'
        · have := Int.mul_nonneg h' (show (0 : Int) ≤ (K74 : Int) by omega); omega
    rw [e1, sgX]
    rw [hss] at sgS
    have t1 : sv s ≠ 0 := by omega
    have t2 : Y ≠ 0 := by omega
    rcases Int.lt_or_lt_of_ne t1 with a | a <;> rcases Int.lt_or_lt_of_ne t2 with b | b
    · have := Int.mul_pos_of_neg_of_neg a b
      have h1 := sgS.1 a; have h2 := sgY.1 b
      rw [h2] at h1
      cases h3 : sg x
      · exact ⟨fun h => by omega, fun h => by cases h⟩
      · rw [h3] at h1; cases h1
    · have := Int.mul_neg_of_neg_of_pos a b
      have h1 := sgS.1 a
      have h2 : sg y = false := by cases h : sg y; rfl; have := sgY.2 h; omega
      rw [h2] at h1
      cases h3 : sg x
      · rw [h3] at h1; cases h1
      · exact ⟨fun _ => rfl, fun _ => by omega⟩
    · have := Int.mul_neg_of_pos_of_neg a b
      have h1 : ¬ (sg x ^^ sg y) = true := fun h => by have := sgS.2 h; omega
      have h2 := sgY.1 b
      rw [h2] at h1
      cases h3 : sg x
      · rw [h3] at h1; exact absurd rfl h1
      · exact ⟨fun _ => rfl, fun _ => by omega⟩
    · have := Int.mul_pos a b
      have h1 : ¬ (sg x ^^ sg y) = true := fun h => by have := sgS.2 h; omega
      have h2 : sg y = false := by cases h : sg y; rfl; have := sgY.2 h; omega
      rw [h2] at h1
      cases h3 : sg x
      · exact ⟨fun h => by omega, fun h => by cases h⟩
      · rw [h3] at h1; exact absurd rfl h1
  -- x less the nearest product is exact
  have hPr : 9007199254740992 * (rn r - r).natAbs ≤ r.natAbs := by
    have h1 := ex_hi r.natAbs
    have h2 := rn_err h1
    by_cases h3 : ex r.natAbs = 0
    · rw [h3, Nat.pow_zero] at h2; omega
    · have h4 := ex_lo h3
      omega
  have hrep : RpZ (X - rn r) := sterbZ hx.rp (rn_rp _) (by omega)
  have bX := mx.2
  obtain ⟨a, oa, fa⟩ := hx.sub fpr (nr_cap (by omega))
  rw [rn_of hrep] at fa
  obtain ⟨b, ob, fb⟩ := fa.sub fm (nr_cap (by omega))
  rw [show X - rn r - (r - rn r) = X - r by omega] at fb
  refine ⟨m, a, b, _, _, om, oa, ob, fm, fb, fun d => ?_⟩
  obtain ⟨q1, q2⟩ := rn_pos (S := X - r)
  -- the nearest one beside the quotient
  have t1 : 4 * rv (near Z) < Z ↔ r.natAbs < rv (mg x) := by
    rw [← hms]
    conv => lhs; rw [hZ]
    rw [zd_gt hY0, ← hrv]
    exact ⟨fun h => Nat.lt_of_mul_lt_mul_right h, fun h => Nat.mul_lt_mul_of_pos_right h hK⟩
  have t2 : Z < 4 * rv (near Z) ↔ rv (mg x) < r.natAbs := by
    have h1 : 4 * rv (near Z) ≤ Z ↔ r.natAbs ≤ rv (mg x) := by
      rw [← hms]
      conv => lhs; rw [hZ]
      rw [zd_le hY0, ← hrv]
      exact ⟨fun h => Nat.le_of_mul_le_mul_right h hK, fun h => Nat.mul_le_mul_right _ h⟩
    omega
  refine rnd_nudge d (sg x ^^ sg y) (by have := cap_rv; omega) (K := key s) ?_ ?_ ?_
  · unfold key; rw [hss, hms]
  · rw [t1, t2]
    cases h3 : sg x <;> cases h4 : sg y <;> rw [h3] at sgX <;> rw [h4] at sgY <;> simp only [Bool.false_xor, Bool.true_xor, Bool.not_false, Bool.not_true, Bool.false_eq_true, if_true, if_false, iff_false, iff_true] at sgX sgY ⊢
    · rw [if_neg sgY]; omega
    · rw [if_pos sgY]; omega
    · rw [if_neg sgY]; omega
    · rw [if_pos sgY]; omega
  · rw [t1, t2]
    cases h3 : sg x <;> cases h4 : sg y <;> rw [h3] at sgX <;> rw [h4] at sgY <;> simp only [Bool.false_xor, Bool.true_xor, Bool.not_false, Bool.not_true, Bool.false_eq_true, if_true, if_false, iff_false, iff_true] at sgX sgY ⊢
    · rw [if_neg sgY]; omega
    · rw [if_pos sgY]; omega
    · rw [if_neg sgY]; omega
    · rw [if_pos sgY]; omega
end Go.Proofs.YtadijoeeaineaaaDoor.Rn

/-
  The contract of the program's Mul. Conditions: those that each theorem names.
-/
namespace Go.Proofs.YtadijoeeaineaaaDoor
open Go.RowKit Nm Rn
set_option maxRecDepth 100000
set_option linter.unusedVariables false
set_option linter.unusedSimpArgs false

theorem Fl.zero : Fl 0 0 := ⟨by omega, by rw [show mg 0 = 0 from rfl, infR_val]; omega, by unfold sv; rw [show mg 0 = 0 from rfl, rv_zero]; simp⟩
theorem near_le (Z : Nat) : near Z ≤ infR := rr_le 0 false Z
theorem three_cases {b1 b2 b3 : Bool} (h : ¬ (b1 = true ∧ b2 = true ∧ b3 = true)) : b1 = false ∨ (b1 = true ∧ b2 = false) ∨ (b1 = true ∧ b2 = true ∧ b3 = false) := by
  cases b1 <;> cases b2 <;> cases b3 <;> simp_all
theorem mul_units (d : Int) {q X : Int} (h : q * ((2 ^ 1074 : Nat) : Int) = X) : rT d X = rnd d (decide (q < 0)) (4 * q.natAbs) := by
  rw [← h, K74_i, rT_units]
/-- The NaN that an operation without an answer draws. -/
def nanOf (w : World) (x y : Nat) : Nat := (Question.nanBits .f64 x y).cut (w.tape w.drawn (.nanBits .f64 x y))
theorem nanOf_lt (w : World) (x y : Nat) : nanOf w x y < 18446744073709551616 := by
  show (w.tape w.drawn (.nanBits .f64 x y) % 2) * 2 ^ 63 + 0x7ff0000000000000 + 1 + (w.tape w.drawn (.nanBits .f64 x y) / 2) % (2 ^ 52 - 1) < _
  omega
theorem nanOf_nan (w : World) (x y : Nat) : isNaN (nanOf w x y) = true := by
  rw [isNaN_iff, infR_val]
  show _ < ((w.tape w.drawn (.nanBits .f64 x y) % 2) * 2 ^ 63 + 0x7ff0000000000000 + 1 + (w.tape w.drawn (.nanBits .f64 x y) / 2) % (2 ^ 52 - 1)) % 9223372036854775808
  generalize w.tape w.drawn (.nanBits .f64 x y) = t
  have h1 : t % 2 = 0 ∨ t % 2 = 1 := by omega
  have h2 : t / 2 % (2 ^ 52 - 1) < 4503599627370495 := Nat.mod_lt _ (by omega)
  generalize t / 2 % (2 ^ 52 - 1) = u at h2 ⊢
  rcases h1 with h1 | h1 <;> rw [h1] <;> omega
theorem run_nan {op : BinOp} {x y : Nat} (h : floatBits op .f64 x y = none) (ho : op = .add ∨ op = .sub ∨ op = .mul ∨ op = .quo) (w : World) : (binOp op 24 (.float .f64 x) (.float .f64 y)).run Tryd.prog w = .ok (.float .f64 (nanOf w x y)) w.drew := by
  rcases ho with rfl | rfl | rfl | rfl
  all_goals
    unfold floatBits at h
    simp only at h
    simp [binOp, Op.floatArith, h, Question.forced, nanOf]

theorem prod_nw (x y : Nat) : nw (fbSig x * fbSig y) ≤ 8 := by
  rw [nw_bl]
  have := bl_mul_le (fbSig x) (fbSig y); have := fbSig_bl x; have := fbSig_bl y; omega
section
variable {P : Program} {a : Act} {w : World} {Q : Exit → Act → World → Prop}
/-- A scope that is left forward to one label, once. -/
theorem wp_scope_to {c rest : Code} {l : Nat} {A : Act} {W : World} (hf : findLabel c l = some rest)
    (first : c.wp P (Exit.jump l (fun a' w' => a' = A ∧ w' = W) Q) a w)
    (pass : rest.wp P (Exit.jump l (fun _ _ => False) Q) A W) : (Code.scope c).wp P Q a w := by
  refine wp_scope_jumps l _ (fun _ _ => 0) hf first ?_
  rintro a' w' ⟨rfl, rfl⟩
  intro b k cs
  obtain ⟨e, a₁, w₁, hq, harr⟩ := pass b k cs
  refine ⟨e, a₁, w₁, ?_, harr⟩
  cases e with
  | goto l' => exact hq.2.elim
  | normal => exact hq
  | exit id => exact hq
  | ret => exact hq
  | panic ch => exact hq
  | outgrown => exact hq
theorem jump_ret {l : Nat} {J : Act → World → Prop} : Exit.jump l J Q .ret a w = Q .ret a w := rfl
end


set_option maxHeartbeats 2000000 in
theorem rmul_odd (d : Int) (x y : Nat) (w : World) (hx : x < 18446744073709551616) (hy : y < 18446744073709551616) (ho : (oddF x || oddF y) = true) :
    Calls Tryd.prog 15 #[.int .i64 d, .float .f64 x, .float .f64 y] w (RetFl (mulR d x y) w) := by
  have hm := mul_odd hx hy ho
  have hE0 : Ext w (w.alloc (.cells #[.float .f64 x, .float .f64 y] 24)) := (Ext.refl w).alloc _
  have hc0 : (w.alloc (.cells #[.float .f64 x, .float .f64 y] 24)).cell? ⟨w.heap.size, 0, none⟩ = some (.float .f64 x) := by simp
  have hc1 : (w.alloc (.cells #[.float .f64 x, .float .f64 y] 24)).cell? ⟨w.heap.size, 1, none⟩ = some (.float .f64 y) := by simp
  have HO := Lib.hid (fun g w c0 c1 => odd_two g x y w c0 c1 hx hy)
  rw [ho] at HO
  obtain ⟨V, hV⟩ : ∃ V, V = mulR d x y := ⟨_, rfl⟩
  rw [← hV]
  rcases hm with ⟨hm, hr⟩ | ⟨s, hm, hr⟩
  · rw [hr] at hV
    have HV := Lib.hid hV
    have hrun := fun w => run_nan (op := .mul) (x := x) (y := y) hm (by simp) w
    have HP := Lib.hid (fun v w => rplain_any (nanOf v x y) w (nanOf_lt v x y))
    clear ho hm hr hV hx hy
    go_enter Tryd.func15, Tryd.ntmps15
    go_wp2
    go_step3
    go_wp2_with fail
    generalize w.heap.size = g0 at hc0 hc1 ⊢
    generalize w.alloc _ = w1 at hE0 hc0 hc1 ⊢
    go_wp2_with (first | (go_at_call 74; refine (HO.out _ _ hc0 hc1).mono ?_; rintro e w' ⟨rfl, rfl⟩) | (go_at_call 82; refine (HP.out _ _).mono ?_; rintro e w' ⟨rfl, rfl⟩))
    rw [Exit.noGoto_ret]
    go_ret
    exact ⟨_, rfl, by rw [pl_nan (nanOf_nan _ x y)]; exact nanOf_lt _ x y, by rw [pl_nan (nanOf_nan _ x y), cn_nan (nanOf_nan _ x y)]; exact HV.out.symm, hE0.drew⟩
  · rw [hr] at hV
    have HV := Lib.hid hV
    have hrun := fun w => fmul hm w
    have HP := Lib.hid (fun w => rplain_any (infP s) w (infP_lt s))
    clear ho hm hr hV hx hy
    go_enter Tryd.func15, Tryd.ntmps15
    go_wp2
    go_step3
    go_wp2_with fail
    generalize w.heap.size = g0 at hc0 hc1 ⊢
    generalize w.alloc _ = w1 at hE0 hc0 hc1 ⊢
    go_wp2_with (first | (go_at_call 74; refine (HO.out _ _ hc0 hc1).mono ?_; rintro e w' ⟨rfl, rfl⟩) | (go_at_call 82; refine (HP.out _).mono ?_; rintro e w' ⟨rfl, rfl⟩))
    rw [Exit.noGoto_ret]
    go_ret
    exact ⟨_, rfl, by rw [pl_infP]; exact infP_lt s, by rw [pl_infP, cn_infP]; exact HV.out.symm, hE0⟩

set_option maxHeartbeats 4000000 in
theorem rmul_fin (d : Int) (x y : Nat) (w : World) (hx : x < 18446744073709551616) (hy : y < 18446744073709551616) (ho : (oddF x || oddF y) = false) :
    Calls Tryd.prog 15 #[.int .i64 d, .float .f64 x, .float .f64 y] w fun e w' => e = .returned (.float .f64 (rT d (sv x * sv y))) ∧ Ext w w' := by
  have hE0 : Ext w (w.alloc (.cells #[.float .f64 x, .float .f64 y] 24)) := (Ext.refl w).alloc _
  have hc0 : (w.alloc (.cells #[.float .f64 x, .float .f64 y] 24)).cell? ⟨w.heap.size, 0, none⟩ = some (.float .f64 x) := by simp
  have hc1 : (w.alloc (.cells #[.float .f64 x, .float .f64 y] 24)).cell? ⟨w.heap.size, 1, none⟩ = some (.float .f64 y) := by simp
  have HO := Lib.hid (fun g w c0 c1 => odd_two g x y w c0 c1 hx hy)
  rw [ho] at HO
  rw [Bool.or_eq_false_iff] at ho
  have fx := oddF_fin ho.1
  have fy := oddF_fin ho.2
  have hm := mul_fin hx hy fx fy
  obtain ⟨p, hp⟩ : ∃ p, p = Ieee.double.word (sg x ^^ sg y) (near (zq (rv (mg x) * rv (mg y)) (2 ^ 1073))) := ⟨_, rfl⟩
  rw [← hp] at hm
  have hnl := near_lt' (zq (rv (mg x) * rv (mg y)) (2 ^ 1073))
  have hpl : p < 18446744073709551616 := by rw [hp]; exact word_lt hnl
  have hpi : mg p ≤ infR := by rw [hp, mg_word hnl]; exact near_le _
  have hrun := fun w => fmul hm w
  have HMX := Lib.hid (fun w => middle_any x w hx (by omega))
  have HMY := Lib.hid (fun w => middle_any y w hy (by omega))
  have HMP := Lib.hid (fun w => middle_any p w hpl hpi)
  obtain ⟨V, hV⟩ : ∃ V, V = rT d (sv x * sv y) := ⟨_, rfl⟩
  rw [← hV]
  obtain ⟨b1, hb1⟩ : ∃ b, b = midB x := ⟨_, rfl⟩
  obtain ⟨b2, hb2⟩ : ∃ b, b = midB y := ⟨_, rfl⟩
  obtain ⟨b3, hb3⟩ : ∃ b, b = midB p := ⟨_, rfl⟩
  rw [← hb1] at HMX
  rw [← hb2] at HMY
  rw [← hb3] at HMP
  have HPX := Lib.hid (fun w => part_any x w hx)
  have HPY := Lib.hid (fun w => part_any y w hy)
  have HPR := Lib.hid (fun A n c B m e w h k => product_any (sg x) (sg y) A n c (nd (fbSig x)) (fbExp x) B m e (nd (fbSig y)) (fbExp y) w h (by have := h.len; rw [nd_length] at this; have := fbSig_nw x; omega) k (by have := k.len; rw [nd_length] at this; have := fbSig_nw y; omega) (by rw [nv_nd, nv_nd]; have := fbSig_bl x; have := fbSig_bl y; omega) (by have := fbExp_lo x; omega) (by have := fbExp_hi x; omega) (by have := fbExp_lo y; omega) (by have := fbExp_hi y; omega))
  have HTO := Lib.hid (fun A n c w h => to_any d (sg x != sg y) A n c (nd (fbSig x * fbSig y)) (fbExp x + fbExp y) w h (by have := h.len; rw [nd_length] at this; have := prod_nw x y; omega) (by rw [nv_nd]; have := prod_nw x y; omega) (by have := fbExp_lo x; have := fbExp_lo y; omega) (by have := fbExp_hi x; have := fbExp_hi y; omega))
  simp only [nv_nd] at HPR HTO
  have HV : Hid (V = rnd d (sg x != sg y) (zd (2 * (fbSig x * fbSig y)) (fbExp x + fbExp y - 1))) := Lib.hid (by rw [mul_exact]; exact hV)
  rw [← HV.out] at HTO
  by_cases hb : b1 = true ∧ b2 = true ∧ b3 = true
  · obtain ⟨rfl, rfl, rfl⟩ := hb
    obtain ⟨mx, -⟩ := mid_of hb1.symm
    obtain ⟨my, -⟩ := mid_of hb2.symm
    obtain ⟨mp, fp⟩ := mid_of hb3.symm
    obtain ⟨q, e, hq, hq0, hqg, oe, fpq, fe, hres⟩ := mul_quick (Fl.of hx fx) (Fl.of hy fy) mx my hm fp mp
    have HMI := Lib.hid (fun w => missed_any x y p e w oe)
    have HNU := Lib.hid (fun w => nudge_any d p e (q - rn q) w hpl fp fe.lt (by rw [fe.ltB Fl.zero]) (by rw [Fl.zero.ltB fe]))
    have hk := hres d
    have e1 := mul_units d hq
    rw [← hk, ← e1, ← hV] at HNU
    clear hk e1 hres fe fpq oe hqg hq0 hq mx my mp fp hb1 hb2 hb3 HV HTO HPR HPX HPY hV hpi hpl hnl hp hm fx fy ho hx hy
    go_enter Tryd.func15, Tryd.ntmps15
    go_wp2
    go_step3
    go_wp2_with fail
    generalize w.heap.size = g0 at hc0 hc1 ⊢
    generalize w.alloc _ = w1 at hE0 hc0 hc1 ⊢
    go_wp2_with (first | (go_at_call 74; refine (HO.out _ _ hc0 hc1).mono ?_; rintro e w' ⟨rfl, rfl⟩) | (go_at_call 75; ((with_reducible refine (HMX.out _).mono ?_); rintro e w' ⟨rfl, rfl⟩)) | (go_at_call 75; ((with_reducible refine (HMY.out _).mono ?_); rintro e w' ⟨rfl, rfl⟩)) | (go_at_call 75; ((with_reducible refine (HMP.out _).mono ?_); rintro e w' ⟨rfl, rfl⟩)) | (go_at_call 77; refine (HMI.out _).mono ?_; rintro e w' ⟨rfl, rfl⟩) | (go_at_call 78; refine (HNU.out _).mono ?_; rintro e w' ⟨rfl, rfl⟩))
    rw [Exit.noGoto_ret]
    go_ret
    exact ⟨rfl, hE0⟩
  · have hcase := three_cases hb
    clear hb hb1 hb2 hb3 HV hV hpi hpl hnl hp hm fx fy ho hx hy
    rcases hcase with rfl | ⟨rfl, rfl⟩ | ⟨rfl, rfl, rfl⟩
    all_goals
      go_enter Tryd.func15, Tryd.ntmps15
      go_wp2
      apply wp_scope_to (l := 0) (hf := by rfl)
      · go_wp2_with (first | (go_at_call 74; refine (HO.out _ _ hc0 hc1).mono ?_; rintro e w' ⟨rfl, rfl⟩) | (go_at_call 75; ((with_reducible refine (HMX.out _).mono ?_); rintro e w' ⟨rfl, rfl⟩)) | (go_at_call 75; ((with_reducible refine (HMY.out _).mono ?_); rintro e w' ⟨rfl, rfl⟩)) | (go_at_call 75; ((with_reducible refine (HMP.out _).mono ?_); rintro e w' ⟨rfl, rfl⟩)))
        go_step3
        exact ⟨rfl, rfl, rfl⟩
      · go_wp2_with fail
        refine (HPX.out _).mono ?_
        rintro e w2 ⟨A1, n1, c1, rfl, hR1, hE1⟩
        go_wp2_with fail
        refine (HPY.out _).mono ?_
        rintro e w3 ⟨A2, n2, c2, rfl, hR2, hE2⟩
        go_wp2_with fail
        refine (HPR.out _ _ _ _ _ _ _ (hR1.ext hE2) hR2).mono ?_
        rintro e w4 ⟨A3, n3, c3, rfl, hR3, hE3⟩
        go_wp2_with fail
        refine (HTO.out _ _ _ _ hR3).mono ?_
        rintro e w5 ⟨rfl, hE4⟩
        go_wp2
        rw [jump_ret]
        go_ret
        exact ⟨rfl, (((hE0.trans hE1).trans hE2).trans hE3).trans hE4⟩

theorem rmul_any (d : Int) (x y : Nat) (w : World) (hx : x < 18446744073709551616) (hy : y < 18446744073709551616) :
    Calls Tryd.prog 15 #[.int .i64 d, .float .f64 x, .float .f64 y] w (RetFl (mulR d x y) w) := by
  cases ho : (oddF x || oddF y)
  · refine (rmul_fin d x y w hx hy ho).mono ?_
    rintro e w' ⟨rfl, hE⟩
    have e1 : mulR d x y = rT d (sv x * sv y) := by
      unfold oddF at ho
      rw [Bool.or_eq_false_iff, Bool.or_eq_false_iff, Bool.or_eq_false_iff] at ho
      unfold mulR
      rw [ho.1.1, ho.1.2, ho.2.1, ho.2.2]
      rfl
    rw [e1]
    exact ⟨_, rfl, (rT_ok _ _).1, (rT_ok _ _).2, hE⟩
  · exact rmul_odd d x y w hx hy ho
end Go.Proofs.YtadijoeeaineaaaDoor

/-
  Plain: rounding keeps order; so do powers. Conditions: those that each theorem names.
-/
namespace Go.Proofs.YtadijoeeaineaaaDoor
open Nm Rn
set_option linter.unusedVariables false
set_option linter.unusedSimpArgs false

/-- One of the two directions. -/
def Dir (d : Int) : Prop := d = 1 ∨ d = -1
theorem rr_mono {d : Int} (hd : Dir d) (neg : Bool) {Z Z' : Nat} (h : Z ≤ Z') : rr d neg Z ≤ rr d neg Z' := by
  have h4 : Z / 4 ≤ Z' / 4 := Nat.div_le_div_right h
  have hm := rung_mono h4
  have h1 := rung_spec (Z / 4)
  have h2 := rung_spec (Z' / 4)
  unfold rr
  generalize infR = I at *
  split
  · omega
  · rename_i hc
    have ha : ∀ W, away d neg W = !decide (W = 4 * rv (rung (W / 4))) := fun W => by
      unfold away
      by_cases he : W = 4 * rv (rung (W / 4))
      · rw [if_pos he, decide_eq_true he]; rfl
      · rw [if_neg he, decide_eq_false he]
        rcases hd with rfl | rfl
        · rw [if_pos rfl]; cases neg
          · rfl
          · exact absurd (.inl ⟨rfl, rfl⟩) hc
        · rw [if_neg (by decide), if_pos rfl]; cases neg
          · exact absurd (.inr ⟨rfl, rfl⟩) hc
          · rfl
    rw [ha, ha]
    by_cases e : rung (Z / 4) = rung (Z' / 4)
    · rw [← e]
      by_cases e1 : Z = 4 * rv (rung (Z / 4))
      · rw [decide_eq_true e1]
        simp only [Bool.not_true, Bool.false_eq_true, if_false]
        split <;> omega
      · rw [decide_eq_false e1, decide_eq_false (show ¬ Z' = 4 * rv (rung (Z / 4)) by omega)]
        omega
    · split <;> split <;> omega
theorem rr_dirs (neg : Bool) (Z : Nat) : if neg then rr 1 true Z ≤ rr (-1) true Z else rr (-1) false Z ≤ rr 1 false Z := by
  cases neg
  · simp only [Bool.false_eq_true, if_false]
    unfold rr
    rw [if_pos (.inr ⟨rfl, rfl⟩), if_neg (by simp)]
    split <;> omega
  · simp only [if_true]
    unfold rr
    rw [if_pos (.inl ⟨rfl, rfl⟩), if_neg (by simp)]
    split <;> omega
theorem key_pat {s : Bool} {r : Nat} (hr : r ≤ infR) : key (pat s r) = if s then -(r : Int) else (r : Int) := by
  have e := infR_val
  unfold pat
  by_cases h : r = 0
  · rw [if_pos h, h]; cases s <;> rfl
  · rw [if_neg h]
    cases s
    · simp only [Bool.false_eq_true, if_false]
      unfold key
      have h1 : sg r = false := decide_eq_false (by omega)
      have h2 : mg r = r := by unfold mg; omega
      rw [h1, h2]; rfl
    · simp only [if_true]
      unfold key
      have h1 : sg (9223372036854775808 + r) = true := decide_eq_true (by omega)
      have h2 : mg (9223372036854775808 + r) = r := by unfold mg; omega
      rw [h1, h2]; rfl
theorem pat_nz {s : Bool} {r : Nat} (hr : r ≤ infR) : pat s r ≠ 9223372036854775808 := by
  have e := infR_val
  unfold pat
  split
  · omega
  · split <;> omega
theorem key_rnd (d : Int) (s : Bool) (Z : Nat) : key (rnd d s Z) = if s then -(rr d s Z : Int) else (rr d s Z : Int) := key_pat (rr_le d s Z)

theorem zq_mono {N m N' m' : Nat} (hm : 0 < m) (hm' : 0 < m') (h : N * m' ≤ N' * m) : zq N m ≤ zq N' m' := by
  rcases Nat.lt_or_ge (zq N' m') (zq N m) with hlt | hge
  · exfalso
    by_cases he : zq N' m' % 2 = 0
    · obtain ⟨T, hT⟩ : ∃ T, zq N' m' = 2 * T := ⟨zq N' m' / 2, by omega⟩
      have a1 := (zq_gt (N := N) hm (T := T)).1 (by omega)
      have a2 : ¬ T * m' < N' := fun h2 => by have := (zq_gt (N := N') hm' (T := T)).2 h2; omega
      have b1 : T * m * m' < N * m' := Nat.mul_lt_mul_of_pos_right a1 hm'
      have b2 : N' * m ≤ T * m' * m := Nat.mul_le_mul_right m (by omega)
      have b3 : T * m * m' = T * m' * m := by rw [Nat.mul_assoc, Nat.mul_comm m m', ← Nat.mul_assoc]
      omega
    · obtain ⟨T, hT⟩ : ∃ T, zq N' m' = 2 * T + 1 := ⟨zq N' m' / 2, by omega⟩
      have a1 := (zq_le (N := N) hm (T := T + 1)).1 (by omega)
      have a2 : ¬ (T + 1) * m' ≤ N' := fun h2 => by have := (zq_le (N := N') hm' (T := T + 1)).2 h2; omega
      have b1 : (T + 1) * m * m' ≤ N * m' := Nat.mul_le_mul_right m' a1
      have b2 : N' * m < (T + 1) * m' * m := Nat.mul_lt_mul_of_pos_right (by omega) hm
      have b3 : (T + 1) * m * m' = (T + 1) * m' * m := by rw [Nat.mul_assoc, Nat.mul_comm m m', ← Nat.mul_assoc]
      omega
  · exact hge
theorem zr_mono {N m N' m' : Nat} (hm : 0 < m) (hm' : 0 < m') (h : N * m' ≤ N' * m) : zr N m ≤ zr N' m' := by
  refine zq_mono hm hm' ?_
  have := Nat.mul_le_mul_right K75 h
  calc N * K75 * m' = N * m' * K75 := by ac_rfl
    _ ≤ N' * m * K75 := this
    _ = N' * K75 * m := by ac_rfl
theorem fb_cross {x y : Nat} (h : mg x ≤ mg y) : fbN x * fbD y ≤ fbN y * fbD x := by
  have h1 := fb_val x
  have h2 := fb_val y
  have h3 := rv_le h
  have h4 := Nat.mul_le_mul_right (fbD x * fbD y) h3
  have e1 : fbN x * fbD y * K74 = rv (mg x) * (fbD x * fbD y) := by
    calc fbN x * fbD y * K74 = fbN x * K74 * fbD y := by ac_rfl
      _ = rv (mg x) * (fbD x * fbD y) := by rw [h1]; ac_rfl
  have e2 : fbN y * fbD x * K74 = rv (mg y) * (fbD x * fbD y) := by
    calc fbN y * fbD x * K74 = fbN y * K74 * fbD x := by ac_rfl
      _ = rv (mg y) * (fbD x * fbD y) := by rw [h2]; ac_rfl
  rw [← e1, ← e2] at h4
  exact Nat.le_of_mul_le_mul_right h4 K74_pos
/-- The powers, as what is rounded. -/
def ZP (x m : Nat) : Nat := zr (fracN (fbN x ^ m) (fbD x ^ m) 0) (fracD (fbN x ^ m) (fbD x ^ m) 0)
def ZN (x m : Nat) : Nat := zr (fracN (1 * fracD (fbN x ^ m) (fbD x ^ m) 0) (1 * fracN (fbN x ^ m) (fbD x ^ m) 0) 0) (fracD (1 * fracD (fbN x ^ m) (fbD x ^ m) 0) (1 * fracN (fbN x ^ m) (fbD x ^ m) 0) 0)
theorem zr_frac_ {N D : Nat} (hD : 0 < D) : zr (fracN N D 0) (fracD N D 0) = zr N D := by
  have h := frac_val (n := N) (d := D) (e := 0) (p := 0) (q := 0) rfl
  rw [Nat.pow_zero, Nat.mul_one, Nat.mul_one] at h
  exact zr_congr (fracD_pos _ (by omega)) hD h
theorem ZP_eq (x m : Nat) : ZP x m = zr (fbN x ^ m) (fbD x ^ m) := zr_frac_ (Nat.pow_pos (fbD_pos x))
theorem fbN_pos_ {x : Nat} (h : mg x ≠ 0) : 0 < fbN x := Nat.pos_of_ne_zero fun e => h ((fbN_zero x).1 e)
theorem ZN_eq {x : Nat} (m : Nat) (h : mg x ≠ 0) : ZN x m = zr (fbD x ^ m) (fbN x ^ m) := by
  have hN : 0 < fbN x ^ m := Nat.pow_pos (fbN_pos_ h)
  have hD : 0 < fbD x ^ m := Nat.pow_pos (fbD_pos x)
  have hF := frac_val (n := fbN x ^ m) (d := fbD x ^ m) (e := 0) (p := 0) (q := 0) rfl
  rw [Nat.pow_zero, Nat.mul_one, Nat.mul_one] at hF
  have hP : 0 < fracN (fbN x ^ m) (fbD x ^ m) 0 := Nat.pos_of_ne_zero fun e => Nat.ne_of_gt hN (fracN_eq_zero.1 e)
  have hQ := fracD_pos (n := fbN x ^ m) 0 (Nat.ne_of_gt hD)
  unfold ZN
  rw [Nat.one_mul, Nat.one_mul, zr_frac_ hP]
  refine zr_congr hP hN ?_
  rw [Nat.mul_comm (fracD _ _ _), ← hF, Nat.mul_comm]
theorem ZP_mono {x y : Nat} (m : Nat) (h : mg x ≤ mg y) : ZP x m ≤ ZP y m := by
  rw [ZP_eq, ZP_eq]
  refine zr_mono (Nat.pow_pos (fbD_pos x)) (Nat.pow_pos (fbD_pos y)) ?_
  rw [← Nat.mul_pow, ← Nat.mul_pow]
  exact Nat.pow_le_pow_left (fb_cross h) m
theorem ZN_anti {x y : Nat} (m : Nat) (h0 : mg x ≠ 0) (h : mg x ≤ mg y) : ZN y m ≤ ZN x m := by
  have hy : mg y ≠ 0 := by omega
  rw [ZN_eq m h0, ZN_eq m hy]
  refine zr_mono (Nat.pow_pos (fbN_pos_ hy)) (Nat.pow_pos (fbN_pos_ h0)) ?_
  rw [← Nat.mul_pow, ← Nat.mul_pow]
  refine Nat.pow_le_pow_left ?_ m
  have := fb_cross h
  rw [Nat.mul_comm (fbD y), Nat.mul_comm (fbD x)]
  exact this

/-- What Pow answers at numbers. -/
theorem powR_pos {d : Int} {x : Nat} {n : Int} (hx : isNaN x = false) (hr : ¬ (n < -1024 ∨ 1024 < n)) (hi : mg x < infR) (hn : 0 < n) : powR d x n = rnd d (pwS (sg x) n.toNat) (ZP x n.toNat) := by
  have h2 : isInf x = false := decide_eq_false (by omega)
  unfold powR
  rw [if_neg (by rw [hx]; simp; omega), if_neg (by omega), if_neg (by rw [h2]; simp), if_neg (by omega), if_pos hn]
  rfl
theorem powR_neg {d : Int} {x : Nat} {n : Int} (hx : isNaN x = false) (hr : ¬ (n < -1024 ∨ 1024 < n)) (hi : mg x < infR) (h0 : mg x ≠ 0) (hn : n < 0) : powR d x n = rnd d (pwS (sg x) (-n).toNat) (ZN x (-n).toNat) := by
  have h2 : isInf x = false := decide_eq_false (by omega)
  unfold powR
  rw [if_neg (by rw [hx]; simp; omega), if_neg (by omega), if_neg (by rw [h2]; simp), if_neg (by omega), if_neg (by omega)]
  rfl
theorem powR_inf {d : Int} {x : Nat} {n : Int} (hx : isNaN x = false) (hr : ¬ (n < -1024 ∨ 1024 < n)) (hi : mg x = infR) (hn : n ≠ 0) : powR d x n = if n < 0 then 0 else if (sg x && decide (n % 2 ≠ 0)) = true then minf else infR := by
  have h2 : isInf x = true := decide_eq_true hi
  unfold powR
  rw [if_neg (by rw [hx]; simp; omega), if_neg hn, if_pos h2]
theorem mg_le_inf {x : Nat} (h : isNaN x = false) : mg x ≤ infR := by
  unfold isNaN at h
  have := of_decide_eq_false h
  omega
theorem key_nn {x : Nat} (h : 0 ≤ key x) : key x = (mg x : Int) := by
  unfold key at h ⊢
  cases hs : sg x
  · simp
  · rw [hs] at h; simp at h ⊢; omega
theorem key_np {x : Nat} (h : key x < 0) : key x = -(mg x : Int) ∧ sg x = true ∧ mg x ≠ 0 := by
  unfold key at h ⊢
  cases hs : sg x
  · rw [hs] at h; simp at h; omega
  · rw [hs] at h; simp at h ⊢; omega
theorem sg_nn {x : Nat} (h : 0 ≤ key x) (h0 : mg x ≠ 0) : sg x = false := by
  unfold key at h
  cases hs : sg x
  · rfl
  · rw [hs] at h; simp at h; omega
theorem pwS_false (m : Nat) : pwS false m = false := by unfold pwS; rfl
theorem ZP_zero {x m : Nat} (h : mg x = 0) (hm : 0 < m) : ZP x m = 0 := by
  rw [ZP_eq, (fbN_zero x).2 h, Nat.zero_pow hm]
  exact zr_zero _
/-- Powers of what is not below 0 keep order. -/
theorem pw_mono_nn {d : Int} (hd : Dir d) {x y : Nat} {n : Int} (hx : isNaN x = false) (hy : isNaN y = false) (hr : ¬ (n < -1024 ∨ 1024 < n)) (hn : 0 < n) (h0 : 0 ≤ key x) (h : key x ≤ key y) : 0 ≤ key (powR d x n) ∧ key (powR d x n) ≤ key (powR d y n) := by
  have kx := key_nn h0
  have ky := key_nn (show 0 ≤ key y by omega)
  have mx_ := mg_le_inf hx
  have my := mg_le_inf hy
  have nnat : 0 < n.toNat := by omega
  have val : ∀ {z : Nat}, isNaN z = false → 0 ≤ key z → mg z < infR → key (powR d z n) = (rr d false (ZP z n.toNat) : Int) := fun {z} hz hk hf => by
    rw [powR_pos hz hr hf hn, key_rnd]
    by_cases h1 : mg z = 0
    · rw [ZP_zero h1 nnat, rr_zero, rr_zero]; split <;> simp
    · rw [sg_nn hk h1, pwS_false]; rfl
  have vinf : ∀ {z : Nat}, isNaN z = false → 0 ≤ key z → mg z = infR → key (powR d z n) = 9218868437227405312 := fun {z} hz hk hf => by
    rw [powR_inf hz hr hf (by omega), if_neg (by omega), sg_nn hk (by rw [hf]; decide)]
    rfl
  have hle := rr_le d false (ZP x n.toNat)
  have e := infR_val
  by_cases fx : mg x = infR
  · have fy : mg y = infR := by omega
    rw [vinf hx h0 fx, vinf hy (by omega) fy]
    omega
  · rw [val hx h0 (by omega)]
    refine ⟨by omega, ?_⟩
    by_cases fy : mg y = infR
    · rw [vinf hy (by omega) fy]; omega
    · rw [val hy (by omega) (by omega)]
      have := rr_mono hd false (ZP_mono n.toNat (show mg x ≤ mg y by omega))
      omega
theorem pwS_odd {n : Int} (hn : n.tmod 2 ≠ 0) (hp : 0 < n) (s : Bool) : pwS s n.toNat = s := by
  obtain ⟨m, rfl⟩ := Int.eq_ofNat_of_zero_le (show 0 ≤ n by omega)
  have h2 : m % 2 = 1 := by
    have : (m : Int).tmod 2 = ((m % 2 : Nat) : Int) := rfl
    rw [this] at hn
    omega
  unfold pwS
  rw [Int.toNat_natCast, h2]
  cases s <;> rfl
/-- Odd powers keep order. -/
theorem pw_mono_odd {d : Int} (hd : Dir d) {x y : Nat} {n : Int} (hx : isNaN x = false) (hy : isNaN y = false) (hr : ¬ (n < -1024 ∨ 1024 < n)) (hn : 0 < n) (ho : n.tmod 2 ≠ 0) (h : key x ≤ key y) : key (powR d x n) ≤ key (powR d y n) := by
  by_cases h0 : 0 ≤ key x
  · exact (pw_mono_nn hd hx hy hr hn h0 h).2
  · obtain ⟨kx, sx, zx⟩ := key_np (show key x < 0 by omega)
    have e := infR_val
    have mx_ := mg_le_inf hx
    have my := mg_le_inf hy
    have n2 : (n % 2 ≠ 0) := by
      have := Int.emod_two_eq n
      rcases this with h1 | h1
      · exfalso
        obtain ⟨m, rfl⟩ := Int.eq_ofNat_of_zero_le (show 0 ≤ n by omega)
        have h2 : (m : Int).tmod 2 = ((m % 2 : Nat) : Int) := rfl
        rw [h2] at ho
        omega
      · omega
    have val : ∀ {z : Nat}, isNaN z = false → sg z = true → mg z < infR → key (powR d z n) = -(rr d true (ZP z n.toNat) : Int) := fun {z} hz hs hf => by
      rw [powR_pos hz hr hf hn, key_rnd, pwS_odd ho hn, hs]; rfl
    have vinf : ∀ {z : Nat}, isNaN z = false → sg z = true → mg z = infR → key (powR d z n) = -9218868437227405312 := fun {z} hz hs hf => by
      rw [powR_inf hz hr hf (by omega), if_neg (by omega), hs, decide_eq_true n2]
      rfl
    have lx : key (powR d x n) ≤ 0 := by
      by_cases fx : mg x = infR
      · rw [vinf hx sx fx]; omega
      · rw [val hx sx (by omega)]; omega
    by_cases hy0 : 0 ≤ key y
    · have := (pw_mono_nn hd hy hy hr hn hy0 (Int.le_refl _)).1
      omega
    · obtain ⟨ky, sy, zy⟩ := key_np (show key y < 0 by omega)
      by_cases fx : mg x = infR
      · have hk := key_le (powR_ok (d := d) hy hr).1
        rw [vinf hx sx fx]
        exact hk.2
      · have fy : mg y ≠ infR := by omega
        rw [val hx sx (by omega), val hy sy (by omega)]
        have := rr_mono hd true (ZP_mono n.toNat (show mg y ≤ mg x by omega))
        omega
/-- Powers below 0 turn order round, on each side of 0. -/
theorem pw_anti_p {d : Int} (hd : Dir d) {x y : Nat} {n : Int} (hx : isNaN x = false) (hy : isNaN y = false) (hr : ¬ (n < -1024 ∨ 1024 < n)) (hn : n < 0) (h0 : 0 < key x) (h : key x ≤ key y) : key (powR d y n) ≤ key (powR d x n) ∧ 0 ≤ key (powR d y n) := by
  have kx := key_nn (show 0 ≤ key x by omega)
  have ky := key_nn (show 0 ≤ key y by omega)
  have mx_ := mg_le_inf hx
  have my := mg_le_inf hy
  have val : ∀ {z : Nat}, isNaN z = false → 0 < key z → mg z < infR → key (powR d z n) = (rr d false (ZN z (-n).toNat) : Int) := fun {z} hz hk hf => by
    have hk0 := key_nn (show 0 ≤ key z by omega)
    rw [powR_neg hz hr hf (by omega) hn, key_rnd, sg_nn (by omega) (by omega), pwS_false]; rfl
  have vinf : ∀ {z : Nat}, isNaN z = false → mg z = infR → key (powR d z n) = 0 := fun {z} hz hf => by
    rw [powR_inf hz hr hf (by omega), if_pos hn]
    rfl
  by_cases fy : mg y = infR
  · rw [vinf hy fy]
    refine ⟨?_, by omega⟩
    by_cases fx : mg x = infR
    · rw [vinf hx fx]; omega
    · rw [val hx h0 (by omega)]; omega
  · rw [val hy (by omega) (by omega), val hx h0 (by omega)]
    have := rr_mono hd false (ZN_anti (-n).toNat (show mg x ≠ 0 by omega) (show mg x ≤ mg y by omega))
    omega
theorem pwS_oddn {n : Int} (hn : n.tmod 2 ≠ 0) (hp : n < 0) (s : Bool) : pwS s (-n).toNat = s := by
  refine pwS_odd (n := -n) ?_ (by omega) s
  rw [Int.neg_tmod]
  omega
theorem pw_anti_n {d : Int} (hd : Dir d) {x y : Nat} {n : Int} (hx : isNaN x = false) (hy : isNaN y = false) (hr : ¬ (n < -1024 ∨ 1024 < n)) (hn : n < 0) (ho : n.tmod 2 ≠ 0) (h0 : key y < 0) (h : key x ≤ key y) : key (powR d y n) ≤ key (powR d x n) ∧ key (powR d x n) ≤ 0 := by
  obtain ⟨kx, sx, zx⟩ := key_np (show key x < 0 by omega)
  obtain ⟨ky, sy, zy⟩ := key_np h0
  have mx_ := mg_le_inf hx
  have my := mg_le_inf hy
  have val : ∀ {z : Nat}, isNaN z = false → sg z = true → mg z ≠ 0 → mg z < infR → key (powR d z n) = -(rr d true (ZN z (-n).toNat) : Int) := fun {z} hz hs h1 hf => by
    rw [powR_neg hz hr hf h1 hn, key_rnd, pwS_oddn ho hn, hs]; rfl
  have vinf : ∀ {z : Nat}, isNaN z = false → mg z = infR → key (powR d z n) = 0 := fun {z} hz hf => by
    rw [powR_inf hz hr hf (by omega), if_pos hn]
    rfl
  by_cases fx : mg x = infR
  · rw [vinf hx fx]
    refine ⟨?_, by omega⟩
    by_cases fy : mg y = infR
    · rw [vinf hy fy]; omega
    · rw [val hy sy zy (by omega)]; omega
  · rw [val hx sx zx (by omega), val hy sy zy (by omega)]
    have := rr_mono hd true (ZN_anti (-n).toNat zy (show mg y ≤ mg x by omega))
    omega
/-- Down is not above Up. -/
theorem pw_dirs {x : Nat} {n : Int} (hx : isNaN x = false) (hr : ¬ (n < -1024 ∨ 1024 < n)) (hn : n ≠ 0) (h0 : mg x ≠ 0 ∨ 0 < n) : key (powR (-1) x n) ≤ key (powR 1 x n) := by
  have mx_ := mg_le_inf hx
  by_cases fx : mg x = infR
  · rw [powR_inf hx hr fx hn, powR_inf hx hr fx hn]
    exact Int.le_refl _
  · have go : ∀ (s : Bool) (Z : Nat), key (rnd (-1) s Z) ≤ key (rnd 1 s Z) := fun s Z => by
      rw [key_rnd, key_rnd]
      have := rr_dirs s Z
      cases s
      · simp only [Bool.false_eq_true, if_false] at this ⊢; omega
      · simp only [if_true] at this ⊢; omega
    by_cases hp : 0 < n
    · rw [powR_pos hx hr (by omega) hp, powR_pos hx hr (by omega) hp]; exact go _ _
    · rw [powR_neg hx hr (by omega) (by omega) (by omega), powR_neg hx hr (by omega) (by omega) (by omega)]; exact go _ _
end Go.Proofs.YtadijoeeaineaaaDoor
