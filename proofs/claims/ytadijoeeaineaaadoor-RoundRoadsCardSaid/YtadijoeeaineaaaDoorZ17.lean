/-
  The contract of the program's Mul. Conditions: those that each theorem names.
-/
import Derived.Test.YtadijoeeaineaaaDoorZ09
import Derived.Test.YtadijoeeaineaaaDoorZ16
import Derived.Test.YtadijoeeaineaaaDoorZ07
import Derived.ScopeJumps
import Derived.Test.YtadijoeeaineaaaDoorZ08
namespace Go.Proofs.YtadijoeeaineaaaDoor
open Go.RowKit Nm Rn
set_option maxRecDepth 100000
set_option linter.unusedVariables false
set_option linter.unusedSimpArgs false

theorem Fl.zero : Fl 0 0 := ⟨by omega, by rw [show mg 0 = 0 from rfl, infR_val]; omega, by unfold sv; rw [show mg 0 = 0 from rfl, rv_zero]; simp⟩
theorem near_le (Z : Nat) : near Z ≤ infR := rr_le 0 false Z
theorem three_cases {b1 b2 b3 : Bool} (h : ¬ (b1 = true ∧ b2 = true ∧ b3 = true)) : b1 = false ∨ (b1 = true ∧ b2 = false) ∨ (b1 = true ∧ b2 = true ∧ b3 = false) := by
  cases b1 <;> cases b2 <;> cases b3 <;> simp_all
theorem mul_units (d : Int) {q X : Int} (h : q * ((2 ^ 1074 : Nat) : Int) = X) : rT d X = rnd d (decide (q < 0)) (4 * q.natAbs) := by
  rw [← h, K74_i, rT_units]
/-- The NaN that an operation without an answer draws. -/
def nanOf (w : World) (x y : Nat) : Nat := (Question.nanBits .f64 x y).cut (w.tape w.drawn (.nanBits .f64 x y))
theorem nanOf_lt (w : World) (x y : Nat) : nanOf w x y < 18446744073709551616 := by
  show (w.tape w.drawn (.nanBits .f64 x y) % 2) * 2 ^ 63 + 0x7ff0000000000000 + 1 + (w.tape w.drawn (.nanBits .f64 x y) / 2) % (2 ^ 52 - 1) < _
  omega
theorem nanOf_nan (w : World) (x y : Nat) : isNaN (nanOf w x y) = true := by
  rw [isNaN_iff, infR_val]
  show _ < ((w.tape w.drawn (.nanBits .f64 x y) % 2) * 2 ^ 63 + 0x7ff0000000000000 + 1 + (w.tape w.drawn (.nanBits .f64 x y) / 2) % (2 ^ 52 - 1)) % 9223372036854775808
  generalize w.tape w.drawn (.nanBits .f64 x y) = t
  have h1 : t % 2 = 0 ∨ t % 2 = 1 := by omega
  have h2 : t / 2 % (2 ^ 52 - 1) < 4503599627370495 := Nat.mod_lt _ (by omega)
  generalize t / 2 % (2 ^ 52 - 1) = u at h2 ⊢
  rcases h1 with h1 | h1 <;> rw [h1] <;> omega
theorem run_nan {op : BinOp} {x y : Nat} (h : floatBits op .f64 x y = none) (ho : op = .add ∨ op = .sub ∨ op = .mul ∨ op = .quo) (w : World) : (binOp op 24 (.float .f64 x) (.float .f64 y)).run Tryd.prog w = .ok (.float .f64 (nanOf w x y)) w.drew := by
  rcases ho with rfl | rfl | rfl | rfl
  all_goals
    unfold floatBits at h
    simp only at h
    simp [binOp, Op.floatArith, h, Question.forced, nanOf]

theorem fbSig_nw (b : Nat) : nw (fbSig b) ≤ 2 := (nw_le_iff _ 2).2 (by have := fbSig_lt b; omega)
theorem fbSig_bl (b : Nat) : bl (fbSig b) ≤ 64 := by have h1 := bl_le_nw (fbSig b); have := fbSig_nw b; omega
theorem prod_nw (x y : Nat) : nw (fbSig x * fbSig y) ≤ 8 := by
  rw [nw_bl]
  have := bl_mul_le (fbSig x) (fbSig y); have := fbSig_bl x; have := fbSig_bl y; omega
section
variable {P : Program} {a : Act} {w : World} {Q : Exit → Act → World → Prop}
/-- A scope that is left forward to one label, once. -/
theorem wp_scope_to {c rest : Code} {l : Nat} {A : Act} {W : World} (hf : findLabel c l = some rest)
    (first : c.wp P (Exit.jump l (fun a' w' => a' = A ∧ w' = W) Q) a w)
    (pass : rest.wp P (Exit.jump l (fun _ _ => False) Q) A W) : (Code.scope c).wp P Q a w := by
  refine wp_scope_jumps l _ (fun _ _ => 0) hf first ?_
  rintro a' w' ⟨rfl, rfl⟩
  intro b k cs
  obtain ⟨e, a₁, w₁, hq, harr⟩ := pass b k cs
  refine ⟨e, a₁, w₁, ?_, harr⟩
  cases e with
  | goto l' => exact hq.2.elim
  | normal => exact hq
  | exit id => exact hq
  | ret => exact hq
  | panic ch => exact hq
  | outgrown => exact hq
theorem jump_ret {l : Nat} {J : Act → World → Prop} : Exit.jump l J Q .ret a w = Q .ret a w := rfl
end

/-- What a rounding answers: NaN is any of them. -/
def RetFl (v : Nat) (w : World) (e : Ending) (w' : World) : Prop :=
  ∃ r, e = .returned (.float .f64 r) ∧ r < 18446744073709551616 ∧ cn r = v ∧ Ext w w'
theorem cn_nan {r : Nat} (h : isNaN r = true) : cn r = NaNc := by unfold cn; rw [h]; rfl
theorem cn_num {r : Nat} (h : isNaN r = false) : cn r = r := by unfold cn; rw [h]; rfl
theorem pl_nan {r : Nat} (h : isNaN r = true) : pl r = r := by
  unfold pl
  split
  · rename_i h0; subst h0; cases h
  · rfl
theorem cn_infP (s : Bool) : cn (infP s) = infP s := by cases s <;> rfl
theorem pl_infP (s : Bool) : pl (infP s) = infP s := by cases s <;> rfl
theorem infP_lt (s : Bool) : infP s < 18446744073709551616 := by cases s; exact infR_lt; exact minf_lt
theorem rnd_ok (d : Int) (neg : Bool) (Z : Nat) : rnd d neg Z < 18446744073709551616 ∧ isNaN (rnd d neg Z) = false := by
  have h := rr_le d neg Z
  rw [infR_val] at h
  unfold rnd pat
  generalize rr d neg Z = r at h
  have h2 : isNaN 0 = false := rfl
  by_cases h0 : r = 0
  · rw [if_pos h0]; exact ⟨by omega, h2⟩
  · rw [if_neg h0]
    unfold isNaN mg
    rw [infR_val]
    cases neg
    · simp; omega
    · simp; omega
theorem rT_ok (d : Int) (T : Int) : rT d T < 18446744073709551616 ∧ cn (rT d T) = rT d T := ⟨(rnd_ok _ _ _).1, cn_num (rnd_ok _ _ _).2⟩

set_option maxHeartbeats 2000000 in
theorem rmul_odd (d : Int) (x y : Nat) (w : World) (hx : x < 18446744073709551616) (hy : y < 18446744073709551616) (ho : (oddF x || oddF y) = true) :
    Calls Tryd.prog 15 #[.int .i64 d, .float .f64 x, .float .f64 y] w (RetFl (mulR d x y) w) := by
  have hm := mul_odd hx hy ho
  have hE0 : Ext w (w.alloc (.cells #[.float .f64 x, .float .f64 y] 24)) := (Ext.refl w).alloc _
  have hc0 : (w.alloc (.cells #[.float .f64 x, .float .f64 y] 24)).cell? ⟨w.heap.size, 0, none⟩ = some (.float .f64 x) := by simp
  have hc1 : (w.alloc (.cells #[.float .f64 x, .float .f64 y] 24)).cell? ⟨w.heap.size, 1, none⟩ = some (.float .f64 y) := by simp
  have HO := Lib.hid (fun g w c0 c1 => odd_two g x y w c0 c1 hx hy)
  rw [ho] at HO
  obtain ⟨V, hV⟩ : ∃ V, V = mulR d x y := ⟨_, rfl⟩
  rw [← hV]
  rcases hm with ⟨hm, hr⟩ | ⟨s, hm, hr⟩
  · rw [hr] at hV
    have HV := Lib.hid hV
    have hrun := fun w => run_nan (op := .mul) (x := x) (y := y) hm (by simp) w
    have HP := Lib.hid (fun v w => rplain_any (nanOf v x y) w (nanOf_lt v x y))
    clear ho hm hr hV hx hy
    go_enter Tryd.func15, Tryd.ntmps15
    go_wp2
    go_step3
    go_wp2_with fail
    generalize w.heap.size = g0 at hc0 hc1 ⊢
    generalize w.alloc _ = w1 at hE0 hc0 hc1 ⊢
    go_wp2_with (first | (go_at_call 74; refine (HO.out _ _ hc0 hc1).mono ?_; rintro e w' ⟨rfl, rfl⟩) | (go_at_call 82; refine (HP.out _ _).mono ?_; rintro e w' ⟨rfl, rfl⟩))
    rw [Exit.noGoto_ret]
    go_ret
    exact ⟨_, rfl, by rw [pl_nan (nanOf_nan _ x y)]; exact nanOf_lt _ x y, by rw [pl_nan (nanOf_nan _ x y), cn_nan (nanOf_nan _ x y)]; exact HV.out.symm, hE0.drew⟩
  · rw [hr] at hV
    have HV := Lib.hid hV
    have hrun := fun w => fmul hm w
    have HP := Lib.hid (fun w => rplain_any (infP s) w (infP_lt s))
    clear ho hm hr hV hx hy
    go_enter Tryd.func15, Tryd.ntmps15
    go_wp2
    go_step3
    go_wp2_with fail
    generalize w.heap.size = g0 at hc0 hc1 ⊢
    generalize w.alloc _ = w1 at hE0 hc0 hc1 ⊢
    go_wp2_with (first | (go_at_call 74; refine (HO.out _ _ hc0 hc1).mono ?_; rintro e w' ⟨rfl, rfl⟩) | (go_at_call 82; refine (HP.out _).mono ?_; rintro e w' ⟨rfl, rfl⟩))
    rw [Exit.noGoto_ret]
    go_ret
    exact ⟨_, rfl, by rw [pl_infP]; exact infP_lt s, by rw [pl_infP, cn_infP]; exact HV.out.symm, hE0⟩

set_option maxHeartbeats 4000000 in
theorem rmul_fin (d : Int) (x y : Nat) (w : World) (hx : x < 18446744073709551616) (hy : y < 18446744073709551616) (ho : (oddF x || oddF y) = false) :
    Calls Tryd.prog 15 #[.int .i64 d, .float .f64 x, .float .f64 y] w fun e w' => e = .returned (.float .f64 (rT d (sv x * sv y))) ∧ Ext w w' := by
  have hE0 : Ext w (w.alloc (.cells #[.float .f64 x, .float .f64 y] 24)) := (Ext.refl w).alloc _
  have hc0 : (w.alloc (.cells #[.float .f64 x, .float .f64 y] 24)).cell? ⟨w.heap.size, 0, none⟩ = some (.float .f64 x) := by simp
  have hc1 : (w.alloc (.cells #[.float .f64 x, .float .f64 y] 24)).cell? ⟨w.heap.size, 1, none⟩ = some (.float .f64 y) := by simp
  have HO := Lib.hid (fun g w c0 c1 => odd_two g x y w c0 c1 hx hy)
  rw [ho] at HO
  rw [Bool.or_eq_false_iff] at ho
  have fx := oddF_fin ho.1
  have fy := oddF_fin ho.2
  have hm := mul_fin hx hy fx fy
  obtain ⟨p, hp⟩ : ∃ p, p = Ieee.double.word (sg x ^^ sg y) (near (zq (rv (mg x) * rv (mg y)) (2 ^ 1073))) := ⟨_, rfl⟩
  rw [← hp] at hm
  have hnl := near_lt' (zq (rv (mg x) * rv (mg y)) (2 ^ 1073))
  have hpl : p < 18446744073709551616 := by rw [hp]; exact word_lt hnl
  have hpi : mg p ≤ infR := by rw [hp, mg_word hnl]; exact near_le _
  have hrun := fun w => fmul hm w
  have HMX := Lib.hid (fun w => middle_any x w hx (by omega))
  have HMY := Lib.hid (fun w => middle_any y w hy (by omega))
  have HMP := Lib.hid (fun w => middle_any p w hpl hpi)
  obtain ⟨V, hV⟩ : ∃ V, V = rT d (sv x * sv y) := ⟨_, rfl⟩
  rw [← hV]
  obtain ⟨b1, hb1⟩ : ∃ b, b = midB x := ⟨_, rfl⟩
  obtain ⟨b2, hb2⟩ : ∃ b, b = midB y := ⟨_, rfl⟩
  obtain ⟨b3, hb3⟩ : ∃ b, b = midB p := ⟨_, rfl⟩
  rw [← hb1] at HMX
  rw [← hb2] at HMY
  rw [← hb3] at HMP
  have HPX := Lib.hid (fun w => part_any x w hx)
  have HPY := Lib.hid (fun w => part_any y w hy)
  have HPR := Lib.hid (fun A n c B m e w h k => product_any (sg x) (sg y) A n c (nd (fbSig x)) (fbExp x) B m e (nd (fbSig y)) (fbExp y) w h (by have := h.len; rw [nd_length] at this; have := fbSig_nw x; omega) k (by have := k.len; rw [nd_length] at this; have := fbSig_nw y; omega) (by rw [nv_nd, nv_nd]; have := fbSig_bl x; have := fbSig_bl y; omega) (by have := fbExp_lo x; omega) (by have := fbExp_hi x; omega) (by have := fbExp_lo y; omega) (by have := fbExp_hi y; omega))
  have HTO := Lib.hid (fun A n c w h => to_any d (sg x != sg y) A n c (nd (fbSig x * fbSig y)) (fbExp x + fbExp y) w h (by have := h.len; rw [nd_length] at this; have := prod_nw x y; omega) (by rw [nv_nd]; have := prod_nw x y; omega) (by have := fbExp_lo x; have := fbExp_lo y; omega) (by have := fbExp_hi x; have := fbExp_hi y; omega))
  simp only [nv_nd] at HPR HTO
  have HV : Hid (V = rnd d (sg x != sg y) (zd (2 * (fbSig x * fbSig y)) (fbExp x + fbExp y - 1))) := Lib.hid (by rw [mul_exact]; exact hV)
  rw [← HV.out] at HTO
  by_cases hb : b1 = true ∧ b2 = true ∧ b3 = true
  · obtain ⟨rfl, rfl, rfl⟩ := hb
    obtain ⟨mx, -⟩ := mid_of hb1.symm
    obtain ⟨my, -⟩ := mid_of hb2.symm
    obtain ⟨mp, fp⟩ := mid_of hb3.symm
    obtain ⟨q, e, hq, hq0, hqg, oe, fpq, fe, hres⟩ := mul_quick (Fl.of hx fx) (Fl.of hy fy) mx my hm fp mp
    have HMI := Lib.hid (fun w => missed_any x y p e w oe)
    have HNU := Lib.hid (fun w => nudge_any d p e (q - rn q) w hpl fp fe.lt (by rw [fe.ltB Fl.zero]) (by rw [Fl.zero.ltB fe]))
    have hk := hres d
    have e1 := mul_units d hq
    rw [← hk, ← e1, ← hV] at HNU
    clear hk e1 hres fe fpq oe hqg hq0 hq mx my mp fp hb1 hb2 hb3 HV HTO HPR HPX HPY hV hpi hpl hnl hp hm fx fy ho hx hy
    go_enter Tryd.func15, Tryd.ntmps15
    go_wp2
    go_step3
    go_wp2_with fail
    generalize w.heap.size = g0 at hc0 hc1 ⊢
    generalize w.alloc _ = w1 at hE0 hc0 hc1 ⊢
    go_wp2_with (first | (go_at_call 74; refine (HO.out _ _ hc0 hc1).mono ?_; rintro e w' ⟨rfl, rfl⟩) | (go_at_call 75; ((with_reducible refine (HMX.out _).mono ?_); rintro e w' ⟨rfl, rfl⟩)) | (go_at_call 75; ((with_reducible refine (HMY.out _).mono ?_); rintro e w' ⟨rfl, rfl⟩)) | (go_at_call 75; ((with_reducible refine (HMP.out _).mono ?_); rintro e w' ⟨rfl, rfl⟩)) | (go_at_call 77; refine (HMI.out _).mono ?_; rintro e w' ⟨rfl, rfl⟩) | (go_at_call 78; refine (HNU.out _).mono ?_; rintro e w' ⟨rfl, rfl⟩))
    rw [Exit.noGoto_ret]
    go_ret
    exact ⟨rfl, hE0⟩
  · have hcase := three_cases hb
    clear hb hb1 hb2 hb3 HV hV hpi hpl hnl hp hm fx fy ho hx hy
    rcases hcase with rfl | ⟨rfl, rfl⟩ | ⟨rfl, rfl, rfl⟩
    all_goals
      go_enter Tryd.func15, Tryd.ntmps15
      go_wp2
      apply wp_scope_to (l := 0) (hf := by rfl)
      · go_wp2_with (first | (go_at_call 74; refine (HO.out _ _ hc0 hc1).mono ?_; rintro e w' ⟨rfl, rfl⟩) | (go_at_call 75; ((with_reducible refine (HMX.out _).mono ?_); rintro e w' ⟨rfl, rfl⟩)) | (go_at_call 75; ((with_reducible refine (HMY.out _).mono ?_); rintro e w' ⟨rfl, rfl⟩)) | (go_at_call 75; ((with_reducible refine (HMP.out _).mono ?_); rintro e w' ⟨rfl, rfl⟩)))
        go_step3
        exact ⟨rfl, rfl, rfl⟩
      · go_wp2_with fail
        refine (HPX.out _).mono ?_
        rintro e w2 ⟨A1, n1, c1, rfl, hR1, hE1⟩
        go_wp2_with fail
        refine (HPY.out _).mono ?_
        rintro e w3 ⟨A2, n2, c2, rfl, hR2, hE2⟩
        go_wp2_with fail
        refine (HPR.out _ _ _ _ _ _ _ (hR1.ext hE2) hR2).mono ?_
        rintro e w4 ⟨A3, n3, c3, rfl, hR3, hE3⟩
        go_wp2_with fail
        refine (HTO.out _ _ _ _ hR3).mono ?_
        rintro e w5 ⟨rfl, hE4⟩
        go_wp2
        rw [jump_ret]
        go_ret
        exact ⟨rfl, (((hE0.trans hE1).trans hE2).trans hE3).trans hE4⟩

theorem rmul_any (d : Int) (x y : Nat) (w : World) (hx : x < 18446744073709551616) (hy : y < 18446744073709551616) :
    Calls Tryd.prog 15 #[.int .i64 d, .float .f64 x, .float .f64 y] w (RetFl (mulR d x y) w) := by
  cases ho : (oddF x || oddF y)
  · refine (rmul_fin d x y w hx hy ho).mono ?_
    rintro e w' ⟨rfl, hE⟩
    have e1 : mulR d x y = rT d (sv x * sv y) := by
      unfold oddF at ho
      rw [Bool.or_eq_false_iff, Bool.or_eq_false_iff, Bool.or_eq_false_iff] at ho
      unfold mulR
      rw [ho.1.1, ho.1.2, ho.2.1, ho.2.2]
      rfl
    rw [e1]
    exact ⟨_, rfl, (rT_ok _ _).1, (rT_ok _ _).2, hE⟩
  · exact rmul_odd d x y w hx hy ho
end Go.Proofs.YtadijoeeaineaaaDoor

/-
  Plain: what Of answers, for every exponent. Conditions: those that each theorem names.
-/
set_option linter.unusedVariables false
set_option linter.unusedSimpArgs false
namespace Go.Proofs.YtadijoeeaineaaaDoor.Rn
open Nm

def holdZ (e : Int) : Int := min (max e (-1099511627776)) 1099511627776
/-- What Of answers. -/
def ofR (d : Int) (neg : Bool) (V : Nat) (e : Int) : Nat :=
  if 524288 < bl V then NaNc
  else if V = 0 then 0
  else if (bl V : Int) + e < -1076 then rnd d neg 1
  else if 1023 < (bl V : Int) - 1 + e then pat neg (if twB d neg then infR - 1 else infR)
  else rnd d neg (zd (2 * V) (e - 1))

theorem zd_tiny {V : Nat} {e : Int} (hV : V ≠ 0) (h : (bl V : Int) + e < -1076) : zd (2 * V) (e - 1) = 1 := by
  obtain ⟨B, hB⟩ : ∃ B : Nat, (B : Int) = -(e + 1074) := ⟨(-(e + 1074)).toNat, by omega⟩
  rw [zd_of (A := 0) (B := B) (by omega), Nat.pow_zero, Nat.mul_one]
  have hlt : 2 * V < 2 ^ B := by
    have h1 := lt_pow_bl V
    have h2 : 2 ^ (bl V + 1) ≤ 2 ^ B := Nat.pow_le_pow_right (by omega) (by omega)
    rw [Nat.pow_succ] at h2
    omega
  unfold zq
  rw [Nat.div_eq_of_lt hlt, Nat.mod_eq_of_lt hlt, if_neg (by omega)]
theorem ofR_tiny {d : Int} {neg : Bool} {V : Nat} {e : Int} (hV : V ≠ 0) (hb : bl V ≤ 524288) (h : (bl V : Int) + e < -1076) : ofR d neg V e = rnd d neg 1 := by
  unfold ofR
  rw [if_neg (by omega), if_neg hV, if_pos h]
/-- A held exponent: where it is not tiny. -/
theorem ofR_hold {d : Int} {neg : Bool} {V : Nat} {e : Int} (hb : bl V ≤ 524288) (h : V = 0 ∨ -1100 ≤ (bl V : Int) + holdZ e) : ofR d neg V e = rnd d neg (zd (2 * V) (holdZ e - 1)) := by
  unfold ofR
  rw [if_neg (by omega)]
  by_cases h0 : V = 0
  · rw [if_pos h0, h0, Nat.mul_zero, zd_zero, rnd_zero]
  · rw [if_neg h0]
    have h := h.resolve_left h0
    have hbp := bl_pos h0
    by_cases h1 : (bl V : Int) + e < -1076
    · rw [if_pos h1]
      have h2 : (bl V : Int) + holdZ e < -1076 := by unfold holdZ at h ⊢; omega
      rw [zd_tiny h0 h2]
    · rw [if_neg h1]
      by_cases h2 : 1023 < (bl V : Int) - 1 + e
      · rw [if_pos h2]
        have h3 : 1023 < (bl V : Int) - 1 + holdZ e := by unfold holdZ; omega
        have := rnd_big (m := 0) h0 h3 d neg
        rw [Nat.add_zero] at this
        exact this.symm
      · rw [if_neg h2]
        have h3 : holdZ e = e := by unfold holdZ; omega
        rw [h3]
theorem zd_two (V : Nat) (e : Int) : zd (2 * V) (e - 1) = zd V e := by
  obtain ⟨A, B, hAB⟩ : ∃ A B : Nat, (A : Int) - B = e + 1075 := ⟨(e + 1075).toNat, (-(e + 1075)).toNat, by omega⟩
  rw [zd_of hAB, zd_of (A := A) (B := B + 1) (by omega)]
  refine zq_congr (two_pow_pos _) (two_pow_pos _) ?_
  rw [Nat.pow_succ]
  have : 2 * V * 2 ^ A * 2 ^ B = 2 * (V * 2 ^ A * 2 ^ B) := by rw [Nat.mul_assoc, Nat.mul_assoc, Nat.mul_assoc]
  rw [this]
  have : V * 2 ^ A * (2 ^ B * 2) = 2 * (V * 2 ^ A * 2 ^ B) := by rw [← Nat.mul_assoc, Nat.mul_comm]
  rw [this]
end Go.Proofs.YtadijoeeaineaaaDoor.Rn

/-
  The contracts of the program's hold and Of. Conditions: those that each theorem names.
-/
namespace Go.Proofs.YtadijoeeaineaaaDoor
open Go.RowKit Nm Rn
set_option maxRecDepth 100000
set_option linter.unusedVariables false
set_option linter.unusedSimpArgs false

set_option maxHeartbeats 400000 in
theorem hold_any (x : Int) (w : World) :
    Calls Tryd.prog 88 #[.int .i64 x] w fun e w' => e = .returned (.int .i64 (holdZ x)) ∧ w = w' := by
  rcases Int.lt_or_le x (-1099511627776) with h | h
  · have HF : Hid (-1099511627776 = holdZ x) := Lib.hid (by unfold holdZ; omega)
    go_enter Tryd.func88, Tryd.ntmps88
    go_wp2
    go_ret
    exact ⟨ret_int (by have := HF.out; omega), rfl⟩
  · rcases Int.lt_or_le 1099511627776 x with h2 | h2
    · have HF : Hid (1099511627776 = holdZ x) := Lib.hid (by unfold holdZ; omega)
      go_enter Tryd.func88, Tryd.ntmps88
      go_wp2
      go_ret
      exact ⟨ret_int (by have := HF.out; omega), rfl⟩
    · have HF : Hid (x = holdZ x) := Lib.hid (by unfold holdZ; omega)
      go_enter Tryd.func88, Tryd.ntmps88
      go_wp2
      go_ret
      exact ⟨ret_int (by have := HF.out; omega), rfl⟩

set_option maxHeartbeats 400000 in
theorem mnanc_any (w : World) : Calls Tryd.prog 61 #[] w fun e w' => e = .returned (.float .f64 NaNc) ∧ w = w' := by
  go_enter Tryd.func61, Tryd.ntmps61
  go_wp2
  go_ret
  exact ⟨rfl, rfl⟩
theorem one_list (w : World) (A : Nat) : Wds (w.alloc (.cells #[.int .u32 1] 48)) (some ⟨w.heap.size, 0, none⟩) 1 1 [1] := by
  refine ⟨rfl, by omega, by unfold maxLen; omega, by intro x hx; simp at hx; omega, fun _ => ⟨_, rfl, by simp, fun k x hk => ?_⟩⟩
  match k, hk with
  | 0, hk => simp at hk; subst hk; simp [Addr.add]
  | k + 1, hk => simp at hk

set_option maxHeartbeats 2000000 in
theorem rof_any (d : Int) (neg : Bool) (A : Option Addr) (n c : Nat) (xs : List Nat) (exp : Int) (w : World) (h : Wds w A n c xs) (hn : n ≤ 1099511627776) :
    Calls Tryd.prog 23 #[.int .i64 d, .bool neg, .slice A n c, .int .i64 exp] w (RetFl (ofR d neg (nv xs) exp) w) := by
  have HL := Lib.hid (nlen_any A n c xs w h (by omega))
  have HH := Lib.hid (fun w => hold_any exp w)
  obtain ⟨V, hV⟩ : ∃ V, V = nv xs := ⟨_, rfl⟩
  rw [← hV] at HL ⊢
  obtain ⟨B, hB⟩ : ∃ B, B = bl V := ⟨_, rfl⟩
  rw [← hB] at HL
  by_cases hbig : 524288 < B
  · have HF : Hid (ofR d neg V exp = NaNc) := Lib.hid (by unfold ofR; rw [if_pos (by omega)])
    clear hV hB h
    go_enter Tryd.func23, Tryd.ntmps23
    go_wp2_with (first | (go_at_call 87; refine HL.out.mono ?_; rintro e w' ⟨rfl, rfl⟩) | (go_at_call 61; refine (mnanc_any _).mono ?_; rintro e w' ⟨rfl, rfl⟩))
    go_ret
    exact ⟨_, rfl, by rw [NaNc_val]; omega, by rw [HF.out]; rfl, Ext.refl _⟩
  · obtain ⟨H, hH⟩ : ∃ H, H = holdZ exp := ⟨_, rfl⟩
    have hH1 : -1099511627776 ≤ H ∧ H ≤ 1099511627776 := by rw [hH]; unfold holdZ; omega
    rw [← hH] at HH
    have hnl : nw V ≤ 16384 := nw_of_bl (by omega)
    by_cases ht : 0 < B ∧ (B : Int) + H < -1100
    · have HF : Hid (ofR d neg V exp = rnd d neg (zd (2 * nv [1]) (-1200 - 1))) := Lib.hid (by
        have hV0 : V ≠ 0 := fun h0 => by rw [h0, bl_zero] at hB; omega
        rw [ofR_tiny hV0 (by omega) (by have := ht.2; rw [hH] at this; unfold holdZ at this; omega)]
        rw [show nv [1] = 1 from rfl, zd_tiny (by omega) (by rw [show bl 1 = 1 from rfl]; omega)])
      have hOF2 := of_any d neg (some ⟨w.heap.size, 0, none⟩) 1 1 [1] (-1200) false (w.alloc (.cells #[.int .u32 1] 48)) (one_list w 0) (by omega) (by rw [show nv [1] = 1 from rfl, show nw 1 = 1 from rfl]; omega) (by omega) (by omega) (by intro h; cases h)
      simp only [Bool.toNat_false, Nat.add_zero] at hOF2
      rw [← HF.out] at hOF2
      have HOF := Lib.hid hOF2
      have HE0 : Hid (Ext w (w.alloc (.cells #[.int .u32 1] 48))) := Lib.hid ((Ext.refl w).alloc _)
      have HOK : Hid (ofR d neg V exp < 18446744073709551616 ∧ cn (ofR d neg V exp) = ofR d neg V exp) := Lib.hid (by rw [HF.out]; exact ⟨(rnd_ok _ _ _).1, cn_num (rnd_ok _ _ _).2⟩)
      have t1 := ht.1
      have t2 := ht.2
      clear hOF2
      generalize ofR d neg V exp = R at HOF HOK ⊢
      clear HF hV hB h hH hnl ht
      go_enter Tryd.func23, Tryd.ntmps23
      go_wp2_with (first | (go_at_call 87; refine HL.out.mono ?_; rintro e w' ⟨rfl, rfl⟩) | (go_at_call 88; refine (HH.out _).mono ?_; rintro e w' ⟨rfl, rfl⟩))
      refine HOF.out.mono ?_
      rintro e w1 ⟨rfl, hE⟩
      go_wp2
      go_ret
      exact ⟨_, rfl, HOK.out.1, HOK.out.2, HE0.out.trans hE⟩
    · have HF : Hid (ofR d neg V exp = rnd d neg (zd (2 * V) (H - 1))) := Lib.hid (by
        rw [hH]
        refine ofR_hold (by omega) ?_
        by_cases h0 : V = 0
        · exact .inl h0
        · right
          have := bl_pos h0
          omega)
      have hOF := of_any d neg A n c xs H false w h hn (by rw [← hV]; exact hnl) (by omega) (by omega) (by intro h; cases h)
      simp only [Bool.toNat_false, Nat.add_zero] at hOF
      rw [← hV, ← HF.out] at hOF
      have HOF := Lib.hid hOF
      have HOK : Hid (ofR d neg V exp < 18446744073709551616 ∧ cn (ofR d neg V exp) = ofR d neg V exp) := Lib.hid (by rw [HF.out]; exact ⟨(rnd_ok _ _ _).1, cn_num (rnd_ok _ _ _).2⟩)
      have hc : B = 0 ∨ (0 < B ∧ -1100 ≤ (B : Int) + H) := by omega
      clear hOF
      generalize ofR d neg V exp = R at HOF HOK ⊢
      clear HF hV hB h hH hnl ht
      rcases hc with rfl | ⟨t1, t2⟩
      all_goals
        go_enter Tryd.func23, Tryd.ntmps23
        go_wp2_with (first | (go_at_call 87; refine HL.out.mono ?_; rintro e w' ⟨rfl, rfl⟩) | (go_at_call 88; refine (HH.out _).mono ?_; rintro e w' ⟨rfl, rfl⟩))
        refine HOF.out.mono ?_
        rintro e w1 ⟨rfl, hE⟩
        go_wp2
        go_ret
        exact ⟨_, rfl, HOK.out.1, HOK.out.2, hE⟩
end Go.Proofs.YtadijoeeaineaaaDoor

/-
  Plain, over whatever program: the boxes' cells alone; where a walk stands. Conditions: those that each theorem names.
-/
namespace Go.Proofs.YtadijoeeaineaaaDoor
open Go Go.RowKit Nm
set_option linter.unusedVariables false
set_option linter.unusedSimpArgs false

/-- The cells of the boxes alone: what is told so keeps a store from being walked cell by cell. -/
def CC (w : World) (g : Nat) : Nat → List Value → Prop
  | _, [] => True
  | i, v :: vs => w.cell? ⟨g, i, none⟩ = some v ∧ CC w g (i + 1) vs
def BC (w : World) : List Bx → Prop
  | [] => True
  | b :: L => CC w b.g 0 b.cs ∧ BC w L
theorem CC.of {w : World} {g : Nat} : ∀ {i : Nat} {cs : List Value}, CF w g i cs → CC w g i cs
  | _, [], _ => trivial
  | _, _ :: _, h => ⟨h.1, CC.of h.2.2⟩
theorem BC.of {w : World} : ∀ {L : List Bx}, BF w L → BC w L
  | [], _ => trivial
  | _ :: _, h => ⟨CC.of h.2.1, BC.of h.2.2⟩
theorem Own.cells {w0 w : World} {L : List Bx} {W : List Sw} (h : Own w0 L W w) : BC w L := BC.of h.facts
section
variable {P : Program} {ops : Array Oper} {Q : Exit → Act → World → Prop} {a : Act} {w : World} {rest : List Oper} {T ty : TypeId} {ps : String} {af : Array Edge} {x y : Operand} {d : Tmp}
/-- Where the walk stands: each of these says nothing, and lets an arm be passed by quickly. -/
theorem at_store (h : wpList P ops Q ({ dst := none, op := .store T x y, type := ty, pos := ps, after := af, guard := none } :: rest) a w) : wpList P ops Q ({ dst := none, op := .store T x y, type := ty, pos := ps, after := af, guard := none } :: rest) a w := h
theorem at_box (h : wpList P ops Q ({ dst := some d, op := .box T x, type := ty, pos := ps, after := af, guard := none } :: rest) a w) : wpList P ops Q ({ dst := some d, op := .box T x, type := ty, pos := ps, after := af, guard := none } :: rest) a w := h
theorem at_alloc (h : wpList P ops Q ({ dst := some d, op := .alloc T, type := ty, pos := ps, after := af, guard := none } :: rest) a w) : wpList P ops Q ({ dst := some d, op := .alloc T, type := ty, pos := ps, after := af, guard := none } :: rest) a w := h
end
end Go.Proofs.YtadijoeeaineaaaDoor
