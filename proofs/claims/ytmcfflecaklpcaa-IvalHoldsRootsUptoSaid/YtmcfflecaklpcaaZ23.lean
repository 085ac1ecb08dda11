/-
  The contracts of the program's quick road, second part: middle, halves, missed, odd. Conditions: those that each theorem names.
-/
import Derived.Test.YtmcfflecaklpcaaZ22
import Derived.Test.YtmcfflecaklpcaaZ06
import Derived.Test.YtmcfflecaklpcaaZ21
import Derived.Test.YtmcfflecaklpcaaZ13
import Derived.Test.YtmcfflecaklpcaaZ14
import Derived.Test.YtmcfflecaklpcaaZ07
import Derived.Test.YtmcfflecaklpcaaZ18
import Derived.ScopeJumps
namespace Go.Proofs.Ytmcfflecaklpcaa
open Go.RowKit Nm Rn
set_option maxRecDepth 100000
set_option linter.unusedVariables false
set_option linter.unusedSimpArgs false

/-- + - * / of floats that give a number, in the walk's own form. -/
theorem fadd {x y r : Nat} (h : Ieee.double.add x y = some r) (w : World) : (binOp .add 24 (.float .f64 x) (.float .f64 y)).run Try.prog w = .ok (.float .f64 r) w := run_float_arith w .add _ .f64 _ _ _ h
theorem fsub {x y r : Nat} (h : Ieee.double.sub x y = some r) (w : World) : (binOp .sub 24 (.float .f64 x) (.float .f64 y)).run Try.prog w = .ok (.float .f64 r) w := run_float_arith w .sub _ .f64 _ _ _ h
theorem fmul {x y r : Nat} (h : Ieee.double.mul x y = some r) (w : World) : (binOp .mul 24 (.float .f64 x) (.float .f64 y)).run Try.prog w = .ok (.float .f64 r) w := run_float_arith w .mul _ .f64 _ _ _ h
theorem fquo {x y r : Nat} (h : Ieee.double.div x y = some r) (w : World) : (binOp .quo 24 (.float .f64 x) (.float .f64 y)).run Try.prog w = .ok (.float .f64 r) w := run_float_arith w .quo _ .f64 _ _ _ h

/-- Neither very small nor very great, of a pattern. -/
def midB (b : Nat) : Bool := decide (Ks < rv (mg b)) && decide (rv (mg b) < Kg)
theorem rv_small_ : rv 553942754166571008 = Ks := by
  obtain ⟨c, hc⟩ : ∃ c, c = 122 := ⟨_, rfl⟩
  have := rv_form c 4503599627370496 (by omega) (fun _ => by omega)
  rw [show c * 4503599627370496 + 4503599627370496 = 553942754166571008 by omega] at this
  rw [this, Ks_def, show 174 = 52 + c by omega, Nat.pow_add]
theorem rv_great_ : rv 8660422083433463808 = Kg := by
  obtain ⟨c, hc⟩ : ∃ c, c = 1922 := ⟨_, rfl⟩
  have := rv_form c 4503599627370496 (by omega) (fun _ => by omega)
  rw [show c * 4503599627370496 + 4503599627370496 = 8660422083433463808 by omega] at this
  rw [this, Kg_def, show 1974 = 52 + c by omega, Nat.pow_add]
theorem ltB_pos {a b : Nat} (ha : a ≤ infR) (hb : b ≤ infR) : ltB a b = decide (a < b) := by
  rw [infR_val] at ha hb
  have h1 : isNaN a = false := by unfold isNaN mg; rw [infR_val]; exact decide_eq_false (by omega)
  have h2 : isNaN b = false := by unfold isNaN mg; rw [infR_val]; exact decide_eq_false (by omega)
  have k1 : key a = (a : Int) := by unfold key sg mg; rw [decide_eq_false (by omega)]; simp; omega
  have k2 : key b = (b : Int) := by unfold key sg mg; rw [decide_eq_false (by omega)]; simp; omega
  unfold ltB
  rw [h1, h2, k1, k2]
  simp
theorem mid_gt {b : Nat} (h : mg b ≤ infR) : ltB 553942754166571008 (mg b) = decide (Ks < rv (mg b)) := by
  rw [ltB_pos (by rw [infR_val]; omega) h, ← rv_small_]
  exact decide_eq_decide.2 rv_lt_iff.symm
theorem mid_lt {b : Nat} (h : mg b ≤ infR) : ltB (mg b) 8660422083433463808 = decide (rv (mg b) < Kg) := by
  rw [ltB_pos h (by rw [infR_val]; omega), ← rv_great_]
  exact decide_eq_decide.2 rv_lt_iff.symm
theorem mid_of {b : Nat} (h : midB b = true) : Mid (sv b) ∧ mg b < infR := by
  unfold midB at h
  rw [Bool.and_eq_true, decide_eq_true_iff, decide_eq_true_iff] at h
  refine ⟨⟨by rw [sv_abs]; exact h.1, by rw [sv_abs]; exact h.2⟩, ?_⟩
  have h2 := h.2
  rw [← rv_great_] at h2
  have := rv_lt_iff.1 h2
  rw [infR_val]
  omega

set_option maxHeartbeats 400000 in
theorem middle_any (b : Nat) (w : World) (h : b < 18446744073709551616) (hn : mg b ≤ infR) :
    Calls Try.prog 52 #[.float .f64 b] w fun e w' => e = .returned (.bool (midB b)) ∧ w = w' := by
  have q1 := fo_gt (mg_lt64 b) (show 553942754166571008 < 18446744073709551616 by omega)
  have q2 := fo_lt (mg_lt64 b) (show 8660422083433463808 < 18446744073709551616 by omega)
  rw [mid_gt hn] at q1
  rw [mid_lt hn] at q2
  have HF : Hid ((decide (Ks < rv (mg b)) && decide (rv (mg b) < Kg)) = midB b) := Lib.hid rfl
  have HA := Lib.hid (fun w => mabs_any b w h)
  generalize decide (Ks < rv (mg b)) = b1 at *
  generalize decide (rv (mg b) < Kg) = b2 at *
  clear h hn
  cases b1
  all_goals
    go_enter Try.func52, Try.ntmps52
    go_wp2_with (go_at_call 62; refine (HA.out _).mono ?_; rintro e w' ⟨rfl, rfl⟩)
    go_ret
    exact ⟨by rw [← HF.out]; rfl, rfl⟩

set_option maxHeartbeats 400000 in
theorem halves_any (x xh xl : Nat) (w : World) (h : HalvesOps x xh xl) :
    Calls Try.prog 102 #[.float .f64 x] w fun e w' => e = .returned (.tuple #[.float .f64 xh, .float .f64 xl]) ∧ w = w' := by
  obtain ⟨t, v, h1, h2, h3, h4⟩ := h
  have g1 := fun w => fmul h1 w
  rw [show cP = 4728779608772575232 from rfl] at g1
  have g2 := fun w => fsub h2 w
  have g3 := fun w => fsub h3 w
  have g4 := fun w => fsub h4 w
  clear h1 h2 h3 h4
  go_enter Try.func102, Try.ntmps102
  go_wp2
  go_ret2
  exact ⟨rfl, rfl⟩

set_option maxHeartbeats 1000000 in
theorem missed_any (x y p r : Nat) (w : World) (h : MissedOps x y p r) :
    Calls Try.prog 53 #[.float .f64 x, .float .f64 y, .float .f64 p] w fun e w' => e = .returned (.float .f64 r) ∧ w = w' := by
  obtain ⟨xh, xl, yh, yl, a, b, c, g, e1, e2, e3, hx, hy, h1, h2, h3, h4, h5, h6, h7, h8⟩ := h
  have g1 := fun w => fmul h1 w
  have g2 := fun w => fsub h2 w
  have g3 := fun w => fmul h3 w
  have g4 := fun w => fadd h4 w
  have g5 := fun w => fmul h5 w
  have g6 := fun w => fadd h6 w
  have g7 := fun w => fmul h7 w
  have g8 := fun w => fadd h8 w
  have HX := Lib.hid (fun w => halves_any x xh xl w hx)
  have HY := Lib.hid (fun w => halves_any y yh yl w hy)
  clear h1 h2 h3 h4 h5 h6 h7 h8 hx hy
  go_enter Try.func53, Try.ntmps53
  go_wp2_with fail
  refine (HX.out _).mono ?_
  rintro e w' ⟨rfl, rfl⟩
  go_wp2_with fail
  refine (HY.out _).mono ?_
  rintro e w' ⟨rfl, rfl⟩
  go_wp2
  go_ret
  exact ⟨rfl, rfl⟩

/-- NaN or infinite. -/
def oddF (b : Nat) : Bool := isNaN b || isInf b
theorem oddF_fin {b : Nat} (h : oddF b = false) : mg b < infR := by
  unfold oddF isNaN isInf at h
  rw [Bool.or_eq_false_iff, decide_eq_false_iff_not, decide_eq_false_iff_not] at h
  omega

set_option maxHeartbeats 1000000 in
theorem odd_any (g k c : Nat) (ss : List Nat) (w : World) (hk : ss.length = k) (hkb : k ≤ 1000) (hc : ∀ i s, ss[i]? = some s → w.cell? ⟨g, i, none⟩ = some (.float .f64 s)) (hs : ∀ s ∈ ss, s < 18446744073709551616) :
    Calls Try.prog 50 #[.slice (some ⟨g, 0, none⟩) k c] w fun e w' => e = .returned (.bool (ss.any oddF)) ∧ w = w' := by
  have HC := Lib.hid hc
  have HS := Lib.hid hs
  clear hc hs
  go_enter Try.func50, Try.ntmps50
  go_wp2
  go_loop [7] (fun t => ∃ i : Nat, i ≤ k ∧ t = .int .i64 i ∧ Hid ((ss.take i).any oddF = false)) (fun t => k - (intOf t).toNat)
  case atStart => exact ⟨0, Nat.zero_le _, rfl, Lib.hid rfl⟩
  case round =>
    obtain ⟨i, hi, rfl, hno⟩ := hrel
    by_cases hlt : i < k
    · obtain ⟨s, hsi⟩ : ∃ s, ss[i]? = some s := ⟨ss[i]'(by omega), List.getElem?_eq_getElem (by omega)⟩
      have hcell := HC.out i s hsi
      have hw := HS.out s (List.mem_of_getElem? hsi)
      have hst : (ss.take (i + 1)).any oddF = oddF s := by
        rw [List.take_add_one, List.any_append, hno.out, hsi]; simp
      have HST := Lib.hid hst
      have HMEM := Lib.hid (List.mem_of_getElem? hsi)
      have hL : oddF s = (isNaN s || isInf s) := rfl
      have HN := Lib.hid (fun w => mnan_any s w hw)
      have HI := Lib.hid (fun w => misinf_any s w hw)
      have HLL := Lib.hid hL
      clear hst hw hL hsi
      generalize isNaN s = b1 at *
      generalize isInf s = b2 at *
      have fin : ∀ b, b = (b1 || b2) → b = true → ss.any oddF = true := fun b e1 e2 => List.any_eq_true.2 ⟨s, HMEM.out, by rw [HLL.out, ← e1, e2]⟩
      have HFIN := Lib.hid fin
      clear fin
      cases b1
      · cases b2
        · go_wp2_with (first | (go_at_call 39; refine (HN.out _).mono ?_; rintro e w' ⟨rfl, rfl⟩) | (go_at_call 41; refine (HI.out _).mono ?_; rintro e w' ⟨rfl, rfl⟩))
          go_round
          case rel => exact ⟨i + 1, by omega, by go_num, Lib.hid (by rw [HST.out, HLL.out]; rfl)⟩
          case measure => simp [intOf]; omega
        · go_wp2_with (first | (go_at_call 39; refine (HN.out _).mono ?_; rintro e w' ⟨rfl, rfl⟩) | (go_at_call 41; refine (HI.out _).mono ?_; rintro e w' ⟨rfl, rfl⟩))
          go_ret
          exact ⟨ret_bool (HFIN.out true rfl rfl).symm, rfl⟩
      · go_wp2_with (first | (go_at_call 39; refine (HN.out _).mono ?_; rintro e w' ⟨rfl, rfl⟩) | (go_at_call 41; refine (HI.out _).mono ?_; rintro e w' ⟨rfl, rfl⟩))
        go_ret
        exact ⟨ret_bool (HFIN.out true rfl rfl).symm, rfl⟩
    · have HF : Hid (ss.any oddF = false) := Lib.hid (by
        have := hno.out
        rwa [List.take_of_length_le (by omega)] at this)
      go_wp2
      go_ret
      exact ⟨ret_bool HF.out.symm, rfl⟩
theorem odd_two (g : Nat) (x y : Nat) (w : World) (hc0 : w.cell? ⟨g, 0, none⟩ = some (.float .f64 x)) (hc1 : w.cell? ⟨g, 1, none⟩ = some (.float .f64 y)) (hx : x < 18446744073709551616) (hy : y < 18446744073709551616) :
    Calls Try.prog 50 #[.slice (some ⟨g, 0, none⟩) 2 2] w fun e w' => e = .returned (.bool (oddF x || oddF y)) ∧ w = w' :=
  (odd_any g 2 2 [x, y] w rfl (by omega) (fun i s hs => by
    match i, hs with
    | 0, hs => simp at hs; subst hs; exact hc0
    | 1, hs => simp at hs; subst hs; exact hc1
    | i + 2, hs => simp at hs) (fun s hs => by simp at hs; omega)).mono fun e w' h => ⟨by rw [h.1]; exact ret_bool (by simp), h.2⟩
theorem odd_one (g : Nat) (x : Nat) (w : World) (hc0 : w.cell? ⟨g, 0, none⟩ = some (.float .f64 x)) (hx : x < 18446744073709551616) :
    Calls Try.prog 50 #[.slice (some ⟨g, 0, none⟩) 1 1] w fun e w' => e = .returned (.bool (oddF x)) ∧ w = w' :=
  (odd_any g 1 1 [x] w rfl (by omega) (fun i s hs => by
    match i, hs with
    | 0, hs => simp at hs; subst hs; exact hc0
    | i + 1, hs => simp at hs) (fun s hs => by simp at hs; omega)).mono fun e w' h => ⟨by rw [h.1]; exact ret_bool (by simp), h.2⟩
end Go.Proofs.Ytmcfflecaklpcaa

/-
  The contracts of the program's exact road: product, to, sum. Conditions: those that each theorem names.
-/
namespace Go.Proofs.Ytmcfflecaklpcaa
open Go.RowKit Nm Rn
set_option maxRecDepth 100000
set_option linter.unusedVariables false
set_option linter.unusedSimpArgs false

set_option maxHeartbeats 1000000 in
theorem product_any (s1 s2 : Bool) (A : Option Addr) (n c : Nat) (xs : List Nat) (x1 : Int) (B : Option Addr) (m d : Nat) (ys : List Nat) (x2 : Int) (w : World) (h : Wds w A n c xs) (hn : n ≤ 8796093022208) (k : Wds w B m d ys) (hm : m ≤ 8796093022208) (hs : bl (nv xs) + bl (nv ys) ≤ 524288)
    (b1 : -4398046511104 ≤ x1) (b2 : x1 ≤ 4398046511104) (b3 : -4398046511104 ≤ x2) (b4 : x2 ≤ 4398046511104) :
    Calls Try.prog 109 #[.agg #[.bool s1, .slice A n c, .int .i64 x1], .agg #[.bool s2, .slice B m d, .int .i64 x2]] w (RetD (s1 != s2) (nv xs * nv ys) (x1 + x2) w) := by
  have hO := ((Own.start w).add h).add k
  have HM := Lib.hid (fun w h k => nmul_any A n c xs B m d ys w h hn k hm hs)
  clear h k hs
  go_enter Try.func109, Try.ntmps109
  go_upto_region 1 with (first
    | (refine own_box hO rfl rfl ?_; clear hO; intro g w1 hO)
    | (refine own_alloc hO zero_dy rfl rfl ?_; clear hO; intro g w1 hO))
  have hF := hO.facts
  simp only [BF, CF, Nat.zero_add, Nat.reduceAdd, and_true] at hF
  go_wp2_with fail
  refine (HM.out _ (hO.wd 1 rfl) (hO.wd 0 rfl)).mono ?_
  rintro e w' ⟨A2, n2, c2, rfl, hR, hEx⟩
  have hO := (hO.ext hEx).add hR
  clear hF hR hEx HM
  have hF := hO.facts
  simp only [BF, CF, Nat.zero_add, Nat.reduceAdd, and_true] at hF
  go_wp2_with (refine own_store hO 0 rfl rfl rfl size_dy rfl rfl rfl ?_; clear hO; intro w1 hO)
  exact own_ret hO 0 rfl rfl rfl agg_dy size_dy rfl ⟨_, _, _, rfl, hO.wd 0 rfl, hO.toExt⟩

theorem to_any (d : Int) (neg : Bool) (A : Option Addr) (n c : Nat) (xs : List Nat) (exp : Int) (w : World) (h : Wds w A n c xs) (hn : n ≤ 1099511627776) (hnl : nw (nv xs) ≤ 16384)
    (he1 : -4398046511104 ≤ exp) (he2 : exp ≤ 4398046511104) :
    Calls Try.prog 64 #[.agg #[.bool neg, .slice A n c, .int .i64 exp], .int .i64 d] w fun e w' => e = .returned (.float .f64 (rnd d neg (zd (2 * nv xs) (exp - 1)))) ∧ Ext w w' := by
  have hO := (Own.start w).add h
  have HF := Lib.hid (fun w h => of_any d neg A n c xs exp false w h hn hnl he1 he2 (by intro h; cases h))
  clear h
  go_enter Try.func64, Try.ntmps64
  go_upto_region 1 with (refine own_box hO rfl rfl ?_; clear hO; intro g w1 hO)
  have hF := hO.facts
  simp only [BF, CF, Nat.zero_add, Nat.reduceAdd, and_true] at hF
  go_wp2_with fail
  refine (HF.out _ (hO.wd 0 rfl)).mono ?_
  rintro e w' ⟨rfl, hEx⟩
  go_wp2
  go_ret
  exact ⟨rfl, hO.toExt.trans hEx⟩
end Go.Proofs.Ytmcfflecaklpcaa

/-
  The contract of the program's Mul. Conditions: those that each theorem names.
-/
namespace Go.Proofs.Ytmcfflecaklpcaa
open Go.RowKit Nm Rn
set_option maxRecDepth 100000
set_option linter.unusedVariables false
set_option linter.unusedSimpArgs false

theorem Fl.zero : Fl 0 0 := ⟨by omega, by rw [show mg 0 = 0 from rfl, infR_val]; omega, by unfold sv; rw [show mg 0 = 0 from rfl, rv_zero]; simp⟩
theorem near_le (Z : Nat) : near Z ≤ infR := rr_le 0 false Z
theorem three_cases {b1 b2 b3 : Bool} (h : ¬ (b1 = true ∧ b2 = true ∧ b3 = true)) : b1 = false ∨ (b1 = true ∧ b2 = false) ∨ (b1 = true ∧ b2 = true ∧ b3 = false) := by
  cases b1 <;> cases b2 <;> cases b3 <;> simp_all
theorem mul_units (d : Int) {q X : Int} (h : q * ((2 ^ 1074 : Nat) : Int) = X) : rT d X = rnd d (decide (q < 0)) (4 * q.natAbs) := by
  rw [← h, K74_i, rT_units]
/-- The NaN that an operation without an answer draws. -/
def nanOf (w : World) (x y : Nat) : Nat := (Question.nanBits .f64 x y).cut (w.tape w.drawn (.nanBits .f64 x y))
theorem nanOf_lt (w : World) (x y : Nat) : nanOf w x y < 18446744073709551616 := by
  show (w.tape w.drawn (.nanBits .f64 x y) % 2) * 2 ^ 63 + 0x7ff0000000000000 + 1 + (w.tape w.drawn (.nanBits .f64 x y) / 2) % (2 ^ 52 - 1) < _
  omega
theorem nanOf_nan (w : World) (x y : Nat) : isNaN (nanOf w x y) = true := by
  rw [isNaN_iff, infR_val]
  show _ < ((w.tape w.drawn (.nanBits .f64 x y) % 2) * 2 ^ 63 + 0x7ff0000000000000 + 1 + (w.tape w.drawn (.nanBits .f64 x y) / 2) % (2 ^ 52 - 1)) % 9223372036854775808
  generalize w.tape w.drawn (.nanBits .f64 x y) = t
  have h1 : t % 2 = 0 ∨ t % 2 = 1 := by omega
  have h2 : t / 2 % (2 ^ 52 - 1) < 4503599627370495 := Nat.mod_lt _ (by omega)
  generalize t / 2 % (2 ^ 52 - 1) = u at h2 ⊢
  rcases h1 with h1 | h1 <;> rw [h1] <;> omega
theorem run_nan {op : BinOp} {x y : Nat} (h : floatBits op .f64 x y = none) (ho : op = .add ∨ op = .sub ∨ op = .mul ∨ op = .quo) (w : World) : (binOp op 24 (.float .f64 x) (.float .f64 y)).run Try.prog w = .ok (.float .f64 (nanOf w x y)) w.drew := by
  rcases ho with rfl | rfl | rfl | rfl
  all_goals
    unfold floatBits at h
    simp only at h
    simp [binOp, Op.floatArith, h, Question.forced, nanOf]

theorem fbSig_nw (b : Nat) : nw (fbSig b) ≤ 2 := (nw_le_iff _ 2).2 (by have := fbSig_lt b; omega)
theorem fbSig_bl (b : Nat) : bl (fbSig b) ≤ 64 := by have h1 := bl_le_nw (fbSig b); have := fbSig_nw b; omega
theorem prod_nw (x y : Nat) : nw (fbSig x * fbSig y) ≤ 8 := by
  rw [nw_bl]
  have := bl_mul_le (fbSig x) (fbSig y); have := fbSig_bl x; have := fbSig_bl y; omega
section
variable {P : Program} {a : Act} {w : World} {Q : Exit → Act → World → Prop}
/-- A scope that is left forward to one label, once. -/
theorem wp_scope_to {c rest : Code} {l : Nat} {A : Act} {W : World} (hf : findLabel c l = some rest)
    (first : c.wp P (Exit.jump l (fun a' w' => a' = A ∧ w' = W) Q) a w)
    (pass : rest.wp P (Exit.jump l (fun _ _ => False) Q) A W) : (Code.scope c).wp P Q a w := by
  refine wp_scope_jumps l _ (fun _ _ => 0) hf first ?_
  rintro a' w' ⟨rfl, rfl⟩
  intro b k cs
  obtain ⟨e, a₁, w₁, hq, harr⟩ := pass b k cs
  refine ⟨e, a₁, w₁, ?_, harr⟩
  cases e with
  | goto l' => exact hq.2.elim
  | normal => exact hq
  | exit id => exact hq
  | ret => exact hq
  | panic ch => exact hq
  | outgrown => exact hq
theorem jump_ret {l : Nat} {J : Act → World → Prop} : Exit.jump l J Q .ret a w = Q .ret a w := rfl
end

/-- What a rounding answers: NaN is any of them. -/
def RetFl (v : Nat) (w : World) (e : Ending) (w' : World) : Prop :=
  ∃ r, e = .returned (.float .f64 r) ∧ r < 18446744073709551616 ∧ cn r = v ∧ Ext w w'
theorem cn_nan {r : Nat} (h : isNaN r = true) : cn r = NaNc := by unfold cn; rw [h]; rfl
theorem cn_num {r : Nat} (h : isNaN r = false) : cn r = r := by unfold cn; rw [h]; rfl
theorem pl_nan {r : Nat} (h : isNaN r = true) : pl r = r := by
  unfold pl
  split
  · rename_i h0; subst h0; cases h
  · rfl
theorem cn_infP (s : Bool) : cn (infP s) = infP s := by cases s <;> rfl
theorem pl_infP (s : Bool) : pl (infP s) = infP s := by cases s <;> rfl
theorem infP_lt (s : Bool) : infP s < 18446744073709551616 := by cases s; exact infR_lt; exact minf_lt
theorem rnd_ok (d : Int) (neg : Bool) (Z : Nat) : rnd d neg Z < 18446744073709551616 ∧ isNaN (rnd d neg Z) = false := by
  have h := rr_le d neg Z
  rw [infR_val] at h
  unfold rnd pat
  generalize rr d neg Z = r at h
  have h2 : isNaN 0 = false := rfl
  by_cases h0 : r = 0
  · rw [if_pos h0]; exact ⟨by omega, h2⟩
  · rw [if_neg h0]
    unfold isNaN mg
    rw [infR_val]
    cases neg
    · simp; omega
    · simp; omega
theorem rT_ok (d : Int) (T : Int) : rT d T < 18446744073709551616 ∧ cn (rT d T) = rT d T := ⟨(rnd_ok _ _ _).1, cn_num (rnd_ok _ _ _).2⟩

set_option maxHeartbeats 2000000 in
theorem rmul_odd (d : Int) (x y : Nat) (w : World) (hx : x < 18446744073709551616) (hy : y < 18446744073709551616) (ho : (oddF x || oddF y) = true) :
    Calls Try.prog 61 #[.int .i64 d, .float .f64 x, .float .f64 y] w (RetFl (mulR d x y) w) := by
  have hm := mul_odd hx hy ho
  have hE0 : Ext w (w.alloc (.cells #[.float .f64 x, .float .f64 y] 24)) := (Ext.refl w).alloc _
  have hc0 : (w.alloc (.cells #[.float .f64 x, .float .f64 y] 24)).cell? ⟨w.heap.size, 0, none⟩ = some (.float .f64 x) := by simp
  have hc1 : (w.alloc (.cells #[.float .f64 x, .float .f64 y] 24)).cell? ⟨w.heap.size, 1, none⟩ = some (.float .f64 y) := by simp
  have HO := Lib.hid (fun g w c0 c1 => odd_two g x y w c0 c1 hx hy)
  rw [ho] at HO
  obtain ⟨V, hV⟩ : ∃ V, V = mulR d x y := ⟨_, rfl⟩
  rw [← hV]
  rcases hm with ⟨hm, hr⟩ | ⟨s, hm, hr⟩
  · rw [hr] at hV
    have HV := Lib.hid hV
    have hrun := fun w => run_nan (op := .mul) (x := x) (y := y) hm (by simp) w
    have HP := Lib.hid (fun v w => rplain_any (nanOf v x y) w (nanOf_lt v x y))
    clear ho hm hr hV hx hy
    go_enter Try.func61, Try.ntmps61
    go_wp2
    go_step3
    go_wp2_with fail
    generalize w.heap.size = g0 at hc0 hc1 ⊢
    generalize w.alloc _ = w1 at hE0 hc0 hc1 ⊢
    go_wp2_with (first | (go_at_call 50; refine (HO.out _ _ hc0 hc1).mono ?_; rintro e w' ⟨rfl, rfl⟩) | (go_at_call 49; refine (HP.out _ _).mono ?_; rintro e w' ⟨rfl, rfl⟩))
    rw [Exit.noGoto_ret]
    go_ret
    exact ⟨_, rfl, by rw [pl_nan (nanOf_nan _ x y)]; exact nanOf_lt _ x y, by rw [pl_nan (nanOf_nan _ x y), cn_nan (nanOf_nan _ x y)]; exact HV.out.symm, hE0.drew⟩
  · rw [hr] at hV
    have HV := Lib.hid hV
    have hrun := fun w => fmul hm w
    have HP := Lib.hid (fun w => rplain_any (infP s) w (infP_lt s))
    clear ho hm hr hV hx hy
    go_enter Try.func61, Try.ntmps61
    go_wp2
    go_step3
    go_wp2_with fail
    generalize w.heap.size = g0 at hc0 hc1 ⊢
    generalize w.alloc _ = w1 at hE0 hc0 hc1 ⊢
    go_wp2_with (first | (go_at_call 50; refine (HO.out _ _ hc0 hc1).mono ?_; rintro e w' ⟨rfl, rfl⟩) | (go_at_call 49; refine (HP.out _).mono ?_; rintro e w' ⟨rfl, rfl⟩))
    rw [Exit.noGoto_ret]
    go_ret
    exact ⟨_, rfl, by rw [pl_infP]; exact infP_lt s, by rw [pl_infP, cn_infP]; exact HV.out.symm, hE0⟩

set_option maxHeartbeats 4000000 in
theorem rmul_fin (d : Int) (x y : Nat) (w : World) (hx : x < 18446744073709551616) (hy : y < 18446744073709551616) (ho : (oddF x || oddF y) = false) :
    Calls Try.prog 61 #[.int .i64 d, .float .f64 x, .float .f64 y] w fun e w' => e = .returned (.float .f64 (rT d (sv x * sv y))) ∧ Ext w w' := by
  have hE0 : Ext w (w.alloc (.cells #[.float .f64 x, .float .f64 y] 24)) := (Ext.refl w).alloc _
  have hc0 : (w.alloc (.cells #[.float .f64 x, .float .f64 y] 24)).cell? ⟨w.heap.size, 0, none⟩ = some (.float .f64 x) := by simp
  have hc1 : (w.alloc (.cells #[.float .f64 x, .float .f64 y] 24)).cell? ⟨w.heap.size, 1, none⟩ = some (.float .f64 y) := by simp
  have HO := Lib.hid (fun g w c0 c1 => odd_two g x y w c0 c1 hx hy)
  rw [ho] at HO
  rw [Bool.or_eq_false_iff] at ho
  have fx := oddF_fin ho.1
  have fy := oddF_fin ho.2
  have hm := mul_fin hx hy fx fy
  obtain ⟨p, hp⟩ : ∃ p, p = Ieee.double.word (sg x ^^ sg y) (near (zq (rv (mg x) * rv (mg y)) (2 ^ 1073))) := ⟨_, rfl⟩
  rw [← hp] at hm
  have hnl := near_lt' (zq (rv (mg x) * rv (mg y)) (2 ^ 1073))
  have hpl : p < 18446744073709551616 := by rw [hp]; exact word_lt hnl
  have hpi : mg p ≤ infR := by rw [hp, mg_word hnl]; exact near_le _
  have hrun := fun w => fmul hm w
  have HMX := Lib.hid (fun w => middle_any x w hx (by omega))
  have HMY := Lib.hid (fun w => middle_any y w hy (by omega))
  have HMP := Lib.hid (fun w => middle_any p w hpl hpi)
  obtain ⟨V, hV⟩ : ∃ V, V = rT d (sv x * sv y) := ⟨_, rfl⟩
  rw [← hV]
  obtain ⟨b1, hb1⟩ : ∃ b, b = midB x := ⟨_, rfl⟩
  obtain ⟨b2, hb2⟩ : ∃ b, b = midB y := ⟨_, rfl⟩
  obtain ⟨b3, hb3⟩ : ∃ b, b = midB p := ⟨_, rfl⟩
  rw [← hb1] at HMX
  rw [← hb2] at HMY
  rw [← hb3] at HMP
  have HPX := Lib.hid (fun w => part_any x w hx)
  have HPY := Lib.hid (fun w => part_any y w hy)
  have HPR := Lib.hid (fun A n c B m e w h k => product_any (sg x) (sg y) A n c (nd (fbSig x)) (fbExp x) B m e (nd (fbSig y)) (fbExp y) w h (by have := h.len; rw [nd_length] at this; have := fbSig_nw x; omega) k (by have := k.len; rw [nd_length] at this; have := fbSig_nw y; omega) (by rw [nv_nd, nv_nd]; have := fbSig_bl x; have := fbSig_bl y; omega) (by have := fbExp_lo x; omega) (by have := fbExp_hi x; omega) (by have := fbExp_lo y; omega) (by have := fbExp_hi y; omega))
  have HTO := Lib.hid (fun A n c w h => to_any d (sg x != sg y) A n c (nd (fbSig x * fbSig y)) (fbExp x + fbExp y) w h (by have := h.len; rw [nd_length] at this; have := prod_nw x y; omega) (by rw [nv_nd]; have := prod_nw x y; omega) (by have := fbExp_lo x; have := fbExp_lo y; omega) (by have := fbExp_hi x; have := fbExp_hi y; omega))
  simp only [nv_nd] at HPR HTO
  have HV : Hid (V = rnd d (sg x != sg y) (zd (2 * (fbSig x * fbSig y)) (fbExp x + fbExp y - 1))) := Lib.hid (by rw [mul_exact]; exact hV)
  rw [← HV.out] at HTO
  by_cases hb : b1 = true ∧ b2 = true ∧ b3 = true
  · obtain ⟨rfl, rfl, rfl⟩ := hb
    obtain ⟨mx, -⟩ := mid_of hb1.symm
    obtain ⟨my, -⟩ := mid_of hb2.symm
    obtain ⟨mp, fp⟩ := mid_of hb3.symm
    obtain ⟨q, e, hq, hq0, hqg, oe, fpq, fe, hres⟩ := mul_quick (Fl.of hx fx) (Fl.of hy fy) mx my hm fp mp
    have HMI := Lib.hid (fun w => missed_any x y p e w oe)
    have HNU := Lib.hid (fun w => nudge_any d p e (q - rn q) w hpl fp fe.lt (by rw [fe.ltB Fl.zero]) (by rw [Fl.zero.ltB fe]))
    have hk := hres d
    have e1 := mul_units d hq
    rw [← hk, ← e1, ← hV] at HNU
    clear hk e1 hres fe fpq oe hqg hq0 hq mx my mp fp hb1 hb2 hb3 HV HTO HPR HPX HPY hV hpi hpl hnl hp hm fx fy ho hx hy
    go_enter Try.func61, Try.ntmps61
    go_wp2
    go_step3
    go_wp2_with fail
    generalize w.heap.size = g0 at hc0 hc1 ⊢
    generalize w.alloc _ = w1 at hE0 hc0 hc1 ⊢
    go_wp2_with (first | (go_at_call 50; refine (HO.out _ _ hc0 hc1).mono ?_; rintro e w' ⟨rfl, rfl⟩) | (go_at_call 52; ((with_reducible refine (HMX.out _).mono ?_); rintro e w' ⟨rfl, rfl⟩)) | (go_at_call 52; ((with_reducible refine (HMY.out _).mono ?_); rintro e w' ⟨rfl, rfl⟩)) | (go_at_call 52; ((with_reducible refine (HMP.out _).mono ?_); rintro e w' ⟨rfl, rfl⟩)) | (go_at_call 53; refine (HMI.out _).mono ?_; rintro e w' ⟨rfl, rfl⟩) | (go_at_call 54; refine (HNU.out _).mono ?_; rintro e w' ⟨rfl, rfl⟩))
    rw [Exit.noGoto_ret]
    go_ret
    exact ⟨rfl, hE0⟩
  · have hcase := three_cases hb
    clear hb hb1 hb2 hb3 HV hV hpi hpl hnl hp hm fx fy ho hx hy
    rcases hcase with rfl | ⟨rfl, rfl⟩ | ⟨rfl, rfl, rfl⟩
    all_goals
      go_enter Try.func61, Try.ntmps61
      go_wp2
      apply wp_scope_to (l := 0) (hf := by rfl)
      · go_wp2_with (first | (go_at_call 50; refine (HO.out _ _ hc0 hc1).mono ?_; rintro e w' ⟨rfl, rfl⟩) | (go_at_call 52; ((with_reducible refine (HMX.out _).mono ?_); rintro e w' ⟨rfl, rfl⟩)) | (go_at_call 52; ((with_reducible refine (HMY.out _).mono ?_); rintro e w' ⟨rfl, rfl⟩)) | (go_at_call 52; ((with_reducible refine (HMP.out _).mono ?_); rintro e w' ⟨rfl, rfl⟩)))
        go_step3
        exact ⟨rfl, rfl, rfl⟩
      · go_wp2_with fail
        refine (HPX.out _).mono ?_
        rintro e w2 ⟨A1, n1, c1, rfl, hR1, hE1⟩
        go_wp2_with fail
        refine (HPY.out _).mono ?_
        rintro e w3 ⟨A2, n2, c2, rfl, hR2, hE2⟩
        go_wp2_with fail
        refine (HPR.out _ _ _ _ _ _ _ (hR1.ext hE2) hR2).mono ?_
        rintro e w4 ⟨A3, n3, c3, rfl, hR3, hE3⟩
        go_wp2_with fail
        refine (HTO.out _ _ _ _ hR3).mono ?_
        rintro e w5 ⟨rfl, hE4⟩
        go_wp2
        rw [jump_ret]
        go_ret
        exact ⟨rfl, (((hE0.trans hE1).trans hE2).trans hE3).trans hE4⟩

theorem rmul_any (d : Int) (x y : Nat) (w : World) (hx : x < 18446744073709551616) (hy : y < 18446744073709551616) :
    Calls Try.prog 61 #[.int .i64 d, .float .f64 x, .float .f64 y] w (RetFl (mulR d x y) w) := by
  cases ho : (oddF x || oddF y)
  · refine (rmul_fin d x y w hx hy ho).mono ?_
    rintro e w' ⟨rfl, hE⟩
    have e1 : mulR d x y = rT d (sv x * sv y) := by
      unfold oddF at ho
      rw [Bool.or_eq_false_iff, Bool.or_eq_false_iff, Bool.or_eq_false_iff] at ho
      unfold mulR
      rw [ho.1.1, ho.1.2, ho.2.1, ho.2.2]
      rfl
    rw [e1]
    exact ⟨_, rfl, (rT_ok _ _).1, (rT_ok _ _).2, hE⟩
  · exact rmul_odd d x y w hx hy ho
end Go.Proofs.Ytmcfflecaklpcaa

/-
  Plain: what Of answers, for every exponent. Conditions: those that each theorem names.
-/
set_option linter.unusedVariables false
set_option linter.unusedSimpArgs false
namespace Go.Proofs.Ytmcfflecaklpcaa.Rn
open Nm

def holdZ (e : Int) : Int := min (max e (-1099511627776)) 1099511627776
/-- What Of answers. -/
def ofR (d : Int) (neg : Bool) (V : Nat) (e : Int) : Nat :=
  if 524288 < bl V then NaNc
  else if V = 0 then 0
  else if (bl V : Int) + e < -1076 then rnd d neg 1
  else if 1023 < (bl V : Int) - 1 + e then pat neg (if twB d neg then infR - 1 else infR)
  else rnd d neg (zd (2 * V) (e - 1))

theorem zd_tiny {V : Nat} {e : Int} (hV : V ≠ 0) (h : (bl V : Int) + e < -1076) : zd (2 * V) (e - 1) = 1 := by
  obtain ⟨B, hB⟩ : ∃ B : Nat, (B : Int) = -(e + 1074) := ⟨(-(e + 1074)).toNat, by omega⟩
  rw [zd_of (A := 0) (B := B) (by omega), Nat.pow_zero, Nat.mul_one]
  have hlt : 2 * V < 2 ^ B := by
    have h1 := lt_pow_bl V
    have h2 : 2 ^ (bl V + 1) ≤ 2 ^ B := Nat.pow_le_pow_right (by omega) (by omega)
    rw [Nat.pow_succ] at h2
    omega
  unfold zq
  rw [Nat.div_eq_of_lt hlt, Nat.mod_eq_of_lt hlt, if_neg (by omega)]
theorem ofR_tiny {d : Int} {neg : Bool} {V : Nat} {e : Int} (hV : V ≠ 0) (hb : bl V ≤ 524288) (h : (bl V : Int) + e < -1076) : ofR d neg V e = rnd d neg 1 := by
  unfold ofR
  rw [if_neg (by omega), if_neg hV, if_pos h]
/-- A held exponent: where it is not tiny. -/
theorem ofR_hold {d : Int} {neg : Bool} {V : Nat} {e : Int} (hb : bl V ≤ 524288) (h : V = 0 ∨ -1100 ≤ (bl V : Int) + holdZ e) : ofR d neg V e = rnd d neg (zd (2 * V) (holdZ e - 1)) := by
  unfold ofR
  rw [if_neg (by omega)]
  by_cases h0 : V = 0
  · rw [if_pos h0, h0, Nat.mul_zero, zd_zero, rnd_zero]
  · rw [if_neg h0]
    have h := h.resolve_left h0
    have hbp := bl_pos h0
    by_cases h1 : (bl V : Int) + e < -1076
    · rw [if_pos h1]
      have h2 : (bl V : Int) + holdZ e < -1076 := by unfold holdZ at h ⊢; omega
      rw [zd_tiny h0 h2]
    · rw [if_neg h1]
      by_cases h2 : 1023 < (bl V : Int) - 1 + e
      · rw [if_pos h2]
        have h3 : 1023 < (bl V : Int) - 1 + holdZ e := by unfold holdZ; omega
        have := rnd_big (m := 0) h0 h3 d neg
        rw [Nat.add_zero] at this
        exact this.symm
      · rw [if_neg h2]
        have h3 : holdZ e = e := by unfold holdZ; omega
        rw [h3]
theorem zd_two (V : Nat) (e : Int) : zd (2 * V) (e - 1) = zd V e := by
  obtain ⟨A, B, hAB⟩ : ∃ A B : Nat, (A : Int) - B = e + 1075 := ⟨(e + 1075).toNat, (-(e + 1075)).toNat, by omega⟩
  rw [zd_of hAB, zd_of (A := A) (B := B + 1) (by omega)]
  refine zq_congr (two_pow_pos _) (two_pow_pos _) ?_
  rw [Nat.pow_succ]
  have : 2 * V * 2 ^ A * 2 ^ B = 2 * (V * 2 ^ A * 2 ^ B) := by rw [Nat.mul_assoc, Nat.mul_assoc, Nat.mul_assoc]
  rw [this]
  have : V * 2 ^ A * (2 ^ B * 2) = 2 * (V * 2 ^ A * 2 ^ B) := by rw [← Nat.mul_assoc, Nat.mul_comm]
  rw [this]
end Go.Proofs.Ytmcfflecaklpcaa.Rn

/-
  The contracts of the program's hold and Of. Conditions: those that each theorem names.
-/
namespace Go.Proofs.Ytmcfflecaklpcaa
open Go.RowKit Nm Rn
set_option maxRecDepth 100000
set_option linter.unusedVariables false
set_option linter.unusedSimpArgs false

set_option maxHeartbeats 400000 in
theorem hold_any (x : Int) (w : World) :
    Calls Try.prog 171 #[.int .i64 x] w fun e w' => e = .returned (.int .i64 (holdZ x)) ∧ w = w' := by
  rcases Int.lt_or_le x (-1099511627776) with h | h
  · have HF : Hid (-1099511627776 = holdZ x) := Lib.hid (by unfold holdZ; omega)
    go_enter Try.func171, Try.ntmps171
    go_wp2
    go_ret
    exact ⟨ret_int (by have := HF.out; omega), rfl⟩
  · rcases Int.lt_or_le 1099511627776 x with h2 | h2
    · have HF : Hid (1099511627776 = holdZ x) := Lib.hid (by unfold holdZ; omega)
      go_enter Try.func171, Try.ntmps171
      go_wp2
      go_ret
      exact ⟨ret_int (by have := HF.out; omega), rfl⟩
    · have HF : Hid (x = holdZ x) := Lib.hid (by unfold holdZ; omega)
      go_enter Try.func171, Try.ntmps171
      go_wp2
      go_ret
      exact ⟨ret_int (by have := HF.out; omega), rfl⟩

set_option maxHeartbeats 400000 in
theorem mnanc_any (w : World) : Calls Try.prog 40 #[] w fun e w' => e = .returned (.float .f64 NaNc) ∧ w = w' := by
  go_enter Try.func40, Try.ntmps40
  go_wp2
  go_ret
  exact ⟨rfl, rfl⟩
theorem one_list (w : World) (A : Nat) : Wds (w.alloc (.cells #[.int .u32 1] 80)) (some ⟨w.heap.size, 0, none⟩) 1 1 [1] := by
  refine ⟨rfl, by omega, by unfold maxLen; omega, by intro x hx; simp at hx; omega, fun _ => ⟨_, rfl, by simp, fun k x hk => ?_⟩⟩
  match k, hk with
  | 0, hk => simp at hk; subst hk; simp [Addr.add]
  | k + 1, hk => simp at hk

end Go.Proofs.Ytmcfflecaklpcaa
