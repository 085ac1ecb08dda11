/-
  The contract of the program's Mul. Conditions: those that each theorem names.
-/
import Derived.Test.YtjblogfbcglnmaaZ09
import Derived.Test.YtjblogfbcglnmaaZ16
import Derived.Test.YtjblogfbcglnmaaZ07
import Derived.ScopeJumps
import Derived.Test.YtjblogfbcglnmaaZ10
namespace Go.Proofs.Ytjblogfbcglnmaa
open Go.RowKit Nm Rn
set_option maxRecDepth 100000
set_option linter.unusedVariables false
set_option linter.unusedSimpArgs false

theorem Fl.zero : Fl 0 0 := ⟨by omega, by rw [show mg 0 = 0 from rfl, infR_val]; omega, by unfold sv; rw [show mg 0 = 0 from rfl, rv_zero]; simp⟩
theorem near_le (Z : Nat) : near Z ≤ infR := rr_le 0 false Z
theorem three_cases {b1 b2 b3 : Bool} (h : ¬ (b1 = true ∧ b2 = true ∧ b3 = true)) : b1 = false ∨ (b1 = true ∧ b2 = false) ∨ (b1 = true ∧ b2 = true ∧ b3 = false) := by
  cases b1 <;> cases b2 <;> cases b3 <;> simp_all
theorem mul_units (d : Int) {q X : Int} (h : q * ((2 ^ 1074 : Nat) : Int) = X) : rT d X = rnd d (decide (q < 0)) (4 * q.natAbs) := by
  rw [← h, K74_i, rT_units]
/-- The NaN that an operation without an answer draws. -/
def nanOf (w : World) (x y : Nat) : Nat := (Question.nanBits .f64 x y).cut (w.tape w.drawn (.nanBits .f64 x y))
theorem nanOf_lt (w : World) (x y : Nat) : nanOf w x y < 18446744073709551616 := by
  show (w.tape w.drawn (.nanBits .f64 x y) % 2) * 2 ^ 63 + 0x7ff0000000000000 + 1 + (w.tape w.drawn (.nanBits .f64 x y) / 2) % (2 ^ 52 - 1) < _
  omega
theorem nanOf_nan (w : World) (x y : Nat) : isNaN (nanOf w x y) = true := by
  rw [isNaN_iff, infR_val]
  show _ < ((w.tape w.drawn (.nanBits .f64 x y) % 2) * 2 ^ 63 + 0x7ff0000000000000 + 1 + (w.tape w.drawn (.nanBits .f64 x y) / 2) % (2 ^ 52 - 1)) % 9223372036854775808
  generalize w.tape w.drawn (.nanBits .f64 x y) = t
  have h1 : t % 2 = 0 ∨ t % 2 = 1 := by omega
  have h2 : t / 2 % (2 ^ 52 - 1) < 4503599627370495 := Nat.mod_lt _ (by omega)
  generalize t / 2 % (2 ^ 52 - 1) = u at h2 ⊢
  rcases h1 with h1 | h1 <;> rw [h1] <;> omega
theorem run_nan {op : BinOp} {x y : Nat} (h : floatBits op .f64 x y = none) (ho : op = .add ∨ op = .sub ∨ op = .mul ∨ op = .quo) (w : World) : (binOp op 26 (.float .f64 x) (.float .f64 y)).run Try.prog w = .ok (.float .f64 (nanOf w x y)) w.drew := by
  rcases ho with rfl | rfl | rfl | rfl
  all_goals
    unfold floatBits at h
    simp only at h
    simp [binOp, Op.floatArith, h, Question.forced, nanOf]

theorem fbSig_nw (b : Nat) : nw (fbSig b) ≤ 2 := (nw_le_iff _ 2).2 (by have := fbSig_lt b; omega)
theorem fbSig_bl (b : Nat) : bl (fbSig b) ≤ 64 := by have h1 := bl_le_nw (fbSig b); have := fbSig_nw b; omega
theorem prod_nw (x y : Nat) : nw (fbSig x * fbSig y) ≤ 8 := by
  rw [nw_bl]
  have := bl_mul_le (fbSig x) (fbSig y); have := fbSig_bl x; have := fbSig_bl y; omega
section
variable {P : Program} {a : Act} {w : World} {Q : Exit → Act → World → Prop}
/-- A scope that is left forward to one label, once. -/
theorem wp_scope_to {c rest : Code} {l : Nat} {A : Act} {W : World} (hf : findLabel c l = some rest)
    (first : c.wp P (Exit.jump l (fun a' w' => a' = A ∧ w' = W) Q) a w)
    (pass : rest.wp P (Exit.jump l (fun _ _ => False) Q) A W) : (Code.scope c).wp P Q a w := by
  refine wp_scope_jumps l _ (fun _ _ => 0) hf first ?_
  rintro a' w' ⟨rfl, rfl⟩
  intro b k cs
  obtain ⟨e, a₁, w₁, hq, harr⟩ := pass b k cs
  refine ⟨e, a₁, w₁, ?_, harr⟩
  cases e with
  | goto l' => exact hq.2.elim
  | normal => exact hq
  | exit id => exact hq
  | ret => exact hq
  | panic ch => exact hq
  | outgrown => exact hq
theorem jump_ret {l : Nat} {J : Act → World → Prop} : Exit.jump l J Q .ret a w = Q .ret a w := rfl
end

/-- What a rounding answers: NaN is any of them. -/
def RetFl (v : Nat) (w : World) (e : Ending) (w' : World) : Prop :=
  ∃ r, e = .returned (.float .f64 r) ∧ r < 18446744073709551616 ∧ cn r = v ∧ Ext w w'
theorem cn_nan {r : Nat} (h : isNaN r = true) : cn r = NaNc := by unfold cn; rw [h]; rfl
theorem cn_num {r : Nat} (h : isNaN r = false) : cn r = r := by unfold cn; rw [h]; rfl
theorem pl_nan {r : Nat} (h : isNaN r = true) : pl r = r := by
  unfold pl
  split
  · rename_i h0; subst h0; cases h
  · rfl
theorem cn_infP (s : Bool) : cn (infP s) = infP s := by cases s <;> rfl
theorem pl_infP (s : Bool) : pl (infP s) = infP s := by cases s <;> rfl
theorem infP_lt (s : Bool) : infP s < 18446744073709551616 := by cases s; exact infR_lt; exact minf_lt
theorem rnd_ok (d : Int) (neg : Bool) (Z : Nat) : rnd d neg Z < 18446744073709551616 ∧ isNaN (rnd d neg Z) = false := by
  have h := rr_le d neg Z
  rw [infR_val] at h
  unfold rnd pat
  generalize rr d neg Z = r at h
  have h2 : isNaN 0 = false := rfl
  by_cases h0 : r = 0
  · rw [if_pos h0]; exact ⟨by omega, h2⟩
  · rw [if_neg h0]
    unfold isNaN mg
    rw [infR_val]
    cases neg
    · simp; omega
    · simp; omega
theorem rT_ok (d : Int) (T : Int) : rT d T < 18446744073709551616 ∧ cn (rT d T) = rT d T := ⟨(rnd_ok _ _ _).1, cn_num (rnd_ok _ _ _).2⟩

set_option maxHeartbeats 2000000 in
theorem rmul_odd (d : Int) (x y : Nat) (w : World) (hx : x < 18446744073709551616) (hy : y < 18446744073709551616) (ho : (oddF x || oddF y) = true) :
    Calls Try.prog 28 #[.int .i64 d, .float .f64 x, .float .f64 y] w (RetFl (mulR d x y) w) := by
  have hm := mul_odd hx hy ho
  have hE0 : Ext w (w.alloc (.cells #[.float .f64 x, .float .f64 y] 26)) := (Ext.refl w).alloc _
  have hc0 : (w.alloc (.cells #[.float .f64 x, .float .f64 y] 26)).cell? ⟨w.heap.size, 0, none⟩ = some (.float .f64 x) := by simp
  have hc1 : (w.alloc (.cells #[.float .f64 x, .float .f64 y] 26)).cell? ⟨w.heap.size, 1, none⟩ = some (.float .f64 y) := by simp
  have HO := Lib.hid (fun g w c0 c1 => odd_two g x y w c0 c1 hx hy)
  rw [ho] at HO
  obtain ⟨V, hV⟩ : ∃ V, V = mulR d x y := ⟨_, rfl⟩
  rw [← hV]
  rcases hm with ⟨hm, hr⟩ | ⟨s, hm, hr⟩
  · rw [hr] at hV
    have HV := Lib.hid hV
    have hrun := fun w => run_nan (op := .mul) (x := x) (y := y) hm (by simp) w
    have HP := Lib.hid (fun v w => rplain_any (nanOf v x y) w (nanOf_lt v x y))
    clear ho hm hr hV hx hy
    go_enter Try.func28, Try.ntmps28
    go_wp2
    go_step3
    go_wp2_with fail
    generalize w.heap.size = g0 at hc0 hc1 ⊢
    generalize w.alloc _ = w1 at hE0 hc0 hc1 ⊢
    go_wp2_with (first | (go_at_call 67; refine (HO.out _ _ hc0 hc1).mono ?_; rintro e w' ⟨rfl, rfl⟩) | (go_at_call 68; refine (HP.out _ _).mono ?_; rintro e w' ⟨rfl, rfl⟩))
    rw [Exit.noGoto_ret]
    go_ret
    exact ⟨_, rfl, by rw [pl_nan (nanOf_nan _ x y)]; exact nanOf_lt _ x y, by rw [pl_nan (nanOf_nan _ x y), cn_nan (nanOf_nan _ x y)]; exact HV.out.symm, hE0.drew⟩
  · rw [hr] at hV
    have HV := Lib.hid hV
    have hrun := fun w => fmul hm w
    have HP := Lib.hid (fun w => rplain_any (infP s) w (infP_lt s))
    clear ho hm hr hV hx hy
    go_enter Try.func28, Try.ntmps28
    go_wp2
    go_step3
    go_wp2_with fail
    generalize w.heap.size = g0 at hc0 hc1 ⊢
    generalize w.alloc _ = w1 at hE0 hc0 hc1 ⊢
    go_wp2_with (first | (go_at_call 67; refine (HO.out _ _ hc0 hc1).mono ?_; rintro e w' ⟨rfl, rfl⟩) | (go_at_call 68; refine (HP.out _).mono ?_; rintro e w' ⟨rfl, rfl⟩))
    rw [Exit.noGoto_ret]
    go_ret
    exact ⟨_, rfl, by rw [pl_infP]; exact infP_lt s, by rw [pl_infP, cn_infP]; exact HV.out.symm, hE0⟩

set_option maxHeartbeats 4000000 in
theorem rmul_fin (d : Int) (x y : Nat) (w : World) (hx : x < 18446744073709551616) (hy : y < 18446744073709551616) (ho : (oddF x || oddF y) = false) :
    Calls Try.prog 28 #[.int .i64 d, .float .f64 x, .float .f64 y] w fun e w' => e = .returned (.float .f64 (rT d (sv x * sv y))) ∧ Ext w w' := by
  have hE0 : Ext w (w.alloc (.cells #[.float .f64 x, .float .f64 y] 26)) := (Ext.refl w).alloc _
  have hc0 : (w.alloc (.cells #[.float .f64 x, .float .f64 y] 26)).cell? ⟨w.heap.size, 0, none⟩ = some (.float .f64 x) := by simp
  have hc1 : (w.alloc (.cells #[.float .f64 x, .float .f64 y] 26)).cell? ⟨w.heap.size, 1, none⟩ = some (.float .f64 y) := by simp
  have HO := Lib.hid (fun g w c0 c1 => odd_two g x y w c0 c1 hx hy)
  rw [ho] at HO
  rw [Bool.or_eq_false_iff] at ho
  have fx := oddF_fin ho.1
  have fy := oddF_fin ho.2
  have hm := mul_fin hx hy fx fy
  obtain ⟨p, hp⟩ : ∃ p, p = Ieee.double.word (sg x ^^ sg y) (near (zq (rv (mg x) * rv (mg y)) (2 ^ 1073))) := ⟨_, rfl⟩
  rw [← hp] at hm
  have hnl := near_lt' (zq (rv (mg x) * rv (mg y)) (2 ^ 1073))
  have hpl : p < 18446744073709551616 := by rw [hp]; exact word_lt hnl
  have hpi : mg p ≤ infR := by rw [hp, mg_word hnl]; exact near_le _
  have hrun := fun w => fmul hm w
  have HMX := Lib.hid (fun w => middle_any x w hx (by omega))
  have HMY := Lib.hid (fun w => middle_any y w hy (by omega))
  have HMP := Lib.hid (fun w => middle_any p w hpl hpi)
  obtain ⟨V, hV⟩ : ∃ V, V = rT d (sv x * sv y) := ⟨_, rfl⟩
  rw [← hV]
  obtain ⟨b1, hb1⟩ : ∃ b, b = midB x := ⟨_, rfl⟩
  obtain ⟨b2, hb2⟩ : ∃ b, b = midB y := ⟨_, rfl⟩
  obtain ⟨b3, hb3⟩ : ∃ b, b = midB p := ⟨_, rfl⟩
  rw [← hb1] at HMX
  rw [← hb2] at HMY
  rw [← hb3] at HMP
  have HPX := Lib.hid (fun w => part_any x w hx)
  have HPY := Lib.hid (fun w => part_any y w hy)
  have HPR := Lib.hid (fun A n c B m e w h k => product_any (sg x) (sg y) A n c (nd (fbSig x)) (fbExp x) B m e (nd (fbSig y)) (fbExp y) w h (by have := h.len; rw [nd_length] at this; have := fbSig_nw x; omega) k (by have := k.len; rw [nd_length] at this; have := fbSig_nw y; omega) (by rw [nv_nd, nv_nd]; have := fbSig_bl x; have := fbSig_bl y; omega) (by have := fbExp_lo x; omega) (by have := fbExp_hi x; omega) (by have := fbExp_lo y; omega) (by have := fbExp_hi y; omega))
  have HTO := Lib.hid (fun A n c w h => to_any d (sg x != sg y) A n c (nd (fbSig x * fbSig y)) (fbExp x + fbExp y) w h (by have := h.len; rw [nd_length] at this; have := prod_nw x y; omega) (by rw [nv_nd]; have := prod_nw x y; omega) (by have := fbExp_lo x; have := fbExp_lo y; omega) (by have := fbExp_hi x; have := fbExp_hi y; omega))
  simp only [nv_nd] at HPR HTO
  have HV : Hid (V = rnd d (sg x != sg y) (zd (2 * (fbSig x * fbSig y)) (fbExp x + fbExp y - 1))) := Lib.hid (by rw [mul_exact]; exact hV)
  rw [← HV.out] at HTO
  by_cases hb : b1 = true ∧ b2 = true ∧ b3 = true
  · obtain ⟨rfl, rfl, rfl⟩ := hb
    obtain ⟨mx, -⟩ := mid_of hb1.symm
    obtain ⟨my, -⟩ := mid_of hb2.symm
    obtain ⟨mp, fp⟩ := mid_of hb3.symm
    obtain ⟨q, e, hq, hq0, hqg, oe, fpq, fe, hres⟩ := mul_quick (Fl.of hx fx) (Fl.of hy fy) mx my hm fp mp
    have HMI := Lib.hid (fun w => missed_any x y p e w oe)
    have HNU := Lib.hid (fun w => nudge_any d p e (q - rn q) w hpl fp fe.lt (by rw [fe.ltB Fl.zero]) (by rw [Fl.zero.ltB fe]))
    have hk := hres d
    have e1 := mul_units d hq
    rw [← hk, ← e1, ← hV] at HNU
    clear hk e1 hres fe fpq oe hqg hq0 hq mx my mp fp hb1 hb2 hb3 HV HTO HPR HPX HPY hV hpi hpl hnl hp hm fx fy ho hx hy
    go_enter Try.func28, Try.ntmps28
    go_wp2
    go_step3
    go_wp2_with fail
    generalize w.heap.size = g0 at hc0 hc1 ⊢
    generalize w.alloc _ = w1 at hE0 hc0 hc1 ⊢
    go_wp2_with (first | (go_at_call 67; refine (HO.out _ _ hc0 hc1).mono ?_; rintro e w' ⟨rfl, rfl⟩) | (go_at_call 69; ((with_reducible refine (HMX.out _).mono ?_); rintro e w' ⟨rfl, rfl⟩)) | (go_at_call 69; ((with_reducible refine (HMY.out _).mono ?_); rintro e w' ⟨rfl, rfl⟩)) | (go_at_call 69; ((with_reducible refine (HMP.out _).mono ?_); rintro e w' ⟨rfl, rfl⟩)) | (go_at_call 71; refine (HMI.out _).mono ?_; rintro e w' ⟨rfl, rfl⟩) | (go_at_call 70; refine (HNU.out _).mono ?_; rintro e w' ⟨rfl, rfl⟩))
    rw [Exit.noGoto_ret]
    go_ret
    exact ⟨rfl, hE0⟩
  · have hcase := three_cases hb
    clear hb hb1 hb2 hb3 HV hV hpi hpl hnl hp hm fx fy ho hx hy
    rcases hcase with rfl | ⟨rfl, rfl⟩ | ⟨rfl, rfl, rfl⟩
    all_goals
      go_enter Try.func28, Try.ntmps28
      go_wp2
      apply wp_scope_to (l := 0) (hf := by rfl)
      · go_wp2_with (first | (go_at_call 67; refine (HO.out _ _ hc0 hc1).mono ?_; rintro e w' ⟨rfl, rfl⟩) | (go_at_call 69; ((with_reducible refine (HMX.out _).mono ?_); rintro e w' ⟨rfl, rfl⟩)) | (go_at_call 69; ((with_reducible refine (HMY.out _).mono ?_); rintro e w' ⟨rfl, rfl⟩)) | (go_at_call 69; ((with_reducible refine (HMP.out _).mono ?_); rintro e w' ⟨rfl, rfl⟩)))
        go_step3
        exact ⟨rfl, rfl, rfl⟩
      · go_wp2_with fail
        refine (HPX.out _).mono ?_
        rintro e w2 ⟨A1, n1, c1, rfl, hR1, hE1⟩
        go_wp2_with fail
        refine (HPY.out _).mono ?_
        rintro e w3 ⟨A2, n2, c2, rfl, hR2, hE2⟩
        go_wp2_with fail
        refine (HPR.out _ _ _ _ _ _ _ (hR1.ext hE2) hR2).mono ?_
        rintro e w4 ⟨A3, n3, c3, rfl, hR3, hE3⟩
        go_wp2_with fail
        refine (HTO.out _ _ _ _ hR3).mono ?_
        rintro e w5 ⟨rfl, hE4⟩
        go_wp2
        rw [jump_ret]
        go_ret
        exact ⟨rfl, (((hE0.trans hE1).trans hE2).trans hE3).trans hE4⟩

theorem rmul_any (d : Int) (x y : Nat) (w : World) (hx : x < 18446744073709551616) (hy : y < 18446744073709551616) :
    Calls Try.prog 28 #[.int .i64 d, .float .f64 x, .float .f64 y] w (RetFl (mulR d x y) w) := by
  cases ho : (oddF x || oddF y)
  · refine (rmul_fin d x y w hx hy ho).mono ?_
    rintro e w' ⟨rfl, hE⟩
    have e1 : mulR d x y = rT d (sv x * sv y) := by
      unfold oddF at ho
      rw [Bool.or_eq_false_iff, Bool.or_eq_false_iff, Bool.or_eq_false_iff] at ho
      unfold mulR
      rw [ho.1.1, ho.1.2, ho.2.1, ho.2.2]
      rfl
    rw [e1]
    exact ⟨_, rfl, (rT_ok _ _).1, (rT_ok _ _).2, hE⟩
  · exact rmul_odd d x y w hx hy ho
end Go.Proofs.Ytjblogfbcglnmaa

/-
  The contracts of the reference's naturals, third part: sums and differences. Conditions: those that each theorem names.
-/
namespace Go.Proofs.Ytjblogfbcglnmaa
open Go.RowKit Nm
set_option maxRecDepth 100000
set_option linter.unusedVariables false
set_option linter.unusedSimpArgs false

set_option maxHeartbeats 1000000 in
theorem plus_any (A : Option Addr) (n c : Nat) (xs : List Nat) (B : Option Addr) (m d : Nat) (ys : List Nat) (w : World) (h : Wds w A n c xs) (hn : n ≤ 17592186044416) (k : Wds w B m d ys) (hm : m ≤ 17592186044416) :
    Calls Try.prog 124 #[.slice A n c, .slice B m d] w (RetW (nv xs + nv ys) w) := by
  have hlx := h.len
  have hly := k.len
  obtain ⟨i0, hi0, hz0, hz1, hz2⟩ := info_parts info_u32
  go_enter Try.func124, Try.ntmps124
  go_wp2
  go_loopw [5, 6, 7] (fun v cv i wr => ∃ (j cr : Nat) (acc : List Nat), j ≤ max n m ∧ i = .int .i64 j ∧ cv = .int .u64 (cr : Int) ∧ cr ≤ 1 ∧ Ws acc ∧ Hid (acc.length = j) ∧ Hid (nv acc + 4294967296 ^ j * cr = nv (xs.take j) + nv (ys.take j)) ∧ wr.ownsRow w.heap.size 28 1 v j (u32s acc) ∧ Ext w wr) (fun _ _ i _ => max n m - (intOf i).toNat)
  case atStart => exact ⟨0, 0, [], by omega, rfl, rfl, by omega, Ws.nil, Lib.hid rfl, Lib.hid (by simp [nv]), World.ownsRow_nil _ _ _ _, Ext.refl _⟩
  case round =>
    obtain ⟨j, cr, acc, hj, rfl, rfl, hcr, hacc, hal, hsum, hown, hb⟩ := hrel
    have hX : j < n → ∃ ad, ∃ X : Nat, A = some ad ∧ X < 4294967296 ∧ Hid (X = xs.getD j 0) ∧ wr.cell? (ad.add j) = some (.int .u32 (X : Int)) := fun hl => by
      obtain ⟨ad, hx, e, _, hc⟩ := (h.ext hb).at_ hl
      exact ⟨ad, xs[j], e, h.ws.get hx, Lib.hid (by simp [List.getD, hx]), hc⟩
    have hY : j < m → ∃ ad, ∃ Y : Nat, B = some ad ∧ Y < 4294967296 ∧ Hid (Y = ys.getD j 0) ∧ wr.cell? (ad.add j) = some (.int .u32 (Y : Int)) := fun hl => by
      obtain ⟨ad, hx, e, _, hc⟩ := (k.ext hb).at_ hl
      exact ⟨ad, ys[j], e, k.ws.get hx, Lib.hid (by simp [List.getD, hx]), hc⟩
    have hnX : n ≤ j → Hid (0 = xs.getD j 0) := fun hl => Lib.hid (by simp [List.getD, show ¬ j < xs.length by omega])
    have hnY : m ≤ j → Hid (0 = ys.getD j 0) := fun hl => Lib.hid (by simp [List.getD, show ¬ j < ys.length by omega])
    by_cases h1 : j < n
    · obtain ⟨ad, X, rfl, hX32, hXe, hcX⟩ := hX h1
      clear hX hnX
      by_cases h2 : j < m
      · obtain ⟨bd, Y, rfl, hY32, hYe, hcY⟩ := hY h2
        clear hY hnY
        obtain ⟨lo, hlo⟩ : ∃ lo, lo = (cr + X + Y) % 4294967296 := ⟨_, rfl⟩
        have hand := and_mask (cr + X + Y) lo (by omega) hlo
        have HL := Lib.hid hlo
        have hlo32 : lo < 4294967296 := by omega
        clear hlo
        push_cast at hand
        go_wp2_with (at_builtin; refine wpList_append_own _ rfl (.tmp 42) (.tmp 46) _ rfl w.heap.size 28 i0 (.int .u32 0) 1 4 Try.underlying32 hi0 hz0 hz1 hz2 rfl (by decide) _ _ _ rfl (hown.alloc _) ⟨wr.heap.size, 0, none⟩ 1 1 [.int .u32 (lo : Int)] rfl rfl (cell_one_new _ _ _) (by simp [Value.oneCell']) (by simp only [maxLen]; omega) (by omega) (by have := hb.size; simp; omega) ?_; intro v' w1 hown' hgrow _)
        go_roundw
        case rel => exact ⟨j + 1, (cr + X + Y) / 4294967296, acc ++ [lo], by omega, by go_num, val_int (by omega), by omega, hacc.append (Ws.cons hlo32 Ws.nil), Lib.hid (by simp [hal.out]), Lib.hid (sum_step hal.out hXe.out hYe.out hsum.out HL.out), by rw [← u32s_snoc]; exact hown', (hb.alloc _).grown hgrow fun q hq => (hown.lt q hq).1⟩
        case measure => simp [intOf]; omega
      · have hYe := hnY (by omega)
        clear hY hnY
        obtain ⟨lo, hlo⟩ : ∃ lo, lo = (cr + X + 0) % 4294967296 := ⟨_, rfl⟩
        have hand := and_mask (cr + X) lo (by omega) hlo
        have HL := Lib.hid hlo
        have hlo32 : lo < 4294967296 := by omega
        clear hlo
        push_cast at hand
        go_wp2_with (at_builtin; refine wpList_append_own _ rfl (.tmp 42) (.tmp 46) _ rfl w.heap.size 28 i0 (.int .u32 0) 1 4 Try.underlying32 hi0 hz0 hz1 hz2 rfl (by decide) _ _ _ rfl (hown.alloc _) ⟨wr.heap.size, 0, none⟩ 1 1 [.int .u32 (lo : Int)] rfl rfl (cell_one_new _ _ _) (by simp [Value.oneCell']) (by simp only [maxLen]; omega) (by omega) (by have := hb.size; simp; omega) ?_; intro v' w1 hown' hgrow _)
        go_roundw
        case rel => exact ⟨j + 1, (cr + X + 0) / 4294967296, acc ++ [lo], by omega, by go_num, val_int (by omega), by omega, hacc.append (Ws.cons hlo32 Ws.nil), Lib.hid (by simp [hal.out]), Lib.hid (sum_step hal.out hXe.out hYe.out hsum.out HL.out), by rw [← u32s_snoc]; exact hown', (hb.alloc _).grown hgrow fun q hq => (hown.lt q hq).1⟩
        case measure => simp [intOf]; omega
    · have hXe := hnX (by omega)
      clear hX hnX
      by_cases h2 : j < m
      · obtain ⟨bd, Y, rfl, hY32, hYe, hcY⟩ := hY h2
        clear hY hnY
        obtain ⟨lo, hlo⟩ : ∃ lo, lo = (cr + 0 + Y) % 4294967296 := ⟨_, rfl⟩
        have hand := and_mask (cr + Y) lo (by omega) (by omega)
        have HL := Lib.hid hlo
        have hlo32 : lo < 4294967296 := by omega
        clear hlo
        push_cast at hand
        go_wp2_with (at_builtin; refine wpList_append_own _ rfl (.tmp 42) (.tmp 46) _ rfl w.heap.size 28 i0 (.int .u32 0) 1 4 Try.underlying32 hi0 hz0 hz1 hz2 rfl (by decide) _ _ _ rfl (hown.alloc _) ⟨wr.heap.size, 0, none⟩ 1 1 [.int .u32 (lo : Int)] rfl rfl (cell_one_new _ _ _) (by simp [Value.oneCell']) (by simp only [maxLen]; omega) (by omega) (by have := hb.size; simp; omega) ?_; intro v' w1 hown' hgrow _)
        go_roundw
        case rel => exact ⟨j + 1, (cr + 0 + Y) / 4294967296, acc ++ [lo], by omega, by go_num, val_int (by omega), by omega, hacc.append (Ws.cons hlo32 Ws.nil), Lib.hid (by simp [hal.out]), Lib.hid (sum_step hal.out hXe.out hYe.out hsum.out HL.out), by rw [← u32s_snoc]; exact hown', (hb.alloc _).grown hgrow fun q hq => (hown.lt q hq).1⟩
        case measure => simp [intOf]; omega
      · have hfin := hsum.out
        rw [List.take_of_length_le (by omega), List.take_of_length_le (by omega)] at hfin
        have HF := Lib.hid (hfin)
        clear hfin hY hnY
        have hcr32 : cr < 4294967296 := by omega
        go_wp2_with (at_builtin; refine wpList_append_own _ rfl (.tmp 50) (.tmp 53) _ rfl w.heap.size 28 i0 (.int .u32 0) 1 4 Try.underlying32 hi0 hz0 hz1 hz2 rfl (by decide) _ _ _ rfl (hown.alloc _) ⟨wr.heap.size, 0, none⟩ 1 1 [.int .u32 (cr : Int)] rfl rfl (cell_one_new _ _ _) (by simp [Value.oneCell']) (by simp only [maxLen]; omega) (by omega) (by have := hb.size; simp; omega) ?_; intro v' w1 hown' hgrow _)
        rw [u32s_snoc] at hown'
        have hE1 : Ext w w1 := (hb.alloc _).grown hgrow fun q hq => (hown.lt q hq).1
        obtain ⟨A', c', rfl, hW⟩ := Wds.of_own hown' (hacc.append (Ws.cons hcr32 Ws.nil))
        go_wp2_with (go_at_call 85; refine (norm_any _ _ _ _ _ hW (by omega)).mono ?_; rintro e w2 ⟨A2, n2, c2, rfl, hR, hE2⟩)
        go_ret
        exact ⟨A2, n2, c2, rfl, by
          have e : nv (acc ++ [cr]) = nv xs + nv ys := by
            rw [nv_append, hal.out]; simp only [nv, Nat.mul_zero, Nat.add_zero]; exact HF.out
          rw [← e]; exact hR, hE1.trans hE2⟩

set_option maxHeartbeats 1000000 in
theorem minus_any (A : Option Addr) (n c : Nat) (xs : List Nat) (B : Option Addr) (m d : Nat) (ys : List Nat) (w : World) (h : Wds w A n c xs) (hn : n ≤ 17592186044416) (k : Wds w B m d ys) (hm : m ≤ 17592186044416) (hle : nv ys ≤ nv xs) :
    Calls Try.prog 125 #[.slice A n c, .slice B m d] w (RetW (nv xs - nv ys) w) := by
  have hlx := h.len
  have hly := k.len
  have HLE := Lib.hid hle
  clear hle
  go_enter Try.func125, Try.ntmps125
  go_wp2
  go_loopw [5, 6, 7] (fun v cv i wr => ∃ (j br : Nat) (acc : List Nat), j ≤ n ∧ i = .int .i64 j ∧ cv = .int .u64 (br : Int) ∧ br ≤ 1 ∧ Ws acc ∧ Hid (acc.length = j) ∧ Hid (nv acc + nv (ys.take j) = nv (xs.take j) + 4294967296 ^ j * br) ∧ wr.ownsRow w.heap.size 28 1 v j (u32s acc) ∧ Ext w wr) (fun _ _ i _ => n - (intOf i).toNat)
  case atStart => exact ⟨0, 0, [], by omega, rfl, rfl, by omega, Ws.nil, Lib.hid rfl, Lib.hid (by simp [nv]), World.ownsRow_nil _ _ _ _, Ext.refl _⟩
  case round =>
    obtain ⟨j, br, acc, hj, rfl, rfl, hbr, hacc, hal, hsum, hown, hb⟩ := hrel
    by_cases h1 : j < n
    · obtain ⟨ad, hx, rfl, _, hcX⟩ := (h.ext hb).at_ h1
      have hX32 := h.ws.get hx
      have hXe := Lib.hid (getD_of hx)
      generalize xs[j] = X at *
      have hY : (j < m ∧ ∃ bd, ∃ Y : Nat, B = some bd ∧ Y < 4294967296 ∧ Hid (Y = ys.getD j 0) ∧ wr.cell? (bd.add j) = some (.int .u32 (Y : Int))) ∨ (m ≤ j ∧ ∃ Y : Nat, Y ≤ 0 ∧ Hid (Y = ys.getD j 0)) := by
        by_cases hl : j < m
        · obtain ⟨bd, hy, e, _, hc⟩ := (k.ext hb).at_ hl
          exact .inl ⟨hl, bd, ys[j], e, k.ws.get hy, Lib.hid (getD_of hy), hc⟩
        · exact .inr ⟨by omega, 0, by omega, Lib.hid (getD_out (by omega))⟩
      rcases hY with ⟨hjm, bd, Y, rfl, hY32, hYe, hcY⟩ | ⟨hjm, Y, hY0, hYe⟩
      all_goals
        by_cases hlt : X < br + Y
        · go_wp2_with (at_builtin; refine wp_app32 rfl (.tmp 38) (.tmp 43) rfl (X + 4294967296 - (br + Y)) rfl hown hb rfl (by omega) (by omega) ?_; intro v' w1 hown' hE')
          go_roundw
          case rel => exact ⟨j + 1, 1, acc ++ [X + 4294967296 - (br + Y)], by omega, by go_num, rfl, by omega, hacc.append (Ws.cons (by omega) Ws.nil), Lib.hid (by simp [hal.out]), Lib.hid (diff_step hal.out hXe.out hYe.out hsum.out (by omega)), hown', hE'⟩
          case measure => simp [intOf]; omega
        · go_wp2_with (at_builtin; refine wp_app32 rfl (.tmp 38) (.tmp 43) rfl (X - (br + Y)) rfl hown hb rfl (by omega) (by omega) ?_; intro v' w1 hown' hE')
          go_roundw
          case rel => exact ⟨j + 1, 0, acc ++ [X - (br + Y)], by omega, by go_num, rfl, by omega, hacc.append (Ws.cons (by omega) Ws.nil), Lib.hid (by simp [hal.out]), Lib.hid (diff_step hal.out hXe.out hYe.out hsum.out (by omega)), hown', hE'⟩
          case measure => simp [intOf]; omega
    · have HF := Lib.hid (diff_end h.ws hacc (hal.out.trans (by omega)) hlx HLE.out (by rw [show n = j by omega]; exact hsum.out))
      obtain ⟨A', c', rfl, hW⟩ := Wds.of_own hown hacc
      go_wp2_with (go_at_call 85; refine (norm_any _ _ _ _ _ hW (by omega)).mono ?_; rintro e w2 ⟨A2, n2, c2, rfl, hR, hE2⟩)
      go_ret
      exact ⟨A2, n2, c2, rfl, by rw [← HF.out]; exact hR, hb.trans hE2⟩
end Go.Proofs.Ytjblogfbcglnmaa
