/-
  The contracts of the program's Add and Sub. Conditions: those that each theorem names.
-/
import Derived.Test.YtfbjeifhpmdjaaaZ18
import Derived.Test.YtfbjeifhpmdjaaaZ30
import Derived.Test.YtfbjeifhpmdjaaaZ10
namespace Go.Proofs.Ytfbjeifhpmdjaaa
open Go.RowKit Nm Rn
set_option maxRecDepth 100000
set_option linter.unusedVariables false
set_option linter.unusedSimpArgs false

theorem nw_le_tr {a b k : Nat} (h : a ≤ b) (hb : nw b ≤ k) : nw a ≤ k := (nw_le_iff _ _).2 (Nat.lt_of_le_of_lt h ((nw_le_iff _ _).1 hb))
theorem un_shift {neg : Bool} {V s : Nat} {x y : Int} (hx : -2148 ≤ x) (h : y - x = (s : Int)) : un neg (V * 2 ^ s) x = un neg V y := by
  unfold un
  have e : (y + 2148).toNat = s + (x + 2148).toNat := by omega
  rw [e, sn_mul, sn_mul, pow_add_, Nat.mul_assoc]
theorem un_zero {neg : Bool} {x : Int} : un neg 0 x = 0 := by unfold un sn; cases neg <;> simp
theorem un_add {n m r : Bool} {P Q X : Nat} {x : Int} (hr : r = aNeg n m P Q) (hX : X = aMag n m P Q) : un r X x = un n P x + un m Q x := by
  unfold un
  rw [hr, hX, sn_sum, Int.add_mul]

theorem sum_any (s1 s2 : Bool) (A1 : Option Addr) (n1 c1 V1 : Nat) (x1 : Int) (A2 : Option Addr) (n2 c2 V2 : Nat) (x2 : Int) (w : World) (h : Wds w A1 n1 c1 (nd V1)) (k : Wds w A2 n2 c2 (nd V2)) (b1 : -2148 ≤ x1) (b2 : x1 ≤ 4000) (b3 : -2148 ≤ x2) (b4 : x2 ≤ 4000) (hb1 : bl V1 ≤ 200) (hb2 : bl V2 ≤ 200) :
    Calls Try.prog 78 #[.agg #[.bool s1, .slice A1 n1 c1, .int .i64 x1], .agg #[.bool s2, .slice A2 n2 c2, .int .i64 x2]] w fun e w' => ∃ neg V x, RetD neg V x w e w' ∧ nw V ≤ 16384 ∧ -2148 ≤ x ∧ x ≤ 4000 ∧ un neg V x = un s1 V1 x1 + un s2 V2 x2 := by
  have hz1 : nw V1 ≤ 7 := by rw [nw_bl]; omega
  have hz2 : nw V2 ≤ 7 := by rw [nw_bl]; omega
  by_cases hV1 : V1 = 0
  · refine (sum_left s1 s2 A1 n1 c1 V1 x1 A2 n2 c2 V2 x2 w h k (by omega) (by omega) (by omega) (by omega) hV1).mono fun e w' hr => ⟨s2, V2, x2, hr, by omega, b3, b4, ?_⟩
    rw [hV1, un_zero, Int.zero_add]
  by_cases hV2 : V2 = 0
  · refine (sum_right s1 s2 A1 n1 c1 V1 x1 A2 n2 c2 V2 x2 w h k (by omega) (by omega) (by omega) (by omega) hV1 hV2).mono fun e w' hr => ⟨s1, V1, x1, hr, by omega, b1, b2, ?_⟩
    rw [hV2, un_zero, Int.add_zero]
  have hA : ∀ {P Q : Nat}, nw P ≤ 7 → nw Q ≤ 1000 → nw (P + Q) ≤ 16384 := by
    intro P Q hP hQ
    have h1 := lt_pow_nw P
    have h2 := lt_pow_nw Q
    have h3 : 4294967296 ^ nw P ≤ 4294967296 ^ (nw P + nw Q) := Nat.pow_le_pow_right (by omega) (by omega)
    have h4 : 4294967296 ^ nw Q ≤ 4294967296 ^ (nw P + nw Q) := Nat.pow_le_pow_right (by omega) (by omega)
    have h5 : nw (P + Q) ≤ nw P + nw Q + 1 := by
      refine (nw_le_iff _ _).2 ?_
      rw [Nat.pow_succ]
      omega
    omega
  have hS : ∀ {V s : Nat}, V ≠ 0 → bl V ≤ 200 → s ≤ 10000 → nw (V * 2 ^ s) ≤ 1000 := by
    intro V s h0 hb hs
    rw [nw_bl, bl_mul_pow s h0]
    omega
  have hL : ∀ {a b : Nat}, a ≤ b → nw b ≤ 16384 → nw a ≤ 16384 := fun h hb => nw_le_tr h hb
  by_cases hsw : x2 < x1
  · obtain ⟨s, hs⟩ : ∃ s : Nat, x1 - x2 = s := ⟨(x1 - x2).toNat, by omega⟩
    have hU := hS hV1 hb1 (show s ≤ 10000 by omega)
    have he := un_shift (neg := s1) (V := V1) b3 hs
    by_cases hss : s2 = s1
    · refine (sum_s_same s1 s2 A1 n1 c1 V1 x1 A2 n2 c2 V2 x2 s w h k (by omega) (by omega) (by omega) (by omega) hV1 hV2 hb1 hb2 (by omega) hs (decide_eq_true hsw) (by simpa using hss)).mono fun e w' hr => ⟨_, _, _, hr, hA hz2 hU, b3, b4, ?_⟩
      rw [Int.add_comm, ← he]
      exact un_add (by unfold aNeg; rw [if_pos hss]) (by unfold aMag; rw [if_pos hss])
    · by_cases hle : V1 * 2 ^ s ≤ V2
      · refine (sum_s_ge s1 s2 A1 n1 c1 V1 x1 A2 n2 c2 V2 x2 s w h k (by omega) (by omega) (by omega) (by omega) hV1 hV2 hb1 hb2 (by omega) hs (decide_eq_true hsw) (by simpa using hss) hle).mono fun e w' hr => ⟨_, _, _, hr, hL (Nat.sub_le _ _) (by omega), b3, b4, ?_⟩
        rw [Int.add_comm, ← he]
        exact un_add (by unfold aNeg; rw [if_neg hss, if_pos hle]) (by unfold aMag; rw [if_neg hss, if_pos hle])
      · refine (sum_s_lt s1 s2 A1 n1 c1 V1 x1 A2 n2 c2 V2 x2 s w h k (by omega) (by omega) (by omega) (by omega) hV1 hV2 hb1 hb2 (by omega) hs (decide_eq_true hsw) (by simpa using hss) (by omega)).mono fun e w' hr => ⟨_, _, _, hr, hL (Nat.sub_le _ _) (by omega), b3, b4, ?_⟩
        rw [Int.add_comm, ← he]
        exact un_add (by unfold aNeg; rw [if_neg hss, if_neg hle]) (by unfold aMag; rw [if_neg hss, if_neg hle])
  · obtain ⟨s, hs⟩ : ∃ s : Nat, x2 - x1 = s := ⟨(x2 - x1).toNat, by omega⟩
    have hU := hS hV2 hb2 (show s ≤ 10000 by omega)
    have he := un_shift (neg := s2) (V := V2) b1 hs
    by_cases hss : s1 = s2
    · refine (sum_n_same s1 s2 A1 n1 c1 V1 x1 A2 n2 c2 V2 x2 s w h k (by omega) (by omega) (by omega) (by omega) hV1 hV2 hb1 hb2 (by omega) hs (decide_eq_false hsw) (by simpa using hss)).mono fun e w' hr => ⟨_, _, _, hr, hA hz1 hU, b1, b2, ?_⟩
      rw [← he]
      exact un_add (by unfold aNeg; rw [if_pos hss]) (by unfold aMag; rw [if_pos hss])
    · by_cases hle : V2 * 2 ^ s ≤ V1
      · refine (sum_n_ge s1 s2 A1 n1 c1 V1 x1 A2 n2 c2 V2 x2 s w h k (by omega) (by omega) (by omega) (by omega) hV1 hV2 hb1 hb2 (by omega) hs (decide_eq_false hsw) (by simpa using hss) hle).mono fun e w' hr => ⟨_, _, _, hr, hL (Nat.sub_le _ _) (by omega), b1, b2, ?_⟩
        rw [← he]
        exact un_add (by unfold aNeg; rw [if_neg hss, if_pos hle]) (by unfold aMag; rw [if_neg hss, if_pos hle])
      · refine (sum_n_lt s1 s2 A1 n1 c1 V1 x1 A2 n2 c2 V2 x2 s w h k (by omega) (by omega) (by omega) (by omega) hV1 hV2 hb1 hb2 (by omega) hs (decide_eq_false hsw) (by simpa using hss) (by omega)).mono fun e w' hr => ⟨_, _, _, hr, hL (Nat.sub_le _ _) (by omega), b1, b2, ?_⟩
        rw [← he]
        exact un_add (by unfold aNeg; rw [if_neg hss, if_neg hle]) (by unfold aMag; rw [if_neg hss, if_neg hle])

/-- Above 2^900, of a pattern. -/
def grB (b : Nat) : Bool := ltB 8660422083433463808 (mg b)
theorem grB_fin {b : Nat} (hf : mg b < infR) (h : grB b = false) : rv (mg b) ≤ Kg := by
  unfold grB at h
  rw [ltB_pos (by rw [infR_val]; omega) (by omega), decide_eq_false_iff_not] at h
  rw [← rv_great_]
  exact rv_le (by omega)

set_option maxHeartbeats 2000000 in
theorem radd_odd (d : Int) (x y : Nat) (w : World) (hx : x < 18446744073709551616) (hy : y < 18446744073709551616) (ho : (oddF x || oddF y) = true) :
    Calls Try.prog 39 #[.int .i64 d, .float .f64 x, .float .f64 y] w (RetFl (addR d x y) w) := by
  have hm := add_odd hx hy ho
  have hE0 : Ext w (w.alloc (.cells #[.float .f64 x, .float .f64 y] 28)) := (Ext.refl w).alloc _
  have hc0 : (w.alloc (.cells #[.float .f64 x, .float .f64 y] 28)).cell? ⟨w.heap.size, 0, none⟩ = some (.float .f64 x) := by simp
  have hc1 : (w.alloc (.cells #[.float .f64 x, .float .f64 y] 28)).cell? ⟨w.heap.size, 1, none⟩ = some (.float .f64 y) := by simp
  have HO := Lib.hid (fun g w c0 c1 => odd_two g x y w c0 c1 hx hy)
  rw [ho] at HO
  obtain ⟨V, hV⟩ : ∃ V, V = addR d x y := ⟨_, rfl⟩
  rw [← hV]
  rcases hm with ⟨hm, hr⟩ | ⟨s, hm, hr⟩
  · rw [hr] at hV
    have HV := Lib.hid hV
    have hrun := fun w => run_nan (op := .add) (x := x) (y := y) hm (by simp) w
    clear ho hm hr hV hx hy
    go_enter Try.func39, Try.ntmps39
    go_wp2
    go_step3
    go_wp2_with fail
    generalize w.heap.size = g0 at hc0 hc1 ⊢
    generalize w.alloc _ = w1 at hE0 hc0 hc1 ⊢
    go_wp2_with (go_at_call 75; refine (HO.out _ _ hc0 hc1).mono ?_; rintro e w' ⟨rfl, rfl⟩)
    rw [Exit.noGoto_ret]
    go_ret
    exact ⟨_, rfl, nanOf_lt _ x y, by rw [cn_nan (nanOf_nan _ x y)]; exact HV.out.symm, hE0.drew⟩
  · rw [hr] at hV
    have HV := Lib.hid hV
    have hrun := fun w => fadd hm w
    clear ho hm hr hV hx hy
    go_enter Try.func39, Try.ntmps39
    go_wp2
    go_step3
    go_wp2_with fail
    generalize w.heap.size = g0 at hc0 hc1 ⊢
    generalize w.alloc _ = w1 at hE0 hc0 hc1 ⊢
    go_wp2_with (go_at_call 75; refine (HO.out _ _ hc0 hc1).mono ?_; rintro e w' ⟨rfl, rfl⟩)
    rw [Exit.noGoto_ret]
    go_ret
    exact ⟨_, rfl, infP_lt s, by rw [cn_infP]; exact HV.out.symm, hE0⟩

set_option maxHeartbeats 4000000 in
theorem radd_fin (d : Int) (x y : Nat) (w : World) (hx : x < 18446744073709551616) (hy : y < 18446744073709551616) (ho : (oddF x || oddF y) = false) :
    Calls Try.prog 39 #[.int .i64 d, .float .f64 x, .float .f64 y] w fun e w' => e = .returned (.float .f64 (rT d ((sv x + sv y) * (K74 : Int)))) ∧ Ext w w' := by
  have hE0 : Ext w (w.alloc (.cells #[.float .f64 x, .float .f64 y] 28)) := (Ext.refl w).alloc _
  have hc0 : (w.alloc (.cells #[.float .f64 x, .float .f64 y] 28)).cell? ⟨w.heap.size, 0, none⟩ = some (.float .f64 x) := by simp
  have hc1 : (w.alloc (.cells #[.float .f64 x, .float .f64 y] 28)).cell? ⟨w.heap.size, 1, none⟩ = some (.float .f64 y) := by simp
  have HO := Lib.hid (fun g w c0 c1 => odd_two g x y w c0 c1 hx hy)
  rw [ho] at HO
  rw [Bool.or_eq_false_iff] at ho
  have fx := oddF_fin ho.1
  have fy := oddF_fin ho.2
  have HAX := Lib.hid (fun w => mabs_any x w hx)
  have HAY := Lib.hid (fun w => mabs_any y w hy)
  have q1 := fo_gt (mg_lt64 x) (show 8660422083433463808 < 18446744073709551616 by omega)
  have q2 := fo_gt (mg_lt64 y) (show 8660422083433463808 < 18446744073709551616 by omega)
  have q1' : ltB 8660422083433463808 (mg x) = grB x := rfl
  have q2' : ltB 8660422083433463808 (mg y) = grB y := rfl
  rw [q1'] at q1
  rw [q2'] at q2
  obtain ⟨s, hm⟩ : ∃ s, Ieee.double.add x y = some s := ⟨_, add_fin hx hy fx fy⟩
  have hrun := fun w => fadd hm w
  obtain ⟨V, hV⟩ : ∃ V, V = rT d ((sv x + sv y) * (K74 : Int)) := ⟨_, rfl⟩
  rw [← hV]
  clear q1' q2'
  by_cases hb : grB x = false ∧ grB y = false
  · obtain ⟨h1, h2⟩ := hb
    have bx := grB_fin fx h1
    have by_ := grB_fin fy h2
    rw [h1] at q1
    rw [h2] at q2
    obtain ⟨s', e, ⟨t, u, p, q, o1, o2, o3, o4, o5, o6⟩, fs, fe, hres⟩ := sum_quick (Fl.of hx fx) (Fl.of hy fy) (by rw [sv_abs]; exact bx) (by rw [sv_abs]; exact by_)
    have hss : s' = s := by rw [hm] at o1; exact (Option.some.inj o1).symm
    subst hss
    have r2 := fun w => fsub o2 w
    have r3 := fun w => fsub o3 w
    have r4 := fun w => fsub o4 w
    have r5 := fun w => fsub o5 w
    have r6 := fun w => fadd o6 w
    have HNU := Lib.hid (fun w => nudge_any d s' e (sv x + sv y - rn (sv x + sv y)) w fs.lt fs.fin fe.lt (by rw [fe.ltB Fl.zero]) (by rw [Fl.zero.ltB fe]))
    rw [← hres d, ← rT_units, ← hV] at HNU
    clear hres fe fs o1 o2 o3 o4 o5 o6 h1 h2 bx by_ hV hm fx fy ho hx hy
    go_enter Try.func39, Try.ntmps39
    go_wp2
    go_step3
    go_wp2_with fail
    generalize w.heap.size = g0 at hc0 hc1 ⊢
    generalize w.alloc _ = w1 at hE0 hc0 hc1 ⊢
    go_wp2_with (first | (go_at_call 75; refine (HO.out _ _ hc0 hc1).mono ?_; rintro e w' ⟨rfl, rfl⟩) | (go_at_call 76; ((with_reducible refine (HAX.out _).mono ?_); rintro e w' ⟨rfl, rfl⟩)) | (go_at_call 76; ((with_reducible refine (HAY.out _).mono ?_); rintro e w' ⟨rfl, rfl⟩)) | (go_at_call 77; refine (HNU.out _).mono ?_; rintro e w' ⟨rfl, rfl⟩))
    rw [Exit.noGoto_ret]
    go_ret
    exact ⟨rfl, hE0⟩
  · have hcase : grB x = true ∨ (grB x = false ∧ grB y = true) := by
      cases h1 : grB x
      · cases h2 : grB y
        · exact absurd ⟨h1, h2⟩ hb
        · exact .inr ⟨rfl, rfl⟩
      · exact .inl rfl
    have HPX := Lib.hid (fun w => part_any x w hx)
    have HPY := Lib.hid (fun w => part_any y w hy)
    have HSM := Lib.hid (fun A1 n1 c1 A2 n2 c2 w h k => sum_any (sg x) (sg y) A1 n1 c1 (fbSig x) (fbExp x) A2 n2 c2 (fbSig y) (fbExp y) w h k (by have := fbExp_lo x; omega) (by have := fbExp_hi x; omega) (by have := fbExp_lo y; omega) (by have := fbExp_hi y; omega) (by have := fbSig_bl x; omega) (by have := fbSig_bl y; omega))
    have hT : un (sg x) (fbSig x) (fbExp x) + un (sg y) (fbSig y) (fbExp y) = (sv x + sv y) * (K74 : Int) := by rw [part_un, part_un, Int.add_mul]
    have HTO := Lib.hid (fun neg A n c (U : Nat) ex w h (hn : nw U ≤ 16384) h1 h2 => to_any d neg A n c (nd U) ex w h (by have := h.len; rw [nd_length] at this; omega) (by rw [nv_nd]; exact hn) h1 h2)
    simp only [nv_nd] at HTO
    have HV : Hid (∀ neg U ex, -2148 ≤ ex → un neg U ex = un (sg x) (fbSig x) (fbExp x) + un (sg y) (fbSig y) (fbExp y) → rnd d neg (zd (2 * U) (ex - 1)) = V) := Lib.hid (fun neg U ex h1 h2 => by rw [un_exact d h1 h2, hT]; exact hV.symm)
    clear hb hT hV hm fx fy ho hx hy
    rcases hcase with h1 | ⟨h1, h2⟩
    all_goals
      first | rw [h1] at q1 | skip
      try rw [h2] at q2
      go_enter Try.func39, Try.ntmps39
      go_wp2
      apply wp_scope_to (l := 0) (hf := by rfl)
      · go_wp2_with (first | (go_at_call 75; refine (HO.out _ _ hc0 hc1).mono ?_; rintro e w' ⟨rfl, rfl⟩) | (go_at_call 76; ((with_reducible refine (HAX.out _).mono ?_); rintro e w' ⟨rfl, rfl⟩)) | (go_at_call 76; ((with_reducible refine (HAY.out _).mono ?_); rintro e w' ⟨rfl, rfl⟩)))
        go_step3
        exact ⟨rfl, rfl, rfl⟩
      · go_wp2_with fail
        refine (HPX.out _).mono ?_
        rintro e w2 ⟨A1, n1, c1, rfl, hR1, hE1⟩
        go_wp2_with fail
        refine (HPY.out _).mono ?_
        rintro e w3 ⟨A2, n2, c2, rfl, hR2, hE2⟩
        go_wp2_with fail
        refine (HSM.out _ _ _ _ _ _ _ (hR1.ext hE2) hR2).mono ?_
        rintro e w4 ⟨neg, U, ex, ⟨A3, n3, c3, rfl, hR3, hE3⟩, hU1, hU2, hU3, hU4⟩
        go_wp2_with fail
        refine (HTO.out _ _ _ _ _ _ _ hR3 hU1 (by omega) (by omega)).mono ?_
        rintro e w5 ⟨rfl, hE4⟩
        rw [HV.out _ _ _ hU2 hU4]
        go_wp2
        rw [jump_ret]
        go_ret
        exact ⟨rfl, (((hE0.trans hE1).trans hE2).trans hE3).trans hE4⟩

theorem radd_any_ (d : Int) (x y : Nat) (w : World) (hx : x < 18446744073709551616) (hy : y < 18446744073709551616) :
    Calls Try.prog 39 #[.int .i64 d, .float .f64 x, .float .f64 y] w (RetFl (addR d x y) w) := by
  cases ho : (oddF x || oddF y)
  · refine (radd_fin d x y w hx hy ho).mono ?_
    rintro e w' ⟨rfl, hE⟩
    have e1 : addR d x y = rT d ((sv x + sv y) * (K74 : Int)) := by
      unfold oddF at ho
      rw [Bool.or_eq_false_iff, Bool.or_eq_false_iff, Bool.or_eq_false_iff] at ho
      unfold addR
      rw [ho.1.1, ho.1.2, ho.2.1, ho.2.2]
      rfl
    rw [e1]
    exact ⟨_, rfl, (rT_ok _ _).1, (rT_ok _ _).2, hE⟩
  · exact radd_odd d x y w hx hy ho
end Go.Proofs.Ytfbjeifhpmdjaaa
