/-
  The contracts of the program's sums, sixth part: Sign, end, Round, Over. Conditions: those that each theorem names.
-/
import Derived.Test.YtfbjeifhpmdjaaaGreatP28
import Derived.Test.YtfbjeifhpmdjaaaGreatP07
namespace Go.Proofs.YtfbjeifhpmdjaaaGreat
open Go.RowKit Nm Rn
set_option maxRecDepth 100000
set_option linter.unusedVariables false
set_option linter.unusedSimpArgs false

theorem eq_items (d : Nat) (xs ys : List Nat) : ∀ (is : List Nat) (w : World), (∀ i ∈ is, i < xs.length ∧ i < ys.length) → (Op.eqItems (d + 1) 24 1 (u64s xs).toArray (u64s ys).toArray is).run Tryz.prog w = .ok (is.all fun i => xs[i]? == ys[i]?) w
  | [], w, _ => by simp [Op.eqItems]
  | i :: is, w, h => by
    obtain ⟨h1, h2⟩ := h i (by simp)
    have e1 : (u64s xs).toArray[i * 1]? = some (.int .u64 (xs[i] : Int)) := by rw [Nat.mul_one]; simpa using u64s_get h1
    have e2 : (u64s ys).toArray[i * 1]? = some (.int .u64 (ys[i] : Int)) := by rw [Nat.mul_one]; simpa using u64s_get h2
    have p1 := run_part_plain (P := Tryz.prog) w (e := 24) (by kernel_rfl) e1
    have p2 := run_part_plain (P := Tryz.prog) w (e := 24) (by kernel_rfl) e2
    have p3 := run_equalIn_int (P := Tryz.prog) w d 24 .u64 .u64 (xs[i] : Int) (ys[i] : Int) Tryz.underlying24
    have ih := eq_items d xs ys is w (fun j hj => h j (by simp [hj]))
    simp only [Op.eqItems, Sem.run_bind, p1, p2, p3, Result.andThen_ok, List.all_cons, List.getElem?_eq_getElem h1, List.getElem?_eq_getElem h2]
    by_cases hq : xs[i] = ys[i]
    · rw [hq]
      simp [ih]
    · have hq2 : ((xs[i] : Int) == (ys[i] : Int)) = false := by rw [beq_eq_false_iff_ne]; omega
      have hq3 : (some xs[i] == some ys[i]) = false := by rw [beq_eq_false_iff_ne]; intro h; exact hq (Option.some.inj h)
      simp [hq2, hq3]
theorem run_eq68 {xs ys : List Nat} (hx : xs.length = 68) (hy : ys.length = 68) (w : World) : (Op.equalIn 10000 53 (.agg (u64s xs).toArray) (.agg (u64s ys).toArray)).run Tryz.prog w = .ok (decide (xs = ys)) w := by
  obtain ⟨i, hi⟩ : ∃ i, Tryz.prog.info? 24 = some i := Option.isSome_iff_exists.1 (by kernel_rfl)
  have hc : Tryz.prog.cellsOf 24 = 1 := by kernel_rfl
  have h1 := run_equalIn_array (P := Tryz.prog) w 9999 (u64s xs).toArray (u64s ys).toArray Tryz.underlying53 hi
  rw [hc, eq_items 9998 xs ys (List.range 68) w (fun i hi => by rw [hx, hy]; have := List.mem_range.1 hi; omega)] at h1
  rw [h1]
  congr 1
  rw [Bool.eq_iff_iff, List.all_eq_true, decide_eq_true_iff]
  constructor
  · intro h
    apply List.ext_getElem?
    intro k
    by_cases hk : k < 68
    · have := h k (List.mem_range.2 hk)
      exact beq_iff_eq.1 this
    · rw [List.getElem?_eq_none (by omega), List.getElem?_eq_none (by omega)]
  · rintro rfl k _
    exact beq_iff_eq.2 rfl
theorem run_eqz {T : Int} (h : 2 * T.natAbs < MM) (w : World) : (Op.equalIn 10000 53 (.agg (u64s (sw T)).toArray) (.agg Tryz.zeroCells53)).run Tryz.prog w = .ok (decide (T = 0)) w := by
  have h1 := run_eq68 (sw_len T) (ys := List.replicate 68 0) (by simp) w
  rw [show decide (sw T = List.replicate 68 0) = decide (T = 0) from decide_eq_decide.2 (sw_zero h)] at h1
  rw [show Tryz.zeroCells53 = (u64s (List.replicate 68 0)).toArray from rfl]
  exact h1
/-- Sign's answer. -/
def Sm.sign (S : Sm) : Int := if S.state = 2 then 0 else if S.state ≠ 0 then S.state else if S.T < 0 then -1 else if S.T = 0 then 0 else 1
/-- What a sum that is not finite answers. -/
def Sm.ends (S : Sm) : Nat := if S.state = 1 then infR else if S.state = -1 then minf else NaNc
/-- Round's answer. -/
def Sm.round (S : Sm) (d : Int) : Nat := if S.state ≠ 0 then S.ends else rT d S.T
theorem bl_sum {T : Int} (h : 2 * T.natAbs < MM) : bl T.natAbs ≤ 4352 := by
  obtain ⟨c, hc⟩ : ∃ c, c = 68 := ⟨_, rfl⟩
  have h1 : T.natAbs < 2 ^ (64 * c) := by
    rw [← pow64, hc]
    show _ < MM
    omega
  have := (bl_le_iff _ _).2 h1
  omega
theorem nw_sum {T : Int} (h : 2 * T.natAbs < MM) : nw T.natAbs ≤ 136 := by rw [nw_bl]; have := bl_sum h; omega
theorem sn_self (T : Int) : sn (decide (T < 0)) T.natAbs = T := by
  unfold sn
  by_cases h : T < 0
  · rw [decide_eq_true h, if_pos rfl]; omega
  · rw [decide_eq_false h, if_neg (by simp)]; omega
theorem ofR_sum {d T : Int} (h : 2 * T.natAbs < MM) : ofR d (decide (T < 0)) T.natAbs (-2148) = rT d T := by
  rw [ofR_zd d _ (by have := bl_sum h; omega) (by omega) (by omega), ← zd_two]
  refine rT_dy (A := 0) (B := 0) (by omega) ?_
  rw [sn_self]
theorem stt_cases (p m n : Bool) : stt p m n = 0 ∨ stt p m n = 1 ∨ stt p m n = -1 ∨ stt p m n = 2 := by cases p <;> cases m <;> cases n <;> simp [stt]
section
variable {w0 w : World} {L : List Bx} {W : List Sw} {g : Nat}

set_option maxHeartbeats 4000000 in
theorem tsign_any (S : Sm) (hT : S.state = 0 → 2 * S.T.natAbs < MM) (hO : Own w0 (⟨g, 55, S.cs⟩ :: L) W w) :
    Calls Tryz.prog 34 #[.pointer (some ⟨g, 0, none⟩)] w fun e w' => e = .returned (.int .i64 S.sign) ∧ w = w' := by
  have HST := Lib.hid (fun w h => tstate_any (w0 := w0) (w := w) (L := L) (W := W) (g := g) (p := S.p) (m := S.m) (b := S.n) (t := S.t) (sw_len S.T) h)
  unfold Sm.sign
  unfold Sm.state at hT ⊢
  unfold Sm.cs at hO
  have hs := stt_cases S.p S.m S.n
  generalize stt S.p S.m S.n = st at *
  have HLO := Lib.hid (sw_len S.T)
  rcases hs with rfl | rfl | rfl | rfl
  · have hT := hT rfl
    obtain ⟨htop, hbit, hb64⟩ := top_bit hT
    have hc67 : (sc (sw S.T) S.p S.m S.n S.t)[67]? = some (.int .u64 ((vl ((sw S.T).drop 67) : Nat) : Int)) := by
      obtain ⟨h1, h2⟩ := List.getElem?_eq_some_iff.1 htop
      rw [sc_word h1, h2]
    generalize vl ((sw S.T).drop 67) = top at *
    have hc := (hO.cell 0 rfl 67).trans hc67
    have heq := run_eqz hT
    by_cases hneg : S.T < 0
    · have e1 : (top : Int) / 9223372036854775808 = 1 := by rw [if_pos hneg] at hbit; omega
      have HR : Hid ((if (0 : Int) = 2 then (0 : Int) else if (0 : Int) ≠ 0 then 0 else if S.T < 0 then -1 else if S.T = 0 then 0 else 1) = -1) := Lib.hid (by rw [if_pos hneg]; rfl)
      clear hc67 htop hbit heq hT hneg
      rw [HR.out]
      go_enter Tryz.func34, Tryz.ntmps34
      go_wp2_with (go_at_call 36; (with_reducible refine (HST.out _ hO).mono ?_); rintro e w2 ⟨rfl, rfl⟩)
      go_ret
      exact ⟨rfl, rfl⟩
    · have e1 : (top : Int) / 9223372036854775808 = 0 := by rw [if_neg hneg] at hbit; omega
      by_cases hz : S.T = 0
      · have HR : Hid ((if (0 : Int) = 2 then (0 : Int) else if (0 : Int) ≠ 0 then 0 else if S.T < 0 then -1 else if S.T = 0 then 0 else 1) = 0) := Lib.hid (by rw [if_neg hneg, if_pos hz]; rfl)
        rw [decide_eq_true hz] at heq
        clear hc67 htop hbit hT hneg hz
        rw [HR.out]
        go_enter Tryz.func34, Tryz.ntmps34
        go_wp2_with (first | (go_at_call 36; (with_reducible refine (HST.out _ hO).mono ?_); rintro e w2 ⟨rfl, rfl⟩) | ((with_reducible refine at_load (T := 53) ?_); refine own_load (T := 53) hO 0 rfl rfl agg_a68 size_a68 (by rw [sc_len HLO.out]; rfl) (vs := u64s (sw S.T)) (sc_words HLO.out) ?_))
        go_ret
        exact ⟨rfl, rfl⟩
      · have HR : Hid ((if (0 : Int) = 2 then (0 : Int) else if (0 : Int) ≠ 0 then 0 else if S.T < 0 then -1 else if S.T = 0 then 0 else 1) = 1) := Lib.hid (by rw [if_neg hneg, if_neg hz]; rfl)
        rw [decide_eq_false hz] at heq
        clear hc67 htop hbit hT hneg hz
        rw [HR.out]
        go_enter Tryz.func34, Tryz.ntmps34
        go_wp2_with (first | (go_at_call 36; (with_reducible refine (HST.out _ hO).mono ?_); rintro e w2 ⟨rfl, rfl⟩) | ((with_reducible refine at_load (T := 53) ?_); refine own_load (T := 53) hO 0 rfl rfl agg_a68 size_a68 (by rw [sc_len HLO.out]; rfl) (vs := u64s (sw S.T)) (sc_words HLO.out) ?_))
        go_ret
        exact ⟨rfl, rfl⟩
  all_goals
    clear hT
    go_enter Tryz.func34, Tryz.ntmps34
    go_wp2_with (go_at_call 36; (with_reducible refine (HST.out _ hO).mono ?_); rintro e w2 ⟨rfl, rfl⟩)
    go_ret
    exact ⟨rfl, rfl⟩

theorem tend_any (S : Sm) (hne : S.state ≠ 0) (hO : Own w0 (⟨g, 55, S.cs⟩ :: L) W w) :
    Calls Tryz.prog 64 #[.pointer (some ⟨g, 0, none⟩)] w fun e w' => e = .returned (.float .f64 S.ends) ∧ w = w' := by
  have HST := Lib.hid (fun w h => tstate_any (w0 := w0) (w := w) (L := L) (W := W) (g := g) (p := S.p) (m := S.m) (b := S.n) (t := S.t) (sw_len S.T) h)
  unfold Sm.ends
  unfold Sm.state at hne ⊢
  unfold Sm.cs at hO
  have hs := stt_cases S.p S.m S.n
  generalize stt S.p S.m S.n = st at *
  rcases hs with rfl | rfl | rfl | rfl
  · exact absurd rfl hne
  all_goals
    clear hne
    go_enter Tryz.func64, Tryz.ntmps64
    go_wp2_with (first | (go_at_call 36; (with_reducible refine (HST.out _ hO).mono ?_); rintro e w2 ⟨rfl, rfl⟩) | (go_at_call 71; (with_reducible refine (inf_p _).mono ?_); rintro e w2 ⟨rfl, rfl⟩) | (go_at_call 71; (with_reducible refine (inf_m _).mono ?_); rintro e w2 ⟨rfl, rfl⟩) | (go_at_call 67; (with_reducible refine (mnanc_any _).mono ?_); rintro e w2 ⟨rfl, rfl⟩))
    go_ret
    exact ⟨rfl, rfl⟩
theorem ends_lt (S : Sm) : S.ends < 18446744073709551616 ∧ cn S.ends = S.ends := by
  unfold Sm.ends
  split
  · exact ⟨by decide, cn_num (by decide)⟩
  · split
    · exact ⟨by decide, cn_num (by decide)⟩
    · exact ⟨by decide, by decide⟩

theorem tstate_S (S : Sm) (hO : Own w0 (⟨g, 55, S.cs⟩ :: L) W w) : Calls Tryz.prog 36 #[.pointer (some ⟨g, 0, none⟩)] w fun e w' => e = .returned (.int .i64 S.state) ∧ w = w' := tstate_any (sw_len S.T) hO
set_option maxHeartbeats 2000000 in
theorem tround_any (S : Sm) (d : Int) (hT : S.state = 0 → 2 * S.T.natAbs < MM) (hO : Own w0 (⟨g, 55, S.cs⟩ :: L) W w) :
    Calls Tryz.prog 29 #[.pointer (some ⟨g, 0, none⟩), .int .i64 d] w (RetFl (S.round d) w) := by
  have HST := Lib.hid (fun w h => tstate_S (w0 := w0) (w := w) (L := L) (W := W) (g := g) S h)
  by_cases hs : S.state = 0
  · have hT := hT hs
    have HR : Hid (S.round d = ofR d (decide (S.T < 0)) S.T.natAbs (-2148)) := Lib.hid (by unfold Sm.round; rw [if_neg (by simp [hs]), ofR_sum hT])
    have HSZ := Lib.hid (fun h => tsize_any (w0 := w0) (w := w) (L := L) (W := W) (g := g) S hT h)
    have HOF := Lib.hid (fun A n c w (h : Wds w A n c (nd S.T.natAbs)) => rof_any d (decide (S.T < 0)) A n c (nd S.T.natAbs) (-2148) w h (by have h1 := h.len; rw [nd_length] at h1; have h2 := nw_sum hT; omega))
    rw [nv_nd] at HOF
    rw [hs] at HST
    have HO := Lib.hid hO
    clear hs hT hO
    rw [HR.out]
    go_enter Tryz.func29, Tryz.ntmps29
    go_wp2_with (go_at_call 36; (with_reducible refine (HST.out _ HO.out).mono ?_); rintro e w2 ⟨rfl, rfl⟩)
    refine (HSZ.out HO.out).mono ?_
    rintro e w2 ⟨A, n, c, rfl, hW, hE⟩
    have HW := Lib.hid hW
    clear hW
    go_wp2_with fail
    refine (HOF.out _ _ _ _ HW.out).mono ?_
    rintro e w3 ⟨r, rfl, h1, h2, hE2⟩
    go_wp2_with fail
    go_ret
    exact ⟨r, rfl, h1, h2, hE.trans hE2⟩
  · have HR : Hid (S.round d = S.ends) := Lib.hid (by unfold Sm.round; rw [if_pos hs])
    have HE := Lib.hid (fun w h => tend_any (w0 := w0) (w := w) (L := L) (W := W) (g := g) S hs h)
    obtain ⟨b1, b2⟩ := ends_lt S
    have HB := Lib.hid (And.intro b1 b2)
    have HO := Lib.hid hO
    generalize S.state = st at *
    have q1 : (!(st == 0)) = true := by rw [Bool.not_eq_true', beq_eq_false_iff_ne]; exact hs
    have q2 : (st == 0) = false := by rw [beq_eq_false_iff_ne]; exact hs
    clear hs b1 b2 hO hT
    rw [HR.out]
    go_enter Tryz.func29, Tryz.ntmps29
    go_wp2_with (first | (go_at_call 36; (with_reducible refine (HST.out _ HO.out).mono ?_); rintro e w2 ⟨rfl, rfl⟩) | (go_at_call 64; (with_reducible refine (HE.out _ HO.out).mono ?_); rintro e w2 ⟨rfl, rfl⟩))
    go_ret
    exact ⟨_, rfl, HB.out.1, HB.out.2, Ext.refl _⟩
end
end Go.Proofs.YtfbjeifhpmdjaaaGreat

/-
  The contracts of the program's sums, seventh part: Over, New; layer 4's law package: patterns, number, take, lives. Conditions: those that each theorem names.
-/
namespace Go.Proofs.YtfbjeifhpmdjaaaGreat
open Go.RowKit Nm Rn
set_option maxRecDepth 100000
set_option linter.unusedVariables false
set_option linter.unusedSimpArgs false

/-- The sum by n, rounded. -/
def qT (d : Int) (T : Int) (n : Nat) : Nat := rnd d (decide (T < 0)) (zr T.natAbs (n * (K74 * K74)))
def Sm.over (S : Sm) (d : Int) (n : Int) : Nat := if n < 1 then NaNc else if S.state ≠ 0 then S.ends else qT d S.T n.toNat
theorem ratR_sum {d T : Int} {n : Nat} (h : 2 * T.natAbs < MM) (hn : 0 < n) (hn2 : n < 18446744073709551616) : ratR d (decide (T < 0)) T.natAbs n (-2148) = qT d T n := by
  have hb := bl_sum h
  have hbn : bl n ≤ 64 := (bl_le_iff _ _).2 (by omega)
  have hK := Nat.mul_pos K74_pos K74_pos
  unfold qT
  by_cases h0 : T.natAbs = 0
  · rw [h0, rat_zero d _ (by omega) (by omega), zr_zero, rnd_zero]
  · obtain ⟨c, hc⟩ : ∃ c : Nat, c = 1074 := ⟨_, rfl⟩
    obtain ⟨q, hq⟩ : ∃ q : Nat, q = 1075 := ⟨_, rfl⟩
    refine ratR_same d _ h0 (by omega) (by omega) (by omega) (by omega) (by omega) ⟨q, c + c, by omega, Nat.mul_pos hn hK, by omega, ?_⟩
    rw [show K75 = 2 ^ q by rw [hq]; exact K75_def, K74_def, ← hc, Nat.pow_add]
    try ac_rfl
section
variable {w0 w : World} {L : List Bx} {W : List Sw} {g : Nat}

set_option maxHeartbeats 2000000 in
theorem tover_any (S : Sm) (d n : Int) (h63 : n < 9223372036854775808) (hT : S.state = 0 → 2 * S.T.natAbs < MM) (hO : Own w0 (⟨g, 55, S.cs⟩ :: L) W w) :
    Calls Tryz.prog 30 #[.pointer (some ⟨g, 0, none⟩), .int .i64 d, .int .i64 n] w (RetFl (S.over d n) w) := by
  by_cases hn : n < 1
  · have HR : Hid (S.over d n = NaNc) := Lib.hid (if_pos hn)
    have d0 : decide (n < 1) = true := decide_eq_true hn
    clear hT hO h63 hn
    rw [HR.out]
    go_enter Tryz.func30, Tryz.ntmps30
    go_wp2_with (go_at_call 67; (with_reducible refine (mnanc_any _).mono ?_); rintro e w2 ⟨rfl, rfl⟩)
    go_ret
    exact ⟨_, rfl, by decide, by decide, Ext.refl _⟩
  have d0 : decide (n < 1) = false := decide_eq_false hn
  have HST := Lib.hid (fun w h => tstate_S (w0 := w0) (w := w) (L := L) (W := W) (g := g) S h)
  by_cases hs : S.state = 0
  · have hT := hT hs
    obtain ⟨N, rfl⟩ := Int.eq_ofNat_of_zero_le (show 0 ≤ n by omega)
    have hRR := ratR_sum (d := d) hT (n := N) (by omega) (by omega)
    have HR : Hid (S.over d N = ratR d (decide (S.T < 0)) S.T.natAbs N (-2148)) := Lib.hid (by unfold Sm.over; rw [if_neg hn, if_neg (by simp [hs]), hRR]; rfl)
    have HSZ := Lib.hid (fun h => tsize_any (w0 := w0) (w := w) (L := L) (W := W) (g := g) S hT h)
    have HSM := Lib.hid (fun w => nsmall_any N w (by omega))
    have HRA := Lib.hid (fun A n c B m k w (h : Wds w A n c (nd S.T.natAbs)) (h' : Wds w B m k (nd N)) => pratio_any d (decide (S.T < 0)) A n c (nd S.T.natAbs) B m k (nd N) (-2148) w h (by have h1 := h.len; rw [nd_length] at h1; have h2 := nw_sum hT; omega) h' (by have h1 := h'.len; rw [nd_length] at h1; have h2 : nw N ≤ 2 := (nw_le_iff _ 2).2 (by omega); omega))
    simp only [nv_nd] at HRA
    rw [hs] at HST
    have HO := Lib.hid hO
    have hN : (N : Int) < 9223372036854775808 := h63
    have hcv : (N : Int) % 18446744073709551616 = (N : Int) := by omega
    clear hs hT hO hRR hn
    rw [HR.out]
    go_enter Tryz.func30, Tryz.ntmps30
    go_wp2_with (go_at_call 36; (with_reducible refine (HST.out _ HO.out).mono ?_); rintro e w2 ⟨rfl, rfl⟩)
    refine (HSZ.out HO.out).mono ?_
    rintro e w2 ⟨A, l, c, rfl, hW, hE⟩
    have HW := Lib.hid hW
    clear hW
    go_wp2_with fail
    refine (HSM.out _).mono ?_
    rintro e w3 ⟨B, l2, c2, rfl, hW2, hE2⟩
    have HW2 := Lib.hid hW2
    have HW1 := Lib.hid (HW.out.ext hE2)
    clear hW2
    go_wp2_with fail
    refine (HRA.out _ _ _ _ _ _ _ HW1.out HW2.out).mono ?_
    rintro e w4 ⟨r, rfl, h1, h2, hE3⟩
    go_wp2_with fail
    go_ret
    exact ⟨r, rfl, h1, h2, (hE.trans hE2).trans hE3⟩
  · have HR : Hid (S.over d n = S.ends) := Lib.hid (by unfold Sm.over; rw [if_neg hn, if_pos hs])
    have HE := Lib.hid (fun w h => tend_any (w0 := w0) (w := w) (L := L) (W := W) (g := g) S hs h)
    obtain ⟨b1, b2⟩ := ends_lt S
    have HB := Lib.hid (And.intro b1 b2)
    have HO := Lib.hid hO
    generalize S.state = st at *
    have q1 : (!(st == 0)) = true := by rw [Bool.not_eq_true', beq_eq_false_iff_ne]; exact hs
    have q2 : (st == 0) = false := by rw [beq_eq_false_iff_ne]; exact hs
    clear hs b1 b2 hO hT hn
    rw [HR.out]
    go_enter Tryz.func30, Tryz.ntmps30
    go_wp2_with (first | (go_at_call 36; (with_reducible refine (HST.out _ HO.out).mono ?_); rintro e w2 ⟨rfl, rfl⟩) | (go_at_call 64; (with_reducible refine (HE.out _ HO.out).mono ?_); rintro e w2 ⟨rfl, rfl⟩))
    go_ret
    exact ⟨_, rfl, HB.out.1, HB.out.2, Ext.refl _⟩

theorem tnew_any (hO : Own w0 L W w) :
    Calls Tryz.prog 16 #[] w fun e w' => ∃ g, e = .returned (.pointer (some ⟨g, 0, none⟩)) ∧ Own w0 (⟨g, 55, Sm.nil.cs⟩ :: L) W w' := by
  rw [Sm.nil_cs]
  go_enter Tryz.func16, Tryz.ntmps16
  go_wp2_with ((with_reducible refine at_box ?_); refine own_box (cs := zsum) hO rfl sc_noU ?_; clear hO; intro g wa hO)
  go_ret
  exact ⟨g, rfl, hO⟩
end

set_option maxHeartbeats 400000 in
theorem fl4_any (b : Nat) (w : World) :
    Calls Tryz.prog 20 #[.int .u64 (b : Int)] w fun e w' => e = .returned (.float .f64 b) ∧ w = w' := by
  go_enter Tryz.func20, Tryz.ntmps20
  go_wp2
  go_ret
  exact ⟨rfl, rfl⟩
theorem eqB_refl4 (r : Nat) : (!eqB r r) = isNaN r := by
  unfold eqB
  cases isNaN r <;> simp
set_option maxHeartbeats 400000 in
theorem bits4_any (r : Nat) (w : World) (h : r < 18446744073709551616) :
    Calls Tryz.prog 28 #[.float .f64 r] w fun e w' => e = .returned (.int .u64 (cn r : Nat)) ∧ w = w' := by
  have q := fo_ne h h
  rw [eqB_refl4] at q
  cases hn : isNaN r
  · rw [hn] at q
    have HF : Hid ((r : Int) = (cn r : Nat)) := Lib.hid (by unfold cn; rw [hn]; rfl)
    clear hn h
    go_enter Tryz.func28, Tryz.ntmps28
    go_wp2
    go_ret
    exact ⟨ret_int HF.out, rfl⟩
  · rw [hn] at q
    have HF : Hid ((9221120237041090561 : Int) = (cn r : Nat)) := Lib.hid (by unfold cn; rw [hn, NaNc_val]; rfl)
    clear hn h
    go_enter Tryz.func28, Tryz.ntmps28
    go_wp2
    go_ret
    exact ⟨ret_int HF.out, rfl⟩
/-- Layer 4's lives. -/
def lvA : Sm := ((Sm.nil.add 4607182418800017408).mul 1 4607182418800017408).add 13830554455654793216
def lvB : Sm := (Sm.nil.add 9218868437227405311).add 9218868437227405311
theorem lv1 : lvA.state = 0 := by decide +kernel
theorem lv2 : lvA.T = (K74 : Int) := by decide +kernel
theorem lv3 : 2 * lvA.T.natAbs < MM := by decide +kernel
theorem lv4 : lvA.round 0 = 1 := by decide +kernel
theorem lv5 : lvA.sign = 1 := by decide +kernel
theorem lv6 : lvB.state = 0 := by decide +kernel
theorem lv7 : 2 * lvB.T.natAbs < MM := by decide +kernel
theorem lv8 : lvB.over (-1) 2 = 9218868437227405311 := by decide +kernel
theorem lv9 : lvB.round 1 = 9218868437227405312 := by decide +kernel
theorem nil_t : Sm.nil.t ≤ 4611686018427387904 := by decide
theorem add_tle (S : Sm) (x : Nat) : (S.add x).t ≤ 4611686018427387904 := by rw [Sm.add_t]; exact cnt_le _ _
theorem mul_tle (S : Sm) (x y : Nat) : (S.mul x y).t ≤ 4611686018427387904 := by rw [Sm.mul_t]; exact cnt_le _ _
set_option maxHeartbeats 4000000 in
theorem lives4_any (w : World) : Calls Tryz.prog 12 #[] w fun e w' => e = .returned (.bool true) ∧ Ext w w' := by
  have hO := Own.start w
  have HBT := Lib.hid (fun r w h => bits4_any r w h)
  have HFL := Lib.hid (fun b w => fl4_any b w)
  have fl1 : ∀ w, Calls Tryz.prog 20 #[.int .u64 1] w fun e w' => e = .returned (.float .f64 1) ∧ w = w' := fun w => fl4_any 1 w
  have fl2 : ∀ w, Calls Tryz.prog 20 #[.int .u64 4607182418800017408] w fun e w' => e = .returned (.float .f64 4607182418800017408) ∧ w = w' := fun w => fl4_any 4607182418800017408 w
  have fl3 : ∀ w, Calls Tryz.prog 20 #[.int .u64 9218868437227405311] w fun e w' => e = .returned (.float .f64 9218868437227405311) ∧ w = w' := fun w => fl4_any 9218868437227405311 w
  have F1 := Lib.hid fl1
  have F2 := Lib.hid fl2
  have F3 := Lib.hid fl3
  clear fl1 fl2 fl3
  go_enter Tryz.func12, Tryz.ntmps12
  go_wp2_with fail
  refine (tnew_any hO).mono ?_
  rintro e w1 ⟨g1, rfl, hO1⟩
  clear hO
  go_wp2_with fail
  refine (tnew_any hO1).mono ?_
  rintro e w2 ⟨g2, rfl, hO2⟩
  clear hO1
  have hO := hO2.swap
  clear hO2
  go_wp2_with fail
  refine (tadd_any Sm.nil 4607182418800017408 nil_t (by decide) hO).mono ?_
  rintro e w1 ⟨rfl, hO1⟩
  clear hO
  have hO := hO1
  clear hO1
  go_wp2_with fail
  refine (F1.out _).mono ?_
  rintro e w2 ⟨rfl, rfl⟩
  go_wp2_with fail
  refine (F2.out _).mono ?_
  rintro e w2 ⟨rfl, rfl⟩
  go_wp2_with fail
  refine (tmul_any _ 1 4607182418800017408 (add_tle _ _) (by decide) (by decide) hO).mono ?_
  rintro e w1 ⟨rfl, hO1⟩
  clear hO
  have hO := hO1
  clear hO1
  go_wp2_with fail
  refine (tadd_any _ 13830554455654793216 (mul_tle _ _ _) (by decide) hO).mono ?_
  rintro e w1 ⟨rfl, hO1⟩
  clear hO
  have hO := hO1.swap
  clear hO1
  go_wp2_with fail
  refine (F3.out _).mono ?_
  rintro e w2 ⟨rfl, rfl⟩
  go_wp2_with fail
  refine (tadd_any _ 9218868437227405311 nil_t (by decide) hO).mono ?_
  rintro e w1 ⟨rfl, hO1⟩
  clear hO
  have hO := hO1
  clear hO1
  go_wp2_with fail
  refine (F3.out _).mono ?_
  rintro e w2 ⟨rfl, rfl⟩
  go_wp2_with fail
  refine (tadd_any _ 9218868437227405311 (add_tle _ _) (by decide) hO).mono ?_
  rintro e w1 ⟨rfl, hO1⟩
  clear hO
  have hO : Own w [⟨g1, 55, lvA.cs⟩, ⟨g2, 55, lvB.cs⟩] [] w1 := hO1.swap
  clear hO1
  go_wp2_with fail
  refine (tround_any lvA 0 (fun _ => lv3) hO).mono ?_
  rintro e w2 ⟨r, rfl, hr, hc, hE⟩
  have hO := hO.ext hE
  clear hE
  go_wp2_with fail
  refine (HBT.out r _ hr).mono ?_
  rintro e w3 ⟨rfl, rfl⟩
  rw [hc, lv4]
  clear hr hc
  go_wp2_with fail
  refine (tsign_any lvA (fun _ => lv3) hO).mono ?_
  rintro e w3 ⟨rfl, rfl⟩
  rw [lv5]
  go_wp2_with fail
  refine (tstate_S lvA hO).mono ?_
  rintro e w3 ⟨rfl, rfl⟩
  rw [lv1]
  have hO := hO.swap
  go_wp2_with fail
  refine (tover_any lvB (-1) 2 (by decide) (fun _ => lv7) hO).mono ?_
  rintro e w4 ⟨r, rfl, hr, hc, hE⟩
  have hO := hO.ext hE
  clear hE
  go_wp2_with fail
  refine (HBT.out r _ hr).mono ?_
  rintro e w5 ⟨rfl, rfl⟩
  rw [hc, lv8]
  clear hr hc
  go_wp2_with fail
  refine (tround_any lvB 1 (fun _ => lv7) hO).mono ?_
  rintro e w6 ⟨r, rfl, hr, hc, hE⟩
  have hO := hO.ext hE
  clear hE
  go_wp2_with fail
  refine (HBT.out r _ hr).mono ?_
  rintro e w7 ⟨rfl, rfl⟩
  rw [hc, lv9]
  clear hr hc
  go_wp2_with fail
  go_ret
  exact ⟨rfl, hO.toExt⟩
end Go.Proofs.YtfbjeifhpmdjaaaGreat

/-
  Plain: how great a sum is; patterns of numbers; a number that is doubled. Conditions: those that each theorem names.
-/
namespace Go.Proofs.YtfbjeifhpmdjaaaGreat
open Nm Rn
set_option linter.unusedVariables false
set_option linter.unusedSimpArgs false

def B99 : Nat := 2 ^ 2099
theorem B99_def : B99 = 2 ^ 2099 := by unfold B99; rfl
theorem B99_pos : 0 < B99 := by
  obtain ⟨c, hc⟩ : ∃ c, c = 2099 := ⟨_, rfl⟩
  rw [B99_def, ← hc]
  exact two_pow_pos c
theorem K74_le : K74 ≤ B99 := by
  have : ∀ a b : Nat, a ≤ b → 2 ^ a ≤ 2 ^ b := fun a b h => Nat.pow_le_pow_right (by omega) h
  rw [K74_def, B99_def]
  exact this 1074 2099 (by omega)
theorem sv_le (b : Nat) (hf : mg b < infR) : (sv b).natAbs ≤ B99 := by
  have h1 := fb_rv b
  have h2 := fbSig_lt b
  have h3 := fbExp_hi b
  have h4 : (sv b).natAbs = rv (mg b) := by unfold sv; split <;> omega
  rw [h4, h1, B99_def]
  have hp : ∀ e c : Nat, e + 53 ≤ c → fbSig b * 2 ^ e ≤ 2 ^ c := fun e c he => by
    have a1 : fbSig b * 2 ^ e ≤ 2 ^ 53 * 2 ^ e := Nat.mul_le_mul_right _ (by omega)
    rw [← Nat.pow_add] at a1
    exact Nat.le_trans a1 (Nat.pow_le_pow_right (by omega) (by omega))
  exact hp _ 2099 (by omega)
/-- What one term brings at most. -/
def BG : Nat := B99 * B99
theorem BG_pos : 0 < BG := Nat.mul_pos B99_pos B99_pos
theorem BG_mm : 2 * (4611686018427387904 * BG) < MM := by
  obtain ⟨c, hc⟩ : ∃ c, c = 2099 := ⟨_, rfl⟩
  obtain ⟨e, he⟩ : ∃ e, e = 68 := ⟨_, rfl⟩
  have h1 : BG = 2 ^ (c + c) := by unfold BG; rw [B99_def, ← hc, ← Nat.pow_add]
  have h2 : MM = 2 ^ (64 * e) := by rw [← pow64, he]; rfl
  have h3 : 2 * (4611686018427387904 * 2 ^ (c + c)) = 2 ^ (63 + (c + c)) := by rw [Nat.pow_add 2 63 (c + c), show (2 : Nat) ^ 63 = 2 * 4611686018427387904 from rfl, Nat.mul_assoc]
  rw [h1, h2, h3]
  exact Nat.pow_lt_pow_right (by omega) (by omega)
theorem one_le {x : Nat} (hf : mg x < infR) : (sv x * (K74 : Int)).natAbs ≤ BG := by
  rw [Int.natAbs_mul, Int.natAbs_natCast]
  exact Nat.mul_le_mul (sv_le x hf) K74_le
theorem two_le {x y : Nat} (hf : mg x < infR) (hg : mg y < infR) : (sv x * sv y).natAbs ≤ BG := by
  rw [Int.natAbs_mul]
  exact Nat.mul_le_mul (sv_le x hf) (sv_le y hg)
/-- A sum whose number is not too great for its words. -/
def Sm.Ok (S : Sm) : Prop := S.t ≤ 4611686018427387904 ∧ (S.n = false → S.T.natAbs ≤ S.t * BG)
theorem Sm.Ok.nil : Sm.nil.Ok := ⟨by decide, fun _ => by unfold Sm.nil; simp⟩
theorem cntN_false {b : Bool} {t k : Nat} (h : cntN b t k = false) : b = false ∧ t + k ≤ 4611686018427387904 ∧ cnt t k = t + k := by
  unfold cntN at h
  rw [Bool.or_eq_false_iff, decide_eq_false_iff_not] at h
  exact ⟨h.1, by omega, by unfold cnt; rw [if_neg h.2]⟩
theorem Sm.Ok.lay {S : Sm} {X : Int} (h : S.Ok) (hX : X.natAbs ≤ BG) : ((S.more 1).lay X).Ok := by
  refine ⟨cnt_le _ _, fun hn => ?_⟩
  obtain ⟨h1, h2, h3⟩ := cntN_false hn
  have h4 := h.2 h1
  show (S.T + X).natAbs ≤ cnt S.t 1 * BG
  rw [h3, Nat.add_mul, Nat.one_mul]
  omega
theorem Sm.Ok.add {S : Sm} {x : Nat} (h : S.Ok) (hx : x < 18446744073709551616) : (S.add x).Ok := by
  unfold Sm.add
  rcases kind x with ⟨n1, i1, k1⟩ | ⟨n1, i1, k1⟩ | ⟨n1, i1, k1⟩
  · rw [n1, if_pos rfl]
    exact ⟨cnt_le _ _, fun hn => by cases hn⟩
  · rw [n1, i1, if_neg (by simp), if_pos rfl]
    have hk : ∀ p m, (⟨S.T, p, m, cntN S.n S.t 1, cnt S.t 1⟩ : Sm).Ok := fun p m => by
      refine ⟨cnt_le _ _, fun hn => ?_⟩
      obtain ⟨h1, h2, h3⟩ := cntN_false hn
      have h4 := h.2 h1
      show S.T.natAbs ≤ cnt S.t 1 * BG
      rw [h3, Nat.add_mul]
      omega
    split
    · exact hk _ _
    · exact hk _ _
  · rw [n1, i1, if_neg (by simp), if_neg (by simp)]
    exact h.lay (one_le k1)
theorem oddP_fin {x : Nat} (h : oddP x = false) : mg x < infR := by
  unfold oddP at h
  rw [Bool.or_eq_false_iff] at h
  rcases kind x with ⟨n1, i1, k1⟩ | ⟨n1, i1, k1⟩ | ⟨n1, i1, k1⟩
  · rw [n1] at h; cases h.1
  · rw [i1] at h; cases h.2
  · exact k1
theorem mulR_odd_lt {x y : Nat} (hx : x < 18446744073709551616) (hy : y < 18446744073709551616) (h : (oddP x || oddP y) = true) : mulR 0 x y < 18446744073709551616 := by
  rcases mul_odd hx hy (by unfold oddP at h; exact h) with ⟨_, h2⟩ | ⟨s, _, h2⟩
  · rw [h2]; decide
  · rw [h2]; unfold infP; cases s <;> decide
theorem Sm.Ok.mul {S : Sm} {x y : Nat} (h : S.Ok) (hx : x < 18446744073709551616) (hy : y < 18446744073709551616) : (S.mul x y).Ok := by
  unfold Sm.mul
  cases ho : (oddP x || oddP y)
  · rw [if_neg (by simp)]
    rw [Bool.or_eq_false_iff] at ho
    exact h.lay (two_le (oddP_fin ho.1) (oddP_fin ho.2))
  · rw [if_pos rfl]
    exact h.add (mulR_odd_lt hx hy ho)
theorem Sm.Ok.merge {S O : Sm} (h : S.Ok) (g : O.Ok) : (S.merge O).Ok := by
  refine ⟨cnt_le _ _, fun hn => ?_⟩
  have hn' : (cntN S.n S.t O.t || O.n) = false := hn
  rw [Bool.or_eq_false_iff] at hn'
  obtain ⟨h1, h2, h3⟩ := cntN_false hn'.1
  have h4 := h.2 h1
  have h5 := g.2 hn'.2
  show (S.T + O.T).natAbs ≤ cnt S.t O.t * BG
  rw [h3, Nat.add_mul]
  omega
theorem Sm.Ok.neg {S : Sm} (h : S.Ok) : S.neg.Ok := ⟨h.1, fun hn => by have := h.2 hn; show (-S.T).natAbs ≤ _; rw [Int.natAbs_neg]; exact this⟩
/-- It fits. -/
theorem Sm.Ok.fit {S : Sm} (h : S.Ok) (hs : S.state = 0) : 2 * S.T.natAbs < MM := by
  have hn : S.n = false := by
    unfold Sm.state stt at hs
    cases hn : S.n
    · rfl
    · rw [hn, Bool.true_or, if_pos rfl] at hs; cases hs
  have h1 := h.2 hn
  have h2 : S.t * BG ≤ 4611686018427387904 * BG := Nat.mul_le_mul_right _ h.1
  have h3 := BG_mm
  omega

/-- A pattern, as one of a number. -/
def numP (x : Nat) : Nat := if x / 4503599627370496 % 2048 = 2047 then x &&& 9227875636482146303 else x
theorem numP_lt {x : Nat} (h : x < 18446744073709551616) : numP x < 18446744073709551616 := by
  unfold numP
  split
  · exact Nat.lt_of_le_of_lt Nat.and_le_left h
  · exact h
theorem numP_fin (x : Nat) : mg (numP x) < infR := by
  unfold numP mg
  rw [infR_val]
  split
  · have h1 : (x &&& 9227875636482146303) % 2 ^ 63 = (x % 2 ^ 63) &&& (9227875636482146303 % 2 ^ 63) := Nat.and_mod_two_pow
    have h2 : (x % 2 ^ 63) &&& (9227875636482146303 % 2 ^ 63) ≤ 9227875636482146303 % 2 ^ 63 := Nat.and_le_right
    rw [show (9223372036854775808 : Nat) = 2 ^ 63 from rfl, h1]
    refine Nat.lt_of_le_of_lt h2 (by decide)
  · omega
theorem fin_nan {x : Nat} (h : mg x < infR) : isNaN x = false := by unfold isNaN; exact decide_eq_false (by omega)
theorem fin_inf {x : Nat} (h : mg x < infR) : isInf x = false := by unfold isInf; exact decide_eq_false (by omega)
theorem add_fin {S : Sm} {x : Nat} (h : mg x < infR) : S.add x = (S.more 1).lay (sv x * (K74 : Int)) := by
  unfold Sm.add
  rw [fin_nan h, fin_inf h, if_neg (by simp), if_neg (by simp)]
theorem mul_fin {S : Sm} {x y : Nat} (h : mg x < infR) (g : mg y < infR) : S.mul x y = (S.more 1).lay (sv x * sv y) := by
  unfold Sm.mul oddP
  rw [fin_nan h, fin_inf h, fin_nan g, fin_inf g, if_neg (by simp)]
/-- Merged with itself so many times. -/
def dbl (X : Nat) : Nat → Sm
  | 0 => Sm.nil.add X
  | k + 1 => (dbl X k).merge (dbl X k)
theorem dbl_ok {X : Nat} (hX : X < 18446744073709551616) : ∀ k, (dbl X k).Ok
  | 0 => Sm.Ok.nil.add hX
  | k + 1 => (dbl_ok hX k).merge (dbl_ok hX k)
theorem dbl_val {X : Nat} (h : mg X < infR) : ∀ k, (dbl X k).T = sv X * (K74 : Int) * ((2 ^ k : Nat) : Int) ∧ (dbl X k).p = false ∧ (dbl X k).m = false ∧ (k ≤ 62 → (dbl X k).n = false ∧ (dbl X k).t = 2 ^ k) ∧ (62 < k → (dbl X k).n = true ∧ (dbl X k).t = 4611686018427387904)
  | 0 => by
    rw [dbl, add_fin h]
    exact ⟨by simp [Sm.more, Sm.lay, Sm.nil], rfl, rfl, fun _ => ⟨rfl, rfl⟩, fun h => by omega⟩
  | k + 1 => by
    obtain ⟨h1, h2, h3, h4, h5⟩ := dbl_val h k
    rw [dbl]
    refine ⟨?_, ?_, ?_, fun hk => ?_, fun hk => ?_⟩
    · show (dbl X k).T + (dbl X k).T = _
      rw [h1, ← Int.mul_add, Nat.pow_succ]
      congr 1
      omega
    · show ((dbl X k).p || (dbl X k).p) = false
      rw [h2]; rfl
    · show ((dbl X k).m || (dbl X k).m) = false
      rw [h3]; rfl
    · obtain ⟨h6, h7⟩ := h4 (by omega)
      have hb : 2 ^ (k + 1) ≤ 4611686018427387904 := Nat.pow_le_pow_right (n := 2) (by omega) hk
      show (cntN (dbl X k).n (dbl X k).t (dbl X k).t || (dbl X k).n) = false ∧ cnt (dbl X k).t (dbl X k).t = _
      unfold cntN cnt
      rw [h6, h7, show 2 ^ k + 2 ^ k = 2 ^ (k + 1) by rw [Nat.pow_succ]; omega, decide_eq_false (by omega), if_neg (by omega)]
      exact ⟨rfl, rfl⟩
    · show (cntN (dbl X k).n (dbl X k).t (dbl X k).t || (dbl X k).n) = true ∧ cnt (dbl X k).t (dbl X k).t = _
      unfold cntN cnt
      rcases Nat.lt_or_ge 62 k with hl | hl
      · obtain ⟨h6, h7⟩ := h5 hl
        rw [h6, h7]
        exact ⟨rfl, rfl⟩
      · have hk62 : k = 62 := by omega
        subst hk62
        obtain ⟨h6, h7⟩ := h4 (by omega)
        rw [h6, h7]
        exact ⟨rfl, rfl⟩
theorem dbl_lo {X : Nat} (h : mg X < infR) {k : Nat} (hk : k ≤ 62) : (dbl X k).state = 0 := by
  obtain ⟨_, h2, h3, h4, _⟩ := dbl_val h k
  unfold Sm.state
  rw [h2, h3, (h4 hk).1]
  rfl
theorem dbl_hi {X : Nat} (h : mg X < infR) {k : Nat} (hk : 62 < k) : (dbl X k).state = 2 := by
  obtain ⟨_, h2, h3, _, h5⟩ := dbl_val h k
  unfold Sm.state
  rw [h2, h3, (h5 hk).1]
  rfl
/-- Of, at the number that the law hands it. -/
theorem dbl_of {X : Nat} (h : mg X < infR) {k : Nat} (hk : k ≤ 62) (d : Int) : ofR d (sg X && decide (mg X ≠ 0)) (fbN X * 2 ^ k) (1 - (bl (fbD X) : Int)) = rT d (dbl X k).T := by
  obtain ⟨h1, _⟩ := dbl_val h k
  obtain ⟨_, ⟨a, ha, _⟩, _⟩ := DR.one X
  have hbD : bl (fbD X) = a + 1 := by rw [ha]; exact bl_eq_of (Nat.le_refl _) (Nat.pow_lt_pow_right (by omega) (by omega))
  have hNw := fbN_bits X
  have hDw := fbD_bits X
  rw [nw_bl] at hNw hDw
  have hb : bl (fbN X * 2 ^ k) ≤ 524288 := by
    by_cases h0 : fbN X = 0
    · rw [h0, Nat.zero_mul]; exact Nat.zero_le _
    · rw [bl_mul_pow k h0]; omega
  rw [ofR_zd d _ hb (by omega) (by omega), ← zd_two, h1]
  obtain ⟨c, hc⟩ : ∃ c : Nat, c = 1074 := ⟨_, rfl⟩
  refine rT_dy (A := c + c) (B := a) (by omega) ?_
  have h3 := fb_sv X
  rw [ha] at h3
  rw [K74_def, ← hc] at h3 ⊢
  rw [← sn_mul, Nat.pow_add]
  push_cast at h3 ⊢
  generalize sn (sg X && decide (mg X ≠ 0)) (fbN X) = p at *
  generalize (2 : Int) ^ c = u at *
  generalize (2 : Int) ^ a = v at *
  generalize (2 : Int) ^ k = z at *
  rw [Int.mul_assoc p z, Int.mul_comm z, ← Int.mul_assoc, ← Int.mul_assoc, h3]
  rw [Int.mul_right_comm (sv X) v u, Int.mul_right_comm (sv X * u) v z]
end Go.Proofs.YtfbjeifhpmdjaaaGreat
