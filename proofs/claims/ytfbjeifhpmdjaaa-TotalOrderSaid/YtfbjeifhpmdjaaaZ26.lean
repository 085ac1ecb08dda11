/-
  The contracts of the program's sums, sixth part: Sign, end, Round, Over. Conditions: those that each theorem names.
-/
import Derived.Test.YtfbjeifhpmdjaaaZ25
import Derived.Test.YtfbjeifhpmdjaaaZ10
namespace Go.Proofs.Ytfbjeifhpmdjaaa
open Go.RowKit Nm Rn
set_option maxRecDepth 100000
set_option linter.unusedVariables false
set_option linter.unusedSimpArgs false

theorem eq_items (d : Nat) (xs ys : List Nat) : ∀ (is : List Nat) (w : World), (∀ i ∈ is, i < xs.length ∧ i < ys.length) → (Op.eqItems (d + 1) 23 1 (u64s xs).toArray (u64s ys).toArray is).run Try.prog w = .ok (is.all fun i => xs[i]? == ys[i]?) w
  | [], w, _ => by simp [Op.eqItems]
  | i :: is, w, h => by
    obtain ⟨h1, h2⟩ := h i (by simp)
    have e1 : (u64s xs).toArray[i * 1]? = some (.int .u64 (xs[i] : Int)) := by rw [Nat.mul_one]; simpa using u64s_get h1
    have e2 : (u64s ys).toArray[i * 1]? = some (.int .u64 (ys[i] : Int)) := by rw [Nat.mul_one]; simpa using u64s_get h2
    have p1 := run_part_plain (P := Try.prog) w (e := 23) (by kernel_rfl) e1
    have p2 := run_part_plain (P := Try.prog) w (e := 23) (by kernel_rfl) e2
    have p3 := run_equalIn_int (P := Try.prog) w d 23 .u64 .u64 (xs[i] : Int) (ys[i] : Int) Try.underlying23
    have ih := eq_items d xs ys is w (fun j hj => h j (by simp [hj]))
    simp only [Op.eqItems, Sem.run_bind, p1, p2, p3, Result.andThen_ok, List.all_cons, List.getElem?_eq_getElem h1, List.getElem?_eq_getElem h2]
    by_cases hq : xs[i] = ys[i]
    · rw [hq]
      simp [ih]
    · have hq2 : ((xs[i] : Int) == (ys[i] : Int)) = false := by rw [beq_eq_false_iff_ne]; omega
      have hq3 : (some xs[i] == some ys[i]) = false := by rw [beq_eq_false_iff_ne]; intro h; exact hq (Option.some.inj h)
      simp [hq2, hq3]
theorem run_eq68 {xs ys : List Nat} (hx : xs.length = 68) (hy : ys.length = 68) (w : World) : (Op.equalIn 10000 34 (.agg (u64s xs).toArray) (.agg (u64s ys).toArray)).run Try.prog w = .ok (decide (xs = ys)) w := by
  obtain ⟨i, hi⟩ : ∃ i, Try.prog.info? 23 = some i := Option.isSome_iff_exists.1 (by kernel_rfl)
  have hc : Try.prog.cellsOf 23 = 1 := by kernel_rfl
  have h1 := run_equalIn_array (P := Try.prog) w 9999 (u64s xs).toArray (u64s ys).toArray Try.underlying34 hi
  rw [hc, eq_items 9998 xs ys (List.range 68) w (fun i hi => by rw [hx, hy]; have := List.mem_range.1 hi; omega)] at h1
  rw [h1]
  congr 1
  rw [Bool.eq_iff_iff, List.all_eq_true, decide_eq_true_iff]
  constructor
  · intro h
    apply List.ext_getElem?
    intro k
    by_cases hk : k < 68
    · have := h k (List.mem_range.2 hk)
      exact beq_iff_eq.1 this
    · rw [List.getElem?_eq_none (by omega), List.getElem?_eq_none (by omega)]
  · rintro rfl k _
    exact beq_iff_eq.2 rfl
theorem run_eqz {T : Int} (h : 2 * T.natAbs < MM) (w : World) : (Op.equalIn 10000 34 (.agg (u64s (sw T)).toArray) (.agg Try.zeroCells34)).run Try.prog w = .ok (decide (T = 0)) w := by
  have h1 := run_eq68 (sw_len T) (ys := List.replicate 68 0) (by simp) w
  rw [show decide (sw T = List.replicate 68 0) = decide (T = 0) from decide_eq_decide.2 (sw_zero h)] at h1
  rw [show Try.zeroCells34 = (u64s (List.replicate 68 0)).toArray from rfl]
  exact h1
/-- Sign's answer. -/
def Sm.sign (S : Sm) : Int := if S.state = 2 then 0 else if S.state ≠ 0 then S.state else if S.T < 0 then -1 else if S.T = 0 then 0 else 1
/-- What a sum that is not finite answers. -/
def Sm.ends (S : Sm) : Nat := if S.state = 1 then infR else if S.state = -1 then minf else NaNc
/-- Round's answer. -/
def Sm.round (S : Sm) (d : Int) : Nat := if S.state ≠ 0 then S.ends else rT d S.T
theorem bl_sum {T : Int} (h : 2 * T.natAbs < MM) : bl T.natAbs ≤ 4352 := by
  obtain ⟨c, hc⟩ : ∃ c, c = 68 := ⟨_, rfl⟩
  have h1 : T.natAbs < 2 ^ (64 * c) := by
    rw [← pow64, hc]
    show _ < MM
    omega
  have := (bl_le_iff _ _).2 h1
  omega
theorem nw_sum {T : Int} (h : 2 * T.natAbs < MM) : nw T.natAbs ≤ 136 := by rw [nw_bl]; have := bl_sum h; omega
theorem sn_self (T : Int) : sn (decide (T < 0)) T.natAbs = T := by
  unfold sn
  by_cases h : T < 0
  · rw [decide_eq_true h, if_pos rfl]; omega
  · rw [decide_eq_false h, if_neg (by simp)]; omega
theorem ofR_sum {d T : Int} (h : 2 * T.natAbs < MM) : ofR d (decide (T < 0)) T.natAbs (-2148) = rT d T := by
  rw [ofR_zd d _ (by have := bl_sum h; omega) (by omega) (by omega), ← zd_two]
  refine rT_dy (A := 0) (B := 0) (by omega) ?_
  rw [sn_self]
theorem stt_cases (p m n : Bool) : stt p m n = 0 ∨ stt p m n = 1 ∨ stt p m n = -1 ∨ stt p m n = 2 := by cases p <;> cases m <;> cases n <;> simp [stt]
section
variable {w0 w : World} {L : List Bx} {W : List Sw} {g : Nat}

set_option maxHeartbeats 4000000 in
theorem tsign_any (S : Sm) (hT : S.state = 0 → 2 * S.T.natAbs < MM) (hO : Own w0 (⟨g, 36, S.cs⟩ :: L) W w) :
    Calls Try.prog 18 #[.pointer (some ⟨g, 0, none⟩)] w fun e w' => e = .returned (.int .i64 S.sign) ∧ w = w' := by
  have HST := Lib.hid (fun w h => tstate_any (w0 := w0) (w := w) (L := L) (W := W) (g := g) (p := S.p) (m := S.m) (b := S.n) (t := S.t) (sw_len S.T) h)
  unfold Sm.sign
  unfold Sm.state at hT ⊢
  unfold Sm.cs at hO
  have hs := stt_cases S.p S.m S.n
  generalize stt S.p S.m S.n = st at *
  have HLO := Lib.hid (sw_len S.T)
  rcases hs with rfl | rfl | rfl | rfl
  · have hT := hT rfl
    obtain ⟨htop, hbit, hb64⟩ := top_bit hT
    have hc67 : (sc (sw S.T) S.p S.m S.n S.t)[67]? = some (.int .u64 ((vl ((sw S.T).drop 67) : Nat) : Int)) := by
      obtain ⟨h1, h2⟩ := List.getElem?_eq_some_iff.1 htop
      rw [sc_word h1, h2]
    generalize vl ((sw S.T).drop 67) = top at *
    have hc := (hO.cell 0 rfl 67).trans hc67
    have heq := run_eqz hT
    by_cases hneg : S.T < 0
    · have e1 : (top : Int) / 9223372036854775808 = 1 := by rw [if_pos hneg] at hbit; omega
      have HR : Hid ((if (0 : Int) = 2 then (0 : Int) else if (0 : Int) ≠ 0 then 0 else if S.T < 0 then -1 else if S.T = 0 then 0 else 1) = -1) := Lib.hid (by rw [if_pos hneg]; rfl)
      clear hc67 htop hbit heq hT hneg
      rw [HR.out]
      go_enter Try.func18, Try.ntmps18
      go_wp2_with (go_at_call 20; (with_reducible refine (HST.out _ hO).mono ?_); rintro e w2 ⟨rfl, rfl⟩)
      go_ret
      exact ⟨rfl, rfl⟩
    · have e1 : (top : Int) / 9223372036854775808 = 0 := by rw [if_neg hneg] at hbit; omega
      by_cases hz : S.T = 0
      · have HR : Hid ((if (0 : Int) = 2 then (0 : Int) else if (0 : Int) ≠ 0 then 0 else if S.T < 0 then -1 else if S.T = 0 then 0 else 1) = 0) := Lib.hid (by rw [if_neg hneg, if_pos hz]; rfl)
        rw [decide_eq_true hz] at heq
        clear hc67 htop hbit hT hneg hz
        rw [HR.out]
        go_enter Try.func18, Try.ntmps18
        go_wp2_with (first | (go_at_call 20; (with_reducible refine (HST.out _ hO).mono ?_); rintro e w2 ⟨rfl, rfl⟩) | ((with_reducible refine at_load (T := 34) ?_); refine own_load (T := 34) hO 0 rfl rfl agg_a68 size_a68 (by rw [sc_len HLO.out]; rfl) (vs := u64s (sw S.T)) (sc_words HLO.out) ?_))
        go_ret
        exact ⟨rfl, rfl⟩
      · have HR : Hid ((if (0 : Int) = 2 then (0 : Int) else if (0 : Int) ≠ 0 then 0 else if S.T < 0 then -1 else if S.T = 0 then 0 else 1) = 1) := Lib.hid (by rw [if_neg hneg, if_neg hz]; rfl)
        rw [decide_eq_false hz] at heq
        clear hc67 htop hbit hT hneg hz
        rw [HR.out]
        go_enter Try.func18, Try.ntmps18
        go_wp2_with (first | (go_at_call 20; (with_reducible refine (HST.out _ hO).mono ?_); rintro e w2 ⟨rfl, rfl⟩) | ((with_reducible refine at_load (T := 34) ?_); refine own_load (T := 34) hO 0 rfl rfl agg_a68 size_a68 (by rw [sc_len HLO.out]; rfl) (vs := u64s (sw S.T)) (sc_words HLO.out) ?_))
        go_ret
        exact ⟨rfl, rfl⟩
  all_goals
    clear hT
    go_enter Try.func18, Try.ntmps18
    go_wp2_with (go_at_call 20; (with_reducible refine (HST.out _ hO).mono ?_); rintro e w2 ⟨rfl, rfl⟩)
    go_ret
    exact ⟨rfl, rfl⟩

theorem tend_any (S : Sm) (hne : S.state ≠ 0) (hO : Own w0 (⟨g, 36, S.cs⟩ :: L) W w) :
    Calls Try.prog 50 #[.pointer (some ⟨g, 0, none⟩)] w fun e w' => e = .returned (.float .f64 S.ends) ∧ w = w' := by
  have HST := Lib.hid (fun w h => tstate_any (w0 := w0) (w := w) (L := L) (W := W) (g := g) (p := S.p) (m := S.m) (b := S.n) (t := S.t) (sw_len S.T) h)
  unfold Sm.ends
  unfold Sm.state at hne ⊢
  unfold Sm.cs at hO
  have hs := stt_cases S.p S.m S.n
  generalize stt S.p S.m S.n = st at *
  rcases hs with rfl | rfl | rfl | rfl
  · exact absurd rfl hne
  all_goals
    clear hne
    go_enter Try.func50, Try.ntmps50
    go_wp2_with (first | (go_at_call 20; (with_reducible refine (HST.out _ hO).mono ?_); rintro e w2 ⟨rfl, rfl⟩) | (go_at_call 70; (with_reducible refine (inf_p _).mono ?_); rintro e w2 ⟨rfl, rfl⟩) | (go_at_call 70; (with_reducible refine (inf_m _).mono ?_); rintro e w2 ⟨rfl, rfl⟩) | (go_at_call 63; (with_reducible refine (mnanc_any _).mono ?_); rintro e w2 ⟨rfl, rfl⟩))
    go_ret
    exact ⟨rfl, rfl⟩
theorem ends_lt (S : Sm) : S.ends < 18446744073709551616 ∧ cn S.ends = S.ends := by
  unfold Sm.ends
  split
  · exact ⟨by decide, cn_num (by decide)⟩
  · split
    · exact ⟨by decide, cn_num (by decide)⟩
    · exact ⟨by decide, by decide⟩

theorem tstate_S (S : Sm) (hO : Own w0 (⟨g, 36, S.cs⟩ :: L) W w) : Calls Try.prog 20 #[.pointer (some ⟨g, 0, none⟩)] w fun e w' => e = .returned (.int .i64 S.state) ∧ w = w' := tstate_any (sw_len S.T) hO
set_option maxHeartbeats 2000000 in
theorem tround_any (S : Sm) (d : Int) (hT : S.state = 0 → 2 * S.T.natAbs < MM) (hO : Own w0 (⟨g, 36, S.cs⟩ :: L) W w) :
    Calls Try.prog 16 #[.pointer (some ⟨g, 0, none⟩), .int .i64 d] w (RetFl (S.round d) w) := by
  have HST := Lib.hid (fun w h => tstate_S (w0 := w0) (w := w) (L := L) (W := W) (g := g) S h)
  by_cases hs : S.state = 0
  · have hT := hT hs
    have HR : Hid (S.round d = ofR d (decide (S.T < 0)) S.T.natAbs (-2148)) := Lib.hid (by unfold Sm.round; rw [if_neg (by simp [hs]), ofR_sum hT])
    have HSZ := Lib.hid (fun h => tsize_any (w0 := w0) (w := w) (L := L) (W := W) (g := g) S hT h)
    have HOF := Lib.hid (fun A n c w (h : Wds w A n c (nd S.T.natAbs)) => rof_any d (decide (S.T < 0)) A n c (nd S.T.natAbs) (-2148) w h (by have h1 := h.len; rw [nd_length] at h1; have h2 := nw_sum hT; omega))
    rw [nv_nd] at HOF
    rw [hs] at HST
    have HO := Lib.hid hO
    clear hs hT hO
    rw [HR.out]
    go_enter Try.func16, Try.ntmps16
    go_wp2_with (go_at_call 20; (with_reducible refine (HST.out _ HO.out).mono ?_); rintro e w2 ⟨rfl, rfl⟩)
    refine (HSZ.out HO.out).mono ?_
    rintro e w2 ⟨A, n, c, rfl, hW, hE⟩
    have HW := Lib.hid hW
    clear hW
    go_wp2_with fail
    refine (HOF.out _ _ _ _ HW.out).mono ?_
    rintro e w3 ⟨r, rfl, h1, h2, hE2⟩
    go_wp2_with fail
    go_ret
    exact ⟨r, rfl, h1, h2, hE.trans hE2⟩
  · have HR : Hid (S.round d = S.ends) := Lib.hid (by unfold Sm.round; rw [if_pos hs])
    have HE := Lib.hid (fun w h => tend_any (w0 := w0) (w := w) (L := L) (W := W) (g := g) S hs h)
    obtain ⟨b1, b2⟩ := ends_lt S
    have HB := Lib.hid (And.intro b1 b2)
    have HO := Lib.hid hO
    generalize S.state = st at *
    have q1 : (!(st == 0)) = true := by rw [Bool.not_eq_true', beq_eq_false_iff_ne]; exact hs
    have q2 : (st == 0) = false := by rw [beq_eq_false_iff_ne]; exact hs
    clear hs b1 b2 hO hT
    rw [HR.out]
    go_enter Try.func16, Try.ntmps16
    go_wp2_with (first | (go_at_call 20; (with_reducible refine (HST.out _ HO.out).mono ?_); rintro e w2 ⟨rfl, rfl⟩) | (go_at_call 50; (with_reducible refine (HE.out _ HO.out).mono ?_); rintro e w2 ⟨rfl, rfl⟩))
    go_ret
    exact ⟨_, rfl, HB.out.1, HB.out.2, Ext.refl _⟩
end
end Go.Proofs.Ytfbjeifhpmdjaaa

/-
  The contracts of the program's sums, seventh part: Over, New; layer 4's law package: patterns, number, take, lives. Conditions: those that each theorem names.
-/
namespace Go.Proofs.Ytfbjeifhpmdjaaa
open Go.RowKit Nm Rn
set_option maxRecDepth 100000
set_option linter.unusedVariables false
set_option linter.unusedSimpArgs false

/-- The sum by n, rounded. -/
def qT (d : Int) (T : Int) (n : Nat) : Nat := rnd d (decide (T < 0)) (zr T.natAbs (n * (K74 * K74)))
def Sm.over (S : Sm) (d : Int) (n : Int) : Nat := if n < 1 then NaNc else if S.state ≠ 0 then S.ends else qT d S.T n.toNat
theorem ratR_sum {d T : Int} {n : Nat} (h : 2 * T.natAbs < MM) (hn : 0 < n) (hn2 : n < 18446744073709551616) : ratR d (decide (T < 0)) T.natAbs n (-2148) = qT d T n := by
  have hb := bl_sum h
  have hbn : bl n ≤ 64 := (bl_le_iff _ _).2 (by omega)
  have hK := Nat.mul_pos K74_pos K74_pos
  unfold qT
  by_cases h0 : T.natAbs = 0
  · rw [h0, rat_zero d _ (by omega) (by omega), zr_zero, rnd_zero]
  · obtain ⟨c, hc⟩ : ∃ c : Nat, c = 1074 := ⟨_, rfl⟩
    obtain ⟨q, hq⟩ : ∃ q : Nat, q = 1075 := ⟨_, rfl⟩
    refine ratR_same d _ h0 (by omega) (by omega) (by omega) (by omega) (by omega) ⟨q, c + c, by omega, Nat.mul_pos hn hK, by omega, ?_⟩
    rw [show K75 = 2 ^ q by rw [hq]; exact K75_def, K74_def, ← hc, Nat.pow_add]
    try ac_rfl
section
variable {w0 w : World} {L : List Bx} {W : List Sw} {g : Nat}

set_option maxHeartbeats 2000000 in
theorem tover_any (S : Sm) (d n : Int) (h63 : n < 9223372036854775808) (hT : S.state = 0 → 2 * S.T.natAbs < MM) (hO : Own w0 (⟨g, 36, S.cs⟩ :: L) W w) :
    Calls Try.prog 28 #[.pointer (some ⟨g, 0, none⟩), .int .i64 d, .int .i64 n] w (RetFl (S.over d n) w) := by
  by_cases hn : n < 1
  · have HR : Hid (S.over d n = NaNc) := Lib.hid (if_pos hn)
    have d0 : decide (n < 1) = true := decide_eq_true hn
    clear hT hO h63 hn
    rw [HR.out]
    go_enter Try.func28, Try.ntmps28
    go_wp2_with (go_at_call 63; (with_reducible refine (mnanc_any _).mono ?_); rintro e w2 ⟨rfl, rfl⟩)
    go_ret
    exact ⟨_, rfl, by decide, by decide, Ext.refl _⟩
  have d0 : decide (n < 1) = false := decide_eq_false hn
  have HST := Lib.hid (fun w h => tstate_S (w0 := w0) (w := w) (L := L) (W := W) (g := g) S h)
  by_cases hs : S.state = 0
  · have hT := hT hs
    obtain ⟨N, rfl⟩ := Int.eq_ofNat_of_zero_le (show 0 ≤ n by omega)
    have hRR := ratR_sum (d := d) hT (n := N) (by omega) (by omega)
    have HR : Hid (S.over d N = ratR d (decide (S.T < 0)) S.T.natAbs N (-2148)) := Lib.hid (by unfold Sm.over; rw [if_neg hn, if_neg (by simp [hs]), hRR]; rfl)
    have HSZ := Lib.hid (fun h => tsize_any (w0 := w0) (w := w) (L := L) (W := W) (g := g) S hT h)
    have HSM := Lib.hid (fun w => nsmall_any N w (by omega))
    have HRA := Lib.hid (fun A n c B m k w (h : Wds w A n c (nd S.T.natAbs)) (h' : Wds w B m k (nd N)) => pratio_any d (decide (S.T < 0)) A n c (nd S.T.natAbs) B m k (nd N) (-2148) w h (by have h1 := h.len; rw [nd_length] at h1; have h2 := nw_sum hT; omega) h' (by have h1 := h'.len; rw [nd_length] at h1; have h2 : nw N ≤ 2 := (nw_le_iff _ 2).2 (by omega); omega))
    simp only [nv_nd] at HRA
    rw [hs] at HST
    have HO := Lib.hid hO
    have hN : (N : Int) < 9223372036854775808 := h63
    have hcv : (N : Int) % 18446744073709551616 = (N : Int) := by omega
    clear hs hT hO hRR hn
    rw [HR.out]
    go_enter Try.func28, Try.ntmps28
    go_wp2_with (go_at_call 20; (with_reducible refine (HST.out _ HO.out).mono ?_); rintro e w2 ⟨rfl, rfl⟩)
    refine (HSZ.out HO.out).mono ?_
    rintro e w2 ⟨A, l, c, rfl, hW, hE⟩
    have HW := Lib.hid hW
    clear hW
    go_wp2_with fail
    refine (HSM.out _).mono ?_
    rintro e w3 ⟨B, l2, c2, rfl, hW2, hE2⟩
    have HW2 := Lib.hid hW2
    have HW1 := Lib.hid (HW.out.ext hE2)
    clear hW2
    go_wp2_with fail
    refine (HRA.out _ _ _ _ _ _ _ HW1.out HW2.out).mono ?_
    rintro e w4 ⟨r, rfl, h1, h2, hE3⟩
    go_wp2_with fail
    go_ret
    exact ⟨r, rfl, h1, h2, (hE.trans hE2).trans hE3⟩
  · have HR : Hid (S.over d n = S.ends) := Lib.hid (by unfold Sm.over; rw [if_neg hn, if_pos hs])
    have HE := Lib.hid (fun w h => tend_any (w0 := w0) (w := w) (L := L) (W := W) (g := g) S hs h)
    obtain ⟨b1, b2⟩ := ends_lt S
    have HB := Lib.hid (And.intro b1 b2)
    have HO := Lib.hid hO
    generalize S.state = st at *
    have q1 : (!(st == 0)) = true := by rw [Bool.not_eq_true', beq_eq_false_iff_ne]; exact hs
    have q2 : (st == 0) = false := by rw [beq_eq_false_iff_ne]; exact hs
    clear hs b1 b2 hO hT hn
    rw [HR.out]
    go_enter Try.func28, Try.ntmps28
    go_wp2_with (first | (go_at_call 20; (with_reducible refine (HST.out _ HO.out).mono ?_); rintro e w2 ⟨rfl, rfl⟩) | (go_at_call 50; (with_reducible refine (HE.out _ HO.out).mono ?_); rintro e w2 ⟨rfl, rfl⟩))
    go_ret
    exact ⟨_, rfl, HB.out.1, HB.out.2, Ext.refl _⟩

theorem tnew_any (hO : Own w0 L W w) :
    Calls Try.prog 10 #[] w fun e w' => ∃ g, e = .returned (.pointer (some ⟨g, 0, none⟩)) ∧ Own w0 (⟨g, 36, Sm.nil.cs⟩ :: L) W w' := by
  rw [Sm.nil_cs]
  go_enter Try.func10, Try.ntmps10
  go_wp2_with ((with_reducible refine at_box ?_); refine own_box (cs := zsum) hO rfl sc_noU ?_; clear hO; intro g wa hO)
  go_ret
  exact ⟨g, rfl, hO⟩
end

set_option maxHeartbeats 400000 in
theorem fl4_any (b : Nat) (w : World) :
    Calls Try.prog 12 #[.int .u64 (b : Int)] w fun e w' => e = .returned (.float .f64 b) ∧ w = w' := by
  go_enter Try.func12, Try.ntmps12
  go_wp2
  go_ret
  exact ⟨rfl, rfl⟩
theorem eqB_refl4 (r : Nat) : (!eqB r r) = isNaN r := by
  unfold eqB
  cases isNaN r <;> simp
set_option maxHeartbeats 400000 in
theorem bits4_any (r : Nat) (w : World) (h : r < 18446744073709551616) :
    Calls Try.prog 17 #[.float .f64 r] w fun e w' => e = .returned (.int .u64 (cn r : Nat)) ∧ w = w' := by
  have q := fo_ne h h
  rw [eqB_refl4] at q
  cases hn : isNaN r
  · rw [hn] at q
    have HF : Hid ((r : Int) = (cn r : Nat)) := Lib.hid (by unfold cn; rw [hn]; rfl)
    clear hn h
    go_enter Try.func17, Try.ntmps17
    go_wp2
    go_ret
    exact ⟨ret_int HF.out, rfl⟩
  · rw [hn] at q
    have HF : Hid ((9221120237041090561 : Int) = (cn r : Nat)) := Lib.hid (by unfold cn; rw [hn, NaNc_val]; rfl)
    clear hn h
    go_enter Try.func17, Try.ntmps17
    go_wp2
    go_ret
    exact ⟨ret_int HF.out, rfl⟩
/-- Layer 4's lives. -/
def lvA : Sm := ((Sm.nil.add 4607182418800017408).mul 1 4607182418800017408).add 13830554455654793216
def lvB : Sm := (Sm.nil.add 9218868437227405311).add 9218868437227405311
theorem lv1 : lvA.state = 0 := by decide +kernel
theorem lv2 : lvA.T = (K74 : Int) := by decide +kernel
theorem lv3 : 2 * lvA.T.natAbs < MM := by decide +kernel
theorem lv4 : lvA.round 0 = 1 := by decide +kernel
theorem lv5 : lvA.sign = 1 := by decide +kernel
theorem lv6 : lvB.state = 0 := by decide +kernel
theorem lv7 : 2 * lvB.T.natAbs < MM := by decide +kernel
theorem lv8 : lvB.over (-1) 2 = 9218868437227405311 := by decide +kernel
theorem lv9 : lvB.round 1 = 9218868437227405312 := by decide +kernel
theorem nil_t : Sm.nil.t ≤ 4611686018427387904 := by decide
theorem add_tle (S : Sm) (x : Nat) : (S.add x).t ≤ 4611686018427387904 := by rw [Sm.add_t]; exact cnt_le _ _
theorem mul_tle (S : Sm) (x y : Nat) : (S.mul x y).t ≤ 4611686018427387904 := by rw [Sm.mul_t]; exact cnt_le _ _
set_option maxHeartbeats 4000000 in
theorem lives4_any (w : World) : Calls Try.prog 9 #[] w fun e w' => e = .returned (.bool true) ∧ Ext w w' := by
  have hO := Own.start w
  have HBT := Lib.hid (fun r w h => bits4_any r w h)
  have HFL := Lib.hid (fun b w => fl4_any b w)
  have fl1 : ∀ w, Calls Try.prog 12 #[.int .u64 1] w fun e w' => e = .returned (.float .f64 1) ∧ w = w' := fun w => fl4_any 1 w
  have fl2 : ∀ w, Calls Try.prog 12 #[.int .u64 4607182418800017408] w fun e w' => e = .returned (.float .f64 4607182418800017408) ∧ w = w' := fun w => fl4_any 4607182418800017408 w
  have fl3 : ∀ w, Calls Try.prog 12 #[.int .u64 9218868437227405311] w fun e w' => e = .returned (.float .f64 9218868437227405311) ∧ w = w' := fun w => fl4_any 9218868437227405311 w
  have F1 := Lib.hid fl1
  have F2 := Lib.hid fl2
  have F3 := Lib.hid fl3
  clear fl1 fl2 fl3
  go_enter Try.func9, Try.ntmps9
  go_wp2_with fail
  refine (tnew_any hO).mono ?_
  rintro e w1 ⟨g1, rfl, hO1⟩
  clear hO
  go_wp2_with fail
  refine (tnew_any hO1).mono ?_
  rintro e w2 ⟨g2, rfl, hO2⟩
  clear hO1
  have hO := hO2.swap
  clear hO2
  go_wp2_with fail
  refine (tadd_any Sm.nil 4607182418800017408 nil_t (by decide) hO).mono ?_
  rintro e w1 ⟨rfl, hO1⟩
  clear hO
  have hO := hO1
  clear hO1
  go_wp2_with fail
  refine (F1.out _).mono ?_
  rintro e w2 ⟨rfl, rfl⟩
  go_wp2_with fail
  refine (F2.out _).mono ?_
  rintro e w2 ⟨rfl, rfl⟩
  go_wp2_with fail
  refine (tmul_any _ 1 4607182418800017408 (add_tle _ _) (by decide) (by decide) hO).mono ?_
  rintro e w1 ⟨rfl, hO1⟩
  clear hO
  have hO := hO1
  clear hO1
  go_wp2_with fail
  refine (tadd_any _ 13830554455654793216 (mul_tle _ _ _) (by decide) hO).mono ?_
  rintro e w1 ⟨rfl, hO1⟩
  clear hO
  have hO := hO1.swap
  clear hO1
  go_wp2_with fail
  refine (F3.out _).mono ?_
  rintro e w2 ⟨rfl, rfl⟩
  go_wp2_with fail
  refine (tadd_any _ 9218868437227405311 nil_t (by decide) hO).mono ?_
  rintro e w1 ⟨rfl, hO1⟩
  clear hO
  have hO := hO1
  clear hO1
  go_wp2_with fail
  refine (F3.out _).mono ?_
  rintro e w2 ⟨rfl, rfl⟩
  go_wp2_with fail
  refine (tadd_any _ 9218868437227405311 (add_tle _ _) (by decide) hO).mono ?_
  rintro e w1 ⟨rfl, hO1⟩
  clear hO
  have hO : Own w [⟨g1, 36, lvA.cs⟩, ⟨g2, 36, lvB.cs⟩] [] w1 := hO1.swap
  clear hO1
  go_wp2_with fail
  refine (tround_any lvA 0 (fun _ => lv3) hO).mono ?_
  rintro e w2 ⟨r, rfl, hr, hc, hE⟩
  have hO := hO.ext hE
  clear hE
  go_wp2_with fail
  refine (HBT.out r _ hr).mono ?_
  rintro e w3 ⟨rfl, rfl⟩
  rw [hc, lv4]
  clear hr hc
  go_wp2_with fail
  refine (tsign_any lvA (fun _ => lv3) hO).mono ?_
  rintro e w3 ⟨rfl, rfl⟩
  rw [lv5]
  go_wp2_with fail
  refine (tstate_S lvA hO).mono ?_
  rintro e w3 ⟨rfl, rfl⟩
  rw [lv1]
  have hO := hO.swap
  go_wp2_with fail
  refine (tover_any lvB (-1) 2 (by decide) (fun _ => lv7) hO).mono ?_
  rintro e w4 ⟨r, rfl, hr, hc, hE⟩
  have hO := hO.ext hE
  clear hE
  go_wp2_with fail
  refine (HBT.out r _ hr).mono ?_
  rintro e w5 ⟨rfl, rfl⟩
  rw [hc, lv8]
  clear hr hc
  go_wp2_with fail
  refine (tround_any lvB 1 (fun _ => lv7) hO).mono ?_
  rintro e w6 ⟨r, rfl, hr, hc, hE⟩
  have hO := hO.ext hE
  clear hE
  go_wp2_with fail
  refine (HBT.out r _ hr).mono ?_
  rintro e w7 ⟨rfl, rfl⟩
  rw [hc, lv9]
  clear hr hc
  go_wp2_with fail
  go_ret
  exact ⟨rfl, hO.toExt⟩
end Go.Proofs.Ytfbjeifhpmdjaaa

/-
  Plain: the document's ratio of a sum: a whole number of 2^-2148. Conditions: those that each theorem names.
-/
namespace Go.Proofs.Ytfbjeifhpmdjaaa
open Nm Rn
set_option linter.unusedVariables false
set_option linter.unusedSimpArgs false

theorem odd_pow : ∀ (a t m : Nat), 2 ^ a = 2 ^ t * m → m % 2 = 1 → m = 1
  | 0, t, m, h, _ => by
    have h1 : 2 ^ t * m = 1 := by rw [← h]
    exact Nat.eq_one_of_mul_eq_one_left h1
  | a + 1, 0, m, h, ho => by
    rw [Nat.pow_zero, Nat.one_mul, Nat.pow_succ] at h
    omega
  | a + 1, t + 1, m, h, ho => by
    rw [Nat.pow_succ, Nat.pow_succ, Nat.mul_right_comm] at h
    exact odd_pow a t m (by omega) ho
theorem tz_two (a : Nat) : 2 ^ a / 2 ^ tz (2 ^ a) = 1 := by
  have hp := two_pow_pos a
  have h1 := tz_div (n := 2 ^ a)
  exact odd_pow a (tz (2 ^ a)) _ (by rw [Nat.mul_comm]; exact h1.symm) (tz_bit (by omega))

/-- A ratio of the document, in its form, is T / 2^2148. -/
def DR (T : Int) (neg : Bool) (N D : Nat) : Prop := sn neg N * ((K74 * K74 : Nat) : Int) = T * (D : Int) ∧ (∃ a, D = 2 ^ a ∧ (a = 0 ∨ N % 2 = 1)) ∧ (N = 0 → neg = false)
theorem DR.of {neg : Bool} {n a p q : Nat} {e T : Int} (hpq : (p : Int) - q = e) (h : sn neg n * ((2 ^ p : Nat) : Int) * ((K74 * K74 : Nat) : Int) = T * ((2 ^ a * 2 ^ q : Nat) : Int)) : DR T (neg && decide (n ≠ 0)) (fracN n (2 ^ a) e) (fracD n (2 ^ a) e) := by
  refine ⟨?_, ?_, ?_⟩
  · have h1 := sn_frac (neg := neg) (n := n) (d := 2 ^ a) hpq
    have hp : (0 : Int) < ((2 ^ a * 2 ^ q : Nat) : Int) := by have := Nat.mul_pos (two_pow_pos a) (two_pow_pos q); omega
    refine Int.eq_of_mul_eq_mul_right (Int.ne_of_gt hp) ?_
    rw [Int.mul_right_comm, h1, Int.natCast_mul (2 ^ p), ← Int.mul_assoc, Int.mul_right_comm, h, Int.mul_right_comm]
  · unfold fracD fracN
    by_cases hn : n = 0
    · rw [if_pos hn, if_pos hn]; exact ⟨0, rfl, .inl rfl⟩
    · rw [if_neg hn, if_neg hn, tz_two, Nat.one_mul]
      refine ⟨_, rfl, ?_⟩
      by_cases hx : (-(e + tz n - tz (2 ^ a))).toNat = 0
      · exact .inl hx
      · right
        rw [show (e + tz n - tz (2 ^ a)).toNat = 0 by omega, Nat.pow_zero, Nat.mul_one]
        exact tz_bit hn
  · intro h0
    rw [fracN_eq_zero.1 h0]
    simp
section
variable {T S : Int} {neg : Bool} {N D : Nat}
theorem DR.pos (h : DR T neg N D) : 0 < D := by obtain ⟨_, ⟨a, rfl, _⟩, _⟩ := h; exact two_pow_pos a
theorem DR.abs (h : DR T neg N D) : N * (K74 * K74) = T.natAbs * D := by
  have h1 := congrArg Int.natAbs h.1
  rwa [Int.natAbs_mul, Int.natAbs_mul, sn_abs, Int.natAbs_natCast, Int.natAbs_natCast] at h1
theorem DR.zero (h : DR T neg N D) : N = 0 ↔ T = 0 := by
  have h1 := h.abs
  have h2 := h.pos
  have h3 := Nat.mul_pos K74_pos K74_pos
  constructor
  · rintro rfl
    rw [Nat.zero_mul] at h1
    rcases Nat.mul_eq_zero.1 h1.symm with h4 | h4 <;> omega
  · rintro rfl
    rw [show Int.natAbs 0 = 0 from rfl, Nat.zero_mul] at h1
    rcases Nat.mul_eq_zero.1 h1 with h4 | h4 <;> omega
theorem DR.sign (h : DR T neg N D) : neg = decide (T < 0) := by
  by_cases hN : N = 0
  · rw [h.2.2 hN, h.zero.1 hN]; rfl
  · refine (sn_neg (neg := neg) hN).symm.trans ?_
    refine decide_eq_decide.2 ?_
    have h1 := h.1
    have h2 : (0 : Int) < (D : Int) := by have := h.pos; omega
    have h3 : (0 : Int) < ((K74 * K74 : Nat) : Int) := by have := Nat.mul_pos K74_pos K74_pos; omega
    constructor
    · intro hs
      have := Int.mul_neg_of_neg_of_pos hs h3
      rw [h1] at this
      rcases Int.lt_or_le T 0 with h4 | h4
      · exact h4
      · have := Int.mul_nonneg h4 (Int.le_of_lt h2); omega
    · intro hs
      have := Int.mul_neg_of_neg_of_pos hs h2
      rw [← h1] at this
      rcases Int.lt_or_le (sn neg N) 0 with h4 | h4
      · exact h4
      · have := Int.mul_nonneg h4 (Int.le_of_lt h3); omega
theorem DR.exp (h : DR T neg N D) : ∃ a, D = 2 ^ a ∧ a ≤ 2148 := by
  obtain ⟨_, ⟨a, rfl, ho⟩, _⟩ := id h
  refine ⟨a, rfl, ?_⟩
  rcases ho with rfl | ho
  · omega
  · refine Nat.le_of_not_lt fun hlt => ?_
    have h1 := h.abs
    have hK := Nat.mul_pos K74_pos K74_pos
    obtain ⟨c, hc⟩ : ∃ c, c = 1074 := ⟨_, rfl⟩
    obtain ⟨r, hr⟩ : ∃ r, a = c + c + (r + 1) := ⟨a - (c + c) - 1, by omega⟩
    have e : 2 ^ a = K74 * K74 * (2 ^ r * 2) := by
      rw [K74_def, ← hc, hr, pow_add_, pow_add_ c c, Nat.pow_succ]
    rw [e] at h1
    have h2 : N = T.natAbs * 2 ^ r * 2 := Nat.eq_of_mul_eq_mul_right hK (by rw [h1, Nat.mul_comm (K74 * K74), Nat.mul_assoc T.natAbs, Nat.mul_assoc T.natAbs])
    omega
theorem DR.leD (h : DR T neg N D) : D ≤ K74 * K74 := by
  obtain ⟨a, rfl, ha⟩ := h.exp
  obtain ⟨c, hc⟩ : ∃ c, c = 1074 := ⟨_, rfl⟩
  rw [K74_def, ← hc, ← pow_add_]
  exact Nat.pow_le_pow_right (by omega) (by omega)
theorem DR.leN (h : DR T neg N D) : N ≤ T.natAbs := by
  have h1 := h.abs
  have h2 := Nat.mul_le_mul_left T.natAbs h.leD
  rw [← h1] at h2
  exact Nat.le_of_mul_le_mul_right h2 (Nat.mul_pos K74_pos K74_pos)
theorem DR.blD (h : DR T neg N D) : bl D ≤ 2149 := by
  obtain ⟨a, rfl, ha⟩ := h.exp
  have h2 : ∀ c, a < c → bl (2 ^ a) ≤ c := fun c h => (bl_le_iff _ _).2 (Nat.pow_lt_pow_right (by omega) h)
  exact h2 2149 (by omega)
theorem DR.nwD (h : DR T neg N D) : nw D ≤ 68 := by have := h.blD; rw [nw_bl]; omega
theorem DR.nwN (h : DR T neg N D) : nw N ≤ nw T.natAbs := nw_mono h.leN
/-- It is rounded so. -/
theorem DR.rnd (h : DR T neg N D) (d : Int) : rnd d neg (zr N D) = rT d T := rT_rat h.pos h.1
end
/-- A sum of two. -/
theorem DR.add {T S : Int} {n m : Bool} {N D N' D' : Nat} (h : DR T n N D) (g : DR S m N' D') : DR (T + S) (aNeg n m (N * D') (N' * D) && decide (aMag n m (N * D') (N' * D) ≠ 0)) (fracN (aMag n m (N * D') (N' * D)) (D * D') 0) (fracD (aMag n m (N * D') (N' * D)) (D * D') 0) := by
  obtain ⟨h1, ⟨a, rfl, _⟩, _⟩ := h
  obtain ⟨g1, ⟨b, rfl, _⟩, _⟩ := g
  rw [← pow_add_]
  refine DR.of (p := 0) (q := 0) rfl ?_
  rw [sn_sum, Nat.pow_zero, Nat.mul_one, ← sn_mul, ← sn_mul, pow_add_]
  push_cast at h1 g1 ⊢
  generalize (K74 : Int) * (K74 : Int) = K at *
  generalize sn n N = x at *
  generalize sn m N' = y at *
  generalize (2 : Int) ^ a = u at *
  generalize (2 : Int) ^ b = v at *
  rw [Int.mul_one, Int.add_mul, Int.mul_right_comm x v K, h1, Int.mul_right_comm y u K, g1, Int.add_mul, Int.mul_assoc T, Int.mul_assoc S, Int.mul_comm v u]
/-- A number. -/
theorem DR.one (b : Nat) : DR (sv b * (K74 : Int)) (sg b && decide (mg b ≠ 0)) (fbN b) (fbD b) := by
  obtain ⟨c, hc⟩ : ∃ c, c = 1074 := ⟨_, rfl⟩
  have h := DR.of (neg := sg b) (n := fbSig b) (a := 0) (p := (fbExp b + 1074).toNat) (q := c) (e := fbExp b) (T := sv b * (K74 : Int)) (by have := fbExp_lo b; omega) (by
    rw [part_sv, Nat.pow_zero, Nat.one_mul, hc, ← K74_def, Int.natCast_mul, ← Int.mul_assoc])
  have e : (sg b && decide (fbSig b ≠ 0)) = (sg b && decide (mg b ≠ 0)) := by
    congr 1
    exact decide_eq_decide.2 (not_congr (fbSig_zero b))
  rw [e] at h
  exact h
/-- A product of two. -/
theorem DR.two (x y : Nat) {n m : Bool} (hn : n = (sg x && decide (mg x ≠ 0))) (hm : m = (sg y && decide (mg y ≠ 0))) : DR (sv x * sv y) ((n != m) && decide (fbN x * fbN y ≠ 0)) (fracN (fbN x * fbN y) (fbD x * fbD y) 0) (fracD (fbN x * fbN y) (fbD x * fbD y) 0) := by
  obtain ⟨h1, ⟨a, ha, _⟩, _⟩ := DR.one x
  obtain ⟨g1, ⟨b, hb, _⟩, _⟩ := DR.one y
  rw [← hn] at h1
  rw [← hm] at g1
  rw [ha] at h1 ⊢
  rw [hb] at g1 ⊢
  rw [← pow_add_]
  refine DR.of (p := 0) (q := 0) rfl ?_
  rw [sn_bne, Nat.pow_zero, Nat.mul_one, pow_add_]
  push_cast at h1 g1 ⊢
  have hK : (0 : Int) < (K74 : Int) := by have := K74_pos; omega
  have h2 : sn n (fbN x) * (K74 : Int) = sv x * 2 ^ a := Int.eq_of_mul_eq_mul_right (Int.ne_of_gt hK) (by rw [Int.mul_assoc, h1, Int.mul_right_comm])
  have g2 : sn m (fbN y) * (K74 : Int) = sv y * 2 ^ b := Int.eq_of_mul_eq_mul_right (Int.ne_of_gt hK) (by rw [Int.mul_assoc, g1, Int.mul_right_comm])
  generalize (K74 : Int) = K at *
  generalize sn n (fbN x) = p at *
  generalize sn m (fbN y) = q at *
  generalize (2 : Int) ^ a = u at *
  generalize (2 : Int) ^ b = v at *
  rw [Int.mul_one, Int.mul_assoc p q, ← Int.mul_assoc q K K, Int.mul_comm (q * K) K, ← Int.mul_assoc p K, h2, g2, Int.mul_assoc, Int.mul_left_comm u, ← Int.mul_assoc]
/-- The negative. -/
theorem DR.neg {T : Int} {n : Bool} {N D : Nat} (h : DR T n N D) : DR (-T) (!n && decide (N ≠ 0)) N D := by
  refine ⟨?_, h.2.1, fun h0 => by simp [h0]⟩
  have h1 := h.1
  have h3 : sn (!n && decide (N ≠ 0)) N = - sn n N := by
    unfold sn
    by_cases h0 : N = 0
    · simp [h0]
    · cases n <;> simp [h0]
  rw [h3, Int.neg_mul, h1, Int.neg_mul]
theorem DR.nil : DR 0 false 0 1 := ⟨by simp [sn], ⟨0, rfl, .inl rfl⟩, fun _ => rfl⟩
end Go.Proofs.Ytfbjeifhpmdjaaa
