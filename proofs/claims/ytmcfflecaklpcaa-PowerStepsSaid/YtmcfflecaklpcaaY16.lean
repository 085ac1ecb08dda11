/-
  The contracts of the document's whole steps, first part: the greatest whole number not above a ratio; a bit of a natural; the whole number -1. Conditions: those that each theorem names.
-/
import Derived.Test.YtmcfflecaklpcaaY04
import Derived.Test.YtmcfflecaklpcaaY12
import Derived.Test.YtmcfflecaklpcaaY15
import Derived.Test.YtmcfflecaklpcaaY08
import Derived.Test.YtmcfflecaklpcaaY07
namespace Go.Proofs.Ytmcfflecaklpcaa
open Go.RowKit Nm Rn
set_option maxRecDepth 100000
set_option linter.unusedVariables false
set_option linter.unusedSimpArgs false

theorem fr_one (q : Nat) : fracN q 1 0 = q ∧ fracD q 1 0 = 1 := by
  have hv := frac_val (n := q) (d := 1) (e := 0) (p := 0) (q := 0) rfl
  have hd := fracD_le_z (n := q) (d := 1) (by omega)
  have hp := fracD_pos (n := q) (d := 1) 0 (by omega)
  have e1 : fracD q 1 0 = 1 := by omega
  rw [e1] at hv
  simp at hv
  exact ⟨hv, e1⟩

/-- What RFloor answers. -/
def RetBW (b : Bool) (V : Nat) (w : World) (e : Ending) (w' : World) : Prop := ∃ A n c, e = .returned (.tuple #[.bool b, .slice A n c]) ∧ Wds w' A n c (nd V) ∧ Ext w w'

set_option maxHeartbeats 2000000 in
theorem rfloor_f (A : Option Addr) (l c : Nat) (B : Option Addr) (k d N D : Nat) (w : World) (h : RatAt w A l c B k d N D) (hN : nw N ≤ 1073741824) (hD : nw D ≤ 1073741824) (hp : 0 < D) :
    Calls Try.prog 176 #[.agg #[.bool false, .slice A l c, .slice B k d]] w (RetBW false (N / D) w) := by
  have hlb : l ≤ 1073741824 := by have := h.lenN; omega
  have hkb : k ≤ 1073741824 := by have := h.lenD; omega
  have HBY : Hid (∀ w, Wds w A l c (nd N) → Wds w B k d (nd D) → Calls Try.prog 98 #[.slice A l c, .slice B k d] w (RetWW (N / D) (N % D) w)) := Lib.hid (fun w h1 h2 => by
    have := by_any A l c (nd N) B k d (nd D) w h1 (by omega) h2 (by omega) (by rw [nv_nd]; exact hp)
    rwa [nv_nd, nv_nd] at this)
  have hqn : nw (N / D) ≤ 1073741824 := Nat.le_trans (nw_mono (Nat.div_le_self N D)) hN
  obtain ⟨q, hq⟩ : ∃ q, q = N / D := ⟨_, rfl⟩
  obtain ⟨r, hr⟩ : ∃ r, r = N % D := ⟨_, rfl⟩
  rw [← hq, ← hr] at HBY
  rw [← hq] at hqn
  have hO := ((Own.start w).add h.1).add h.2
  have hf : True := trivial
  rw [← hq]
  clear hq hr h hN hD hp
  go_enter Try.func176, Try.ntmps176
  go_wp2_with ((with_reducible refine at_box ?_); refine own_box (cs := [.bool false, .slice A l c, .slice B k d]) hO rfl rfl ?_; clear hO; intro ga wa hO; clear hf; have hf := hO.cells; simp only [BC, CC, Nat.zero_add, Nat.reduceAdd, and_true] at hf)
  refine (HBY.out _ (hO.wd 1 rfl) (hO.wd 0 rfl)).mono ?_
  rintro e w2 ⟨A1, n1, c1, A2, n2, c2, rfl, hW1, hW2, hE1⟩
  have hl1 : n1 = nw q := by have := hW1.len; rw [nd_length] at this; omega
  have hl2 : n2 = nw r := by have := hW2.len; rw [nd_length] at this; omega
  have hO := ((hO.ext hE1).add hW1).add hW2
  clear hW1 hW2 hE1
  clear hf
  have hf := hO.cells
  simp only [BC, CC, Nat.zero_add, Nat.reduceAdd, and_true] at hf
  clear hl1 hl2 hqn
  go_wp2
  go_ret2
  exact ⟨_, _, _, rfl, hO.wd 1 rfl, hO.toExt⟩

set_option maxHeartbeats 2000000 in
theorem rfloor_t0 (A : Option Addr) (l c : Nat) (B : Option Addr) (k d N D : Nat) (w : World) (h : RatAt w A l c B k d N D) (hN : nw N ≤ 1073741824) (hD : nw D ≤ 1073741824) (hp : 0 < D) (hz : N % D = 0) :
    Calls Try.prog 176 #[.agg #[.bool true, .slice A l c, .slice B k d]] w (RetBW (decide (N / D ≠ 0)) (N / D) w) := by
  have hlb : l ≤ 1073741824 := by have := h.lenN; omega
  have hkb : k ≤ 1073741824 := by have := h.lenD; omega
  have HBY : Hid (∀ w, Wds w A l c (nd N) → Wds w B k d (nd D) → Calls Try.prog 98 #[.slice A l c, .slice B k d] w (RetWW (N / D) (N % D) w)) := Lib.hid (fun w h1 h2 => by
    have := by_any A l c (nd N) B k d (nd D) w h1 (by omega) h2 (by omega) (by rw [nv_nd]; exact hp)
    rwa [nv_nd, nv_nd] at this)
  have hqn : nw (N / D) ≤ 1073741824 := Nat.le_trans (nw_mono (Nat.div_le_self N D)) hN
  obtain ⟨q, hq⟩ : ∃ q, q = N / D := ⟨_, rfl⟩
  obtain ⟨r, hr⟩ : ∃ r, r = N % D := ⟨_, rfl⟩
  rw [← hq, ← hr] at HBY
  rw [← hq] at hqn
  have hO := ((Own.start w).add h.1).add h.2
  have hf : True := trivial
  rw [← hq]
  rw [← hr] at hz
  obtain ⟨bb, hbb⟩ : ∃ b, b = decide (q ≠ 0) := ⟨_, rfl⟩
  rw [← hbb]
  have HBB := Lib.hid hbb
  clear hbb
  clear hq hr h hN hD hp
  go_enter Try.func176, Try.ntmps176
  go_wp2_with ((with_reducible refine at_box ?_); refine own_box (cs := [.bool true, .slice A l c, .slice B k d]) hO rfl rfl ?_; clear hO; intro ga wa hO; clear hf; have hf := hO.cells; simp only [BC, CC, Nat.zero_add, Nat.reduceAdd, and_true] at hf)
  refine (HBY.out _ (hO.wd 1 rfl) (hO.wd 0 rfl)).mono ?_
  rintro e w2 ⟨A1, n1, c1, A2, n2, c2, rfl, hW1, hW2, hE1⟩
  have hl1 : n1 = nw q := by have := hW1.len; rw [nd_length] at this; omega
  have hl2 : n2 = nw r := by have := hW2.len; rw [nd_length] at this; omega
  have hO := ((hO.ext hE1).add hW1).add hW2
  clear hW1 hW2 hE1
  clear hf
  have hf := hO.cells
  simp only [BC, CC, Nat.zero_add, Nat.reduceAdd, and_true] at hf
  have z2 : n2 = 0 := by rw [hl2, hz]; rfl
  have hb : decide (0 < n1) = bb := by
    rw [HBB.out]
    refine decide_eq_decide.2 ?_
    have := nw_eq_zero (n := q)
    omega
  have g2 : decide (0 < n2) = false := decide_eq_false (by omega)
  clear hl1 hl2 hqn z2 hz
  go_wp2
  go_ret2
  exact ⟨_, _, _, rfl, hO.wd 1 rfl, hO.toExt⟩

set_option maxHeartbeats 2000000 in
theorem rfloor_t1 (A : Option Addr) (l c : Nat) (B : Option Addr) (k d N D : Nat) (w : World) (h : RatAt w A l c B k d N D) (hN : nw N ≤ 1073741824) (hD : nw D ≤ 1073741824) (hp : 0 < D) (hz : N % D ≠ 0) :
    Calls Try.prog 176 #[.agg #[.bool true, .slice A l c, .slice B k d]] w (RetBW true (N / D + 1) w) := by
  have hlb : l ≤ 1073741824 := by have := h.lenN; omega
  have hkb : k ≤ 1073741824 := by have := h.lenD; omega
  have HBY : Hid (∀ w, Wds w A l c (nd N) → Wds w B k d (nd D) → Calls Try.prog 98 #[.slice A l c, .slice B k d] w (RetWW (N / D) (N % D) w)) := Lib.hid (fun w h1 h2 => by
    have := by_any A l c (nd N) B k d (nd D) w h1 (by omega) h2 (by omega) (by rw [nv_nd]; exact hp)
    rwa [nv_nd, nv_nd] at this)
  have hqn : nw (N / D) ≤ 1073741824 := Nat.le_trans (nw_mono (Nat.div_le_self N D)) hN
  obtain ⟨q, hq⟩ : ∃ q, q = N / D := ⟨_, rfl⟩
  obtain ⟨r, hr⟩ : ∃ r, r = N % D := ⟨_, rfl⟩
  rw [← hq, ← hr] at HBY
  rw [← hq] at hqn
  have hO := ((Own.start w).add h.1).add h.2
  have hf : True := trivial
  rw [← hq]
  rw [← hr] at hz
  clear hq hr h hN hD hp
  go_enter Try.func176, Try.ntmps176
  go_wp2_with ((with_reducible refine at_box ?_); refine own_box (cs := [.bool true, .slice A l c, .slice B k d]) hO rfl rfl ?_; clear hO; intro ga wa hO; clear hf; have hf := hO.cells; simp only [BC, CC, Nat.zero_add, Nat.reduceAdd, and_true] at hf)
  refine (HBY.out _ (hO.wd 1 rfl) (hO.wd 0 rfl)).mono ?_
  rintro e w2 ⟨A1, n1, c1, A2, n2, c2, rfl, hW1, hW2, hE1⟩
  have hl1 : n1 = nw q := by have := hW1.len; rw [nd_length] at this; omega
  have hl2 : n2 = nw r := by have := hW2.len; rw [nd_length] at this; omega
  have hO := ((hO.ext hE1).add hW1).add hW2
  clear hW1 hW2 hE1
  clear hf
  have hf := hO.cells
  simp only [BC, CC, Nat.zero_add, Nat.reduceAdd, and_true] at hf
  have g2 : decide (0 < n2) = true := by
    refine decide_eq_true ?_
    have := nw_eq_zero (n := r)
    omega
  have hn1 : n1 ≤ 1073741824 := by omega
  have HPL : Hid (∀ w, Wds w A1 n1 c1 (nd q) → Wds (w.alloc (.cells #[.int .u32 1] 80)) (some ⟨w.heap.size, 0, none⟩) 1 1 [1] → Calls Try.prog 100 #[.slice A1 n1 c1, .slice (some ⟨w.heap.size, 0, none⟩) 1 1] (w.alloc (.cells #[.int .u32 1] 80)) (RetW (q + 1) (w.alloc (.cells #[.int .u32 1] 80)))) := Lib.hid (fun w h1 h2 => by
    have := plus_any A1 n1 c1 (nd q) (some ⟨w.heap.size, 0, none⟩) 1 1 [1] (w.alloc (.cells #[.int .u32 1] 80)) (h1.alloc _) (by omega) h2 (by omega)
    rwa [nv_nd, show nv [1] = 1 from rfl] at this)
  have hw1 := hO.wd 1 rfl
  have HO1 := Lib.hid (hO.ext ((Ext.refl w2).alloc (.cells #[.int .u32 1] 80)))
  have HP2 := Lib.hid (HPL.out w2 hw1 (one_wds w2 rfl))
  clear hl1 hl2 hqn hz hn1 hw1 HPL hO
  go_upto_region 3 with fail
  clear hf
  go_wp2_with fail
  refine HP2.out.mono ?_
  rintro e w3 ⟨A3, n3, c3, rfl, hW3, hE3⟩
  have hl3 : n3 = nw (q + 1) := by have := hW3.len; rw [nd_length] at this; omega
  have g3 : decide (0 < n3) = true := by
    refine decide_eq_true ?_
    have := nw_eq_zero (n := q + 1)
    omega
  have hO := (HO1.out.ext hE3).add hW3
  clear hW3 hE3 hl3 HO1 HP2
  have hf := hO.cells
  simp only [BC, CC, Nat.zero_add, Nat.reduceAdd, and_true] at hf
  go_wp2
  go_ret2
  exact ⟨_, _, _, rfl, hO.wd 0 rfl, hO.toExt⟩

theorem st1 (s : Bool) (N D : Nat) : stQ 1 s N D = N / D + (s && decide (N % D ≠ 0)).toNat := by
  unfold stQ stMo
  rw [if_pos rfl]
theorem rfloor_any (s : Bool) (A : Option Addr) (l c : Nat) (B : Option Addr) (k d N D : Nat) (w : World) (h : RatAt w A l c B k d N D) (hN : nw N ≤ 1073741824) (hD : nw D ≤ 1073741824) (hp : 0 < D) :
    Calls Try.prog 176 #[.agg #[.bool s, .slice A l c, .slice B k d]] w (RetBW (s && decide (stQ 1 s N D ≠ 0)) (stQ 1 s N D) w) := by
  rw [st1]
  cases s
  · simp only [Bool.false_and, Bool.toNat_false, Nat.add_zero]
    exact rfloor_f A l c B k d N D w h hN hD hp
  · by_cases hz : N % D = 0
    · rw [hz]
      simp only [Bool.true_and, show decide ((0 : Nat) ≠ 0) = false from rfl, Bool.toNat_false, Nat.add_zero]
      exact rfloor_t0 A l c B k d N D w h hN hD hp hz
    · rw [decide_eq_true hz]
      simp only [Bool.true_and, Bool.toNat_true]
      rw [decide_eq_true (Nat.succ_ne_zero (N / D))]
      exact rfloor_t1 A l c B k d N D w h hN hD hp hz

set_option maxHeartbeats 2000000 in
theorem floor7_any (s : Bool) (A : Option Addr) (l c : Nat) (B : Option Addr) (k d N D : Nat) (w : World) (h : RatAt w A l c B k d N D) (hN : nw N ≤ 1048576) (hD : nw D ≤ 1048576) (hp : 0 < D) :
    Calls Try.prog 158 #[.agg #[.bool s, .slice A l c, .slice B k d]] w (RetR (s && decide (stQ 1 s N D ≠ 0)) (stQ 1 s N D) 1 w) := by
  have HRF : Hid (∀ w, RatAt w A l c B k d N D → Calls Try.prog 176 #[.agg #[.bool s, .slice A l c, .slice B k d]] w (RetBW (s && decide (stQ 1 s N D ≠ 0)) (stQ 1 s N D) w)) := Lib.hid (fun w h => rfloor_any s A l c B k d N D w h (by omega) (by omega) hp)
  have hq1 : nw (stQ 1 s N D) ≤ 1048577 := by
    have h1 : stQ 1 s N D ≤ N + 1 := by
      rw [st1]
      have h2 := Nat.div_le_self N D
      have h3 := Bool.toNat_le (s && decide (N % D ≠ 0))
      omega
    refine Nat.le_trans (nw_mono h1) ((nw_le_iff _ _).2 ?_)
    obtain ⟨e, he⟩ : ∃ e : Nat, e = 1048576 := ⟨_, rfl⟩
    rw [← he] at hN
    rw [show (1048577 : Nat) = e + 1 by omega, Nat.pow_succ]
    have h2 := lt_pow_nw N
    have h3 : 4294967296 ^ nw N ≤ 4294967296 ^ e := Nat.pow_le_pow_right (by omega) hN
    omega
  obtain ⟨q, hq⟩ : ∃ q, q = stQ 1 s N D := ⟨_, rfl⟩
  rw [← hq] at HRF hq1 ⊢
  obtain ⟨b, hb⟩ : ∃ b, b = (s && decide (q ≠ 0)) := ⟨_, rfl⟩
  rw [← hb] at HRF ⊢
  have hbb : (b && decide (q ≠ 0)) = b := by rw [hb, Bool.and_assoc, Bool.and_self]
  have HFR : Hid (∀ (A1 : Option Addr) (n1 c1 : Nat) (w : World), Wds w A1 n1 c1 (nd q) → Calls Try.prog 55 #[.bool b, .slice A1 n1 c1, .slice (some ⟨w.heap.size, 0, none⟩) 1 1, .int .i64 0] (w.alloc (.cells #[.int .u32 1] 80)) (RetR b q 1 (w.alloc (.cells #[.int .u32 1] 80)))) := Lib.hid (fun A1 n1 c1 w h1 => by
    have hl : n1 = nw q := by have := h1.len; rw [nd_length] at this; omega
    have := frac_any b A1 n1 c1 (nd q) (some ⟨w.heap.size, 0, none⟩) 1 1 [1] 0 (w.alloc (.cells #[.int .u32 1] 80)) (h1.alloc _) (by omega) (one_wds w rfl) (by omega) (by omega) (by omega) (by decide)
    rwa [nv_nd, show nv [1] = 1 from rfl, (fr_one q).1, (fr_one q).2, hbb] at this)
  have hO := ((Own.start w).add h.1).add h.2
  have hf : True := trivial
  clear h hN hD hp hq1 hb hbb hq
  go_enter Try.func158, Try.ntmps158
  go_wp2_with (first | ((with_reducible refine at_box ?_); refine own_box (cs := [.bool s, .slice A l c, .slice B k d]) hO rfl rfl ?_; clear hO; intro ga wa hO; clear hf; have hf := hO.cells; simp only [BC, CC, Nat.zero_add, Nat.reduceAdd, and_true] at hf) | ((with_reducible refine at_alloc ?_); refine own_alloc hO zero_rat rfl rfl ?_; clear hO; intro g wb hO; clear hf; have hf := hO.cells; simp only [BC, CC, Nat.zero_add, Nat.reduceAdd, and_true] at hf))
  refine (HRF.out _ ⟨hO.wd 1 rfl, hO.wd 0 rfl⟩).mono ?_
  rintro e w2 ⟨A1, n1, c1, rfl, hW1, hE1⟩
  have hO := (hO.ext hE1).add hW1
  clear hE1
  have HP2 := Lib.hid (HFR.out A1 n1 c1 w2 hW1)
  have HO1 := Lib.hid (hO.ext ((Ext.refl w2).alloc (.cells #[.int .u32 1] 80)))
  clear hW1 hO hf HFR
  go_wp2_with fail
  refine HP2.out.mono ?_
  rintro e w3 ⟨A3, n3, c3, A4, n4, c4, rfl, hW3, hW4, hE3⟩
  have hO := ((HO1.out.ext hE3).add hW3).add hW4
  clear hW3 hW4 hE3 HO1 HP2
  have hf := hO.cells
  simp only [BC, CC, Nat.zero_add, Nat.reduceAdd, and_true] at hf
  go_wp2_with ((with_reducible refine at_store (T := 35) ?_); refine own_store (T := 35) hO 0 rfl rfl rfl size_rat rfl rfl rfl ?_; clear hO; intro w4 hO; simp only [List.set_cons_zero, List.set_cons_succ, spl, List.take_succ_cons, List.take_zero, List.nil_append, List.cons_append, List.length_cons, List.length_nil, List.drop_succ_cons, List.drop_zero, List.drop_nil, Nat.reduceAdd, Nat.zero_add, List.append_nil] at hO; clear hf; have hf := hO.cells; simp only [BC, CC, Nat.zero_add, Nat.reduceAdd, and_true] at hf)
  exact own_ret hO 0 rfl rfl rfl agg_rat size_rat rfl ⟨_, _, _, _, _, _, rfl, hO.wd 1 rfl, hO.wd 0 rfl, hO.toExt⟩

set_option maxHeartbeats 1000000 in
theorem intm1_any (w : World) :
    Calls Try.prog 79 #[.int .i64 (-1)] w (RetR true 1 1 w) := by
  have HSM : Hid (∀ w, Calls Try.prog 56 #[.int .u64 1] w (RetW 1 w)) := Lib.hid (fun w => by
    have := small_any 1 w (by omega) (by omega)
    exact this)
  have HFR : Hid (∀ (A1 : Option Addr) (n1 c1 : Nat) (w : World), Wds w A1 n1 c1 (nd 1) → Calls Try.prog 55 #[.bool true, .slice A1 n1 c1, .slice (some ⟨w.heap.size, 0, none⟩) 1 1, .int .i64 0] (w.alloc (.cells #[.int .u32 1] 80)) (RetR true 1 1 (w.alloc (.cells #[.int .u32 1] 80)))) := Lib.hid (fun A1 n1 c1 w h1 => by
    have hl := h1.len
    rw [show (nd 1).length = 1 by decide] at hl
    have := frac_any true A1 n1 c1 (nd 1) (some ⟨w.heap.size, 0, none⟩) 1 1 [1] 0 (w.alloc (.cells #[.int .u32 1] 80)) (h1.alloc _) (by omega) (one_wds w rfl) (by omega) (by omega) (by omega) (by decide)
    rwa [nv_nd, show nv [1] = 1 from rfl, (fr_one 1).1, (fr_one 1).2, show (true && decide ((1 : Nat) ≠ 0)) = true from rfl] at this)
  have hO := Own.start w
  have hf : True := trivial
  go_enter Try.func79, Try.ntmps79
  go_wp2_with ((with_reducible refine at_alloc ?_); refine own_alloc hO zero_rat rfl rfl ?_; clear hO; intro g wb hO; clear hf; have hf := hO.cells; simp only [BC, CC, Nat.zero_add, Nat.reduceAdd, and_true] at hf)
  refine (HSM.out _).mono ?_
  rintro e w2 ⟨A1, n1, c1, rfl, hW1, hE1⟩
  have hO := hO.ext hE1
  clear hE1
  have HP2 := Lib.hid (HFR.out A1 n1 c1 w2 hW1)
  have HO1 := Lib.hid (hO.ext ((Ext.refl w2).alloc (.cells #[.int .u32 1] 80)))
  clear hW1 hO hf HFR
  go_wp2_with fail
  refine HP2.out.mono ?_
  rintro e w3 ⟨A3, n3, c3, A4, n4, c4, rfl, hW3, hW4, hE3⟩
  have hO := ((HO1.out.ext hE3).add hW3).add hW4
  clear hW3 hW4 hE3 HO1 HP2
  have hf := hO.cells
  simp only [BC, CC, Nat.zero_add, Nat.reduceAdd, and_true] at hf
  go_wp2_with ((with_reducible refine at_store (T := 35) ?_); refine own_store (T := 35) hO 0 rfl rfl rfl size_rat rfl rfl rfl ?_; clear hO; intro w4 hO; simp only [List.set_cons_zero, List.set_cons_succ, spl, List.take_succ_cons, List.take_zero, List.nil_append, List.cons_append, List.length_cons, List.length_nil, List.drop_succ_cons, List.drop_zero, List.drop_nil, Nat.reduceAdd, Nat.zero_add, List.append_nil] at hO; clear hf; have hf := hO.cells; simp only [BC, CC, Nat.zero_add, Nat.reduceAdd, and_true] at hf)
  exact own_ret hO 0 rfl rfl rfl agg_rat size_rat rfl ⟨_, _, _, _, _, _, rfl, hO.wd 1 rfl, hO.wd 0 rfl, hO.toExt⟩
end Go.Proofs.Ytmcfflecaklpcaa

/-
  The contracts of the document's products of ratios. Conditions: those that each theorem names.
-/
namespace Go.Proofs.Ytmcfflecaklpcaa
open Go.RowKit Nm Rn
set_option maxRecDepth 100000
set_option linter.unusedVariables false
set_option linter.unusedSimpArgs false

set_option maxHeartbeats 2000000 in
theorem rmulq_any (n m : Bool) (A : Option Addr) (l c : Nat) (B : Option Addr) (k d N D : Nat) (A' : Option Addr) (l' c' : Nat) (B' : Option Addr) (k' d' N' D' : Nat) (w : World)
    (h : RatAt w A l c B k d N D) (h' : RatAt w A' l' c' B' k' d' N' D') (hN : nw N ≤ 1073741824) (hD : nw D ≤ 1073741824) (hN' : nw N' ≤ 1073741824) (hD' : nw D' ≤ 1073741824) (hp : 0 < D * D') :
    Calls Try.prog 33 #[.agg #[.bool n, .slice A l c, .slice B k d], .agg #[.bool m, .slice A' l' c', .slice B' k' d']] w (RetR ((n != m) && decide (N * N' ≠ 0)) (fracN (N * N') (D * D') 0) (fracD (N * N') (D * D') 0) w) := by
  have hl := h.lenN
  have hk := h.lenD
  have hl' := h'.lenN
  have hk' := h'.lenD
  have hO := ((((Own.start w).add h.1).add h.2).add h'.1).add h'.2
  have hT1 := fun w h h' => times_any A l c (nd N) A' l' c' (nd N') w h (by omega) h' (by omega)
  have hT2 := fun w h h' => times_any B k d (nd D) B' k' d' (nd D') w h (by omega) h' (by omega)
  have e1 := nw_mul2 N N'
  have e2 := nw_mul2 D D'
  have hFR := fun A n1 c B n2 d w (h : Wds w A n1 c (nd (N * N'))) (k : Wds w B n2 d (nd (D * D'))) => frac_any (n != m) A n1 c (nd (N * N')) B n2 d (nd (D * D')) 0 w h (by have := h.len; rw [nd_length] at this; omega) k (by have := k.len; rw [nd_length] at this; omega) (by omega) (by omega) (by rw [nv_nd]; exact hp)
  simp only [nv_nd] at hT1 hT2 hFR
  obtain ⟨P, hP⟩ : ∃ P, P = N * N' := ⟨_, rfl⟩
  obtain ⟨Q, hQ⟩ : ∃ Q, Q = D * D' := ⟨_, rfl⟩
  rw [← hP] at hT1 hFR ⊢
  rw [← hQ] at hT2 hFR ⊢
  obtain ⟨r, hr⟩ : ∃ r, r = (n != m) := ⟨_, rfl⟩
  rw [← hr] at hFR ⊢
  obtain ⟨zz, hzz⟩ : ∃ zz, zz = (r && decide (P ≠ 0)) := ⟨_, rfl⟩
  rw [← hzz] at hFR ⊢
  clear hzz
  have HR := Lib.hid hr.symm
  have HT1 := Lib.hid hT1
  have HT2 := Lib.hid hT2
  have HFR := Lib.hid hFR
  clear hT1 hT2 hFR hP hQ hr h h' hl hk hl' hk' hN hD hN' hD' hp e1 e2
  go_enter Try.func33, Try.ntmps33
  go_wp2_with (first
    | (refine own_box (cs := [.bool n, .slice A l c, .slice B k d]) hO rfl rfl ?_; clear hO; intro ga wa hO)
    | (refine own_box (cs := [.bool m, .slice A' l' c', .slice B' k' d']) hO rfl rfl ?_; clear hO; intro gb wb hO)
    | (refine own_alloc hO zero_rat rfl rfl ?_; clear hO; intro g w1 hO))
  obtain ⟨S, hS⟩ : ∃ S : World → Prop, S = Own w [⟨g, 35, [.bool false, .slice none 0 0, .slice none 0 0]⟩, ⟨gb, 35, [.bool m, .slice A' l' c', .slice B' k' d']⟩, ⟨ga, 35, [.bool n, .slice A l c, .slice B k d]⟩] [⟨B', k', d', nd D'⟩, ⟨A', l', c', nd N'⟩, ⟨B, k, d, nd D⟩, ⟨A, l, c, nd N⟩] := ⟨_, rfl⟩
  have hSE : ∀ w w', S w → Ext w w' → S w' := fun w w' h1 h2 => by rw [hS] at h1 ⊢; exact h1.ext h2
  have hS1 : S w1.drew := by rw [hS]; exact hO.ext (Ext.refl w1).drew
  have HS := Lib.hid hS
  clear hS hO
  obtain ⟨sp, hsp⟩ : ∃ sp : Nat → Sp, sp = ofList [det (.pointer (some ⟨ga, 0, none⟩)), det (.bool n), det (.pointer (some ⟨gb, 0, none⟩)), det (.bool m), det (.bool r),
    det (.pointer (some ⟨ga, 1, none⟩)), det (.slice A l c), det (.pointer (some ⟨gb, 1, none⟩)), det (.slice A' l' c'), anyOf (fun v wz => ∃ A1 n1 c1, v = .slice A1 n1 c1 ∧ Wds wz A1 n1 c1 (nd P)),
    det (.pointer (some ⟨ga, 2, none⟩)), det (.slice B k d), det (.pointer (some ⟨gb, 2, none⟩)), det (.slice B' k' d'), anyOf (fun v wz => ∃ A1 n1 c1, v = .slice A1 n1 c1 ∧ Wds wz A1 n1 c1 (nd Q)),
    anyOf (fun v wz => ∃ A1 n1 c1 A2 n2 c2, v = .agg #[.bool zz, .slice A1 n1 c1, .slice A2 n2 c2] ∧ RatAt wz A1 n1 c1 A2 n2 c2 (fracN P Q 0) (fracD P Q 0))] := ⟨_, rfl⟩
  have HSP := Lib.hid hsp
  clear hsp
  refine wp_region_loose 16 S sp (by kernel_rfl) (by kernel_rfl) hS1 hSE ?_
  simp only [List.take_succ_cons, List.take_zero, List.drop_succ_cons, List.drop_zero]
  iterate 15
    refine wpX_step (fun K hK => ?_)
    go_simp
    first
    | (refine ⟨by rw [HSP.out]; rfl, hK _ _ ?_⟩
       clear hK K)
    | (refine StepY.det (by rw [HSP.out]; rfl) ?_ ?_
       · intro wz hz hF
         rw [HS.out] at hz
         have hf := hz.facts
         simp only [BF, CF, Nat.zero_add, Nat.reduceAdd, and_true] at hf
         have hr := HR.out
         clear hz hF
         go_simp
         first
         | exact ⟨rfl, Ext.refl _⟩
         | exact ⟨by rw [← hr]; rfl, Ext.refl _⟩
       refine hK _ _ ?_
       clear hK K)
    | (refine StepY.any (by rw [HSP.out]; rfl) ?_ ?_
       · intro wz hz hF
         rw [HS.out] at hz
         have h1 := hz.wd 3 rfl
         have h2 := hz.wd 2 rfl
         have h3 := hz.wd 1 rfl
         have h4 := hz.wd 0 rfl
         clear hz
         go_simp
         go_at_call 58
         first
         | (with_reducible refine (HT1.out _ h1 h3).mono ?_)
         | (with_reducible refine (HT2.out _ h2 h4).mono ?_)
         rintro e w2 ⟨A1, n1, c1, rfl, hW1, hE1⟩
         exact ⟨_, rfl, ⟨A1, n1, c1, rfl, hW1⟩, hE1⟩
       intro v
       refine hK _ _ ?_
       clear hK K)
  refine wpX_step (fun K hK => ?_)
  go_simp
  refine StepY.any (by rw [HSP.out]; rfl) ?_ ?_
  · intro wz hz hF
    obtain ⟨wa', ea, A1, n1, c1, hv1, hw1⟩ := hF.any 9 (by kernel_rfl) (by rw [HSP.out]; rfl)
    obtain ⟨wb', eb, A2, n2, c2, hv2, hw2⟩ := hF.any 14 (by kernel_rfl) (by rw [HSP.out]; rfl)
    clear hF
    simp only [asFun, List.nil_append, List.cons_append, List.getD_cons_succ, List.getD_cons_zero] at hv1 hv2
    subst hv1 hv2
    go_simp
    go_at_call 55
    refine (HFR.out _ _ _ _ _ _ _ (hw1.ext ea) (hw2.ext eb)).mono ?_
    rintro e w2 ⟨A3, n3, c3, A4, n4, c4, rfl, hW1, hW2, hE1⟩
    exact ⟨_, rfl, ⟨A3, n3, c3, A4, n4, c4, rfl, hW1, hW2⟩, hE1⟩
  intro v
  refine hK _ _ ?_
  clear hK K
  refine wpX_nil ?_
  intro w3 hz hF
  obtain ⟨w0, e0, A3, n3, c3, A4, n4, c4, hv, hw0⟩ := fact_any (hF 15 (by omega)) (by rw [HSP.out]; rfl)
  clear hF
  simp only [asFun, List.nil_append, List.cons_append, List.getD_cons_succ, List.getD_cons_zero] at hv
  subst hv
  rw [HS.out] at hz
  have hO := (hz.add (hw0.ext e0).1).add (hw0.ext e0).2
  clear hz hw0 e0
  go_wp2_with (refine own_store hO 0 rfl rfl rfl size_rat rfl rfl rfl ?_; clear hO; intro w4 hO)
  exact own_ret hO 0 rfl rfl rfl agg_rat size_rat rfl ⟨_, _, _, _, _, _, rfl, hO.wd 1 rfl, hO.wd 0 rfl, hO.toExt⟩
end Go.Proofs.Ytmcfflecaklpcaa
