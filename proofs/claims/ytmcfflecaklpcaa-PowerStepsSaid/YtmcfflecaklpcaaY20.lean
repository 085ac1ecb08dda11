/-
  The contract of the document's Step, in one. Conditions: those that each theorem names.
-/
import Derived.Test.YtmcfflecaklpcaaY19
import Derived.Test.YtmcfflecaklpcaaY14
import Derived.Test.YtmcfflecaklpcaaY15
import Derived.Test.YtmcfflecaklpcaaY04
import Derived.Test.YtmcfflecaklpcaaY05
import Derived.StillTailTactics
import Derived.Deep.QuietTactic
import Derived.BigQuiet
namespace Go.Proofs.Ytmcfflecaklpcaa
open Go.RowKit Nm Rn
set_option maxRecDepth 100000
set_option linter.unusedVariables false
set_option linter.unusedSimpArgs false

/-- The size of the whole number, the sign's kind (0) among them. -/
def stZ (k : Nat) (s : Bool) (N D : Nat) : Nat := if k = 0 then (if N = 0 then 0 else 1) else stQ k s N D

theorem two_row (w : World) {x g : Nat} (hg : g = w.heap.size) (hx : x < 4294967296) : Wds (w.alloc (.cells #[.int .u32 (x : Int)] 80)) (some ⟨g, 0, none⟩) 1 1 [x] := by
  subst hg
  exact (Row.new w [x]).wds (Ws.cons hx Ws.nil) rfl (Nat.le_refl _) (by unfold maxLen; omega)
theorem half_any (w : World) : Calls Try.prog 55 #[.bool false, .slice (some ⟨w.heap.size, 0, none⟩) 1 1, .slice (some ⟨w.heap.size + 1, 0, none⟩) 1 1, .int .i64 0] ((w.alloc (.cells #[.int .u32 1] 80)).alloc (.cells #[.int .u32 2] 80)) (RetR false 1 2 ((w.alloc (.cells #[.int .u32 1] 80)).alloc (.cells #[.int .u32 2] 80))) := by
  have e : (w.alloc (.cells #[.int .u32 1] 80)).heap.size = w.heap.size + 1 := World.size_alloc _ _
  have h1 := (one_wds w rfl).alloc (.cells #[.int .u32 2] 80)
  have h2 := two_row (w.alloc (.cells #[.int .u32 1] 80)) (x := 2) (g := w.heap.size + 1) e.symm (by omega)
  have := frac_any false (some ⟨w.heap.size, 0, none⟩) 1 1 [1] (some ⟨w.heap.size + 1, 0, none⟩) 1 1 [2] 0 ((w.alloc (.cells #[.int .u32 1] 80)).alloc (.cells #[.int .u32 2] 80)) h1 (by omega) h2 (by omega) (by omega) (by omega) (by decide)
  rwa [show nv [1] = 1 from rfl, show nv [2] = 2 from rfl, show fracN 1 2 0 = 1 by decide, show fracD 1 2 0 = 2 by decide, Bool.false_and] at this

/-- What is left, against one half. -/
theorem rc_half {N D : Nat} (hD : 0 < D) : rc (sbS false false N D (N / D) 1) (sbN false false N D (N / D) 1) (sbD false false N D (N / D) 1) false 1 2 = cmpI ((2 * (N % D) : Nat) : Int) (D : Int) := by
  obtain ⟨p1, e1⟩ := sub_val false false (N := N) (N' := N / D) hD (show 0 < 1 by omega)
  obtain ⟨S, hS⟩ : ∃ S, S = sn (sbS false false N D (N / D) 1) (sbN false false N D (N / D) 1) := ⟨_, rfl⟩
  obtain ⟨d, hd⟩ : ∃ d, d = sbD false false N D (N / D) 1 := ⟨_, rfl⟩
  unfold rc
  rw [← hS, ← hd] at e1
  rw [← hd] at p1
  rw [← hS, ← hd]
  have hsn : ∀ n : Nat, sn false n = (n : Int) := fun n => rfl
  rw [hsn, hsn] at e1
  rw [hsn]
  have hdm := Nat.div_add_mod N D
  have e2 : (N : Int) * ((1 : Nat) : Int) - ((N / D : Nat) : Int) * (D : Int) = ((N % D : Nat) : Int) := by
    rw [← Int.natCast_mul (N / D) D, Nat.mul_comm (N / D) D]
    have : ((D * (N / D) : Nat) : Int) + ((N % D : Nat) : Int) = (N : Int) := by rw [← Int.natCast_add, hdm]
    push_cast at this ⊢
    omega
  rw [e2] at e1
  have hDi : (0 : Int) < (D : Int) := by omega
  have hdi : (0 : Int) < (d : Int) := by omega
  have e3 : S * ((2 : Nat) : Int) * (D : Int) = ((2 * (N % D) : Nat) : Int) * (d : Int) := by
    have : S * ((2 : Nat) : Int) * (D : Int) = 2 * (S * ((D : Int) * ((1 : Nat) : Int))) := by
      push_cast
      simp only [Int.mul_one]
      ac_rfl
    rw [this, e1]
    push_cast
    ac_rfl
  have e4 : ((1 : Nat) : Int) * (d : Int) * (D : Int) = (D : Int) * (d : Int) := by
    push_cast
    simp only [Int.one_mul]
    ac_rfl
  rw [← cmpI_mul hDi, e3, e4, cmpI_mul hdi]
theorem add_one (Q : Nat) : (aNeg false false (Q * 1) (1 * 1) && decide (aMag false false (Q * 1) (1 * 1) ≠ 0)) = false ∧ fracN (aMag false false (Q * 1) (1 * 1)) (1 * 1) 0 = Q + 1 ∧ fracD (aMag false false (Q * 1) (1 * 1)) (1 * 1) 0 = 1 := by
  have e1 : aMag false false (Q * 1) (1 * 1) = Q + 1 := by unfold aMag; simp
  have e2 : aNeg false false (Q * 1) (1 * 1) = false := by unfold aNeg; simp
  rw [e1, e2]
  exact ⟨rfl, (fr_one _).1, (fr_one _).2⟩

set_option maxHeartbeats 4000000 in
theorem step7_any (k : Nat) (s : Bool) (A : Option Addr) (l c0 : Nat) (B : Option Addr) (kk d N D : Nat) (w : World) (hk : k < 6) (h : RatAt w A l c0 B kk d N D) (hD : 0 < D) (hs : N = 0 → s = false) (hN : nw N ≤ 1000) (hDn : nw D ≤ 1000) :
    Calls Try.prog 128 #[.int .i64 (k : Int), .agg #[.bool s, .slice A l c0, .slice B kk d]] w (RetR (s && decide (stZ k s N D ≠ 0)) (stZ k s N D) 1 w) := by
  have hNR := fun (t : Bool) (M E : Nat) (hM : nw M ≤ 1073741824) (hE : nw E ≤ 1073741824) => (Lib.hid fun A1 l1 c1 B1 k1 d1 w h => rneg_any t A1 l1 c1 B1 k1 d1 M E w h hM hE : Hid (∀ (A1 : Option Addr) (l1 c1 : Nat) (B1 : Option Addr) (k1 d1 : Nat) w, RatAt w A1 l1 c1 B1 k1 d1 M E → Calls Try.prog 112 #[.agg #[.bool t, .slice A1 l1 c1, .slice B1 k1 d1]] w (RetR (!t && decide (M ≠ 0)) M E w)))
  have hFL := fun (t : Bool) => (Lib.hid fun A1 l1 c1 B1 k1 d1 w h => floor7_any t A1 l1 c1 B1 k1 d1 N D w h (by omega) (by omega) hD : Hid (∀ (A1 : Option Addr) (l1 c1 : Nat) (B1 : Option Addr) (k1 d1 : Nat) w, RatAt w A1 l1 c1 B1 k1 d1 N D → Calls Try.prog 158 #[.agg #[.bool t, .slice A1 l1 c1, .slice B1 k1 d1]] w (RetR (t && decide (stQ 1 t N D ≠ 0)) (stQ 1 t N D) 1 w)))
  have HSG : Hid (∀ (A1 : Option Addr) (l1 c1 : Nat) (B1 : Option Addr) (k1 d1 : Nat) w, RatAt w A1 l1 c1 B1 k1 d1 N D → Calls Try.prog 22 #[.agg #[.bool s, .slice A1 l1 c1, .slice B1 k1 d1]] w fun e w' => e = .returned (.int .i64 (sgnZ s N)) ∧ Ext w w') := Lib.hid (fun A1 l1 c1 B1 k1 d1 w h => by
    have hl := h.lenN
    have := rsign_any s A1 l1 c1 (nd N) B1 k1 d1 w h.1 (by omega)
    rwa [nv_nd] at this)
  have nw1 : nw 1 ≤ 1073741824 := by decide
  have hqb : ∀ q : Nat, q ≤ N + 1 → nw q ≤ 2000 := fun q hq => by
    have h1 : ∀ e : Nat, nw N ≤ e → nw (N + 1) ≤ e + 1 := fun e he => by
      refine (nw_le_iff _ _).2 ?_
      have h2 := lt_pow_nw N
      have h3 : 4294967296 ^ nw N ≤ 4294967296 ^ e := Nat.pow_le_pow_right (by omega) he
      rw [Nat.pow_succ]
      omega
    have h2 := h1 _ hN
    have h3 := nw_mono hq
    omega
  have hc : k = 0 ∨ k = 1 ∨ k = 2 ∨ k = 3 ∨ k = 4 ∨ k = 5 := by omega
  have hQ : N / D ≤ N := Nat.div_le_self N D
  have hz0 : N = 0 → N / D = 0 ∧ N % D = 0 := fun e => by rw [e]; exact ⟨Nat.zero_div D, Nat.zero_mod D⟩
  rcases hc with rfl | rfl | rfl | h345
  · by_cases h0 : N = 0
    · have e : stZ 0 s N D = 0 := by unfold stZ; rw [if_pos rfl, if_pos h0]
      have hsz : sgnZ s N = 0 := by rw [h0]; unfold sgnZ; simp
      rw [hsz] at HSG
      have HIN : Hid (∀ w, Calls Try.prog 79 #[.int .i64 0] w (RetR false 0 1 w)) := Lib.hid (fun w => by
        have := int_any 0 w (by omega)
        rwa [(fr_one 0).1, (fr_one 0).2] at this)
      rw [e, show decide ((0 : Nat) ≠ 0) = false from rfl, Bool.and_false]
      exact step_0 s A l c0 B kk d N D w h 0 false 0 HSG HIN
    · have e : stZ 0 s N D = 1 := by unfold stZ; rw [if_pos rfl, if_neg h0]
      rw [e, show decide ((1 : Nat) ≠ 0) = true from rfl, Bool.and_true]
      cases s
      · have hsz : sgnZ false N = 1 := by unfold sgnZ; rw [if_neg h0]; rfl
        rw [hsz] at HSG
        have HIN : Hid (∀ w, Calls Try.prog 79 #[.int .i64 1] w (RetR false 1 1 w)) := Lib.hid (fun w => by
          have := int_any 1 w (by omega)
          rwa [(fr_one 1).1, (fr_one 1).2] at this)
        exact step_0 false A l c0 B kk d N D w h 1 false 1 HSG HIN
      · have hsz : sgnZ true N = -1 := by unfold sgnZ; rw [if_neg h0]; rfl
        rw [hsz] at HSG
        exact step_0 true A l c0 B kk d N D w h (-1) true 1 HSG (Lib.hid fun w => intm1_any w)
  · have e : stZ 1 s N D = stQ 1 s N D := by unfold stZ; rw [if_neg (by omega)]
    rw [e]
    exact step_1 s A l c0 B kk d N D w h _ _ (hFL s)
  · have e : stZ 2 s N D = stQ 2 s N D := by unfold stZ; rw [if_neg (by omega)]
    rw [e]
    obtain ⟨t, ht⟩ : ∃ t, t = (!s && decide (N ≠ 0)) := ⟨_, rfl⟩
    have e1 : stQ 1 t N D = stQ 2 s N D := by
      unfold stQ stMo
      rw [if_pos rfl, if_neg (by omega), if_pos rfl, ht]
      by_cases h0 : N = 0
      · rw [(hz0 h0).2]; simp
      · rw [decide_eq_true h0, Bool.and_true]
    have hq : stQ 2 s N D ≤ N + 1 := by
      unfold stQ
      have := Bool.toNat_le (stMo 2 s N D)
      omega
    have h1 := hNR s N D (by omega) (by omega)
    rw [← ht] at h1
    have h2 := hFL t
    rw [e1] at h2
    have h3 := hNR (t && decide (stQ 2 s N D ≠ 0)) (stQ 2 s N D) 1 (by have := hqb _ hq; omega) nw1
    have e2 : (!(t && decide (stQ 2 s N D ≠ 0)) && decide (stQ 2 s N D ≠ 0)) = (s && decide (stQ 2 s N D ≠ 0)) := by
      by_cases hq0 : stQ 2 s N D = 0
      · rw [hq0]; simp
      · rw [decide_eq_true hq0, Bool.and_true, Bool.and_true, Bool.and_true, ht]
        have h0 : N ≠ 0 := fun h0 => hq0 (by
          unfold stQ stMo
          rw [(hz0 h0).1, (hz0 h0).2]
          simp)
        rw [decide_eq_true h0]
        simp
    rw [e2] at h3
    exact step_2 s A l c0 B kk d N D w h t _ _ _ h1 h2 h3
  · -- toward 0, to the nearest
    have e : stZ k s N D = stQ k s N D := by unfold stZ; rw [if_neg (by omega)]
    rw [e]
    have hfl := hFL false
    have q1 : stQ 1 false N D = N / D := by rw [st1]; simp
    rw [q1, Bool.false_and] at hfl
    have hng := hNR true N D (by omega) (by omega)
    rw [show (!true && decide (N ≠ 0)) = false by simp] at hng
    have hvs : ∀ t : Bool, (N = 0 → t = false) → decide (sgnZ t N < 0) = t := fun t ht => by
      unfold sgnZ
      by_cases h0 : N = 0
      · rw [if_pos h0, ht h0]; rfl
      · rw [if_neg h0]
        cases t <;> rfl
    have hv := hvs s hs
    have hqn : ∀ q : Nat, q ≤ N + 1 → ∀ (A1 : Option Addr) (l1 c1 : Nat) (B1 : Option Addr) (k1 d1 : Nat) w, RatAt w A1 l1 c1 B1 k1 d1 q 1 → Calls Try.prog 112 #[.agg #[.bool false, .slice A1 l1 c1, .slice B1 k1 d1]] w (RetR (decide (q ≠ 0)) q 1 w) := fun q hq A1 l1 c1 B1 k1 d1 w h => by
      have := rneg_any false A1 l1 c1 B1 k1 d1 q 1 w h (by have := hqb q hq; omega) nw1
      rwa [show (!false && decide (q ≠ 0)) = decide (q ≠ 0) by simp] at this
    by_cases hk3 : k = 3
    · subst hk3
      have q3 : stQ 3 s N D = N / D := by unfold stQ stMo; simp
      rw [q3]
      cases s
      · rw [Bool.false_and]
        exact step_3f A l c0 B kk d N D w h _ hv (N / D) HSG hfl
      · rw [Bool.true_and]
        exact step_3t A l c0 B kk d N D w h _ hv (N / D) _ HSG hng hfl (Lib.hid (hqn _ (by omega)))
    · have hk45 : k = 4 ∨ k = 5 := by omega
      have k0 : ((k : Int) == 0) = false := by rw [beq_eq_false_iff_ne]; omega
      have k1 : ((k : Int) == 1) = false := by rw [beq_eq_false_iff_ne]; omega
      have k2 : ((k : Int) == 2) = false := by rw [beq_eq_false_iff_ne]; omega
      have k3 : ((k : Int) != 3) = true := by rw [bne_iff_ne]; omega
      have hQn : nw (N / D) ≤ 1000 := Nat.le_trans (nw_mono hQ) hN
      have HSB : Hid (∀ (A1 : Option Addr) (l1 c1 : Nat) (B1 : Option Addr) (k1 d1 : Nat) (A2 : Option Addr) (l2 c2 : Nat) (B2 : Option Addr) (k2 d2 : Nat) w, RatAt w A1 l1 c1 B1 k1 d1 N D → RatAt w A2 l2 c2 B2 k2 d2 (N / D) 1 → Calls Try.prog 69 #[.agg #[.bool false, .slice A1 l1 c1, .slice B1 k1 d1], .agg #[.bool false, .slice A2 l2 c2, .slice B2 k2 d2]] w (RetR (sbS false false N D (N / D) 1) (sbN false false N D (N / D) 1) (sbD false false N D (N / D) 1) w)) :=
        Lib.hid (fun A1 l1 c1 B1 k1 d1 A2 l2 c2 B2 k2 d2 w g1 g2 => rsubq_any false false A1 l1 c1 B1 k1 d1 N D A2 l2 c2 B2 k2 d2 (N / D) 1 w g1 g2 (by omega) (by omega) (by omega) nw1 (by omega))
      have nw1' : nw 1 ≤ 1000 := by decide
      have z1 := sb_nw (n := false) (m := false) (N := N) (N' := N / D) (D := D) (D' := 1) (b := 1000) hD (by omega) hN hDn hQn nw1'
      have p1 := (sub_val false false (N := N) (N' := N / D) hD (show 0 < 1 by omega)).1
      obtain ⟨c, hc⟩ : ∃ c, c = cmpI ((2 * (N % D) : Nat) : Int) (D : Int) := ⟨_, rfl⟩
      have HRC : Hid (∀ (A1 : Option Addr) (l1 c1 : Nat) (B1 : Option Addr) (k1 d1 : Nat) (A2 : Option Addr) (l2 c2 : Nat) (B2 : Option Addr) (k2 d2 : Nat) w, RatAt w A1 l1 c1 B1 k1 d1 (sbN false false N D (N / D) 1) (sbD false false N D (N / D) 1) → RatAt w A2 l2 c2 B2 k2 d2 1 2 → Calls Try.prog 18 #[.agg #[.bool (sbS false false N D (N / D) 1), .slice A1 l1 c1, .slice B1 k1 d1], .agg #[.bool false, .slice A2 l2 c2, .slice B2 k2 d2]] w fun e w' => e = .returned (.int .i64 c) ∧ Ext w w') :=
        Lib.hid (fun A1 l1 c1 B1 k1 d1 A2 l2 c2 B2 k2 d2 w g1 g2 => by
          have := rcmp_any (sbS false false N D (N / D) 1) A1 l1 c1 B1 k1 d1 _ _ false A2 l2 c2 B2 k2 d2 1 2 w g1 g2 (by omega) (by omega) nw1 (by decide) (by omega) (by omega)
          rwa [rc_half hD, ← hc] at this)
      have HBT : Hid (∀ (A1 : Option Addr) (l1 c1 : Nat) w, Wds w A1 l1 c1 (nd (N / D)) → Calls Try.prog 146 #[.slice A1 l1 c1, .int .i64 0] w fun e w' => e = .returned (.int .u32 ((N / D % 2 : Nat) : Int)) ∧ w = w') := Lib.hid (fun A1 l1 c1 w h => bit0_any A1 l1 c1 (N / D) w h (by have := h.len; rw [nd_length] at this; omega))
      have HLN : Hid (∀ (A1 : Option Addr) (l1 c1 : Nat) w, Wds w A1 l1 c1 (nd (N / D)) → Calls Try.prog 78 #[.slice A1 l1 c1] w fun e w' => e = .returned (.int .i64 (bl (N / D) : Int)) ∧ w = w') := Lib.hid (fun A1 l1 c1 w h => by
        have := len_any A1 l1 c1 (nd (N / D)) w h (by have := h.len; rw [nd_length] at this; omega)
        rwa [nv_nd] at this)
      have HI1 : Hid (∀ w, Calls Try.prog 79 #[.int .i64 1] w (RetR false 1 1 w)) := Lib.hid (fun w => by
        have := int_any 1 w (by omega)
        rwa [(fr_one 1).1, (fr_one 1).2] at this)
      have HAD : Hid (∀ (A1 : Option Addr) (l1 c1 : Nat) (B1 : Option Addr) (k1 d1 : Nat) (A2 : Option Addr) (l2 c2 : Nat) (B2 : Option Addr) (k2 d2 : Nat) w, RatAt w A1 l1 c1 B1 k1 d1 (N / D) 1 → RatAt w A2 l2 c2 B2 k2 d2 1 1 → Calls Try.prog 70 #[.agg #[.bool false, .slice A1 l1 c1, .slice B1 k1 d1], .agg #[.bool false, .slice A2 l2 c2, .slice B2 k2 d2]] w (RetR false (N / D + 1) 1 w)) :=
        Lib.hid (fun A1 l1 c1 B1 k1 d1 A2 l2 c2 B2 k2 d2 w g1 g2 => by
          have := radd_any false false A1 l1 c1 B1 k1 d1 (N / D) 1 A2 l2 c2 B2 k2 d2 1 1 w g1 g2 (by omega) nw1 nw1 nw1 (by omega)
          rwa [(add_one (N / D)).1, (add_one (N / D)).2.1, (add_one (N / D)).2.2] at this)
      have HFH := Lib.hid half_any
      have HN0 := Lib.hid (hqn (N / D) (by omega))
      have HN1 := Lib.hid (hqn (N / D + 1) (by omega))
      have hu1 : N / D % 2 = 1 → (((N / D % 2 : Nat) : Int) == 1) = true := fun g => by rw [g]; rfl
      have hu0 : ¬ N / D % 2 = 1 → (((N / D % 2 : Nat) : Int) == 1) = false := fun g => by rw [show N / D % 2 = 0 by omega]; rfl
      have hl1 : N / D % 2 = 1 → decide ((0 : Int) < (bl (N / D) : Int)) = true := fun g => decide_eq_true (by
        have : bl (N / D) ≠ 0 := fun h => by rw [bl_eq_zero.1 h] at g; omega
        omega)
      have hmore : stMo k s N D = true ∨ stMo k s N D = false := by cases stMo k s N D <;> simp
      have hst : stMo k s N D = (decide (D < 2 * (N % D)) || (decide (2 * (N % D) = D) && (decide (k = 5) || decide (N / D % 2 = 1)))) := by
        unfold stMo
        rw [if_neg (by omega), if_neg (by omega), if_neg hk3]
      have qT : stMo k s N D = true → stQ k s N D = N / D + 1 := fun g => by unfold stQ; rw [g]; rfl
      have qF : stMo k s N D = false → stQ k s N D = N / D := fun g => by unfold stQ; rw [g]; rfl
      rcases Nat.lt_trichotomy D (2 * (N % D)) with g | g | g
      · have hcv : c = 1 := hc.trans (by unfold cmpI; rw [if_neg (by omega), if_pos (by omega)])
        have c1 : decide (0 < c) = true := by rw [hcv]; rfl
        have c2 : (c == 0) = false := by rw [hcv]; rfl
        rw [qT (by rw [hst, decide_eq_true g, Bool.true_or])]
        by_cases ho : N / D % 2 = 1
        · cases s
          · rw [Bool.false_and]
            exact step_n10x1f _ A l c0 B kk d N D w h _ hv (N / D) _ _ _ c _ c1 c2 (hu1 ho) k0 k1 k2 k3 _ (hl1 ho) HSG hfl HSB HFH HRC HBT HLN HI1 HAD
          · rw [Bool.true_and]
            exact step_n10x1t _ A l c0 B kk d N D w h _ hv (N / D) _ _ _ c _ c1 c2 (hu1 ho) k0 k1 k2 k3 _ (hl1 ho) _ HSG hng hfl HSB HFH HRC HBT HLN HI1 HAD HN1
        · cases s
          · rw [Bool.false_and]
            exact step_n10x0f _ A l c0 B kk d N D w h _ hv (N / D) _ _ _ c _ c1 c2 (hu0 ho) k0 k1 k2 k3 HSG hfl HSB HFH HRC HBT HI1 HAD
          · rw [Bool.true_and]
            exact step_n10x0t _ A l c0 B kk d N D w h _ hv (N / D) _ _ _ c _ c1 c2 (hu0 ho) k0 k1 k2 k3 _ HSG hng hfl HSB HFH HRC HBT HI1 HAD HN1
      · have hcv : c = 0 := hc.trans (by unfold cmpI; rw [if_neg (by omega), if_neg (by omega)])
        have c1 : decide (0 < c) = false := by rw [hcv]; rfl
        have c2 : (c == 0) = true := by rw [hcv]; rfl
        by_cases h5 : k = 5
        · have k5 : ((k : Int) == 5) = true := by rw [beq_iff_eq]; omega
          rw [qT (by rw [hst, decide_eq_false (show ¬ D < 2 * (N % D) by omega), decide_eq_true g.symm, decide_eq_true h5]; rfl)]
          by_cases ho : N / D % 2 = 1
          · cases s
            · rw [Bool.false_and]
              exact step_n0111f _ A l c0 B kk d N D w h _ hv (N / D) _ _ _ c _ c1 c2 (hu1 ho) k0 k1 k2 k3 k5 _ (hl1 ho) HSG hfl HSB HFH HRC HBT HLN HI1 HAD
            · rw [Bool.true_and]
              exact step_n0111t _ A l c0 B kk d N D w h _ hv (N / D) _ _ _ c _ c1 c2 (hu1 ho) k0 k1 k2 k3 k5 _ (hl1 ho) _ HSG hng hfl HSB HFH HRC HBT HLN HI1 HAD HN1
          · cases s
            · rw [Bool.false_and]
              exact step_n0110f _ A l c0 B kk d N D w h _ hv (N / D) _ _ _ c _ c1 c2 (hu0 ho) k0 k1 k2 k3 k5 HSG hfl HSB HFH HRC HBT HI1 HAD
            · rw [Bool.true_and]
              exact step_n0110t _ A l c0 B kk d N D w h _ hv (N / D) _ _ _ c _ c1 c2 (hu0 ho) k0 k1 k2 k3 k5 _ HSG hng hfl HSB HFH HRC HBT HI1 HAD HN1
        · have k5 : ((k : Int) == 5) = false := by rw [beq_eq_false_iff_ne]; omega
          by_cases ho : N / D % 2 = 1
          · rw [qT (by rw [hst, decide_eq_false (show ¬ D < 2 * (N % D) by omega), decide_eq_true g.symm, decide_eq_false h5, decide_eq_true ho]; rfl)]
            cases s
            · rw [Bool.false_and]
              exact step_n0101f _ A l c0 B kk d N D w h _ hv (N / D) _ _ _ c _ c1 c2 (hu1 ho) k0 k1 k2 k3 k5 _ (hl1 ho) HSG hfl HSB HFH HRC HBT HLN HI1 HAD
            · rw [Bool.true_and]
              exact step_n0101t _ A l c0 B kk d N D w h _ hv (N / D) _ _ _ c _ c1 c2 (hu1 ho) k0 k1 k2 k3 k5 _ (hl1 ho) _ HSG hng hfl HSB HFH HRC HBT HLN HI1 HAD HN1
          · rw [qF (by rw [hst, decide_eq_false (show ¬ D < 2 * (N % D) by omega), decide_eq_true g.symm, decide_eq_false h5, decide_eq_false ho]; rfl)]
            cases s
            · rw [Bool.false_and]
              exact step_n0100f _ A l c0 B kk d N D w h _ hv (N / D) _ _ _ c _ c1 c2 (hu0 ho) k0 k1 k2 k3 k5 HSG hfl HSB HFH HRC HBT
            · rw [Bool.true_and]
              exact step_n0100t _ A l c0 B kk d N D w h _ hv (N / D) _ _ _ c _ c1 c2 (hu0 ho) k0 k1 k2 k3 k5 _ HSG hng hfl HSB HFH HRC HBT HN0
      · have hcv : c = -1 := hc.trans (by unfold cmpI; rw [if_pos (by omega)])
        have c1 : decide (0 < c) = false := by rw [hcv]; rfl
        have c2 : (c == 0) = false := by rw [hcv]; rfl
        rw [qF (by rw [hst, decide_eq_false (show ¬ D < 2 * (N % D) by omega), decide_eq_false (show ¬ 2 * (N % D) = D by omega)]; rfl)]
        by_cases ho : N / D % 2 = 1
        · cases s
          · rw [Bool.false_and]
            exact step_n00x1f _ A l c0 B kk d N D w h _ hv (N / D) _ _ _ c _ c1 c2 (hu1 ho) k0 k1 k2 k3 _ (hl1 ho) HSG hfl HSB HFH HRC HBT HLN
          · rw [Bool.true_and]
            exact step_n00x1t _ A l c0 B kk d N D w h _ hv (N / D) _ _ _ c _ c1 c2 (hu1 ho) k0 k1 k2 k3 _ (hl1 ho) _ HSG hng hfl HSB HFH HRC HBT HLN HN0
        · cases s
          · rw [Bool.false_and]
            exact step_n00x0f _ A l c0 B kk d N D w h _ hv (N / D) _ _ _ c _ c1 c2 (hu0 ho) k0 k1 k2 k3 HSG hfl HSB HFH HRC HBT
          · rw [Bool.true_and]
            exact step_n00x0t _ A l c0 B kk d N D w h _ hv (N / D) _ _ _ c _ c1 c2 (hu0 ho) k0 k1 k2 k3 _ HSG hng hfl HSB HFH HRC HBT HN0
end Go.Proofs.Ytmcfflecaklpcaa

/-
  Plain: the empty interval. Conditions: those that each theorem names.
-/
set_option linter.unusedVariables false
set_option linter.unusedSimpArgs false
namespace Go.Proofs.Ytmcfflecaklpcaa
open Nm Rn
def emp (lo hi : Nat) : Prop := rdLo lo hi = infR ∧ rdHi lo hi = minf
instance (lo hi : Nat) : Decidable (emp lo hi) := by unfold emp; exact inferInstance
theorem emp_lt {lo hi : Nat} (hl : lo < 18446744073709551616) (hh : hi < 18446744073709551616) : ltB (rdHi lo hi) (rdLo lo hi) = decide (emp lo hi) := by
  by_cases e : emp lo hi
  · rw [decide_eq_true e, e.1, e.2]; decide
  · rw [decide_eq_false e]
    obtain ⟨g1, g2, g3, g4, g5, g6, _, g8⟩ := rd_ends hl hh e
    unfold ltB
    rw [g3, g4, decide_eq_false (by omega)]; rfl
theorem cn_eq {r V : Nat} (h : cn r = V) (hV : isNaN V = false) : r = V := by
  unfold cn at h
  cases hr : isNaN r
  · rw [hr] at h; exact h
  · rw [hr] at h
    rw [← h] at hV
    cases hV

theorem rdLo_lt (lo hi : Nat) (h : lo < 18446744073709551616) : rdLo lo hi < 18446744073709551616 := by
  unfold rdLo; split
  · exact pl_lt h
  · rw [infR_val]; omega
theorem rdHi_lt (lo hi : Nat) (h : hi < 18446744073709551616) : rdHi lo hi < 18446744073709551616 := by
  unfold rdHi; split
  · exact pl_lt h
  · rw [minf_val]; omega

end Go.Proofs.Ytmcfflecaklpcaa

/-
  The contracts of the document's own intervals, first part: how patterns stand to each other, how two ends are read. Conditions: those that each theorem names.
-/
namespace Go.Proofs.Ytmcfflecaklpcaa
open Go.RowKit Nm Rn
set_option maxRecDepth 100000
set_option linter.unusedVariables false
set_option linter.unusedSimpArgs false

theorem or_top6 (p : Nat) (h : p < 9223372036854775808) : bits .or .u64 (p : Int) 9223372036854775808 = ((p + 9223372036854775808 : Nat) : Int) := by
  have e : (9223372036854775808 : Int) = ((9223372036854775808 : Nat) : Int) := rfl
  rw [e, u64_or_nat _ _ (by omega) (by omega)]
  congr 1
  rw [Nat.or_comm, nat_join 63 _ _ (by omega) (by omega), Nat.add_comm]

theorem xor_ones (p : Nat) (h : p < 18446744073709551616) : 18446744073709551615 ^^^ p = 18446744073709551615 - p := by
  have h1 : BitVec.allOnes 64 ^^^ BitVec.ofNat 64 p = ~~~(BitVec.ofNat 64 p) := BitVec.allOnes_xor
  have h2 := congrArg BitVec.toNat h1
  rw [BitVec.toNat_xor, BitVec.toNat_not, BitVec.toNat_allOnes, BitVec.toNat_ofNat, Nat.mod_eq_of_lt (show p < 2 ^ 64 by omega)] at h2
  exact h2
theorem not_u64 (p : Nat) (h : p < 18446744073709551616) : bits .xor .u64 IntKind.u64.max (p : Int) = ((18446744073709551615 - p : Nat) : Int) := by
  have e : IntKind.u64.max = ((18446744073709551615 : Nat) : Int) := rfl
  rw [e, u64_xor_nat _ _ (by omega) h, xor_ones p h]

set_option maxHeartbeats 400000 in
theorem key6_any (b : Nat) (w : World) (h : b < 18446744073709551616) :
    Calls Try.prog 174 #[.int .u64 (b : Int)] w fun e w' => e = .returned (.int .u64 (rkey b : Nat)) ∧ w = w' := by
  have hp := plain3_any b w h
  have hpl := plN_lt h
  obtain ⟨p, hpe⟩ : ∃ p, p = plN b := ⟨_, rfl⟩
  rw [← hpe] at hp hpl
  have HP := Lib.hid hp
  clear hp
  by_cases h0 : 9223372036854775808 ≤ p
  · have HF : Hid (((18446744073709551615 - p : Nat) : Int) = (rkey b : Nat)) := Lib.hid (by unfold rkey; rw [← hpe, if_pos h0])
    have h1 : decide ((9223372036854775808 : Int) ≤ (p : Int)) = true := decide_eq_true (by omega)
    have h2 := not_u64 p hpl
    have HPL := Lib.hid hpl
    clear hpe h h0 hpl
    go_enter Try.func174, Try.ntmps174
    go_wp2_with fail
    refine HP.out.mono ?_
    rintro e w1 ⟨rfl, rfl⟩
    go_wp2
    go_ret
    exact ⟨ret_int HF.out, rfl⟩
  · have HF : Hid ((p : Int) + 9223372036854775808 = (rkey b : Nat)) := Lib.hid (by unfold rkey; rw [← hpe, if_neg h0]; omega)
    have h1 : decide ((9223372036854775808 : Int) ≤ (p : Int)) = false := decide_eq_false (by omega)
    have h2 := or_top6 p (by omega)
    clear hpe h h0
    go_enter Try.func174, Try.ntmps174
    go_wp2_with fail
    refine HP.out.mono ?_
    rintro e w1 ⟨rfl, rfl⟩
    go_wp2
    go_ret
    exact ⟨ret_int HF.out, rfl⟩

set_option maxHeartbeats 400000 in
theorem above6_any (x y : Nat) (w : World) (hx : x < 18446744073709551616) (hy : y < 18446744073709551616) :
    Calls Try.prog 151 #[.int .u64 (x : Int), .int .u64 (y : Int)] w fun e w' => e = .returned (.bool (ltB y x)) ∧ w = w' := by
  have hnx := isnan_any x w hx
  have hny := isnan_any y w hy
  have hkx := key6_any x w hx
  have hky := key6_any y w hy
  have hF := (above_lt hx hy).symm
  unfold aboveB at hF
  obtain ⟨K, hK⟩ : ∃ K, K = rkey x := ⟨_, rfl⟩
  obtain ⟨L, hL⟩ : ∃ L, L = rkey y := ⟨_, rfl⟩
  rw [← hK] at hkx hF
  rw [← hL] at hky hF
  have HKX := Lib.hid hkx
  have HKY := Lib.hid hky
  cases h1 : isNaN x <;> cases h2 : isNaN y
  all_goals
    rw [h1] at hnx hF
    rw [h2] at hny hF
    have HF := Lib.hid hF
    have HNX := Lib.hid hnx
    have HNY := Lib.hid hny
    clear hnx hny hkx hky hF hK hL h1 h2 hx hy
    go_enter Try.func151, Try.ntmps151
    go_wp2_with (first | (go_at_call 45; ((with_reducible refine HNX.out.mono ?_); rintro e w' ⟨rfl, rfl⟩)) | (go_at_call 45; ((with_reducible refine HNY.out.mono ?_); rintro e w' ⟨rfl, rfl⟩)) | (go_at_call 174; ((with_reducible refine HKX.out.mono ?_); rintro e w' ⟨rfl, rfl⟩)) | (go_at_call 174; ((with_reducible refine HKY.out.mono ?_); rintro e w' ⟨rfl, rfl⟩)))
    go_ret
    first
    | exact ⟨ret_bool (by rw [HF.out]; simp), rfl⟩
    | exact ⟨ret_bool (by rw [HF.out, Bool.not_false, Bool.true_and, Bool.true_and]; exact decide_eq_decide.2 (by omega)), rfl⟩

set_option maxHeartbeats 400000 in
theorem sound6_any (lo hi : Nat) (w : World) (hl : lo < 18446744073709551616) (hh : hi < 18446744073709551616) :
    Calls Try.prog 116 #[.agg #[.int .u64 (lo : Int), .int .u64 (hi : Int)]] w fun e w' => e = .returned (.bool (sndB lo hi)) ∧ Ext w w' := by
  have hnx := fun w => isnan_any lo w hl
  have hny := fun w => isnan_any hi w hh
  have hab := fun w => above6_any lo hi w hl hh
  have hF := snd_eq hl hh
  unfold sndR at hF
  rw [above_lt hl hh] at hF
  have HI := Lib.hid (show ((lo : Int) != 9218868437227405312) = decide (lo ≠ infR) by rw [infR_val, Bool.eq_iff_iff, bne_iff_ne, decide_eq_true_iff]; omega)
  have HM := Lib.hid (show ((hi : Int) != 18442240474082181120) = decide (hi ≠ minf) by rw [minf_val, Bool.eq_iff_iff, bne_iff_ne, decide_eq_true_iff]; omega)
  obtain ⟨a, ha⟩ : ∃ a, a = decide (lo ≠ infR) := ⟨_, rfl⟩
  obtain ⟨b, hb⟩ : ∃ b, b = decide (hi ≠ minf) := ⟨_, rfl⟩
  rw [← ha] at hF HI
  rw [← hb] at hF HM
  have hI := HI.out
  have hM := HM.out
  have HAB := Lib.hid hab
  clear ha hb HI HM hab
  cases h1 : isNaN lo <;> cases h2 : isNaN hi <;> cases h3 : ltB hi lo <;> cases a <;> cases b
  all_goals
    rw [h1, h2, h3] at hF
    have HF := Lib.hid hF
    have HAB2 := Lib.hid (fun w => h3 ▸ HAB.out w)
    have HNX := Lib.hid (fun w => h1 ▸ hnx w)
    have HNY := Lib.hid (fun w => h2 ▸ hny w)
    clear hnx hny hF h1 h2 h3 hl hh HAB
    go_enter Try.func116, Try.ntmps116
    go_wp2_with (first | (go_at_call 45; ((with_reducible refine (HNX.out _).mono ?_); rintro e w' ⟨rfl, rfl⟩)) | (go_at_call 45; ((with_reducible refine (HNY.out _).mono ?_); rintro e w' ⟨rfl, rfl⟩)) | (go_at_call 151; ((with_reducible refine (HAB2.out _).mono ?_); rintro e w' ⟨rfl, rfl⟩)))
    go_ret
    exact ⟨ret_bool (by rw [HF.out]; rfl), (Ext.refl w).alloc _⟩

/-- A result of two patterns. -/
def RetI (lo hi : Nat) (w : World) (e : Ending) (w' : World) : Prop := e = .returned (.agg #[.int .u64 (lo : Int), .int .u64 (hi : Int)]) ∧ Ext w w'

set_option maxHeartbeats 400000 in
theorem empty6_any (w : World) : Calls Try.prog 76 #[] w (RetI infR minf w) := by
  go_enter Try.func76, Try.ntmps76
  go_wp2
  exact bodyPost_ret (v := .agg #[.int .u64 9218868437227405312, .int .u64 18442240474082181120]) (by simp [results, Try.results76, go_sem]) rfl ⟨rfl, (Ext.refl w).alloc _⟩
set_option maxHeartbeats 400000 in
theorem entire6_any (w : World) : Calls Try.prog 127 #[] w (RetI minf infR w) := by
  go_enter Try.func127, Try.ntmps127
  go_wp2
  exact bodyPost_ret (v := .agg #[.int .u64 18442240474082181120, .int .u64 9218868437227405312]) (by simp [results, Try.results127, go_sem]) rfl ⟨rfl, (Ext.refl w).alloc _⟩

theorem Blk.new2 (w : World) (o : Obj) (t : TypeId) (cs : Array Value) : Blk ((w.alloc o).alloc (.cells cs t)) (w.heap.size + 1) t cs := by
  have := Blk.new (w.alloc o) t cs
  rwa [show (w.alloc o).heap.size = w.heap.size + 1 by simp] at this
theorem plain_rd {lo hi : Nat} (h : sndB lo hi = true) : plN lo = rdLo lo hi ∧ plN hi = rdHi lo hi := by
  obtain ⟨h1, h2⟩ := snd_nan h
  unfold rdLo rdHi
  rw [if_pos h, if_pos h]
  exact ⟨plN_of h1, plN_of h2⟩
theorem empty_rd {lo hi : Nat} (h : sndB lo hi = false) : infR = rdLo lo hi ∧ minf = rdHi lo hi := by
  unfold rdLo rdHi
  rw [if_neg (by simp [h]), if_neg (by simp [h])]
  exact ⟨rfl, rfl⟩

set_option maxHeartbeats 1000000 in
theorem read6_any (lo hi : Nat) (w : World) (hl : lo < 18446744073709551616) (hh : hi < 18446744073709551616) :
    Calls Try.prog 75 #[.agg #[.int .u64 (lo : Int), .int .u64 (hi : Int)]] w (RetI (rdLo lo hi) (rdHi lo hi) w) := by
  have hs := fun w => sound6_any lo hi w hl hh
  have hp1 := fun w => plain3_any lo w hl
  have hp2 := fun w => plain3_any hi w hh
  cases hb : sndB lo hi
  · rw [hb] at hs
    obtain ⟨e1, e2⟩ := empty_rd hb
    rw [← e1, ← e2]
    have HS := Lib.hid hs
    clear hs hp1 hp2 hb e1 e2 hl hh
    go_enter Try.func75, Try.ntmps75
    go_wp2_with fail
    refine (HS.out _).mono ?_
    rintro e w1 ⟨rfl, hE1⟩
    go_wp2_with fail
    refine (empty6_any _).mono ?_
    rintro e w2 ⟨rfl, hE2⟩
    have hE := hE1.trans hE2
    have hblk := (Blk.new2 w (.cells #[.int .u64 (lo : Int), .int .u64 (hi : Int)] 49) 49 #[.int .u64 0, .int .u64 0]).ext hE
    have hEw : Ext w w2 := (((Ext.refl w).alloc _).alloc _).trans hE
    obtain ⟨G, hG⟩ : ∃ G, G = w.heap.size + 1 := ⟨_, rfl⟩
    rw [← hG] at hblk
    rw [← hG]
    have hGw : w.heap.size ≤ G := by omega
    have hGl := hblk.lt
    have q0 : w2.cell? ⟨G, 0, none⟩ = some (.int .u64 0) := hblk.cell 0
    have q1 : w2.cell? ⟨G, 1, none⟩ = some (.int .u64 0) := hblk.cell 1
    have f0 := hblk.frozen 0
    have f1 := hblk.frozen 1
    clear hG hE hE1 hE2
    go_wp2
    exact bodyPost_ret (v := .agg #[.int .u64 (infR : Int), .int .u64 (minf : Int)]) (by simp [results, Try.results75, go_sem, hGl, q0, q1]) rfl ⟨rfl, (hEw.setCell hGw _).setCell hGw _⟩
  · rw [hb] at hs
    obtain ⟨e1, e2⟩ := plain_rd hb
    rw [e1] at hp1
    rw [e2] at hp2
    obtain ⟨a, ha⟩ : ∃ a, a = rdLo lo hi := ⟨_, rfl⟩
    obtain ⟨b, hb'⟩ : ∃ b, b = rdHi lo hi := ⟨_, rfl⟩
    rw [← ha] at hp1 ⊢
    rw [← hb'] at hp2 ⊢
    have HS := Lib.hid hs
    have HP1 := Lib.hid hp1
    have HP2 := Lib.hid hp2
    clear hs hp1 hp2 hb e1 e2 hl hh ha hb'
    go_enter Try.func75, Try.ntmps75
    go_wp2_with fail
    refine (HS.out _).mono ?_
    rintro e w1 ⟨rfl, hE1⟩
    have hblk := (Blk.new2 w (.cells #[.int .u64 (lo : Int), .int .u64 (hi : Int)] 49) 49 #[.int .u64 0, .int .u64 0]).ext hE1
    have hbox := ((Blk.new w 49 #[.int .u64 (lo : Int), .int .u64 (hi : Int)]).ext ((Ext.refl _).alloc (.cells #[.int .u64 0, .int .u64 0] 49))).ext hE1
    have hEw : Ext w w1 := (((Ext.refl w).alloc _).alloc _).trans hE1
    have b0 : w1.cell? ⟨w.heap.size, 0, none⟩ = some (.int .u64 (lo : Int)) := hbox.cell 0
    have b1 : w1.cell? ⟨w.heap.size, 1, none⟩ = some (.int .u64 (hi : Int)) := hbox.cell 1
    obtain ⟨G, hG⟩ : ∃ G, G = w.heap.size + 1 := ⟨_, rfl⟩
    rw [← hG] at hblk
    rw [← hG]
    have hGw : w.heap.size ≤ G := by omega
    have hGl := hblk.lt
    have q0 : w1.cell? ⟨G, 0, none⟩ = some (.int .u64 0) := hblk.cell 0
    have q1 : w1.cell? ⟨G, 1, none⟩ = some (.int .u64 0) := hblk.cell 1
    have f0 := hblk.frozen 0
    have f1 := hblk.frozen 1
    clear hG hE1
    go_wp2_with fail
    refine wp_region_still_tail 7 (by kernel_rfl) (by kernel_rfl) ?_
    simp only [List.take_succ_cons, List.take_zero, List.drop_succ_cons, List.drop_zero]
    still_step
    still_step
    still_call ((HP1.out _).mono fun _ _ h => ⟨h.1, h.2.symm⟩)
    still_step
    still_step
    still_call ((HP2.out _).mono fun _ _ h => ⟨h.1, h.2.symm⟩)
    still_step
    refine wpStill_nil ?_
    change wpList _ _ _ _ _ w1.drew
    go_wp2
    exact bodyPost_ret (v := .agg #[.int .u64 (a : Int), .int .u64 (b : Int)]) (by simp [results, Try.results75, go_sem, hGl, q0, q1]) rfl ⟨rfl, (hEw.drew.setCell hGw _).setCell hGw _⟩
end Go.Proofs.Ytmcfflecaklpcaa
