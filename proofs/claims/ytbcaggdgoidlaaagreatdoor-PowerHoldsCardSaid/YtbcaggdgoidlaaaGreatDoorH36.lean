/-
 The contract of the document's Step, in one. Conditions: those that each theorem names.
-/
import Derived.Test.YtbcaggdgoidlaaaGreatDoorH35
namespace Go.Proofs.YtbcaggdgoidlaaaGreatDoor
open Go.RowKit Nm Rn
set_option maxRecDepth 100000
set_option linter.unusedVariables false
set_option linter.unusedSimpArgs false
def stZ (k : Nat) (s : Bool) (N D : Nat) : Nat := if k = 0 then (if N = 0 then 0 else 1) else stQ k s N D
theorem two_row (w : World) {x g : Nat} (hg : g = w.heap.size) (hx : x < 4294967296) : Wds (w.alloc (.cells #[.int .u32 (x : Int)] 61)) (some ⟨g, 0, none⟩) 1 1 [x] := by
 subst hg
 exact (Row.new w [x]).wds (Ws.cons hx Ws.nil) rfl (Nat.le_refl _) (by unfold maxLen; omega)
theorem half_any (w : World) : Calls Tryz.prog 33 #[.bool false, .slice (some ⟨w.heap.size, 0, none⟩) 1 1, .slice (some ⟨w.heap.size + 1, 0, none⟩) 1 1, .int .i64 0] ((w.alloc (.cells #[.int .u32 1] 61)).alloc (.cells #[.int .u32 2] 61)) (RetR false 1 2 ((w.alloc (.cells #[.int .u32 1] 61)).alloc (.cells #[.int .u32 2] 61))) := by
 have e : (w.alloc (.cells #[.int .u32 1] 61)).heap.size = w.heap.size + 1 := World.size_alloc _ _
 have h1 := (one_wds w rfl).alloc (.cells #[.int .u32 2] 61)
 have h2 := two_row (w.alloc (.cells #[.int .u32 1] 61)) (x := 2) (g := w.heap.size + 1) e.symm (by omega)
 have := frac_any false (some ⟨w.heap.size, 0, none⟩) 1 1 [1] (some ⟨w.heap.size + 1, 0, none⟩) 1 1 [2] 0 ((w.alloc (.cells #[.int .u32 1] 61)).alloc (.cells #[.int .u32 2] 61)) h1 (by omega) h2 (by omega) (by omega) (by omega) (by decide)
 rwa [show nv [1] = 1 from rfl, show nv [2] = 2 from rfl, show fracN 1 2 0 = 1 by decide, show fracD 1 2 0 = 2 by decide, Bool.false_and] at this
theorem rc_half {N D : Nat} (hD : 0 < D) : rc (sbS false false N D (N / D) 1) (sbN false false N D (N / D) 1) (sbD false false N D (N / D) 1) false 1 2 = cmpI ((2 * (N % D) : Nat) : Int) (D : Int) := by
 obtain ⟨p1, e1⟩ := sub_val false false (N := N) (N' := N / D) hD (show 0 < 1 by omega)
 obtain ⟨S, hS⟩ : ∃ S, S = sn (sbS false false N D (N / D) 1) (sbN false false N D (N / D) 1) := ⟨_, rfl⟩
 obtain ⟨d, hd⟩ : ∃ d, d = sbD false false N D (N / D) 1 := ⟨_, rfl⟩
 unfold rc
 rw [← hS, ← hd] at e1
 rw [← hd] at p1
 rw [← hS, ← hd]
 have hsn : ∀ n : Nat, sn false n = (n : Int) := fun n => rfl
 rw [hsn, hsn] at e1
 rw [hsn]
 have hdm := Nat.div_add_mod N D
 have e2 : (N : Int) * ((1 : Nat) : Int) - ((N / D : Nat) : Int) * (D : Int) = ((N % D : Nat) : Int) := by
   rw [← Int.natCast_mul (N / D) D, Nat.mul_comm (N / D) D]
   have : ((D * (N / D) : Nat) : Int) + ((N % D : Nat) : Int) = (N : Int) := by rw [← Int.natCast_add, hdm]
   push_cast at this ⊢
   omega
 rw [e2] at e1
 have hDi : (0 : Int) < (D : Int) := by omega
 have hdi : (0 : Int) < (d : Int) := by omega
 have e3 : S * ((2 : Nat) : Int) * (D : Int) = ((2 * (N % D) : Nat) : Int) * (d : Int) := by
   have : S * ((2 : Nat) : Int) * (D : Int) = 2 * (S * ((D : Int) * ((1 : Nat) : Int))) := by
     push_cast
     simp only [Int.mul_one]
     ac_rfl
   rw [this, e1]
   push_cast
   ac_rfl
 have e4 : ((1 : Nat) : Int) * (d : Int) * (D : Int) = (D : Int) * (d : Int) := by
   push_cast
   simp only [Int.one_mul]
   ac_rfl
 rw [← cmpI_mul hDi, e3, e4, cmpI_mul hdi]
theorem add_one (Q : Nat) : (aNeg false false (Q * 1) (1 * 1) && decide (aMag false false (Q * 1) (1 * 1) ≠ 0)) = false ∧ fracN (aMag false false (Q * 1) (1 * 1)) (1 * 1) 0 = Q + 1 ∧ fracD (aMag false false (Q * 1) (1 * 1)) (1 * 1) 0 = 1 := by
 have e1 : aMag false false (Q * 1) (1 * 1) = Q + 1 := by unfold aMag; simp
 have e2 : aNeg false false (Q * 1) (1 * 1) = false := by unfold aNeg; simp
 rw [e1, e2]
 exact ⟨rfl, (fr_one _).1, (fr_one _).2⟩
set_option maxHeartbeats 4000000 in
theorem step7_any (k : Nat) (s : Bool) (A : Option Addr) (l c0 : Nat) (B : Option Addr) (kk d N D : Nat) (w : World) (hk : k < 6) (h : RatAt w A l c0 B kk d N D) (hD : 0 < D) (hs : N = 0 → s = false) (hN : nw N ≤ 1000) (hDn : nw D ≤ 1000) :
   Calls Tryz.prog 24 #[.int .i64 (k : Int), .agg #[.bool s, .slice A l c0, .slice B kk d]] w (RetR (s && decide (stZ k s N D ≠ 0)) (stZ k s N D) 1 w) := by
 have hNR := fun (t : Bool) (M E : Nat) (hM : nw M ≤ 1073741824) (hE : nw E ≤ 1073741824) => (Lib.hid fun A1 l1 c1 B1 k1 d1 w h => rneg_any t A1 l1 c1 B1 k1 d1 M E w h hM hE : Hid (∀ (A1 : Option Addr) (l1 c1 : Nat) (B1 : Option Addr) (k1 d1 : Nat) w, RatAt w A1 l1 c1 B1 k1 d1 M E → Calls Tryz.prog 21 #[.agg #[.bool t, .slice A1 l1 c1, .slice B1 k1 d1]] w (RetR (!t && decide (M ≠ 0)) M E w)))
 have hFL := fun (t : Bool) => (Lib.hid fun A1 l1 c1 B1 k1 d1 w h => floor7_any t A1 l1 c1 B1 k1 d1 N D w h (by omega) (by omega) hD : Hid (∀ (A1 : Option Addr) (l1 c1 : Nat) (B1 : Option Addr) (k1 d1 : Nat) w, RatAt w A1 l1 c1 B1 k1 d1 N D → Calls Tryz.prog 51 #[.agg #[.bool t, .slice A1 l1 c1, .slice B1 k1 d1]] w (RetR (t && decide (stQ 1 t N D ≠ 0)) (stQ 1 t N D) 1 w)))
 have HSG : Hid (∀ (A1 : Option Addr) (l1 c1 : Nat) (B1 : Option Addr) (k1 d1 : Nat) w, RatAt w A1 l1 c1 B1 k1 d1 N D → Calls Tryz.prog 17 #[.agg #[.bool s, .slice A1 l1 c1, .slice B1 k1 d1]] w fun e w' => e = .returned (.int .i64 (sgnZ s N)) ∧ Ext w w') := Lib.hid (fun A1 l1 c1 B1 k1 d1 w h => by
   have hl := h.lenN
   have := rsign_any s A1 l1 c1 (nd N) B1 k1 d1 w h.1 (by omega)
   rwa [nv_nd] at this)
 have nw1 : nw 1 ≤ 1073741824 := by decide
 have hqb : ∀ q : Nat, q ≤ N + 1 → nw q ≤ 2000 := fun q hq => by
   have h1 : ∀ e : Nat, nw N ≤ e → nw (N + 1) ≤ e + 1 := fun e he => by
     refine (nw_le_iff _ _).2 ?_
     have h2 := lt_pow_nw N
     have h3 : 4294967296 ^ nw N ≤ 4294967296 ^ e := Nat.pow_le_pow_right (by omega) he
     rw [Nat.pow_succ]
     omega
   have h2 := h1 _ hN
   have h3 := nw_mono hq
   omega
 have hc : k = 0 ∨ k = 1 ∨ k = 2 ∨ k = 3 ∨ k = 4 ∨ k = 5 := by omega
 have hQ : N / D ≤ N := Nat.div_le_self N D
 have hz0 : N = 0 → N / D = 0 ∧ N % D = 0 := fun e => by rw [e]; exact ⟨Nat.zero_div D, Nat.zero_mod D⟩
 rcases hc with rfl | rfl | rfl | h345
 · by_cases h0 : N = 0
   · have e : stZ 0 s N D = 0 := by unfold stZ; rw [if_pos rfl, if_pos h0]
     have hsz : sgnZ s N = 0 := by rw [h0]; unfold sgnZ; simp
     rw [hsz] at HSG
     have HIN : Hid (∀ w, Calls Tryz.prog 19 #[.int .i64 0] w (RetR false 0 1 w)) := Lib.hid (fun w => by
       have := int_any 0 w (by omega)
       rwa [(fr_one 0).1, (fr_one 0).2] at this)
     rw [e, show decide ((0 : Nat) ≠ 0) = false from rfl, Bool.and_false]
     exact step_0 s A l c0 B kk d N D w h 0 false 0 HSG HIN
   · have e : stZ 0 s N D = 1 := by unfold stZ; rw [if_pos rfl, if_neg h0]
     rw [e, show decide ((1 : Nat) ≠ 0) = true from rfl, Bool.and_true]
     cases s
     · have hsz : sgnZ false N = 1 := by unfold sgnZ; rw [if_neg h0]; rfl
       rw [hsz] at HSG
       have HIN : Hid (∀ w, Calls Tryz.prog 19 #[.int .i64 1] w (RetR false 1 1 w)) := Lib.hid (fun w => by
         have := int_any 1 w (by omega)
         rwa [(fr_one 1).1, (fr_one 1).2] at this)
       exact step_0 false A l c0 B kk d N D w h 1 false 1 HSG HIN
     · have hsz : sgnZ true N = -1 := by unfold sgnZ; rw [if_neg h0]; rfl
       rw [hsz] at HSG
       exact step_0 true A l c0 B kk d N D w h (-1) true 1 HSG (Lib.hid fun w => intm1_any w)
 · have e : stZ 1 s N D = stQ 1 s N D := by unfold stZ; rw [if_neg (by omega)]
   rw [e]
   exact step_1 s A l c0 B kk d N D w h _ _ (hFL s)
 · have e : stZ 2 s N D = stQ 2 s N D := by unfold stZ; rw [if_neg (by omega)]
   rw [e]
   obtain ⟨t, ht⟩ : ∃ t, t = (!s && decide (N ≠ 0)) := ⟨_, rfl⟩
   have e1 : stQ 1 t N D = stQ 2 s N D := by
     unfold stQ stMo
     rw [if_pos rfl, if_neg (by omega), if_pos rfl, ht]
     by_cases h0 : N = 0
     · rw [(hz0 h0).2]; simp
     · rw [decide_eq_true h0, Bool.and_true]
   have hq : stQ 2 s N D ≤ N + 1 := by
     unfold stQ
     have := Bool.toNat_le (stMo 2 s N D)
     omega
   have h1 := hNR s N D (by omega) (by omega)
   rw [← ht] at h1
   have h2 := hFL t
   rw [e1] at h2
   have h3 := hNR (t && decide (stQ 2 s N D ≠ 0)) (stQ 2 s N D) 1 (by have := hqb _ hq; omega) nw1
   have e2 : (!(t && decide (stQ 2 s N D ≠ 0)) && decide (stQ 2 s N D ≠ 0)) = (s && decide (stQ 2 s N D ≠ 0)) := by
     by_cases hq0 : stQ 2 s N D = 0
     · rw [hq0]; simp
     · rw [decide_eq_true hq0, Bool.and_true, Bool.and_true, Bool.and_true, ht]
       have h0 : N ≠ 0 := fun h0 => hq0 (by
         unfold stQ stMo
         rw [(hz0 h0).1, (hz0 h0).2]
         simp)
       rw [decide_eq_true h0]
       simp
   rw [e2] at h3
   exact step_2 s A l c0 B kk d N D w h t _ _ _ h1 h2 h3
 · -- toward 0, to the nearest
   have e : stZ k s N D = stQ k s N D := by unfold stZ; rw [if_neg (by omega)]
   rw [e]
   have hfl := hFL false
   have q1 : stQ 1 false N D = N / D := by rw [st1]; simp
   rw [q1, Bool.false_and] at hfl
   have hng := hNR true N D (by omega) (by omega)
   rw [show (!true && decide (N ≠ 0)) = false by simp] at hng
   have hvs : ∀ t : Bool, (N = 0 → t = false) → decide (sgnZ t N < 0) = t := fun t ht => by
     unfold sgnZ
     by_cases h0 : N = 0
     · rw [if_pos h0, ht h0]; rfl
     · rw [if_neg h0]
       cases t <;> rfl
   have hv := hvs s hs
   have hqn : ∀ q : Nat, q ≤ N + 1 → ∀ (A1 : Option Addr) (l1 c1 : Nat) (B1 : Option Addr) (k1 d1 : Nat) w, RatAt w A1 l1 c1 B1 k1 d1 q 1 → Calls Tryz.prog 21 #[.agg #[.bool false, .slice A1 l1 c1, .slice B1 k1 d1]] w (RetR (decide (q ≠ 0)) q 1 w) := fun q hq A1 l1 c1 B1 k1 d1 w h => by
     have := rneg_any false A1 l1 c1 B1 k1 d1 q 1 w h (by have := hqb q hq; omega) nw1
     rwa [show (!false && decide (q ≠ 0)) = decide (q ≠ 0) by simp] at this
   by_cases hk3 : k = 3
   · subst hk3
     have q3 : stQ 3 s N D = N / D := by unfold stQ stMo; simp
     rw [q3]
     cases s
     · rw [Bool.false_and]
       exact step_3f A l c0 B kk d N D w h _ hv (N / D) HSG hfl
     · rw [Bool.true_and]
       exact step_3t A l c0 B kk d N D w h _ hv (N / D) _ HSG hng hfl (Lib.hid (hqn _ (by omega)))
   · have hk45 : k = 4 ∨ k = 5 := by omega
     have k0 : ((k : Int) == 0) = false := by rw [beq_eq_false_iff_ne]; omega
     have k1 : ((k : Int) == 1) = false := by rw [beq_eq_false_iff_ne]; omega
     have k2 : ((k : Int) == 2) = false := by rw [beq_eq_false_iff_ne]; omega
     have k3 : ((k : Int) != 3) = true := by rw [bne_iff_ne]; omega
     have hQn : nw (N / D) ≤ 1000 := Nat.le_trans (nw_mono hQ) hN
     have HSB : Hid (∀ (A1 : Option Addr) (l1 c1 : Nat) (B1 : Option Addr) (k1 d1 : Nat) (A2 : Option Addr) (l2 c2 : Nat) (B2 : Option Addr) (k2 d2 : Nat) w, RatAt w A1 l1 c1 B1 k1 d1 N D → RatAt w A2 l2 c2 B2 k2 d2 (N / D) 1 → Calls Tryz.prog 52 #[.agg #[.bool false, .slice A1 l1 c1, .slice B1 k1 d1], .agg #[.bool false, .slice A2 l2 c2, .slice B2 k2 d2]] w (RetR (sbS false false N D (N / D) 1) (sbN false false N D (N / D) 1) (sbD false false N D (N / D) 1) w)) :=
       Lib.hid (fun A1 l1 c1 B1 k1 d1 A2 l2 c2 B2 k2 d2 w g1 g2 => rsubq_any false false A1 l1 c1 B1 k1 d1 N D A2 l2 c2 B2 k2 d2 (N / D) 1 w g1 g2 (by omega) (by omega) (by omega) nw1 (by omega))
     have nw1' : nw 1 ≤ 1000 := by decide
     have z1 := sb_nw (n := false) (m := false) (N := N) (N' := N / D) (D := D) (D' := 1) (b := 1000) hD (by omega) hN hDn hQn nw1'
     have p1 := (sub_val false false (N := N) (N' := N / D) hD (show 0 < 1 by omega)).1
     obtain ⟨c, hc⟩ : ∃ c, c = cmpI ((2 * (N % D) : Nat) : Int) (D : Int) := ⟨_, rfl⟩
     have HRC : Hid (∀ (A1 : Option Addr) (l1 c1 : Nat) (B1 : Option Addr) (k1 d1 : Nat) (A2 : Option Addr) (l2 c2 : Nat) (B2 : Option Addr) (k2 d2 : Nat) w, RatAt w A1 l1 c1 B1 k1 d1 (sbN false false N D (N / D) 1) (sbD false false N D (N / D) 1) → RatAt w A2 l2 c2 B2 k2 d2 1 2 → Calls Tryz.prog 20 #[.agg #[.bool (sbS false false N D (N / D) 1), .slice A1 l1 c1, .slice B1 k1 d1], .agg #[.bool false, .slice A2 l2 c2, .slice B2 k2 d2]] w fun e w' => e = .returned (.int .i64 c) ∧ Ext w w') :=
       Lib.hid (fun A1 l1 c1 B1 k1 d1 A2 l2 c2 B2 k2 d2 w g1 g2 => by
         have := rcmp_any (sbS false false N D (N / D) 1) A1 l1 c1 B1 k1 d1 _ _ false A2 l2 c2 B2 k2 d2 1 2 w g1 g2 (by omega) (by omega) nw1 (by decide) (by omega) (by omega)
         rwa [rc_half hD, ← hc] at this)
     have HBT : Hid (∀ (A1 : Option Addr) (l1 c1 : Nat) w, Wds w A1 l1 c1 (nd (N / D)) → Calls Tryz.prog 53 #[.slice A1 l1 c1, .int .i64 0] w fun e w' => e = .returned (.int .u32 ((N / D % 2 : Nat) : Int)) ∧ w = w') := Lib.hid (fun A1 l1 c1 w h => bit0_any A1 l1 c1 (N / D) w h (by have := h.len; rw [nd_length] at this; omega))
     have HLN : Hid (∀ (A1 : Option Addr) (l1 c1 : Nat) w, Wds w A1 l1 c1 (nd (N / D)) → Calls Tryz.prog 54 #[.slice A1 l1 c1] w fun e w' => e = .returned (.int .i64 (bl (N / D) : Int)) ∧ w = w') := Lib.hid (fun A1 l1 c1 w h => by
       have := len_any A1 l1 c1 (nd (N / D)) w h (by have := h.len; rw [nd_length] at this; omega)
       rwa [nv_nd] at this)
     have HI1 : Hid (∀ w, Calls Tryz.prog 19 #[.int .i64 1] w (RetR false 1 1 w)) := Lib.hid (fun w => by
       have := int_any 1 w (by omega)
       rwa [(fr_one 1).1, (fr_one 1).2] at this)
     have HAD : Hid (∀ (A1 : Option Addr) (l1 c1 : Nat) (B1 : Option Addr) (k1 d1 : Nat) (A2 : Option Addr) (l2 c2 : Nat) (B2 : Option Addr) (k2 d2 : Nat) w, RatAt w A1 l1 c1 B1 k1 d1 (N / D) 1 → RatAt w A2 l2 c2 B2 k2 d2 1 1 → Calls Tryz.prog 55 #[.agg #[.bool false, .slice A1 l1 c1, .slice B1 k1 d1], .agg #[.bool false, .slice A2 l2 c2, .slice B2 k2 d2]] w (RetR false (N / D + 1) 1 w)) :=
       Lib.hid (fun A1 l1 c1 B1 k1 d1 A2 l2 c2 B2 k2 d2 w g1 g2 => by
         have := radd_any false false A1 l1 c1 B1 k1 d1 (N / D) 1 A2 l2 c2 B2 k2 d2 1 1 w g1 g2 (by omega) nw1 nw1 nw1 (by omega)
         rwa [(add_one (N / D)).1, (add_one (N / D)).2.1, (add_one (N / D)).2.2] at this)
     have HFH := Lib.hid half_any
     have HN0 := Lib.hid (hqn (N / D) (by omega))
     have HN1 := Lib.hid (hqn (N / D + 1) (by omega))
     have hu1 : N / D % 2 = 1 → (((N / D % 2 : Nat) : Int) == 1) = true := fun g => by rw [g]; rfl
     have hu0 : ¬ N / D % 2 = 1 → (((N / D % 2 : Nat) : Int) == 1) = false := fun g => by rw [show N / D % 2 = 0 by omega]; rfl
     have hl1 : N / D % 2 = 1 → decide ((0 : Int) < (bl (N / D) : Int)) = true := fun g => decide_eq_true (by
       have : bl (N / D) ≠ 0 := fun h => by rw [bl_eq_zero.1 h] at g; omega
       omega)
     have hmore : stMo k s N D = true ∨ stMo k s N D = false := by cases stMo k s N D <;> simp
     have hst : stMo k s N D = (decide (D < 2 * (N % D)) || (decide (2 * (N % D) = D) && (decide (k = 5) || decide (N / D % 2 = 1)))) := by
       unfold stMo
       rw [if_neg (by omega), if_neg (by omega), if_neg hk3]
     have qT : stMo k s N D = true → stQ k s N D = N / D + 1 := fun g => by unfold stQ; rw [g]; rfl
     have qF : stMo k s N D = false → stQ k s N D = N / D := fun g => by unfold stQ; rw [g]; rfl
     have HU : ((((N / D % 2 : Nat) : Int) == 1) = true ∧ decide ((0 : Int) < (bl (N / D) : Int)) = true) ∨ (((N / D % 2 : Nat) : Int) == 1) = false := by
       by_cases ho : N / D % 2 = 1
       · exact .inl ⟨hu1 ho, hl1 ho⟩
       · exact .inr (hu0 ho)
     rcases Nat.lt_trichotomy D (2 * (N % D)) with g | g | g
     · have hcv : c = 1 := hc.trans (by unfold cmpI; rw [if_neg (by omega), if_pos (by omega)])
       have c1 : decide (0 < c) = true := by rw [hcv]; rfl
       have c2 : (c == 0) = false := by rw [hcv]; rfl
       rw [qT (by rw [hst, decide_eq_true g, Bool.true_or])]
       cases s
       · rw [Bool.false_and]
         exact step_nf_up _ A l c0 B kk d N D w h _ hv (N / D) _ _ _ c _ _ HU k0 k1 k2 k3 (.inl ⟨c1, c2⟩) HSG hfl HSB HFH HRC HBT HLN HI1 HAD
       · rw [Bool.true_and]
         exact step_nt_up _ A l c0 B kk d N D w h _ hv (N / D) _ _ _ c _ _ HU k0 k1 k2 k3 (.inl ⟨c1, c2⟩) _ HSG hng hfl HSB HFH HRC HBT HLN HI1 HAD HN1
     · have hcv : c = 0 := hc.trans (by unfold cmpI; rw [if_neg (by omega), if_neg (by omega)])
       have c1 : decide (0 < c) = false := by rw [hcv]; rfl
       have c2 : (c == 0) = true := by rw [hcv]; rfl
       by_cases h5 : k = 5
       · have k5 : ((k : Int) == 5) = true := by rw [beq_iff_eq]; omega
         rw [qT (by rw [hst, decide_eq_false (show ¬ D < 2 * (N % D) by omega), decide_eq_true g.symm, decide_eq_true h5]; rfl)]
         cases s
         · rw [Bool.false_and]
           exact step_nf_up _ A l c0 B kk d N D w h _ hv (N / D) _ _ _ c _ _ HU k0 k1 k2 k3 (.inr (.inl ⟨c1, c2, k5⟩)) HSG hfl HSB HFH HRC HBT HLN HI1 HAD
         · rw [Bool.true_and]
           exact step_nt_up _ A l c0 B kk d N D w h _ hv (N / D) _ _ _ c _ _ HU k0 k1 k2 k3 (.inr (.inl ⟨c1, c2, k5⟩)) _ HSG hng hfl HSB HFH HRC HBT HLN HI1 HAD HN1
       · have k5 : ((k : Int) == 5) = false := by rw [beq_eq_false_iff_ne]; omega
         by_cases ho : N / D % 2 = 1
         · rw [qT (by rw [hst, decide_eq_false (show ¬ D < 2 * (N % D) by omega), decide_eq_true g.symm, decide_eq_false h5, decide_eq_true ho]; rfl)]
           cases s
           · rw [Bool.false_and]
             exact step_nf_up _ A l c0 B kk d N D w h _ hv (N / D) _ _ _ c _ _ HU k0 k1 k2 k3 (.inr (.inr ⟨c1, c2, k5, hu1 ho⟩)) HSG hfl HSB HFH HRC HBT HLN HI1 HAD
           · rw [Bool.true_and]
             exact step_nt_up _ A l c0 B kk d N D w h _ hv (N / D) _ _ _ c _ _ HU k0 k1 k2 k3 (.inr (.inr ⟨c1, c2, k5, hu1 ho⟩)) _ HSG hng hfl HSB HFH HRC HBT HLN HI1 HAD HN1
         · rw [qF (by rw [hst, decide_eq_false (show ¬ D < 2 * (N % D) by omega), decide_eq_true g.symm, decide_eq_false h5, decide_eq_false ho]; rfl)]
           cases s
           · rw [Bool.false_and]
             exact step_nf_dn _ A l c0 B kk d N D w h _ hv (N / D) _ _ _ c _ _ HU k0 k1 k2 k3 (.inr ⟨c1, c2, k5, hu0 ho⟩) HSG hfl HSB HFH HRC HBT HLN
           · rw [Bool.true_and]
             exact step_nt_dn _ A l c0 B kk d N D w h _ hv (N / D) _ _ _ c _ _ HU k0 k1 k2 k3 (.inr ⟨c1, c2, k5, hu0 ho⟩) _ HSG hng hfl HSB HFH HRC HBT HLN HN0
     · have hcv : c = -1 := hc.trans (by unfold cmpI; rw [if_pos (by omega)])
       have c1 : decide (0 < c) = false := by rw [hcv]; rfl
       have c2 : (c == 0) = false := by rw [hcv]; rfl
       rw [qF (by rw [hst, decide_eq_false (show ¬ D < 2 * (N % D) by omega), decide_eq_false (show ¬ 2 * (N % D) = D by omega)]; rfl)]
       cases s
       · rw [Bool.false_and]
         exact step_nf_dn _ A l c0 B kk d N D w h _ hv (N / D) _ _ _ c _ _ HU k0 k1 k2 k3 (.inl ⟨c1, c2⟩) HSG hfl HSB HFH HRC HBT HLN
       · rw [Bool.true_and]
         exact step_nt_dn _ A l c0 B kk d N D w h _ hv (N / D) _ _ _ c _ _ HU k0 k1 k2 k3 (.inl ⟨c1, c2⟩) _ HSG hng hfl HSB HFH HRC HBT HLN HN0
end Go.Proofs.YtbcaggdgoidlaaaGreatDoor
