/-
  Plain: patterns with the sign turned; the negative of an interval. Conditions: those that each theorem names.
-/
import Derived.Test.YtllfcklgljdgeaaZ04
import Derived.Test.YtllfcklgljdgeaaZ05
import Derived.StillTailTactics
import Derived.Test.YtllfcklgljdgeaaZ03
set_option linter.unusedVariables false

namespace Go.Proofs.Ytllfcklgljdgeaa.Rn
open Nm

/-- The sign turned. -/
def ng (b : Nat) : Nat := if sg b then b - 9223372036854775808 else b + 9223372036854775808
theorem ng_lt {b : Nat} (h : b < 18446744073709551616) : ng b < 18446744073709551616 := by
  unfold ng sg; split <;> rename_i h1
  · have := of_decide_eq_true h1; omega
  · have := of_decide_eq_false (Bool.eq_false_iff.2 h1); omega
theorem mg_ng {b : Nat} (h : b < 18446744073709551616) : mg (ng b) = mg b := by
  unfold ng mg sg; split <;> rename_i h1
  · have := of_decide_eq_true h1; omega
  · have := of_decide_eq_false (Bool.eq_false_iff.2 h1); omega
theorem sg_ng {b : Nat} (h : b < 18446744073709551616) : sg (ng b) = !sg b := by
  unfold ng
  by_cases h1 : 9223372036854775808 ≤ b
  · have e : sg b = true := decide_eq_true h1
    rw [e, if_pos rfl]; unfold sg; exact decide_eq_false (by omega)
  · have e : sg b = false := decide_eq_false h1
    rw [e, if_neg (by simp)]; unfold sg; exact decide_eq_true (by omega)
theorem sv_ng {b : Nat} (h : b < 18446744073709551616) : sv (ng b) = -sv b := by
  unfold sv; rw [sg_ng h, mg_ng h]; cases sg b <;> simp
theorem key_ng {b : Nat} (h : b < 18446744073709551616) : key (ng b) = -key b := by
  unfold key; rw [sg_ng h, mg_ng h]; cases sg b <;> simp
theorem ng_xor {b : Nat} (h : b < 18446744073709551616) : b ^^^ 9223372036854775808 = ng b := by
  have e : (9223372036854775808 : Nat) = 2 ^ 63 := by rfl
  unfold ng
  refine Nat.eq_of_testBit_eq fun i => ?_
  rw [Nat.testBit_xor, e, Nat.testBit_two_pow]
  by_cases h1 : sg b = true
  · rw [if_pos h1]
    have h2 := of_decide_eq_true h1
    have e2 : b = 2 ^ 63 + (b - 2 ^ 63) := by omega
    by_cases hi : 63 = i
    · subst hi
      have : (b - 2 ^ 63).testBit 63 = false := Nat.testBit_lt_two_pow (by omega)
      rw [this]
      have : b.testBit 63 = true := by rw [e2, Nat.testBit_two_pow_add_eq, this]; rfl
      rw [this]; simp
    · rw [show decide (63 = i) = false from decide_eq_false hi, Bool.xor_false]
      rcases Nat.lt_or_ge i 63 with h3 | h3
      · conv => lhs; rw [e2]
        exact Nat.testBit_two_pow_add_gt h3 _
      · rw [Nat.testBit_lt_two_pow (Nat.lt_of_lt_of_le h (Nat.pow_le_pow_right (n := 2) (by omega) (show 64 ≤ i by omega)))]
        rw [Nat.testBit_lt_two_pow (Nat.lt_of_lt_of_le (show b - 2 ^ 63 < 2 ^ 64 by omega) (Nat.pow_le_pow_right (by omega) (show 64 ≤ i by omega)))]
  · rw [if_neg h1]
    have h2 := of_decide_eq_false (Bool.eq_false_iff.2 h1)
    rw [Nat.add_comm b]
    by_cases hi : 63 = i
    · subst hi
      rw [Nat.testBit_two_pow_add_eq]
      simp
    · rw [show decide (63 = i) = false from decide_eq_false hi, Bool.xor_false]
      rcases Nat.lt_or_ge i 63 with h3 | h3
      · exact (Nat.testBit_two_pow_add_gt h3 _).symm
      · rw [Nat.testBit_lt_two_pow (Nat.lt_of_lt_of_le h (Nat.pow_le_pow_right (n := 2) (by omega) (show 64 ≤ i by omega)))]
        rw [Nat.testBit_lt_two_pow (Nat.lt_of_lt_of_le (show 2 ^ 63 + b < 2 ^ 64 by omega) (Nat.pow_le_pow_right (by omega) (show 64 ≤ i by omega)))]

/-- The ends of an interval's negative. -/
def ngLo (lo hi : Nat) : Nat := if rdLo lo hi = infR ∧ rdHi lo hi = minf then infR else pl (ng (rdHi lo hi))
def ngHi (lo hi : Nat) : Nat := if rdLo lo hi = infR ∧ rdHi lo hi = minf then minf else pl (ng (rdLo lo hi))

theorem mg_fin {b : Nat} (h : b < 18446744073709551616) (hn : isNaN b = false) (h1 : b ≠ infR) (h2 : b ≠ minf) : mg b < infR := by
  have h3 : ¬ (infR < mg b) := of_decide_eq_false hn
  have e1 := infR_val
  have e2 := minf_val
  unfold mg at h3 ⊢
  omega
theorem fb_ng {b : Nat} (h : b < 18446744073709551616) : fbN (ng b) = fbN b ∧ fbD (ng b) = fbD b := by
  have e := mg_ng h
  unfold mg at e
  have e1 : ng b % 4503599627370496 = b % 4503599627370496 := by omega
  have e2 : ng b / 4503599627370496 % 2048 = b / 4503599627370496 % 2048 := by omega
  unfold fbN fbD fbSig fbExp
  rw [e1, e2]
  exact ⟨rfl, rfl⟩
theorem rnd_ng (d : Int) {b : Nat} (h : b < 18446744073709551616) (hf : mg b < infR) : rnd d (!(sg b && decide (mg b ≠ 0)) && decide (fbN b ≠ 0)) (zr (fbN b) (fbD b)) = pl (ng b) := by
  have h1 := rnd_bits d (ng_lt h) (by rw [mg_ng h]; exact hf)
  rw [sg_ng h, mg_ng h, (fb_ng h).1, (fb_ng h).2] at h1
  rw [← h1]
  congr 1
  have e : decide (fbN b ≠ 0) = decide (mg b ≠ 0) := decide_eq_decide.2 (not_congr (fbN_zero b))
  rw [e]
  cases sg b <;> cases decide (mg b ≠ 0) <;> rfl
theorem rd_ends {lo hi : Nat} (hl : lo < 18446744073709551616) (hh : hi < 18446744073709551616) (h : ¬ (rdLo lo hi = infR ∧ rdHi lo hi = minf)) :
    rdLo lo hi < 18446744073709551616 ∧ rdHi lo hi < 18446744073709551616 ∧ isNaN (rdLo lo hi) = false ∧ isNaN (rdHi lo hi) = false ∧ rdLo lo hi ≠ infR ∧ rdHi lo hi ≠ minf ∧ sndB lo hi = true ∧ key (rdLo lo hi) ≤ key (rdHi lo hi) := by
  cases hs : sndB lo hi
  · exact absurd (by unfold rdLo rdHi; rw [hs]; exact ⟨rfl, rfl⟩) h
  · have hn := snd_nan hs
    have e1 : rdLo lo hi = pl lo := by unfold rdLo; rw [hs]; rfl
    have e2 : rdHi lo hi = pl hi := by unfold rdHi; rw [hs]; rfl
    have hs' := hs
    unfold sndB ltB leB at hs'
    simp only [Bool.and_eq_true, decide_eq_true_eq] at hs'
    have k1 := hs'.1.2.2
    have k2 := hs'.2.2
    have k3 := hs'.1.1.2
    have i1 := infR_val
    have i2 := minf_val
    have kp : ∀ b, key (pl b) = key b := by
      intro b
      unfold pl
      split
      · rename_i hb; subst hb; rfl
      · rfl
    have np : ∀ b, isNaN b = false → isNaN (pl b) = false := by
      intro b hb
      unfold pl
      split
      · rfl
      · exact hb
    rw [e1, e2]
    refine ⟨pl_lt hl, pl_lt hh, np _ hn.1, np _ hn.2, fun hx => ?_, fun hx => ?_, rfl, by rw [kp, kp]; exact k3⟩
    · have := kp lo; rw [hx] at this; omega
    · have := kp hi; rw [hx] at this; omega
end Go.Proofs.Ytllfcklgljdgeaa.Rn

/-
  The contracts of the program's intervals, fifth part: empty, turned, Neg. Conditions: those that each theorem names.
-/
namespace Go.Proofs.Ytllfcklgljdgeaa
open Go.RowKit Nm Rn
set_option maxRecDepth 100000
set_option linter.unusedVariables false
set_option linter.unusedSimpArgs false

set_option maxHeartbeats 1000000 in
theorem iemp_any (lo hi : Nat) (w : World) (hl : lo < 18446744073709551616) (hh : hi < 18446744073709551616) :
    Calls Try.prog 16 #[.agg #[.float .f64 lo, .float .f64 hi]] w fun e w' => e = .returned (.bool (ltB hi lo)) ∧ Ext w w' := by
  have hq := fo_gt hl hh
  obtain ⟨R, hR⟩ : ∃ R, R = ltB hi lo := ⟨_, rfl⟩
  rw [← hR] at hq ⊢
  clear hR hl hh
  go_enter Try.func16, Try.ntmps16
  go_wp2
  go_ret
  exact ⟨ret_bool (by first | rfl | exact hq), (Ext.refl w).alloc _⟩

set_option maxHeartbeats 1000000 in
theorem iturned_any (lo hi : Nat) (w : World) (hl : lo < 18446744073709551616) (hh : hi < 18446744073709551616) :
    Calls Try.prog 53 #[.agg #[.float .f64 lo, .float .f64 hi]] w (RetF (pl (ng hi)) (pl (ng lo)) w) := by
  have hp1 := fun w => iplain_any (ng hi) w (ng_lt hh)
  have hp2 := fun w => iplain_any (ng lo) w (ng_lt hl)
  have n1 : Go.Op.negFloat .f64 hi = ng hi := ng_xor hh
  have n2 : Go.Op.negFloat .f64 lo = ng lo := ng_xor hl
  obtain ⟨a, ha⟩ : ∃ a, a = pl (ng hi) := ⟨_, rfl⟩
  obtain ⟨b, hb⟩ : ∃ b, b = pl (ng lo) := ⟨_, rfl⟩
  obtain ⟨x, hx⟩ : ∃ x, x = ng hi := ⟨_, rfl⟩
  obtain ⟨y, hy⟩ : ∃ y, y = ng lo := ⟨_, rfl⟩
  rw [← ha, ← hx] at hp1
  rw [← hb, ← hy] at hp2
  rw [← hx] at n1
  rw [← hy] at n2
  have u1 : ∀ w, (Go.Op.unary .neg (.float .f64 hi)).run Try.prog w = .ok (.float .f64 x) w := by
    intro w; rw [← n1]; rfl
  have u2 : ∀ w, (Go.Op.unary .neg (.float .f64 lo)).run Try.prog w = .ok (.float .f64 y) w := by
    intro w; rw [← n2]; rfl
  clear n1 n2
  rw [← ha, ← hb]
  have HP1 := Lib.hid hp1
  have HP2 := Lib.hid hp2
  clear hp1 hp2 ha hb hx hy hl hh
  obtain ⟨w1, hw1, hEw, b0, b1, hblk⟩ := two_boxes w 28 28 (.float .f64 lo) (.float .f64 hi) (.float .f64 0) (.float .f64 0)
  go_enter Try.func53, Try.ntmps53
  go_wp2_with fail
  rw [← hw1]
  clear hw1
  obtain ⟨G, hG⟩ : ∃ G, G = w.heap.size + 1 := ⟨_, rfl⟩
  rw [← hG] at hblk
  rw [← hG]
  have hGw : w.heap.size ≤ G := by omega
  have hGl := hblk.lt
  have q0 : w1.cell? ⟨G, 0, none⟩ = some (.float .f64 0) := hblk.cell 0
  have q1 : w1.cell? ⟨G, 1, none⟩ = some (.float .f64 0) := hblk.cell 1
  have f0 := hblk.frozen 0
  have f1 := hblk.frozen 1
  clear hG
  refine wp_region_still_tail 9 (by kernel_rfl) (by kernel_rfl) ?_
  simp only [List.take_succ_cons, List.take_zero, List.drop_succ_cons, List.drop_zero]
  still_step
  still_step
  still_step
  still_call ((HP1.out _).mono fun _ _ h => ⟨h.1, h.2.symm⟩)
  still_step
  still_step
  still_step
  still_call ((HP2.out _).mono fun _ _ h => ⟨h.1, h.2.symm⟩)
  still_step
  refine wpStill_nil ?_
  change wpList _ _ _ _ _ w1.drew
  go_wp2
  exact bodyPost_ret (v := .agg #[.float .f64 a, .float .f64 b]) (by simp [results, Try.results53, go_sem, hGl, q0, q1]) rfl ⟨rfl, (hEw.drew.setCell hGw _).setCell hGw _⟩

/-- Read and written back into the argument's own box. -/
theorem box_set2 {w w2 : World} {H : Nat} {t : TypeId} {x y : Value} (a b : Value) (hb : Blk w2 H t #[x, y]) (hE : Ext w w2) (hH : w.heap.size ≤ H) :
    Blk ((w2.setCell ⟨H, 0, none⟩ a).setCell ⟨H, 1, none⟩ b) H t #[a, b] ∧ Ext w ((w2.setCell ⟨H, 0, none⟩ a).setCell ⟨H, 1, none⟩ b) :=
  ⟨(hb.set_ 0 a).set_ 1 b, (hE.setCell hH _).setCell (by show w.heap.size ≤ H; exact hH) _⟩

set_option maxHeartbeats 2000000 in
theorem ineg_any (lo hi : Nat) (w : World) (hl : lo < 18446744073709551616) (hh : hi < 18446744073709551616) :
    Calls Try.prog 27 #[.agg #[.float .f64 lo, .float .f64 hi]] w (RetF (ngLo lo hi) (ngHi lo hi) w) := by
  have hr := fun w => iread_any lo hi w hl hh
  have key1 : ∃ (a b r1 r2 : Nat) (E : Bool), a = rdLo lo hi ∧ b = rdHi lo hi ∧ (∀ w, Calls Try.prog 16 #[.agg #[.float .f64 a, .float .f64 b]] w fun e w' => e = .returned (.bool E) ∧ Ext w w') ∧ (∀ w, Calls Try.prog 53 #[.agg #[.float .f64 a, .float .f64 b]] w (RetF r1 r2 w)) ∧ ((E = true ∧ ngLo lo hi = a ∧ ngHi lo hi = b) ∨ (E = false ∧ ngLo lo hi = r1 ∧ ngHi lo hi = r2)) := by
    by_cases he : rdLo lo hi = infR ∧ rdHi lo hi = minf
    · refine ⟨infR, minf, _, _, _, he.1.symm, he.2.symm, fun w => iemp_any infR minf w infR_lt minf_lt, fun w => iturned_any infR minf w infR_lt minf_lt, .inl ⟨rfl, ?_, ?_⟩⟩
      · unfold ngLo; rw [if_pos he]
      · unfold ngHi; rw [if_pos he]
    · obtain ⟨g1, g2, g3, g4, g5, g6, _, g8⟩ := rd_ends hl hh he
      refine ⟨_, _, _, _, _, rfl, rfl, fun w => iemp_any _ _ w g1 g2, fun w => iturned_any _ _ w g1 g2, .inr ⟨?_, ?_, ?_⟩⟩
      · unfold ltB
        rw [decide_eq_false (p := key (rdHi lo hi) < key (rdLo lo hi)) (by omega), Bool.and_false]
      · unfold ngLo; rw [if_neg he]
      · unfold ngHi; rw [if_neg he]
  obtain ⟨a, b, r1, r2, E, ha, hb, hem, htu, hcase⟩ := key1
  rw [← ha, ← hb] at hr
  have HR := Lib.hid hr
  have HEM := Lib.hid hem
  have HTU := Lib.hid htu
  clear hr hem htu ha hb hl hh
  rcases hcase with ⟨rfl, e1, e2⟩ | ⟨rfl, e1, e2⟩
  all_goals
    rw [e1, e2]
    clear e1 e2
    go_enter Try.func27, Try.ntmps27
    go_wp2_with fail
    refine (HR.out _).mono ?_
    rintro e w2 ⟨rfl, hE2⟩
    have hbH := ((Blk.new w 28 #[.float .f64 lo, .float .f64 hi]).ext ((Ext.refl _).alloc (.cells #[.float .f64 0, .float .f64 0] 28))).ext hE2
    have hbG := (Blk.new2 w (.cells #[.float .f64 lo, .float .f64 hi] 28) 28 #[.float .f64 0, .float .f64 0]).ext hE2
    have hEw : Ext w w2 := (((Ext.refl w).alloc _).alloc _).trans hE2
    have hbH3 := (box_set2 (.float .f64 a) (.float .f64 b) hbH hEw (Nat.le_refl _)).1
    have hE3 := (box_set2 (.float .f64 a) (.float .f64 b) hbH hEw (Nat.le_refl _)).2
    have hbG3 : Blk ((w2.setCell ⟨w.heap.size, 0, none⟩ (.float .f64 a)).setCell ⟨w.heap.size, 1, none⟩ (.float .f64 b)) (w.heap.size + 1) 28 #[.float .f64 0, .float .f64 0] :=
      (hbG.far (by show w.heap.size + 1 ≠ w.heap.size; omega) _).far (by show w.heap.size + 1 ≠ w.heap.size; omega) _
    have s0 : w2.cell? ⟨w.heap.size, 0, none⟩ = some (.float .f64 lo) := hbH.cell 0
    have s1 : w2.cell? ⟨w.heap.size, 1, none⟩ = some (.float .f64 hi) := hbH.cell 1
    have fs0 := hbH.frozen 0
    have fs1 := hbH.frozen 1
    have hsl := hbH.lt
    obtain ⟨G, hG⟩ : ∃ G, G = w.heap.size + 1 := ⟨_, rfl⟩
    rw [← hG] at hbG3
    rw [← hG]
    have hGw : w.heap.size ≤ G := by omega
    have b0 : ((w2.setCell ⟨w.heap.size, 0, none⟩ (.float .f64 a)).setCell ⟨w.heap.size, 1, none⟩ (.float .f64 b)).cell? ⟨w.heap.size, 0, none⟩ = some (.float .f64 a) := hbH3.cell 0
    have b1 : ((w2.setCell ⟨w.heap.size, 0, none⟩ (.float .f64 a)).setCell ⟨w.heap.size, 1, none⟩ (.float .f64 b)).cell? ⟨w.heap.size, 1, none⟩ = some (.float .f64 b) := hbH3.cell 1
    clear hG hE2 hbG hEw hbH
    go_wp2_with fail
    refine (HEM.out _).mono ?_
    rintro e w4 ⟨rfl, hE4⟩
    have hbH4 := hbH3.ext hE4
    have hbG4 := hbG3.ext hE4
    have hEE := hE3.trans hE4
    clear s0 s1 fs0 fs1 hsl b0 b1 hbH3 hbG3 hE3 hE4
    have b0 : w4.cell? ⟨w.heap.size, 0, none⟩ = some (.float .f64 a) := hbH4.cell 0
    have b1 : w4.cell? ⟨w.heap.size, 1, none⟩ = some (.float .f64 b) := hbH4.cell 1
    have hGl := hbG4.lt
    have q0 : w4.cell? ⟨G, 0, none⟩ = some (.float .f64 0) := hbG4.cell 0
    have q1 : w4.cell? ⟨G, 1, none⟩ = some (.float .f64 0) := hbG4.cell 1
    have f0 := hbG4.frozen 0
    have f1 := hbG4.frozen 1
    clear hbH4
    go_wp2_with fail
  · exact bodyPost_ret (v := .agg #[.float .f64 a, .float .f64 b]) (by simp [results, Try.results27, go_sem, hGl, q0, q1]) rfl ⟨rfl, (hEE.setCell hGw _).setCell hGw _⟩
  · refine (HTU.out _).mono ?_
    rintro e w5 ⟨rfl, hE5⟩
    have hbG5 := hbG4.ext hE5
    have hEF := hEE.trans hE5
    clear hE5 hEE hbG4 q0 q1 f0 f1 hGl b0 b1
    have hGl := hbG5.lt
    have q0 : w5.cell? ⟨G, 0, none⟩ = some (.float .f64 0) := hbG5.cell 0
    have q1 : w5.cell? ⟨G, 1, none⟩ = some (.float .f64 0) := hbG5.cell 1
    have f0 := hbG5.frozen 0
    have f1 := hbG5.frozen 1
    go_wp2
    exact bodyPost_ret (v := .agg #[.float .f64 r1, .float .f64 r2]) (by simp [results, Try.results27, go_sem, hGl, q0, q1]) rfl ⟨rfl, (hEF.setCell hGw _).setCell hGw _⟩
end Go.Proofs.Ytllfcklgljdgeaa

/-
  Plain, over whatever program: what a call owns: its boxes, known whole, and the lists of words that it may read; what a store, a new box or a call leaves of them. Conditions: those that each theorem names.
-/
namespace Go.Proofs.Ytllfcklgljdgeaa
open Go Go.RowKit Nm
set_option linter.unusedVariables false
set_option linter.unusedSimpArgs false

/-- A box of the call's own: its block, its type, its cells. -/
structure Bx where
  g : Nat
  t : TypeId
  cs : List Value
/-- A list of words in memory. -/
structure Sw where
  A : Option Addr
  n : Nat
  c : Nat
  xs : List Nat

def isU : Value → Bool
  | .int .u32 _ => true
  | _ => false

def Own (w0 : World) (L : List Bx) (W : List Sw) (w : World) : Prop :=
  Ext w0 w ∧ (∀ b ∈ L, w0.heap.size ≤ b.g ∧ Blk w b.g b.t b.cs.toArray ∧ b.cs.any isU = false) ∧ (L.map Bx.g).Nodup ∧ ∀ s ∈ W, Wds w s.A s.n s.c s.xs

/-- The cells of a box, one by one. -/
def CF (w : World) (g : Nat) : Nat → List Value → Prop
  | _, [] => True
  | i, v :: vs => w.cell? ⟨g, i, none⟩ = some v ∧ w.frozen? ⟨g, i, none⟩ = false ∧ CF w g (i + 1) vs
def BF (w : World) : List Bx → Prop
  | [] => True
  | b :: L => b.g < w.heap.size ∧ CF w b.g 0 b.cs ∧ BF w L

section
variable {w0 w w' : World} {L : List Bx} {W : List Sw}
theorem CF.of {g : Nat} {t : TypeId} {full : List Value} (h : Blk w g t full.toArray) : ∀ (cs : List Value) (i : Nat), full.drop i = cs → CF w g i cs := by
  intro cs
  induction cs with
  | nil => intro i _; exact trivial
  | cons v vs ih =>
    intro i hi
    have h1 : full[i]? = some v := by
      have : (full.drop i)[0]? = some v := by rw [hi]; rfl
      simpa using this
    refine ⟨?_, h.frozen i, ih (i + 1) ?_⟩
    · rw [h.cell i]; simpa using h1
    · rw [← List.drop_drop, hi]; rfl
theorem BF.of : ∀ {L : List Bx}, (∀ b ∈ L, w0.heap.size ≤ b.g ∧ Blk w b.g b.t b.cs.toArray ∧ b.cs.any isU = false) → BF w L
  | [], _ => trivial
  | b :: L, h => ⟨(h b List.mem_cons_self).2.1.lt, CF.of (h b List.mem_cons_self).2.1 _ 0 rfl, BF.of fun b' hb => h b' (List.mem_cons_of_mem _ hb)⟩
theorem Own.facts (h : Own w0 L W w) : BF w L := BF.of h.2.1
theorem Own.toExt (h : Own w0 L W w) : Ext w0 w := h.1
theorem Own.start (w : World) : Own w [] [] w := ⟨Ext.refl w, (fun b hb => by cases hb), List.nodup_nil, (fun s hs => by cases hs)⟩
theorem Own.ext (h : Own w0 L W w) (e : Ext w w') : Own w0 L W w' :=
  ⟨h.1.trans e, fun b hb => ⟨(h.2.1 b hb).1, (h.2.1 b hb).2.1.ext e, (h.2.1 b hb).2.2⟩, h.2.2.1, fun s hs => (h.2.2.2 s hs).ext e⟩
theorem Own.add {A : Option Addr} {n c : Nat} {xs : List Nat} (h : Own w0 L W w) (k : Wds w A n c xs) : Own w0 L (⟨A, n, c, xs⟩ :: W) w :=
  ⟨h.1, h.2.1, h.2.2.1, fun s hs => by rcases List.mem_cons.1 hs with rfl | hs; exact k; exact h.2.2.2 s hs⟩
theorem Own.wd {A : Option Addr} {n c : Nat} {xs : List Nat} (h : Own w0 L W w) (i : Nat) (hi : W[i]? = some ⟨A, n, c, xs⟩) : Wds w A n c xs :=
  h.2.2.2 _ (List.mem_of_getElem? hi)
theorem Own.blk {g : Nat} {t : TypeId} {cs : List Value} (h : Own w0 L W w) (i : Nat) (hi : L[i]? = some ⟨g, t, cs⟩) : Blk w g t cs.toArray :=
  (h.2.1 _ (List.mem_of_getElem? hi)).2.1
theorem Own.alloc (h : Own w0 L W w) (t : TypeId) (cs : List Value) (hu : cs.any isU = false) : Own w0 (⟨w.heap.size, t, cs⟩ :: L) W (w.alloc (.cells cs.toArray t)) := by
  have e : Ext w (w.alloc (.cells cs.toArray t)) := (Ext.refl w).alloc _
  refine ⟨h.1.trans e, fun b hb => ?_, ?_, fun s hs => (h.2.2.2 s hs).ext e⟩
  · rcases List.mem_cons.1 hb with rfl | hb
    · exact ⟨h.1.size, Blk.new w t _, hu⟩
    · exact ⟨(h.2.1 b hb).1, (h.2.1 b hb).2.1.ext e, (h.2.1 b hb).2.2⟩
  · rw [List.map_cons, List.nodup_cons]
    refine ⟨fun hm => ?_, h.2.2.1⟩
    obtain ⟨b, hb, hg⟩ := List.mem_map.1 hm
    have := (h.2.1 b hb).2.1.lt
    rw [hg] at this
    exact Nat.lt_irrefl _ this

theorem Wds.set_nu {g : Nat} {t : TypeId} {cs : Array Value} {A : Option Addr} {n c : Nat} {xs : List Nat} (h : Wds w A n c xs) (hb : Blk w g t cs) (hcs : ∀ (i : Nat) (x : Int), cs[i]? ≠ some (Value.int .u32 x)) (i : Nat) (u : Value) : Wds (w.setCell ⟨g, i, none⟩ u) A n c xs := by
  refine ⟨h.1, h.2.1, h.2.2.1, h.2.2.2.1, fun hn => ?_⟩
  obtain ⟨ad, e, hlt, hc⟩ := h.2.2.2.2 hn
  have hne : ad.block ≠ g := by
    intro hg
    have hx1 : 0 < xs.length := by have := h.1; omega
    have h1 := hc 0 _ (List.getElem?_eq_getElem hx1)
    have h2 : w.heap[(ad.add 0).block]? = some (.cells cs t (0, 0)) := by rw [block_of_add, hg]; exact hb
    unfold World.cell? at h1
    rw [h2] at h1
    simp only at h1
    split at h1
    · cases h1
    · exact hcs _ _ h1
  refine ⟨ad, e, by simpa [World.setCell] using hlt, fun k x hk => ?_⟩
  rw [← hc k x hk]
  exact World.cell?_of_block (Below.heap_setCell w ⟨g, i, none⟩ u _ (by rw [block_of_add]; exact hne))

theorem any_isU {cs : List Value} (h : cs.any isU = false) : ∀ (i : Nat) (x : Int), cs.toArray[i]? ≠ some (Value.int .u32 x) := by
  intro i x hx
  have h1 : cs[i]? = some (Value.int .u32 x) := by simpa using hx
  have h2 := List.mem_of_getElem? h1
  have : cs.any isU = true := List.any_eq_true.2 ⟨_, h2, rfl⟩
  rw [h] at this; cases this

/-- One cell of one box is written. -/
theorem Own.set (h : Own w0 L W w) (i : Nat) {b : Bx} (hi : L[i]? = some b) (j : Nat) (u : Value) (hu : isU u = false) :
    Own w0 (L.set i ⟨b.g, b.t, b.cs.set j u⟩) W (w.setCell ⟨b.g, j, none⟩ u) := by
  have hbm := List.mem_of_getElem? hi
  obtain ⟨hb0, hb1, hb2⟩ := h.2.1 b hbm
  have hil : i < L.length := (List.getElem?_eq_some_iff.1 hi).1
  have hmap : (L.set i ⟨b.g, b.t, b.cs.set j u⟩).map Bx.g = L.map Bx.g := by
    rw [List.map_set]
    apply List.ext_getElem?
    intro k
    rw [List.getElem?_set]
    split
    · rename_i hk
      subst hk
      rw [List.getElem?_map, hi]
      simp [hil]
    · rfl
  refine ⟨h.1.setCell hb0 u, fun c hc => ?_, by rw [hmap]; exact h.2.2.1, fun s hs => (h.2.2.2 s hs).set_nu hb1 (any_isU hb2) j u⟩
  obtain ⟨k, hk⟩ := List.getElem?_of_mem hc
  rw [List.getElem?_set] at hk
  split at hk
  · rename_i hik
    injection hk with hk
    subst hk
    refine ⟨hb0, ?_, ?_⟩
    · have := hb1.set_ j u
      simpa using this
    · apply Bool.eq_false_iff.2
      intro ha
      obtain ⟨v, hv, hv1⟩ := List.any_eq_true.1 ha
      rcases List.mem_or_eq_of_mem_set hv with hv | rfl
      · have : b.cs.any isU = true := List.any_eq_true.2 ⟨v, hv, hv1⟩
        rw [hb2] at this; cases this
      · rw [hu] at hv1; cases hv1
  · rename_i hik
    have hcm := List.mem_of_getElem? hk
    obtain ⟨hc0, hc1, hc2⟩ := h.2.1 c hcm
    refine ⟨hc0, hc1.far ?_ u, hc2⟩
    intro hg
    have hg' : c.g = b.g := hg
    have n := h.2.2.1
    rw [List.nodup_iff_pairwise_ne, List.pairwise_iff_getElem] at n
    have hkl : k < L.length := (List.getElem?_eq_some_iff.1 hk).1
    have a1 : L[i] = b := (List.getElem?_eq_some_iff.1 hi).2
    have a2 : L[k] = c := (List.getElem?_eq_some_iff.1 hk).2
    rcases Nat.lt_trichotomy i k with h3 | h3 | h3
    · have := n i k (by simpa using hil) (by simpa using hkl) h3
      simp [a1, a2, hg'] at this
    · exact hik h3
    · have := n k i (by simpa using hkl) (by simpa using hil) h3
      simp [a1, a2, hg'] at this

/-- Cells of one box are written, from one place on. -/
def spl : List Value → Nat → List Value → List Value
  | cs, _, [] => cs
  | cs, j, v :: vs => spl (cs.set j v) (j + 1) vs
def setN (w : World) (g : Nat) : Nat → List Value → World
  | _, [] => w
  | j, v :: vs => setN (w.setCell ⟨g, j, none⟩ v) g (j + 1) vs

theorem Own.setN : ∀ (vs : List Value) {w : World} {L : List Bx} (h : Own w0 L W w) (i : Nat) {b : Bx} (hi : L[i]? = some b) (j : Nat) (hu : vs.any isU = false),
    Own w0 (L.set i ⟨b.g, b.t, spl b.cs j vs⟩) W (setN w b.g j vs)
  | [], w, L, h, i, b, hi, j, _ => by
    have : L.set i ⟨b.g, b.t, spl b.cs j []⟩ = L := by
      apply List.ext_getElem?
      intro k
      rw [List.getElem?_set]
      split
      · rename_i hk; subst hk
        have hil : i < L.length := (List.getElem?_eq_some_iff.1 hi).1
        rw [if_pos hil, hi]; rfl
      · rfl
    rw [this]; exact h
  | v :: vs, w, L, h, i, b, hi, j, hu => by
    rw [List.any_cons, Bool.or_eq_false_iff] at hu
    have h1 := h.set i hi j v hu.1
    have hil : i < L.length := (List.getElem?_eq_some_iff.1 hi).1
    have h2 := Own.setN vs h1 i (b := ⟨b.g, b.t, b.cs.set j v⟩) (by simp [hil]) (j + 1) hu.2
    rw [List.set_set] at h2
    exact h2
end

section
variable {P : Program} {ops : Array Oper} {Q : Exit → Act → World → Prop} {a : Act} {w w0 : World} {rest : List Oper} {L : List Bx} {W : List Sw} {T ty : TypeId} {ps : String} {af : Array Edge} {x y : Operand} {d : Tmp}

theorem wpList_of_run {o : Oper} (hg : o.guard = none) {v : Value} {w' : World} (hr : (execOp a.eval o).run P w = .ok (.value v) w') (h : wpList P ops Q rest (a.put o.dst v) w') : wpList P ops Q (o :: rest) a w := by
  refine wpList_plain hg fun K hK => ?_
  unfold Oper.wp
  rw [hr]
  exact hK _ _ h
theorem wpList_of_skip {o : Oper} (hg : o.guard = none) {w' : World} (hr : (execOp a.eval o).run P w = .ok .skip w') (h : wpList P ops Q rest (a.put o.dst undef) w') : wpList P ops Q (o :: rest) a w := by
  refine wpList_plain hg fun K hK => ?_
  unfold Oper.wp
  rw [hr]
  exact hK _ _ h

/-- A value is put into a box of its own. -/
theorem own_box (hO : Own w0 L W w) {cs : List Value} (hcs : (a.eval x).cells = cs.toArray) (hu : cs.any isU = false)
    (h : ∀ g w', Own w0 (⟨g, T, cs⟩ :: L) W w' → wpList P ops Q rest (a.put (some d) (.pointer (some ⟨g, 0, none⟩))) w') :
    wpList P ops Q ({ dst := some d, op := .box T x, type := ty, pos := ps, after := af, guard := none } :: rest) a w := by
  refine wpList_of_run rfl ?_ (h _ _ (hO.alloc T cs hu))
  simp [execOp, Instr.box, newVar, newRow, hcs]

/-- A new box of a type. -/
theorem own_alloc (hO : Own w0 L W w) {z : Value} (hz : ∀ w, (zeroValue T).run P w = .ok z w) {cs : List Value} (hcs : z.cells = cs.toArray) (hu : cs.any isU = false)
    (h : ∀ g w', Own w0 (⟨g, T, cs⟩ :: L) W w' → wpList P ops Q rest (a.put (some d) (.pointer (some ⟨g, 0, none⟩))) w') :
    wpList P ops Q ({ dst := some d, op := .alloc T, type := ty, pos := ps, after := af, guard := none } :: rest) a w := by
  refine wpList_of_run rfl ?_ (h _ _ (hO.alloc T cs hu))
  simp [execOp, Instr.alloc, newVar, newRow, hcs, hz]

theorem run_storeCells : ∀ (vs : List Value) (w : World) (g off i : Nat) (t : TypeId) (cs : List Value), Blk w g t cs.toArray → off + i + vs.length ≤ cs.length → vs.all Value.oneCell' = true →
    (storeCells ⟨g, off, none⟩ vs i).run P w = .ok () (setN w g (off + i) vs)
  | [], w, g, off, i, t, cs, _, _, _ => by simp [storeCells, setN]
  | v :: vs, w, g, off, i, t, cs, hb, hl, h1 => by
    rw [List.all_cons, Bool.and_eq_true] at h1
    rw [List.length_cons] at hl
    have hadd : (⟨g, off, none⟩ : Addr).add i = ⟨g, off + i, none⟩ := Addr.add_lit g off i
    have hc : w.cell? ⟨g, off + i, none⟩ = some (cs[off + i]'(by omega)) := by rw [hb.cell]; simp
    have hf := hb.frozen (off + i)
    have hb2 := hb.set_ (off + i) v
    have ih := run_storeCells vs (w.setCell ⟨g, off + i, none⟩ v) g off (i + 1) t (cs.set (off + i) v) (by simpa using hb2) (by simp; omega) h1.2
    simp only [storeCells, hadd, Sem.run_bind, run_store P w _ v _ h1.1, hc, hf, Bool.false_eq_true, if_false, Result.andThen, ih]
    rfl

/-- A store into one of the boxes. -/
theorem own_store (hO : Own w0 L W w) (i : Nat) {b : Bx} (hb : L[i]? = some b) {off : Nat} (hx : a.eval x = .pointer (some ⟨b.g, off, none⟩)) {vs : List Value} (hvs : (a.eval y).cells = vs.toArray)
    (hsz : ∀ w, (sizeOf T).run P w = .ok vs.length w) (h1 : vs.all Value.oneCell' = true) (hu : vs.any isU = false) (hle : Nat.ble (off + vs.length) b.cs.length = true)
    (h : ∀ w', Own w0 (L.set i ⟨b.g, b.t, spl b.cs off vs⟩) W w' → wpList P ops Q rest a w') :
    wpList P ops Q ({ dst := none, op := .store T x y, type := ty, pos := ps, after := af, guard := none } :: rest) a w := by
  refine wpList_of_skip rfl ?_ (h _ (hO.setN vs i hb off hu))
  have hB := (hO.2.1 b (List.mem_of_getElem? hb)).2.1
  have := run_storeCells (P := P) vs w b.g off 0 b.t b.cs hB (by have := Nat.le_of_ble_eq_true hle; omega) h1
  simp [execOp, Instr.storeAt, hx, Instr.sureAddr, storeVar, hvs, hsz, this]

theorem run_loadCells {g off : Nat} {t : TypeId} {cs : List Value} (hb : Blk w g t cs.toArray) : ∀ (n i : Nat) (acc : Array Value), off + i + n ≤ cs.length →
    (loadCellsFrom ⟨g, off, none⟩ i n acc).run P w = .ok (acc ++ ((cs.drop (off + i)).take n).toArray) w
  | 0, i, acc, _ => by simp [loadCellsFrom]
  | n + 1, i, acc, hl => by
    have hadd : (⟨g, off, none⟩ : Addr).add i = ⟨g, off + i, none⟩ := Addr.add_lit g off i
    have hc : w.cell? ⟨g, off + i, none⟩ = some (cs[off + i]'(by omega)) := by rw [hb.cell]; simp
    have ih := run_loadCells (off := off) hb n (i + 1) (acc.push (cs[off + i]'(by omega))) (by omega)
    simp only [loadCellsFrom, hadd, Sem.run_bind, run_load, hc, Result.andThen, ih]
    congr 1
    rw [List.drop_eq_getElem_cons (show off + i < cs.length by omega), List.take_succ_cons, show off + (i + 1) = off + i + 1 by omega]
    apply Array.toList_inj.1
    simp
theorem run_loadBox {g : Nat} {t : TypeId} {cs : List Value} (hb : Blk w g t cs.toArray) (hag : (isAgg T).run P w = .ok true w) (hsz : (sizeOf T).run P w = .ok cs.length w) :
    (loadVar T ⟨g, 0, none⟩).run P w = .ok (.agg cs.toArray) w := by
  have := run_loadCells (P := P) (off := 0) hb cs.length 0 #[] (by omega)
  simp [loadVar, hag, hsz, loadCells, this]

/-- The end of a walk whose result lies in a box. -/
theorem own_ret {fn : Func} {R : Ending → World → Prop} (hO : Own w0 L W w) (i : Nat) {g : Nat} {t : TypeId} {cs : List Value} (hb : L[i]? = some ⟨g, t, cs⟩) (hr : fn.results = #[.cell d T]) (ha : a.tmps.getD d undef = .pointer (some ⟨g, 0, none⟩))
    (hag : ∀ w, (isAgg T).run P w = .ok true w) (hsz : ∀ w, (sizeOf T).run P w = .ok cs.length w) (hd : a.defers = []) (hR : R (.returned (.agg cs.toArray)) w) : bodyPost P fn R .ret a w := by
  have h1 := run_loadBox (P := P) (hO.blk i hb) (hag w) (hsz w)
  refine bodyPost_ret (v := .agg cs.toArray) ?_ hd hR
  rw [Array.getD_eq_getD_getElem?] at ha
  simp [results, hr, ha, asAddr, h1]
end

/-- A slice from its head on: the same place. -/
@[go_sem high] theorem sliced_zero (a : Option Addr) (h m s : Nat) : sliced a 0 h m s = .slice a h m := by
  unfold sliced
  simp only [Nat.zero_mul, Nat.sub_zero]
  congr 1
  split
  · rfl
  · cases a <;> simp [Addr.add]
end Go.Proofs.Ytllfcklgljdgeaa
