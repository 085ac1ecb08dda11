/-
  Plain: what the difference of two ratios is, and how long. Conditions: those that each theorem names.
-/
import Derived.Test.YtfbjeifhpmdjaaaZ10
import Derived.Test.YtfbjeifhpmdjaaaZ37
import Derived.Test.YtfbjeifhpmdjaaaZ11
import Derived.Test.YtfbjeifhpmdjaaaZ24
import Derived.Test.YtfbjeifhpmdjaaaZ27
import Derived.StillTailTactics
import Derived.Test.YtfbjeifhpmdjaaaZ04
import Derived.Test.YtfbjeifhpmdjaaaZ06
import Derived.Test.YtfbjeifhpmdjaaaZ16
import Derived.Test.YtfbjeifhpmdjaaaZ02
set_option linter.unusedVariables false
set_option linter.unusedSimpArgs false
namespace Go.Proofs.Ytfbjeifhpmdjaaa.Rn
open Nm

/-- What RSub answers: its sign, its magnitude. -/
def sbS (n m : Bool) (N D N' D' : Nat) : Bool := aNeg n (!m && decide (N' ≠ 0)) (N * D') (N' * D) && decide (aMag n (!m && decide (N' ≠ 0)) (N * D') (N' * D) ≠ 0)
def sbN (n m : Bool) (N D N' D' : Nat) : Nat := fracN (aMag n (!m && decide (N' ≠ 0)) (N * D') (N' * D)) (D * D') 0
def sbD (n m : Bool) (N D N' D' : Nat) : Nat := fracD (aMag n (!m && decide (N' ≠ 0)) (N * D') (N' * D)) (D * D') 0
theorem sn_turn (m : Bool) (N : Nat) : sn (!m && decide (N ≠ 0)) N = -sn m N := by
  unfold sn
  by_cases h : N = 0
  · subst h; cases m <;> simp
  · rw [decide_eq_true h, Bool.and_true]; cases m <;> simp
theorem sub_val (n m : Bool) {N D N' D' : Nat} (hD : 0 < D) (hD' : 0 < D') : 0 < sbD n m N D N' D' ∧ sn (sbS n m N D N' D') (sbN n m N D N' D') * ((D : Int) * (D' : Int)) = (sn n N * (D' : Int) - sn m N' * (D : Int)) * (sbD n m N D N' D' : Int) := by
  have hp : 0 < D * D' := Nat.mul_pos hD hD'
  refine ⟨fracD_pos _ (by omega), ?_⟩
  unfold sbS sbN sbD
  have hs := sn_sum n (!m && decide (N' ≠ 0)) (N * D') (N' * D)
  obtain ⟨X, hX⟩ : ∃ X, X = aMag n (!m && decide (N' ≠ 0)) (N * D') (N' * D) := ⟨_, rfl⟩
  obtain ⟨z, hz⟩ : ∃ z, z = aNeg n (!m && decide (N' ≠ 0)) (N * D') (N' * D) := ⟨_, rfl⟩
  rw [← hX, ← hz] at hs ⊢
  have h1 := sn_frac (neg := z) (n := X) (d := D * D') (e := 0) (p := 0) (q := 0) rfl
  rw [hs, ← sn_mul, ← sn_mul, sn_turn] at h1
  have e1 : ((D * D' * 2 ^ 0 : Nat) : Int) = (D : Int) * (D' : Int) := by simp
  have e2 : ((2 ^ 0 * fracD X (D * D') 0 : Nat) : Int) = (fracD X (D * D') 0 : Int) := by simp
  rw [e1, e2, Int.neg_mul] at h1
  rw [h1, Int.sub_eq_add_neg]

theorem fracN_le_z (n d : Nat) : fracN n d 0 ≤ n := by
  unfold fracN
  split
  · omega
  · have h1 : ((0 : Int) + tz n - tz d).toNat ≤ tz n := by omega
    have h2 := Nat.pow_le_pow_right (n := 2) (by omega) h1
    have h3 := Nat.mul_le_mul_left (n / 2 ^ tz n) h2
    rwa [tz_div] at h3
theorem fracD_le_z {n d : Nat} (hd : d ≠ 0) : fracD n d 0 ≤ d := by
  unfold fracD
  split
  · omega
  · have h1 : (-((0 : Int) + tz n - tz d)).toNat ≤ tz d := by omega
    have h2 := Nat.pow_le_pow_right (n := 2) (by omega) h1
    have h3 := Nat.mul_le_mul_left (d / 2 ^ tz d) h2
    rwa [tz_div] at h3
/-- Sizes. -/
theorem sb_nw {n m : Bool} {N D N' D' b : Nat} (hD : 0 < D) (hD' : 0 < D') (h1 : nw N ≤ b) (h2 : nw D ≤ b) (h3 : nw N' ≤ b) (h4 : nw D' ≤ b) : nw (sbN n m N D N' D') ≤ 2 * b + 1 ∧ nw (sbD n m N D N' D') ≤ 2 * b := by
  have nm2 : ∀ a c : Nat, nw (a * c) ≤ nw a + nw c := fun a c => by
    refine (nw_le_iff _ _).2 ?_
    rw [Nat.pow_add]
    exact Nat.mul_lt_mul'' (lt_pow_nw a) (lt_pow_nw c)
  have hp : 0 < D * D' := Nat.mul_pos hD hD'
  have a1 := nm2 N D'
  have a2 := nm2 N' D
  have a3 := nm2 D D'
  constructor
  · unfold sbN
    refine Nat.le_trans (nw_mono (fracN_le_z _ _)) ?_
    have hm : aMag n (!m && decide (N' ≠ 0)) (N * D') (N' * D) ≤ N * D' + N' * D := by unfold aMag; split; omega; split <;> omega
    refine Nat.le_trans (nw_mono hm) ?_
    refine (nw_le_iff _ _).2 ?_
    have b1 := lt_pow_nw (N * D')
    have b2 := lt_pow_nw (N' * D)
    have c1 : 4294967296 ^ nw (N * D') ≤ 4294967296 ^ (2 * b) := Nat.pow_le_pow_right (by omega) (by omega)
    have c2 : 4294967296 ^ nw (N' * D) ≤ 4294967296 ^ (2 * b) := Nat.pow_le_pow_right (by omega) (by omega)
    rw [Nat.pow_succ]
    omega
  · unfold sbD
    exact Nat.le_trans (nw_mono (fracD_le_z (show D * D' ≠ 0 by omega))) (by omega)
end Go.Proofs.Ytfbjeifhpmdjaaa.Rn

/-
  Plain: how the ratios that tight compares stand to each other. Conditions: those that each theorem names.
-/
set_option linter.unusedVariables false
set_option linter.unusedSimpArgs false
namespace Go.Proofs.Ytfbjeifhpmdjaaa.Rn
open Nm

/-- A ratio is a number in units of 2^-1074. -/
def Ev (s : Bool) (N D : Nat) (a : Int) : Prop := 0 < D ∧ sn s N * (K74 : Int) = a * (D : Int)
theorem K74_posi : (0 : Int) < (K74 : Int) := by have := K74_pos; omega
theorem ev_bits (b : Nat) : Ev (sg b && decide (mg b ≠ 0)) (fbN b) (fbD b) (endV b) := ⟨fbD_pos b, fb_sv b⟩
theorem fr1024 : fracN 1 1 1024 = 2 ^ 1024 ∧ fracD 1 1 1024 = 1 := by
  obtain ⟨c, hc⟩ : ∃ c : Nat, (c : Int) = 1024 := ⟨1024, rfl⟩
  have hc2 : c = 1024 := by omega
  have ht : tz 1 = 0 := by decide
  constructor
  · rw [← hc, ← hc2]
    unfold fracN
    rw [if_neg (by omega), ht, Nat.pow_zero, Nat.div_one, Nat.one_mul]
    congr 1
  · rw [← hc]
    unfold fracD
    rw [if_neg (by omega), ht, Nat.pow_zero, Nat.div_one, Nat.one_mul, show (-((c : Int) + ((0 : Nat) : Int) - ((0 : Nat) : Int))).toNat = 0 by omega, Nat.pow_zero]
theorem ev_gen (s : Bool) {M V k : Nat} (hV : V = M * k) : sn s M * (k : Int) = (if s then -(V : Int) else (V : Int)) * ((1 : Nat) : Int) := by
  rw [hV]
  cases s
  · simp [sn]
  · simp [sn, Int.neg_mul]
theorem ev_top (s : Bool) : Ev s (fracN 1 1 1024) (fracD 1 1 1024) (if s then -(rv infR : Int) else (rv infR : Int)) := by
  have h1 := fr1024.1
  have h2 := fr1024.2
  have h3 := rv_inf
  generalize fracN 1 1 1024 = A at *
  generalize fracD 1 1 1024 = B at *
  generalize rv infR = V at *
  subst h2
  refine ⟨Nat.one_pos, ev_gen s ?_⟩
  rw [h3, h1]
theorem rc_end {l : Bool} {lN lD : Nat} {a : Int} (h : Ev l lN lD a) (s : Bool) {N D : Nat} (hD : 0 < D) :
    rc l lN lD s N D = cmpI (a * (D : Int)) (sn s N * (K74 : Int)) ∧ rc s N D l lN lD = cmpI (sn s N * (K74 : Int)) (a * (D : Int)) := by
  obtain ⟨h0, h1⟩ := h
  have hl : (0 : Int) < (lD : Int) := by omega
  have e1 : sn l lN * (D : Int) * (K74 : Int) = a * (D : Int) * (lD : Int) := by
    rw [Int.mul_right_comm, h1, Int.mul_right_comm]
  have e2 : sn s N * (lD : Int) * (K74 : Int) = sn s N * (K74 : Int) * (lD : Int) := Int.mul_right_comm _ _ _
  unfold rc
  constructor
  · rw [← cmpI_mul K74_posi, e1, e2, cmpI_mul hl]
  · rw [← cmpI_mul K74_posi, e1, e2, cmpI_mul hl]

theorem rc_mid {l h s : Bool} {lN lD hN hD N D : Nat} {a b : Int} (hl : Ev l lN lD a) (hh : Ev h hN hD b) (h0 : 0 < D) :
    rc (sbS s l N D lN lD) (sbN s l N D lN lD) (sbD s l N D lN lD) (sbS h s hN hD N D) (sbN h s hN hD N D) (sbD h s hN hD N D) = cmpI (2 * (sn s N * (K74 : Int))) ((a + b) * (D : Int)) := by
  obtain ⟨l0, l1⟩ := hl
  obtain ⟨h0', h1⟩ := hh
  obtain ⟨p1, e1⟩ := sub_val s l (N := N) (N' := lN) h0 l0
  obtain ⟨p2, e2⟩ := sub_val h s (N := hN) (N' := N) h0' h0
  unfold rc
  obtain ⟨x1, hx1⟩ : ∃ x, x = sn (sbS s l N D lN lD) (sbN s l N D lN lD) := ⟨_, rfl⟩
  obtain ⟨x2, hx2⟩ : ∃ x, x = sn (sbS h s hN hD N D) (sbN h s hN hD N D) := ⟨_, rfl⟩
  obtain ⟨d1, hd1⟩ : ∃ d, d = sbD s l N D lN lD := ⟨_, rfl⟩
  obtain ⟨d2, hd2⟩ : ∃ d, d = sbD h s hN hD N D := ⟨_, rfl⟩
  rw [← hx1, ← hd1] at e1
  rw [← hx2, ← hd2] at e2
  rw [← hd1] at p1
  rw [← hd2] at p2
  rw [← hx1, ← hx2, ← hd1, ← hd2]
  obtain ⟨σ, hσ⟩ : ∃ σ, σ = sn s N := ⟨_, rfl⟩
  obtain ⟨lam, hlam⟩ : ∃ σ, σ = sn l lN := ⟨_, rfl⟩
  obtain ⟨eta, heta⟩ : ∃ σ, σ = sn h hN := ⟨_, rfl⟩
  rw [← hσ, ← hlam] at e1
  rw [← hσ, ← heta] at e2
  rw [← hlam] at l1
  rw [← heta] at h1
  rw [← hσ]
  clear hx1 hx2 hd1 hd2 hσ hlam heta
  have hK := K74_posi
  have q1 : (0 : Int) < (D : Int) * lD * hD * K74 := Int.mul_pos (Int.mul_pos (Int.mul_pos (by omega) (by omega)) (by omega)) hK
  have q2 : (0 : Int) < (lD : Int) * hD * d1 * d2 := Int.mul_pos (Int.mul_pos (Int.mul_pos (by omega) (by omega)) (by omega)) (by omega)
  have f1 : x1 * (d2 : Int) * ((D : Int) * lD * hD * K74) = (σ * K74 - a * D) * ((lD : Int) * hD * d1 * d2) := by
    have g1 : x1 * (d2 : Int) * ((D : Int) * lD * hD * K74) = x1 * ((D : Int) * lD) * (hD * K74 * d2) := by ac_rfl
    rw [g1, e1]
    have g2 : (σ * (lD : Int) - lam * D) * d1 * (hD * K74 * d2) = (σ * K74) * (lD * hD * d1 * d2) - (lam * K74) * (D * hD * d1 * d2) := by
      rw [Int.sub_mul, Int.sub_mul]
      congr 1 <;> ac_rfl
    rw [g2, l1, Int.sub_mul]
    congr 1
    ac_rfl
  have f2 : x2 * (d1 : Int) * ((D : Int) * lD * hD * K74) = (b * D - σ * K74) * ((lD : Int) * hD * d1 * d2) := by
    have g1 : x2 * (d1 : Int) * ((D : Int) * lD * hD * K74) = x2 * ((hD : Int) * D) * (lD * K74 * d1) := by ac_rfl
    rw [g1, e2]
    have g2 : (eta * (D : Int) - σ * hD) * d2 * (lD * K74 * d1) = (eta * K74) * (D * lD * d1 * d2) - (σ * K74) * (lD * hD * d1 * d2) := by
      rw [Int.sub_mul, Int.sub_mul]
      congr 1 <;> ac_rfl
    rw [g2, h1, Int.sub_mul]
    congr 1
    ac_rfl
  rw [← cmpI_mul q1, f1, f2, cmpI_mul q2]
  unfold cmpI
  rw [Int.add_mul]
  have z1 : σ * (K74 : Int) - a * D < b * D - σ * K74 ↔ 2 * (σ * (K74 : Int)) < a * D + b * D := by omega
  have z2 : b * (D : Int) - σ * K74 < σ * K74 - a * D ↔ a * D + b * D < 2 * (σ * (K74 : Int)) := by omega
  simp only [z1, z2]

end Go.Proofs.Ytfbjeifhpmdjaaa.Rn

/-
  The contracts of the document's ratios, third part: rounding, whole numbers, negatives. Conditions: those that each theorem names.
-/
namespace Go.Proofs.Ytfbjeifhpmdjaaa
open Go.RowKit Nm Rn
set_option maxRecDepth 100000
set_option linter.unusedVariables false
set_option linter.unusedSimpArgs false

theorem Blk.next (w : World) (o : Obj) (t : TypeId) (cs : Array Value) : Blk ((w.alloc o).alloc (.cells cs t)) (w.heap.size + 1) t cs := by
  have := Blk.new (w.alloc o) t cs
  rwa [show (w.alloc o).heap.size = w.heap.size + 1 by simp] at this

/-- Where a ratio's two naturals lie. -/
def RatAt (w : World) (A : Option Addr) (l c : Nat) (B : Option Addr) (k d : Nat) (N D : Nat) : Prop := Wds w A l c (nd N) ∧ Wds w B k d (nd D)
theorem RatAt.ext {w w' : World} {A : Option Addr} {l c : Nat} {B : Option Addr} {k d N D : Nat} (h : RatAt w A l c B k d N D) (he : Ext w w') : RatAt w' A l c B k d N D := ⟨h.1.ext he, h.2.ext he⟩
theorem RatAt.lenN {w : World} {A : Option Addr} {l c : Nat} {B : Option Addr} {k d N D : Nat} (h : RatAt w A l c B k d N D) : l = nw N := by have := h.1.len; rw [nd_length] at this; omega
theorem RatAt.lenD {w : World} {A : Option Addr} {l c : Nat} {B : Option Addr} {k d N D : Nat} (h : RatAt w A l c B k d N D) : k = nw D := by have := h.2.len; rw [nd_length] at this; omega

set_option maxHeartbeats 1000000 in
theorem int_any (v : Nat) (w : World) (hv : v < 9223372036854775808) :
    Calls Try.prog 21 #[.int .i64 (v : Int)] w (RetR false (fracN v 1 0) (fracD v 1 0) w) := by
  have hsm := fun w => small_any (v : Int) w (by omega) (by omega)
  simp only [Int.toNat_natCast] at hsm
  have HSM := Lib.hid hsm
  have hwr : IntKind.u64.wrap (v : Int) = (v : Int) := by simp [IntKind.wrap, IntKind.bits, IntKind.signed]; omega
  have hnn : decide ((v : Int) < 0) = false := decide_eq_false (by omega)
  have hb : nw v ≤ 2 := (nw_le_iff v 2).2 (by omega)
  have HB := Lib.hid hb
  clear hsm hb
  obtain ⟨N, hN⟩ : ∃ N, N = fracN v 1 0 := ⟨_, rfl⟩
  obtain ⟨D, hD⟩ : ∃ D, D = fracD v 1 0 := ⟨_, rfl⟩
  rw [← hN, ← hD]
  have HN := Lib.hid hN
  have HD := Lib.hid hD
  clear hN hD
  go_enter Try.func21, Try.ntmps21
  go_wp2_with fail
  refine (HSM.out _).mono ?_
  rintro e w1 ⟨A1, n1, c1, rfl, h1, hEx1⟩
  have h2 := h1.alloc (.cells #[.int .u32 1] 83)
  have h3 := one_wds w1 rfl
  have hn1 : n1 ≤ 2 := by
    have := h1.len
    rw [nd_length] at this
    have := HB.out
    omega
  have hblk := ((Blk.new w 43 #[.bool false, .slice none 0 0, .slice none 0 0]).ext hEx1).ext ((Ext.refl w1).alloc (.cells #[.int .u32 1] 83))
  have hEx : Ext w (w1.alloc (.cells #[.int .u32 1] 83)) := (((Ext.refl w).alloc _).trans hEx1).alloc _
  have hfr := frac_any false A1 n1 c1 (nd v) (some ⟨w1.heap.size, 0, none⟩) 1 1 [1] 0 (w1.alloc (.cells #[.int .u32 1] 83)) h2 (by omega) h3 (by omega) (by omega) (by omega) (by simp [nv])
  rw [nv_nd, show nv [1] = 1 from rfl, Bool.false_and, ← HN.out, ← HD.out] at hfr
  have HFR := Lib.hid hfr
  clear hfr h3
  go_wp2_with fail
  refine HFR.out.mono ?_
  rintro e w2 ⟨A2, n2, c2, A3, n3, c3, rfl, hr1, hr2, hEx2⟩
  have hblk2 := hblk.ext hEx2
  have hExw := hEx.trans hEx2
  obtain ⟨G0, hG0⟩ : ∃ G0, G0 = w.heap.size := ⟨_, rfl⟩
  rw [← hG0] at hblk2
  rw [← hG0]
  have hGw : w.heap.size ≤ G0 := by omega
  have hGl := hblk2.lt
  have q0 : w2.cell? ⟨G0, 0, none⟩ = some (.bool false) := hblk2.cell 0
  have q1 : w2.cell? ⟨G0, 1, none⟩ = some (.slice none 0 0) := hblk2.cell 1
  have q2 : w2.cell? ⟨G0, 2, none⟩ = some (.slice none 0 0) := hblk2.cell 2
  have f0 := hblk2.frozen 0
  have f1 := hblk2.frozen 1
  have f2 := hblk2.frozen 2
  clear hG0
  go_wp2
  refine bodyPost_ret (v := .agg #[.bool false, .slice A2 n2 c2, .slice A3 n3 c3]) (by simp [results, Try.results21, go_sem, hGl, q0, q1, q2]) rfl ?_
  exact ⟨_, _, _, _, _, _, rfl, hr1.set_box3 hblk2 (noInt3 _ _ _ _ _ _ _) (by simp) (by simp), hr2.set_box3 hblk2 (noInt3 _ _ _ _ _ _ _) (by simp) (by simp), hExw.set3 hGw _ _ _⟩

end Go.Proofs.Ytfbjeifhpmdjaaa

/-
  The contract of the document's comparison of ratios. Conditions: those that each theorem names.
-/
namespace Go.Proofs.Ytfbjeifhpmdjaaa
open Go.RowKit Nm Rn
set_option maxRecDepth 100000
set_option linter.unusedVariables false
set_option linter.unusedSimpArgs false

theorem nw_mul_le (a b : Nat) : nw (a * b) ≤ nw a + nw b := by
  rw [nw_le_iff, Nat.pow_add]
  exact Nat.mul_lt_mul'' ((nw_le_iff a _).1 (Nat.le_refl _)) ((nw_le_iff b _).1 (Nat.le_refl _))
theorem cmpN_int (a b : Nat) : cmpN a b = cmpI (a : Int) b := by
  unfold cmpN cmpI; repeat' split
  all_goals omega
theorem cmpN_rng (a b : Nat) : -1 ≤ cmpN a b ∧ cmpN a b ≤ 1 := by
  unfold cmpN; repeat' split
  all_goals omega
theorem cmpI_neg (a b : Int) : cmpI (-a) (-b) = -cmpI a b := by
  unfold cmpI; repeat' split
  all_goals omega
theorem sgnZ_rng (s : Bool) (n : Nat) : -1 ≤ sgnZ s n ∧ sgnZ s n ≤ 1 := by
  unfold sgnZ; repeat' split
  all_goals omega
theorem sgn_prod (s : Bool) (N D : Nat) (hD : D ≠ 0) : (sgnZ s N = 0 ∧ sn s N * (D : Int) = 0) ∨ (sgnZ s N = 1 ∧ 0 < sn s N * (D : Int) ∧ s = false) ∨ (sgnZ s N = -1 ∧ sn s N * (D : Int) < 0 ∧ s = true) := by
  unfold sgnZ
  by_cases h : N = 0
  · subst h; left; refine ⟨rfl, ?_⟩; unfold sn; cases s <;> simp
  · right
    rw [if_neg h]
    have hp : (0 : Int) < (N : Int) * (D : Int) := Int.mul_pos (by omega) (by omega)
    cases s
    · left; exact ⟨rfl, hp, rfl⟩
    · right; exact ⟨rfl, by show -(N : Int) * (D : Int) < 0; rw [Int.neg_mul]; omega, rfl⟩
theorem rc_lt {s t : Bool} {N D N2 D2 : Nat} (hD : D ≠ 0) (hD2 : D2 ≠ 0) (h : sgnZ s N < sgnZ t N2) : rc s N D t N2 D2 = -1 := by
  unfold rc cmpI
  rcases sgn_prod s N D2 hD2 with h1 | h1 | h1 <;> rcases sgn_prod t N2 D hD with h2 | h2 | h2
  all_goals first | (exfalso; omega) | (rw [if_pos (by omega)])
theorem rc_gt {s t : Bool} {N D N2 D2 : Nat} (hD : D ≠ 0) (hD2 : D2 ≠ 0) (h : sgnZ t N2 < sgnZ s N) : rc s N D t N2 D2 = 1 := by
  unfold rc cmpI
  rcases sgn_prod s N D2 hD2 with h1 | h1 | h1 <;> rcases sgn_prod t N2 D hD with h2 | h2 | h2
  all_goals first | (exfalso; omega) | (rw [if_neg (by omega), if_pos (by omega)])
theorem rc_z {s t : Bool} {N D N2 D2 : Nat} (hD : D ≠ 0) (hD2 : D2 ≠ 0) (h : sgnZ s N = 0) (h' : sgnZ t N2 = 0) : rc s N D t N2 D2 = 0 := by
  unfold rc cmpI
  rcases sgn_prod s N D2 hD2 with h1 | h1 | h1 <;> rcases sgn_prod t N2 D hD with h2 | h2 | h2
  all_goals first | (exfalso; omega) | (rw [if_neg (by omega), if_neg (by omega)])
theorem rc_same {s t : Bool} {N D N2 D2 : Nat} (hD : D ≠ 0) (hD2 : D2 ≠ 0) (h : sgnZ s N ≠ 0) (h' : sgnZ t N2 = sgnZ s N) : rc s N D t N2 D2 = if s then -cmpN (N * D2) (N2 * D) else cmpN (N * D2) (N2 * D) := by
  have hst : s = t := by
    rcases sgn_prod s N D2 hD2 with h1 | h1 | h1 <;> rcases sgn_prod t N2 D hD with h2 | h2 | h2
    all_goals first | (exfalso; omega) | (rw [h1.2.2, h2.2.2])
  subst hst
  unfold rc
  rw [sn_mul, sn_mul, cmpN_int]
  unfold sn
  cases s
  · rfl
  · exact cmpI_neg _ _

set_option maxHeartbeats 4000000 in
theorem rcmp_any (s : Bool) (A : Option Addr) (l c : Nat) (B : Option Addr) (k d N D : Nat) (t : Bool) (A2 : Option Addr) (l2 c2 : Nat) (B2 : Option Addr) (k2 d2 N2 D2 : Nat) (w : World) (h1 : RatAt w A l c B k d N D) (h2 : RatAt w A2 l2 c2 B2 k2 d2 N2 D2)
    (hN : nw N ≤ 1073741824) (hD : nw D ≤ 1073741824) (hN2 : nw N2 ≤ 1073741824) (hD2 : nw D2 ≤ 1073741824) (hp : D ≠ 0) (hp2 : D2 ≠ 0) :
    Calls Try.prog 61 #[.agg #[.bool s, .slice A l c, .slice B k d], .agg #[.bool t, .slice A2 l2 c2, .slice B2 k2 d2]] w fun e w' => e = .returned (.int .i64 (rc s N D t N2 D2)) ∧ Ext w w' := by
  have hlb : l ≤ 1073741824 := by have := h1.lenN; omega
  have hkb : k ≤ 1073741824 := by have := h1.lenD; omega
  have hl2b : l2 ≤ 1073741824 := by have := h2.lenN; omega
  have hk2b : k2 ≤ 1073741824 := by have := h2.lenD; omega
  have hs1 := fun w (h : RatAt w A l c B k d N D) => rsign_any s A l c (nd N) B k d w h.1 (by omega)
  have hs2 := fun w (h : RatAt w A2 l2 c2 B2 k2 d2 N2 D2) => rsign_any t A2 l2 c2 (nd N2) B2 k2 d2 w h.1 (by omega)
  simp only [nv_nd] at hs1 hs2
  have ht1 := fun w (h : RatAt w A l c B k d N D) (h' : RatAt w A2 l2 c2 B2 k2 d2 N2 D2) => times_any A l c (nd N) B2 k2 d2 (nd D2) w h.1 (by omega) h'.2 (by omega)
  have ht2 := fun w (h : RatAt w A l c B k d N D) (h' : RatAt w A2 l2 c2 B2 k2 d2 N2 D2) => times_any A2 l2 c2 (nd N2) B k d (nd D) w h'.1 (by omega) h.2 (by omega)
  simp only [nv_nd] at ht1 ht2
  have sz1 : nw (N * D2) ≤ 2147483648 := by have := nw_mul_le N D2; omega
  have sz2 : nw (N2 * D) ≤ 2147483648 := by have := nw_mul_le N2 D; omega
  have r1 := sgnZ_rng s N
  have r2 := sgnZ_rng t N2
  have e1 := rc_lt (s := s) (t := t) (N := N) (N2 := N2) hp hp2
  have e2 := rc_gt (s := s) (t := t) (N := N) (N2 := N2) hp hp2
  have e3 := rc_z (s := s) (t := t) (N := N) (N2 := N2) hp hp2
  have e4 := rc_same (s := s) (t := t) (N := N) (N2 := N2) hp hp2
  have r3 := cmpN_rng (N * D2) (N2 * D)
  have hcm := fun (w : World) A n c B m d h hn k hm => cmp_any A n c (nd (N * D2)) B m d (nd (N2 * D)) w h hn k hm
  simp only [nv_nd] at hcm
  obtain ⟨x, hx⟩ : ∃ x, x = cmpN (N * D2) (N2 * D) := ⟨_, rfl⟩
  obtain ⟨p, hpp⟩ : ∃ p, p = sgnZ s N := ⟨_, rfl⟩
  obtain ⟨q, hqq⟩ : ∃ q, q = sgnZ t N2 := ⟨_, rfl⟩
  obtain ⟨R, hR⟩ : ∃ R, R = rc s N D t N2 D2 := ⟨_, rfl⟩
  obtain ⟨V1, hV1⟩ : ∃ V, V = N * D2 := ⟨_, rfl⟩
  obtain ⟨V2, hV2⟩ : ∃ V, V = N2 * D := ⟨_, rfl⟩
  rw [← hpp] at hs1 r1 e1 e2 e3 e4
  rw [← hqq] at hs2 r2 e1 e2 e3 e4
  rw [← hR] at e1 e2 e3 e4 ⊢
  rw [← hx] at e4 r3 hcm
  rw [← hV1] at ht1 sz1 hcm
  rw [← hV2] at ht2 sz2 hcm
  have hwr : IntKind.i64.wrap (-x) = -x := by simp [IntKind.wrap, IntKind.bits, IntKind.signed]; omega
  have HS1 := Lib.hid hs1
  have HS2 := Lib.hid hs2
  have HT1 := Lib.hid ht1
  have HT2 := Lib.hid ht2
  have HCM := Lib.hid hcm
  have HSZ := Lib.hid (And.intro sz1 sz2)
  clear hs1 hs2 ht1 ht2 hcm sz1 sz2 hx hpp hqq hR hV1 hV2 hN hD hN2 hD2 hp hp2 hlb hkb hl2b hk2b
  obtain ⟨S, hS⟩ : ∃ S : World → Prop, S = fun wz => Blk wz w.heap.size 43 #[.bool s, .slice A l c, .slice B k d] ∧ Blk wz (w.heap.size + 1) 43 #[.bool t, .slice A2 l2 c2, .slice B2 k2 d2] ∧ RatAt wz A l c B k d N D ∧ RatAt wz A2 l2 c2 B2 k2 d2 N2 D2 ∧ Ext w wz := ⟨_, rfl⟩
  have hSE : ∀ w w', S w → Ext w w' → S w' := fun w w' h1 h2 => by rw [hS] at h1 ⊢; exact ⟨h1.1.ext h2, h1.2.1.ext h2, h1.2.2.1.ext h2, h1.2.2.2.1.ext h2, h1.2.2.2.2.trans h2⟩
  have hS0 : S ((w.alloc (.cells #[.bool s, .slice A l c, .slice B k d] 43)).alloc (.cells #[.bool t, .slice A2 l2 c2, .slice B2 k2 d2] 43)) := by
    have hE : Ext w ((w.alloc (.cells #[.bool s, .slice A l c, .slice B k d] 43)).alloc (.cells #[.bool t, .slice A2 l2 c2, .slice B2 k2 d2] 43)) := ((Ext.refl w).alloc _).alloc _
    rw [hS]; exact ⟨(Blk.new w _ _).ext ((Ext.refl _).alloc _), Blk.next w _ _ _, h1.ext hE, h2.ext hE, hE⟩
  have HS := Lib.hid hS
  have HSE := Lib.hid hSE
  clear hS hSE h1 h2
  have three : q < p ∨ p < q ∨ p = q := by omega
  have HE1 := Lib.hid e1
  have HE2 := Lib.hid e2
  have HE3 := Lib.hid e3
  have HE4 := Lib.hid e4
  clear e1 e2 e3 e4
  have hsr0 := hS0
  rw [HS.out] at hsr0
  go_enter Try.func61, Try.ntmps61
  go_wp2_with fail
  refine (HS1.out _ hsr0.2.2.1).mono ?_
  rintro e w2 ⟨rfl, hE2⟩
  have hS2 := HSE.out _ _ hS0 hE2
  clear hS0 hsr0 hE2
  have hsr2 := hS2
  rw [HS.out] at hsr2
  have b0 : w2.cell? ⟨w.heap.size + 1, 0, none⟩ = some (.bool t) := hsr2.2.1.cell 0
  have b1 : w2.cell? ⟨w.heap.size + 1, 1, none⟩ = some (.slice A2 l2 c2) := hsr2.2.1.cell 1
  have b2 : w2.cell? ⟨w.heap.size + 1, 2, none⟩ = some (.slice B2 k2 d2) := hsr2.2.1.cell 2
  have hrr := hsr2.2.2.2.1
  clear hsr2
  go_wp2_with fail
  refine (HS2.out _ hrr).mono ?_
  rintro e w3 ⟨rfl, hE3⟩
  have hS3 := HSE.out _ _ hS2 hE3
  clear hS2 hE3 hrr b0 b1 b2
  rcases three with h3 | h3 | h3
  · have g1 : decide (p < q) = false := decide_eq_false (by omega)
    have g2 : decide (q < p) = true := decide_eq_true h3
    rw [HS.out] at hS3
    have hEw := hS3.2.2.2.2
    go_wp2
    go_ret
    exact ⟨ret_int (HE2.out h3).symm, hEw⟩
  · have g1 : decide (p < q) = true := decide_eq_true h3
    rw [HS.out] at hS3
    have hEw := hS3.2.2.2.2
    go_wp2
    go_ret
    exact ⟨ret_int (HE1.out h3).symm, hEw⟩
  · subst h3
    have g1 : decide (p < p) = false := decide_eq_false (by omega)
    obtain ⟨sp, hsp⟩ : ∃ sp : Nat → Sp, sp = ofList [det (.pointer (some ⟨w.heap.size, 1, none⟩)), det (.slice A l c), det (.pointer (some ⟨w.heap.size + 1, 2, none⟩)), det (.slice B2 k2 d2), anyOf (fun v wz => ∃ A n c, v = .slice A n c ∧ Wds wz A n c (nd V1)), det (.pointer (some ⟨w.heap.size + 1, 1, none⟩)), det (.slice A2 l2 c2), det (.pointer (some ⟨w.heap.size, 2, none⟩)), det (.slice B k d), anyOf (fun v wz => ∃ A n c, v = .slice A n c ∧ Wds wz A n c (nd V2))] := ⟨_, rfl⟩
    have HSP := Lib.hid hsp
    clear hsp
    have hS4 : S { w3 with drawn := w3.drawn + 1 } := HSE.out _ _ hS3 (Ext.refl w3).drew
    go_wp2_with fail
    refine wp_region_loose 10 S sp (by kernel_rfl) (by kernel_rfl) hS4 HSE.out ?_
    simp only [List.take_succ_cons, List.take_zero, List.drop_succ_cons, List.drop_zero]
    repeat (refine wpX_step (fun K hK => ?_)
            go_simp
            first
            | (refine ⟨by rw [HSP.out]; rfl, hK _ _ ?_⟩
               clear hK K)
            | (refine StepY.det (by rw [HSP.out]; rfl) ?_ ?_
               · intro wz hz hF
                 have hz' := hz
                 rw [HS.out] at hz'
                 have g0 := hz'.1.cell 0
                 have g1 := hz'.1.cell 1
                 have g2 := hz'.1.cell 2
                 have g3 := hz'.2.1.cell 0
                 have g4 := hz'.2.1.cell 1
                 have g5 := hz'.2.1.cell 2
                 simp only [List.getElem?_toArray, List.getElem?_cons_zero, List.getElem?_cons_succ] at g0 g1 g2 g3 g4 g5
                 clear hz' hF
                 go_simp
                 exact ⟨rfl, Ext.refl _⟩
               refine hK _ _ ?_
               clear hK K)
            | (refine StepY.any (by rw [HSP.out]; rfl) ?_ ?_
               · intro wz hz hF
                 have hz' := hz
                 rw [HS.out] at hz'
                 have hx := hz'.2.2.1
                 have hy := hz'.2.2.2.1
                 clear hz'
                 go_simp
                 go_at_call 56
                 first
                 | (with_reducible refine (HT1.out _ hx hy).mono ?_)
                 | (with_reducible refine (HT2.out _ hx hy).mono ?_)
                 rintro e w2 ⟨A1, n1, c1, rfl, hW1, hE1⟩
                 exact ⟨_, rfl, ⟨A1, n1, c1, rfl, hW1⟩, hE1⟩
               intro v
               refine hK _ _ ?_
               clear hK K))
    refine wpX_nil ?_
    intro w5 hz hF
    obtain ⟨wa, ea, A3, n3, c3, hv, hw3⟩ := fact_any (hF 4 (by omega)) (by rw [HSP.out]; rfl)
    obtain ⟨wb, eb, A4, n4, c4, hv', hw4⟩ := fact_any (hF 9 (by omega)) (by rw [HSP.out]; rfl)
    clear hF
    simp only [asFun, List.nil_append, List.cons_append, List.getD_cons_succ, List.getD_cons_zero] at hv hv'
    subst hv hv'
    have hk3 := hw3.ext ea
    have hk4 := hw4.ext eb
    have hl3 : n3 ≤ 2147483648 := by have h1 := hk3.len; have h2 := HSZ.out; rw [nd_length] at h1; omega
    have hl4 : n4 ≤ 2147483648 := by have h1 := hk4.len; have h2 := HSZ.out; rw [nd_length] at h1; omega
    clear ea eb hw3 hw4 HSZ
    go_wp2_with fail
    refine (HCM.out _ _ _ _ _ _ _ hk3 (by omega) hk4 (by omega)).mono ?_
    rintro e w6 ⟨rfl, qn, rfl⟩
    have hS6 := HSE.out _ _ hz ((Ext.refl w5).drewN qn)
    generalize w5.drewN qn = w6 at hS6 ⊢
    rw [HS.out] at hS6
    have hEw := hS6.2.2.2.2
    have b0 : w6.cell? ⟨w.heap.size, 0, none⟩ = some (.bool s) := hS6.1.cell 0
    clear hS6 hz hS4 hS3
    have hz0 : p = 0 ∨ p ≠ 0 := by omega
    rcases hz0 with h0 | h0
    · subst h0
      have hres := HE3.out (by first | trivial | rfl) (by first | trivial | rfl)
      cases s
      all_goals
        go_wp2
        go_ret
        exact ⟨ret_int hres.symm, hEw⟩
    · have g3 : (p == 0) = false := by rw [beq_eq_false_iff_ne]; exact h0
      have hres := HE4.out h0 (by first | trivial | rfl)
      cases s
      all_goals
        go_wp2
        go_ret
        exact ⟨ret_int hres.symm, hEw⟩
end Go.Proofs.Ytfbjeifhpmdjaaa

/-
  The contracts of the document's products of ratios. Conditions: those that each theorem names.
-/
namespace Go.Proofs.Ytfbjeifhpmdjaaa
open Go.RowKit Nm Rn
set_option maxRecDepth 100000
set_option linter.unusedVariables false
set_option linter.unusedSimpArgs false

set_option maxHeartbeats 2000000 in
theorem rmulq_any (n m : Bool) (A : Option Addr) (l c : Nat) (B : Option Addr) (k d N D : Nat) (A' : Option Addr) (l' c' : Nat) (B' : Option Addr) (k' d' N' D' : Nat) (w : World)
    (h : RatAt w A l c B k d N D) (h' : RatAt w A' l' c' B' k' d' N' D') (hN : nw N ≤ 1073741824) (hD : nw D ≤ 1073741824) (hN' : nw N' ≤ 1073741824) (hD' : nw D' ≤ 1073741824) (hp : 0 < D * D') :
    Calls Try.prog 23 #[.agg #[.bool n, .slice A l c, .slice B k d], .agg #[.bool m, .slice A' l' c', .slice B' k' d']] w (RetR ((n != m) && decide (N * N' ≠ 0)) (fracN (N * N') (D * D') 0) (fracD (N * N') (D * D') 0) w) := by
  have hl := h.lenN
  have hk := h.lenD
  have hl' := h'.lenN
  have hk' := h'.lenD
  have hO := ((((Own.start w).add h.1).add h.2).add h'.1).add h'.2
  have hT1 := fun w h h' => times_any A l c (nd N) A' l' c' (nd N') w h (by omega) h' (by omega)
  have hT2 := fun w h h' => times_any B k d (nd D) B' k' d' (nd D') w h (by omega) h' (by omega)
  have e1 := nw_mul2 N N'
  have e2 := nw_mul2 D D'
  have hFR := fun A n1 c B n2 d w (h : Wds w A n1 c (nd (N * N'))) (k : Wds w B n2 d (nd (D * D'))) => frac_any (n != m) A n1 c (nd (N * N')) B n2 d (nd (D * D')) 0 w h (by have := h.len; rw [nd_length] at this; omega) k (by have := k.len; rw [nd_length] at this; omega) (by omega) (by omega) (by rw [nv_nd]; exact hp)
  simp only [nv_nd] at hT1 hT2 hFR
  obtain ⟨P, hP⟩ : ∃ P, P = N * N' := ⟨_, rfl⟩
  obtain ⟨Q, hQ⟩ : ∃ Q, Q = D * D' := ⟨_, rfl⟩
  rw [← hP] at hT1 hFR ⊢
  rw [← hQ] at hT2 hFR ⊢
  obtain ⟨r, hr⟩ : ∃ r, r = (n != m) := ⟨_, rfl⟩
  rw [← hr] at hFR ⊢
  obtain ⟨zz, hzz⟩ : ∃ zz, zz = (r && decide (P ≠ 0)) := ⟨_, rfl⟩
  rw [← hzz] at hFR ⊢
  clear hzz
  have HR := Lib.hid hr.symm
  have HT1 := Lib.hid hT1
  have HT2 := Lib.hid hT2
  have HFR := Lib.hid hFR
  clear hT1 hT2 hFR hP hQ hr h h' hl hk hl' hk' hN hD hN' hD' hp e1 e2
  go_enter Try.func23, Try.ntmps23
  go_wp2_with (first
    | (refine own_box (cs := [.bool n, .slice A l c, .slice B k d]) hO rfl rfl ?_; clear hO; intro ga wa hO)
    | (refine own_box (cs := [.bool m, .slice A' l' c', .slice B' k' d']) hO rfl rfl ?_; clear hO; intro gb wb hO)
    | (refine own_alloc hO zero_rat rfl rfl ?_; clear hO; intro g w1 hO))
  obtain ⟨S, hS⟩ : ∃ S : World → Prop, S = Own w [⟨g, 43, [.bool false, .slice none 0 0, .slice none 0 0]⟩, ⟨gb, 43, [.bool m, .slice A' l' c', .slice B' k' d']⟩, ⟨ga, 43, [.bool n, .slice A l c, .slice B k d]⟩] [⟨B', k', d', nd D'⟩, ⟨A', l', c', nd N'⟩, ⟨B, k, d, nd D⟩, ⟨A, l, c, nd N⟩] := ⟨_, rfl⟩
  have hSE : ∀ w w', S w → Ext w w' → S w' := fun w w' h1 h2 => by rw [hS] at h1 ⊢; exact h1.ext h2
  have hS1 : S w1.drew := by rw [hS]; exact hO.ext (Ext.refl w1).drew
  have HS := Lib.hid hS
  clear hS hO
  obtain ⟨sp, hsp⟩ : ∃ sp : Nat → Sp, sp = ofList [det (.pointer (some ⟨ga, 0, none⟩)), det (.bool n), det (.pointer (some ⟨gb, 0, none⟩)), det (.bool m), det (.bool r),
    det (.pointer (some ⟨ga, 1, none⟩)), det (.slice A l c), det (.pointer (some ⟨gb, 1, none⟩)), det (.slice A' l' c'), anyOf (fun v wz => ∃ A1 n1 c1, v = .slice A1 n1 c1 ∧ Wds wz A1 n1 c1 (nd P)),
    det (.pointer (some ⟨ga, 2, none⟩)), det (.slice B k d), det (.pointer (some ⟨gb, 2, none⟩)), det (.slice B' k' d'), anyOf (fun v wz => ∃ A1 n1 c1, v = .slice A1 n1 c1 ∧ Wds wz A1 n1 c1 (nd Q)),
    anyOf (fun v wz => ∃ A1 n1 c1 A2 n2 c2, v = .agg #[.bool zz, .slice A1 n1 c1, .slice A2 n2 c2] ∧ RatAt wz A1 n1 c1 A2 n2 c2 (fracN P Q 0) (fracD P Q 0))] := ⟨_, rfl⟩
  have HSP := Lib.hid hsp
  clear hsp
  refine wp_region_loose 16 S sp (by kernel_rfl) (by kernel_rfl) hS1 hSE ?_
  simp only [List.take_succ_cons, List.take_zero, List.drop_succ_cons, List.drop_zero]
  iterate 15
    refine wpX_step (fun K hK => ?_)
    go_simp
    first
    | (refine ⟨by rw [HSP.out]; rfl, hK _ _ ?_⟩
       clear hK K)
    | (refine StepY.det (by rw [HSP.out]; rfl) ?_ ?_
       · intro wz hz hF
         rw [HS.out] at hz
         have hf := hz.facts
         simp only [BF, CF, Nat.zero_add, Nat.reduceAdd, and_true] at hf
         have hr := HR.out
         clear hz hF
         go_simp
         first
         | exact ⟨rfl, Ext.refl _⟩
         | exact ⟨by rw [← hr]; rfl, Ext.refl _⟩
       refine hK _ _ ?_
       clear hK K)
    | (refine StepY.any (by rw [HSP.out]; rfl) ?_ ?_
       · intro wz hz hF
         rw [HS.out] at hz
         have h1 := hz.wd 3 rfl
         have h2 := hz.wd 2 rfl
         have h3 := hz.wd 1 rfl
         have h4 := hz.wd 0 rfl
         clear hz
         go_simp
         go_at_call 56
         first
         | (with_reducible refine (HT1.out _ h1 h3).mono ?_)
         | (with_reducible refine (HT2.out _ h2 h4).mono ?_)
         rintro e w2 ⟨A1, n1, c1, rfl, hW1, hE1⟩
         exact ⟨_, rfl, ⟨A1, n1, c1, rfl, hW1⟩, hE1⟩
       intro v
       refine hK _ _ ?_
       clear hK K)
  refine wpX_step (fun K hK => ?_)
  go_simp
  refine StepY.any (by rw [HSP.out]; rfl) ?_ ?_
  · intro wz hz hF
    obtain ⟨wa', ea, A1, n1, c1, hv1, hw1⟩ := hF.any 9 (by kernel_rfl) (by rw [HSP.out]; rfl)
    obtain ⟨wb', eb, A2, n2, c2, hv2, hw2⟩ := hF.any 14 (by kernel_rfl) (by rw [HSP.out]; rfl)
    clear hF
    simp only [asFun, List.nil_append, List.cons_append, List.getD_cons_succ, List.getD_cons_zero] at hv1 hv2
    subst hv1 hv2
    go_simp
    go_at_call 54
    refine (HFR.out _ _ _ _ _ _ _ (hw1.ext ea) (hw2.ext eb)).mono ?_
    rintro e w2 ⟨A3, n3, c3, A4, n4, c4, rfl, hW1, hW2, hE1⟩
    exact ⟨_, rfl, ⟨A3, n3, c3, A4, n4, c4, rfl, hW1, hW2⟩, hE1⟩
  intro v
  refine hK _ _ ?_
  clear hK K
  refine wpX_nil ?_
  intro w3 hz hF
  obtain ⟨w0, e0, A3, n3, c3, A4, n4, c4, hv, hw0⟩ := fact_any (hF 15 (by omega)) (by rw [HSP.out]; rfl)
  clear hF
  simp only [asFun, List.nil_append, List.cons_append, List.getD_cons_succ, List.getD_cons_zero] at hv
  subst hv
  rw [HS.out] at hz
  have hO := (hz.add (hw0.ext e0).1).add (hw0.ext e0).2
  clear hz hw0 e0
  go_wp2_with (refine own_store hO 0 rfl rfl rfl size_rat rfl rfl rfl ?_; clear hO; intro w4 hO)
  exact own_ret hO 0 rfl rfl rfl agg_rat size_rat rfl ⟨_, _, _, _, _, _, rfl, hO.wd 1 rfl, hO.wd 0 rfl, hO.toExt⟩
end Go.Proofs.Ytfbjeifhpmdjaaa
