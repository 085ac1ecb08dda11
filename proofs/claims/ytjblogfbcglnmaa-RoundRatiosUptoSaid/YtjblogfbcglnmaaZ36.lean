/-
  The contracts of the document's Ratio and Of. Conditions: those that each theorem names.
-/
import Derived.Test.YtjblogfbcglnmaaZ21
import Derived.Test.YtjblogfbcglnmaaZ35
import Derived.Test.YtjblogfbcglnmaaZ28
import Derived.Test.YtjblogfbcglnmaaZ07
import Derived.Test.YtjblogfbcglnmaaZ22
namespace Go.Proofs.Ytjblogfbcglnmaa
open Go.RowKit Nm Rn
set_option maxRecDepth 100000
set_option linter.unusedVariables false
set_option linter.unusedSimpArgs false

/-- A ratio, reduced and rounded. -/
def rat0 (d : Int) (neg : Bool) (n m : Nat) (e : Int) : Nat := rnd d (neg && decide (n ≠ 0)) (zr (fracN n m e) (fracD n m e))
/-- What the document's Ratio answers. -/
def ratR (d : Int) (neg : Bool) (N M : Nat) (e : Int) : Nat :=
  if 16384 < nw N ∨ 16384 < nw M then NaNc
  else if M = 0 then (if N = 0 then NaNc else infP neg)
  else if 2000 - ((bl N : Int) - bl M) < e then rat0 d neg (if N = 0 then 0 else 1) 1 2000
  else if e < -2000 - ((bl N : Int) - bl M) then rat0 d neg (if N = 0 then 0 else 1) 1 (-2000)
  else rat0 d neg N M e

-- the walks
set_option maxHeartbeats 1000000 in
theorem ratio_l1 (d : Int) (neg : Bool) (A : Option Addr) (n c : Nat) (xs : List Nat) (B : Option Addr) (m dd : Nat) (ys : List Nat) (ex : Int) (w : World) (h : Wds w A n c xs) (hn : n ≤ 17592186044416) (k : Wds w B m dd ys) (hm : m ≤ 17592186044416) (h1 : 16384 < nw (nv xs)) :
    Calls Try.prog 34 #[.int .i64 d, .bool neg, .slice A n c, .slice B m dd, .int .i64 ex] w fun e w' => e = .returned (.int .u64 (NaNc : Nat)) ∧ Ext w w' := by
  have hL1 := fun w h => long_any A n c xs w h (by omega)
  have hL2 := fun w h => long_any B m dd ys w h (by omega)
  have hN1 := fun w h => norm_any A n c xs w h (by omega)
  have hN2 := fun w h => norm_any B m dd ys w h (by omega)
  rw [decide_eq_true h1] at hL1
  have HL1 := Lib.hid hL1
  have HL2 := Lib.hid hL2
  have HV : Hid ((9221120237041090561 : Int) = (NaNc : Nat)) := Lib.hid rfl
  clear hL1 hL2 hN1 hN2 h1 hn hm
  go_enter Try.func34, Try.ntmps34
  go_wp2_with (first | (go_at_call 84; ((with_reducible refine (HL1.out _ h).mono ?_); rintro e w' ⟨rfl, rfl⟩)) | (go_at_call 84; ((with_reducible refine (HL2.out _ k).mono ?_); rintro e w' ⟨rfl, rfl⟩)))
  go_ret
  exact ⟨ret_int HV.out, Ext.refl _⟩

set_option maxHeartbeats 1000000 in
theorem ratio_l2 (d : Int) (neg : Bool) (A : Option Addr) (n c : Nat) (xs : List Nat) (B : Option Addr) (m dd : Nat) (ys : List Nat) (ex : Int) (w : World) (h : Wds w A n c xs) (hn : n ≤ 17592186044416) (k : Wds w B m dd ys) (hm : m ≤ 17592186044416) (h1 : ¬ 16384 < nw (nv xs)) (h2 : 16384 < nw (nv ys)) :
    Calls Try.prog 34 #[.int .i64 d, .bool neg, .slice A n c, .slice B m dd, .int .i64 ex] w fun e w' => e = .returned (.int .u64 (NaNc : Nat)) ∧ Ext w w' := by
  have hL1 := fun w h => long_any A n c xs w h (by omega)
  have hL2 := fun w h => long_any B m dd ys w h (by omega)
  have hN1 := fun w h => norm_any A n c xs w h (by omega)
  have hN2 := fun w h => norm_any B m dd ys w h (by omega)
  rw [decide_eq_false h1] at hL1
  rw [decide_eq_true h2] at hL2
  have HL1 := Lib.hid hL1
  have HL2 := Lib.hid hL2
  have HV : Hid ((9221120237041090561 : Int) = (NaNc : Nat)) := Lib.hid rfl
  clear hL1 hL2 hN1 hN2 h1 h2 hn hm
  go_enter Try.func34, Try.ntmps34
  go_wp2_with (first | (go_at_call 84; ((with_reducible refine (HL1.out _ h).mono ?_); rintro e w' ⟨rfl, rfl⟩)) | (go_at_call 84; ((with_reducible refine (HL2.out _ k).mono ?_); rintro e w' ⟨rfl, rfl⟩)))
  go_ret
  exact ⟨ret_int HV.out, Ext.refl _⟩

set_option maxHeartbeats 1000000 in
theorem ratio_z0 (d : Int) (neg : Bool) (A : Option Addr) (n c : Nat) (xs : List Nat) (B : Option Addr) (m dd : Nat) (ys : List Nat) (ex : Int) (w : World) (h : Wds w A n c xs) (hn : n ≤ 17592186044416) (k : Wds w B m dd ys) (hm : m ≤ 17592186044416) (h1 : ¬ 16384 < nw (nv xs)) (h2 : ¬ 16384 < nw (nv ys)) (h3 : nv ys = 0) (h4 : nv xs = 0) :
    Calls Try.prog 34 #[.int .i64 d, .bool neg, .slice A n c, .slice B m dd, .int .i64 ex] w fun e w' => e = .returned (.int .u64 (NaNc : Nat)) ∧ Ext w w' := by
  have hL1 := fun w h => long_any A n c xs w h (by omega)
  have hL2 := fun w h => long_any B m dd ys w h (by omega)
  have hN1 := fun w h => norm_any A n c xs w h (by omega)
  have hN2 := fun w h => norm_any B m dd ys w h (by omega)
  rw [decide_eq_false h1] at hL1
  rw [decide_eq_false h2] at hL2
  obtain ⟨N, hN⟩ : ∃ N, N = nv xs := ⟨_, rfl⟩
  obtain ⟨M, hM⟩ : ∃ M, M = nv ys := ⟨_, rfl⟩
  rw [← hN] at hN1 h1 h4
  rw [← hM] at hN2 h2 h3
  try rw [← hN]
  try rw [← hM]
  have HL1 := Lib.hid hL1
  have HL2 := Lib.hid hL2
  have HN1 := Lib.hid hN1
  have HN2 := Lib.hid hN2
  have hln : ∀ w A l c V, Wds w A l c (nd V) → l = nw V := fun w A l c V hw => by have := hw.len; rw [nd_length] at this; omega
  have HV : Hid ((9221120237041090561 : Int) = (NaNc : Nat)) := Lib.hid rfl
  clear hL1 hL2 hN1 hN2 hn hm
  go_enter Try.func34, Try.ntmps34
  go_wp2_with (first | (go_at_call 84; ((with_reducible refine (HL1.out _ h).mono ?_); rintro e w' ⟨rfl, rfl⟩)) | (go_at_call 84; ((with_reducible refine (HL2.out _ k).mono ?_); rintro e w' ⟨rfl, rfl⟩)))
  refine (HN1.out _ h).mono ?_
  rintro e w1 ⟨A1, n1, c1, rfl, hA1, hE1⟩
  go_wp2_with fail
  refine (HN2.out _ (k.ext hE1)).mono ?_
  rintro e w2 ⟨B1, m1, d1, rfl, hB1, hE2⟩
  have hA1 := hA1.ext hE2
  have z1 := hln _ _ _ _ _ hA1
  have z2 := hln _ _ _ _ _ hB1
  have q1 : ((m1 : Int) == 0) = true := by rw [z2, h3, nw_zero]; rfl
  have q2 : ((n1 : Int) == 0) = true := by rw [z1, h4, nw_zero]; rfl
  clear z1 z2 h3 h4 h1 h2 hN hM hln
  go_wp2
  go_ret
  exact ⟨ret_int HV.out, hE1.trans hE2⟩

set_option maxHeartbeats 1000000 in
theorem ratio_z1 (d : Int) (neg : Bool) (A : Option Addr) (n c : Nat) (xs : List Nat) (B : Option Addr) (m dd : Nat) (ys : List Nat) (ex : Int) (w : World) (h : Wds w A n c xs) (hn : n ≤ 17592186044416) (k : Wds w B m dd ys) (hm : m ≤ 17592186044416) (h1 : ¬ 16384 < nw (nv xs)) (h2 : ¬ 16384 < nw (nv ys)) (h3 : nv ys = 0) (h4 : nv xs ≠ 0) :
    Calls Try.prog 34 #[.int .i64 d, .bool neg, .slice A n c, .slice B m dd, .int .i64 ex] w fun e w' => e = .returned (.int .u64 (infP neg : Nat)) ∧ Ext w w' := by
  have hL1 := fun w h => long_any A n c xs w h (by omega)
  have hL2 := fun w h => long_any B m dd ys w h (by omega)
  have hN1 := fun w h => norm_any A n c xs w h (by omega)
  have hN2 := fun w h => norm_any B m dd ys w h (by omega)
  rw [decide_eq_false h1] at hL1
  rw [decide_eq_false h2] at hL2
  obtain ⟨N, hN⟩ : ∃ N, N = nv xs := ⟨_, rfl⟩
  obtain ⟨M, hM⟩ : ∃ M, M = nv ys := ⟨_, rfl⟩
  rw [← hN] at hN1 h1 h4
  rw [← hM] at hN2 h2 h3
  try rw [← hN]
  try rw [← hM]
  have HL1 := Lib.hid hL1
  have HL2 := Lib.hid hL2
  have HN1 := Lib.hid hN1
  have HN2 := Lib.hid hN2
  have hln : ∀ w A l c V, Wds w A l c (nd V) → l = nw V := fun w A l c V hw => by have := hw.len; rw [nd_length] at this; omega
  have HI := Lib.hid (fun w => infinite_any neg w)
  rw [pat_infP] at HI
  clear hL1 hL2 hN1 hN2 hn hm
  go_enter Try.func34, Try.ntmps34
  go_wp2_with (first | (go_at_call 84; ((with_reducible refine (HL1.out _ h).mono ?_); rintro e w' ⟨rfl, rfl⟩)) | (go_at_call 84; ((with_reducible refine (HL2.out _ k).mono ?_); rintro e w' ⟨rfl, rfl⟩)))
  refine (HN1.out _ h).mono ?_
  rintro e w1 ⟨A1, n1, c1, rfl, hA1, hE1⟩
  go_wp2_with fail
  refine (HN2.out _ (k.ext hE1)).mono ?_
  rintro e w2 ⟨B1, m1, d1, rfl, hB1, hE2⟩
  have hA1 := hA1.ext hE2
  have z1 := hln _ _ _ _ _ hA1
  have z2 := hln _ _ _ _ _ hB1
  have q1 : ((m1 : Int) == 0) = true := by rw [z2, h3, nw_zero]; rfl
  have q2 : ((n1 : Int) == 0) = false := by rw [beq_eq_false_iff_ne]; intro hh; exact h4 (nw_eq_zero.1 (by omega))
  clear z1 z2 h3 h4 h1 h2 hN hM hln
  go_wp2_with fail
  refine (HI.out _).mono ?_
  rintro e w3 ⟨rfl, rfl⟩
  go_wp2
  go_ret
  exact ⟨rfl, hE1.trans hE2⟩

set_option maxHeartbeats 2000000 in
theorem ratio_near (d : Int) (neg : Bool) (A : Option Addr) (n c : Nat) (xs : List Nat) (B : Option Addr) (m dd : Nat) (ys : List Nat) (ex : Int) (w : World) (h : Wds w A n c xs) (hn : n ≤ 17592186044416) (k : Wds w B m dd ys) (hm : m ≤ 17592186044416) (h1 : ¬ 16384 < nw (nv xs)) (h2 : ¬ 16384 < nw (nv ys)) (h3 : nv ys ≠ 0) (h4 : ¬ 2000 - ((bl (nv xs) : Int) - bl (nv ys)) < ex) (h5 : ¬ ex < -2000 - ((bl (nv xs) : Int) - bl (nv ys))) :
    Calls Try.prog 34 #[.int .i64 d, .bool neg, .slice A n c, .slice B m dd, .int .i64 ex] w fun e w' => e = .returned (.int .u64 (rat0 d neg (nv xs) (nv ys) ex : Nat)) ∧ Ext w w' := by
  have hL1 := fun w h => long_any A n c xs w h (by omega)
  have hL2 := fun w h => long_any B m dd ys w h (by omega)
  have hN1 := fun w h => norm_any A n c xs w h (by omega)
  have hN2 := fun w h => norm_any B m dd ys w h (by omega)
  rw [decide_eq_false h1] at hL1
  rw [decide_eq_false h2] at hL2
  obtain ⟨N, hN⟩ : ∃ N, N = nv xs := ⟨_, rfl⟩
  obtain ⟨M, hM⟩ : ∃ M, M = nv ys := ⟨_, rfl⟩
  rw [← hN] at hN1 h1 h4 h5
  rw [← hM] at hN2 h2 h3 h4 h5
  try rw [← hN]
  try rw [← hM]
  have HL1 := Lib.hid hL1
  have HL2 := Lib.hid hL2
  have HN1 := Lib.hid hN1
  have HN2 := Lib.hid hN2
  have hln : ∀ w A l c V, Wds w A l c (nd V) → l = nw V := fun w A l c V hw => by have := hw.len; rw [nd_length] at this; omega
  have hFR := fun A n1 c B n2 d w (h : Wds w A n1 c (nd N)) (k : Wds w B n2 d (nd M)) => frac_any neg A n1 c (nd N) B n2 d (nd M) ex w h (by have := h.len; rw [nd_length] at this; omega) k (by have := k.len; rw [nd_length] at this; omega) (by have := nw_bl N; have := nw_bl M; omega) (by have := nw_bl N; have := nw_bl M; omega) (by rw [nv_nd]; omega)
  simp only [nv_nd] at hFR
  have hnw := frac_nw (n := N) (d := M) (e := ex) (by omega) (by omega) h3 (by have := nw_bl N; have := nw_bl M; omega) (by have := nw_bl N; have := nw_bl M; omega)
  have HBT := Lib.hid (fun A l c B k e w h => bits3_any d (neg && decide (N ≠ 0)) A l c B k e (fracN N M ex) (fracD N M ex) w h hnw.1 hnw.2 (Nat.ne_of_gt (fracD_pos _ h3)))
  have hR : rnd d (neg && decide (N ≠ 0)) (zr (fracN N M ex) (fracD N M ex)) = rat0 d neg N M ex := rfl
  rw [hR] at HBT
  generalize rat0 d neg N M ex = R at HBT ⊢
  generalize (neg && decide (N ≠ 0)) = zz at hFR HBT
  have HFR := Lib.hid hFR
  clear hL1 hL2 hN1 hN2 hn hm hFR hR hnw
  go_enter Try.func34, Try.ntmps34
  go_wp2_with (first | (go_at_call 84; ((with_reducible refine (HL1.out _ h).mono ?_); rintro e w' ⟨rfl, rfl⟩)) | (go_at_call 84; ((with_reducible refine (HL2.out _ k).mono ?_); rintro e w' ⟨rfl, rfl⟩)))
  refine (HN1.out _ h).mono ?_
  rintro e w1 ⟨A1, n1, c1, rfl, hA1, hE1⟩
  go_wp2_with fail
  refine (HN2.out _ (k.ext hE1)).mono ?_
  rintro e w2 ⟨B1, m1, d1, rfl, hB1, hE2⟩
  have hA1 := hA1.ext hE2
  have z1 := hln _ _ _ _ _ hA1
  have z2 := hln _ _ _ _ _ hB1
  have hLE1 := fun w hw => len_any A1 n1 c1 (nd N) w hw (by omega)
  have hLE2 := fun w hw => len_any B1 m1 d1 (nd M) w hw (by omega)
  simp only [nv_nd] at hLE1 hLE2
  have bN := nw_bl N
  have bM := nw_bl M
  have q1 : ((m1 : Int) == 0) = false := by rw [beq_eq_false_iff_ne]; intro hh; exact h3 (nw_eq_zero.1 (by omega))
  have HLE1 := Lib.hid (hLE1 _ hA1)
  have HLE2 := Lib.hid (hLE2 _ hB1)
  have e1 : decide (2000 - ((bl N : Int) - bl M) < ex) = false := decide_eq_false (by omega)
  have e2 : decide (ex < -2000 - ((bl N : Int) - bl M)) = false := decide_eq_false (by omega)
  have bN2 : bl N ≤ 524288 := by omega
  have bM2 : bl M ≤ 524288 := by omega
  clear z1 z2 h3 h1 h2 hN hM hln hLE1 hLE2 bN bM h4 h5
  go_wp2_with (first | (go_at_call 86; ((with_reducible refine HLE1.out.mono ?_); rintro e w' ⟨rfl, rfl⟩)) | (go_at_call 86; ((with_reducible refine HLE2.out.mono ?_); rintro e w' ⟨rfl, rfl⟩)))
  refine (HFR.out _ _ _ _ _ _ _ hA1 hB1).mono ?_
  rintro e w3 ⟨A3, n3, c3, B3, k3, d3, rfl, hA3, hB3, hE3⟩
  go_wp2_with fail
  refine (HBT.out _ _ _ _ _ _ _ ⟨hA3, hB3⟩).mono ?_
  rintro e w4 ⟨rfl, hE4⟩
  go_wp2
  go_ret
  exact ⟨rfl, ((hE1.trans hE2).trans hE3).trans hE4⟩

set_option maxHeartbeats 2000000 in
theorem ratio_up (d : Int) (neg : Bool) (A : Option Addr) (n c : Nat) (xs : List Nat) (B : Option Addr) (m dd : Nat) (ys : List Nat) (ex : Int) (w : World) (h : Wds w A n c xs) (hn : n ≤ 17592186044416) (k : Wds w B m dd ys) (hm : m ≤ 17592186044416) (h1 : ¬ 16384 < nw (nv xs)) (h2 : ¬ 16384 < nw (nv ys)) (h3 : nv ys ≠ 0) (h4 : 2000 - ((bl (nv xs) : Int) - bl (nv ys)) < ex) :
    Calls Try.prog 34 #[.int .i64 d, .bool neg, .slice A n c, .slice B m dd, .int .i64 ex] w fun e w' => e = .returned (.int .u64 (rat0 d neg (if nv xs = 0 then 0 else 1) 1 (2000) : Nat)) ∧ Ext w w' := by
  have hL1 := fun w h => long_any A n c xs w h (by omega)
  have hL2 := fun w h => long_any B m dd ys w h (by omega)
  have hN1 := fun w h => norm_any A n c xs w h (by omega)
  have hN2 := fun w h => norm_any B m dd ys w h (by omega)
  rw [decide_eq_false h1] at hL1
  rw [decide_eq_false h2] at hL2
  obtain ⟨N, hN⟩ : ∃ N, N = nv xs := ⟨_, rfl⟩
  obtain ⟨M, hM⟩ : ∃ M, M = nv ys := ⟨_, rfl⟩
  rw [← hN] at hN1 h1 h4
  rw [← hM] at hN2 h2 h3 h4
  try rw [← hN]
  try rw [← hM]
  have HL1 := Lib.hid hL1
  have HL2 := Lib.hid hL2
  have HN1 := Lib.hid hN1
  have HN2 := Lib.hid hN2
  have hln : ∀ w A l c V, Wds w A l c (nd V) → l = nw V := fun w A l c V hw => by have := hw.len; rw [nd_length] at this; omega
  obtain ⟨C, hC⟩ : ∃ C : Nat, C = if N = 0 then 0 else 1 := ⟨_, rfl⟩
  have hCN : cmpN N 0 = (C : Int) := by
    rw [hC]; unfold cmpN
    by_cases h0 : N = 0
    · rw [h0]; rfl
    · rw [if_neg (by omega), if_pos (by omega), if_neg h0]; rfl
  have hC1 : C ≤ 1 := by rw [hC]; split <;> omega
  rw [← hC]
  have hFR := fun A n1 c B n2 d w (h : Wds w A n1 c (nd C)) (k : Wds w B n2 d [1]) => frac_any neg A n1 c (nd C) B n2 d [1] (2000) w h (by have := h.len; rw [nd_length] at this; have := (nw_le_iff C 1).2 (by omega); omega) k (by have := k.len; simp at this; omega) (by omega) (by omega) (by simp [nv])
  rw [show nv [1] = 1 from rfl] at hFR
  simp only [nv_nd] at hFR
  have hnw := frac_nw (n := C) (d := 1) (e := 2000) (by have := (nw_le_iff C 1).2 (by omega); omega) (by have := (nw_le_iff 1 1).2 (by omega); omega) (by omega) (by omega) (by omega)
  have HBT := Lib.hid (fun A l c B k e w h => bits3_any d (neg && decide (C ≠ 0)) A l c B k e (fracN C 1 (2000)) (fracD C 1 (2000)) w h hnw.1 hnw.2 (Nat.ne_of_gt (fracD_pos _ (by omega))))
  have hR : rnd d (neg && decide (C ≠ 0)) (zr (fracN C 1 (2000)) (fracD C 1 (2000))) = rat0 d neg C 1 (2000) := rfl
  rw [hR] at HBT
  generalize rat0 d neg C 1 (2000) = R at HBT ⊢
  generalize (neg && decide (C ≠ 0)) = zz at hFR HBT
  have HFR := Lib.hid hFR
  have HNC := Lib.hid (fun w g (hw : Wds w (some ⟨g, 0, none⟩) 1 1 [C]) => norm_any (some ⟨g, 0, none⟩) 1 1 [C] w hw (by omega))
  have hnC : nv [C] = C := by simp [nv]
  rw [hnC] at HNC
  have hcv : IntKind.u32.wrap (C : Int) = (C : Int) := by simp [IntKind.wrap, IntKind.bits, IntKind.signed]; omega
  clear hL1 hL2 hN1 hN2 hn hm hFR hR hnw hnC
  go_enter Try.func34, Try.ntmps34
  go_wp2_with (first | (go_at_call 84; ((with_reducible refine (HL1.out _ h).mono ?_); rintro e w' ⟨rfl, rfl⟩)) | (go_at_call 84; ((with_reducible refine (HL2.out _ k).mono ?_); rintro e w' ⟨rfl, rfl⟩)))
  refine (HN1.out _ h).mono ?_
  rintro e w1 ⟨A1, n1, c1, rfl, hA1, hE1⟩
  go_wp2_with fail
  refine (HN2.out _ (k.ext hE1)).mono ?_
  rintro e w2 ⟨B1, m1, d1, rfl, hB1, hE2⟩
  have hA1 := hA1.ext hE2
  have z1 := hln _ _ _ _ _ hA1
  have z2 := hln _ _ _ _ _ hB1
  have hLE1 := fun w hw => len_any A1 n1 c1 (nd N) w hw (by omega)
  have hLE2 := fun w hw => len_any B1 m1 d1 (nd M) w hw (by omega)
  simp only [nv_nd] at hLE1 hLE2
  have bN := nw_bl N
  have bM := nw_bl M
  have q1 : ((m1 : Int) == 0) = false := by rw [beq_eq_false_iff_ne]; intro hh; exact h3 (nw_eq_zero.1 (by omega))
  have HLE1 := Lib.hid (hLE1 _ hA1)
  have HLE2 := Lib.hid (hLE2 _ hB1)
  have e1 : decide (2000 - ((bl N : Int) - bl M) < ex) = true := decide_eq_true (by omega)
  have bN2 : bl N ≤ 524288 := by omega
  have bM2 : bl M ≤ 524288 := by omega
  have hCM := cmp_any A1 n1 c1 (nd N) none 0 0 [] w2 hA1 (by omega) (Wds.nil_ (by unfold maxLen; omega)) (by omega)
  rw [nv_nd, nv_nil, hCN] at hCM
  have HCM := Lib.hid hCM
  clear z1 z2 h3 h1 h2 hN hM hln hLE1 hLE2 bN bM h4 hCM hCN hC
  go_wp2_with (first | (go_at_call 86; ((with_reducible refine HLE1.out.mono ?_); rintro e w' ⟨rfl, rfl⟩)) | (go_at_call 86; ((with_reducible refine HLE2.out.mono ?_); rintro e w' ⟨rfl, rfl⟩)))
  refine HCM.out.mono ?_
  rintro e w3 ⟨rfl, qd, rfl⟩
  have hE3 := hE2.trans ((Ext.refl w2).drewN qd)
  clear HCM HLE1 HLE2
  go_wp2_with fail
  refine (HNC.out _ _ ((Row.new _ [C]).wds (Ws.cons (by omega) Ws.nil) rfl (Nat.le_refl _) (by unfold maxLen; omega))).mono ?_
  rintro e w4 ⟨A4, n4, c4, rfl, hA4, hE4⟩
  have hE5 : Ext w w4 := ((hE1.trans hE3).trans ((Ext.refl _).alloc _)).trans hE4
  go_wp2_with fail
  refine (HFR.out _ _ _ _ _ _ _ (hA4.alloc _) (one_wds w4 rfl)).mono ?_
  rintro e w5 ⟨A5, n5, c5, B5, k5, d5, rfl, hA5, hB5, hE6⟩
  go_wp2_with fail
  refine (HBT.out _ _ _ _ _ _ _ ⟨hA5, hB5⟩).mono ?_
  rintro e w6 ⟨rfl, hE7⟩
  go_wp2
  go_ret
  exact ⟨rfl, ((hE5.alloc _).trans hE6).trans hE7⟩

set_option maxHeartbeats 2000000 in
theorem ratio_down (d : Int) (neg : Bool) (A : Option Addr) (n c : Nat) (xs : List Nat) (B : Option Addr) (m dd : Nat) (ys : List Nat) (ex : Int) (w : World) (h : Wds w A n c xs) (hn : n ≤ 17592186044416) (k : Wds w B m dd ys) (hm : m ≤ 17592186044416) (h1 : ¬ 16384 < nw (nv xs)) (h2 : ¬ 16384 < nw (nv ys)) (h3 : nv ys ≠ 0) (h4 : ¬ 2000 - ((bl (nv xs) : Int) - bl (nv ys)) < ex) (h5 : ex < -2000 - ((bl (nv xs) : Int) - bl (nv ys))) :
    Calls Try.prog 34 #[.int .i64 d, .bool neg, .slice A n c, .slice B m dd, .int .i64 ex] w fun e w' => e = .returned (.int .u64 (rat0 d neg (if nv xs = 0 then 0 else 1) 1 (-2000) : Nat)) ∧ Ext w w' := by
  have hL1 := fun w h => long_any A n c xs w h (by omega)
  have hL2 := fun w h => long_any B m dd ys w h (by omega)
  have hN1 := fun w h => norm_any A n c xs w h (by omega)
  have hN2 := fun w h => norm_any B m dd ys w h (by omega)
  rw [decide_eq_false h1] at hL1
  rw [decide_eq_false h2] at hL2
  obtain ⟨N, hN⟩ : ∃ N, N = nv xs := ⟨_, rfl⟩
  obtain ⟨M, hM⟩ : ∃ M, M = nv ys := ⟨_, rfl⟩
  rw [← hN] at hN1 h1 h4 h5
  rw [← hM] at hN2 h2 h3 h4 h5
  try rw [← hN]
  try rw [← hM]
  have HL1 := Lib.hid hL1
  have HL2 := Lib.hid hL2
  have HN1 := Lib.hid hN1
  have HN2 := Lib.hid hN2
  have hln : ∀ w A l c V, Wds w A l c (nd V) → l = nw V := fun w A l c V hw => by have := hw.len; rw [nd_length] at this; omega
  obtain ⟨C, hC⟩ : ∃ C : Nat, C = if N = 0 then 0 else 1 := ⟨_, rfl⟩
  have hCN : cmpN N 0 = (C : Int) := by
    rw [hC]; unfold cmpN
    by_cases h0 : N = 0
    · rw [h0]; rfl
    · rw [if_neg (by omega), if_pos (by omega), if_neg h0]; rfl
  have hC1 : C ≤ 1 := by rw [hC]; split <;> omega
  rw [← hC]
  have hFR := fun A n1 c B n2 d w (h : Wds w A n1 c (nd C)) (k : Wds w B n2 d [1]) => frac_any neg A n1 c (nd C) B n2 d [1] (-2000) w h (by have := h.len; rw [nd_length] at this; have := (nw_le_iff C 1).2 (by omega); omega) k (by have := k.len; simp at this; omega) (by omega) (by omega) (by simp [nv])
  rw [show nv [1] = 1 from rfl] at hFR
  simp only [nv_nd] at hFR
  have hnw := frac_nw (n := C) (d := 1) (e := -2000) (by have := (nw_le_iff C 1).2 (by omega); omega) (by have := (nw_le_iff 1 1).2 (by omega); omega) (by omega) (by omega) (by omega)
  have HBT := Lib.hid (fun A l c B k e w h => bits3_any d (neg && decide (C ≠ 0)) A l c B k e (fracN C 1 (-2000)) (fracD C 1 (-2000)) w h hnw.1 hnw.2 (Nat.ne_of_gt (fracD_pos _ (by omega))))
  have hR : rnd d (neg && decide (C ≠ 0)) (zr (fracN C 1 (-2000)) (fracD C 1 (-2000))) = rat0 d neg C 1 (-2000) := rfl
  rw [hR] at HBT
  generalize rat0 d neg C 1 (-2000) = R at HBT ⊢
  generalize (neg && decide (C ≠ 0)) = zz at hFR HBT
  have HFR := Lib.hid hFR
  have HNC := Lib.hid (fun w g (hw : Wds w (some ⟨g, 0, none⟩) 1 1 [C]) => norm_any (some ⟨g, 0, none⟩) 1 1 [C] w hw (by omega))
  have hnC : nv [C] = C := by simp [nv]
  rw [hnC] at HNC
  have hcv : IntKind.u32.wrap (C : Int) = (C : Int) := by simp [IntKind.wrap, IntKind.bits, IntKind.signed]; omega
  clear hL1 hL2 hN1 hN2 hn hm hFR hR hnw hnC
  go_enter Try.func34, Try.ntmps34
  go_wp2_with (first | (go_at_call 84; ((with_reducible refine (HL1.out _ h).mono ?_); rintro e w' ⟨rfl, rfl⟩)) | (go_at_call 84; ((with_reducible refine (HL2.out _ k).mono ?_); rintro e w' ⟨rfl, rfl⟩)))
  refine (HN1.out _ h).mono ?_
  rintro e w1 ⟨A1, n1, c1, rfl, hA1, hE1⟩
  go_wp2_with fail
  refine (HN2.out _ (k.ext hE1)).mono ?_
  rintro e w2 ⟨B1, m1, d1, rfl, hB1, hE2⟩
  have hA1 := hA1.ext hE2
  have z1 := hln _ _ _ _ _ hA1
  have z2 := hln _ _ _ _ _ hB1
  have hLE1 := fun w hw => len_any A1 n1 c1 (nd N) w hw (by omega)
  have hLE2 := fun w hw => len_any B1 m1 d1 (nd M) w hw (by omega)
  simp only [nv_nd] at hLE1 hLE2
  have bN := nw_bl N
  have bM := nw_bl M
  have q1 : ((m1 : Int) == 0) = false := by rw [beq_eq_false_iff_ne]; intro hh; exact h3 (nw_eq_zero.1 (by omega))
  have HLE1 := Lib.hid (hLE1 _ hA1)
  have HLE2 := Lib.hid (hLE2 _ hB1)
  have e1 : decide (2000 - ((bl N : Int) - bl M) < ex) = false := decide_eq_false (by omega)
  have e2 : decide (ex < -2000 - ((bl N : Int) - bl M)) = true := decide_eq_true (by omega)
  clear h5
  have bN2 : bl N ≤ 524288 := by omega
  have bM2 : bl M ≤ 524288 := by omega
  have hCM := cmp_any A1 n1 c1 (nd N) none 0 0 [] w2 hA1 (by omega) (Wds.nil_ (by unfold maxLen; omega)) (by omega)
  rw [nv_nd, nv_nil, hCN] at hCM
  have HCM := Lib.hid hCM
  clear z1 z2 h3 h1 h2 hN hM hln hLE1 hLE2 bN bM h4 hCM hCN hC
  go_wp2_with (first | (go_at_call 86; ((with_reducible refine HLE1.out.mono ?_); rintro e w' ⟨rfl, rfl⟩)) | (go_at_call 86; ((with_reducible refine HLE2.out.mono ?_); rintro e w' ⟨rfl, rfl⟩)))
  refine HCM.out.mono ?_
  rintro e w3 ⟨rfl, qd, rfl⟩
  have hE3 := hE2.trans ((Ext.refl w2).drewN qd)
  clear HCM HLE1 HLE2
  go_wp2_with fail
  refine (HNC.out _ _ ((Row.new _ [C]).wds (Ws.cons (by omega) Ws.nil) rfl (Nat.le_refl _) (by unfold maxLen; omega))).mono ?_
  rintro e w4 ⟨A4, n4, c4, rfl, hA4, hE4⟩
  have hE5 : Ext w w4 := ((hE1.trans hE3).trans ((Ext.refl _).alloc _)).trans hE4
  go_wp2_with fail
  refine (HFR.out _ _ _ _ _ _ _ (hA4.alloc _) (one_wds w4 rfl)).mono ?_
  rintro e w5 ⟨A5, n5, c5, B5, k5, d5, rfl, hA5, hB5, hE6⟩
  go_wp2_with fail
  refine (HBT.out _ _ _ _ _ _ _ ⟨hA5, hB5⟩).mono ?_
  rintro e w6 ⟨rfl, hE7⟩
  go_wp2
  go_ret
  exact ⟨rfl, ((hE5.alloc _).trans hE6).trans hE7⟩

theorem ratio3_any (d : Int) (neg : Bool) (A : Option Addr) (n c : Nat) (xs : List Nat) (B : Option Addr) (m dd : Nat) (ys : List Nat) (ex : Int) (w : World) (h : Wds w A n c xs) (hn : n ≤ 17592186044416) (k : Wds w B m dd ys) (hm : m ≤ 17592186044416) :
    Calls Try.prog 34 #[.int .i64 d, .bool neg, .slice A n c, .slice B m dd, .int .i64 ex] w fun e w' => e = .returned (.int .u64 (ratR d neg (nv xs) (nv ys) ex : Nat)) ∧ Ext w w' := by
  unfold ratR
  by_cases h1 : 16384 < nw (nv xs)
  · rw [if_pos (.inl h1)]
    exact ratio_l1 d neg A n c xs B m dd ys ex w h hn k hm h1
  by_cases h2 : 16384 < nw (nv ys)
  · rw [if_pos (.inr h2)]
    exact ratio_l2 d neg A n c xs B m dd ys ex w h hn k hm h1 h2
  rw [if_neg (fun hh => hh.elim h1 h2)]
  by_cases h3 : nv ys = 0
  · rw [if_pos h3]
    by_cases h4 : nv xs = 0
    · rw [if_pos h4]
      exact ratio_z0 d neg A n c xs B m dd ys ex w h hn k hm h1 h2 h3 h4
    · rw [if_neg h4]
      exact ratio_z1 d neg A n c xs B m dd ys ex w h hn k hm h1 h2 h3 h4
  rw [if_neg h3]
  by_cases h4 : 2000 - ((bl (nv xs) : Int) - bl (nv ys)) < ex
  · rw [if_pos h4]
    exact ratio_up d neg A n c xs B m dd ys ex w h hn k hm h1 h2 h3 h4
  rw [if_neg h4]
  by_cases h5 : ex < -2000 - ((bl (nv xs) : Int) - bl (nv ys))
  · rw [if_pos h5]
    exact ratio_down d neg A n c xs B m dd ys ex w h hn k hm h1 h2 h3 h4 h5
  rw [if_neg h5]
  exact ratio_near d neg A n c xs B m dd ys ex w h hn k hm h1 h2 h3 h4 h5
end Go.Proofs.Ytjblogfbcglnmaa

/-
  The contract of the document's Of. Conditions: those that each theorem names.
-/
namespace Go.Proofs.Ytjblogfbcglnmaa
open Go.RowKit Nm Rn
set_option maxRecDepth 100000
set_option linter.unusedVariables false
set_option linter.unusedSimpArgs false

theorem rat0_one (d : Int) (neg : Bool) (V : Nat) (e : Int) : rat0 d neg V 1 e = rnd d neg (zd V e) := by
  unfold rat0
  have h1 := frac_val (n := V) (d := 1) (e := e) (p := e.toNat) (q := (-e).toNat) (by omega)
  rw [Nat.one_mul] at h1
  have h2 : zr (fracN V 1 e) (fracD V 1 e) = zd V e := by
    rw [zd_zr]
    exact zr_congr (fracD_pos _ (by omega)) (Nat.two_pow_pos _) h1
  rw [h2]
  by_cases h0 : V = 0
  · rw [h0, zd_zero, rnd_zero, rnd_zero]
  · rw [decide_eq_true h0, Bool.and_true]
theorem ratR_one (d : Int) (neg : Bool) (V : Nat) (e : Int) : ratR d neg V 1 e = ofR d neg V e := by
  unfold ratR
  have hb := nw_bl V
  have h1 : nw 1 = 1 := rfl
  have hb1 : bl 1 = 1 := rfl
  rw [h1, hb1]
  by_cases hl : 16384 < nw V
  · rw [if_pos (.inl hl)]
    unfold ofR
    rw [if_pos (by omega)]
  · rw [if_neg (fun h => h.elim hl (by omega)), if_neg (by omega)]
    by_cases h0 : V = 0
    · have e0 : ∀ x, rat0 d neg 0 1 x = 0 := fun x => by rw [rat0_one, zd_zero, rnd_zero]
      have e1 : ofR d neg V e = 0 := by unfold ofR; rw [if_neg (by omega), if_pos h0]
      rw [e1, if_pos h0, h0, e0, e0, e0]
      repeat' split
      all_goals rfl
    · rw [if_neg h0]
      have hp := bl_pos h0
      by_cases hu : 2000 - ((bl V : Int) - (1 : Nat)) < e
      · rw [if_pos hu, rat0_one, ← zd_two]
        have h2 := rnd_big (V := 1) (m := 0) (exp := 2000) (by omega) (by rw [hb1]; omega) d neg
        rw [Nat.add_zero] at h2
        have e1 : ofR d neg V e = pat neg (if twB d neg then infR - 1 else infR) := by
          unfold ofR
          rw [if_neg (by omega), if_neg h0, if_neg (by omega), if_pos (by omega)]
        rw [h2, e1]
      · rw [if_neg hu]
        by_cases hd : e < -2000 - ((bl V : Int) - (1 : Nat))
        · rw [if_pos hd, rat0_one, ← zd_two, zd_tiny (by omega) (by rw [hb1]; omega)]
          rw [ofR_tiny h0 (by omega) (by omega)]
        · rw [if_neg hd, rat0_one, ← zd_two]
          unfold ofR
          rw [if_neg (by omega), if_neg h0]
          by_cases ht : (bl V : Int) + e < -1076
          · rw [if_pos ht, zd_tiny h0 ht]
          · rw [if_neg ht]
            by_cases hg : 1023 < (bl V : Int) - 1 + e
            · rw [if_pos hg]
              have h2 := rnd_big (V := V) (m := 0) (exp := e) h0 hg d neg
              rw [Nat.add_zero] at h2
              rw [h2]
            · rw [if_neg hg]

set_option maxHeartbeats 1000000 in
theorem of3_any (d : Int) (neg : Bool) (A : Option Addr) (n c : Nat) (xs : List Nat) (ex : Int) (w : World) (h : Wds w A n c xs) (hn : n ≤ 17592186044416) :
    Calls Try.prog 22 #[.int .i64 d, .bool neg, .slice A n c, .int .i64 ex] w fun e w' => e = .returned (.int .u64 (ofR d neg (nv xs) ex : Nat)) ∧ Ext w w' := by
  have hR := ratio3_any d neg A n c xs (some ⟨w.heap.size, 0, none⟩) 1 1 [1] ex (w.alloc (.cells #[.int .u32 1] 28)) (h.alloc _) hn (one_wds w rfl) (by omega)
  rw [show nv [1] = 1 from rfl, ratR_one] at hR
  have hE0 : Ext w (w.alloc (.cells #[.int .u32 1] 28)) := (Ext.refl w).alloc _
  have HR := Lib.hid hR
  have HE0 := Lib.hid hE0
  generalize ofR d neg (nv xs) ex = V at HR ⊢
  clear hR hE0 h
  go_enter Try.func22, Try.ntmps22
  go_wp2_with fail
  refine HR.out.mono ?_
  rintro e w1 ⟨rfl, hE⟩
  go_wp2
  go_ret
  exact ⟨rfl, HE0.out.trans hE⟩
end Go.Proofs.Ytjblogfbcglnmaa

/-
  The walk of the law RoundOfs: it answers true. Conditions: those that each theorem names.
-/
namespace Go.Proofs.Ytjblogfbcglnmaa
open Go.RowKit Nm Rn
set_option maxRecDepth 100000
set_option linter.unusedVariables false
set_option linter.unusedSimpArgs false

theorem Row.wdsp {w : World} {g n : Nat} {ys : List Nat} (h : Row w g (ys ++ GD)) (hw : Ws ys) (hl : ys.length = n) (hn : n ≤ 17592186044416) : Wds w (some ⟨g, 0, none⟩) n (n + 40) ys := by
  have := h.pre (hw.append GD_ws) (m := n) (c := n + 40) (by rw [List.length_append]; omega) (by omega) (by unfold maxLen; omega)
  rw [← hl, List.take_left, hl] at this
  exact this
theorem Blk.only {g b : Nat} {t : TypeId} {cs : Array Value} {w w' : World} (h : Blk w b t cs) (hb : b ≠ g) (ho : Only g w w') : Blk w' b t cs := (ho b hb).trans h
/-- What stands at any time: the box of the argument, the other list, the list that is asked. -/
structure OS (w : World) (ga gv gl : Nat) (t : TypeId) (cs : Array Value) (ys zs : List Nat) (wk : World) : Prop where
  box : Blk wk ga t cs
  rv : Row wk gv (ys ++ GD)
  rl : Row wk gl (zs ++ GD)
  ext : Ext w wk
  na : ga ≠ gl
  nv : gv ≠ gl
theorem OS.ext_ {w : World} {ga gv gl : Nat} {t : TypeId} {cs : Array Value} {ys zs : List Nat} {wk wl : World} (h : OS w ga gv gl t cs ys zs wk) (he : Ext wk wl) : OS w ga gv gl t cs ys zs wl :=
  ⟨h.box.ext he, h.rv.ext he, h.rl.ext he, h.ext.trans he, h.na, h.nv⟩
theorem OS.placed {w : World} {ga gv gl : Nat} {t : TypeId} {cs : Array Value} {ys zs zs' : List Nat} {wk wl : World} (h : OS w ga gv gl t cs ys zs wk) (hr : Row wl gl (zs' ++ GD)) (he : ExtO w gl wk wl) : OS w ga gv gl t cs ys zs' wl :=
  ⟨h.box.only h.na he.2, h.rv.only h.nv he.2, hr, he.1, h.na, h.nv⟩

set_option maxHeartbeats 8000000 in
theorem ofs_walk (d : Int) (neg : Bool) (A : Option Addr) (n c : Nat) (xs : List Nat) (B : Option Addr) (m e' : Nat) (exp : Int) (w : World) (h : Wds w A n c xs) (hn0 : n ≤ 1048576) :
    Calls Try.prog 5 #[.agg #[.int .i64 d, .bool neg, .slice A n c, .slice B m e', .int .i64 exp]] w fun e w' => e = .returned (.bool true) ∧ Ext w w' := by
  have hn : n ≤ 17592186044416 := by omega
  have HX := Lib.hid h
  have HXW := Lib.hid (And.intro h.len h.ws)
  have HOT := Lib.hid (fun w h => lother_any A n c xs w h hn)
  have HRY := Lib.hid (fun w h => lroomy_any A n c xs w h hn)
  have HWT := Lib.hid (fun w h => of3_any d neg A n c xs exp w h hn)
  have HRX := Lib.hid (fun g w h => rof_any d neg (some ⟨g, 0, none⟩) n (n + 40) xs exp w h (by omega))
  have HL := Lib.hid (fun r w h => lbits_any r w h)
  have hws := h.ws
  clear h
  generalize hWT : ofR d neg (nv xs) exp = want at HWT HRX
  clear hWT
  have hO := Own.start w
  go_enter Try.func5, Try.ntmps5
  go_upto_region 1 with ((with_reducible refine at_box ?_); refine own_box (cs := [.int .i64 d, .bool neg, .slice A n c, .slice B m e', .int .i64 exp]) hO rfl rfl ?_; clear hO; intro ga w1 hO)
  have hb1 : Blk w1 ga 34 #[.int .i64 d, .bool neg, .slice A n c, .slice B m e', .int .i64 exp] := hO.blk 0 rfl
  have hE1 := hO.toExt
  clear hO
  have g2 := hb1.cell 2
  simp only [List.getElem?_toArray, List.getElem?_cons_zero, List.getElem?_cons_succ] at g2
  go_wp2_with fail
  refine (HOT.out _ (HX.out.ext hE1)).mono ?_
  rintro e w2 ⟨gv, ys, rfl, hyl, hyw, hrv, hgv, hE2⟩
  have HY := Lib.hid (And.intro hyl hyw)
  have HNX := Lib.hid (fun w h => of3_any d neg (some ⟨gv, 0, none⟩) n (n + 40) ys exp w h hn)
  have HRY2 := Lib.hid (fun g w h => rof_any d neg (some ⟨g, 0, none⟩) n (n + 40) ys exp w h (by omega))
  generalize hNX : ofR d neg (nv ys) exp = next at HNX HRY2
  clear hNX g2 hyl hyw
  have hb2 := hb1.ext hE2
  have hE2' := hE1.trans hE2
  clear hb1 hE1 hE2
  have g0 := hb2.cell 0
  have g1 := hb2.cell 1
  have g2 := hb2.cell 2
  have g4 := hb2.cell 4
  simp only [List.getElem?_toArray, List.getElem?_cons_zero, List.getElem?_cons_succ] at g0 g1 g2 g4
  go_wp2_with fail
  refine (HWT.out _ (HX.out.ext hE2')).mono ?_
  rintro e w3 ⟨rfl, hE⟩
  clear g0 g1 g2 g4
  have hb3 := hb2.ext hE
  have hrv3 := hrv.ext hE
  have hE3 := hE2'.trans hE
  clear hb2 hrv hE2' hE
  have g0 := hb3.cell 0
  have g1 := hb3.cell 1
  have g2 := hb3.cell 2
  have g4 := hb3.cell 4
  simp only [List.getElem?_toArray, List.getElem?_cons_zero, List.getElem?_cons_succ] at g0 g1 g2 g4
  go_wp2_with fail
  refine (HNX.out _ (hrv3.wdsp HY.out.2 HY.out.1 (by omega))).mono ?_
  rintro e w4 ⟨rfl, hE⟩
  clear g0 g1 g2 g4
  have hb4 := hb3.ext hE
  have hrv4 := hrv3.ext hE
  have hE4 := hE3.trans hE
  clear hb3 hrv3 hE3 hE
  have g2 := hb4.cell 2
  simp only [List.getElem?_toArray, List.getElem?_cons_zero, List.getElem?_cons_succ] at g2
  go_wp2_with fail
  refine (HRY.out _ (HX.out.ext hE4)).mono ?_
  rintro e w5 ⟨gl, rfl, hrl, hgl, hE⟩
  have hgw : w.heap.size ≤ gl := Nat.le_trans hE4.size hgl
  have hS : OS w ga gv gl 34 #[.int .i64 d, .bool neg, .slice A n c, .slice B m e', .int .i64 exp] ys xs w5 := ⟨hb4.ext hE, hrv4.ext hE, hrl, hE4.trans hE, by have := hb4.lt; omega, by have := hrv4.lt; omega⟩
  clear g2 hb4 hrv4 hE4 hE hrl hgl
  have g0 := hS.box.cell 0
  have g1 := hS.box.cell 1
  have g2 := hS.box.cell 2
  have g4 := hS.box.cell 4
  simp only [List.getElem?_toArray, List.getElem?_cons_zero, List.getElem?_cons_succ] at g0 g1 g2 g4
  go_wp2_with fail
  refine (HRX.out _ _ (hS.rl.wdsp HXW.out.2 HXW.out.1 (by omega))).mono ?_
  rintro e wk ⟨r, rfl, hr, hc, hE⟩
  have hS := hS.ext_ hE
  go_wp2_with fail
  refine (HL.out r _ hr).mono ?_
  rintro e w' ⟨rfl, rfl⟩
  rw [hc]
  clear g0 g1 g2 g4
  have g0 := hS.box.cell 0
  have g1 := hS.box.cell 1
  have g2 := hS.box.cell 2
  have g4 := hS.box.cell 4
  simp only [List.getElem?_toArray, List.getElem?_cons_zero, List.getElem?_cons_succ] at g0 g1 g2 g4
  clear hc hr hE
  go_wp2_with fail
  refine (lleft_any A n c gl xs _ (HX.out.ext hS.ext) hS.rl hn).mono ?_
  rintro e wk ⟨rfl, hE⟩
  clear g0 g1 g2 g4
  have hS := hS.ext_ hE
  have g0 := hS.box.cell 0
  have g1 := hS.box.cell 1
  have g2 := hS.box.cell 2
  have g4 := hS.box.cell 4
  simp only [List.getElem?_toArray, List.getElem?_cons_zero, List.getElem?_cons_succ] at g0 g1 g2 g4
  clear hE
  go_wp2_with fail
  refine (HRX.out _ _ (hS.rl.wdsp HXW.out.2 HXW.out.1 (by omega))).mono ?_
  rintro e wk ⟨r, rfl, hr, hc, hE⟩
  have hS := hS.ext_ hE
  go_wp2_with fail
  refine (HL.out r _ hr).mono ?_
  rintro e w' ⟨rfl, rfl⟩
  rw [hc]
  clear g0 g1 g2 g4
  have g0 := hS.box.cell 0
  have g1 := hS.box.cell 1
  have g2 := hS.box.cell 2
  have g4 := hS.box.cell 4
  simp only [List.getElem?_toArray, List.getElem?_cons_zero, List.getElem?_cons_succ] at g0 g1 g2 g4
  clear hc hr hE
  go_wp2_with fail
  refine (lplace_any gl n (n + 40) xs (some ⟨gv, 0, none⟩) (n + 40) ys w _ hS.rl HXW.out.1 HY.out.1 hn (Lib.hid fun w' hw' => (hS.rv.only hS.nv hw'.2).wdsp HY.out.2 HY.out.1 (by omega)) hS.ext hgw).mono ?_
  rintro e wk ⟨rfl, hrl, hEO⟩
  clear g0 g1 g2 g4
  have hS := hS.placed hrl hEO
  have g0 := hS.box.cell 0
  have g1 := hS.box.cell 1
  have g2 := hS.box.cell 2
  have g4 := hS.box.cell 4
  simp only [List.getElem?_toArray, List.getElem?_cons_zero, List.getElem?_cons_succ] at g0 g1 g2 g4
  clear hrl hEO
  go_wp2_with fail
  refine (HRY2.out _ _ (hS.rl.wdsp HY.out.2 HY.out.1 (by omega))).mono ?_
  rintro e wk ⟨r, rfl, hr, hc, hE⟩
  have hS := hS.ext_ hE
  go_wp2_with fail
  refine (HL.out r _ hr).mono ?_
  rintro e w' ⟨rfl, rfl⟩
  rw [hc]
  clear g0 g1 g2 g4
  have g0 := hS.box.cell 0
  have g1 := hS.box.cell 1
  have g2 := hS.box.cell 2
  have g4 := hS.box.cell 4
  simp only [List.getElem?_toArray, List.getElem?_cons_zero, List.getElem?_cons_succ] at g0 g1 g2 g4
  clear hc hr hE
  go_wp2_with fail
  refine (lleft_any (some ⟨gv, 0, none⟩) n (n + 40) gl ys _ (hS.rv.wdsp HY.out.2 HY.out.1 (by omega)) hS.rl hn).mono ?_
  rintro e wk ⟨rfl, hE⟩
  clear g0 g1 g2 g4
  have hS := hS.ext_ hE
  have g0 := hS.box.cell 0
  have g1 := hS.box.cell 1
  have g2 := hS.box.cell 2
  have g4 := hS.box.cell 4
  simp only [List.getElem?_toArray, List.getElem?_cons_zero, List.getElem?_cons_succ] at g0 g1 g2 g4
  clear hE
  go_wp2_with fail
  refine (lplace_any gl n (n + 40) ys A c xs w _ hS.rl HY.out.1 HXW.out.1 hn (Lib.hid fun w' hw' => HX.out.ext hw'.1) hS.ext hgw).mono ?_
  rintro e wk ⟨rfl, hrl, hEO⟩
  clear g0 g1 g2 g4
  have hS := hS.placed hrl hEO
  have g0 := hS.box.cell 0
  have g1 := hS.box.cell 1
  have g2 := hS.box.cell 2
  have g4 := hS.box.cell 4
  simp only [List.getElem?_toArray, List.getElem?_cons_zero, List.getElem?_cons_succ] at g0 g1 g2 g4
  clear hrl hEO
  go_wp2_with fail
  refine (HRX.out _ _ (hS.rl.wdsp HXW.out.2 HXW.out.1 (by omega))).mono ?_
  rintro e wk ⟨r, rfl, hr, hc, hE⟩
  have hS := hS.ext_ hE
  go_wp2_with fail
  refine (HL.out r _ hr).mono ?_
  rintro e w' ⟨rfl, rfl⟩
  rw [hc]
  clear g0 g1 g2 g4
  have g0 := hS.box.cell 0
  have g1 := hS.box.cell 1
  have g2 := hS.box.cell 2
  have g4 := hS.box.cell 4
  simp only [List.getElem?_toArray, List.getElem?_cons_zero, List.getElem?_cons_succ] at g0 g1 g2 g4
  clear hc hr hE
  go_wp2_with fail
  refine (lleft_any A n c gl xs _ (HX.out.ext hS.ext) hS.rl hn).mono ?_
  rintro e wk ⟨rfl, hE⟩
  clear g0 g1 g2 g4
  have hS := hS.ext_ hE
  have g0 := hS.box.cell 0
  have g1 := hS.box.cell 1
  have g2 := hS.box.cell 2
  have g4 := hS.box.cell 4
  simp only [List.getElem?_toArray, List.getElem?_cons_zero, List.getElem?_cons_succ] at g0 g1 g2 g4
  clear hE
  go_wp2
  go_ret
  exact ⟨rfl, hS.ext⟩

theorem ofs_law (d : Int) (neg : Bool) (A : Option Addr) (n c : Nat) (xs : List Nat) (B : Option Addr) (m e' : Nat) (ys : List Nat) (exp : Int) (w : World) (h : Wds w A n c xs) (_ : Wds w B m e' ys) (hn : n ≤ 1048576) (_ : m ≤ 1048576) :
    Calls Try.prog 5 #[.agg #[.int .i64 d, .bool neg, .slice A n c, .slice B m e', .int .i64 exp]] w fun e w' => e = .returned (.bool true) ∧ Ext w w' := ofs_walk d neg A n c xs B m e' exp w h hn
end Go.Proofs.Ytjblogfbcglnmaa
