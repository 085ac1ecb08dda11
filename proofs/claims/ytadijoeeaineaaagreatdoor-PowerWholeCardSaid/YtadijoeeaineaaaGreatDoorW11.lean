/-
  The contracts of the program's own naturals, seventh part: Shl. Conditions: those that each theorem names.
-/
import Derived.Test.YtadijoeeaineaaaGreatDoorW10
import Derived.Test.YtadijoeeaineaaaGreatDoorW04
import Derived.Test.YtadijoeeaineaaaGreatDoorW07
import Derived.Test.YtadijoeeaineaaaGreatDoorW09
import Derived.Test.YtadijoeeaineaaaGreatDoorW03
namespace Go.Proofs.YtadijoeeaineaaaGreatDoor
open Go.RowKit Nm
set_option maxRecDepth 100000
set_option linter.unusedVariables false
set_option linter.unusedSimpArgs false

/-- The list cut, its room kept. -/
theorem Wds.pre {w : World} {A : Option Addr} {n c : Nat} {xs : List Nat} (h : Wds w A n c xs) : Wds w A (nw (nv xs)) c (nd (nv xs)) := by
  have hle : nw (nv xs) ≤ n := by have := nw_nv_le h.ws; have := h.len; omega
  have hc1 := h.lec
  refine ⟨nd_length _, by omega, h.cmax, Ws.nd _, fun h0 => ?_⟩
  obtain ⟨ad, e, hlt, hc⟩ := h.2.2.2.2 (by omega)
  refine ⟨ad, e, hlt, fun k x hk => hc k x ?_⟩
  rw [nd_take h.ws, List.getElem?_take] at hk
  split at hk
  · exact hk
  · cases hk
theorem isLong_nd (V : Nat) (A : Option Addr) (n c : Nat) : isLong ⟨A, n, c, nd V⟩ = decide (16384 < nw V) := by
  unfold isLong; rw [nv_nd]

/-- long, of one list. -/
theorem nlong_one (g c : Nat) (A : Option Addr) (m d V : Nat) (w : World) (hc : w.cell? ⟨g, 0, none⟩ = some (.slice A m d)) (h : Wds w A m d (nd V)) (hm : m ≤ 35184372088832) :
    Calls Tryz.prog 107 #[.slice (some ⟨g, 0, none⟩) 1 c] w fun e w' => e = .returned (.bool (decide (16384 < nw V))) ∧ w = w' :=
  (nlong_any g 1 c [⟨A, m, d, nd V⟩] w rfl (by omega) (fun i s hs => by
    match i, hs with
    | 0, hs => simp at hs; subst hs; exact hc
    | i + 1, hs => simp at hs) (fun s hs => by simp at hs; subst hs; exact ⟨h, hm⟩)).mono fun e w' h => ⟨by rw [h.1]; exact ret_bool (by simp [isLong_nd]), h.2⟩

set_option maxHeartbeats 1000000 in
theorem nshl_zero (A : Option Addr) (n c : Nat) (xs : List Nat) (s : Nat) (w : World) (h : Wds w A n c xs) (hn : n ≤ 17592186044416) (hs : s ≤ 35184372088832) (h0 : nv xs = 0) :
    Calls Tryz.prog 115 #[.slice A n c, .int .i64 (s : Int)] w (RetWE 0 0 w) := by
  have hnw := nwords_any A n c xs w h (by omega)
  have hpre := h.pre
  rw [h0, nw_zero] at hnw hpre
  have HN := Lib.hid hnw
  have HL := Lib.hid (fun g w hc h => nlong_one g 1 A 0 c 0 w hc h (by omega))
  have hlec := h.lec
  clear hnw h0
  cases A
  all_goals
    go_enter Tryz.func115, Tryz.ntmps115
    go_wp2_with (first | (go_at_call 131; refine HN.out.mono ?_; rintro e w' ⟨rfl, rfl⟩) | (go_at_call 107; refine (HL.out _ _ (by simp) (hpre.alloc _)).mono ?_; rintro e w' ⟨rfl, rfl⟩))
    go_ret2
    exact ⟨none, 0, 0, rfl, Wds.nil_ (by unfold maxLen; omega), (Ext.refl w).alloc _⟩

/-- The numbers of bits that have room. -/
theorem nw_of_bl {V : Nat} (h : bl V ≤ 524288) : nw V ≤ 16384 := by rw [nw_bl]; omega
theorem bl_le_nw (V : Nat) : bl V ≤ 32 * nw V := by rw [bl_le_iff, ← pow32]; exact lt_pow_nw V
theorem bl_of_nw {V : Nat} (h : 16384 < nw V) : 524288 < bl V := by rw [nw_bl] at h; omega

set_option maxHeartbeats 2000000 in
theorem nshl_any (A : Option Addr) (n c : Nat) (xs : List Nat) (s : Nat) (w : World) (h : Wds w A n c xs) (hn : n ≤ 17592186044416) (h0 : nv xs ≠ 0) (hs : bl (nv xs) + s ≤ 524288) :
    Calls Tryz.prog 115 #[.slice A n c, .int .i64 (s : Int)] w (RetWE (nv xs * 2 ^ s) 0 w) := by
  have hnw := nwords_any A n c xs w h (by omega)
  have hpre := h.pre
  have hle : nw (nv xs) ≤ n := by have := nw_nv_le h.ws; have := h.len; omega
  have hnl : nw (nv xs) ≤ 16384 := nw_of_bl (by omega)
  have hn1 : 0 < nw (nv xs) := by rcases Nat.eq_zero_or_pos (nw (nv xs)) with e | e; exact absurd (nw_eq_zero.1 e) h0; exact e
  obtain ⟨V, hV⟩ : ∃ V, V = nv xs := ⟨_, rfl⟩
  rw [← hV] at hnw hpre hle hnl hn1 hs ⊢
  have hvn := nv_nd V
  obtain ⟨m, hm⟩ : ∃ m, m = nw V := ⟨_, rfl⟩
  obtain ⟨vs, hvs⟩ : ∃ vs, vs = nd V := ⟨_, rfl⟩
  rw [← hm] at hnw hle hnl hn1
  have hLG : ∀ g w, w.cell? ⟨g, 0, none⟩ = some (.slice A m c) → Wds w A m c vs → Calls Tryz.prog 107 #[.slice (some ⟨g, 0, none⟩) 1 1] w fun e w' => e = .returned (.bool false) ∧ w = w' := fun g w hc hw =>
    (nlong_one g 1 A m c V w hc (hvs ▸ hw) (by omega)).mono fun e w' h => ⟨by rw [h.1, ← hm, decide_eq_false (by omega)], h.2⟩
  rw [← hm, ← hvs] at hpre
  rw [← hvs] at hvn
  obtain ⟨B, hB⟩ : ∃ B, B = bl V := ⟨_, rfl⟩
  rw [← hB] at hs
  have hLen : ∀ w, Wds w A m c vs → Calls Tryz.prog 110 #[.slice A m c] w fun e w' => e = .returned (.int .i64 (B : Int)) ∧ w = w' := fun w hw =>
    (nlen_any A m c vs w hw (by omega)).mono fun e w' h => ⟨by rw [h.1, hvn, ← hB], h.2⟩
  have hUp : ∀ w, Wds w A m c vs → Calls Tryz.prog 137 #[.slice A m c, .int .i64 (s : Int)] w (RetW (V * 2 ^ s) w) := fun w hw => by
    have := nup_any A m c vs s w hw (by omega) (by omega)
    rwa [hvn] at this
  have HN := Lib.hid hnw
  have HG := Lib.hid hLG
  have HE := Lib.hid hLen
  have HU := Lib.hid hUp
  have hp1 := hpre.alloc (.cells #[.slice A m c] 38)
  have hlec := h.lec
  clear hnw hLG hLen hUp hV hvn hm hvs hB h0 h
  cases A
  all_goals
    go_enter Tryz.func115, Tryz.ntmps115
    go_wp2_with (first | (go_at_call 131; refine HN.out.mono ?_; rintro e w' ⟨rfl, rfl⟩) | (go_at_call 107; refine (HG.out _ _ (by simp) hp1).mono ?_; rintro e w' ⟨rfl, rfl⟩) | (go_at_call 110; refine (HE.out _ hp1).mono ?_; rintro e w' ⟨rfl, rfl⟩) | (go_at_call 137; refine (HU.out _ hp1).mono ?_; rintro e w' ⟨A2, n2, c2, rfl, hR, hE⟩))
    go_ret2
    exact ⟨A2, n2, c2, rfl, hR, ((Ext.refl w).alloc _).trans hE⟩
set_option maxHeartbeats 2000000 in
theorem nshl_long (A : Option Addr) (n c : Nat) (xs : List Nat) (s : Nat) (w : World) (h : Wds w A n c xs) (hn : n ≤ 17592186044416) (h0 : nv xs ≠ 0) (hnl : nw (nv xs) ≤ 16384) (hsb : s ≤ 35184372088832) (hs : 524288 < bl (nv xs) + s) :
    Calls Tryz.prog 115 #[.slice A n c, .int .i64 (s : Int)] w (RetWE 0 2 w) := by
  have hnw := nwords_any A n c xs w h (by omega)
  have hpre := h.pre
  have hle : nw (nv xs) ≤ n := by have := nw_nv_le h.ws; have := h.len; omega
  have hn1 : 0 < nw (nv xs) := by rcases Nat.eq_zero_or_pos (nw (nv xs)) with e | e; exact absurd (nw_eq_zero.1 e) h0; exact e
  obtain ⟨V, hV⟩ : ∃ V, V = nv xs := ⟨_, rfl⟩
  rw [← hV] at hnw hpre hle hnl hn1 hs
  have hvn := nv_nd V
  obtain ⟨m, hm⟩ : ∃ m, m = nw V := ⟨_, rfl⟩
  obtain ⟨vs, hvs⟩ : ∃ vs, vs = nd V := ⟨_, rfl⟩
  rw [← hm] at hnw hle hnl hn1
  have hLG : ∀ g w, w.cell? ⟨g, 0, none⟩ = some (.slice A m c) → Wds w A m c vs → Calls Tryz.prog 107 #[.slice (some ⟨g, 0, none⟩) 1 1] w fun e w' => e = .returned (.bool false) ∧ w = w' := fun g w hc hw =>
    (nlong_one g 1 A m c V w hc (hvs ▸ hw) (by omega)).mono fun e w' h => ⟨by rw [h.1, ← hm, decide_eq_false (by omega)], h.2⟩
  rw [← hm, ← hvs] at hpre
  rw [← hvs] at hvn
  obtain ⟨B, hB⟩ : ∃ B, B = bl V := ⟨_, rfl⟩
  rw [← hB] at hs
  have hLen : ∀ w, Wds w A m c vs → Calls Tryz.prog 110 #[.slice A m c] w fun e w' => e = .returned (.int .i64 (B : Int)) ∧ w = w' := fun w hw =>
    (nlen_any A m c vs w hw (by omega)).mono fun e w' h => ⟨by rw [h.1, hvn, ← hB], h.2⟩
  have hBb : B ≤ 524288 := by have := bl_le_nw V; omega
  have HN := Lib.hid hnw
  have HG := Lib.hid hLG
  have HE := Lib.hid hLen
  have hp1 := hpre.alloc (.cells #[.slice A m c] 38)
  have hlec := h.lec
  clear hnw hLG hLen hV hvn hm hvs hB h0 h
  cases A
  all_goals
    go_enter Tryz.func115, Tryz.ntmps115
    go_wp2_with (first | (go_at_call 131; refine HN.out.mono ?_; rintro e w' ⟨rfl, rfl⟩) | (go_at_call 107; refine (HG.out _ _ (by simp) hp1).mono ?_; rintro e w' ⟨rfl, rfl⟩) | (go_at_call 110; refine (HE.out _ hp1).mono ?_; rintro e w' ⟨rfl, rfl⟩))
    go_ret2
    exact ⟨none, 0, 0, rfl, Wds.nil_ (by unfold maxLen; omega), (Ext.refl w).alloc _⟩
end Go.Proofs.YtadijoeeaineaaaGreatDoor

/-
  Plain: what a float-valued call answers; rounded patterns are numbers. Conditions: those that each theorem names.
-/
namespace Go.Proofs.YtadijoeeaineaaaGreatDoor
open Go.RowKit Nm Rn
set_option maxRecDepth 100000
set_option linter.unusedVariables false
set_option linter.unusedSimpArgs false

theorem fbSig_nw (b : Nat) : nw (fbSig b) ≤ 2 := (nw_le_iff _ 2).2 (by have := fbSig_lt b; omega)
theorem fbSig_bl (b : Nat) : bl (fbSig b) ≤ 64 := by have h1 := bl_le_nw (fbSig b); have := fbSig_nw b; omega
/-- What a rounding answers: NaN is any of them. -/
def RetFl (v : Nat) (w : World) (e : Ending) (w' : World) : Prop :=
  ∃ r, e = .returned (.float .f64 r) ∧ r < 18446744073709551616 ∧ cn r = v ∧ Ext w w'
theorem cn_nan {r : Nat} (h : isNaN r = true) : cn r = NaNc := by unfold cn; rw [h]; rfl
theorem cn_num {r : Nat} (h : isNaN r = false) : cn r = r := by unfold cn; rw [h]; rfl
theorem pl_nan {r : Nat} (h : isNaN r = true) : pl r = r := by
  unfold pl
  split
  · rename_i h0; subst h0; cases h
  · rfl
theorem cn_infP (s : Bool) : cn (infP s) = infP s := by cases s <;> rfl
theorem pl_infP (s : Bool) : pl (infP s) = infP s := by cases s <;> rfl
theorem infP_lt (s : Bool) : infP s < 18446744073709551616 := by cases s; exact infR_lt; exact minf_lt
theorem rnd_ok (d : Int) (neg : Bool) (Z : Nat) : rnd d neg Z < 18446744073709551616 ∧ isNaN (rnd d neg Z) = false := by
  have h := rr_le d neg Z
  rw [infR_val] at h
  unfold rnd pat
  generalize rr d neg Z = r at h
  have h2 : isNaN 0 = false := rfl
  by_cases h0 : r = 0
  · rw [if_pos h0]; exact ⟨by omega, h2⟩
  · rw [if_neg h0]
    unfold isNaN mg
    rw [infR_val]
    cases neg
    · simp; omega
    · simp; omega
theorem rT_ok (d : Int) (T : Int) : rT d T < 18446744073709551616 ∧ cn (rT d T) = rT d T := ⟨(rnd_ok _ _ _).1, cn_num (rnd_ok _ _ _).2⟩
end Go.Proofs.YtadijoeeaineaaaGreatDoor

/-
  The contracts of the program's exact road: the parts of a float. Conditions: those that each theorem names.
-/
namespace Go.Proofs.YtadijoeeaineaaaGreatDoor
open Go.RowKit Nm Rn
set_option maxRecDepth 100000
set_option linter.unusedVariables false
set_option linter.unusedSimpArgs false

/-- What is answered: a sign, a natural and an exponent. -/
def RetD (neg : Bool) (V : Nat) (x : Int) (w : World) (e : Ending) (w' : World) : Prop :=
  ∃ A n c, e = .returned (.agg #[.bool neg, .slice A n c, .int .i64 x]) ∧ Wds w' A n c (nd V) ∧ Ext w w'
theorem zero_dy (w : World) : (zeroValue 79).run Tryz.prog w = .ok (.agg #[.bool false, .slice none 0 0, .int .i64 0]) w := by kernel_rfl
theorem agg_dy (w : World) : (isAgg 79).run Tryz.prog w = .ok true w := by kernel_rfl
theorem size_dy (w : World) : (sizeOf 79).run Tryz.prog w = .ok 3 w := by kernel_rfl

theorem and52 (b : Nat) (h : b < 18446744073709551616) : bits .and .u64 (b : Int) 4503599627370495 = ((b % 4503599627370496 : Nat) : Int) := by
  rw [show (4503599627370495 : Int) = ((4503599627370495 : Nat) : Int) from rfl, u64_and_nat _ _ h (by omega)]
  congr 1
  exact Nat.and_two_pow_sub_one_eq_mod b 52
theorem and11 (b : Nat) (h : b < 18446744073709551616) : bits .and .u64 ((b : Int) / 4503599627370496) 2047 = ((b / 4503599627370496 % 2048 : Nat) : Int) := by
  rw [show (2047 : Int) = ((2047 : Nat) : Int) from rfl, show (b : Int) / 4503599627370496 = ((b / 4503599627370496 : Nat) : Int) from rfl, u64_and_nat _ _ (by omega) (by omega)]
  congr 1
  exact Nat.and_two_pow_sub_one_eq_mod (b / 4503599627370496) 11
theorem or52 (f : Nat) (h : f < 4503599627370496) : bits .or .u64 (f : Int) 4503599627370496 = ((f + 4503599627370496 : Nat) : Int) := by
  rw [show (4503599627370496 : Int) = ((4503599627370496 : Nat) : Int) from rfl, u64_or_nat _ _ (by omega) (by omega)]
  congr 1
  have := Nat.two_pow_add_eq_or_of_lt (i := 52) (b := f) h 1
  rw [Nat.or_comm, ← Nat.mul_one 4503599627370496]
  have h2 : (2 ^ 52 : Nat) = 4503599627370496 := rfl
  rw [h2] at this
  omega

set_option maxHeartbeats 1000000 in
theorem part_any (b : Nat) (w : World) (hb : b < 18446744073709551616) :
    Calls Tryz.prog 58 #[.float .f64 b] w (RetD (sg b) (fbSig b) (fbExp b) w) := by
  have hO := Own.start w
  have hA := and52 b hb
  have hB := and11 b hb
  have hS : ((b : Int) / 9223372036854775808 == 1) = sg b := by
    unfold sg; rw [Bool.eq_iff_iff, beq_iff_eq, decide_eq_true_iff]; omega
  have hC := or52 (b % 4503599627370496) (by omega)
  have e1 : fbSig b = if b / 4503599627370496 % 2048 = 0 then b % 4503599627370496 else b % 4503599627370496 + 4503599627370496 := rfl
  have e2 : fbExp b = (if b / 4503599627370496 % 2048 = 0 then 0 else (b / 4503599627370496 % 2048 : Nat) - 1 : Int) - 1074 := rfl
  have hE : b / 4503599627370496 % 2048 < 2048 := by omega
  have hF : b % 4503599627370496 < 4503599627370496 := by omega
  obtain ⟨V, hV⟩ : ∃ V, V = fbSig b := ⟨_, rfl⟩
  obtain ⟨X, hX⟩ : ∃ X, X = fbExp b := ⟨_, rfl⟩
  rw [← hV] at e1 ⊢
  rw [← hX] at e2 ⊢
  clear hV hX
  generalize b / 4503599627370496 % 2048 = E at *
  generalize b % 4503599627370496 = F at *
  generalize sg b = S at *
  have H1 := Lib.hid e1
  have H2 := Lib.hid e2
  clear e1 e2
  rcases Nat.eq_zero_or_pos E with h0 | h0
  · have e1 := H1.out
    rw [if_pos h0] at e1
    have e2 := H2.out
    rw [if_pos h0] at e2
    subst e1 h0
    have H2 := Lib.hid e2
    clear e2 hC H1
    have HSM := Lib.hid (fun w => nsmall_any V w (by omega))
    go_enter Tryz.func58, Tryz.ntmps58
    go_wp2_with (first
      | (refine own_alloc hO zero_dy rfl rfl ?_; clear hO; intro g w1 hO)
      | (go_at_call 88; refine (HSM.out _).mono ?_; rintro e w' ⟨A, n, c, rfl, hR, hEx⟩; have hO := (hO.ext hEx).add hR; clear hR hEx)
      | (refine own_store hO 0 rfl rfl rfl size_dy rfl rfl rfl ?_; clear hO; intro w1 hO))
    exact own_ret hO 0 rfl rfl rfl agg_dy size_dy rfl ⟨_, _, _, by rw [H2.out]; rfl, hO.wd 0 rfl, hO.toExt⟩
  · have e1 := H1.out
    rw [if_neg (by omega)] at e1
    have e2 := H2.out
    rw [if_neg (by omega)] at e2
    rw [← e1] at hC
    have hV : V < 18446744073709551616 := by omega
    have H2 := Lib.hid e2
    clear e1 e2 H1
    have HSM := Lib.hid (fun w => nsmall_any V w hV)
    clear hV
    go_enter Tryz.func58, Tryz.ntmps58
    go_wp2_with (first
      | (refine own_alloc hO zero_dy rfl rfl ?_; clear hO; intro g w1 hO)
      | (go_at_call 88; refine (HSM.out _).mono ?_; rintro e w' ⟨A, n, c, rfl, hR, hEx⟩; have hO := (hO.ext hEx).add hR; clear hR hEx)
      | (refine own_store hO 0 rfl rfl rfl size_dy rfl rfl rfl ?_; clear hO; intro w1 hO))
    exact own_ret hO 0 rfl rfl rfl agg_dy size_dy rfl ⟨_, _, _, by rw [H2.out]; rfl, hO.wd 0 rfl, hO.toExt⟩
end Go.Proofs.YtadijoeeaineaaaGreatDoor

/-
  The contracts of the reference's naturals, fifth part: zeros at the bottom, shifts down. Conditions: those that each theorem names.
-/
namespace Go.Proofs.YtadijoeeaineaaaGreatDoor
open Go.RowKit Nm
set_option maxRecDepth 100000
set_option linter.unusedVariables false
set_option linter.unusedSimpArgs false

set_option maxHeartbeats 1000000 in
theorem zeros_any (A : Option Addr) (n c : Nat) (xs : List Nat) (w : World) (h : Wds w A n c xs) (hn : n ≤ 35184372088832) :
    Calls Tryz.prog 75 #[.slice A n c] w fun e w' => e = .returned (.int .i64 (tz (nv xs) : Int)) ∧ w = w' := by
  have hlx := h.len
  by_cases h0 : nv xs = 0
  · have hz : nw (nv xs) ≤ 0 := by rw [h0, nw_zero]; omega
    have HF : Hid ((0 : Int) = (tz (nv xs) : Int)) := Lib.hid (by rw [h0]; rfl)
    clear h0
    go_enter Tryz.func75, Tryz.ntmps75
    go_wp2_with (go_at_call 43; refine (words_any _ _ _ _ _ h (by omega)).mono ?_; rintro e w' ⟨rfl, rfl⟩)
    go_ret
    exact ⟨ret_int HF.out, rfl⟩
  · have hpos : 0 < nw (nv xs) := by
      rcases Nat.eq_zero_or_pos (nw (nv xs)) with e | e
      · exact absurd (nw_eq_zero.1 e) h0
      · exact e
    have htz : tz (nv xs) ≤ 32 * n := by
      have h1 := tz_lt h0
      have h2 := (bl_le_iff (nv xs) (32 * xs.length)).2 (by rw [← pow32]; exact nv_lt h.ws)
      omega
    have H0 := Lib.hid h0
    clear h0
    go_enter Tryz.func75, Tryz.ntmps75
    go_wp2_with (go_at_call 43; refine (words_any _ _ _ _ _ h (by omega)).mono ?_; rintro e w' ⟨rfl, rfl⟩)
    go_loop [3] (fun kv => ∃ j : Nat, 32 * j ≤ tz (nv xs) ∧ kv = .int .i64 ((32 * j : Nat) : Int)) (fun kv => 32 * n + 32 - (intOf kv).toNat)
    case atStart => exact ⟨0, by omega, rfl⟩
    case round =>
      obtain ⟨j, hj, rfl⟩ := hrel
      obtain ⟨hjl, hz1, hz2⟩ := tz_word h.ws H0.out hj
      obtain ⟨ad, hx, rfl, hb, hc⟩ := h.at_ (k := j) (by omega)
      have g1 : ((32 * j : Nat) : Int) / 32 = (j : Int) := by omega
      obtain ⟨J, hJ⟩ : ∃ J, J = 32 * j := ⟨_, rfl⟩
      rw [← hJ] at hj g1
      rw [← hJ]
      have HJ := Lib.hid hJ
      clear hJ
      by_cases hx0 : xs[j] = 0
      · have h1 := hz1 hx0
        clear hz1 hz2
        go_wp2
        go_round
        case rel => exact ⟨j + 1, h1, val_int (by have := HJ.out; omega)⟩
        case measure => simp [intOf]; have := HJ.out; omega
      · have hle : tz (nv xs) < J + 32 := by
          rcases Nat.lt_or_ge (tz (nv xs)) (J + 32) with hl | hl
          · exact hl
          · exact absurd (hz2 (by have := HJ.out; omega)) hx0
        clear hz1 hz2
        go_wp2
        go_loop [3] (fun kv => ∃ k : Nat, k ≤ tz (nv xs) ∧ kv = .int .i64 (k : Int)) (fun kv => 32 * n + 32 - (intOf kv).toNat)
        case atStart => exact ⟨J, hj, rfl⟩
        case round =>
          obtain ⟨k, hk, rfl⟩ := hrel
          have hbit := bit_any (some ad) n c xs k w h (by omega) (by omega)
          by_cases hkt : k < tz (nv xs)
          · rw [tz_low H0.out hkt] at hbit
            have HB := Lib.hid hbit
            clear hbit
            go_wp2_with (go_at_call 105; refine HB.out.mono ?_; rintro e w' ⟨rfl, rfl⟩)
            go_round
            case rel => exact ⟨k + 1, by omega, by go_num⟩
            case measure => simp [intOf]; omega
          · have hke : k = tz (nv xs) := by omega
            rw [hke, tz_bit H0.out] at hbit
            have HB := Lib.hid hbit
            have HK := Lib.hid hke
            clear hbit hke
            go_wp2_with (go_at_call 105; rw [HK.out]; refine HB.out.mono ?_; rintro e w' ⟨rfl, rfl⟩)
            go_ret
            exact ⟨rfl, rfl⟩

/-- Is something cut off? -/
def lostB (V s : Nat) : Bool := decide (V % 2 ^ s ≠ 0)
theorem lostB_zero (s : Nat) : lostB 0 s = false := by simp [lostB]
theorem lostB_true {V s : Nat} (h : V % 2 ^ s ≠ 0) : lostB V s = true := by simp [lostB, h]

/-- What is answered: a list of the words of V, and a bool. -/
def RetWB (V : Nat) (b : Bool) (w : World) (e : Ending) (w' : World) : Prop := ∃ A n c, e = .returned (.tuple #[.slice A n c, .bool b]) ∧ Wds w' A n c (nd V) ∧ Ext w w'

set_option maxHeartbeats 1000000 in
theorem right_any (A : Option Addr) (n c : Nat) (xs : List Nat) (s : Nat) (w : World) (h : Wds w A n c xs) (hn : n ≤ 17592186044416) (hs : s ≤ 4611686018427387904) :
    Calls Tryz.prog 76 #[.slice A n c, .int .i64 (s : Int)] w (RetWB (nv xs / 2 ^ s) (lostB (nv xs) s) w) := by
  have hxl : nw (nv xs) ≤ xs.length := nw_nv_le h.ws
  have hlx := h.len
  by_cases h0 : nv xs = 0
  · have hz : nw (nv xs) ≤ 0 := by rw [h0, nw_zero]; omega
    have HF : Hid (nd (nv xs / 2 ^ s) = []) := Lib.hid (by rw [h0, Nat.zero_div, nd_zero])
    have HF2 : Hid (lostB (nv xs) s = false) := Lib.hid (by rw [h0, lostB_zero])
    clear h0
    rw [HF2.out]
    go_enter Tryz.func76, Tryz.ntmps76
    go_wp2_with (go_at_call 43; refine (words_any _ _ _ _ _ h (by omega)).mono ?_; rintro e w' ⟨rfl, rfl⟩)
    go_ret2
    exact ⟨none, 0, 0, rfl, by rw [HF.out]; exact Wds.nil_ (by unfold maxLen; omega), Ext.refl _⟩
  · obtain ⟨D, S, hS, hsD⟩ : ∃ D S, S < 32 ∧ s = 32 * D + S := ⟨s / 32, s % 32, Nat.mod_lt _ (by omega), by omega⟩
    have hpos : 0 < nw (nv xs) := by
      rcases Nat.eq_zero_or_pos (nw (nv xs)) with e | e
      · exact absurd (nw_eq_zero.1 e) h0
      · exact e
    have hq : (s : Int) / 32 = (D : Int) := by omega
    have hr : (s : Int) % 32 = (S : Int) := by omega
    have HTk := Lib.hid (take_nw h.ws).1
    have HLT := Lib.hid (lt_pow_nw (nv xs))
    have H0 := Lib.hid h0
    have hw := words_any A n c xs w h (by omega)
    obtain ⟨t, ht⟩ : ∃ t, t = nw (nv xs) := ⟨_, rfl⟩
    rw [← ht] at hw hxl hpos HTk HLT
    have HT := Lib.hid ht
    have HW := Lib.hid hw
    clear ht hw h0
    by_cases hD : D < t
    · obtain ⟨ad, hx, rfl, hb, hc⟩ := h.at_ (k := D) (by omega)
      have hX32 := h.ws.get hx
      have HSD := Lib.hid hsD
      clear hsD
      have hlow := shl_low xs[D] hS
      obtain ⟨x0, hx0⟩ : ∃ x0, x0 = xs[D] := ⟨_, rfl⟩
      have HR := Lib.hid (right_mod h.ws hx hS)
      have HX := Lib.hid hx0
      rw [← hx0] at hlow hc hX32
      clear hx0
      have hY : (∃ Y : Nat, 0 < Y ∧ 0 < S ∧ Hid (x0 % 2 ^ S ≠ 0) ∧ (x0 : Int) * 2 ^ (31 - S) % 4294967296 * 2 % 4294967296 = (Y : Int)) ∨ (Hid (x0 % 2 ^ S = 0) ∧ (x0 : Int) * 2 ^ (31 - S) % 4294967296 * 2 % 4294967296 = 0) := by
        have e : (x0 : Int) * 2 ^ (31 - S) % 4294967296 * 2 % 4294967296 = ((x0 % 2 ^ S * 2 ^ (32 - S) : Nat) : Int) := by
          rw [← hlow, Int.natCast_emod, Int.natCast_mul, Int.natCast_emod, Int.natCast_mul, Int.natCast_pow]; rfl
        by_cases hz : x0 % 2 ^ S = 0
        · right
          refine ⟨Lib.hid hz, ?_⟩
          rw [e, hz, Nat.zero_mul]; rfl
        · left
          refine ⟨_, Nat.mul_pos (by omega) (Nat.pow_pos (by omega)), ?_, Lib.hid hz, e⟩
          rcases Nat.eq_zero_or_pos S with h0 | h0
          · rw [h0] at hz; simp [Nat.mod_one] at hz
          · exact h0
      clear hlow
      rcases hY with ⟨Y, hYp, hSp, hlz, hYe⟩ | ⟨hlz, hYe⟩
      all_goals
        go_enter Tryz.func76, Tryz.ntmps76
        go_wp2_with (go_at_call 43; refine HW.out.mono ?_; rintro e w' ⟨rfl, rfl⟩)
        clear hYe
        go_loop [8, 9] (fun lv iv => ∃ (i : Nat) (b : Bool), i ≤ D ∧ iv = .int .i64 i ∧ lv = .bool b ∧ Hid (b = decide (nv (xs.take i) ≠ 0 ∨ x0 % 2 ^ S ≠ 0))) (fun _ iv => D - (intOf iv).toNat)
        case atStart => exact ⟨0, _, Nat.zero_le _, rfl, rfl, Lib.hid (by simp [nv, hlz.out]; try omega)⟩
        case round =>
          obtain ⟨i, b, hi, rfl, rfl, hbe⟩ := hrel
          by_cases hlt : i < D
          · obtain ⟨ad', hxi, hae, _, hci⟩ := h.at_ (k := i) (by omega)
            injection hae with hae
            subst hae
            have hts := Lib.hid (nv_take_succ hxi)
            cases b
            · by_cases hz : xs[i] = 0
              · go_wp2
                go_round
                case rel => exact ⟨i + 1, false, by omega, by go_num, rfl, Lib.hid (by rw [hbe.out, hts.out, hz, Nat.mul_zero, Nat.add_zero])⟩
                case measure => simp [intOf]; omega
              · have hnz : Hid (nv (xs.take (i + 1)) ≠ 0) := Lib.hid (by
                  rw [hts.out]
                  have : 4294967296 ^ i * 1 ≤ 4294967296 ^ i * xs[i] := Nat.mul_le_mul_left _ (by omega)
                  have : 0 < 4294967296 ^ i := Nat.pow_pos (by omega)
                  omega)
                go_wp2
                go_round
                case rel => exact ⟨i + 1, _, by omega, by go_num, rfl, Lib.hid (by simp [hnz.out, hz])⟩
                case measure => simp [intOf]; omega
            · have hmono : Hid (nv (xs.take i) ≠ 0 ∨ x0 % 2 ^ S ≠ 0 → nv (xs.take (i + 1)) ≠ 0 ∨ x0 % 2 ^ S ≠ 0) := Lib.hid (by
                rw [hts.out]; omega)
              go_wp2
              go_round
              case rel => exact ⟨i + 1, true, by omega, by go_num, rfl, Lib.hid (by have := hbe.out; simp only [true_eq_decide_iff] at *; exact hmono.out this)⟩
              case measure => simp [intOf]; omega
          · have hie : i = D := by omega
            have HB : Hid (b = lostB (nv xs) s) := Lib.hid (by
              rw [hbe.out, hie, lostB, HSD.out]
              refine decide_eq_decide.2 ?_
              rw [HR.out, HX.out])
            subst hie
            go_wp2
            go_loopw [10, 11] (fun v iv wr => ∃ (k : Nat) (acc : List Nat), i + k ≤ t ∧ iv = .int .i64 ((i : Int) + (k : Int)) ∧ Ws acc ∧ Hid (acc.length = k) ∧ Hid (nv acc = nv xs / 2 ^ s % 4294967296 ^ k) ∧ wr.ownsRow w.heap.size 65 1 v k (u32s acc) ∧ Ext w wr) (fun _ iv _ => t - (intOf iv).toNat)
            case atStart => exact ⟨0, [], by omega, val_int (by omega), Ws.nil, Lib.hid rfl, Lib.hid (by simp [nv, Nat.mod_one]), World.ownsRow_nil _ _ _ _, Ext.refl _⟩
            case round =>
              obtain ⟨k, acc, hk, rfl, hacc, hal, hval, hown, hb1⟩ := hrel
              by_cases hlt2 : i + k < t
              · obtain ⟨ad', hxi, hae, _, hci⟩ := (h.ext hb1).at_ (k := i + k) (by omega)
                injection hae with hae
                subst hae
                have hw1 := right_word h.ws hxi (show i ≤ i + k by omega) hS
                rw [← HSD.out, show i + k - i = k by omega] at hw1
                have hx32 := h.ws.get hxi
                generalize xs[i + k] = x at *
                have hy : (i + k + 1 < t ∧ ∃ y : Nat, y < 4294967296 ∧ Hid (y = xs.getD (i + k + 1) 0) ∧ wr.cell? (ad.add (i + k + 1)) = some (.int .u32 (y : Int)) ∧ bits .or .u64 (x : Int) ((y : Int) * 4294967296) = ((x + 4294967296 * y : Nat) : Int)) ∨ (t ≤ i + k + 1 ∧ ∃ y : Nat, y ≤ 0 ∧ Hid (y = xs.getD (i + k + 1) 0)) := by
                  by_cases hl : i + k + 1 < t
                  · obtain ⟨ad', hxj, hae, _, hcj⟩ := (h.ext hb1).at_ (k := i + k + 1) (by omega)
                    injection hae with hae
                    subst hae
                    have hy32 := h.ws.get hxj
                    refine .inl ⟨hl, xs[i + k + 1], hy32, Lib.hid (getD_of hxj), hcj, ?_⟩
                    have e : (xs[i + k + 1] : Int) * 4294967296 = ((xs[i + k + 1] * 4294967296 : Nat) : Int) := by omega
                    rw [e, u64_or_nat _ _ (by omega) (by omega), Nat.or_comm, nat_join 32 _ _ (by omega) (by omega)]
                    omega
                  · exact .inr ⟨by omega, 0, by omega, Lib.hid (by rw [getD_nw h.ws (by have := HT.out; omega)])⟩
                obtain ⟨y, hy32, hyD, hyC⟩ : ∃ y : Nat, y < 4294967296 ∧ Hid (y = xs.getD (i + k + 1) 0) ∧ ((i + k + 1 < t ∧ wr.cell? (ad.add (i + k + 1)) = some (.int .u32 (y : Int)) ∧ bits .or .u64 (x : Int) ((y : Int) * 4294967296) = ((x + 4294967296 * y : Nat) : Int)) ∨ (t ≤ i + k + 1 ∧ y ≤ 0)) := by
                  rcases hy with ⟨hl, y, h1, h2, h3, h4⟩ | ⟨hl, y, h1, h2⟩
                  · exact ⟨y, h1, h2, .inl ⟨hl, h3, h4⟩⟩
                  · exact ⟨y, by omega, h2, .inr ⟨hl, h1⟩⟩
                clear hy
                rw [← hyD.out] at hw1
                obtain ⟨V, hV⟩ : ∃ V, V = x + 4294967296 * y := ⟨_, rfl⟩
                rw [← hV] at hw1 hyC
                have hV64 : V < 18446744073709551616 := by omega
                obtain ⟨Q, hQ⟩ : ∃ Q, Q = V / 2 ^ S := ⟨_, rfl⟩
                have hQV : Q ≤ V := by rw [hQ]; exact Nat.div_le_self _ _
                rw [← hQ] at hw1
                have eQ : (V : Int) / 2 ^ S = (Q : Int) := by rw [hQ]; push_cast; rfl
                obtain ⟨lo, hlo⟩ : ∃ lo, lo = Q % 4294967296 := ⟨_, rfl⟩
                rw [← hlo] at hw1
                have eL := and_mask Q lo (by omega) hlo
                have hlo32 : lo < 4294967296 := by omega
                have HN := Lib.hid (right_step hal.out hval.out hw1.symm)
                clear hw1 hQ hlo
                rcases hyC with ⟨hl, hcj, hor⟩ | ⟨hl, hy0⟩
                · clear hV
                  have hcj2 : wr.cell? { block := ad.block, off := ad.off + (i + k + 1) } = some (.int .u32 (y : Int)) := by simpa [Addr.add] using hcj
                  clear hcj
                  go_wp2_with (at_builtin; refine wp_app32 rfl (.tmp 77) (.tmp 83) rfl lo rfl hown hb1 rfl (by omega) (by omega) ?_; intro v' w1 hown' hE')
                  go_roundw
                  case rel => exact ⟨k + 1, acc ++ [lo], by omega, val_int (by omega), hacc.append (Ws.cons hlo32 Ws.nil), Lib.hid (by simp [hal.out]), HN, hown', hE'⟩
                  case measure => simp [intOf]; omega
                · have hVx : (x : Int) = (V : Int) := by omega
                  rw [hVx] at hci
                  clear hV hVx
                  go_wp2_with (at_builtin; refine wp_app32 rfl (.tmp 77) (.tmp 83) rfl lo rfl hown hb1 rfl (by omega) (by omega) ?_; intro v' w1 hown' hE')
                  go_roundw
                  case rel => exact ⟨k + 1, acc ++ [lo], by omega, val_int (by omega), hacc.append (Ws.cons hlo32 Ws.nil), Lib.hid (by simp [hal.out]), HN, hown', hE'⟩
                  case measure => simp [intOf]; omega
              · have HV : Hid (nv acc = nv xs / 2 ^ s) := Lib.hid (by
                  rw [hval.out]
                  refine Nat.mod_eq_of_lt ?_
                  have h1 := HLT.out
                  rw [pow32] at h1 ⊢
                  refine (Nat.div_lt_iff_lt_mul (Nat.pow_pos (by omega))).2 ?_
                  rw [← Nat.pow_add]
                  exact Nat.lt_of_lt_of_le h1 (Nat.pow_le_pow_right (by omega) (by have := HSD.out; omega)))
                obtain ⟨A', c', rfl, hW⟩ := Wds.of_own hown hacc
                go_wp2_with (go_at_call 74; refine (norm_any _ _ _ _ _ hW (by omega)).mono ?_; rintro e w2 ⟨A2, n2, c2, rfl, hR, hE2⟩)
                go_ret2
                exact ⟨A2, n2, c2, by rw [← HB.out]; rfl, by rw [← HV.out]; exact hR, hb1.trans hE2⟩
    · have HF : Hid (nd (nv xs / 2 ^ s) = []) := Lib.hid (by
        have h1 := HLT.out
        rw [pow32] at h1
        have : nv xs < 2 ^ s := Nat.lt_of_lt_of_le h1 (Nat.pow_le_pow_right (by omega) (by omega))
        rw [Nat.div_eq_of_lt this, nd_zero])
      have HF2 : Hid (lostB (nv xs) s = true) := Lib.hid (by
        have h1 := HLT.out
        rw [pow32] at h1
        have : nv xs < 2 ^ s := Nat.lt_of_lt_of_le h1 (Nat.pow_le_pow_right (by omega) (by omega))
        refine lostB_true ?_
        rw [Nat.mod_eq_of_lt this]
        exact H0.out)
      clear hsD
      rw [HF2.out]
      go_enter Tryz.func76, Tryz.ntmps76
      go_wp2_with (go_at_call 43; refine HW.out.mono ?_; rintro e w' ⟨rfl, rfl⟩)
      go_ret2
      exact ⟨none, 0, 0, rfl, by rw [HF.out]; exact Wds.nil_ (by unfold maxLen; omega), Ext.refl _⟩
end Go.Proofs.YtadijoeeaineaaaGreatDoor
