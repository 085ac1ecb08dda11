/-
  The contract of the program's inner root. Conditions: those that each theorem names.
-/
import Derived.Test.YtadijoeeaineaaaDoorZ35
import Derived.Test.YtadijoeeaineaaaDoorZ13
import Derived.Test.YtadijoeeaineaaaDoorZ14
import Derived.Test.YtadijoeeaineaaaDoorZ17
import Derived.Test.YtadijoeeaineaaaDoorZ33
import Derived.Test.YtadijoeeaineaaaDoorZ16
namespace Go.Proofs.YtadijoeeaineaaaDoor
open Go.RowKit Nm Rn
set_option maxRecDepth 100000
set_option linter.unusedVariables false
set_option linter.unusedSimpArgs false

set_option maxHeartbeats 8000000 in
theorem root_any (d : Int) (neg : Bool) (A : Option Addr) (l c V X N : Nat) (x : Int) (w : World) (h : Wds w A l c (nd V)) (hV : 1 ≤ V) (hb : bl V ≤ 53) (hX : (X : Int) = x + 1074) (hx : x ≤ 2000) (n1 : 1 ≤ N) (n2 : N ≤ 1024) :
    Calls Tryd.prog 84 #[.int .i64 d, .agg #[.bool neg, .slice A l c, .int .i64 x], .int .i64 (N : Int)] w fun e w' => e = .returned (.float .f64 (rootV d neg (V * 2 ^ X) K74 N)) ∧ Ext w w' := by
  have hl := h.nwe
  have hnV : nw V ≤ 2 := by have := nw_bl V; omega
  have HL := Lib.hid (fun (w : World) (h : Wds w A l c (nd V)) => nlen_any A l c (nd V) w h (by omega))
  simp only [nv_nd] at HL
  obtain ⟨k0, hk0⟩ : ∃ k0 : Nat, 58 * (N : Int) - (bl V : Int) = (k0 : Int) := ⟨58 * N - bl V, by omega⟩
  have hk0p : 0 < k0 := by omega
  obtain ⟨kE, e, c1, c2, c3, c4, c5, c6⟩ := shift_at x k0 n1
  have HSH := Lib.hid (fun (w : World) (h : Wds w A l c (nd V)) => nshl_any A l c (nd V) kE w h (by omega) (by rw [nv_nd]; omega) (by rw [nv_nd]; omega))
  simp only [nv_nd] at HSH
  have hSb : bl (V * 2 ^ kE) = bl V + kE := bl_mul_pow kE (by omega)
  have hS1 : 1 ≤ V * 2 ^ kE := Nat.mul_pos hV (two_pow_pos kE)
  have hRA := fun (r : Nat) a b => root_at (V := V) (k := kE) (X := X) (N := N) (r := r) a b c3 hX
  have hRL := fun (r : Nat) a => root_long (V := V) (k := kE) (N := N) (r := r) hV n1 (by omega) a
  have hval := fun {r : Nat} {o : Bool} (hr : RootAt (V * 2 ^ X) K74 N (-e) r o) (hb : 55 ≤ bl r) => hr.val (by omega) K74_pos (fun _ => hb) d neg
  obtain ⟨R, hR⟩ : ∃ R, R = rootV d neg (V * 2 ^ X) K74 N := ⟨_, rfl⟩
  rw [← hR] at hval ⊢
  obtain ⟨S, hS⟩ : ∃ S, S = V * 2 ^ kE := ⟨_, rfl⟩
  rw [← hS] at HSH hSb hS1 hRA hRL
  have HW := Lib.hid (fun (A : Option Addr) (m c : Nat) (w : World) (h : Wds w A m c (nd S)) => whole_any (bl S) A m c S N w (Nat.le_refl _) h hS1 (by omega) n1 n2)
  have hSn := nw_of_bl (V := S) (by omega)
  have HF : Hid (∀ r, r ^ N ≤ S → S < (r + 1) ^ N → bl r * N ≤ 70000 ∧ bl r ≤ 70000 ∧ 55 ≤ bl r ∧ nw (r ^ N) ≤ 16384 ∧ rnd d neg (zd (2 * r + (decide (r ^ N ≠ S)).toNat) (e - 1)) = R) := Lib.hid (fun r a b => by
    have g1 := hRL r b
    have g2 := hval (hRA r a b) g1
    have g3 := root_bl n1 a (by rcases Nat.eq_zero_or_pos r with e0 | e0; rw [e0, bl_zero] at g1; omega; exact e0)
    rw [Nat.mul_comm] at g3
    have g4 : bl r * 1 ≤ bl r * N := Nat.mul_le_mul_left _ n1
    refine ⟨by omega, by omega, g1, ?_, ?_⟩
    · exact Nat.le_trans (nw_mono a) hSn
    · rw [← g2]; congr 2; omega)
  have he1 : -100000 ≤ e ∧ e ≤ 100000 := by
    have h1 : (N : Int) * e ≤ 2000 := by omega
    have h2 : -100000 ≤ (N : Int) * e := by omega
    constructor
    · rcases Int.lt_or_le e (-100000) with h3 | h3
      · exfalso
        have : (N : Int) * e ≤ 1 * e := Int.mul_le_mul_of_nonpos_right (by omega) (by omega)
        omega
      · exact h3
    · rcases Int.lt_or_le 100000 e with h3 | h3
      · exfalso
        have : 1 * e ≤ (N : Int) * e := Int.mul_le_mul_of_nonneg_right (by omega) (by omega)
        omega
      · exact h3
  obtain ⟨he1, he2⟩ := he1
  have hO := (Own.start w).add h
  have HC6 := Lib.hid c6
  obtain ⟨B, hB⟩ : ∃ B, B = bl V := ⟨_, rfl⟩
  rw [← hB] at HL hk0 hb hSb
  have hkE : kE ≤ 70000 := by omega
  have hx1 : -1074 ≤ x := by omega
  clear hR hval hRA hRL hS hSb hS1 hl hnV h hX c3 c6 hB hV
  go_enter Tryd.func84, Tryd.ntmps84
  go_wp2_with (first | ((with_reducible refine at_box (T := 82) ?_); refine own_box (cs := [.bool neg, .slice A l c, .int .i64 x]) hO rfl rfl ?_; clear hO; intro ga wa hO; have hf := hO.cells; simp only [BC, CC, Nat.zero_add, Nat.reduceAdd, and_true] at hf))
  refine (HL.out _ (hO.wd 0 rfl)).mono ?_
  rintro e' w1 ⟨rfl, rfl⟩
  clear HL
  go_wp2
  go_loop [7] (fun kv => ∃ k : Nat, kv = .int .i64 (k : Int) ∧ k0 ≤ k ∧ k ≤ kE) (fun kv => (kE - intOf kv).toNat)
  case atStart => exact ⟨k0, by first | rfl | (congr 1; omega), by omega, by omega⟩
  case round =>
    obtain ⟨k, rfl, hk1, hk2⟩ := hrel
    by_cases hlt : k < kE
    · obtain ⟨T, hT⟩ : ∃ T, (x - (k : Int)).tmod (N : Int) = T := ⟨_, rfl⟩
      have hT0 : T ≠ 0 := by rw [← hT]; exact HC6.out k hk1 hlt
      have hN0 : (N : Int) ≠ 0 := by omega
      go_wp2
      go_round
      case rel => exact ⟨k + 1, by go_num, by omega, by omega⟩
      case measure => simp only [intOf]; omega
    · have hke : k = kE := by omega
      subst hke
      have hN0 : (N : Int) ≠ 0 := by omega
      have hNn : ¬ N = 0 := by omega
      have hwx : IntKind.i64.wrap (x - (k : Int)) = x - (k : Int) := by rw [IntKind.wrap_i64]; omega
      have hwe : IntKind.i64.wrap e = e := by rw [IntKind.wrap_i64]; omega
      have HQ := Lib.hid (And.intro hwx (And.intro c5 hwe))
      have hO' := hO
      clear hwx hwe
      clear hlt hk1 hk2 hk0 HC6
      go_wp2_with fail
      refine (HSH.out _ (hO.wd 0 rfl)).mono ?_
      rintro e' w2 ⟨A2, n2', c2', rfl, hW2, hE2⟩
      go_wp2_with fail
      refine (HW.out _ _ _ _ hW2).mono ?_
      rintro e' w3 ⟨A3, n3, c3, r, rfl, hW3, hE3, hF⟩
      obtain ⟨z1, z2, z3, z4, z5⟩ := HF.out r hF.out.1 hF.out.2
      have h3 := hW3.nwe
      have hr3 := nw_of_bl (V := r) (by omega)
      have HP := Lib.hid (fun (w : World) (h : Wds w A3 n3 c3 (nd r)) => npow_any A3 n3 c3 (nd r) N w h (by omega) (by omega) (by rw [nv_nd]; omega) (by rw [nv_nd]; omega))
      simp only [nv_nd] at HP
      have h2 := hW2.nwe
      have HC := Lib.hid (fun (A : Option Addr) (n c : Nat) (w : World) (h : Wds w A n c (nd (r ^ N))) (k : Wds w A2 n2' c2' (nd S)) => ncmp_any A n c (nd (r ^ N)) A2 n2' c2' (nd S) w h (by have := h.nwe; omega) k (by omega))
      simp only [nv_nd] at HC
      have HOF := Lib.hid (fun (more : Bool) (w : World) (h : Wds w A3 n3 c3 (nd r)) => of_any d neg A3 n3 c3 (nd r) e more w h (by omega) (by rw [nv_nd]; exact hr3) (by omega) (by omega) (fun _ => by rw [nv_nd]; exact z3))
      simp only [nv_nd] at HOF
      obtain ⟨o, ho⟩ : ∃ o, o = decide (r ^ N ≠ S) := ⟨_, rfl⟩
      rw [← ho] at z5
      have hcmp : (!(cmpN (r ^ N) S == 0)) = o := by
        rw [ho]
        unfold cmpN
        by_cases h1 : r ^ N < S
        · rw [if_pos h1, decide_eq_true (show r ^ N ≠ S by omega)]; rfl
        · rw [if_neg h1]
          by_cases h2 : S < r ^ N
          · rw [if_pos h2, decide_eq_true (show r ^ N ≠ S by omega)]; rfl
          · rw [if_neg h2, decide_eq_false (show ¬ r ^ N ≠ S by omega)]; rfl
      obtain ⟨cc, hcc⟩ : ∃ cc, cc = cmpN (r ^ N) S := ⟨_, rfl⟩
      rw [← hcc] at HC hcmp
      have hco : (cc = 0 ∧ o = false) ∨ (cc = 1 ∧ o = true) ∨ (cc = -1 ∧ o = true) := by
        have hv : cc = 0 ∨ cc = 1 ∨ cc = -1 := by rw [hcc]; unfold cmpN; split; simp; split <;> simp
        rcases hv with h | h | h
        · exact .inl ⟨h, by rw [← hcmp, h]; rfl⟩
        · exact .inr (.inl ⟨h, by rw [← hcmp, h]; rfl⟩)
        · exact .inr (.inr ⟨h, by rw [← hcmp, h]; rfl⟩)
      have HO := Lib.hid (fun (w : World) (h : Wds w A3 n3 c3 (nd r)) => HOF.out o w h)
      rw [z5] at HO
      clear HOF z5 hcc hcmp ho HF HW hF z1 z2 z3 z4 h2 h3 hr3
      have hO3 := ((hO.ext (hE2.trans hE3)).add hW3).add (hW2.ext hE3)
      clear hO hO' hf
      have hf := hO3.cells
      simp only [BC, CC, Nat.zero_add, Nat.reduceAdd, and_true] at hf
      go_wp2_with fail
      refine (HP.out _ hW3).mono ?_
      rintro e' w4 ⟨A4, n4, c4', rfl, hW4, hE4⟩
      have hO4 := (hO3.ext hE4).add hW4
      clear hf
      have hf := hO4.cells
      simp only [BC, CC, Nat.zero_add, Nat.reduceAdd, and_true] at hf
      rcases hco with ⟨rfl, rfl⟩ | ⟨rfl, rfl⟩ | ⟨rfl, rfl⟩
      · go_wp2_with fail
        refine wp_region_steady (Own w [⟨ga, 82, [.bool neg, .slice A l c, .int .i64 x]⟩] [⟨A4, n4, c4', nd (r ^ N)⟩, ⟨A2, n2', c2', nd S⟩, ⟨A3, n3, c3, nd r⟩, ⟨A, l, c, nd V⟩]) (by kernel_rfl) (by kernel_rfl) (hO4.ext (Ext.refl w4).drew) ?_
        repeat (refine wpG_step (fun K hK => ?_)
                go_simp
                apply StepG.mk
                intro wz hz
                have hf := hz.cells
                simp only [BC, CC, Nat.zero_add, Nat.reduceAdd, and_true] at hf
                first
                | (go_simp
                   first | exact rfl | exact ⟨rfl, hz⟩)
                | (go_simp
                   rw [if_neg hNn, HQ.out.1, HQ.out.2.1, HQ.out.2.2]
                   exact ⟨rfl, hz⟩)
                | (go_simp
                   go_at_call 119
                   (with_reducible refine (HC.out _ _ _ _ (hz.wd 0 rfl) (hz.wd 1 rfl)).mono ?_)
                   rintro e' w8 ⟨rfl, q, rfl⟩
                   exact ⟨rfl, hz.ext ((Ext.refl _).drewN q)⟩)
                | (go_simp
                   rw [HQ.out.1, HQ.out.2.1, HQ.out.2.2]
                   go_at_call 89
                   (with_reducible refine (HO.out _ (hz.wd 2 rfl)).mono ?_)
                   rintro e' w8 ⟨rfl, hE8⟩
                   exact ⟨rfl, hz.ext hE8⟩)
                refine hK _ ?_
                clear hK K)
        refine wpG_nil ?_
        intro w5 hO5
        go_wp2
        go_ret
        exact ⟨rfl, hO5.toExt⟩
      · go_wp2_with fail
        refine wp_region_steady (Own w [⟨ga, 82, [.bool neg, .slice A l c, .int .i64 x]⟩] [⟨A4, n4, c4', nd (r ^ N)⟩, ⟨A2, n2', c2', nd S⟩, ⟨A3, n3, c3, nd r⟩, ⟨A, l, c, nd V⟩]) (by kernel_rfl) (by kernel_rfl) (hO4.ext (Ext.refl w4).drew) ?_
        repeat (refine wpG_step (fun K hK => ?_)
                go_simp
                apply StepG.mk
                intro wz hz
                have hf := hz.cells
                simp only [BC, CC, Nat.zero_add, Nat.reduceAdd, and_true] at hf
                first
                | (go_simp
                   first | exact rfl | exact ⟨rfl, hz⟩)
                | (go_simp
                   rw [if_neg hNn, HQ.out.1, HQ.out.2.1, HQ.out.2.2]
                   exact ⟨rfl, hz⟩)
                | (go_simp
                   go_at_call 119
                   (with_reducible refine (HC.out _ _ _ _ (hz.wd 0 rfl) (hz.wd 1 rfl)).mono ?_)
                   rintro e' w8 ⟨rfl, q, rfl⟩
                   exact ⟨rfl, hz.ext ((Ext.refl _).drewN q)⟩)
                | (go_simp
                   rw [HQ.out.1, HQ.out.2.1, HQ.out.2.2]
                   go_at_call 89
                   (with_reducible refine (HO.out _ (hz.wd 2 rfl)).mono ?_)
                   rintro e' w8 ⟨rfl, hE8⟩
                   exact ⟨rfl, hz.ext hE8⟩)
                refine hK _ ?_
                clear hK K)
        refine wpG_nil ?_
        intro w5 hO5
        go_wp2
        go_ret
        exact ⟨rfl, hO5.toExt⟩
      · go_wp2_with fail
        refine wp_region_steady (Own w [⟨ga, 82, [.bool neg, .slice A l c, .int .i64 x]⟩] [⟨A4, n4, c4', nd (r ^ N)⟩, ⟨A2, n2', c2', nd S⟩, ⟨A3, n3, c3, nd r⟩, ⟨A, l, c, nd V⟩]) (by kernel_rfl) (by kernel_rfl) (hO4.ext (Ext.refl w4).drew) ?_
        repeat (refine wpG_step (fun K hK => ?_)
                go_simp
                apply StepG.mk
                intro wz hz
                have hf := hz.cells
                simp only [BC, CC, Nat.zero_add, Nat.reduceAdd, and_true] at hf
                first
                | (go_simp
                   first | exact rfl | exact ⟨rfl, hz⟩)
                | (go_simp
                   rw [if_neg hNn, HQ.out.1, HQ.out.2.1, HQ.out.2.2]
                   exact ⟨rfl, hz⟩)
                | (go_simp
                   go_at_call 119
                   (with_reducible refine (HC.out _ _ _ _ (hz.wd 0 rfl) (hz.wd 1 rfl)).mono ?_)
                   rintro e' w8 ⟨rfl, q, rfl⟩
                   exact ⟨rfl, hz.ext ((Ext.refl _).drewN q)⟩)
                | (go_simp
                   rw [HQ.out.1, HQ.out.2.1, HQ.out.2.2]
                   go_at_call 89
                   (with_reducible refine (HO.out _ (hz.wd 2 rfl)).mono ?_)
                   rintro e' w8 ⟨rfl, hE8⟩
                   exact ⟨rfl, hz.ext hE8⟩)
                refine hK _ ?_
                clear hK K)
        refine wpG_nil ?_
        intro w5 hO5
        go_wp2
        go_ret
        exact ⟨rfl, hO5.toExt⟩
end Go.Proofs.YtadijoeeaineaaaDoor

/-
  The contract of the program's Root. Conditions: those that each theorem names.
-/
namespace Go.Proofs.YtadijoeeaineaaaDoor
open Go.RowKit Nm Rn
set_option maxRecDepth 100000
set_option linter.unusedVariables false
set_option linter.unusedSimpArgs false

theorem rootV_ok (d : Int) (neg : Bool) (N D n : Nat) : rootV d neg N D n < 18446744073709551616 ∧ isNaN (rootV d neg N D n) = false := by
  unfold rootV
  split
  · rename_i h
    obtain ⟨k, r, o, -, -, e⟩ := Classical.choose_spec h
    rw [e]
    exact rnd_ok _ _ _
  · exact ⟨by omega, by decide⟩
/-- Below 0. -/
def ngP (x : Nat) : Bool := sg x && decide (mg x ≠ 0)
theorem ltB_zero {x : Nat} (h : isNaN x = false) : ltB x 0 = ngP x := by
  unfold ltB ngP
  rw [h, show isNaN 0 = false by decide, show key 0 = 0 by decide]
  unfold key
  cases sg x
  · simp
  · simp
    by_cases hm : mg x = 0 <;> simp [hm] <;> omega
theorem eqB_zero {x : Nat} (h : isNaN x = false) : eqB x 0 = decide (mg x = 0) := by
  unfold eqB
  rw [h, show isNaN 0 = false by decide, show key 0 = 0 by decide]
  unfold key
  cases sg x
  · simp
  · simp

set_option maxHeartbeats 1000000 in
theorem rroot_n1 (d : Int) (x : Nat) (n : Int) (w : World) (hx : x < 18446744073709551616) (h1 : isNaN x = true) :
    Calls Tryd.prog 17 #[.int .i64 d, .float .f64 x, .int .i64 n] w (RetFl NaNc w) := by
  have HNX := Lib.hid (fun w => mnan_any x w hx)
  have HIX := Lib.hid (fun w => misinf_any x w hx)
  have HPT := Lib.hid (fun w => part_any x w hx)
  rw [h1] at HNX
  clear h1 hx
  go_enter Tryd.func17, Tryd.ntmps17
  go_wp2_with (first | (go_at_call 60; ((with_reducible refine (HNX.out _).mono ?_); rintro e w' ⟨rfl, rfl⟩)) | (go_at_call 62; ((with_reducible refine (HIX.out _).mono ?_); rintro e w' ⟨rfl, rfl⟩)) | (go_at_call 61; ((with_reducible refine (mnanc_any _).mono ?_); rintro e w' ⟨rfl, rfl⟩)))
  go_ret
  exact ⟨NaNc, rfl, by decide, by decide, Ext.refl _⟩

set_option maxHeartbeats 1000000 in
theorem rroot_n2 (d : Int) (x : Nat) (n : Int) (w : World) (hx : x < 18446744073709551616) (h1 : isNaN x = false) (hn : n < 1) :
    Calls Tryd.prog 17 #[.int .i64 d, .float .f64 x, .int .i64 n] w (RetFl NaNc w) := by
  have HNX := Lib.hid (fun w => mnan_any x w hx)
  have HIX := Lib.hid (fun w => misinf_any x w hx)
  have HPT := Lib.hid (fun w => part_any x w hx)
  rw [h1] at HNX
  clear h1 hx
  go_enter Tryd.func17, Tryd.ntmps17
  go_wp2_with (first | (go_at_call 60; ((with_reducible refine (HNX.out _).mono ?_); rintro e w' ⟨rfl, rfl⟩)) | (go_at_call 62; ((with_reducible refine (HIX.out _).mono ?_); rintro e w' ⟨rfl, rfl⟩)) | (go_at_call 61; ((with_reducible refine (mnanc_any _).mono ?_); rintro e w' ⟨rfl, rfl⟩)))
  go_ret
  exact ⟨NaNc, rfl, by decide, by decide, Ext.refl _⟩

set_option maxHeartbeats 1000000 in
theorem rroot_n3 (d : Int) (x : Nat) (n : Int) (w : World) (hx : x < 18446744073709551616) (h1 : isNaN x = false) (hn : 1024 < n) :
    Calls Tryd.prog 17 #[.int .i64 d, .float .f64 x, .int .i64 n] w (RetFl NaNc w) := by
  have HNX := Lib.hid (fun w => mnan_any x w hx)
  have HIX := Lib.hid (fun w => misinf_any x w hx)
  have HPT := Lib.hid (fun w => part_any x w hx)
  rw [h1] at HNX
  clear h1 hx
  have hn2 : ¬ (n < 1) := by omega
  go_enter Tryd.func17, Tryd.ntmps17
  go_wp2_with (first | (go_at_call 60; ((with_reducible refine (HNX.out _).mono ?_); rintro e w' ⟨rfl, rfl⟩)) | (go_at_call 62; ((with_reducible refine (HIX.out _).mono ?_); rintro e w' ⟨rfl, rfl⟩)) | (go_at_call 61; ((with_reducible refine (mnanc_any _).mono ?_); rintro e w' ⟨rfl, rfl⟩)))
  go_ret
  exact ⟨NaNc, rfl, by decide, by decide, Ext.refl _⟩

set_option maxHeartbeats 1000000 in
theorem rroot_n4 (d : Int) (x : Nat) (n : Nat) (w : World) (hx : x < 18446744073709551616) (h1 : isNaN x = false) (n1 : 1 ≤ n) (n2 : n ≤ 1024) (hp : n % 2 = 0) (hg : ngP x = true) :
    Calls Tryd.prog 17 #[.int .i64 d, .float .f64 x, .int .i64 (n : Int)] w (RetFl NaNc w) := by
  have HNX := Lib.hid (fun w => mnan_any x w hx)
  have HIX := Lib.hid (fun w => misinf_any x w hx)
  have HPT := Lib.hid (fun w => part_any x w hx)
  rw [h1] at HNX
  have q1 := fo_lt hx (show 0 < 18446744073709551616 by omega)
  have q2 := fo_eq hx (show 0 < 18446744073709551616 by omega)
  rw [ltB_zero h1] at q1
  rw [eqB_zero h1] at q2
  rw [hg] at q1
  clear h1 hg q2 hx
  have hp2 : (n : Int) % 2 = 0 := by omega
  clear hp
  go_enter Tryd.func17, Tryd.ntmps17
  go_wp2_with (first | (go_at_call 60; ((with_reducible refine (HNX.out _).mono ?_); rintro e w' ⟨rfl, rfl⟩)) | (go_at_call 62; ((with_reducible refine (HIX.out _).mono ?_); rintro e w' ⟨rfl, rfl⟩)) | (go_at_call 61; ((with_reducible refine (mnanc_any _).mono ?_); rintro e w' ⟨rfl, rfl⟩)))
  go_ret
  exact ⟨NaNc, rfl, by decide, by decide, Ext.refl _⟩

set_option maxHeartbeats 1000000 in
theorem rroot_ze (d : Int) (x : Nat) (n : Nat) (w : World) (hx : x < 18446744073709551616) (h1 : isNaN x = false) (n1 : 1 ≤ n) (n2 : n ≤ 1024) (hp : n % 2 = 0) (hg : ngP x = false) (hz : mg x = 0) :
    Calls Tryd.prog 17 #[.int .i64 d, .float .f64 x, .int .i64 (n : Int)] w (RetFl 0 w) := by
  have HNX := Lib.hid (fun w => mnan_any x w hx)
  have HIX := Lib.hid (fun w => misinf_any x w hx)
  have HPT := Lib.hid (fun w => part_any x w hx)
  rw [h1] at HNX
  have q1 := fo_lt hx (show 0 < 18446744073709551616 by omega)
  have q2 := fo_eq hx (show 0 < 18446744073709551616 by omega)
  rw [ltB_zero h1] at q1
  rw [eqB_zero h1] at q2
  rw [hg] at q1
  rw [decide_eq_true hz] at q2
  clear hz h1
  clear hg
  have hp2 : (n : Int) % 2 = 0 := by omega
  clear hp
  go_enter Tryd.func17, Tryd.ntmps17
  go_wp2_with (first | (go_at_call 60; ((with_reducible refine (HNX.out _).mono ?_); rintro e w' ⟨rfl, rfl⟩)) | (go_at_call 62; ((with_reducible refine (HIX.out _).mono ?_); rintro e w' ⟨rfl, rfl⟩)) | (go_at_call 61; ((with_reducible refine (mnanc_any _).mono ?_); rintro e w' ⟨rfl, rfl⟩)))
  go_ret
  exact ⟨0, rfl, by omega, by decide, Ext.refl _⟩

set_option maxHeartbeats 1000000 in
theorem rroot_ie (d : Int) (x : Nat) (n : Nat) (w : World) (hx : x < 18446744073709551616) (h1 : isNaN x = false) (n1 : 1 ≤ n) (n2 : n ≤ 1024) (hp : n % 2 = 0) (hg : ngP x = false) (hz : mg x ≠ 0) (hi : isInf x = true) :
    Calls Tryd.prog 17 #[.int .i64 d, .float .f64 x, .int .i64 (n : Int)] w (RetFl x w) := by
  have HNX := Lib.hid (fun w => mnan_any x w hx)
  have HIX := Lib.hid (fun w => misinf_any x w hx)
  have HPT := Lib.hid (fun w => part_any x w hx)
  rw [h1] at HNX
  have q1 := fo_lt hx (show 0 < 18446744073709551616 by omega)
  have q2 := fo_eq hx (show 0 < 18446744073709551616 by omega)
  rw [ltB_zero h1] at q1
  rw [eqB_zero h1] at q2
  rw [hg] at q1
  rw [decide_eq_false hz] at q2
  rw [hi] at HIX
  have HC := Lib.hid (cn_num h1)
  clear hz hi h1
  clear hg
  have hp2 : (n : Int) % 2 = 0 := by omega
  clear hp
  go_enter Tryd.func17, Tryd.ntmps17
  go_wp2_with (first | (go_at_call 60; ((with_reducible refine (HNX.out _).mono ?_); rintro e w' ⟨rfl, rfl⟩)) | (go_at_call 62; ((with_reducible refine (HIX.out _).mono ?_); rintro e w' ⟨rfl, rfl⟩)) | (go_at_call 61; ((with_reducible refine (mnanc_any _).mono ?_); rintro e w' ⟨rfl, rfl⟩)))
  go_ret
  exact ⟨x, rfl, hx, HC.out, Ext.refl _⟩

set_option maxHeartbeats 1000000 in
theorem rroot_fe (d : Int) (x : Nat) (n : Nat) (w : World) (hx : x < 18446744073709551616) (h1 : isNaN x = false) (n1 : 1 ≤ n) (n2 : n ≤ 1024) (hp : n % 2 = 0) (hg : ngP x = false) (hz : mg x ≠ 0) (hi : isInf x = false) :
    Calls Tryd.prog 17 #[.int .i64 d, .float .f64 x, .int .i64 (n : Int)] w (RetFl (rootV d (sg x) (rv (mg x)) K74 n) w) := by
  have HNX := Lib.hid (fun w => mnan_any x w hx)
  have HIX := Lib.hid (fun w => misinf_any x w hx)
  have HPT := Lib.hid (fun w => part_any x w hx)
  rw [h1] at HNX
  have q1 := fo_lt hx (show 0 < 18446744073709551616 by omega)
  have q2 := fo_eq hx (show 0 < 18446744073709551616 by omega)
  rw [ltB_zero h1] at q1
  rw [eqB_zero h1] at q2
  rw [hg] at q1
  rw [decide_eq_false hz] at q2
  rw [hi] at HIX
  have HRO := Lib.hid (fun A l c w h => root_any d (sg x) A l c (fbSig x) (fbExp x + 1074).toNat n (fbExp x) w h (by rcases Nat.eq_zero_or_pos (fbSig x) with e | e; exact absurd ((fbSig_zero x).1 e) hz; exact e) (by rw [bl_le_iff]; exact fbSig_lt x) (by have := fbExp_lo x; omega) (by have := fbExp_hi x; omega) n1 n2)
  rw [← fb_rv] at HRO
  have HK := Lib.hid (rootV_ok d (sg x) (rv (mg x)) K74 n)
  obtain ⟨R, hR⟩ : ∃ R, R = rootV d (sg x) (rv (mg x)) K74 n := ⟨_, rfl⟩
  rw [← hR] at HRO HK ⊢
  clear hz hi h1 hR hx
  clear hg
  have hp2 : (n : Int) % 2 = 0 := by omega
  clear hp
  go_enter Tryd.func17, Tryd.ntmps17
  go_wp2_with (first | (go_at_call 60; ((with_reducible refine (HNX.out _).mono ?_); rintro e w' ⟨rfl, rfl⟩)) | (go_at_call 62; ((with_reducible refine (HIX.out _).mono ?_); rintro e w' ⟨rfl, rfl⟩)) | (go_at_call 61; ((with_reducible refine (mnanc_any _).mono ?_); rintro e w' ⟨rfl, rfl⟩)))
  refine (HPT.out _).mono ?_
  rintro e w1 ⟨A1, n1', c1, rfl, hW1, hE1⟩
  go_wp2_with fail
  refine (HRO.out _ _ _ _ hW1).mono ?_
  rintro e w2 ⟨rfl, hE2⟩
  go_wp2
  go_ret
  exact ⟨_, rfl, HK.out.1, cn_num HK.out.2, hE1.trans hE2⟩

set_option maxHeartbeats 1000000 in
theorem rroot_zo (d : Int) (x : Nat) (n : Nat) (w : World) (hx : x < 18446744073709551616) (h1 : isNaN x = false) (n1 : 1 ≤ n) (n2 : n ≤ 1024) (hp : n % 2 = 1) (hz : mg x = 0) :
    Calls Tryd.prog 17 #[.int .i64 d, .float .f64 x, .int .i64 (n : Int)] w (RetFl 0 w) := by
  have HNX := Lib.hid (fun w => mnan_any x w hx)
  have HIX := Lib.hid (fun w => misinf_any x w hx)
  have HPT := Lib.hid (fun w => part_any x w hx)
  rw [h1] at HNX
  have q1 := fo_lt hx (show 0 < 18446744073709551616 by omega)
  have q2 := fo_eq hx (show 0 < 18446744073709551616 by omega)
  rw [ltB_zero h1] at q1
  rw [eqB_zero h1] at q2
  clear q1
  rw [decide_eq_true hz] at q2
  clear hz h1
  have hp2 : (n : Int) % 2 = 1 := by omega
  clear hp
  go_enter Tryd.func17, Tryd.ntmps17
  go_wp2_with (first | (go_at_call 60; ((with_reducible refine (HNX.out _).mono ?_); rintro e w' ⟨rfl, rfl⟩)) | (go_at_call 62; ((with_reducible refine (HIX.out _).mono ?_); rintro e w' ⟨rfl, rfl⟩)) | (go_at_call 61; ((with_reducible refine (mnanc_any _).mono ?_); rintro e w' ⟨rfl, rfl⟩)))
  go_ret
  exact ⟨0, rfl, by omega, by decide, Ext.refl _⟩

set_option maxHeartbeats 1000000 in
theorem rroot_io (d : Int) (x : Nat) (n : Nat) (w : World) (hx : x < 18446744073709551616) (h1 : isNaN x = false) (n1 : 1 ≤ n) (n2 : n ≤ 1024) (hp : n % 2 = 1) (hz : mg x ≠ 0) (hi : isInf x = true) :
    Calls Tryd.prog 17 #[.int .i64 d, .float .f64 x, .int .i64 (n : Int)] w (RetFl x w) := by
  have HNX := Lib.hid (fun w => mnan_any x w hx)
  have HIX := Lib.hid (fun w => misinf_any x w hx)
  have HPT := Lib.hid (fun w => part_any x w hx)
  rw [h1] at HNX
  have q1 := fo_lt hx (show 0 < 18446744073709551616 by omega)
  have q2 := fo_eq hx (show 0 < 18446744073709551616 by omega)
  rw [ltB_zero h1] at q1
  rw [eqB_zero h1] at q2
  clear q1
  rw [decide_eq_false hz] at q2
  rw [hi] at HIX
  have HC := Lib.hid (cn_num h1)
  clear hz hi h1
  have hp2 : (n : Int) % 2 = 1 := by omega
  clear hp
  go_enter Tryd.func17, Tryd.ntmps17
  go_wp2_with (first | (go_at_call 60; ((with_reducible refine (HNX.out _).mono ?_); rintro e w' ⟨rfl, rfl⟩)) | (go_at_call 62; ((with_reducible refine (HIX.out _).mono ?_); rintro e w' ⟨rfl, rfl⟩)) | (go_at_call 61; ((with_reducible refine (mnanc_any _).mono ?_); rintro e w' ⟨rfl, rfl⟩)))
  go_ret
  exact ⟨x, rfl, hx, HC.out, Ext.refl _⟩

set_option maxHeartbeats 1000000 in
theorem rroot_fo (d : Int) (x : Nat) (n : Nat) (w : World) (hx : x < 18446744073709551616) (h1 : isNaN x = false) (n1 : 1 ≤ n) (n2 : n ≤ 1024) (hp : n % 2 = 1) (hz : mg x ≠ 0) (hi : isInf x = false) :
    Calls Tryd.prog 17 #[.int .i64 d, .float .f64 x, .int .i64 (n : Int)] w (RetFl (rootV d (sg x) (rv (mg x)) K74 n) w) := by
  have HNX := Lib.hid (fun w => mnan_any x w hx)
  have HIX := Lib.hid (fun w => misinf_any x w hx)
  have HPT := Lib.hid (fun w => part_any x w hx)
  rw [h1] at HNX
  have q1 := fo_lt hx (show 0 < 18446744073709551616 by omega)
  have q2 := fo_eq hx (show 0 < 18446744073709551616 by omega)
  rw [ltB_zero h1] at q1
  rw [eqB_zero h1] at q2
  clear q1
  rw [decide_eq_false hz] at q2
  rw [hi] at HIX
  have HRO := Lib.hid (fun A l c w h => root_any d (sg x) A l c (fbSig x) (fbExp x + 1074).toNat n (fbExp x) w h (by rcases Nat.eq_zero_or_pos (fbSig x) with e | e; exact absurd ((fbSig_zero x).1 e) hz; exact e) (by rw [bl_le_iff]; exact fbSig_lt x) (by have := fbExp_lo x; omega) (by have := fbExp_hi x; omega) n1 n2)
  rw [← fb_rv] at HRO
  have HK := Lib.hid (rootV_ok d (sg x) (rv (mg x)) K74 n)
  obtain ⟨R, hR⟩ : ∃ R, R = rootV d (sg x) (rv (mg x)) K74 n := ⟨_, rfl⟩
  rw [← hR] at HRO HK ⊢
  clear hz hi h1 hR hx
  have hp2 : (n : Int) % 2 = 1 := by omega
  clear hp
  go_enter Tryd.func17, Tryd.ntmps17
  go_wp2_with (first | (go_at_call 60; ((with_reducible refine (HNX.out _).mono ?_); rintro e w' ⟨rfl, rfl⟩)) | (go_at_call 62; ((with_reducible refine (HIX.out _).mono ?_); rintro e w' ⟨rfl, rfl⟩)) | (go_at_call 61; ((with_reducible refine (mnanc_any _).mono ?_); rintro e w' ⟨rfl, rfl⟩)))
  refine (HPT.out _).mono ?_
  rintro e w1 ⟨A1, n1', c1, rfl, hW1, hE1⟩
  go_wp2_with fail
  refine (HRO.out _ _ _ _ hW1).mono ?_
  rintro e w2 ⟨rfl, hE2⟩
  go_wp2
  go_ret
  exact ⟨_, rfl, HK.out.1, cn_num HK.out.2, hE1.trans hE2⟩


theorem rroot_any (d : Int) (x : Nat) (n : Int) (w : World) (hx : x < 18446744073709551616) :
    Calls Tryd.prog 17 #[.int .i64 d, .float .f64 x, .int .i64 n] w (RetFl (rootR d x n) w) := by
  cases h1 : isNaN x
  case true =>
    have e : rootR d x n = NaNc := by unfold rootR; rw [h1]; simp
    rw [e]
    exact rroot_n1 d x n w hx h1
  case false =>
    by_cases hn : n < 1
    · have e : rootR d x n = NaNc := by unfold rootR; rw [decide_eq_true hn]; simp
      rw [e]
      exact rroot_n2 d x n w hx h1 hn
    · by_cases hn2 : 1024 < n
      · have e : rootR d x n = NaNc := by unfold rootR; rw [decide_eq_true hn2]; simp
        rw [e]
        exact rroot_n3 d x n w hx h1 hn2
      · obtain ⟨k, rfl⟩ : ∃ k : Nat, n = (k : Int) := ⟨n.toNat, by omega⟩
        have k1 : 1 ≤ k := by omega
        have k2 : k ≤ 1024 := by omega
        have e : rootR d x (k : Int) = if (decide ((k : Int) % 2 = 0) && ngP x) = true then NaNc else if isInf x then x else if mg x = 0 then 0 else rootV d (sg x) (rv (mg x)) K74 k := by
          unfold rootR
          rw [h1, decide_eq_false hn, decide_eq_false hn2, Bool.false_or, Bool.false_or, Bool.false_or, Int.toNat_natCast]
          rfl
        rw [e]
        clear e
        have zi : mg x = 0 → isInf x = false := fun h => by unfold isInf; rw [h]; decide
        have hrest : (isInf x = true ∧ mg x ≠ 0) ∨ (isInf x = false ∧ mg x = 0) ∨ (isInf x = false ∧ mg x ≠ 0) := by
          by_cases hz : mg x = 0
          · exact .inr (.inl ⟨zi hz, hz⟩)
          · cases hi : isInf x
            · exact .inr (.inr ⟨rfl, hz⟩)
            · exact .inl ⟨rfl, hz⟩
        rcases Nat.mod_two_eq_zero_or_one k with hp | hp
        · cases hg : ngP x
          case true =>
            rw [if_pos (by rw [decide_eq_true (show (k : Int) % 2 = 0 by omega)]; rfl)]
            exact rroot_n4 d x k w hx h1 k1 k2 hp hg
          case false =>
            rw [if_neg (by simp)]
            rcases hrest with ⟨hi, hz⟩ | ⟨hi, hz⟩ | ⟨hi, hz⟩
            · rw [if_pos hi]; exact rroot_ie d x k w hx h1 k1 k2 hp hg hz hi
            · rw [if_neg (by rw [hi]; simp), if_pos hz]; exact rroot_ze d x k w hx h1 k1 k2 hp hg hz
            · rw [if_neg (by rw [hi]; simp), if_neg hz]; exact rroot_fe d x k w hx h1 k1 k2 hp hg hz hi
        · rw [if_neg (by rw [decide_eq_false (show ¬ (k : Int) % 2 = 0 by omega)]; simp)]
          rcases hrest with ⟨hi, hz⟩ | ⟨hi, hz⟩ | ⟨hi, hz⟩
          · rw [if_pos hi]; exact rroot_io d x k w hx h1 k1 k2 hp hz hi
          · rw [if_neg (by rw [hi]; simp), if_pos hz]; exact rroot_zo d x k w hx h1 k1 k2 hp hz
          · rw [if_neg (by rw [hi]; simp), if_neg hz]; exact rroot_fo d x k w hx h1 k1 k2 hp hz hi
end Go.Proofs.YtadijoeeaineaaaDoor

/-
  Plain: the model's square root, and the root rounded in a direction. Conditions: those that each theorem names.
-/
set_option linter.unusedVariables false
set_option linter.unusedSimpArgs false
namespace Go.Proofs.YtadijoeeaineaaaDoor.Rn
open Nm

theorem rootFrom_spec (n : Nat) : ∀ todo r : Nat, r * r ≤ n → n < (r + 2 ^ todo) * (r + 2 ^ todo) →
    Ieee.Datum.rootFrom n todo r * Ieee.Datum.rootFrom n todo r ≤ n ∧ n < (Ieee.Datum.rootFrom n todo r + 1) * (Ieee.Datum.rootFrom n todo r + 1)
  | 0, r, h1, h2 => by
    unfold Ieee.Datum.rootFrom
    rw [Nat.pow_zero] at h2
    exact ⟨h1, h2⟩
  | todo + 1, r, h1, h2 => by
    unfold Ieee.Datum.rootFrom
    simp only [Nat.one_shiftLeft]
    have e : r + 2 ^ (todo + 1) = r + 2 ^ todo + 2 ^ todo := by rw [Nat.pow_succ]; omega
    split
    · rename_i h
      exact rootFrom_spec n todo _ h (by rw [← e]; exact h2)
    · rename_i h
      exact rootFrom_spec n todo _ h1 (by omega)
theorem isqrt_spec {n : Nat} (hn : n ≠ 0) : Ieee.Datum.rootFrom n (n.log2 / 2 + 1) 0 * Ieee.Datum.rootFrom n (n.log2 / 2 + 1) 0 ≤ n ∧ n < (Ieee.Datum.rootFrom n (n.log2 / 2 + 1) 0 + 1) * (Ieee.Datum.rootFrom n (n.log2 / 2 + 1) 0 + 1) := by
  refine rootFrom_spec n _ 0 (by omega) ?_
  rw [Nat.zero_add, ← Nat.pow_add]
  have h := (log2_bounds hn).2
  exact Nat.lt_of_lt_of_le h (Nat.pow_le_pow_right (by omega) (by omega))

theorem sq_le_iff {W P r : Nat} (h1 : W * W ≤ P) (h2 : P < (W + 1) * (W + 1)) : r * r ≤ P ↔ r ≤ W := by
  constructor
  · intro h
    rcases Nat.lt_or_ge W r with h3 | h3
    · have := Nat.mul_le_mul (show W + 1 ≤ r from h3) (show W + 1 ≤ r from h3); omega
    · exact h3
  · intro h
    have := Nat.mul_le_mul h h; omega
theorem sq_lt_iff {W P r : Nat} (h1 : W * W ≤ P) (h2 : P < (W + 1) * (W + 1)) : r * r < P ↔ r < W ∨ (r = W ∧ W * W ≠ P) := by
  constructor
  · intro h
    have := (sq_le_iff h1 h2).1 (Nat.le_of_lt h)
    by_cases h3 : r = W
    · subst h3; exact .inr ⟨rfl, by omega⟩
    · exact .inl (by omega)
  · rintro (h | ⟨rfl, h⟩)
    · have h3 : r * r < W * W := Nat.mul_self_lt_mul_self h
      omega
    · omega

/-- The Z of a square root, to the last unit. -/
theorem sqrt_z {X : Nat} (hX : 0 < X) : ∃ Z, (∀ r, 4 * r ≤ Z ↔ r * r ≤ X * K74) ∧ (∀ r, 4 * r < Z ↔ r * r < X * K74) ∧ ∀ d, rootV d false X K74 2 = rnd d false Z := by
  obtain ⟨P, hP⟩ : ∃ P, P = X * K74 := ⟨_, rfl⟩
  have hP0 : P ≠ 0 := by rw [hP]; exact Nat.ne_of_gt (Nat.mul_pos hX K74_pos)
  obtain ⟨W, hW⟩ : ∃ W, W = Ieee.Datum.rootFrom P (P.log2 / 2 + 1) 0 := ⟨_, rfl⟩
  obtain ⟨w1, w2⟩ := isqrt_spec hP0
  rw [← hW] at w1 w2
  obtain ⟨o, ho⟩ : ∃ o, o = decide (W * W ≠ P) := ⟨_, rfl⟩
  have hat : RootAt X K74 2 1074 W o := by
    obtain ⟨c, hc, hK⟩ : ∃ c : Nat, c = 1074 ∧ K74 = 2 ^ c := ⟨1074, rfl, K74_def⟩
    have e1 : X * 2 ^ (c + c) = P * K74 := by rw [hP, hK, Nat.pow_add, Nat.mul_assoc]
    have e2 : ∀ R : Nat, R ^ 2 * (K74 * 2 ^ 0) = R * R * K74 := fun R => by rw [Nat.pow_succ, Nat.pow_one, Nat.pow_zero, Nat.mul_one]
    refine ⟨c + c, 0, by push_cast; omega, ?_, ?_, ?_⟩
    · rw [e1, e2]; exact Nat.mul_le_mul_right _ w1
    · rw [e1, e2]; exact Nat.mul_lt_mul_of_pos_right w2 K74_pos
    · rw [e1, e2, ho]
      refine decide_eq_decide.2 (not_congr ⟨fun h => by rw [h], fun h => Nat.eq_of_mul_eq_mul_right K74_pos h⟩)
  have hbl : 55 ≤ bl W := by
    rcases Nat.lt_or_ge (bl W) 55 with h | h
    · exfalso
      have h1 := lt_pow_bl W
      have h2 : 2 ^ bl W ≤ 2 ^ 54 := Nat.pow_le_pow_right (by omega) (by omega)
      have h3 := Nat.mul_le_mul (show W + 1 ≤ 2 ^ 54 by omega) (show W + 1 ≤ 2 ^ 54 by omega)
      have h4 : P ≥ K74 := by rw [hP]; exact Nat.le_mul_of_pos_left _ hX
      have h5 : (2 : Nat) ^ 54 * 2 ^ 54 ≤ K74 := by
        obtain ⟨c, hc, hK⟩ : ∃ c : Nat, c = 1074 ∧ K74 = 2 ^ c := ⟨1074, rfl, K74_def⟩
        rw [hK, ← Nat.pow_add]; exact Nat.pow_le_pow_right (by omega) (by omega)
      omega
    · exact h
  have hv := fun d => hat.val (by omega) K74_pos (fun _ => hbl) d false
  have hz : zd (2 * W + o.toNat) (-1074 - 1) = 2 * (2 * W + o.toNat) := by
    rw [zd_of (A := 0) (B := 0) (by omega), Nat.pow_zero, Nat.mul_one, zq_one]
  refine ⟨2 * (2 * W + o.toNat), fun r => ?_, fun r => ?_, fun d => by rw [← hv d, hz]⟩
  · rw [← hP, sq_le_iff w1 w2]
    have : o.toNat ≤ 1 := by cases o <;> simp
    omega
  · rw [← hP, sq_lt_iff w1 w2]
    by_cases h : W * W ≠ P
    · rw [ho, decide_eq_true h]; simp [h]; omega
    · rw [ho, decide_eq_false h]; simp [h]; omega

/-- The model's square root is the nearest. -/
theorem sqrt_fin {x : Nat} (hx : x < 18446744073709551616) (fx : mg x < infR) (hs : sg x = false) (h0 : mg x ≠ 0) :
    ∃ Z, Ieee.double.sqrt x = some (Ieee.double.word false (near Z)) ∧ (∀ r, 4 * r ≤ Z ↔ r * r ≤ rv (mg x) * K74) ∧ (∀ r, 4 * r < Z ↔ r * r < rv (mg x) * K74) ∧ ∀ d, rootV d false (rv (mg x)) K74 2 = rnd d false Z := by
  have hX : 0 < rv (mg x) := Nat.pos_of_ne_zero fun e => h0 (rv_eq_zero.1 e)
  obtain ⟨Z, z1, z2, z3⟩ := sqrt_z hX
  refine ⟨Z, ?_, z1, z2, z3⟩
  obtain ⟨m, i, e1, hi, v1⟩ := read_fin hx fx
  have hm : m ≠ 0 := by
    intro h
    rw [h, Nat.zero_mul] at v1
    omega
  unfold Ieee.Format.sqrt
  rw [e1, hs]
  simp only [Ieee.Datum.root, if_neg hm, Bool.false_eq_true, if_false, Option.map_some]
  congr 1
  unfold Ieee.Format.write
  simp only
  rw [nearest_eq, near_eq]
  congr 1
  have e3 : Ieee.double.fractionBits + 2 = 54 := rfl
  rw [e3]
  obtain ⟨m1, hm1⟩ : ∃ m1, m1 = 2 * 54 - m.log2 := ⟨_, rfl⟩
  rw [← hm1]
  obtain ⟨more, hmore⟩ : ∃ more, more = m1 + ((i - m1) % 2).toNat := ⟨_, rfl⟩
  rw [← hmore, Nat.shiftLeft_eq]
  have hn0 : m * 2 ^ more ≠ 0 := Nat.ne_of_gt (Nat.mul_pos (by omega) (two_pow_pos _))
  obtain ⟨w1, w2⟩ := isqrt_spec hn0
  obtain ⟨W, hW⟩ : ∃ W, W = Ieee.Datum.rootFrom (m * 2 ^ more) ((m * 2 ^ more).log2 / 2 + 1) 0 := ⟨_, rfl⟩
  rw [← hW] at w1 w2 ⊢
  have heven : (i - more) % 2 = 0 := by rw [hmore]; omega
  obtain ⟨e, he⟩ : ∃ e, e = (i - (more : Int)) / 2 := ⟨_, rfl⟩
  rw [← he]
  obtain ⟨U, hU⟩ : ∃ U : Nat, U = (i + 1074).toNat := ⟨_, rfl⟩
  rw [← hU] at v1
  have sq : ∀ R : Nat, R ^ 2 = R * R := fun R => by rw [Nat.pow_succ, Nat.pow_one]
  have hat := root_at (V := m) (k := more) (X := U) (N := 2) (r := W) (e := e) (x := i) (by rw [sq]; exact w1) (by rw [sq]; exact w2) (by omega) (by omega)
  rw [v1, sq] at hat
  have hb : 55 ≤ bl W := by
    rcases Nat.lt_or_ge (bl W) 55 with h | h
    · exfalso
      have h1 := lt_pow_bl W
      have h2 : 2 ^ bl W ≤ 2 ^ 54 := Nat.pow_le_pow_right (by omega) (by omega)
      have h3 := Nat.mul_le_mul (show W + 1 ≤ 2 ^ 54 by omega) (show W + 1 ≤ 2 ^ 54 by omega)
      have h4 := (log2_bounds hm).1
      have h5 : 2 ^ m.log2 * 2 ^ more ≤ m * 2 ^ more := Nat.mul_le_mul_right _ h4
      rw [← Nat.pow_add] at h5 h3
      have h6 : (2 : Nat) ^ (54 + 54) ≤ 2 ^ (m.log2 + more) := Nat.pow_le_pow_right (by omega) (by omega)
      omega
    · exact h
  have hv := hat.val (by omega) K74_pos (fun _ => hb) 0 false
  rw [z3 0] at hv
  have hmk : (W * W != m * 2 ^ more) = decide (W * W ≠ m * 2 ^ more) := by
    by_cases h : W * W = m * 2 ^ more
    · rw [h]; simp
    · rw [decide_eq_true h]; simpa using h
  rw [hmk]
  have hp : ∀ z, rnd 0 false z = near z := fun z => by
    unfold rnd pat near
    split
    · rename_i h; exact h.symm
    · rfl
  rw [hp, hp, Int.neg_neg] at hv
  exact hv
end Go.Proofs.YtadijoeeaineaaaDoor.Rn
