/-
  The contract of the program's whole root. Conditions: those that each theorem names.
-/
import Derived.Test.YtadijoeeaineaaaDoorZ25
import Derived.Test.YtadijoeeaineaaaDoorZ12
import Derived.Test.YtadijoeeaineaaaDoorZ11
import Derived.Test.YtadijoeeaineaaaDoorZ15
import Derived.Test.YtadijoeeaineaaaDoorZ21
import Derived.Test.YtadijoeeaineaaaDoorZ10
import Derived.Test.YtadijoeeaineaaaDoorZ34
namespace Go.Proofs.YtadijoeeaineaaaDoor
open Go.RowKit Nm Rn
set_option maxRecDepth 100000
set_option linter.unusedVariables false
set_option linter.unusedSimpArgs false

/-- What is answered: a list of words, the n-th root of V, cut. -/
def RetRt (V n : Nat) (w : World) (e : Ending) (w' : World) : Prop := ∃ A m c r, e = .returned (.slice A m c) ∧ Wds w' A m c (nd r) ∧ Ext w w' ∧ Hid (r ^ n ≤ V ∧ V < (r + 1) ^ n)

/-- The natural that a list of words holds. -/
noncomputable def rdNat (v : Value) (w : World) : Nat :=
  open Classical in
  if h : ∃ x A n c, v = .slice A n c ∧ Wds w A n c (nd x) then Classical.choose h else 0
theorem Wds.uniq {w : World} {A : Option Addr} {n c : Nat} {xs ys : List Nat} (h : Wds w A n c xs) (k : Wds w A n c ys) : xs = ys := by
  have hl := h.len
  have kl := k.len
  refine List.ext_getElem? fun i => ?_
  by_cases hi : i < n
  · obtain ⟨-, -, -, -, h5⟩ := h
    obtain ⟨-, -, -, -, k5⟩ := k
    obtain ⟨a, ha, -, hc⟩ := h5 (by omega)
    obtain ⟨b, hb, -, kc⟩ := k5 (by omega)
    rw [ha] at hb
    injection hb with hb
    subst hb
    have e1 := hc i (xs[i]'(by omega)) (List.getElem?_eq_getElem (by omega))
    have e2 := kc i (ys[i]'(by omega)) (List.getElem?_eq_getElem (by omega))
    rw [e1] at e2
    injection e2 with e2
    injection e2 with _ e2
    rw [List.getElem?_eq_getElem (by omega), List.getElem?_eq_getElem (by omega)]
    congr 1
    omega
  · rw [List.getElem?_eq_none (by omega), List.getElem?_eq_none (by omega)]
theorem list32 (w : World) : Wds (w.alloc (.cells #[.int .u32 32] 48)) (some ⟨w.heap.size, 0, none⟩) 1 1 (nd 32) := by
  rw [show nd 32 = [32] by rw [nd_pos (by omega)]; simp [nd_zero]]
  refine ⟨rfl, by omega, by unfold maxLen; omega, by intro x hx; simp at hx; omega, fun _ => ⟨_, rfl, by simp, fun k x hk => ?_⟩⟩
  match k, hk with
  | 0, hk => simp at hk; subst hk; simp [Addr.add]
  | k + 1, hk => simp at hk
theorem rdNat_of {w : World} {A : Option Addr} {n c x : Nat} (h : Wds w A n c (nd x)) : rdNat (.slice A n c) w = x := by
  have hex : ∃ x' A' n' c', Value.slice A n c = .slice A' n' c' ∧ Wds w A' n' c' (nd x') := ⟨x, A, n, c, rfl, h⟩
  unfold rdNat
  rw [dif_pos hex]
  obtain ⟨A', n', c', he, hW⟩ := Classical.choose_spec hex
  injection he with e1 e2 e3
  subst e1
  subst e2
  subst e3
  have := hW.uniq h
  have e := congrArg nv this
  rwa [nv_nd, nv_nd] at e

set_option maxHeartbeats 8000000 in
theorem whole_any (b : Nat) : ∀ (A : Option Addr) (n c V N : Nat) (w : World), bl V ≤ b → Wds w A n c (nd V) → 1 ≤ V → bl V ≤ 62000 → 1 ≤ N → N ≤ 1024 →
    Calls Tryd.prog 122 #[.slice A n c, .int .i64 (N : Int)] w (RetRt V N w) := by
  induction b with
  | zero =>
    intro A n c V N w hb h hV
    have := bl_pos (n := V) (by omega)
    omega
  | succ b ih =>
    intro A n c V N w hb h hV hbl n1 n2
    by_cases hN1 : N = 1
    · subst hN1
      have hF : Hid (V ^ 1 ≤ V ∧ V < (V + 1) ^ 1) := Lib.hid (by rw [Nat.pow_one, Nat.pow_one]; omega)
      clear ih hb hV hbl n1 n2
      go_enter Tryd.func122, Tryd.ntmps122
      go_wp2
      go_ret
      exact ⟨_, _, _, _, rfl, h, Ext.refl _, hF⟩
    · have hnl := h.nwe
      have hnw := nw_of_bl (V := V) (by omega)
      have HLE := Lib.hid (fun (w : World) (h : Wds w A n c (nd V)) => nlen_any A n c (nd V) w h (by omega))
      simp only [nv_nd] at HLE
      obtain ⟨h', hh⟩ : ∃ h', h' = (bl V / N) / 2 := ⟨_, rfl⟩
      -- where it starts
      have hst : ∃ X, (h' < 2 → X = 32) ∧ (2 ≤ h' → 1 ≤ V / 2 ^ (h' * N) ∧ bl (V / 2 ^ (h' * N)) ≤ b ∧ bl (V / 2 ^ (h' * N)) ≤ 62000 ∧ h' * N ≤ 62000 ∧ h' ≤ 62000) := by
        refine ⟨32, fun _ => rfl, fun h2 => ?_⟩
        have := wh_less (V := V) (n := N) (h := h') (by omega) hV hh h2
        omega
      obtain ⟨_, -, hbig⟩ := hst
      have HSM : Hid (h' < 2 → WhRel V N 32 32 ∧ N * bl 32 ≤ bl V + 6 * N) := Lib.hid (fun e => wh_small (by omega) hV (by omega))
      have HBG : Hid (∀ r, 2 ≤ h' → r ^ N ≤ V / 2 ^ (h' * N) → V / 2 ^ (h' * N) < (r + 1) ^ N → WhRel V N ((r + 1) * 2 ^ h') ((r + 1) * 2 ^ h') ∧ N * bl ((r + 1) * 2 ^ h') ≤ bl V + 6 * N) := Lib.hid (fun r h2 a c => wh_big (by omega) hV hh h2 a c)
      obtain ⟨m, hm⟩ : ∃ m, m = N - 1 := ⟨_, rfl⟩
      have hmN : (N : Int) - 1 = (m : Int) := by omega
      have hm0 : 1 ≤ m := by omega
      have hmb : m ≤ 1023 := by omega
      -- what a round does
      have HRD : Hid (∀ X, N * bl X ≤ bl V + 6 * N → ∀ x, WhRel V N X x → bl x ≤ 70000 ∧ bl (x ^ m) ≤ 70000 ∧ bl x * m ≤ 70000 ∧ x ^ m ≠ 0 ∧ bl (x * m) ≤ 70011 ∧ nw (x * m + V / x ^ m) ≤ 16384) := Lib.hid (fun X hX x hx => by
        have hxX := bl_mono hx.xX
        have h1 : bl x * N ≤ N * bl X := by rw [Nat.mul_comm]; exact Nat.mul_le_mul_left N hxX
        have h2 : bl x * m ≤ bl x * N := Nat.mul_le_mul_left _ (by omega)
        have h3 : bl x * 1 ≤ bl x * m := Nat.mul_le_mul_left _ hm0
        have h4 := bl_pow_le (V := x) (N := m) (by omega)
        have h5 := bl_mul_le x m
        have h6 : bl m ≤ 11 := by rw [bl_le_iff]; omega
        refine ⟨by omega, by omega, by omega, ?_, by omega, ?_⟩
        · have := hx.x1
          exact Nat.ne_of_gt (Nat.pow_pos (by omega))
        · refine nw_of_bl ?_
          have h7 : V / x ^ m ≤ V := Nat.div_le_self _ _
          have h8 := lt_pow_bl (x * m)
          have h9 := lt_pow_bl V
          obtain ⟨T, hT1, hT2⟩ : ∃ T, 71000 ≤ T ∧ T + 1 ≤ 524288 := ⟨71000, by omega, by omega⟩
          have h10 : 2 ^ bl (x * m) ≤ 2 ^ T := Nat.pow_le_pow_right (by omega) (by omega)
          have h11 : 2 ^ bl V ≤ 2 ^ T := Nat.pow_le_pow_right (by omega) (by omega)
          refine Nat.le_trans ?_ hT2
          rw [bl_le_iff, Nat.pow_succ]
          generalize 2 ^ T = Q at *
          omega)
      have HNX : Hid (∀ X x, WhRel V N X x → newt V N x < x → WhRel V N X (newt V N x)) := Lib.hid (fun X x hx hl => hx.next n1 hV hl)
      have HDN : Hid (∀ X x, WhRel V N X x → x ≤ newt V N x → x ^ N ≤ V ∧ V < (x + 1) ^ N) := Lib.hid (fun X x hx hl => hx.done n1 hl)
      have HNW : Hid (∀ x, newt V N x = (x * m + V / x ^ m) / N) := Lib.hid (fun x => by rw [hm]; rfl)
      have HQ := Lib.hid (fun (B : Option Addr) (m2 d P : Nat) (w : World) (h : Wds w A n c (nd V)) (k : Wds w B m2 d (nd P)) (hP : bl P ≤ 70000) (hP0 : P ≠ 0) => nquo_any A n c (nd V) B m2 d (nd P) w h (by omega) k (by have := k.nwe; have := nw_of_bl (V := P) (by omega); omega) (by rw [nv_nd]; exact hnw) (by rw [nv_nd]; exact nw_of_bl (by omega)) (by rw [nv_nd]; exact hP0))
      simp only [nv_nd] at HQ
      have hwhole : ∀ (A : Option Addr) (n c : Nat) (w : World), 2 ≤ h' → Wds w A n c (nd (V / 2 ^ (h' * N))) → Calls Tryd.prog 122 #[.slice A n c, .int .i64 (N : Int)] w (RetRt (V / 2 ^ (h' * N)) N w) := fun A n c w h2 h => by
        obtain ⟨a1, a2, a3, -⟩ := hbig h2
        exact ih A n c _ N w a2 h a1 a3 n1 n2
      have HWH := Lib.hid hwhole
      have HBB := Lib.hid hbig
      have HNV := Lib.hid hnw
      obtain ⟨B, hB⟩ : ∃ B, B = bl V := ⟨_, rfl⟩
      obtain ⟨qq, hqq⟩ : ∃ q, q = B / N := ⟨_, rfl⟩
      have hq1 : (B : Int).tdiv (N : Int) = (qq : Int) := by rw [hqq]; rfl
      have hq2 : (qq : Int).tdiv 2 = (h' : Int) := by rw [hh, ← hB, ← hqq]; rfl
      have hq3 : (qq : Int) / 2 = (h' : Int) := by rw [hh, ← hB, ← hqq]; rfl
      have hN0 : (N : Int) ≠ 0 := by omega
      have hqb : qq ≤ 62000 := by rw [hqq]; have := Nat.div_le_self B N; omega
      have hBb : B ≤ 62000 := by omega
      have hnb : n ≤ 20000 := by omega
      rw [← hB] at HLE
      clear hm hqq hB hwhole hbig ih hb hnw hnl hh
      by_cases h2 : h' < 2
      · obtain ⟨hr1, hx1⟩ := HSM.out h2
        have HR1 := Lib.hid hr1
        have HX1 := Lib.hid hx1
        clear hr1 hx1 HSM HBG HWH
        have hW0 := list32 w
        have hE0 : Ext w (w.alloc (.cells #[.int .u32 32] 48)) := (Ext.refl w).alloc _
        go_enter Tryd.func122, Tryd.ntmps122
        go_wp2_with fail
        refine (HLE.out _ h).mono ?_
        rintro e w' ⟨rfl, rfl⟩
        go_wp2
        generalize w.heap.size = g1 at hW0 ⊢
        generalize w.alloc _ = w1 at hW0 hE0 ⊢
        have hW1 := hW0
        have hE1 := hE0
        clear hW0 hE0
        generalize Value.bool (decide ((h' : Int) < 2)) = zb
        go_loopw [6] (fun xv wr => ∃ (x : Nat) (A1 : Option Addr) (n1 c1 : Nat), xv = .slice A1 n1 c1 ∧ Wds wr A1 n1 c1 (nd x) ∧ Hid (WhRel V N 32 x) ∧ Ext w wr) (fun xv wr => rdNat xv wr)
        case atStart => exact ⟨_, _, _, _, rfl, hW1, HR1, hE1⟩
        case round =>
          obtain ⟨x, A3, n3, c3, rfl, hWx, hrel, hEr⟩ := hrel
          obtain ⟨z1, z2, z3, z4, z5, z6⟩ := HRD.out _ HX1.out x hrel.out
          have HY := HNW.out x
          have HN' := Lib.hid (HNX.out _ _ hrel.out)
          have HD' := Lib.hid (HDN.out _ _ hrel.out)
          clear hE1 hW1 HR1 hrel
          have hx3 := hWx.nwe
          have hnx := nw_of_bl (V := x) (by omega)
          have HP := Lib.hid (fun (w : World) (h : Wds w A3 n3 c3 (nd x)) => npow_any A3 n3 c3 (nd x) m w h (by omega) (by omega) (by rw [nv_nd]; omega) (by rw [nv_nd]; omega))
          simp only [nv_nd] at HP
          have HM := Lib.hid (fun (B : Option Addr) (m2 d : Nat) (w : World) (h : Wds w A3 n3 c3 (nd x)) (k : Wds w B m2 d (nd m)) => nmul_any A3 n3 c3 (nd x) B m2 d (nd m) w h (by omega) k (by have := k.nwe; have := nw_mono (show m ≤ 1023 by omega); rw [show nw 1023 = 1 by decide +kernel] at this; omega) (by rw [nv_nd, nv_nd]; have := bl_mono (show m ≤ 1023 by omega); rw [show bl 1023 = 10 by decide +kernel] at this; omega))
          simp only [nv_nd] at HM
          have HQ1 := Lib.hid (fun B m2 d w h k => HQ.out B m2 d (x ^ m) w h k z2 z4)
          obtain ⟨q, hq⟩ : ∃ q, q = V / x ^ m := ⟨_, rfl⟩
          obtain ⟨r, hr⟩ : ∃ r, r = V % x ^ m := ⟨_, rfl⟩
          rw [← hq, ← hr] at HQ1
          rw [← hq] at HY z6
          have hqV : q ≤ V := by rw [hq]; exact Nat.div_le_self _ _
          have hqn := nw_of_bl (V := q) (by have := bl_mono hqV; omega)
          have hsn := nw_of_bl (V := x * m) (by omega)
          have HA := Lib.hid (fun (A : Option Addr) (n c : Nat) (B : Option Addr) (m2 d : Nat) (w : World) (h : Wds w A n c (nd (x * m))) (k : Wds w B m2 d (nd q)) => nadd_any A n c (nd (x * m)) B m2 d (nd q) w h (by have := h.nwe; omega) k (by have := k.nwe; omega) (by rw [nv_nd]; exact hsn) (by rw [nv_nd]; exact hqn) (by rw [nv_nd, nv_nd]; exact z6))
          simp only [nv_nd] at HA
          obtain ⟨t, ht⟩ : ∃ t, t = x * m + q := ⟨_, rfl⟩
          rw [← ht] at HA HY z6
          have HQ2 := Lib.hid (fun (A : Option Addr) (n c : Nat) (B : Option Addr) (m2 d : Nat) (w : World) (h : Wds w A n c (nd t)) (k : Wds w B m2 d (nd N)) => nquo_any A n c (nd t) B m2 d (nd N) w h (by have := h.nwe; omega) k (by have := k.nwe; have := nw_mono n2; rw [show nw 1024 = 1 by decide +kernel] at this; omega) (by rw [nv_nd]; exact z6) (by rw [nv_nd]; have := nw_mono n2; rw [show nw 1024 = 1 by decide +kernel] at this; omega) (by rw [nv_nd]; omega))
          simp only [nv_nd] at HQ2
          obtain ⟨y, hy⟩ : ∃ y, y = t / N := ⟨_, rfl⟩
          rw [← hy] at HQ2 HY
          rw [HY] at HN' HD'
          have hyt : y ≤ t := by rw [hy]; exact Nat.div_le_self _ _
          have hyn : nw y ≤ 16384 := Nat.le_trans (nw_mono hyt) z6
          have HC := Lib.hid (fun (A : Option Addr) (n c : Nat) (w : World) (h : Wds w A n c (nd y)) (k : Wds w A3 n3 c3 (nd x)) => ncmp_any A n c (nd y) A3 n3 c3 (nd x) w h (by have := h.nwe; omega) k (by omega))
          simp only [nv_nd] at HC
          have HS1 := Lib.hid (fun w => nsmall_any m w (by omega))
          have HS2 := Lib.hid (fun w => nsmall_any N w (by omega))
          clear HY hq hr hqV hqn hsn ht hy hyt hyn z1 z2 z3 z4 z5 z6 hnx hx3
          go_wp2_with fail
          refine (HP.out _ hWx).mono ?_
          rintro e w2 ⟨A4, n4, c4, rfl, hW4, hE4⟩
          go_wp2_with fail
          refine (HQ1.out _ _ _ _ (h.ext (hEr.trans hE4)) hW4).mono ?_
          rintro e w5 ⟨A5, n5, c5, A6, n6, c6, rfl, hW5, -, hE5⟩
          have hE25 := hE4.trans hE5
          go_wp2_with fail
          refine (HS1.out _).mono ?_
          rintro e w6 ⟨A7, n7, c7, rfl, hW7, hE7⟩
          go_wp2_with fail
          refine (HM.out _ _ _ _ (hWx.ext (hE25.trans hE7)) hW7).mono ?_
          rintro e w8 ⟨A8, n8, c8, rfl, hW8, hE8⟩
          have hE28 := (hE25.trans hE7).trans hE8
          have hW58 := (hW5.ext hE7).ext hE8
          go_wp2_with fail
          refine (HA.out _ _ _ _ _ _ _ hW8 hW58).mono ?_
          rintro e w9 ⟨A9, n9, c9, rfl, hW9, hE9⟩
          go_wp2_with fail
          refine (HS2.out _).mono ?_
          rintro e w10 ⟨A10, n10, c10, rfl, hW10, hE10⟩
          go_wp2_with fail
          refine (HQ2.out _ _ _ _ _ _ _ (hW9.ext hE10) hW10).mono ?_
          rintro e w11 ⟨A11, n11, c11, A12, n12, c12, rfl, hW11, -, hE11⟩
          have hE211 := hE28.trans ((hE9.trans hE10).trans hE11)
          have hWx11 := hWx.ext hE211
          have hEr11 := hEr.trans hE211
          have hM2 := rdNat_of hWx
          clear hE4 hE5 hE25 hE7 hE8 hE28 hE9 hE10 hE11 hE211 hW4 hW5 hW7 hW8 hW58 hW9 hW10 HP HQ1 HM HA HQ2 HS1 HS2 hWx hEr
          go_wp2_with fail
          refine (HC.out _ _ _ _ hW11 hWx11).mono ?_
          rintro e w12 ⟨rfl, z, rfl⟩
          have hWx12 := hWx11.drewN z
          have hW12 := hW11.drewN z
          have hEr12 := hEr11.drewN z
          clear hWx11 hW11 hEr11 HC
          generalize w11.drewN z = w12 at hWx12 hW12 hEr12 ⊢
          by_cases hlt : y < x
          · have hcc : cmpN y x = -1 := by unfold cmpN; rw [if_pos hlt]
            rw [hcc]
            have HR2 := Lib.hid (HN'.out hlt)
            have hM1 := rdNat_of hW12
            go_wp2
            go_roundw
            case rel => exact ⟨_, _, _, _, rfl, hW12, HR2, hEr12⟩
            case measure =>
              show rdNat (.slice A11 n11 c11) w12 < rdNat (.slice A3 n3 c3) wr
              rw [hM1, hM2]
              exact hlt
          · have HF := Lib.hid (HD'.out (by omega))
            by_cases heq : y = x
            · have hcc : cmpN y x = 0 := by unfold cmpN; rw [if_neg hlt, if_neg (by omega)]
              rw [hcc]
              go_wp2
              go_ret
              exact ⟨_, _, _, _, rfl, hWx12, hEr12, HF⟩
            · have hcc : cmpN y x = 1 := by unfold cmpN; rw [if_neg hlt, if_pos (by omega)]
              rw [hcc]
              go_wp2
              go_ret
              exact ⟨_, _, _, _, rfl, hWx12, hEr12, HF⟩
      · have h2' : 2 ≤ h' := by omega
        obtain ⟨a1, a2, a3, a4, a5⟩ := HBB.out h2'
        obtain ⟨Z, hZ⟩ : ∃ Z, Z = h' * N := ⟨_, rfl⟩
        have hZe : (h' : Int) * (N : Int) = (Z : Int) := by rw [hZ]; push_cast; rfl
        rw [← hZ] at a1 a2 a3 a4 HBG HWH
        obtain ⟨U, hU⟩ : ∃ U, U = V / 2 ^ Z := ⟨_, rfl⟩
        have HSR := Lib.hid (fun (w : World) (h : Wds w A n c (nd V)) => nshr_any A n c (nd V) Z w h (by omega) (by omega) (by rw [nv_nd]; exact HNV.out))
        simp only [nv_nd] at HSR
        rw [← hU] at a1 a2 a3 HBG HWH HSR
        have HB2 := Lib.hid (fun r => HBG.out r h2')
        have HW2 := Lib.hid (fun A n c w => HWH.out A n c w h2')
        clear HSM HBG HWH hU hZ HBB a2 a1
        have hBU : bl U ≤ 62000 := a3
        go_enter Tryd.func122, Tryd.ntmps122
        go_wp2_with fail
        refine (HLE.out _ h).mono ?_
        rintro e w' ⟨rfl, rfl⟩
        go_wp2_with fail
        refine (HSR.out _ h).mono ?_
        rintro e w1 ⟨A1, n1', c1, rfl, hW1, hE1⟩
        go_wp2_with fail
        refine (HW2.out _ _ _ _ hW1).mono ?_
        rintro e w2 ⟨A2, n2', c2, r, rfl, hW2, hE2, hF2⟩
        have hE02 := hE1.trans hE2
        obtain ⟨hr1, hx1⟩ := HB2.out r hF2.out.1 hF2.out.2
        have hrb : bl (r + 1) ≤ 63000 ∧ bl ((r + 1) * 2 ^ h') ≤ 130000 := by
          have h3 : bl (r + 1) ≤ 62001 := by
            have h5 : r ≤ r ^ N := Nat.le_self_pow (by omega) r
            have h6 := bl_mono (Nat.le_trans h5 hF2.out.1)
            have h7 := lt_pow_bl r
            have h8 : bl (r + 1) ≤ bl r + 1 := by rw [bl_le_iff, Nat.pow_succ]; omega
            omega
          refine ⟨by omega, ?_⟩
          rw [bl_mul_pow h' (by omega)]
          omega
        have hrn := nw_of_bl (V := r + 1) (by omega)
        have hrr := nw_mono (show r ≤ r + 1 by omega)
        have HR1 := Lib.hid hr1
        have HX1 := Lib.hid hx1
        have HAD := Lib.hid (fun (A : Option Addr) (n c : Nat) (B : Option Addr) (m2 d : Nat) (w : World) (h : Wds w A n c (nd r)) (k : Wds w B m2 d (nd 1)) => nadd_any A n c (nd r) B m2 d (nd 1) w h (by have := h.nwe; omega) k (by have := k.nwe; rw [show nw 1 = 1 from rfl] at this; omega) (by rw [nv_nd]; omega) (by rw [nv_nd, show nw 1 = 1 from rfl]; omega) (by rw [nv_nd, nv_nd]; exact hrn))
        simp only [nv_nd] at HAD
        have HSL := Lib.hid (fun (A : Option Addr) (n c : Nat) (w : World) (h : Wds w A n c (nd (r + 1))) => nshl_any A n c (nd (r + 1)) h' w h (by have := h.nwe; omega) (by rw [nv_nd]; omega) (by rw [nv_nd]; omega))
        simp only [nv_nd] at HSL
        have hU2 := unit_list w2
        have hE3 : Ext w2 (w2.alloc (.cells #[.int .u32 1] 48)) := (Ext.refl w2).alloc _
        have hW3 := hW2.ext hE3
        have hE03 := hE02.trans hE3
        clear hr1 hx1 hF2 hrb hrn hrr hW1 hE1 hE2 HB2 HW2 HSR HLE hW2 hE3 hE02
        go_wp2_with fail
        generalize w2.heap.size = g3 at hU2 ⊢
        generalize w2.alloc _ = w3 at hU2 hE03 hW3 ⊢
        refine (HAD.out _ _ _ _ _ _ _ hW3 hU2).mono ?_
        rintro e w4 ⟨A4, n4, c4, rfl, hW4, hE4⟩
        go_wp2_with fail
        refine (HSL.out _ _ _ _ hW4).mono ?_
        rintro e w5 ⟨A5, n5, c5, rfl, hW5, hE5⟩
        have hW1 := hW5
        have hE1 := hE03.trans (hE4.trans hE5)
        clear HAD HSL hU2 hW3 hE03 hW4 hE4 hE5 hW5
        go_wp2
        go_loopw [6] (fun xv wr => ∃ (x : Nat) (A1 : Option Addr) (n1 c1 : Nat), xv = .slice A1 n1 c1 ∧ Wds wr A1 n1 c1 (nd x) ∧ Hid (WhRel V N ((r + 1) * 2 ^ h') x) ∧ Ext w wr) (fun xv wr => rdNat xv wr)
        case atStart => exact ⟨_, _, _, _, rfl, hW1, HR1, hE1⟩
        case round =>
          obtain ⟨x, A3, n3, c3, rfl, hWx, hrel, hEr⟩ := hrel
          obtain ⟨z1, z2, z3, z4, z5, z6⟩ := HRD.out _ HX1.out x hrel.out
          have HY := HNW.out x
          have HN' := Lib.hid (HNX.out _ _ hrel.out)
          have HD' := Lib.hid (HDN.out _ _ hrel.out)
          clear hE1 hW1 HR1 hrel
          have hx3 := hWx.nwe
          have hnx := nw_of_bl (V := x) (by omega)
          have HP := Lib.hid (fun (w : World) (h : Wds w A3 n3 c3 (nd x)) => npow_any A3 n3 c3 (nd x) m w h (by omega) (by omega) (by rw [nv_nd]; omega) (by rw [nv_nd]; omega))
          simp only [nv_nd] at HP
          have HM := Lib.hid (fun (B : Option Addr) (m2 d : Nat) (w : World) (h : Wds w A3 n3 c3 (nd x)) (k : Wds w B m2 d (nd m)) => nmul_any A3 n3 c3 (nd x) B m2 d (nd m) w h (by omega) k (by have := k.nwe; have := nw_mono (show m ≤ 1023 by omega); rw [show nw 1023 = 1 by decide +kernel] at this; omega) (by rw [nv_nd, nv_nd]; have := bl_mono (show m ≤ 1023 by omega); rw [show bl 1023 = 10 by decide +kernel] at this; omega))
          simp only [nv_nd] at HM
          have HQ1 := Lib.hid (fun B m2 d w h k => HQ.out B m2 d (x ^ m) w h k z2 z4)
          obtain ⟨q, hq⟩ : ∃ q, q = V / x ^ m := ⟨_, rfl⟩
          obtain ⟨r, hr⟩ : ∃ r, r = V % x ^ m := ⟨_, rfl⟩
          rw [← hq, ← hr] at HQ1
          rw [← hq] at HY z6
          have hqV : q ≤ V := by rw [hq]; exact Nat.div_le_self _ _
          have hqn := nw_of_bl (V := q) (by have := bl_mono hqV; omega)
          have hsn := nw_of_bl (V := x * m) (by omega)
          have HA := Lib.hid (fun (A : Option Addr) (n c : Nat) (B : Option Addr) (m2 d : Nat) (w : World) (h : Wds w A n c (nd (x * m))) (k : Wds w B m2 d (nd q)) => nadd_any A n c (nd (x * m)) B m2 d (nd q) w h (by have := h.nwe; omega) k (by have := k.nwe; omega) (by rw [nv_nd]; exact hsn) (by rw [nv_nd]; exact hqn) (by rw [nv_nd, nv_nd]; exact z6))
          simp only [nv_nd] at HA
          obtain ⟨t, ht⟩ : ∃ t, t = x * m + q := ⟨_, rfl⟩
          rw [← ht] at HA HY z6
          have HQ2 := Lib.hid (fun (A : Option Addr) (n c : Nat) (B : Option Addr) (m2 d : Nat) (w : World) (h : Wds w A n c (nd t)) (k : Wds w B m2 d (nd N)) => nquo_any A n c (nd t) B m2 d (nd N) w h (by have := h.nwe; omega) k (by have := k.nwe; have := nw_mono n2; rw [show nw 1024 = 1 by decide +kernel] at this; omega) (by rw [nv_nd]; exact z6) (by rw [nv_nd]; have := nw_mono n2; rw [show nw 1024 = 1 by decide +kernel] at this; omega) (by rw [nv_nd]; omega))
          simp only [nv_nd] at HQ2
          obtain ⟨y, hy⟩ : ∃ y, y = t / N := ⟨_, rfl⟩
          rw [← hy] at HQ2 HY
          rw [HY] at HN' HD'
          have hyt : y ≤ t := by rw [hy]; exact Nat.div_le_self _ _
          have hyn : nw y ≤ 16384 := Nat.le_trans (nw_mono hyt) z6
          have HC := Lib.hid (fun (A : Option Addr) (n c : Nat) (w : World) (h : Wds w A n c (nd y)) (k : Wds w A3 n3 c3 (nd x)) => ncmp_any A n c (nd y) A3 n3 c3 (nd x) w h (by have := h.nwe; omega) k (by omega))
          simp only [nv_nd] at HC
          have HS1 := Lib.hid (fun w => nsmall_any m w (by omega))
          have HS2 := Lib.hid (fun w => nsmall_any N w (by omega))
          clear HY hq hr hqV hqn hsn ht hy hyt hyn z1 z2 z3 z4 z5 z6 hnx hx3
          go_wp2_with fail
          refine (HP.out _ hWx).mono ?_
          rintro e w2 ⟨A4, n4, c4, rfl, hW4, hE4⟩
          go_wp2_with fail
          refine (HQ1.out _ _ _ _ (h.ext (hEr.trans hE4)) hW4).mono ?_
          rintro e w5 ⟨A5, n5, c5, A6, n6, c6, rfl, hW5, -, hE5⟩
          have hE25 := hE4.trans hE5
          go_wp2_with fail
          refine (HS1.out _).mono ?_
          rintro e w6 ⟨A7, n7, c7, rfl, hW7, hE7⟩
          go_wp2_with fail
          refine (HM.out _ _ _ _ (hWx.ext (hE25.trans hE7)) hW7).mono ?_
          rintro e w8 ⟨A8, n8, c8, rfl, hW8, hE8⟩
          have hE28 := (hE25.trans hE7).trans hE8
          have hW58 := (hW5.ext hE7).ext hE8
          go_wp2_with fail
          refine (HA.out _ _ _ _ _ _ _ hW8 hW58).mono ?_
          rintro e w9 ⟨A9, n9, c9, rfl, hW9, hE9⟩
          go_wp2_with fail
          refine (HS2.out _).mono ?_
          rintro e w10 ⟨A10, n10, c10, rfl, hW10, hE10⟩
          go_wp2_with fail
          refine (HQ2.out _ _ _ _ _ _ _ (hW9.ext hE10) hW10).mono ?_
          rintro e w11 ⟨A11, n11, c11, A12, n12, c12, rfl, hW11, -, hE11⟩
          have hE211 := hE28.trans ((hE9.trans hE10).trans hE11)
          have hWx11 := hWx.ext hE211
          have hEr11 := hEr.trans hE211
          have hM2 := rdNat_of hWx
          clear hE4 hE5 hE25 hE7 hE8 hE28 hE9 hE10 hE11 hE211 hW4 hW5 hW7 hW8 hW58 hW9 hW10 HP HQ1 HM HA HQ2 HS1 HS2 hWx hEr
          go_wp2_with fail
          refine (HC.out _ _ _ _ hW11 hWx11).mono ?_
          rintro e w12 ⟨rfl, z, rfl⟩
          have hWx12 := hWx11.drewN z
          have hW12 := hW11.drewN z
          have hEr12 := hEr11.drewN z
          clear hWx11 hW11 hEr11 HC
          generalize w11.drewN z = w12 at hWx12 hW12 hEr12 ⊢
          by_cases hlt : y < x
          · have hcc : cmpN y x = -1 := by unfold cmpN; rw [if_pos hlt]
            rw [hcc]
            have HR2 := Lib.hid (HN'.out hlt)
            have hM1 := rdNat_of hW12
            go_wp2
            go_roundw
            case rel => exact ⟨_, _, _, _, rfl, hW12, HR2, hEr12⟩
            case measure =>
              show rdNat (.slice A11 n11 c11) w12 < rdNat (.slice A3 n3 c3) wr
              rw [hM1, hM2]
              exact hlt
          · have HF := Lib.hid (HD'.out (by omega))
            by_cases heq : y = x
            · have hcc : cmpN y x = 0 := by unfold cmpN; rw [if_neg hlt, if_neg (by omega)]
              rw [hcc]
              go_wp2
              go_ret
              exact ⟨_, _, _, _, rfl, hWx12, hEr12, HF⟩
            · have hcc : cmpN y x = 1 := by unfold cmpN; rw [if_neg hlt, if_pos (by omega)]
              rw [hcc]
              go_wp2
              go_ret
              exact ⟨_, _, _, _, rfl, hWx12, hEr12, HF⟩
end Go.Proofs.YtadijoeeaineaaaDoor
      
/-
  Plain: the program's root: how far it shifts, and what it finds. Conditions: those that each theorem names.
-/
set_option linter.unusedVariables false
set_option linter.unusedSimpArgs false
namespace Go.Proofs.YtadijoeeaineaaaDoor.Rn
open Nm

theorem root_at {V k X N r : Nat} {e x : Int} (h1 : r ^ N ≤ V * 2 ^ k) (h2 : V * 2 ^ k < (r + 1) ^ N) (he : (N : Int) * e = x - k) (hX : (X : Int) = x + 1074) :
    RootAt (V * 2 ^ X) K74 N (-e) r (decide (r ^ N ≠ V * 2 ^ k)) := by
  obtain ⟨T, hT, hK⟩ : ∃ T : Nat, T = 1074 ∧ K74 = 2 ^ T := ⟨1074, rfl, K74_def⟩
  rw [hK]
  have e1 : V * 2 ^ X * 2 ^ (k + T) = V * 2 ^ k * (2 ^ T * 2 ^ X) := by rw [Nat.pow_add]; simp only [Nat.mul_assoc, Nat.mul_comm, Nat.mul_left_comm]
  have hp : 0 < 2 ^ T * 2 ^ X := Nat.mul_pos (two_pow_pos T) (two_pow_pos X)
  refine ⟨k + T, X, ?_, ?_, ?_, ?_⟩
  · rw [Int.mul_neg, he]; push_cast; omega
  · rw [e1]; exact Nat.mul_le_mul_right _ h1
  · rw [e1]; exact Nat.mul_lt_mul_of_pos_right h2 hp
  · rw [e1]
    refine decide_eq_decide.2 (not_congr ⟨fun h => by rw [h], fun h => Nat.eq_of_mul_eq_mul_right hp h⟩)

/-- How far it shifts. -/
theorem shift_at (x : Int) (k0 : Nat) {N : Nat} (hN : 1 ≤ N) : ∃ kE : Nat, ∃ e : Int, k0 ≤ kE ∧ kE < k0 + N ∧ (N : Int) * e = x - kE ∧ (x - kE).tmod N = 0 ∧ (x - kE).tdiv N = e ∧ ∀ k : Nat, k0 ≤ k → k < kE → (x - (k : Int)).tmod N ≠ 0 := by
  have hN' : (0 : Int) < N := by omega
  have h1 := Int.emod_nonneg (x - k0) (show (N : Int) ≠ 0 by omega)
  have h2 := Int.emod_lt_of_pos (x - k0) hN'
  have h3 := Int.mul_ediv_add_emod (x - k0) N
  obtain ⟨E, hE⟩ : ∃ E : Nat, (E : Int) = (x - k0) % N := ⟨((x - k0) % N).toNat, by omega⟩
  rw [← hE] at h1 h2 h3
  obtain ⟨e, he⟩ : ∃ e, e = (x - k0) / (N : Int) := ⟨_, rfl⟩
  rw [← he] at h3
  have hx : x - ((k0 + E : Nat) : Int) = N * e := by push_cast; omega
  refine ⟨k0 + E, e, by omega, by omega, hx.symm, ?_, ?_, fun k hk1 hk2 h => ?_⟩
  · rw [hx]; exact Int.mul_tmod_right _ _
  · rw [hx]; exact Int.mul_tdiv_cancel_left _ (by omega)
  · have hd := Int.dvd_of_tmod_eq_zero h
    have hd2 : (N : Int) ∣ (x - (k : Int)) - N * e := Int.dvd_sub hd (Int.dvd_mul_right _ _)
    have hpos : 0 < (x - (k : Int)) - N * e := by rw [← hx]; push_cast; omega
    have := Int.le_of_dvd hpos hd2
    rw [← hx] at this
    push_cast at this
    omega

theorem root_long {V k N r : Nat} (hV : 1 ≤ V) (hN : 1 ≤ N) (hk : 58 * N ≤ bl V + k) (h2 : V * 2 ^ k < (r + 1) ^ N) : 55 ≤ bl r := by
  rcases Nat.lt_or_ge (bl r) 55 with h | h
  · exfalso
    have h3 := lt_pow_bl r
    have h4 : 2 ^ bl r ≤ 2 ^ 54 := Nat.pow_le_pow_right (by omega) (by omega)
    have h5 : (r + 1) ^ N ≤ (2 ^ 54) ^ N := Nat.pow_le_pow_left (by omega) N
    rw [← Nat.pow_mul] at h5
    have h6 := pow_le_of_bl (n := V * 2 ^ k) (Nat.ne_of_gt (Nat.mul_pos hV (two_pow_pos k)))
    rw [bl_mul_pow k (by omega)] at h6
    have h7 : 2 ^ (54 * N) ≤ 2 ^ (bl V + k - 1) := Nat.pow_le_pow_right (by omega) (by omega)
    omega
  · exact h
end Go.Proofs.YtadijoeeaineaaaDoor.Rn
