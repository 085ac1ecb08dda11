/-
  The contracts of the program's own naturals, ninth part: products. Conditions: those that each theorem names.
-/
import Derived.Test.YtmcfflecaklpcaaZ11
import Derived.Test.YtmcfflecaklpcaaZ12
namespace Go.Proofs.Ytmcfflecaklpcaa
open Go.RowKit Nm
set_option maxRecDepth 100000
set_option linter.unusedVariables false
set_option linter.unusedSimpArgs false

set_option maxHeartbeats 2000000 in
theorem nmul_raw (A : Option Addr) (n c : Nat) (xs : List Nat) (B : Option Addr) (m d : Nat) (ys : List Nat) (w : World) (h : Wds w A n c xs) (hn : n ≤ 8796093022208) (k : Wds w B m d ys) (hm : m ≤ 8796093022208) :
    Calls Try.prog 138 #[.slice A n c, .slice B m d] w fun e w' => ∃ g L, e = .returned (.slice (some ⟨g, 0, none⟩) (n + m) (n + m)) ∧ Row w' g L ∧ Ws L ∧ L.length = n + m ∧ nv L = nv xs * nv ys ∧ w.heap.size ≤ g ∧ Ext w w' := by
  have hlx := h.len
  have hly := k.len
  have hmk := run_make32 (n + m) (by omega) w
  push_cast at hmk
  have hr0 := Row.new w (List.replicate (n + m) 0)
  have hE0 : Ext w (w.alloc (.cells (u32s (List.replicate (n + m) 0)).toArray 80)) := (Ext.refl w).alloc _
  obtain ⟨w1, hw1⟩ : ∃ w1, w1 = w.alloc (.cells (u32s (List.replicate (n + m) 0)).toArray 80) := ⟨_, rfl⟩
  rw [← hw1] at hmk hr0 hE0
  clear hw1
  obtain ⟨g, hg⟩ : ∃ g, g = w.heap.size := ⟨_, rfl⟩
  rw [← hg] at hmk hr0
  have hgl : w.heap.size ≤ g := by omega
  clear hg
  have HXk : Hid (nv (xs.take n) = nv xs) := Lib.hid (by rw [List.take_of_length_le (by omega)])
  have Hlx := Lib.hid hlx
  have Hly := Lib.hid hly
  clear hlx hly
  go_enter Try.func138, Try.ntmps138
  go_wp2
  clear hmk
  go_loopw [20] (fun jv wr => ∃ (j : Nat) (L : List Nat), j ≤ m ∧ jv = .int .i64 j ∧ TimesRel xs ys L n m j ∧ Row wr g L ∧ Ext w wr) (fun jv _ => m - (intOf jv).toNat)
  case atStart => exact ⟨0, _, Nat.zero_le _, rfl, TimesRel.start xs ys n m, hr0, hE0⟩
  case round =>
    obtain ⟨j, L0, hj, rfl, hL0, hrow0, hb0⟩ := hrel
    obtain ⟨wo, rfl⟩ : ∃ wo : World, wo = wr := ⟨_, rfl⟩
    by_cases hlt : j < m
    · obtain ⟨bd, hy, rfl, _, hcY⟩ := (k.ext hb0).at_ (k := j) (by omega)
      have hY32 := k.ws.get hy
      by_cases hy0 : ys[j] = 0
      · have hsk := Lib.hid (hL0.skip hy hy0)
        go_wp2
        go_roundw
        case rel => exact ⟨j + 1, L0, by omega, by go_num, hsk.out, hrow0, hb0⟩
        case measure => simp [intOf]; omega
      · have HN := Lib.hid (fun (L : List Nat) (cr : Nat) hh hcr => TimesRel.next (L := L) (cr := cr) hL0 hy hlt hh HXk.out hcr)
        generalize ys[j] = y at *
        have hy1 : 0 < y := by omega
        clear hy0
        go_wp2
        go_loopw [8, 37] (fun cv iv wr => ∃ (i cr : Nat) (L : List Nat), i ≤ n ∧ cr < 4294967296 ∧ iv = .int .i64 i ∧ cv = .int .u64 (cr : Int) ∧ RowRel xs L (nv L0) y n m j i cr ∧ Row wr g L ∧ Ext w wr) (fun _ iv _ => n - (intOf iv).toNat)
        case atStart => exact ⟨0, 0, L0, Nat.zero_le _, by omega, rfl, rfl, hL0.row y, hrow0, hb0⟩
        case round =>
          obtain ⟨i, cr, L, hi, hcr, rfl, rfl, hL, hrow, hb⟩ := hrel
          have hLl := hL.len
          by_cases hlti : i < n
          · obtain ⟨ad, hx, rfl, _, hcX⟩ := (h.ext hb).at_ (k := i) (by omega)
            have hX32 := h.ws.get hx
            have hc1 : wr.cell? ⟨g, j + i, none⟩ = some (.int .u32 (L[i + j]'(by omega) : Int)) := by rw [Nat.add_comm j i]; exact hrow.cell (i := i + j) (by omega)
            have hf1 := hrow.frozen (j + i)
            have hA32 := hL.ws.get (k := i + j) (by omega)
            have hk' : i + j < L.length := by omega
            obtain ⟨a, ha⟩ : ∃ a, L[i + j] = a := ⟨_, rfl⟩
            obtain ⟨x, hxe⟩ : ∃ x, xs[i] = x := ⟨_, rfl⟩
            have hst := fun (v lo hi' : Nat) hv hlo hhi => hL.step (v := v) (lo := lo) (hi := hi') hlt hlti hx hxe hk' ha hv hlo hhi
            rw [ha] at hc1 hA32
            rw [hxe] at hcX hX32
            clear ha hxe
            have hp : x * y ≤ 18446744065119617025 := Nat.le_trans (Nat.mul_le_mul (show x ≤ 4294967295 by omega) (show y ≤ 4294967295 by omega)) (by omega)
            obtain ⟨p, hpv⟩ : ∃ p, p = x * y := ⟨_, rfl⟩
            rw [← hpv] at hp
            have ep : (x : Int) * (y : Int) = (p : Int) := by rw [hpv]; exact (Int.natCast_mul x y).symm
            obtain ⟨v, hv⟩ : ∃ v, v = cr + a + p := ⟨_, rfl⟩
            have hv64 : v < 18446744073709551616 := by omega
            obtain ⟨lo, hlo⟩ : ∃ lo, lo = v % 4294967296 := ⟨_, rfl⟩
            obtain ⟨hi', hhi⟩ : ∃ hi', hi' = v / 4294967296 := ⟨_, rfl⟩
            have hst' := hst v lo hi' (by rw [hv, hpv]) hlo hhi
            clear hst
            have HST := Lib.hid hst'
            clear hst'
            have hlo32 : lo < 4294967296 := by omega
            have hhi32 : hi' < 4294967296 := by omega
            have g7 : (cr : Int) + ((p : Int) + (a : Int)) = (v : Int) := by omega
            have g5 : (v : Int) % 4294967296 = (lo : Int) := by omega
            have g6 : (v : Int) / 4294967296 = (hi' : Int) := by omega
            have hrow' : Row (wr.setCell ⟨g, j + i, none⟩ (.int .u32 (lo : Int))) g (L.set (i + j) lo) := by rw [Nat.add_comm j i]; exact hrow.set_ (i + j) lo
            clear hpv hlo hhi hv
            go_wp2
            go_roundw
            case rel => exact ⟨i + 1, hi', _, by omega, hhi32, by go_num, rfl, HST.out, hrow', hb.setCell hgl _⟩
            case measure => simp [intOf]; omega
          · have e : i = n := by omega
            subst e
            have hk' : j + i < L.length := by omega
            have hc1 := hrow.cell hk'
            have hf1 := hrow.frozen (j + i)
            have hrow' := hrow.set_ (j + i) cr
            have HF := Lib.hid (HN.out L cr hL hcr)
            clear HN
            go_wp2
            go_roundw
            case rel => exact ⟨j + 1, _, by omega, by go_num, HF.out, hrow', hb.setCell hgl _⟩
            case measure => simp [intOf]; omega
    · have e : j = m := by omega
      subst e
      have HV : Hid (nv L0 = nv xs * nv ys) := Lib.hid (by rw [hL0.val, List.take_of_length_le (by have := Hly.out; omega)])
      go_wp2
      go_ret
      exact ⟨g, L0, rfl, hrow0, hL0.ws, hL0.len, HV.out, hgl, hb0⟩

theorem bl_mul_le (a b : Nat) : bl (a * b) ≤ bl a + bl b := by
  rw [bl_le_iff, Nat.pow_add]
  exact Nat.mul_lt_mul'' (lt_pow_bl a) (lt_pow_bl b)

/-- long, of two lists, none too long. -/
theorem nlong_two (g c : Nat) (A : Option Addr) (n e : Nat) (xs : List Nat) (B : Option Addr) (m d : Nat) (ys : List Nat) (w : World) (hc0 : w.cell? ⟨g, 0, none⟩ = some (.slice A n e)) (hc1 : w.cell? ⟨g, 1, none⟩ = some (.slice B m d))
    (h : Wds w A n e xs) (hn : n ≤ 35184372088832) (hs : nw (nv xs) ≤ 16384) (k : Wds w B m d ys) (hm : m ≤ 35184372088832) (ks : nw (nv ys) ≤ 16384) :
    Calls Try.prog 131 #[.slice (some ⟨g, 0, none⟩) 2 c] w fun e w' => e = .returned (.bool false) ∧ w = w' :=
  (nlong_any g 2 c [⟨A, n, e, xs⟩, ⟨B, m, d, ys⟩] w rfl (by omega) (fun i s hs => by
    match i, hs with
    | 0, hs => simp at hs; subst hs; exact hc0
    | 1, hs => simp at hs; subst hs; exact hc1
    | i + 2, hs => simp at hs) (fun s hs => by
    simp at hs
    rcases hs with rfl | rfl
    · exact ⟨h, hn⟩
    · exact ⟨k, hm⟩)).mono fun e w' h => ⟨by rw [h.1]; exact ret_bool (by simp [isLong]; omega), h.2⟩

set_option maxHeartbeats 2000000 in
theorem nmul_any (A : Option Addr) (n c : Nat) (xs : List Nat) (B : Option Addr) (m d : Nat) (ys : List Nat) (w : World) (h : Wds w A n c xs) (hn : n ≤ 8796093022208) (k : Wds w B m d ys) (hm : m ≤ 8796093022208) (hs : bl (nv xs) + bl (nv ys) ≤ 524288) :
    Calls Try.prog 135 #[.slice A n c, .slice B m d] w (RetWE (nv xs * nv ys) 0 w) := by
  have h1 := nw_of_bl (V := nv xs) (by omega)
  have h2 := nw_of_bl (V := nv ys) (by omega)
  have hLG : Hid (∀ g w, w.cell? ⟨g, 0, none⟩ = some (.slice A n c) → w.cell? ⟨g, 1, none⟩ = some (.slice B m d) → Wds w A n c xs → Wds w B m d ys → Calls Try.prog 131 #[.slice (some ⟨g, 0, none⟩) 2 2] w fun e w' => e = .returned (.bool false) ∧ w = w') :=
    Lib.hid (fun g w a b c' d' => nlong_two g 2 A n c xs B m d ys w a b c' (by omega) h1 d' (by omega) h2)
  have hL1 := fun w h => nlen_any A n c xs w h (by omega)
  have hL2 := fun w h => nlen_any B m d ys w h (by omega)
  have hW1 := fun w h => nwords_any A n c xs w h (by omega)
  have hW2 := fun w h => nwords_any B m d ys w h (by omega)
  have hp1 := h.pre
  have hp2 := k.pre
  have hle1 : nw (nv xs) ≤ n := by have := nw_nv_le h.ws; have := h.len; omega
  have hle2 : nw (nv ys) ≤ m := by have := nw_nv_le k.ws; have := k.len; omega
  have hlc1 := h.lec
  have hlc2 := k.lec
  have hfitb : nw (nv xs * nv ys) ≤ 16384 := nw_of_bl (by have := bl_mul_le (nv xs) (nv ys); omega)
  obtain ⟨V, hV⟩ : ∃ V, V = nv xs := ⟨_, rfl⟩
  obtain ⟨U, hU⟩ : ∃ U, U = nv ys := ⟨_, rfl⟩
  rw [← hV] at hL1 hW1 hp1 hle1 hs h1 hfitb ⊢
  rw [← hU] at hL2 hW2 hp2 hle2 hs h2 hfitb ⊢
  obtain ⟨bV, hbV⟩ : ∃ b, b = bl V := ⟨_, rfl⟩
  obtain ⟨bU, hbU⟩ : ∃ b, b = bl U := ⟨_, rfl⟩
  rw [← hbV] at hL1 hs
  rw [← hbU] at hL2 hs
  have hMR : ∀ w, Wds w A (nw V) c (nd V) → Wds w B (nw U) d (nd U) → Calls Try.prog 138 #[.slice A (nw V) c, .slice B (nw U) d] w fun e w' => ∃ g L, e = .returned (.slice (some ⟨g, 0, none⟩) (nw V + nw U) (nw V + nw U)) ∧ Row w' g L ∧ Ws L ∧ L.length = nw V + nw U ∧ nv L = V * U ∧ w.heap.size ≤ g ∧ Ext w w' := fun w a b => by
    have := nmul_raw A (nw V) c (nd V) B (nw U) d (nd U) w a (by omega) b (by omega)
    rwa [nv_nd, nv_nd] at this
  obtain ⟨p, hp⟩ : ∃ p, p = nw V := ⟨_, rfl⟩
  obtain ⟨q, hq⟩ : ∃ q, q = nw U := ⟨_, rfl⟩
  rw [← hp] at hW1 hp1 hle1 h1 hMR
  rw [← hq] at hW2 hp2 hle2 h2 hMR
  obtain ⟨vs, hvs⟩ : ∃ vs, vs = nd V := ⟨_, rfl⟩
  obtain ⟨us, hus⟩ : ∃ us, us = nd U := ⟨_, rfl⟩
  rw [← hvs] at hp1
  rw [← hus] at hp2
  rw [← hvs, ← hus] at hMR
  have HL1 := Lib.hid hL1
  have HL2 := Lib.hid hL2
  have HW1 := Lib.hid hW1
  have HW2 := Lib.hid hW2
  have HMR := Lib.hid hMR
  clear hL1 hL2 hW1 hW2 hMR hV hU hbV hbU hp hq hvs hus
  have hn1 := h.alloc (.cells #[.slice A n c, .slice B m d] 33)
  have hk1 := k.alloc (.cells #[.slice A n c, .slice B m d] 33)
  have hp1' := hp1.alloc (.cells #[.slice A n c, .slice B m d] 33)
  have hp2' := hp2.alloc (.cells #[.slice A n c, .slice B m d] 33)
  have hE0 : Ext w (w.alloc (.cells #[.slice A n c, .slice B m d] 33)) := (Ext.refl w).alloc _
  have hcell0 : (w.alloc (.cells #[.slice A n c, .slice B m d] 33)).cell? ⟨w.heap.size, 0, none⟩ = some (.slice A n c) := by simp
  have hcell1 : (w.alloc (.cells #[.slice A n c, .slice B m d] 33)).cell? ⟨w.heap.size, 1, none⟩ = some (.slice B m d) := by simp
  have hpc : p ≤ c := by omega
  have hqd : q ≤ d := by omega
  obtain ⟨sp, hsp⟩ : ∃ sp : Nat → Sp, sp = ofList [det (.slice A n c), det (.slice A n c), det (.int .i64 (p : Int)), det (.slice A p c), det (.slice B m d), det (.slice B m d), det (.int .i64 (q : Int)), det (.slice B q d),
    anyOf (fun v wz => ∃ g L, v = .slice (some ⟨g, 0, none⟩) (p + q) (p + q) ∧ Row wz g L ∧ Ws L ∧ L.length = p + q ∧ nv L = V * U),
    anyOf (fun v wz => ∃ A3 n3 c3, v = .tuple #[.slice A3 n3 c3, .int .i64 0] ∧ Wds wz A3 n3 c3 (nd (V * U))),
    anyOf (fun v wz => ∃ A3 n3 c3, v = .slice A3 n3 c3 ∧ Wds wz A3 n3 c3 (nd (V * U))), det (.int .i64 0)] := ⟨_, rfl⟩
  have HSP := Lib.hid hsp
  clear hsp
  cases A <;> cases B
  all_goals
    go_enter Try.func135, Try.ntmps135
    go_wp2_with fail
    generalize w.heap.size = g0 at hcell0 hcell1 ⊢
    generalize w.alloc _ = w1 at hn1 hk1 hp1' hp2' hE0 hcell0 hcell1 ⊢
    go_wp2_with (first | (go_at_call 131; refine (hLG.out _ _ hcell0 hcell1 hn1 hk1).mono ?_; rintro e w' ⟨rfl, rfl⟩) | (go_at_call 90; ((with_reducible refine (HL1.out _ hn1).mono ?_); rintro e w' ⟨rfl, rfl⟩)) | (go_at_call 90; ((with_reducible refine (HL2.out _ hk1).mono ?_); rintro e w' ⟨rfl, rfl⟩)))
    refine wp_region_loose 12 (Ext w1) sp (by kernel_rfl) (by kernel_rfl) (Ext.refl w1).drew (fun _ _ h1 h2 => h1.trans h2) ?_
    simp only [List.take_succ_cons, List.take_zero, List.drop_succ_cons, List.drop_zero]
    iterate 8
      refine wpX_step (fun K hK => ?_)
      go_simp
      refine StepY.det (by rw [HSP.out]; rfl) ?_ ?_
      · intro wz hz hF
        clear hF
        go_simp
        first
        | exact ⟨rfl, Ext.refl _⟩
        | (go_at_call 129
           first
           | (with_reducible refine (HW1.out _ (hn1.ext hz)).mono ?_)
           | (with_reducible refine (HW2.out _ (hk1.ext hz)).mono ?_)
           rintro e w8 ⟨rfl, rfl⟩
           exact ⟨_, rfl, rfl, Ext.refl _⟩)
      refine hK _ _ ?_
      clear hK K
    refine wpX_step (fun K hK => ?_)
    go_simp
    refine StepY.any (by rw [HSP.out]; rfl) ?_ ?_
    · intro wz hz hF
      clear hF
      go_simp
      refine (HMR.out _ (hp1'.ext hz) (hp2'.ext hz)).mono ?_
      rintro e w2 ⟨g2, L, rfl, hr2, hL, hLl, hLv, hg2, hE2⟩
      exact ⟨_, rfl, ⟨g2, rfl, L, hr2, hL, hLl, hLv⟩, hE2⟩
    intro v8
    refine hK _ _ ?_
    clear hK K
    refine wpX_step (fun K hK => ?_)
    go_simp
    refine StepY.any (by rw [HSP.out]; rfl) ?_ ?_
    · intro wz hz hF
      obtain ⟨wa, ea, g2, L, hv, hr2, hL, hLl, hLv⟩ := hF.any 8 (by kernel_rfl) (by rw [HSP.out]; rfl)
      clear hF
      simp only [asFun, List.nil_append, List.cons_append, List.getD_cons_succ, List.getD_cons_zero] at hv
      subst hv
      have hWW := (hr2.ext ea).wds hL hLl (Nat.le_refl _) (by unfold maxLen; omega)
      have HLV := Lib.hid hLv
      go_simp
      refine (nfit_any _ _ _ _ _ hWW (by omega) (by rw [HLV.out]; exact hfitb)).mono ?_
      rintro e w3 ⟨A3, n3, c3, rfl, hR, hE3⟩
      rw [HLV.out] at hR
      exact ⟨_, rfl, ⟨A3, n3, c3, rfl, hR⟩, hE3⟩
    intro v9
    refine hK _ _ ?_
    clear hK K
    refine wpX_step (fun K hK => ?_)
    go_simp
    refine StepY.any (by rw [HSP.out]; rfl) ?_ ?_
    · intro wz hz hF
      obtain ⟨wa, ea, A3, n3, c3, hv, hR⟩ := hF.any 9 (by kernel_rfl) (by rw [HSP.out]; rfl)
      clear hF
      simp only [asFun, List.nil_append, List.cons_append, List.getD_cons_succ, List.getD_cons_zero] at hv
      subst hv
      go_simp
      exact ⟨⟨A3, n3, c3, rfl, hR.ext ea⟩, Ext.refl _⟩
    intro v10
    refine hK _ _ ?_
    clear hK K
    refine wpX_step (fun K hK => ?_)
    go_simp
    refine StepY.det (by rw [HSP.out]; rfl) ?_ ?_
    · intro wz hz hF
      obtain ⟨wa, ea, A3, n3, c3, hv, hR⟩ := hF.any 9 (by kernel_rfl) (by rw [HSP.out]; rfl)
      clear hF
      simp only [asFun, List.nil_append, List.cons_append, List.getD_cons_succ, List.getD_cons_zero] at hv
      subst hv
      go_simp
      exact ⟨rfl, Ext.refl _⟩
    refine hK _ _ ?_
    clear hK K
    refine wpX_nil ?_
    intro w3 hz hF
    obtain ⟨w0, e0, A3, n3, c3, hv, hR⟩ := fact_any (hF 10 (by omega)) (by rw [HSP.out]; rfl)
    clear hF
    simp only [asFun, List.nil_append, List.cons_append, List.getD_cons_succ, List.getD_cons_zero] at hv
    subst hv
    go_wp2
    go_ret2
    exact ⟨A3, n3, c3, rfl, hR.ext e0, hE0.trans hz⟩
end Go.Proofs.Ytmcfflecaklpcaa

/-
  The contract of the document's Power. Conditions: those that each theorem names.
-/
namespace Go.Proofs.Ytmcfflecaklpcaa
open Go.RowKit Nm
set_option maxRecDepth 100000
set_option linter.unusedVariables false
set_option linter.unusedSimpArgs false

theorem nd_one_p : nd 1 = [1] := by rw [nd_pos (by omega)]; simp [nd_zero]
theorem unit_list (w : World) : Wds (w.alloc (.cells #[.int .u32 1] 80)) (some ⟨w.heap.size, 0, none⟩) 1 1 (nd 1) := by
  rw [nd_one_p]
  refine ⟨rfl, by omega, by unfold maxLen; omega, by intro x hx; simp at hx; omega, fun _ => ⟨_, rfl, by simp, fun k x hk => ?_⟩⟩
  match k, hk with
  | 0, hk => simp at hk; subst hk; simp [Addr.add]
  | k + 1, hk => simp at hk

/-- How far it is: p x^n is the power. -/
structure PowRel (V N M p x n : Nat) : Prop where
  val : p * x ^ n = V ^ N
  lep : p * (x + 1) ^ n ≤ M
  lex : (x + 1) ^ n ≤ M
theorem PowRel.start (V N : Nat) : PowRel V N ((V + 1) ^ N) 1 V N := ⟨by rw [Nat.one_mul], by rw [Nat.one_mul]; exact Nat.le_refl _, Nat.le_refl _⟩
theorem sq_succ (x : Nat) : x * x + 1 ≤ (x + 1) ^ 2 := by
  rw [Nat.pow_succ, Nat.pow_one, Nat.add_mul, Nat.mul_add, Nat.one_mul]; omega
theorem PowRel.even {V N M p x m : Nat} (h : PowRel V N M p x (2 * m)) : PowRel V N M p (x * x) m := by
  have e : (x * x) ^ m = x ^ (2 * m) := by rw [Nat.pow_mul, Nat.pow_succ, Nat.pow_one]
  have l : (x * x + 1) ^ m ≤ (x + 1) ^ (2 * m) := by rw [Nat.pow_mul]; exact Nat.pow_le_pow_left (sq_succ x) m
  exact ⟨by rw [e]; exact h.val, Nat.le_trans (Nat.mul_le_mul_left p l) h.lep, Nat.le_trans l h.lex⟩
theorem PowRel.odd0 {V N M p x m : Nat} (h : PowRel V N M p x (2 * m + 1)) : PowRel V N M (p * x) x (2 * m) := by
  have hp : 0 < (x + 1) ^ (2 * m) := Nat.pow_pos (by omega)
  refine ⟨by rw [Nat.mul_assoc, ← Nat.pow_succ']; exact h.val, ?_, ?_⟩
  · refine Nat.le_trans ?_ h.lep
    rw [Nat.pow_succ', Nat.mul_assoc]
    exact Nat.mul_le_mul_left p (Nat.mul_le_mul_right _ (by omega))
  · refine Nat.le_trans ?_ h.lex
    rw [Nat.pow_succ']
    exact Nat.le_mul_of_pos_left _ (by omega)
theorem PowRel.odd {V N M p x m : Nat} (h : PowRel V N M p x (2 * m + 1)) : PowRel V N M (p * x) (x * x) m := h.odd0.even
theorem PowRel.p_le {V N M p x n : Nat} (h : PowRel V N M p x n) : p ≤ M := Nat.le_trans (Nat.le_mul_of_pos_right p (Nat.pow_pos (by omega))) h.lep
theorem PowRel.x_le {V N M p x n : Nat} (h : PowRel V N M p x n) (hn : 0 < n) : x ≤ M := by
  refine Nat.le_trans ?_ h.lex
  have := Nat.pow_le_pow_right (show 0 < x + 1 by omega) (show 1 ≤ n from hn)
  rw [Nat.pow_one] at this
  omega
theorem PowRel.done {V N M p x : Nat} (h : PowRel V N M p x 0) : p = V ^ N := by have := h.val; rwa [Nat.pow_zero, Nat.mul_one] at this

set_option maxHeartbeats 2000000 in
theorem power_any (A : Option Addr) (n c : Nat) (xs : List Nat) (N : Nat) (w : World) (h : Wds w A n c xs) (hn : n ≤ 35184372088000) (hN : N ≤ 1000000) (hM : nw ((nv xs + 1) ^ N) ≤ 1000000) :
    Calls Try.prog 59 #[.slice A n c, .int .i64 (N : Int)] w (RetW (nv xs ^ N) w) := by
  have HN1 := Lib.hid (fun w h => norm_any A n c xs w h hn)
  obtain ⟨V, hV⟩ : ∃ V, V = nv xs := ⟨_, rfl⟩
  rw [← hV] at HN1 hM ⊢
  obtain ⟨M, hMe⟩ : ∃ M, M = (V + 1) ^ N := ⟨_, rfl⟩
  rw [← hMe] at hM
  have HS : Hid (PowRel V N M 1 V N) := Lib.hid (by rw [hMe]; exact PowRel.start V N)
  have HM := Lib.hid hM
  have HT := Lib.hid (fun (A1 : Option Addr) (n1 c1 : Nat) (p : Nat) (A2 : Option Addr) (n2 c2 : Nat) (x : Nat) (w : World) (h1 : Wds w A1 n1 c1 (nd p)) (h2 : Wds w A2 n2 c2 (nd x)) (hp : p ≤ M) (hx : x ≤ M) => times_any A1 n1 c1 (nd p) A2 n2 c2 (nd x) w h1 (by have := h1.len; rw [nd_length] at this; have := nw_mono hp; omega) h2 (by have := h2.len; rw [nd_length] at this; have := nw_mono hx; omega))
  simp only [nv_nd] at HT
  have hU := unit_list w
  have hE0 : Ext w (w.alloc (.cells #[.int .u32 1] 80)) := (Ext.refl w).alloc _
  have h0 := h.ext hE0
  clear hV hMe hM h
  go_enter Try.func59, Try.ntmps59
  go_wp2_with fail
  generalize w.heap.size = g0 at hU ⊢
  generalize w.alloc _ = w0 at hU hE0 h0 ⊢
  refine (HN1.out _ h0).mono ?_
  rintro e w1 ⟨A1, n1, c1, rfl, hW1, hE1⟩
  have hU1 := hU.ext hE1
  have hE := hE0.trans hE1
  clear HN1 h0 hE0 hU hE1
  go_wp2
  go_loopw [1, 5, 6] (fun nv' pv xv wr => ∃ (k p x : Nat) (A1 : Option Addr) (n1 c1 : Nat) (A2 : Option Addr) (n2 c2 : Nat), k ≤ 1000000 ∧ nv' = .int .i64 (k : Int) ∧ pv = .slice A1 n1 c1 ∧ xv = .slice A2 n2 c2 ∧ Wds wr A1 n1 c1 (nd p) ∧ Wds wr A2 n2 c2 (nd x) ∧ Hid (PowRel V N M p x k) ∧ Ext w wr) (fun nv' _ _ _ => (intOf nv').toNat)
  case atStart => exact ⟨N, 1, V, _, _, _, _, _, _, hN, rfl, rfl, rfl, hU1, hW1, HS, hE⟩
  case round =>
    obtain ⟨k, p, x, A3, n3, c3, A4, n4, c4, hk, rfl, rfl, rfl, hWp, hWx, hrel, hEr⟩ := hrel
    clear hE hU1 hW1 HS
    by_cases hz : k = 0
    · subst hz
      have HD := Lib.hid hrel.out.done
      go_wp2
      go_ret
      exact ⟨_, _, _, rfl, by rw [← HD.out]; exact hWp, hEr⟩
    · have HP := Lib.hid hrel.out.p_le
      have HX := Lib.hid (hrel.out.x_le (by omega))
      rcases Nat.mod_two_eq_zero_or_one k with hpar | hpar
      · obtain ⟨m, hm⟩ : ∃ m, k = 2 * m := ⟨k / 2, by omega⟩
        have g1 : (k : Int) % 2 = 0 := by omega
        have g2 : (k : Int) / 2 = (m : Int) := by omega
        have hmp : 0 < m := by omega
        have hmk : m < k := by omega
        rw [hm] at hrel
        have HR := Lib.hid hrel.out.even
        clear hrel hpar hm
        go_wp2_with fail
        refine (HT.out _ _ _ _ _ _ _ _ _ hWx hWx HX.out HX.out).mono ?_
        rintro e w2 ⟨A5, n5, c5, rfl, hW5, hE5⟩
        go_wp2
        go_roundw
        case rel => exact ⟨m, p, x * x, _, _, _, _, _, _, by omega, rfl, rfl, rfl, hWp.ext hE5, hW5, HR, hEr.trans hE5⟩
        case measure => simp [intOf]; omega
      · obtain ⟨m, hm⟩ : ∃ m, k = 2 * m + 1 := ⟨k / 2, by omega⟩
        have g1 : (k : Int) % 2 = 1 := by omega
        have g2 : (k : Int) / 2 = (m : Int) := by omega
        have hmk : m < k := by omega
        rw [hm] at hrel
        have HR := Lib.hid hrel.out.odd
        have HR0 : m = 0 → Hid (PowRel V N M (p * x) x 0) := fun e => Lib.hid (by have := hrel.out.odd0; rwa [e] at this)
        clear hrel hpar hm
        by_cases hm0 : m = 0
        · subst hm0
          have HR1 := HR0 rfl
          go_wp2_with fail
          refine (HT.out _ _ _ _ _ _ _ _ _ hWp hWx HP.out HX.out).mono ?_
          rintro e w2 ⟨A5, n5, c5, rfl, hW5, hE5⟩
          go_wp2
          go_roundw
          case rel => exact ⟨0, p * x, x, _, _, _, _, _, _, by omega, rfl, rfl, rfl, hW5, hWx.ext hE5, HR1, hEr.trans hE5⟩
          case measure => simp [intOf]; omega
        · have hmp : 0 < m := by omega
          clear hm0 HR0
          go_wp2_with fail
          refine (HT.out _ _ _ _ _ _ _ _ _ hWp hWx HP.out HX.out).mono ?_
          rintro e w2 ⟨A5, n5, c5, rfl, hW5, hE5⟩
          have hWx2 := hWx.ext hE5
          go_wp2_with fail
          refine (HT.out _ _ _ _ _ _ _ _ _ hWx2 hWx2 HX.out HX.out).mono ?_
          rintro e w3 ⟨A6, n6, c6, rfl, hW6, hE6⟩
          go_wp2
          go_roundw
          case rel => exact ⟨m, p * x, x * x, _, _, _, _, _, _, by omega, rfl, rfl, rfl, hW5.ext hE6, hW6, HR, (hEr.trans hE5).trans hE6⟩
          case measure => simp [intOf]; omega
end Go.Proofs.Ytmcfflecaklpcaa

/-
  The contracts of the program's own naturals: powers. Conditions: those that each theorem names.
-/
namespace Go.Proofs.Ytmcfflecaklpcaa
open Go.RowKit Nm
set_option maxRecDepth 100000
set_option linter.unusedVariables false
set_option linter.unusedSimpArgs false

theorem i64_and1 (k : Nat) (h : k < 2147483648) : bits .and .i64 (k : Int) 1 = ((k % 2 : Nat) : Int) := by
  show IntKind.i64.wrap ((BitVec.ofInt 64 (k : Int) &&& BitVec.ofInt 64 ((1 : Nat) : Int)).toNat : Nat) = _
  rw [BitVec.toNat_and, BitVec.ofInt_natCast, BitVec.ofInt_natCast, BitVec.toNat_ofNat, BitVec.toNat_ofNat, Nat.mod_eq_of_lt (by omega), Nat.mod_eq_of_lt (by omega), show (1 : Nat) = 2 ^ 1 - 1 from rfl, Nat.and_two_pow_sub_one_eq_mod, IntKind.wrap_i64]
  omega

/-- How far it is: p x^n is the power; x is not below 2. -/
structure PwRel (V N p x n : Nat) : Prop where
  val : p * x ^ n = V ^ N
  p1 : 1 ≤ p
  x2 : 2 ≤ x
theorem PwRel.start {V : Nat} (N : Nat) (h : 2 ≤ V) : PwRel V N 1 V N := ⟨by rw [Nat.one_mul], Nat.le_refl _, h⟩
theorem PwRel.even {V N p x m : Nat} (h : PwRel V N p x (2 * m)) : PwRel V N p (x * x) m := by
  have e : (x * x) ^ m = x ^ (2 * m) := by rw [Nat.pow_mul, Nat.pow_succ, Nat.pow_one]
  exact ⟨by rw [e]; exact h.val, h.p1, Nat.le_trans (show 2 ≤ 2 * 2 by omega) (Nat.mul_le_mul h.x2 h.x2)⟩
theorem PwRel.odd0 {V N p x m : Nat} (h : PwRel V N p x (2 * m + 1)) : PwRel V N (p * x) x (2 * m) :=
  ⟨by rw [Nat.mul_assoc, ← Nat.pow_succ']; exact h.val, Nat.le_trans (show 1 ≤ 1 * 1 by omega) (Nat.mul_le_mul h.p1 (by have := h.x2; omega)), h.x2⟩
theorem PwRel.odd {V N p x m : Nat} (h : PwRel V N p x (2 * m + 1)) : PwRel V N (p * x) (x * x) m := h.odd0.even
theorem PwRel.p_le {V N p x n : Nat} (h : PwRel V N p x n) : p ≤ V ^ N := by
  rw [← h.val]
  exact Nat.le_mul_of_pos_right p (Nat.pow_pos (by have := h.x2; omega))
theorem PwRel.x_le {V N p x n : Nat} (h : PwRel V N p x n) (hn : 0 < n) : x ≤ V ^ N := by
  rw [← h.val]
  have h1 := Nat.pow_le_pow_right (show 0 < x by have := h.x2; omega) (show 1 ≤ n from hn)
  rw [Nat.pow_one] at h1
  exact Nat.le_trans h1 (Nat.le_mul_of_pos_left _ h.p1)
theorem PwRel.done {V N p x : Nat} (h : PwRel V N p x 0) : p = V ^ N := by have := h.val; rwa [Nat.pow_zero, Nat.mul_one] at this

theorem bl_pow_le {V N : Nat} (h : N ≠ 0) : bl (V ^ N) ≤ bl V * N := by
  rw [bl_le_iff, Nat.pow_mul]
  exact Nat.pow_lt_pow_left (lt_pow_bl V) h

theorem Wds.nwe {w : World} {A : Option Addr} {n c X : Nat} (h : Wds w A n c (nd X)) : n = nw X := by have := h.len; rw [nd_length] at this; omega
/-- The inner product, cut. -/
theorem ncut_mul {w : World} {g n : Nat} {L : List Nat} {V : Nat} (hr : Row w g L) (hL : Ws L) (hl : L.length = n) (hv : nv L = V) (hn : n ≤ 8796093022208) :
    Calls Try.prog 137 #[.slice (some ⟨g, 0, none⟩) n n] w (RetW V w) := by
  rw [← hv]
  exact ncut_any _ _ _ _ _ (hr.wds hL hl (Nat.le_refl _) (by unfold maxLen; omega)) (by omega)

set_option maxHeartbeats 4000000 in
theorem npow_any (A : Option Addr) (n c : Nat) (xs : List Nat) (N : Nat) (w : World) (h : Wds w A n c xs) (hn : n ≤ 8796093022208) (hN : N ≤ 1000000) (hM : bl (nv xs) * N ≤ 524288) (hs : bl (nv xs) ≤ 524288) :
    Calls Try.prog 93 #[.slice A n c, .int .i64 (N : Int)] w (RetWE (nv xs ^ N) 0 w) := by
  have HN1 : Hid (∀ w, Wds w A n c xs → Calls Try.prog 136 #[.slice A n c] w (RetW (nv xs) w)) := Lib.hid (fun w h => by
    refine (nnorm_any A n c xs w h (by omega)).mono ?_
    rintro e w' ⟨g, m, rfl, hr, -, hm, hE⟩
    have hle : nw (nv xs) ≤ n := by have := nw_nv_le h.ws; have := h.len; omega
    exact ⟨_, _, _, rfl, hr.wds (Ws.nd _) (by rw [nd_length, hm]) (Nat.le_refl _) (by unfold maxLen; omega), hE⟩)
  have HL1 := Lib.hid (fun w h => nlen_any A n c xs w h (by omega))
  have h1 := nw_of_bl hs
  have HLG : Hid (∀ g w, w.cell? ⟨g, 0, none⟩ = some (.slice A n c) → Wds w A n c xs → Calls Try.prog 131 #[.slice (some ⟨g, 0, none⟩) 1 1] w fun e w' => e = .returned (.bool false) ∧ w = w') :=
    Lib.hid (fun g w a b => nlong_raw g 1 A n c xs w a b (by omega) h1)
  obtain ⟨V, hV⟩ : ∃ V, V = nv xs := ⟨_, rfl⟩
  rw [← hV] at HN1 HL1 hM hs ⊢
  have HW0 : Hid (N = 0 → V ^ N = 1) := Lib.hid (fun e => by rw [e, Nat.pow_zero])
  have HW1 : Hid (N ≠ 0 → bl V < 2 → V ^ N = V) := Lib.hid (fun e hb => by
    have : V < 2 ^ 1 := by have := lt_pow_bl V; exact Nat.lt_of_lt_of_le this (Nat.pow_le_pow_right (by omega) (by omega))
    rcases (show V = 0 ∨ V = 1 by omega) with e1 | e1
    · rw [e1, Nat.zero_pow (by omega)]
    · rw [e1, Nat.one_pow])
  have HV2 : Hid (2 ≤ bl V → 2 ≤ V) := Lib.hid (fun hb => by
    rcases Nat.lt_or_ge V 2 with h2 | h2
    · have : bl V ≤ 1 := by rw [bl_le_iff]; omega
      omega
    · exact h2)
  have HMW : Hid (N ≠ 0 → nw (V ^ N) ≤ 16384) := Lib.hid (fun e => nw_of_bl (Nat.le_trans (bl_pow_le e) hM))
  obtain ⟨bV, hbV⟩ : ∃ b, b = bl V := ⟨_, rfl⟩
  rw [← hbV] at HL1 hM HW1 HV2 hs
  obtain ⟨M, hMe⟩ : ∃ M, M = V ^ N := ⟨_, rfl⟩
  have HS : Hid (2 ≤ V → PwRel V N 1 V N) := Lib.hid (fun h => PwRel.start N h)
  have HPL : Hid (∀ p x n, PwRel V N p x n → p ≤ M) := Lib.hid (fun p x n h => by rw [hMe]; exact h.p_le)
  have HXL : Hid (∀ p x n, 0 < n → PwRel V N p x n → x ≤ M) := Lib.hid (fun p x n hn h => by rw [hMe]; exact h.x_le hn)
  have HDN : Hid (∀ p x, PwRel V N p x 0 → p = M) := Lib.hid (fun p x h => by rw [hMe]; exact h.done)
  rw [← hMe] at HW0 HW1 HMW ⊢
  have HML : Hid (∀ (A1 : Option Addr) (n1 c1 : Nat) (p : Nat) (A2 : Option Addr) (n2 c2 : Nat) (x : Nat) (w : World), nw M ≤ 16384 → Wds w A1 n1 c1 (nd p) → Wds w A2 n2 c2 (nd x) → p ≤ M → x ≤ M → Calls Try.prog 138 #[.slice A1 n1 c1, .slice A2 n2 c2] w fun e w' => ∃ g n L, e = .returned (.slice (some ⟨g, 0, none⟩) n n) ∧ n ≤ 100000 ∧ Row w' g L ∧ Ws L ∧ L.length = n ∧ nv L = p * x ∧ Ext w w') :=
    Lib.hid (fun A1 n1 c1 p A2 n2 c2 x w hM a b hp hx => by
      have hn1 := a.nwe
      have hn2 := b.nwe
      have hp' := nw_mono hp
      have hx' := nw_mono hx
      refine (nmul_raw A1 n1 c1 (nd p) A2 n2 c2 (nd x) w a (by omega) b (by omega)).mono ?_
      rintro e w' ⟨g, L, rfl, h1, h2, h3, h4, -, h5⟩
      rw [nv_nd, nv_nd] at h4
      exact ⟨g, _, L, rfl, by omega, h1, h2, h3, h4, h5⟩)
  have hn1 := h.alloc (.cells #[.slice A n c] 33)
  have hE0 : Ext w (w.alloc (.cells #[.slice A n c] 33)) := (Ext.refl w).alloc _
  have hcell0 : (w.alloc (.cells #[.slice A n c] 33)).cell? ⟨w.heap.size, 0, none⟩ = some (.slice A n c) := by simp
  clear hV hMe h hbV h1
  go_enter Try.func93, Try.ntmps93
  go_wp2_with fail
  generalize w.heap.size = g0 at hcell0 ⊢
  generalize w.alloc _ = w0 at hn1 hE0 hcell0 ⊢
  refine (HLG.out _ _ hcell0 hn1).mono ?_
  rintro e w' ⟨rfl, rfl⟩
  go_wp2_with fail
  refine (HN1.out _ hn1).mono ?_
  rintro e w1 ⟨A1, n1, c1, rfl, hW1, hE1⟩
  have hn2 := hn1.ext hE1
  have hE := hE0.trans hE1
  clear HN1 HLG hcell0 hE0 hE1 hn1
  go_wp2_with fail
  refine (HL1.out _ hn2).mono ?_
  rintro e w' ⟨rfl, rfl⟩
  clear HL1 hn2
  by_cases hN0 : N = 0
  · have hM1 := HW0.out hN0
    subst hN0
    subst hM1
    have hU := unit_list w1
    have hE2 := hE.alloc (.cells #[.int .u32 1] 80)
    go_wp2
    go_ret2
    exact ⟨_, _, _, rfl, hU, hE2⟩
  · by_cases hb2 : bV < 2
    · have hM1 := HW1.out hN0 hb2
      have hW1' : Wds w1 A1 n1 c1 (nd M) := by rw [hM1]; exact hW1
      clear hM1 hW1
      go_wp2
      go_ret2
      exact ⟨_, _, _, rfl, hW1', hE⟩
    · obtain ⟨b, hb⟩ : ∃ b, bV = b + 1 := ⟨bV - 1, by omega⟩
      subst hb
      have hV2 := HV2.out (by omega)
      have HR := Lib.hid (HS.out hV2)
      have HMW := Lib.hid (HMW.out hN0)
      obtain ⟨Q, hQ⟩ : ∃ Q, Q = 524288 / b := ⟨_, rfl⟩
      have hNQ : N ≤ Q := by
        rw [hQ, Nat.le_div_iff_mul_le (by omega), Nat.mul_comm]
        rw [Nat.add_mul] at hM
        omega
      have hQl : Q ≤ 524288 := by rw [hQ]; exact Nat.div_le_self _ _
      have hbe : ((b + 1 : Nat) : Int) - 1 = (b : Int) := by omega
      have hQe : (524288 : Int).tdiv (b : Int) = (Q : Int) := by rw [hQ]; rfl
      have hbp : (b : Int) ≠ 0 := by omega
      have hbp' : b ≠ 0 := by omega
      have hbl : b ≤ 524288 := by omega
      clear hQ HV2 HS HW0 HW1 hM hV2
      have hU := unit_list w1
      have hE2 := hE.alloc (.cells #[.int .u32 1] 80)
      have hW2 := hW1.alloc (.cells #[.int .u32 1] 80)
      clear hE hW1
      go_wp2
      generalize w1.heap.size = g1 at hU ⊢
      generalize w1.alloc _ = w2 at hU hE2 hW2 ⊢
      generalize ((N : Int) == 0) = z1
      generalize Value.bool (decide (Q < N)) = z2
      generalize Value.bool (decide ((b : Int) + 1 < 2)) = z3
      generalize Value.bool (decide ((N : Int) < 0)) = z4
      go_loopw [1, 6, 8] (fun nv' xv pv wr => ∃ (k p x : Nat) (A1 : Option Addr) (n1 c1 : Nat) (A2 : Option Addr) (n2 c2 : Nat), 0 < k ∧ k ≤ 1000000 ∧ nv' = .int .i64 (k : Int) ∧ pv = .slice A1 n1 c1 ∧ xv = .slice A2 n2 c2 ∧ Wds wr A1 n1 c1 (nd p) ∧ Wds wr A2 n2 c2 (nd x) ∧ Hid (PwRel V N p x k) ∧ Ext w wr) (fun nv' _ _ _ => (intOf nv').toNat)
      case atStart => exact ⟨N, 1, V, _, _, _, _, _, _, by omega, hN, rfl, rfl, rfl, hU, hW2, HR, hE2⟩
      case round =>
        obtain ⟨k, p, x, A3, n3, c3, A4, n4, c4, hk0, hk, rfl, rfl, rfl, hWp, hWx, hrel, hEr⟩ := hrel
        clear hU hW2 HR hE2 hNQ hQe hbp hbp' hbl hbe
        have hp := HPL.out _ _ _ hrel.out
        have hx := HXL.out _ _ _ hk0 hrel.out
        rcases Nat.mod_two_eq_zero_or_one k with hpar | hpar
        · obtain ⟨m, hm⟩ : ∃ m, k = 2 * m := ⟨k / 2, by omega⟩
          have g1 : bits .and .i64 (k : Int) 1 = 0 := by rw [i64_and1 k (by omega), hpar]; rfl
          have g2 : (k : Int) / 2 = (m : Int) := by omega
          have hmp : 0 < m := by omega
          have hmk : m < k := by omega
          rw [hm] at hrel
          have HR := Lib.hid hrel.out.even
          clear hrel hpar hm
          go_wp2_with fail
          refine (HML.out _ _ _ _ _ _ _ _ _ HMW.out hWx hWx hx hx).mono ?_
          rintro e w3 ⟨g5, n5, L5, rfl, hn5, hr5, hL5, hl5, hv5, hE5⟩
          go_wp2_with fail
          refine (ncut_mul hr5 hL5 hl5 hv5 (by omega)).mono ?_
          rintro e w4 ⟨A6, n6, c6, rfl, hW6, hE6⟩
          have hWp6 := (hWp.ext hE5).ext hE6
          have hEr6 := hEr.trans (hE5.trans hE6)
          clear hr5 hL5 hl5 hv5 hE5 hE6 hWp hWx hEr
          go_wp2
          go_roundw
          case rel => exact ⟨m, p, x * x, _, _, _, _, _, _, hmp, by omega, rfl, rfl, rfl, hWp6, hW6, HR, hEr6⟩
          case measure => simp only [intOf]; omega
        · obtain ⟨m, hm⟩ : ∃ m, k = 2 * m + 1 := ⟨k / 2, by omega⟩
          have g1 : bits .and .i64 (k : Int) 1 = 1 := by rw [i64_and1 k (by omega), hpar]; rfl
          have g2 : (k : Int) / 2 = (m : Int) := by omega
          have hmk : m < k := by omega
          rw [hm] at hrel
          have HR0 := Lib.hid hrel.out.odd0
          have HR := Lib.hid hrel.out.odd
          have hp2 := HPL.out _ _ _ HR0.out
          clear hrel hpar hm
          have hMl := HMW.out
          go_wp2_with fail
          refine (HML.out _ _ _ _ _ _ _ _ _ HMW.out hWp hWx hp hx).mono ?_
          rintro e w3 ⟨g5, n5, L5, rfl, hn5, hr5, hL5, hl5, hv5, hE5⟩
          go_wp2_with fail
          refine (ncut_mul hr5 hL5 hl5 hv5 (by omega)).mono ?_
          rintro e w4 ⟨A6, n6, c6, rfl, hW6, hE6⟩
          have hWx6 := (hWx.ext hE5).ext hE6
          have hEr6 := hEr.trans (hE5.trans hE6)
          have hn6 : n6 ≤ 16384 := by
            have h1 := hW6.nwe
            have h2 := nw_mono hp2
            omega
          clear hr5 hL5 hl5 hv5 hE5 hE6 hWp hWx hEr hMl
          by_cases hm0 : m = 0
          · subst hm0
            have hD := HDN.out _ _ HR0.out
            have hW6' : Wds w4 A6 n6 c6 (nd M) := by rw [← hD]; exact hW6
            clear hD hW6 HR HR0 hp hx hp2
            go_wp2
            go_ret2
            exact ⟨_, _, _, rfl, hW6', hEr6⟩
          · have hmp : 0 < m := by omega
            clear hm0
            go_wp2_with fail
            refine (HML.out _ _ _ _ _ _ _ _ _ HMW.out hWx6 hWx6 hx hx).mono ?_
            rintro e w5 ⟨g7, n7, L7, rfl, hn7, hr7, hL7, hl7, hv7, hE7⟩
            go_wp2_with fail
            refine (ncut_mul hr7 hL7 hl7 hv7 (by omega)).mono ?_
            rintro e w6 ⟨A8, n8, c8, rfl, hW8, hE8⟩
            have hW6' := (hW6.ext hE7).ext hE8
            have hEr8 := hEr6.trans (hE7.trans hE8)
            clear hr7 hL7 hl7 hv7 hE7 hE8 hW6 hWx6 hEr6
            go_wp2
            go_roundw
            case rel => exact ⟨m, p * x, x * x, _, _, _, _, _, _, hmp, by omega, rfl, rfl, rfl, hW6', hW8, HR, hEr8⟩
            case measure => simp only [intOf]; omega
end Go.Proofs.Ytmcfflecaklpcaa
