/-
  The contract of the document's RootOf. Conditions: those that each theorem names.
-/
import Derived.Test.YtfbjeifhpmdjaaaGreatP36
import Derived.Test.YtfbjeifhpmdjaaaGreatP14
import Derived.Test.YtfbjeifhpmdjaaaGreatP27
import Derived.Test.YtfbjeifhpmdjaaaGreatP10
import Derived.Test.YtfbjeifhpmdjaaaGreatP34
import Derived.Test.YtfbjeifhpmdjaaaGreatP13
import Derived.Test.YtfbjeifhpmdjaaaGreatP15
namespace Go.Proofs.YtfbjeifhpmdjaaaGreat
open Go.RowKit Nm Rn
set_option maxRecDepth 100000
set_option linter.unusedVariables false
set_option linter.unusedSimpArgs false

theorem Wds.nw_eq {w : World} {A : Option Addr} {n c X : Nat} (h : Wds w A n c (nd X)) : n = nw X := by have := h.len; rw [nd_length] at this; omega
theorem nw_prod (a b : Nat) : nw (a * b) ≤ nw a + nw b := by
  refine (nw_le_iff _ _).2 ?_
  rw [Nat.pow_add]
  exact Nat.mul_lt_mul'' (lt_pow_nw a) (lt_pow_nw b)
theorem nw_shl_le (V s : Nat) : nw (V * 2 ^ s) ≤ (bl V + s) / 32 + 1 := by
  by_cases h : V = 0
  · rw [h, Nat.zero_mul, nw_zero]; omega
  · rw [nw_bl, bl_mul_pow s h]; omega

theorem rt_next {n BIG i r : Nat} (hi : i ≤ 62) (h : RtRel n BIG i r) : (∃ j : Nat, Value.int .i64 ((i : Int) - 1) = .int .i64 (j : Int) ∧ j ≤ 62 ∧ Hid (RtRel n BIG (j + 1) r)) ∨ (Value.int .i64 ((i : Int) - 1) = .int .i64 (-1) ∧ Hid (RtRel n BIG 0 r)) := by
  match i, h with
  | 0, h => exact .inr ⟨rfl, Lib.hid h⟩
  | j + 1, h => exact .inl ⟨j, val_int (by omega), by omega, Lib.hid h⟩

set_option maxHeartbeats 8000000 in
theorem rootof_wide (d : Int) (neg : Bool) (A : Option Addr) (l c : Nat) (B : Option Addr) (k dd N D n : Nat) (w : World) (h : RatAt w A l c B k dd N D) (hN : N ≠ 0) (hD : D ≠ 0) (bN : bl N ≤ 4400) (bD : bl D ≤ 4400) (fl : -3000 ≤ (bl N : Int) - (bl D : Int)) (fh : (bl N : Int) - (bl D : Int) ≤ 3000) (n1 : 1 ≤ n) (n2 : n ≤ 1024) :
    Calls Tryz.prog 76 #[.int .i64 d, .agg #[.bool neg, .slice A l c, .slice B k dd], .int .i64 (n : Int)] w fun e w' => e = .returned (.int .u64 (rootV d neg N D n : Nat)) ∧ Ext w w' := by
  have hl := h.lenN
  have hk := h.lenD
  have hnwN := nw_bl N
  have hnwD := nw_bl D
  have hRS := fun w h => rsign_any neg A l c (nd N) B k dd w h (by omega)
  rw [nv_nd] at hRS
  obtain ⟨sg, hsg⟩ : ∃ s, s = sgnZ neg N := ⟨_, rfl⟩
  rw [← hsg] at hRS
  have hsz : (sg == 0) = false := by rw [hsg, beq_eq_false_iff_ne]; unfold sgnZ; rw [if_neg hN]; cases neg <;> decide
  have hsl : decide (sg < 0) = neg := by rw [hsg]; unfold sgnZ; rw [if_neg hN]; cases neg <;> decide
  clear hsg
  have hL1 := fun w h => len_any A l c (nd N) w h (by omega)
  have hL2 := fun w h => len_any B k dd (nd D) w h (by omega)
  rw [nv_nd] at hL1 hL2
  obtain ⟨f, hf⟩ : ∃ f, f = (bl N : Int) - (bl D : Int) := ⟨_, rfl⟩
  obtain ⟨q0, k1, q1, k2, q2, m1, m2, ks⟩ := ks_any (f := f) n1 n2 (by omega) (by omega)
  obtain ⟨⟨e0, p1, e1, p2, e2, c1, x1, c2, x2, lo, hi, b0, b1, b2, d1, d2, r1, r2⟩⟩ := And.intro ks trivial
  have hsgn : (0 ≤ k2 ∧ 0 ≤ m2) ∨ (k2 < 0 ∧ m2 < 0) := by
    rcases Int.lt_or_le k2 0 with hh | hh
    · right
      refine ⟨hh, ?_⟩
      rw [← p2]
      exact Int.mul_neg_of_pos_of_neg (by omega) hh
    · left
      refine ⟨hh, ?_⟩
      rw [← p2]
      exact Int.mul_nonneg (by omega) hh
  obtain ⟨s, hs⟩ : ∃ s, s = m2.toNat := ⟨_, rfl⟩
  obtain ⟨t, ht⟩ : ∃ t, t = (-m2).toNat := ⟨_, rfl⟩
  have hst : (s : Int) - t = m2 := by omega
  have hLF1 : ∀ w, Wds w A l c (nd N) → Calls Tryz.prog 105 #[.slice A l c, .int .i64 (s : Int)] w (RetW (N * 2 ^ s) w) := fun w h => by
    have := left_any A l c (nd N) s w h (by omega) (by omega)
    rwa [nv_nd] at this
  have hLF2 : ∀ w, Wds w B k dd (nd D) → Calls Tryz.prog 105 #[.slice B k dd, .int .i64 (t : Int)] w (RetW (D * 2 ^ t) w) := fun w h => by
    have := left_any B k dd (nd D) t w h (by omega) (by omega)
    rwa [nv_nd] at this
  have hb1 := nw_shl_le N s
  have hb2 := nw_shl_le D t
  rw [hf] at lo hi
  have hbig := root_big (N := N) (D := D) (A := s) (B := t) (m := m2) n1 hD hst hi
  have hend := fun r a b => root_end (N := N) (D := D) (n := n) (A := s) (B := t) (r := r) (k := k2) (m := m2) n1 hN hD p2 hst lo a b
  have hval := fun {r : Nat} {o : Bool} (hr : RootAt N D n k2 r o) (hb : 55 ≤ bl r) => hr.val (by omega) (show 0 < D by omega) (fun _ => hb) d neg
  obtain ⟨R, hR⟩ : ∃ R, R = rootV d neg N D n := ⟨_, rfl⟩
  rw [← hR] at hval ⊢
  clear hR
  have hNs : s = 0 → N * 2 ^ s = N := fun e => by rw [e]; simp
  have hDt : t = 0 → D * 2 ^ t = D := fun e => by rw [e]; simp
  have hDp : 0 < D * 2 ^ t := Nat.mul_pos (by omega) (two_pow_pos t)
  obtain ⟨NUM, hNUM⟩ : ∃ X, X = N * 2 ^ s := ⟨_, rfl⟩
  obtain ⟨DEN, hDEN⟩ : ∃ X, X = D * 2 ^ t := ⟨_, rfl⟩
  rw [← hNUM] at hLF1 hb1 hbig hend hNs
  rw [← hDEN] at hLF2 hb2 hbig hend hDt hDp
  have hnN : nw NUM ≤ 3000 := by omega
  have hnD : nw DEN ≤ 3000 := by omega
  have hBY := fun (A1 : Option Addr) (n1 c1 : Nat) (A2 : Option Addr) (n2 c2 : Nat) (w : World) (h1 : Wds w A1 n1 c1 (nd NUM)) (h2 : Wds w A2 n2 c2 (nd DEN)) => by_any A1 n1 c1 (nd NUM) A2 n2 c2 (nd DEN) w h1 (by have := h1.nw_eq; omega) h2 (by have := h2.nw_eq; omega) (by rw [nv_nd]; exact hDp)
  simp only [nv_nd] at hBY
  obtain ⟨BIG, hBIG⟩ : ∃ X, X = NUM / DEN := ⟨_, rfl⟩
  obtain ⟨REM, hREM⟩ : ∃ X, X = NUM % DEN := ⟨_, rfl⟩
  rw [← hBIG] at hBY hbig hend
  rw [← hREM] at hBY
  have hnB : nw BIG ≤ 3000 := Nat.le_trans (nw_mono (by rw [hBIG]; exact Nat.div_le_self _ _)) hnN
  have hLB := fun (A1 : Option Addr) (n1 c1 : Nat) (w : World) (h1 : Wds w A1 n1 c1 (nd BIG)) => len_any A1 n1 c1 (nd BIG) w h1 (by have := h1.nw_eq; omega)
  simp only [nv_nd] at hLB
  have hPW := fun (A1 : Option Addr) (n1 c1 t : Nat) (w : World) (ht : t < 9223372036854775808) (h1 : Wds w A1 n1 c1 (nd t)) => power_any A1 n1 c1 (nd t) n w h1 (by have := h1.nw_eq; have := nw_mono (show t ≤ 9223372036854775808 by omega); rw [show nw 9223372036854775808 = 2 by decide +kernel] at this; omega) (by omega) (by rw [nv_nd]; have := nw_pow_le (t := t + 1) (n := n) (b := 63) (by omega); omega)
  simp only [nv_nd] at hPW
  have hnP : ∀ t, t < 9223372036854775808 → nw (t ^ n) ≤ 3000 := fun t ht => by have := nw_pow_le (t := t) (n := n) (b := 63) (by omega); omega
  have hCB := fun (A1 : Option Addr) (n1 c1 t : Nat) (A2 : Option Addr) (n2 c2 : Nat) (w : World) (ht : t < 9223372036854775808) (h1 : Wds w A1 n1 c1 (nd (t ^ n))) (h2 : Wds w A2 n2 c2 (nd BIG)) => cmp_any A1 n1 c1 (nd (t ^ n)) A2 n2 c2 (nd BIG) w h1 (by have := h1.nw_eq; have := hnP t ht; omega) h2 (by have := h2.nw_eq; omega)
  simp only [nv_nd] at hCB
  have hTM := fun (A1 : Option Addr) (n1 c1 t : Nat) (A2 : Option Addr) (n2 c2 : Nat) (w : World) (ht : t < 9223372036854775808) (h1 : Wds w A1 n1 c1 (nd (t ^ n))) (h2 : Wds w A2 n2 c2 (nd DEN)) => times_any A1 n1 c1 (nd (t ^ n)) A2 n2 c2 (nd DEN) w h1 (by have := h1.nw_eq; have := hnP t ht; omega) h2 (by have := h2.nw_eq; omega)
  simp only [nv_nd] at hTM
  have hCN := fun (A1 : Option Addr) (n1 c1 t : Nat) (A2 : Option Addr) (n2 c2 : Nat) (w : World) (ht : t < 9223372036854775808) (h1 : Wds w A1 n1 c1 (nd (t ^ n * DEN))) (h2 : Wds w A2 n2 c2 (nd NUM)) => cmp_any A1 n1 c1 (nd (t ^ n * DEN)) A2 n2 c2 (nd NUM) w h1 (by have := h1.nw_eq; have := hnP t ht; have := nw_prod (t ^ n) DEN; omega) h2 (by have := h2.nw_eq; omega)
  simp only [nv_nd] at hCN
  have HSZ : Hid (∀ t, t < 9223372036854775808 → nw (t ^ n * DEN) ≤ 100000) := Lib.hid (fun t ht => by have := hnP t ht; have := nw_prod (t ^ n) DEN; omega)
  have HRS := Lib.hid hRS
  have HL1 := Lib.hid hL1
  have HL2 := Lib.hid hL2
  have HLF1 := Lib.hid hLF1
  have HLF2 := Lib.hid hLF2
  have HBY := Lib.hid hBY
  have HLB := Lib.hid hLB
  have HPW := Lib.hid hPW
  have HCB := Lib.hid hCB
  have HTM := Lib.hid hTM
  have HCN := Lib.hid hCN
  have HEND := Lib.hid hend
  have HVAL : Hid (∀ (r : Nat) (o : Bool), RootAt N D n k2 r o → 55 ≤ bl r → rnd d neg (zd (2 * r + o.toNat) (-k2 - 1)) = R) := Lib.hid (fun r o a b => hval a b)
  have HST := Lib.hid (RtRel.start (n := n) (big := BIG) (by omega) hbig)
  have hfe : (bl N : Int) - (bl D : Int) = f := hf.symm
  obtain ⟨bn, hbn⟩ : ∃ x, x = bl N := ⟨_, rfl⟩
  obtain ⟨bd, hbd⟩ : ∃ x, x = bl D := ⟨_, rfl⟩
  rw [← hbn] at HL1 hfe bN
  rw [← hbd] at HL2 hfe bD
  obtain ⟨bB, hbB⟩ : ∃ x, x = bl BIG := ⟨_, rfl⟩
  rw [← hbB] at HLB
  have hbBl : bB ≤ 100000 := by have := nw_bl BIG; omega
  have HFAR : Hid (∀ i r, ¬ (n * i < bB) → BIG < (r + 2 ^ i) ^ n) := Lib.hid (fun i r hh => RtRel.far (by omega) (by omega))
  have C1 := Lib.hid c1
  have C2 := Lib.hid c2
  have hO := ((Own.start w).add h.1).add h.2
  have f1 : -3000 ≤ f := by omega
  have f2 : f ≤ 3000 := by omega
  clear c1 c2 hRS hL1 hL2 hLF1 hLF2 hBY hLB hPW hCB hTM hCN hend hval hbig hf hbn hbd hbB hBIG hREM ks lo hi hl hk hb1 hb2 hnwN hnwD h hnP hnN hnD hnB hDp hN hD
  rcases hsgn with ⟨hk2, hm2⟩ | ⟨hk2, hm2⟩
  · have t0 : t = 0 := by omega
    have hms : m2 = (s : Int) := by omega
    have hDD := hDt t0
    clear ht hs hst t0 hDt hNs hNUM hDEN HLF2
    subst hms
    subst hDD
    go_enter Tryz.func76, Tryz.ntmps76
    go_wp2_with (first | ((with_reducible refine at_box (T := 38) ?_); refine own_box (cs := [.bool neg, .slice A l c, .slice B k dd]) hO rfl rfl ?_; clear hO; intro ga wa hO; have hf := hO.cells; simp only [BC, CC, Nat.zero_add, Nat.reduceAdd, and_true] at hf))
    refine (HRS.out _ (hO.wd 1 rfl)).mono ?_
    rintro e w1 ⟨rfl, hE1⟩
    have hO1 := hO.ext hE1
    clear hf hO hE1 HRS
    go_wp2_with fail
    refine wp_region_steady (Own w [⟨ga, 38, [.bool neg, .slice A l c, .slice B k dd]⟩] [⟨B, k, dd, nd DEN⟩, ⟨A, l, c, nd N⟩]) (by kernel_rfl) (by kernel_rfl) (hO1.ext (Ext.refl w1).drew) ?_
    repeat (refine wpG_step (fun K hK => ?_)
            go_simp
            apply StepG.mk
            intro wz hz
            have hf := hz.cells
            simp only [BC, CC, Nat.zero_add, Nat.reduceAdd, and_true] at hf
            first
            | (go_simp
               first | exact rfl | exact ⟨rfl, hz⟩)
            | (go_simp
               go_at_call 104
               first
               | (with_reducible refine (HL1.out _ (hz.wd 1 rfl)).mono ?_)
               | (with_reducible refine (HL2.out _ (hz.wd 0 rfl)).mono ?_)
               rintro e w8 ⟨rfl, rfl⟩
               exact ⟨rfl, hz⟩)
            refine hK _ ?_
            clear hK K)
    refine wpG_nil ?_
    intro w2 hO2
    clear hO1 HL1 HL2
    have hf := hO2.cells
    simp only [BC, CC, Nat.zero_add, Nat.reduceAdd, and_true] at hf
    go_wp2
    go_loop [9] (fun kv => (kv = .int .i64 60 ∧ 61 < q0) ∨ kv = .int .i64 k1) (fun kv => (intOf kv - k1).toNat)
    case atStart =>
      rcases C1.out with ⟨a, b⟩ | ⟨a, b⟩
      · exact .inl ⟨rfl, a⟩
      · exact .inr (val_int b.symm)
    case round =>
      rcases hrel with ⟨rfl, h61⟩ | rfl
      · have hk1e : (60 : Int) - (q0 - 60) = k1 := by have := C1.out; omega

        go_wp2
        refine ⟨.inr rfl, ?_⟩
        simp only [intOf]
        omega
      · go_wp2
        go_loop [9] (fun kv => (kv = .int .i64 k1 ∧ q1 < 59) ∨ kv = .int .i64 k2) (fun kv => (k2 - intOf kv).toNat)
        case atStart =>
          rcases C2.out with ⟨a, b⟩ | ⟨a, b⟩
          · exact .inl ⟨rfl, a⟩
          · exact .inr (val_int b.symm)
        case round =>
          rcases hrel with ⟨rfl, h59⟩ | rfl
          · have hk2e : k1 + (60 - q1) = k2 := by have := C2.out; omega
            go_wp2
            refine ⟨.inr rfl, ?_⟩
            simp only [intOf]
            omega
          · go_wp2_with fail
            refine (HLF1.out _ (hO2.wd 1 rfl)).mono ?_
            rintro e w3 ⟨A3, n3, c3, rfl, hW3, hE3⟩
            have hO3 := (hO2.ext hE3).add hW3
            clear hO2 hE3 hW3 hf
            have hf := hO3.cells
            simp only [BC, CC, Nat.zero_add, Nat.reduceAdd, and_true] at hf
            go_wp2_with fail
            refine (HBY.out _ _ _ _ _ _ _ (hO3.wd 0 rfl) (hO3.wd 1 rfl)).mono ?_
            rintro e w4 ⟨A4, n4, c4, A5, n5, c5, rfl, hWB, hWR, hE4⟩
            have hWN := (hO3.wd 0 rfl).ext hE4
            have hWD := (hO3.wd 1 rfl).ext hE4
            have hE := hO3.toExt.trans hE4
            clear hO3 hf hWR hE4 e0 e1 e2 p1 p2 x1 x2 C1 C2 b0 b1 b2 d1 r1 r2
            go_wp2
            go_loopw [14, 15] (fun rv iv wr => ∃ r : Nat, rv = .int .u64 (r : Int) ∧ r < 9223372036854775808 ∧ ((∃ i : Nat, iv = .int .i64 (i : Int) ∧ i ≤ 62 ∧ Hid (RtRel n BIG (i + 1) r)) ∨ (iv = .int .i64 (-1) ∧ Hid (RtRel n BIG 0 r))) ∧ Ext w4 wr) (fun _ iv _ => (intOf iv + 1).toNat)
            case atStart => exact ⟨0, rfl, by omega, .inl ⟨62, rfl, by omega, HST⟩, Ext.refl _⟩
            case round =>
              obtain ⟨r, rfl, hr63, hi, hEr⟩ := hrel
              rcases hi with ⟨i, rfl, hi62, hR⟩ | ⟨rfl, hR⟩
              · have hor := hR.out.or_
                obtain ⟨T, hT⟩ : ∃ T, T = r + 2 ^ i := ⟨_, rfl⟩
                have hyes := fun h => hR.out.yes h
                have hno := fun h => hR.out.no h
                have hfar := fun h => HFAR.out i r h
                rw [← hT] at hor hyes hno hfar
                obtain ⟨P, hP⟩ : ∃ P : Nat, P = 2 ^ i := ⟨_, rfl⟩
                have hPlt : P < 9223372036854775808 := by omega
                rw [← hP] at hor
                have hPe : (2 : Int) ^ i = (P : Int) := by rw [hP]; push_cast; rfl
                have hore : bits .or .u64 (r : Int) (P : Int) = (T : Int) := by rw [u64_or_nat _ _ (by omega) (by omega), hor.1]
                have hTl := hor.2
                obtain ⟨Z, hZ⟩ : ∃ Z, Z = n * i := ⟨_, rfl⟩
                have hZl : Z ≤ 1024 * 62 := by rw [hZ]; exact Nat.mul_le_mul n2 hi62
                have hZe : (n : Int) * (i : Int) = (Z : Int) := by rw [hZ]; push_cast; rfl
                rw [← hZ] at hfar
                have HYES := Lib.hid hyes
                have HNO := Lib.hid hno
                have HF := Lib.hid hfar
                clear hor hT hP hZ hyes hno hfar hR
                obtain ⟨cc, hcc⟩ : ∃ cc, cc = cmpN (T ^ n) BIG := ⟨_, rfl⟩
                have hC := fun A1 n1 c1 A2 n2 c2 w a b => HCB.out A1 n1 c1 T A2 n2 c2 w hTl a b
                rw [← hcc] at hC
                have HC := Lib.hid hC
                clear hC
                have hs1 : (0 : Int) ≤ (T : Int) := by omega
                have hs2 : (T : Int) < 18446744073709551616 := by omega
                by_cases hzb : Z < bB
                · by_cases hle : T ^ n ≤ BIG
                  · have hc0 : cc ≤ 0 := by rw [hcc]; unfold cmpN; split; omega; rw [if_neg (by omega)]; omega
                    have HN := rt_next (i := i) (r := T) (n := n) (BIG := BIG) hi62 (HYES.out hle)
                    clear HYES HNO HF hcc hle
                    go_wp2_with fail
                    refine (HLB.out _ _ _ _ (hWB.ext hEr)).mono ?_
                    rintro e w5 ⟨rfl, rfl⟩
                    go_wp2_with fail
                    refine (small_any (T : Int) wr hs1 hs2).mono ?_
                    rintro e w6 ⟨A6, n6, c6, rfl, hW6, hE6⟩
                    rw [Int.toNat_natCast] at hW6
                    go_wp2_with fail
                    refine (HPW.out _ _ _ _ _ hTl hW6).mono ?_
                    rintro e w7 ⟨A7, n7, c7, rfl, hW7, hE7⟩
                    go_wp2_with fail
                    refine (HC.out _ _ _ _ _ _ _ hW7 (hWB.ext (hEr.trans (hE6.trans hE7)))).mono ?_
                    rintro e w8 ⟨rfl, z, rfl⟩
                    have hE8 := (hEr.trans (hE6.trans hE7)).drewN z
                    generalize w7.drewN z = w8 at hE8 ⊢
                    go_wp2
                    refine ⟨⟨T, rfl, hTl, HN, hE8⟩, ?_⟩
                    simp only [intOf]
                    omega
                  · have hc0 : cc = 1 := by rw [hcc]; exact cmpN_gt (by omega)
                    subst hc0
                    have HN := rt_next (i := i) (r := r) (n := n) (BIG := BIG) hi62 (HNO.out (by omega))
                    clear HYES HNO HF hcc hle
                    go_wp2_with fail
                    refine (HLB.out _ _ _ _ (hWB.ext hEr)).mono ?_
                    rintro e w5 ⟨rfl, rfl⟩
                    go_wp2_with fail
                    refine (small_any (T : Int) wr hs1 hs2).mono ?_
                    rintro e w6 ⟨A6, n6, c6, rfl, hW6, hE6⟩
                    rw [Int.toNat_natCast] at hW6
                    go_wp2_with fail
                    refine (HPW.out _ _ _ _ _ hTl hW6).mono ?_
                    rintro e w7 ⟨A7, n7, c7, rfl, hW7, hE7⟩
                    go_wp2_with fail
                    refine (HC.out _ _ _ _ _ _ _ hW7 (hWB.ext (hEr.trans (hE6.trans hE7)))).mono ?_
                    rintro e w8 ⟨rfl, z, rfl⟩
                    have hE8 := (hEr.trans (hE6.trans hE7)).drewN z
                    generalize w7.drewN z = w8 at hE8 ⊢
                    go_wp2
                    refine ⟨⟨r, rfl, hr63, HN, hE8⟩, ?_⟩
                    simp only [intOf]
                    omega
                · have HN := rt_next (i := i) (r := r) (n := n) (BIG := BIG) hi62 (HNO.out (HF.out hzb))
                  clear HYES HNO HF hcc HC
                  go_wp2_with fail
                  refine (HLB.out _ _ _ _ (hWB.ext hEr)).mono ?_
                  rintro e w5 ⟨rfl, rfl⟩
                  go_wp2
                  refine ⟨⟨r, rfl, hr63, HN, hEr⟩, ?_⟩
                  simp only [intOf]
                  omega
              · clear HLB HCB HFAR HST
                have hdn := hR.out.done
                obtain ⟨hra, hb55⟩ := HEND.out r hdn.1 hdn.2
                have hV := HVAL.out r _ hra hb55
                have hsz : nw (r ^ n * DEN) ≤ 100000 := HSZ.out r hr63
                obtain ⟨o, ho⟩ : ∃ o, o = decide (r ^ n * DEN ≠ NUM) := ⟨_, rfl⟩
                rw [← ho] at hV
                obtain ⟨cc, hcc⟩ : ∃ cc, cc = cmpN (r ^ n * DEN) NUM := ⟨_, rfl⟩
                have hco : (cc == 0) = !o := by
                  rw [ho, hcc]
                  unfold cmpN
                  by_cases h1 : r ^ n * DEN < NUM
                  · rw [if_pos h1, decide_eq_true (show r ^ n * DEN ≠ NUM by omega)]; rfl
                  · rw [if_neg h1]
                    by_cases h2 : NUM < r ^ n * DEN
                    · rw [if_pos h2, decide_eq_true (show r ^ n * DEN ≠ NUM by omega)]; rfl
                    · rw [if_neg h2, decide_eq_false (show ¬ r ^ n * DEN ≠ NUM by omega)]; rfl
                have hC := fun A1 n1 c1 A2 n2 c2 w a b => HCN.out A1 n1 c1 r A2 n2 c2 w hr63 a b
                rw [← hcc] at hC
                have HC := Lib.hid hC
                have hcv : cc = 0 ∨ cc = 1 ∨ cc = -1 := by rw [hcc]; unfold cmpN; split; simp; split <;> simp
                have hc01 : (o = false ∧ cc = 0) ∨ (o = true ∧ cc = 1) ∨ (o = true ∧ cc = -1) := by
                  cases o with
                  | false => exact .inl ⟨rfl, by simpa using hco⟩
                  | true =>
                    have : cc ≠ 0 := by simpa using hco
                    rcases hcv with h | h | h
                    · exact absurd h this
                    · exact .inr (.inl ⟨rfl, h⟩)
                    · exact .inr (.inr ⟨rfl, h⟩)
                clear hC hcc ho hdn hra HEND HVAL HCN hco hcv
                have hs1 : (0 : Int) ≤ (r : Int) := by omega
                have hs2 : (r : Int) < 18446744073709551616 := by omega
                go_wp2_with fail
                refine (small_any (r : Int) wr hs1 hs2).mono ?_
                rintro e w6 ⟨A6, n6, c6, rfl, hW6, hE6⟩
                rw [Int.toNat_natCast] at hW6
                go_wp2_with fail
                refine (HPW.out _ _ _ _ _ hr63 hW6).mono ?_
                rintro e w7 ⟨A7, n7, c7, rfl, hW7, hE7⟩
                go_wp2_with fail
                refine (HTM.out _ _ _ _ _ _ _ _ hr63 hW7 (hWD.ext (hEr.trans (hE6.trans hE7)))).mono ?_
                rintro e w8 ⟨A8, n8, c8, rfl, hW8, hE8⟩
                go_wp2_with fail
                refine (HC.out _ _ _ _ _ _ _ hW8 (hWN.ext ((hEr.trans (hE6.trans hE7)).trans hE8))).mono ?_
                rintro e w9 ⟨rfl, z, rfl⟩
                have hE9 := (hE.trans ((hEr.trans (hE6.trans hE7)).trans hE8)).drewN z
                generalize w8.drewN z = w9 at hE9 ⊢
                clear HC HTM HPW hW6 hW7 hW8 hE6 hE7 hE8 hWD hWN hWB hE hEr
                obtain ⟨v, hv⟩ : ∃ v, v = o.toNat := ⟨_, rfl⟩
                have hv1 : v ≤ 1 := by rw [hv]; cases o <;> simp
                obtain ⟨X, hX⟩ : ∃ X, X = r * 2 ^ 1 + v := ⟨_, rfl⟩
                have hX0 : X ≠ 0 := by
                  rw [hX]
                  have : r ≠ 0 := fun e => by rw [e, bl_zero] at hb55; omega
                  omega
                have hXn : nw X ≤ 3 := by
                  have h1 := nw_mono (show X ≤ 18446744073709551616 by omega)
                  rw [show nw 18446744073709551616 = 3 by decide +kernel] at h1
                  exact h1
                have hXR : rnd d neg (zr (fracN X 1 (-k2 - 1)) (fracD X 1 (-k2 - 1))) = R := by
                  rw [zr_frac1, ← hV]
                  congr 2
                  rw [hX, hv]; omega
                have hfw := frac_nw (n := X) (d := 1) (e := -k2 - 1) (by omega) (by rw [show nw 1 = 1 from rfl]; omega) (by omega) (by omega) (by omega)
                have HB : Hid (∀ A l c B k dd w, RatAt w A l c B k dd (fracN X 1 (-k2 - 1)) (fracD X 1 (-k2 - 1)) → Calls Tryz.prog 41 #[.int .i64 d, .agg #[.bool neg, .slice A l c, .slice B k dd]] w fun e w' => e = .returned (.int .u64 (R : Nat)) ∧ Ext w w') := Lib.hid (fun A l c B k dd w h => by
                  have := bits3_any d neg A l c B k dd _ _ w h hfw.1 hfw.2 (Nat.ne_of_gt (fracD_pos _ (by omega)))
                  rwa [hXR] at this)
                have HFR : Hid (∀ A n c B m dd w, Wds w A n c (nd X) → Wds w B m dd (nd 1) → Calls Tryz.prog 79 #[.bool neg, .slice A n c, .slice B m dd, .int .i64 (-k2 - 1)] w (RetR neg (fracN X 1 (-k2 - 1)) (fracD X 1 (-k2 - 1)) w)) := Lib.hid (fun A n c B m dd w h k => by
                  have := frac_any neg A n c (nd X) B m dd (nd 1) (-k2 - 1) w h (by have := h.nw_eq; omega) k (by have := k.nw_eq; rw [show nw 1 = 1 from rfl] at this; omega) (by omega) (by omega) (by rw [nv_nd]; omega)
                  rwa [nv_nd, nv_nd, decide_eq_true hX0, Bool.and_true] at this)
                have HLE : Hid (∀ A n c w, Wds w A n c (nd r) → Calls Tryz.prog 105 #[.slice A n c, .int .i64 1] w (RetW (r * 2 ^ 1) w)) := Lib.hid (fun A n c w h => by
                  have := left_any A n c (nd r) 1 w h (by have := h.nw_eq; have := nw_mono (show r ≤ 18446744073709551616 by omega); rw [show nw 18446744073709551616 = 3 by decide +kernel] at this; omega) (by omega)
                  rwa [nv_nd] at this)
                have HPL : Hid (∀ A n c B m dd w, Wds w A n c (nd (r * 2 ^ 1)) → Wds w B m dd (nd v) → Calls Tryz.prog 83 #[.slice A n c, .slice B m dd] w (RetW X w)) := Lib.hid (fun A n c B m dd w h k => by
                  have b1 := nw_mono (show r * 2 ^ 1 ≤ 18446744073709551616 by omega)
                  have b2 := nw_mono (show v ≤ 18446744073709551616 by omega)
                  rw [show nw 18446744073709551616 = 3 by decide +kernel] at b1 b2
                  have := plus_any A n c (nd (r * 2 ^ 1)) B m dd (nd v) w h (by have := h.nw_eq; omega) k (by have := k.nw_eq; omega)
                  rwa [nv_nd, nv_nd, ← hX] at this)
                have HSV : Hid (∀ w, Calls Tryz.prog 80 #[.int .u64 (v : Int)] w (RetW v w)) := Lib.hid (fun w => by
                  have := small_any (v : Int) w (by omega) (by omega)
                  rwa [Int.toNat_natCast] at this)
                have hov : (o = false ∧ v = 0) ∨ (o = true ∧ v = 1) := by
                  cases o
                  · exact .inl ⟨rfl, hv⟩
                  · exact .inr ⟨rfl, hv⟩
                clear hv hX hX0 hXn hXR hfw hV hsz hR hb55 hv1
                rcases hc01 with ⟨rfl, rfl⟩ | ⟨rfl, rfl⟩ | ⟨rfl, rfl⟩
                · have hv0 : v = 0 := by rcases hov with ⟨-, h⟩ | ⟨h, -⟩; exact h; cases h
                  subst hv0
                  clear hov
                  rw [show ((0 : Nat) : Int) = 0 from rfl] at HSV
                  go_wp2_with fail
                  refine (small_any (r : Int) w9 hs1 hs2).mono ?_
                  rintro e w10 ⟨A10, n10, c10, rfl, hW10, hE10⟩
                  rw [Int.toNat_natCast] at hW10
                  go_wp2_with fail
                  refine (HLE.out _ _ _ _ hW10).mono ?_
                  rintro e w11 ⟨A11, n11, c11, rfl, hW11, hE11⟩
                  go_wp2_with fail
                  refine (HSV.out _).mono ?_
                  rintro e w12 ⟨A12, n12, c12, rfl, hW12, hE12⟩
                  go_wp2_with fail
                  refine (HPL.out _ _ _ _ _ _ _ (hW11.ext hE12) hW12).mono ?_
                  rintro e w13 ⟨A13, n13, c13, rfl, hW13, hE13⟩
                  have hU := unit_list w13
                  have hW14 := hW13.alloc (.cells #[.int .u32 1] 104)
                  have hE14 : Ext w13 (w13.alloc (.cells #[.int .u32 1] 104)) := (Ext.refl w13).alloc _
                  have hEE := (hE9.trans ((hE10.trans hE11).trans (hE12.trans hE13))).trans hE14
                  clear hW10 hW11 hW12 hW13 hE10 hE11 hE12 hE13 hE14 hE9 HSV HPL HLE
                  go_wp2_with fail
                  generalize w13.heap.size = g13 at hU ⊢
                  generalize w13.alloc _ = w14 at hU hW14 hEE ⊢
                  refine (HFR.out _ _ _ _ _ _ _ hW14 hU).mono ?_
                  rintro e w15 ⟨A15, n15, c15, A16, n16, c16, rfl, hW15, hW16, hE15⟩
                  go_wp2_with fail
                  refine (HB.out _ _ _ _ _ _ _ ⟨hW15, hW16⟩).mono ?_
                  rintro e w17 ⟨rfl, hE17⟩
                  go_wp2
                  go_ret
                  exact ⟨rfl, hEE.trans (hE15.trans hE17)⟩
                · have hv0 : v = 1 := by rcases hov with ⟨h, -⟩ | ⟨-, h⟩; cases h; exact h
                  subst hv0
                  clear hov
                  rw [show ((1 : Nat) : Int) = 1 from rfl] at HSV
                  go_wp2_with fail
                  refine (small_any (r : Int) w9 hs1 hs2).mono ?_
                  rintro e w10 ⟨A10, n10, c10, rfl, hW10, hE10⟩
                  rw [Int.toNat_natCast] at hW10
                  go_wp2_with fail
                  refine (HLE.out _ _ _ _ hW10).mono ?_
                  rintro e w11 ⟨A11, n11, c11, rfl, hW11, hE11⟩
                  go_wp2_with fail
                  refine (HSV.out _).mono ?_
                  rintro e w12 ⟨A12, n12, c12, rfl, hW12, hE12⟩
                  go_wp2_with fail
                  refine (HPL.out _ _ _ _ _ _ _ (hW11.ext hE12) hW12).mono ?_
                  rintro e w13 ⟨A13, n13, c13, rfl, hW13, hE13⟩
                  have hU := unit_list w13
                  have hW14 := hW13.alloc (.cells #[.int .u32 1] 104)
                  have hE14 : Ext w13 (w13.alloc (.cells #[.int .u32 1] 104)) := (Ext.refl w13).alloc _
                  have hEE := (hE9.trans ((hE10.trans hE11).trans (hE12.trans hE13))).trans hE14
                  clear hW10 hW11 hW12 hW13 hE10 hE11 hE12 hE13 hE14 hE9 HSV HPL HLE
                  go_wp2_with fail
                  generalize w13.heap.size = g13 at hU ⊢
                  generalize w13.alloc _ = w14 at hU hW14 hEE ⊢
                  refine (HFR.out _ _ _ _ _ _ _ hW14 hU).mono ?_
                  rintro e w15 ⟨A15, n15, c15, A16, n16, c16, rfl, hW15, hW16, hE15⟩
                  go_wp2_with fail
                  refine (HB.out _ _ _ _ _ _ _ ⟨hW15, hW16⟩).mono ?_
                  rintro e w17 ⟨rfl, hE17⟩
                  go_wp2
                  go_ret
                  exact ⟨rfl, hEE.trans (hE15.trans hE17)⟩
                · have hv0 : v = 1 := by rcases hov with ⟨h, -⟩ | ⟨-, h⟩; cases h; exact h
                  subst hv0
                  clear hov
                  rw [show ((1 : Nat) : Int) = 1 from rfl] at HSV
                  go_wp2_with fail
                  refine (small_any (r : Int) w9 hs1 hs2).mono ?_
                  rintro e w10 ⟨A10, n10, c10, rfl, hW10, hE10⟩
                  rw [Int.toNat_natCast] at hW10
                  go_wp2_with fail
                  refine (HLE.out _ _ _ _ hW10).mono ?_
                  rintro e w11 ⟨A11, n11, c11, rfl, hW11, hE11⟩
                  go_wp2_with fail
                  refine (HSV.out _).mono ?_
                  rintro e w12 ⟨A12, n12, c12, rfl, hW12, hE12⟩
                  go_wp2_with fail
                  refine (HPL.out _ _ _ _ _ _ _ (hW11.ext hE12) hW12).mono ?_
                  rintro e w13 ⟨A13, n13, c13, rfl, hW13, hE13⟩
                  have hU := unit_list w13
                  have hW14 := hW13.alloc (.cells #[.int .u32 1] 104)
                  have hE14 : Ext w13 (w13.alloc (.cells #[.int .u32 1] 104)) := (Ext.refl w13).alloc _
                  have hEE := (hE9.trans ((hE10.trans hE11).trans (hE12.trans hE13))).trans hE14
                  clear hW10 hW11 hW12 hW13 hE10 hE11 hE12 hE13 hE14 hE9 HSV HPL HLE
                  go_wp2_with fail
                  generalize w13.heap.size = g13 at hU ⊢
                  generalize w13.alloc _ = w14 at hU hW14 hEE ⊢
                  refine (HFR.out _ _ _ _ _ _ _ hW14 hU).mono ?_
                  rintro e w15 ⟨A15, n15, c15, A16, n16, c16, rfl, hW15, hW16, hE15⟩
                  go_wp2_with fail
                  refine (HB.out _ _ _ _ _ _ _ ⟨hW15, hW16⟩).mono ?_
                  rintro e w17 ⟨rfl, hE17⟩
                  go_wp2
                  go_ret
                  exact ⟨rfl, hEE.trans (hE15.trans hE17)⟩
  · have s0 : s = 0 := by omega
    have hms : m2 = -(t : Int) := by omega
    have hNN := hNs s0
    clear ht hs hst s0 hDt hNs hNUM hDEN HLF1
    subst hms
    subst hNN
    have hnk : -(n : Int) * k2 = (t : Int) := by rw [Int.neg_mul]; omega
    go_enter Tryz.func76, Tryz.ntmps76
    go_wp2_with (first | ((with_reducible refine at_box (T := 38) ?_); refine own_box (cs := [.bool neg, .slice A l c, .slice B k dd]) hO rfl rfl ?_; clear hO; intro ga wa hO; have hf := hO.cells; simp only [BC, CC, Nat.zero_add, Nat.reduceAdd, and_true] at hf))
    refine (HRS.out _ (hO.wd 1 rfl)).mono ?_
    rintro e w1 ⟨rfl, hE1⟩
    have hO1 := hO.ext hE1
    clear hf hO hE1 HRS
    go_wp2_with fail
    refine wp_region_steady (Own w [⟨ga, 38, [.bool neg, .slice A l c, .slice B k dd]⟩] [⟨B, k, dd, nd D⟩, ⟨A, l, c, nd NUM⟩]) (by kernel_rfl) (by kernel_rfl) (hO1.ext (Ext.refl w1).drew) ?_
    repeat (refine wpG_step (fun K hK => ?_)
            go_simp
            apply StepG.mk
            intro wz hz
            have hf := hz.cells
            simp only [BC, CC, Nat.zero_add, Nat.reduceAdd, and_true] at hf
            first
            | (go_simp
               first | exact rfl | exact ⟨rfl, hz⟩)
            | (go_simp
               go_at_call 104
               first
               | (with_reducible refine (HL1.out _ (hz.wd 1 rfl)).mono ?_)
               | (with_reducible refine (HL2.out _ (hz.wd 0 rfl)).mono ?_)
               rintro e w8 ⟨rfl, rfl⟩
               exact ⟨rfl, hz⟩)
            refine hK _ ?_
            clear hK K)
    refine wpG_nil ?_
    intro w2 hO2
    clear hO1 HL1 HL2
    have hf := hO2.cells
    simp only [BC, CC, Nat.zero_add, Nat.reduceAdd, and_true] at hf
    go_wp2
    go_loop [9] (fun kv => (kv = .int .i64 60 ∧ 61 < q0) ∨ kv = .int .i64 k1) (fun kv => (intOf kv - k1).toNat)
    case atStart =>
      rcases C1.out with ⟨a, b⟩ | ⟨a, b⟩
      · exact .inl ⟨rfl, a⟩
      · exact .inr (val_int b.symm)
    case round =>
      rcases hrel with ⟨rfl, h61⟩ | rfl
      · have hk1e : (60 : Int) - (q0 - 60) = k1 := by have := C1.out; omega

        go_wp2
        refine ⟨.inr rfl, ?_⟩
        simp only [intOf]
        omega
      · go_wp2
        go_loop [9] (fun kv => (kv = .int .i64 k1 ∧ q1 < 59) ∨ kv = .int .i64 k2) (fun kv => (k2 - intOf kv).toNat)
        case atStart =>
          rcases C2.out with ⟨a, b⟩ | ⟨a, b⟩
          · exact .inl ⟨rfl, a⟩
          · exact .inr (val_int b.symm)
        case round =>
          rcases hrel with ⟨rfl, h59⟩ | rfl
          · have hk2e : k1 + (60 - q1) = k2 := by have := C2.out; omega
            go_wp2
            refine ⟨.inr rfl, ?_⟩
            simp only [intOf]
            omega
          · go_wp2_with fail
            refine (HLF2.out _ (hO2.wd 0 rfl)).mono ?_
            rintro e w3 ⟨A3, n3, c3, rfl, hW3, hE3⟩
            have hO3 := (hO2.ext hE3).add hW3
            clear hO2 hE3 hW3 hf
            have hf := hO3.cells
            simp only [BC, CC, Nat.zero_add, Nat.reduceAdd, and_true] at hf
            go_wp2_with fail
            refine (HBY.out _ _ _ _ _ _ _ (hO3.wd 2 rfl) (hO3.wd 0 rfl)).mono ?_
            rintro e w4 ⟨A4, n4, c4, A5, n5, c5, rfl, hWB, hWR, hE4⟩
            have hWN := (hO3.wd 2 rfl).ext hE4
            have hWD := (hO3.wd 0 rfl).ext hE4
            have hE := hO3.toExt.trans hE4
            clear hO3 hf hWR hE4 e0 e1 e2 p1 p2 x1 x2 C1 C2 b0 b1 b2 d1 r1 r2
            go_wp2
            go_loopw [14, 15] (fun rv iv wr => ∃ r : Nat, rv = .int .u64 (r : Int) ∧ r < 9223372036854775808 ∧ ((∃ i : Nat, iv = .int .i64 (i : Int) ∧ i ≤ 62 ∧ Hid (RtRel n BIG (i + 1) r)) ∨ (iv = .int .i64 (-1) ∧ Hid (RtRel n BIG 0 r))) ∧ Ext w4 wr) (fun _ iv _ => (intOf iv + 1).toNat)
            case atStart => exact ⟨0, rfl, by omega, .inl ⟨62, rfl, by omega, HST⟩, Ext.refl _⟩
            case round =>
              obtain ⟨r, rfl, hr63, hi, hEr⟩ := hrel
              rcases hi with ⟨i, rfl, hi62, hR⟩ | ⟨rfl, hR⟩
              · have hor := hR.out.or_
                obtain ⟨T, hT⟩ : ∃ T, T = r + 2 ^ i := ⟨_, rfl⟩
                have hyes := fun h => hR.out.yes h
                have hno := fun h => hR.out.no h
                have hfar := fun h => HFAR.out i r h
                rw [← hT] at hor hyes hno hfar
                obtain ⟨P, hP⟩ : ∃ P : Nat, P = 2 ^ i := ⟨_, rfl⟩
                have hPlt : P < 9223372036854775808 := by omega
                rw [← hP] at hor
                have hPe : (2 : Int) ^ i = (P : Int) := by rw [hP]; push_cast; rfl
                have hore : bits .or .u64 (r : Int) (P : Int) = (T : Int) := by rw [u64_or_nat _ _ (by omega) (by omega), hor.1]
                have hTl := hor.2
                obtain ⟨Z, hZ⟩ : ∃ Z, Z = n * i := ⟨_, rfl⟩
                have hZl : Z ≤ 1024 * 62 := by rw [hZ]; exact Nat.mul_le_mul n2 hi62
                have hZe : (n : Int) * (i : Int) = (Z : Int) := by rw [hZ]; push_cast; rfl
                rw [← hZ] at hfar
                have HYES := Lib.hid hyes
                have HNO := Lib.hid hno
                have HF := Lib.hid hfar
                clear hor hT hP hZ hyes hno hfar hR
                obtain ⟨cc, hcc⟩ : ∃ cc, cc = cmpN (T ^ n) BIG := ⟨_, rfl⟩
                have hC := fun A1 n1 c1 A2 n2 c2 w a b => HCB.out A1 n1 c1 T A2 n2 c2 w hTl a b
                rw [← hcc] at hC
                have HC := Lib.hid hC
                clear hC
                have hs1 : (0 : Int) ≤ (T : Int) := by omega
                have hs2 : (T : Int) < 18446744073709551616 := by omega
                by_cases hzb : Z < bB
                · by_cases hle : T ^ n ≤ BIG
                  · have hc0 : cc ≤ 0 := by rw [hcc]; unfold cmpN; split; omega; rw [if_neg (by omega)]; omega
                    have HN := rt_next (i := i) (r := T) (n := n) (BIG := BIG) hi62 (HYES.out hle)
                    clear HYES HNO HF hcc hle
                    go_wp2_with fail
                    refine (HLB.out _ _ _ _ (hWB.ext hEr)).mono ?_
                    rintro e w5 ⟨rfl, rfl⟩
                    go_wp2_with fail
                    refine (small_any (T : Int) wr hs1 hs2).mono ?_
                    rintro e w6 ⟨A6, n6, c6, rfl, hW6, hE6⟩
                    rw [Int.toNat_natCast] at hW6
                    go_wp2_with fail
                    refine (HPW.out _ _ _ _ _ hTl hW6).mono ?_
                    rintro e w7 ⟨A7, n7, c7, rfl, hW7, hE7⟩
                    go_wp2_with fail
                    refine (HC.out _ _ _ _ _ _ _ hW7 (hWB.ext (hEr.trans (hE6.trans hE7)))).mono ?_
                    rintro e w8 ⟨rfl, z, rfl⟩
                    have hE8 := (hEr.trans (hE6.trans hE7)).drewN z
                    generalize w7.drewN z = w8 at hE8 ⊢
                    go_wp2
                    refine ⟨⟨T, rfl, hTl, HN, hE8⟩, ?_⟩
                    simp only [intOf]
                    omega
                  · have hc0 : cc = 1 := by rw [hcc]; exact cmpN_gt (by omega)
                    subst hc0
                    have HN := rt_next (i := i) (r := r) (n := n) (BIG := BIG) hi62 (HNO.out (by omega))
                    clear HYES HNO HF hcc hle
                    go_wp2_with fail
                    refine (HLB.out _ _ _ _ (hWB.ext hEr)).mono ?_
                    rintro e w5 ⟨rfl, rfl⟩
                    go_wp2_with fail
                    refine (small_any (T : Int) wr hs1 hs2).mono ?_
                    rintro e w6 ⟨A6, n6, c6, rfl, hW6, hE6⟩
                    rw [Int.toNat_natCast] at hW6
                    go_wp2_with fail
                    refine (HPW.out _ _ _ _ _ hTl hW6).mono ?_
                    rintro e w7 ⟨A7, n7, c7, rfl, hW7, hE7⟩
                    go_wp2_with fail
                    refine (HC.out _ _ _ _ _ _ _ hW7 (hWB.ext (hEr.trans (hE6.trans hE7)))).mono ?_
                    rintro e w8 ⟨rfl, z, rfl⟩
                    have hE8 := (hEr.trans (hE6.trans hE7)).drewN z
                    generalize w7.drewN z = w8 at hE8 ⊢
                    go_wp2
                    refine ⟨⟨r, rfl, hr63, HN, hE8⟩, ?_⟩
                    simp only [intOf]
                    omega
                · have HN := rt_next (i := i) (r := r) (n := n) (BIG := BIG) hi62 (HNO.out (HF.out hzb))
                  clear HYES HNO HF hcc HC
                  go_wp2_with fail
                  refine (HLB.out _ _ _ _ (hWB.ext hEr)).mono ?_
                  rintro e w5 ⟨rfl, rfl⟩
                  go_wp2
                  refine ⟨⟨r, rfl, hr63, HN, hEr⟩, ?_⟩
                  simp only [intOf]
                  omega
              · clear HLB HCB HFAR HST
                have hdn := hR.out.done
                obtain ⟨hra, hb55⟩ := HEND.out r hdn.1 hdn.2
                have hV := HVAL.out r _ hra hb55
                have hsz : nw (r ^ n * DEN) ≤ 100000 := HSZ.out r hr63
                obtain ⟨o, ho⟩ : ∃ o, o = decide (r ^ n * DEN ≠ NUM) := ⟨_, rfl⟩
                rw [← ho] at hV
                obtain ⟨cc, hcc⟩ : ∃ cc, cc = cmpN (r ^ n * DEN) NUM := ⟨_, rfl⟩
                have hco : (cc == 0) = !o := by
                  rw [ho, hcc]
                  unfold cmpN
                  by_cases h1 : r ^ n * DEN < NUM
                  · rw [if_pos h1, decide_eq_true (show r ^ n * DEN ≠ NUM by omega)]; rfl
                  · rw [if_neg h1]
                    by_cases h2 : NUM < r ^ n * DEN
                    · rw [if_pos h2, decide_eq_true (show r ^ n * DEN ≠ NUM by omega)]; rfl
                    · rw [if_neg h2, decide_eq_false (show ¬ r ^ n * DEN ≠ NUM by omega)]; rfl
                have hC := fun A1 n1 c1 A2 n2 c2 w a b => HCN.out A1 n1 c1 r A2 n2 c2 w hr63 a b
                rw [← hcc] at hC
                have HC := Lib.hid hC
                have hcv : cc = 0 ∨ cc = 1 ∨ cc = -1 := by rw [hcc]; unfold cmpN; split; simp; split <;> simp
                have hc01 : (o = false ∧ cc = 0) ∨ (o = true ∧ cc = 1) ∨ (o = true ∧ cc = -1) := by
                  cases o with
                  | false => exact .inl ⟨rfl, by simpa using hco⟩
                  | true =>
                    have : cc ≠ 0 := by simpa using hco
                    rcases hcv with h | h | h
                    · exact absurd h this
                    · exact .inr (.inl ⟨rfl, h⟩)
                    · exact .inr (.inr ⟨rfl, h⟩)
                clear hC hcc ho hdn hra HEND HVAL HCN hco hcv
                have hs1 : (0 : Int) ≤ (r : Int) := by omega
                have hs2 : (r : Int) < 18446744073709551616 := by omega
                go_wp2_with fail
                refine (small_any (r : Int) wr hs1 hs2).mono ?_
                rintro e w6 ⟨A6, n6, c6, rfl, hW6, hE6⟩
                rw [Int.toNat_natCast] at hW6
                go_wp2_with fail
                refine (HPW.out _ _ _ _ _ hr63 hW6).mono ?_
                rintro e w7 ⟨A7, n7, c7, rfl, hW7, hE7⟩
                go_wp2_with fail
                refine (HTM.out _ _ _ _ _ _ _ _ hr63 hW7 (hWD.ext (hEr.trans (hE6.trans hE7)))).mono ?_
                rintro e w8 ⟨A8, n8, c8, rfl, hW8, hE8⟩
                go_wp2_with fail
                refine (HC.out _ _ _ _ _ _ _ hW8 (hWN.ext ((hEr.trans (hE6.trans hE7)).trans hE8))).mono ?_
                rintro e w9 ⟨rfl, z, rfl⟩
                have hE9 := (hE.trans ((hEr.trans (hE6.trans hE7)).trans hE8)).drewN z
                generalize w8.drewN z = w9 at hE9 ⊢
                clear HC HTM HPW hW6 hW7 hW8 hE6 hE7 hE8 hWD hWN hWB hE hEr
                obtain ⟨v, hv⟩ : ∃ v, v = o.toNat := ⟨_, rfl⟩
                have hv1 : v ≤ 1 := by rw [hv]; cases o <;> simp
                obtain ⟨X, hX⟩ : ∃ X, X = r * 2 ^ 1 + v := ⟨_, rfl⟩
                have hX0 : X ≠ 0 := by
                  rw [hX]
                  have : r ≠ 0 := fun e => by rw [e, bl_zero] at hb55; omega
                  omega
                have hXn : nw X ≤ 3 := by
                  have h1 := nw_mono (show X ≤ 18446744073709551616 by omega)
                  rw [show nw 18446744073709551616 = 3 by decide +kernel] at h1
                  exact h1
                have hXR : rnd d neg (zr (fracN X 1 (-k2 - 1)) (fracD X 1 (-k2 - 1))) = R := by
                  rw [zr_frac1, ← hV]
                  congr 2
                  rw [hX, hv]; omega
                have hfw := frac_nw (n := X) (d := 1) (e := -k2 - 1) (by omega) (by rw [show nw 1 = 1 from rfl]; omega) (by omega) (by omega) (by omega)
                have HB : Hid (∀ A l c B k dd w, RatAt w A l c B k dd (fracN X 1 (-k2 - 1)) (fracD X 1 (-k2 - 1)) → Calls Tryz.prog 41 #[.int .i64 d, .agg #[.bool neg, .slice A l c, .slice B k dd]] w fun e w' => e = .returned (.int .u64 (R : Nat)) ∧ Ext w w') := Lib.hid (fun A l c B k dd w h => by
                  have := bits3_any d neg A l c B k dd _ _ w h hfw.1 hfw.2 (Nat.ne_of_gt (fracD_pos _ (by omega)))
                  rwa [hXR] at this)
                have HFR : Hid (∀ A n c B m dd w, Wds w A n c (nd X) → Wds w B m dd (nd 1) → Calls Tryz.prog 79 #[.bool neg, .slice A n c, .slice B m dd, .int .i64 (-k2 - 1)] w (RetR neg (fracN X 1 (-k2 - 1)) (fracD X 1 (-k2 - 1)) w)) := Lib.hid (fun A n c B m dd w h k => by
                  have := frac_any neg A n c (nd X) B m dd (nd 1) (-k2 - 1) w h (by have := h.nw_eq; omega) k (by have := k.nw_eq; rw [show nw 1 = 1 from rfl] at this; omega) (by omega) (by omega) (by rw [nv_nd]; omega)
                  rwa [nv_nd, nv_nd, decide_eq_true hX0, Bool.and_true] at this)
                have HLE : Hid (∀ A n c w, Wds w A n c (nd r) → Calls Tryz.prog 105 #[.slice A n c, .int .i64 1] w (RetW (r * 2 ^ 1) w)) := Lib.hid (fun A n c w h => by
                  have := left_any A n c (nd r) 1 w h (by have := h.nw_eq; have := nw_mono (show r ≤ 18446744073709551616 by omega); rw [show nw 18446744073709551616 = 3 by decide +kernel] at this; omega) (by omega)
                  rwa [nv_nd] at this)
                have HPL : Hid (∀ A n c B m dd w, Wds w A n c (nd (r * 2 ^ 1)) → Wds w B m dd (nd v) → Calls Tryz.prog 83 #[.slice A n c, .slice B m dd] w (RetW X w)) := Lib.hid (fun A n c B m dd w h k => by
                  have b1 := nw_mono (show r * 2 ^ 1 ≤ 18446744073709551616 by omega)
                  have b2 := nw_mono (show v ≤ 18446744073709551616 by omega)
                  rw [show nw 18446744073709551616 = 3 by decide +kernel] at b1 b2
                  have := plus_any A n c (nd (r * 2 ^ 1)) B m dd (nd v) w h (by have := h.nw_eq; omega) k (by have := k.nw_eq; omega)
                  rwa [nv_nd, nv_nd, ← hX] at this)
                have HSV : Hid (∀ w, Calls Tryz.prog 80 #[.int .u64 (v : Int)] w (RetW v w)) := Lib.hid (fun w => by
                  have := small_any (v : Int) w (by omega) (by omega)
                  rwa [Int.toNat_natCast] at this)
                have hov : (o = false ∧ v = 0) ∨ (o = true ∧ v = 1) := by
                  cases o
                  · exact .inl ⟨rfl, hv⟩
                  · exact .inr ⟨rfl, hv⟩
                clear hv hX hX0 hXn hXR hfw hV hsz hR hb55 hv1
                rcases hc01 with ⟨rfl, rfl⟩ | ⟨rfl, rfl⟩ | ⟨rfl, rfl⟩
                · have hv0 : v = 0 := by rcases hov with ⟨-, h⟩ | ⟨h, -⟩; exact h; cases h
                  subst hv0
                  clear hov
                  rw [show ((0 : Nat) : Int) = 0 from rfl] at HSV
                  go_wp2_with fail
                  refine (small_any (r : Int) w9 hs1 hs2).mono ?_
                  rintro e w10 ⟨A10, n10, c10, rfl, hW10, hE10⟩
                  rw [Int.toNat_natCast] at hW10
                  go_wp2_with fail
                  refine (HLE.out _ _ _ _ hW10).mono ?_
                  rintro e w11 ⟨A11, n11, c11, rfl, hW11, hE11⟩
                  go_wp2_with fail
                  refine (HSV.out _).mono ?_
                  rintro e w12 ⟨A12, n12, c12, rfl, hW12, hE12⟩
                  go_wp2_with fail
                  refine (HPL.out _ _ _ _ _ _ _ (hW11.ext hE12) hW12).mono ?_
                  rintro e w13 ⟨A13, n13, c13, rfl, hW13, hE13⟩
                  have hU := unit_list w13
                  have hW14 := hW13.alloc (.cells #[.int .u32 1] 104)
                  have hE14 : Ext w13 (w13.alloc (.cells #[.int .u32 1] 104)) := (Ext.refl w13).alloc _
                  have hEE := (hE9.trans ((hE10.trans hE11).trans (hE12.trans hE13))).trans hE14
                  clear hW10 hW11 hW12 hW13 hE10 hE11 hE12 hE13 hE14 hE9 HSV HPL HLE
                  go_wp2_with fail
                  generalize w13.heap.size = g13 at hU ⊢
                  generalize w13.alloc _ = w14 at hU hW14 hEE ⊢
                  refine (HFR.out _ _ _ _ _ _ _ hW14 hU).mono ?_
                  rintro e w15 ⟨A15, n15, c15, A16, n16, c16, rfl, hW15, hW16, hE15⟩
                  go_wp2_with fail
                  refine (HB.out _ _ _ _ _ _ _ ⟨hW15, hW16⟩).mono ?_
                  rintro e w17 ⟨rfl, hE17⟩
                  go_wp2
                  go_ret
                  exact ⟨rfl, hEE.trans (hE15.trans hE17)⟩
                · have hv0 : v = 1 := by rcases hov with ⟨h, -⟩ | ⟨-, h⟩; cases h; exact h
                  subst hv0
                  clear hov
                  rw [show ((1 : Nat) : Int) = 1 from rfl] at HSV
                  go_wp2_with fail
                  refine (small_any (r : Int) w9 hs1 hs2).mono ?_
                  rintro e w10 ⟨A10, n10, c10, rfl, hW10, hE10⟩
                  rw [Int.toNat_natCast] at hW10
                  go_wp2_with fail
                  refine (HLE.out _ _ _ _ hW10).mono ?_
                  rintro e w11 ⟨A11, n11, c11, rfl, hW11, hE11⟩
                  go_wp2_with fail
                  refine (HSV.out _).mono ?_
                  rintro e w12 ⟨A12, n12, c12, rfl, hW12, hE12⟩
                  go_wp2_with fail
                  refine (HPL.out _ _ _ _ _ _ _ (hW11.ext hE12) hW12).mono ?_
                  rintro e w13 ⟨A13, n13, c13, rfl, hW13, hE13⟩
                  have hU := unit_list w13
                  have hW14 := hW13.alloc (.cells #[.int .u32 1] 104)
                  have hE14 : Ext w13 (w13.alloc (.cells #[.int .u32 1] 104)) := (Ext.refl w13).alloc _
                  have hEE := (hE9.trans ((hE10.trans hE11).trans (hE12.trans hE13))).trans hE14
                  clear hW10 hW11 hW12 hW13 hE10 hE11 hE12 hE13 hE14 hE9 HSV HPL HLE
                  go_wp2_with fail
                  generalize w13.heap.size = g13 at hU ⊢
                  generalize w13.alloc _ = w14 at hU hW14 hEE ⊢
                  refine (HFR.out _ _ _ _ _ _ _ hW14 hU).mono ?_
                  rintro e w15 ⟨A15, n15, c15, A16, n16, c16, rfl, hW15, hW16, hE15⟩
                  go_wp2_with fail
                  refine (HB.out _ _ _ _ _ _ _ ⟨hW15, hW16⟩).mono ?_
                  rintro e w17 ⟨rfl, hE17⟩
                  go_wp2
                  go_ret
                  exact ⟨rfl, hEE.trans (hE15.trans hE17)⟩
                · have hv0 : v = 1 := by rcases hov with ⟨h, -⟩ | ⟨-, h⟩; cases h; exact h
                  subst hv0
                  clear hov
                  rw [show ((1 : Nat) : Int) = 1 from rfl] at HSV
                  go_wp2_with fail
                  refine (small_any (r : Int) w9 hs1 hs2).mono ?_
                  rintro e w10 ⟨A10, n10, c10, rfl, hW10, hE10⟩
                  rw [Int.toNat_natCast] at hW10
                  go_wp2_with fail
                  refine (HLE.out _ _ _ _ hW10).mono ?_
                  rintro e w11 ⟨A11, n11, c11, rfl, hW11, hE11⟩
                  go_wp2_with fail
                  refine (HSV.out _).mono ?_
                  rintro e w12 ⟨A12, n12, c12, rfl, hW12, hE12⟩
                  go_wp2_with fail
                  refine (HPL.out _ _ _ _ _ _ _ (hW11.ext hE12) hW12).mono ?_
                  rintro e w13 ⟨A13, n13, c13, rfl, hW13, hE13⟩
                  have hU := unit_list w13
                  have hW14 := hW13.alloc (.cells #[.int .u32 1] 104)
                  have hE14 : Ext w13 (w13.alloc (.cells #[.int .u32 1] 104)) := (Ext.refl w13).alloc _
                  have hEE := (hE9.trans ((hE10.trans hE11).trans (hE12.trans hE13))).trans hE14
                  clear hW10 hW11 hW12 hW13 hE10 hE11 hE12 hE13 hE14 hE9 HSV HPL HLE
                  go_wp2_with fail
                  generalize w13.heap.size = g13 at hU ⊢
                  generalize w13.alloc _ = w14 at hU hW14 hEE ⊢
                  refine (HFR.out _ _ _ _ _ _ _ hW14 hU).mono ?_
                  rintro e w15 ⟨A15, n15, c15, A16, n16, c16, rfl, hW15, hW16, hE15⟩
                  go_wp2_with fail
                  refine (HB.out _ _ _ _ _ _ _ ⟨hW15, hW16⟩).mono ?_
                  rintro e w17 ⟨rfl, hE17⟩
                  go_wp2
                  go_ret
                  exact ⟨rfl, hEE.trans (hE15.trans hE17)⟩
theorem rootof_any (d : Int) (neg : Bool) (A : Option Addr) (l c : Nat) (B : Option Addr) (k dd N D n : Nat) (w : World) (h : RatAt w A l c B k dd N D) (hN : N ≠ 0) (hD : D ≠ 0) (bN : bl N ≤ 1300) (bD : bl D ≤ 1300) (n1 : 1 ≤ n) (n2 : n ≤ 1024) :
    Calls Tryz.prog 76 #[.int .i64 d, .agg #[.bool neg, .slice A l c, .slice B k dd], .int .i64 (n : Int)] w fun e w' => e = .returned (.int .u64 (rootV d neg N D n : Nat)) ∧ Ext w w' :=
  rootof_wide d neg A l c B k dd N D n w h hN hD (by omega) (by omega) (by omega) (by omega) n1 n2
end Go.Proofs.YtfbjeifhpmdjaaaGreat
