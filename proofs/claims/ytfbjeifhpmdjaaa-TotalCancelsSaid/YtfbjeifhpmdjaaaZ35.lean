/-
  The walk of TotalCancels. Conditions: those that each theorem names.
-/
import Derived.Test.YtfbjeifhpmdjaaaZ34
import Derived.Test.YtfbjeifhpmdjaaaZ05
namespace Go.Proofs.Ytfbjeifhpmdjaaa
open Go.RowKit Nm Rn
set_option maxRecDepth 100000
set_option linter.unusedVariables false
set_option linter.unusedSimpArgs false

theorem Sm.cs_len (S : Sm) : S.cs.length = 72 := sc_len (sw_len _)
theorem cn_is {r V : Nat} (h : isNaN V = false) (hc : cn r = V) : r = V := by
  unfold cn at hc
  split at hc
  · rw [← hc, NaNc_nan] at h; cases h
  · exact hc
theorem xor_ng4 {b : Nat} (h : b < 18446744073709551616) : bits .xor .u64 (b : Int) 9223372036854775808 = ((ng b : Nat) : Int) := by
  rw [show (9223372036854775808 : Int) = ((9223372036854775808 : Nat) : Int) from rfl, u64_xor_nat _ _ h (by omega), ng_xor h]

set_option maxHeartbeats 16000000 in
theorem cancels_a (A : Option Addr) (n c : Nat) (ts : List Tm) (x : Nat) (w : World) (h : Trs w A n c ts) (hx : x < 18446744073709551616) (hk : 3000 < n) :
    Calls Try.prog 3 #[.slice A n c, .int .u64 (x : Int)] w fun e w' => e = .returned (.bool true) ∧ Ext w w' := by
  have HT := Lib.hid h
  have hn63 := h.small
  have hts := h.2.2.2.1
  have hlen := h.len
  clear h
  have HL := Lib.hid (fun w => lives4_any w)
  have HNU := Lib.hid (fun w => num4_any x w hx)
  have HBT := Lib.hid (fun r w h => bits4_any r w h)
  obtain ⟨N, hNe⟩ : ∃ N, N = numP x := ⟨_, rfl⟩
  have lN : N < 18446744073709551616 := by rw [hNe]; exact numP_lt hx
  have fN : mg N < infR := by rw [hNe]; exact numP_fin x
  rw [← hNe] at HNU
  clear hNe hx
  have HFN := Lib.hid (fun w => fl4_any N w)
  have HPL := Lib.hid (fun w => plain3_any N w lN)
  rw [pl_num fN] at HPL
  have HAO := Lib.hid (fun i => cnA_ok (ts := ts) lN hts i)
  have HBO := Lib.hid (fun i => cnB_ok (ts := ts) (K := 3000) lN hts i)
  have HAS := Lib.hid (cnA_state (ts := ts) (K := 3000) fN (by omega))
  have HBE := Lib.hid (cnB_end (K := 3000) fN hts (by omega))
  have HFF := Lib.hid fN
  have HLN := Lib.hid lN
  have HSM := Lib.hid hn63
  have q1 : decide (3000 < (n : Int)) = true := decide_eq_true (by omega)
  clear hts lN fN
  have hf : True := trivial
  have hO := Own.start w
  go_enter Try.func3, Try.ntmps3
  go_wp2_with (first | (go_at_call 9; (with_reducible refine (HL.out _).mono ?_); rintro e w1 ⟨rfl, hE⟩; have hO := hO.ext hE; clear hE) | (go_at_call 13; (with_reducible refine (HNU.out _).mono ?_); rintro e w2 ⟨rfl, rfl⟩) | (go_at_call 10; (with_reducible refine (tnew_any hO).mono ?_); rintro e w2 ⟨g, rfl, hO2⟩; clear hO; have hO := hO2; clear hO2) | (go_at_call 12; (with_reducible refine (HFN.out _).mono ?_); rintro e w3 ⟨rfl, rfl⟩) | (go_at_call 11; (with_reducible refine (tadd_any _ N nil_t HLN.out hO).mono ?_); rintro e w4 ⟨rfl, hO2⟩; clear hO; have hO : Own w [⟨g, 36, (cnA N ts 0).cs⟩] [] w4 := hO2; clear hO2))
  go_loopw [7] (fun kv wr => ∃ i : Nat, kv = .int .i64 (i : Int) ∧ i ≤ 3000 ∧ Own w [⟨g, 36, (cnA N ts i).cs⟩] [] wr) (fun kv _ => 3000 - (intOf kv).toNat)
  case atStart => exact ⟨0, rfl, Nat.zero_le _, hO⟩
  case round =>
    obtain ⟨i, rfl, hiK, hOr⟩ := hrel
    clear hO
    by_cases hlt : i < 3000
    · have hO := hOr
      clear hOr
      obtain ⟨ad, X, Y, b, rfl, hq, lX, lY, _, _, _⟩ := HT.out.at_ (show i < n by omega)
      obtain ⟨p, hp⟩ : ∃ p, ad.add (i * 3) = p := ⟨_, rfl⟩
      have HCELL : Hid (∀ wz, Ext w wz → wz.cell? p = some (.int .u64 (X : Int)) ∧ wz.cell? ⟨p.block, p.off + 1, none⟩ = some (.int .u64 (Y : Int)) ∧ wz.cell? ⟨p.block, p.off + 2, none⟩ = some (.bool b)) := Lib.hid (fun wz hz => by
        obtain ⟨ad', X', Y', b', e1, e2, _, _, e3⟩ := (HT.out.ext hz).at_ (show i < n by omega)
        rw [hq] at e2
        injection e2 with e2
        injection e2 with e2 e4
        injection e4 with e4 e5
        injection e1 with e1
        subst e1 e2 e4 e5
        rw [← addr_add2, ← addr_add2, hp] at e3
        exact e3)
      have HNX := Lib.hid (fun w => num4_any X w lX)
      have HNY := Lib.hid (fun w => num4_any Y w lY)
      have lPX := numP_lt lX
      have lPY := numP_lt lY
      have bi0 : (0 : Int) ≤ (i : Int) := by omega
      have bi1 : (i : Int) < (n : Int) := by omega
      have HTK : Hid (∀ w1, Own w [⟨g, 36, (cnA N ts i).cs⟩] [] w1 → Calls Try.prog 14 #[.pointer (some ⟨g, 0, none⟩), .agg #[.int .u64 (numP X : Nat), .int .u64 (numP Y : Nat), .bool b]] w1 fun e w' => e = .returned (.tuple #[]) ∧ Own w [⟨g, 36, (cnA N ts (i + 1)).cs⟩] [] w') := Lib.hid (fun w1 h => by
        have h1 := take4_any (g := g) (cnA N ts i) (numP X) (numP Y) b (HAO.out i) lPX lPY h
        have h2 : cnA N ts (i + 1) = (cnA N ts i).take (numP X) (numP Y) b := fold_next (q := (X, Y, b)) hq
        rw [h2]
        exact h1)
      generalize numP X = PX at *
      generalize numP Y = PY at *
      clear hq lX lY lPX lPY
      go_upto_region 11 with fail
      obtain ⟨S, hS⟩ : ∃ S : World → Prop, S = Own w [⟨g, 36, (cnA N ts i).cs⟩] [] := ⟨_, rfl⟩
      have hSE : ∀ w w', S w → Ext w w' → S w' := fun w w' h1 h2 => by rw [hS] at h1 ⊢; exact h1.ext h2
      have hS1 : S wr.drew := by rw [hS]; exact hO.ext (Ext.refl wr).drew
      have HS := Lib.hid hS
      clear hS hO hf
      obtain ⟨sp, hsp⟩ : ∃ sp : Nat → Sp, sp = ofList [det (.pointer (some ⟨g, 0, none⟩)), det (.slice (some ad) n c), det (.int .i64 (i : Int)), det (.pointer (some p)), det (.pointer (some p)), det (.int .u64 (X : Int)), det (.int .u64 (PX : Int)), det (.slice (some ad) n c), det (.int .i64 (i : Int)), det (.pointer (some p)), det (.pointer (some ⟨p.block, p.off + 1, none⟩)), det (.int .u64 (Y : Int)), det (.int .u64 (PY : Int)), det (.slice (some ad) n c), det (.int .i64 (i : Int)), det (.pointer (some p)), det (.pointer (some ⟨p.block, p.off + 2, none⟩)), det (.bool b), det (.agg #[.int .u64 (PX : Int), .int .u64 (PY : Int), .bool b])] := ⟨_, rfl⟩
      have HSP := Lib.hid hsp
      clear hsp
      refine wp_region_loose 19 S sp (by kernel_rfl) (by kernel_rfl) hS1 hSE ?_
      simp only [List.take_succ_cons, List.take_zero, List.drop_succ_cons, List.drop_zero]
      iterate 5
        refine wpX_step (fun K hK => ?_)
        go_simp
        refine StepY.det (by rw [HSP.out]; rfl) ?_ ?_
        · intro wz hz hF
          clear hz hF
          go_simp
          exact ⟨rfl, Ext.refl _⟩
        refine hK _ _ ?_
        clear hK K
      refine wpX_step (fun K hK => ?_)
      go_simp
      refine StepY.det (by rw [HSP.out]; rfl) ?_ ?_
      · intro wz hz hF
        rw [HS.out] at hz
        obtain ⟨c1, c2, c3⟩ := HCELL.out _ hz.toExt
        clear hz hF
        go_simp
        exact ⟨rfl, Ext.refl _⟩
      refine hK _ _ ?_
      clear hK K
      refine wpX_step (fun K hK => ?_)
      go_simp
      refine StepY.det (by rw [HSP.out]; rfl) ?_ ?_
      · intro wz hz hF
        clear hz hF
        go_simp
        refine (HNX.out _).mono ?_
        rintro e w5 ⟨rfl, rfl⟩
        exact ⟨_, rfl, rfl, Ext.refl _⟩
      refine hK _ _ ?_
      clear hK K
      iterate 4
        refine wpX_step (fun K hK => ?_)
        go_simp
        refine StepY.det (by rw [HSP.out]; rfl) ?_ ?_
        · intro wz hz hF
          clear hz hF
          go_simp
          exact ⟨rfl, Ext.refl _⟩
        refine hK _ _ ?_
        clear hK K
      refine wpX_step (fun K hK => ?_)
      go_simp
      refine StepY.det (by rw [HSP.out]; rfl) ?_ ?_
      · intro wz hz hF
        rw [HS.out] at hz
        obtain ⟨c1, c2, c3⟩ := HCELL.out _ hz.toExt
        clear hz hF
        go_simp
        exact ⟨rfl, Ext.refl _⟩
      refine hK _ _ ?_
      clear hK K
      refine wpX_step (fun K hK => ?_)
      go_simp
      refine StepY.det (by rw [HSP.out]; rfl) ?_ ?_
      · intro wz hz hF
        clear hz hF
        go_simp
        refine (HNY.out _).mono ?_
        rintro e w5 ⟨rfl, rfl⟩
        exact ⟨_, rfl, rfl, Ext.refl _⟩
      refine hK _ _ ?_
      clear hK K
      iterate 4
        refine wpX_step (fun K hK => ?_)
        go_simp
        refine StepY.det (by rw [HSP.out]; rfl) ?_ ?_
        · intro wz hz hF
          clear hz hF
          go_simp
          exact ⟨rfl, Ext.refl _⟩
        refine hK _ _ ?_
        clear hK K
      refine wpX_step (fun K hK => ?_)
      go_simp
      refine StepY.det (by rw [HSP.out]; rfl) ?_ ?_
      · intro wz hz hF
        rw [HS.out] at hz
        obtain ⟨c1, c2, c3⟩ := HCELL.out _ hz.toExt
        clear hz hF
        go_simp
        exact ⟨rfl, Ext.refl _⟩
      refine hK _ _ ?_
      clear hK K
      refine wpX_step (fun K hK => ?_)
      go_simp
      refine StepY.det (by rw [HSP.out]; rfl) ?_ ?_
      · intro wz hz hF
        clear hz hF
        go_simp
        exact ⟨rfl, Ext.refl _⟩
      refine hK _ _ ?_
      clear hK K
      refine wpX_nil ?_
      intro wq hz hF
      clear hF
      rw [HS.out] at hz
      have hO := hz
      clear hz HS HSP
      have hf := hO.cells
      simp only [BC, CC, Nat.zero_add, Nat.reduceAdd, and_true] at hf
      go_wp2_with fail
      refine (HTK.out _ hO).mono ?_
      rintro e w9 ⟨rfl, hO2⟩
      clear hO hf
      go_wp2_with fail
      go_roundw
      case rel => exact ⟨i + 1, by go_num, by omega, hO2⟩
      case measure => simp [intOf]; omega
    · have hie : i = 3000 := by omega
      have hO := hOr
      rw [hie] at hO
      clear hOr hie hiK
      obtain ⟨Z, hZ⟩ : ∃ Z, Z = cnA N ts 3000 := ⟨_, rfl⟩
      rw [← hZ] at hO
      have HZ := Lib.hid hZ
      have hZs : Z.state = 0 := by rw [hZ]; exact HAS.out
      have HZO : Hid Z.Ok := Lib.hid (by rw [hZ]; exact HAO.out _)
      clear hZ
      go_wp2_with (first | ((with_reducible refine at_load (T := 36) ?_); refine own_load (T := 36) hO 0 rfl rfl agg_sum size_sum (by rw [Sm.cs_len]; rfl) (vs := (Z).cs) (by rw [List.drop_zero, List.take_of_length_le (by rw [Sm.cs_len]; omega)]) ?_) | ((with_reducible refine at_alloc (T := 36) ?_); refine own_alloc hO zero_sum rfl sc_noU ?_; clear hO; intro gt wa hO) | ((with_reducible refine at_store (T := 36) ?_); refine own_store (vs := (Z).cs) (T := 36) hO 0 rfl rfl rfl (fun w => by rw [Sm.cs_len]; exact size_sum w) (sc_one _ _ _ _ _) sc_noU (by rw [Sm.cs_len]; rfl) ?_; clear hO; intro wb hO; simp only [List.set_cons_zero, spl_zsum (Sm.cs_len _)] at hO) | (go_at_call 15; (with_reducible refine (tneg_any Z hO).mono ?_); rintro e w1 ⟨rfl, hO1⟩; clear hO; have hO := hO1; clear hO1))
      have HZS := Lib.hid hZs
      clear hZs
      go_loopw [9] (fun kv wr => ∃ d : Int, kv = .int .i64 d ∧ -1 ≤ d ∧ d ≤ 2 ∧ Own w [⟨gt, 36, Z.neg.cs⟩, ⟨g, 36, Z.cs⟩] [] wr) (fun kv _ => (2 - intOf kv).toNat)
      case atStart => exact ⟨-1, rfl, by omega, by omega, hO⟩
      case round =>
        obtain ⟨d, rfl, hd1, hd2, hOr⟩ := hrel
        clear hO
        by_cases hd : d ≤ 1
        · have hO := hOr.swap
          clear hOr
          have q0 : decide (d ≤ 1) = true := decide_eq_true hd
          have hdd : d = -1 ∨ d = 0 ∨ d = 1 := by omega
          have hr1 := round_fin HZS.out d
          have hr2 := round_fin (neg_state HZS.out) (-d)
          have HR1 := Lib.hid (fun w1 h => tround_any (w0 := w) (w := w1) (L := [⟨gt, 36, Z.neg.cs⟩]) (W := []) (g := g) Z d (fun hs => HZO.out.fit hs) h)
          have HR2 := Lib.hid (fun w1 h => tround_any (w0 := w) (w := w1) (L := [⟨g, 36, Z.cs⟩]) (W := []) (g := gt) Z.neg (-d) (fun hs => HZO.out.neg.fit hs) h)
          rw [hr1] at HR1
          rw [hr2] at HR2
          have HK1 := Lib.hid (rT_kind d Z.T)
          have HK2 := Lib.hid (rT_kind (-d) Z.neg.T)
          have hmir : eqB (rT d Z.T) (ng (rT (-d) Z.neg.T)) = true := mir_eq d Z.T hdd
          have hq := fo_ne HK1.out.2.2.1 (ng_lt HK2.out.2.2.1)
          rw [hmir] at hq
          have hng := fun w => run_ng HK2.out.2.2.1 w
          have HG1 := Lib.hid (fun w1 h => tsign_any (w0 := w) (w := w1) (L := [⟨gt, 36, Z.neg.cs⟩]) (W := []) (g := g) Z (fun hs => HZO.out.fit hs) h)
          have HG2 := Lib.hid (fun w1 h => tsign_any (w0 := w) (w := w1) (L := [⟨g, 36, Z.cs⟩]) (W := []) (g := gt) Z.neg (fun hs => HZO.out.neg.fit hs) h)
          rw [sign_mir HZS.out] at HG1
          have hsb : -1 ≤ Z.neg.sign ∧ Z.neg.sign ≤ 1 := by
            rw [sign_fin (neg_state HZS.out)]
            split
            · omega
            · split <;> omega
          generalize rT d Z.T = V1 at *
          generalize rT (-d) Z.neg.T = V2 at *
          generalize Z.neg.sign = s2 at *
          have hw1 : IntKind.i64.wrap (-d) = -d := by rw [IntKind.wrap_i64]; omega
          have hw2 : IntKind.i64.wrap (-s2) = -s2 := by rw [IntKind.wrap_i64]; omega
          have hw3 : IntKind.i64.wrap (d + 1) = d + 1 := by rw [IntKind.wrap_i64]; omega
          have e1 : ((V1 : Int) == 9223372036854775808) = false := by rw [beq_eq_false_iff_ne]; have := HK1.out.2.1; omega
          have e2 : ((V2 : Int) == 9223372036854775808) = false := by rw [beq_eq_false_iff_ne]; have := HK2.out.2.1; omega
          clear hmir hr1 hr2 hdd hsb
          go_wp2_with fail
          refine (HR1.out _ hO).mono ?_
          rintro e w2 ⟨r, rfl, _, hc, hE⟩
          have hrr := cn_is HK1.out.1 hc
          subst hrr
          clear hc
          have hO := (hO.ext hE).swap
          clear hE
          go_wp2_with fail
          refine (HR2.out _ hO).mono ?_
          rintro e w3 ⟨r2, rfl, _, hc, hE⟩
          have hrr := cn_is HK2.out.1 hc
          subst hrr
          clear hc
          have hO := hO.ext hE
          clear hE
          go_wp2_with fail
          refine (HBT.out r _ HK1.out.2.2.1).mono ?_
          rintro e w4 ⟨rfl, rfl⟩
          rw [HK1.out.2.2.2]
          go_wp2_with fail
          refine (HBT.out r2 _ HK2.out.2.2.1).mono ?_
          rintro e w4 ⟨rfl, rfl⟩
          rw [HK2.out.2.2.2]
          go_wp2_with fail
          refine (HG1.out _ hO.swap).mono ?_
          rintro e w4 ⟨rfl, rfl⟩
          go_wp2_with fail
          refine (HG2.out _ hO).mono ?_
          rintro e w4 ⟨rfl, rfl⟩
          go_wp2_with fail
          go_roundw
          case rel => exact ⟨d + 1, rfl, by omega, by omega, hO⟩
          case measure => simp [intOf]; omega
        · have q0 : decide (d ≤ 1) = false := decide_eq_false hd
          have hO : Own w [⟨g, 36, (cnB N ts 3000 0).cs⟩, ⟨gt, 36, Z.neg.cs⟩] [] wr := by
            have h1 := hOr.swap
            rw [HZ.out] at h1 ⊢
            exact h1
          clear hOr
          go_wp2_with fail
          go_loopw [12] (fun kv wr => ∃ i : Nat, kv = .int .i64 (i : Int) ∧ i ≤ 3000 ∧ Own w [⟨g, 36, (cnB N ts 3000 i).cs⟩, ⟨gt, 36, Z.neg.cs⟩] [] wr) (fun kv _ => 3000 - (intOf kv).toNat)
          case atStart => exact ⟨0, rfl, Nat.zero_le _, hO⟩
          case round =>
            obtain ⟨i, rfl, hiK, hOr⟩ := hrel
            clear hO
            by_cases hlt : i < 3000
            · have hO := hOr
              clear hOr
              obtain ⟨ad, X, Y, b, rfl, hq, lX, lY, _, _, _⟩ := HT.out.at_ (show i < n by omega)
              obtain ⟨p, hp⟩ : ∃ p, ad.add (i * 3) = p := ⟨_, rfl⟩
              have HCELL : Hid (∀ wz, Ext w wz → wz.cell? p = some (.int .u64 (X : Int)) ∧ wz.cell? ⟨p.block, p.off + 1, none⟩ = some (.int .u64 (Y : Int)) ∧ wz.cell? ⟨p.block, p.off + 2, none⟩ = some (.bool b)) := Lib.hid (fun wz hz => by
                obtain ⟨ad', X', Y', b', e1, e2, _, _, e3⟩ := (HT.out.ext hz).at_ (show i < n by omega)
                rw [hq] at e2
                injection e2 with e2
                injection e2 with e2 e4
                injection e4 with e4 e5
                injection e1 with e1
                subst e1 e2 e4 e5
                rw [← addr_add2, ← addr_add2, hp] at e3
                exact e3)
              have HNX := Lib.hid (fun w => num4_any X w lX)
              have HNY := Lib.hid (fun w => num4_any Y w lY)
              have lPX := numP_lt lX
              have lPY := numP_lt lY
              have bi0 : (0 : Int) ≤ (i : Int) := by omega
              have bi1 : (i : Int) < (n : Int) := by omega
              have HTK : Hid (∀ w1, Own w [⟨g, 36, (cnB N ts 3000 i).cs⟩, ⟨gt, 36, Z.neg.cs⟩] [] w1 → Calls Try.prog 14 #[.pointer (some ⟨g, 0, none⟩), .agg #[.int .u64 (ng (numP X) : Nat), .int .u64 (numP Y : Nat), .bool b]] w1 fun e w' => e = .returned (.tuple #[]) ∧ Own w [⟨g, 36, (cnB N ts 3000 (i + 1)).cs⟩, ⟨gt, 36, Z.neg.cs⟩] [] w') := Lib.hid (fun w1 h => by
                have h1 := take4_any (g := g) (cnB N ts 3000 i) (ng (numP X)) (numP Y) b (HBO.out i) (ng_lt lPX) lPY h
                have h2 : cnB N ts 3000 (i + 1) = (cnB N ts 3000 i).take (ng (numP X)) (numP Y) b := fold_next (q := (X, Y, b)) hq
                rw [h2]
                exact h1)
              have hxor := xor_ng4 lPX
              generalize numP X = PX at *
              generalize numP Y = PY at *
              clear hq lX lY lPX lPY
              go_upto_region 24 with fail
              obtain ⟨S, hS⟩ : ∃ S : World → Prop, S = Own w [⟨g, 36, (cnB N ts 3000 i).cs⟩, ⟨gt, 36, Z.neg.cs⟩] [] := ⟨_, rfl⟩
              have hSE : ∀ w w', S w → Ext w w' → S w' := fun w w' h1 h2 => by rw [hS] at h1 ⊢; exact h1.ext h2
              have hS1 : S wr.drew := by rw [hS]; exact hO.ext (Ext.refl wr).drew
              have HS := Lib.hid hS
              clear hS hO hf
              obtain ⟨sp, hsp⟩ : ∃ sp : Nat → Sp, sp = ofList [det (.pointer (some ⟨g, 0, none⟩)), det (.slice (some ad) n c), det (.int .i64 (i : Int)), det (.pointer (some p)), det (.pointer (some p)), det (.int .u64 (X : Int)), det (.int .u64 (PX : Int)), det (.int .u64 (ng PX : Nat)), det (.slice (some ad) n c), det (.int .i64 (i : Int)), det (.pointer (some p)), det (.pointer (some ⟨p.block, p.off + 1, none⟩)), det (.int .u64 (Y : Int)), det (.int .u64 (PY : Int)), det (.slice (some ad) n c), det (.int .i64 (i : Int)), det (.pointer (some p)), det (.pointer (some ⟨p.block, p.off + 2, none⟩)), det (.bool b), det (.agg #[.int .u64 (ng PX : Nat), .int .u64 (PY : Int), .bool b])] := ⟨_, rfl⟩
              have HSP := Lib.hid hsp
              clear hsp
              refine wp_region_loose 20 S sp (by kernel_rfl) (by kernel_rfl) hS1 hSE ?_
              simp only [List.take_succ_cons, List.take_zero, List.drop_succ_cons, List.drop_zero]
              iterate 5
                refine wpX_step (fun K hK => ?_)
                go_simp
                refine StepY.det (by rw [HSP.out]; rfl) ?_ ?_
                · intro wz hz hF
                  clear hz hF
                  go_simp
                  exact ⟨rfl, Ext.refl _⟩
                refine hK _ _ ?_
                clear hK K
              refine wpX_step (fun K hK => ?_)
              go_simp
              refine StepY.det (by rw [HSP.out]; rfl) ?_ ?_
              · intro wz hz hF
                rw [HS.out] at hz
                obtain ⟨c1, c2, c3⟩ := HCELL.out _ hz.toExt
                clear hz hF
                go_simp
                exact ⟨rfl, Ext.refl _⟩
              refine hK _ _ ?_
              clear hK K
              refine wpX_step (fun K hK => ?_)
              go_simp
              refine StepY.det (by rw [HSP.out]; rfl) ?_ ?_
              · intro wz hz hF
                clear hz hF
                go_simp
                refine (HNX.out _).mono ?_
                rintro e w5 ⟨rfl, rfl⟩
                exact ⟨_, rfl, rfl, Ext.refl _⟩
              refine hK _ _ ?_
              clear hK K
              iterate 5
                refine wpX_step (fun K hK => ?_)
                go_simp
                refine StepY.det (by rw [HSP.out]; rfl) ?_ ?_
                · intro wz hz hF
                  clear hz hF
                  go_simp
                  exact ⟨rfl, Ext.refl _⟩
                refine hK _ _ ?_
                clear hK K
              refine wpX_step (fun K hK => ?_)
              go_simp
              refine StepY.det (by rw [HSP.out]; rfl) ?_ ?_
              · intro wz hz hF
                rw [HS.out] at hz
                obtain ⟨c1, c2, c3⟩ := HCELL.out _ hz.toExt
                clear hz hF
                go_simp
                exact ⟨rfl, Ext.refl _⟩
              refine hK _ _ ?_
              clear hK K
              refine wpX_step (fun K hK => ?_)
              go_simp
              refine StepY.det (by rw [HSP.out]; rfl) ?_ ?_
              · intro wz hz hF
                clear hz hF
                go_simp
                refine (HNY.out _).mono ?_
                rintro e w5 ⟨rfl, rfl⟩
                exact ⟨_, rfl, rfl, Ext.refl _⟩
              refine hK _ _ ?_
              clear hK K
              iterate 4
                refine wpX_step (fun K hK => ?_)
                go_simp
                refine StepY.det (by rw [HSP.out]; rfl) ?_ ?_
                · intro wz hz hF
                  clear hz hF
                  go_simp
                  exact ⟨rfl, Ext.refl _⟩
                refine hK _ _ ?_
                clear hK K
              refine wpX_step (fun K hK => ?_)
              go_simp
              refine StepY.det (by rw [HSP.out]; rfl) ?_ ?_
              · intro wz hz hF
                rw [HS.out] at hz
                obtain ⟨c1, c2, c3⟩ := HCELL.out _ hz.toExt
                clear hz hF
                go_simp
                exact ⟨rfl, Ext.refl _⟩
              refine hK _ _ ?_
              clear hK K
              refine wpX_step (fun K hK => ?_)
              go_simp
              refine StepY.det (by rw [HSP.out]; rfl) ?_ ?_
              · intro wz hz hF
                clear hz hF
                go_simp
                exact ⟨rfl, Ext.refl _⟩
              refine hK _ _ ?_
              clear hK K
              refine wpX_nil ?_
              intro wq hz hF
              clear hF
              rw [HS.out] at hz
              have hO := hz
              clear hz HS HSP
              have hf := hO.cells
              simp only [BC, CC, Nat.zero_add, Nat.reduceAdd, and_true] at hf
              go_wp2_with fail
              refine (HTK.out _ hO).mono ?_
              rintro e w9 ⟨rfl, hO2⟩
              clear hO hf
              go_wp2_with fail
              go_roundw
              case rel => exact ⟨i + 1, by go_num, by omega, hO2⟩
              case measure => simp [intOf]; omega
            · have hie : i = 3000 := by omega
              have hO := hOr
              rw [hie] at hO
              clear hOr hie hiK
              obtain ⟨Q, hQ⟩ : ∃ Q, Q = cnB N ts 3000 3000 := ⟨_, rfl⟩
              have hQO : Q.Ok := by rw [hQ]; exact HBO.out _
              have hQE := HBE.out
              rw [← hQ] at hO hQE
              obtain ⟨hQT, hQs⟩ := hQE
              have HR1 := Lib.hid (fun w1 h => tround_any (w0 := w) (w := w1) (L := [⟨gt, 36, Z.neg.cs⟩]) (W := []) (g := g) Q (-1) (fun hs => hQO.fit hs) h)
              have HR2 := Lib.hid (fun w1 h => tround_any (w0 := w) (w := w1) (L := [⟨gt, 36, Z.neg.cs⟩]) (W := []) (g := g) Q 1 (fun hs => hQO.fit hs) h)
              have HG := Lib.hid (fun w1 h => tsign_any (w0 := w) (w := w1) (L := [⟨gt, 36, Z.neg.cs⟩]) (W := []) (g := g) Q (fun hs => hQO.fit hs) h)
              have HST := Lib.hid (fun w1 h => tstate_S (w0 := w) (w := w1) (L := [⟨gt, 36, Z.neg.cs⟩]) (W := []) (g := g) Q h)
              rw [round_fin hQs, hQT, rT_num _ HLN.out HFF.out] at HR1 HR2
              rw [sign_fin hQs, hQT] at HG
              rw [hQs] at HST
              have hzz := num_zero HLN.out HFF.out
              obtain ⟨sg1, hsg1⟩ : ∃ s, s = (if sv N * (K74 : Int) < 0 then (-1 : Int) else if sv N * (K74 : Int) = 0 then 0 else 1) := ⟨_, rfl⟩
              rw [← hsg1] at HG
              have hfin : ((sg1 == 0) == ((pl N : Int) == 0)) = true := by
                rw [beq_iff_eq, Bool.eq_iff_iff, beq_iff_eq, beq_iff_eq, hsg1]
                constructor
                · intro h0
                  have : sv N * (K74 : Int) = 0 := by
                    revert h0
                    split
                    · intro h0; omega
                    · split
                      · rename_i h1; intro _; exact h1
                      · intro h0; omega
                  have := hzz.1 this
                  omega
                · intro h0
                  have := hzz.2 (by omega)
                  rw [if_neg (by omega), if_pos this]
              generalize pl N = PN at *
              clear hQ hQO hQT hQs hzz hsg1
              go_wp2_with (first | (go_at_call 13; (with_reducible refine (HNU.out _).mono ?_); rintro e w2 ⟨rfl, rfl⟩) | (go_at_call 19; (with_reducible refine (HPL.out _).mono ?_); rintro e w2 ⟨rfl, rfl⟩))
              refine (HR1.out _ hO).mono ?_
              rintro e w2 ⟨r, rfl, hr, hc, hE⟩
              have hO := hO.ext hE
              clear hE
              go_wp2_with fail
              refine (HBT.out r _ hr).mono ?_
              rintro e w4 ⟨rfl, rfl⟩
              rw [hc]
              clear hr hc
              go_wp2_with fail
              refine (HR2.out _ hO).mono ?_
              rintro e w2 ⟨r, rfl, hr, hc, hE⟩
              have hO := hO.ext hE
              clear hE
              go_wp2_with fail
              refine (HBT.out r _ hr).mono ?_
              rintro e w4 ⟨rfl, rfl⟩
              rw [hc]
              clear hr hc
              go_wp2_with fail
              refine (HST.out _ hO).mono ?_
              rintro e w4 ⟨rfl, rfl⟩
              go_wp2_with fail
              refine (HG.out _ hO).mono ?_
              rintro e w4 ⟨rfl, rfl⟩
              go_wp2_with fail
              refine (HL.out _).mono ?_
              rintro e w5 ⟨rfl, hE⟩
              have hO := hO.ext hE
              clear hE
              go_wp2_with fail
              go_ret
              exact ⟨rfl, hO.toExt⟩

set_option maxHeartbeats 16000000 in
theorem cancels_b (A : Option Addr) (n c : Nat) (ts : List Tm) (x : Nat) (w : World) (h : Trs w A n c ts) (hx : x < 18446744073709551616) (hk : n ≤ 3000) :
    Calls Try.prog 3 #[.slice A n c, .int .u64 (x : Int)] w fun e w' => e = .returned (.bool true) ∧ Ext w w' := by
  have HT := Lib.hid h
  have hn63 := h.small
  have hts := h.2.2.2.1
  have hlen := h.len
  clear h
  have HL := Lib.hid (fun w => lives4_any w)
  have HNU := Lib.hid (fun w => num4_any x w hx)
  have HBT := Lib.hid (fun r w h => bits4_any r w h)
  obtain ⟨N, hNe⟩ : ∃ N, N = numP x := ⟨_, rfl⟩
  have lN : N < 18446744073709551616 := by rw [hNe]; exact numP_lt hx
  have fN : mg N < infR := by rw [hNe]; exact numP_fin x
  rw [← hNe] at HNU
  clear hNe hx
  have HFN := Lib.hid (fun w => fl4_any N w)
  have HPL := Lib.hid (fun w => plain3_any N w lN)
  rw [pl_num fN] at HPL
  have HAO := Lib.hid (fun i => cnA_ok (ts := ts) lN hts i)
  have HBO := Lib.hid (fun i => cnB_ok (ts := ts) (K := n) lN hts i)
  have HAS := Lib.hid (cnA_state (ts := ts) (K := n) fN (by omega))
  have HBE := Lib.hid (cnB_end (K := n) fN hts (by omega))
  have HFF := Lib.hid fN
  have HLN := Lib.hid lN
  have HSM := Lib.hid hn63
  have q1 : decide (3000 < (n : Int)) = false := decide_eq_false (by omega)
  clear hts lN fN
  have hf : True := trivial
  have hO := Own.start w
  go_enter Try.func3, Try.ntmps3
  go_wp2_with (first | (go_at_call 9; (with_reducible refine (HL.out _).mono ?_); rintro e w1 ⟨rfl, hE⟩; have hO := hO.ext hE; clear hE) | (go_at_call 13; (with_reducible refine (HNU.out _).mono ?_); rintro e w2 ⟨rfl, rfl⟩) | (go_at_call 10; (with_reducible refine (tnew_any hO).mono ?_); rintro e w2 ⟨g, rfl, hO2⟩; clear hO; have hO := hO2; clear hO2) | (go_at_call 12; (with_reducible refine (HFN.out _).mono ?_); rintro e w3 ⟨rfl, rfl⟩) | (go_at_call 11; (with_reducible refine (tadd_any _ N nil_t HLN.out hO).mono ?_); rintro e w4 ⟨rfl, hO2⟩; clear hO; have hO : Own w [⟨g, 36, (cnA N ts 0).cs⟩] [] w4 := hO2; clear hO2))
  go_loopw [7] (fun kv wr => ∃ i : Nat, kv = .int .i64 (i : Int) ∧ i ≤ n ∧ Own w [⟨g, 36, (cnA N ts i).cs⟩] [] wr) (fun kv _ => n - (intOf kv).toNat)
  case atStart => exact ⟨0, rfl, Nat.zero_le _, hO⟩
  case round =>
    obtain ⟨i, rfl, hiK, hOr⟩ := hrel
    clear hO
    by_cases hlt : i < n
    · have hO := hOr
      clear hOr
      obtain ⟨ad, X, Y, b, rfl, hq, lX, lY, _, _, _⟩ := HT.out.at_ (show i < n by omega)
      obtain ⟨p, hp⟩ : ∃ p, ad.add (i * 3) = p := ⟨_, rfl⟩
      have HCELL : Hid (∀ wz, Ext w wz → wz.cell? p = some (.int .u64 (X : Int)) ∧ wz.cell? ⟨p.block, p.off + 1, none⟩ = some (.int .u64 (Y : Int)) ∧ wz.cell? ⟨p.block, p.off + 2, none⟩ = some (.bool b)) := Lib.hid (fun wz hz => by
        obtain ⟨ad', X', Y', b', e1, e2, _, _, e3⟩ := (HT.out.ext hz).at_ (show i < n by omega)
        rw [hq] at e2
        injection e2 with e2
        injection e2 with e2 e4
        injection e4 with e4 e5
        injection e1 with e1
        subst e1 e2 e4 e5
        rw [← addr_add2, ← addr_add2, hp] at e3
        exact e3)
      have HNX := Lib.hid (fun w => num4_any X w lX)
      have HNY := Lib.hid (fun w => num4_any Y w lY)
      have lPX := numP_lt lX
      have lPY := numP_lt lY
      have bi0 : (0 : Int) ≤ (i : Int) := by omega
      have bi1 : (i : Int) < (n : Int) := by omega
      have HTK : Hid (∀ w1, Own w [⟨g, 36, (cnA N ts i).cs⟩] [] w1 → Calls Try.prog 14 #[.pointer (some ⟨g, 0, none⟩), .agg #[.int .u64 (numP X : Nat), .int .u64 (numP Y : Nat), .bool b]] w1 fun e w' => e = .returned (.tuple #[]) ∧ Own w [⟨g, 36, (cnA N ts (i + 1)).cs⟩] [] w') := Lib.hid (fun w1 h => by
        have h1 := take4_any (g := g) (cnA N ts i) (numP X) (numP Y) b (HAO.out i) lPX lPY h
        have h2 : cnA N ts (i + 1) = (cnA N ts i).take (numP X) (numP Y) b := fold_next (q := (X, Y, b)) hq
        rw [h2]
        exact h1)
      generalize numP X = PX at *
      generalize numP Y = PY at *
      clear hq lX lY lPX lPY
      go_upto_region 11 with fail
      obtain ⟨S, hS⟩ : ∃ S : World → Prop, S = Own w [⟨g, 36, (cnA N ts i).cs⟩] [] := ⟨_, rfl⟩
      have hSE : ∀ w w', S w → Ext w w' → S w' := fun w w' h1 h2 => by rw [hS] at h1 ⊢; exact h1.ext h2
      have hS1 : S wr.drew := by rw [hS]; exact hO.ext (Ext.refl wr).drew
      have HS := Lib.hid hS
      clear hS hO hf
      obtain ⟨sp, hsp⟩ : ∃ sp : Nat → Sp, sp = ofList [det (.pointer (some ⟨g, 0, none⟩)), det (.slice (some ad) n c), det (.int .i64 (i : Int)), det (.pointer (some p)), det (.pointer (some p)), det (.int .u64 (X : Int)), det (.int .u64 (PX : Int)), det (.slice (some ad) n c), det (.int .i64 (i : Int)), det (.pointer (some p)), det (.pointer (some ⟨p.block, p.off + 1, none⟩)), det (.int .u64 (Y : Int)), det (.int .u64 (PY : Int)), det (.slice (some ad) n c), det (.int .i64 (i : Int)), det (.pointer (some p)), det (.pointer (some ⟨p.block, p.off + 2, none⟩)), det (.bool b), det (.agg #[.int .u64 (PX : Int), .int .u64 (PY : Int), .bool b])] := ⟨_, rfl⟩
      have HSP := Lib.hid hsp
      clear hsp
      refine wp_region_loose 19 S sp (by kernel_rfl) (by kernel_rfl) hS1 hSE ?_
      simp only [List.take_succ_cons, List.take_zero, List.drop_succ_cons, List.drop_zero]
      iterate 5
        refine wpX_step (fun K hK => ?_)
        go_simp
        refine StepY.det (by rw [HSP.out]; rfl) ?_ ?_
        · intro wz hz hF
          clear hz hF
          go_simp
          exact ⟨rfl, Ext.refl _⟩
        refine hK _ _ ?_
        clear hK K
      refine wpX_step (fun K hK => ?_)
      go_simp
      refine StepY.det (by rw [HSP.out]; rfl) ?_ ?_
      · intro wz hz hF
        rw [HS.out] at hz
        obtain ⟨c1, c2, c3⟩ := HCELL.out _ hz.toExt
        clear hz hF
        go_simp
        exact ⟨rfl, Ext.refl _⟩
      refine hK _ _ ?_
      clear hK K
      refine wpX_step (fun K hK => ?_)
      go_simp
      refine StepY.det (by rw [HSP.out]; rfl) ?_ ?_
      · intro wz hz hF
        clear hz hF
        go_simp
        refine (HNX.out _).mono ?_
        rintro e w5 ⟨rfl, rfl⟩
        exact ⟨_, rfl, rfl, Ext.refl _⟩
      refine hK _ _ ?_
      clear hK K
      iterate 4
        refine wpX_step (fun K hK => ?_)
        go_simp
        refine StepY.det (by rw [HSP.out]; rfl) ?_ ?_
        · intro wz hz hF
          clear hz hF
          go_simp
          exact ⟨rfl, Ext.refl _⟩
        refine hK _ _ ?_
        clear hK K
      refine wpX_step (fun K hK => ?_)
      go_simp
      refine StepY.det (by rw [HSP.out]; rfl) ?_ ?_
      · intro wz hz hF
        rw [HS.out] at hz
        obtain ⟨c1, c2, c3⟩ := HCELL.out _ hz.toExt
        clear hz hF
        go_simp
        exact ⟨rfl, Ext.refl _⟩
      refine hK _ _ ?_
      clear hK K
      refine wpX_step (fun K hK => ?_)
      go_simp
      refine StepY.det (by rw [HSP.out]; rfl) ?_ ?_
      · intro wz hz hF
        clear hz hF
        go_simp
        refine (HNY.out _).mono ?_
        rintro e w5 ⟨rfl, rfl⟩
        exact ⟨_, rfl, rfl, Ext.refl _⟩
      refine hK _ _ ?_
      clear hK K
      iterate 4
        refine wpX_step (fun K hK => ?_)
        go_simp
        refine StepY.det (by rw [HSP.out]; rfl) ?_ ?_
        · intro wz hz hF
          clear hz hF
          go_simp
          exact ⟨rfl, Ext.refl _⟩
        refine hK _ _ ?_
        clear hK K
      refine wpX_step (fun K hK => ?_)
      go_simp
      refine StepY.det (by rw [HSP.out]; rfl) ?_ ?_
      · intro wz hz hF
        rw [HS.out] at hz
        obtain ⟨c1, c2, c3⟩ := HCELL.out _ hz.toExt
        clear hz hF
        go_simp
        exact ⟨rfl, Ext.refl _⟩
      refine hK _ _ ?_
      clear hK K
      refine wpX_step (fun K hK => ?_)
      go_simp
      refine StepY.det (by rw [HSP.out]; rfl) ?_ ?_
      · intro wz hz hF
        clear hz hF
        go_simp
        exact ⟨rfl, Ext.refl _⟩
      refine hK _ _ ?_
      clear hK K
      refine wpX_nil ?_
      intro wq hz hF
      clear hF
      rw [HS.out] at hz
      have hO := hz
      clear hz HS HSP
      have hf := hO.cells
      simp only [BC, CC, Nat.zero_add, Nat.reduceAdd, and_true] at hf
      go_wp2_with fail
      refine (HTK.out _ hO).mono ?_
      rintro e w9 ⟨rfl, hO2⟩
      clear hO hf
      go_wp2_with fail
      go_roundw
      case rel => exact ⟨i + 1, by go_num, by omega, hO2⟩
      case measure => simp [intOf]; omega
    · have hie : i = n := by omega
      have hO := hOr
      rw [hie] at hO
      clear hOr hie hiK
      obtain ⟨Z, hZ⟩ : ∃ Z, Z = cnA N ts n := ⟨_, rfl⟩
      rw [← hZ] at hO
      have HZ := Lib.hid hZ
      have hZs : Z.state = 0 := by rw [hZ]; exact HAS.out
      have HZO : Hid Z.Ok := Lib.hid (by rw [hZ]; exact HAO.out _)
      clear hZ
      go_wp2_with (first | ((with_reducible refine at_load (T := 36) ?_); refine own_load (T := 36) hO 0 rfl rfl agg_sum size_sum (by rw [Sm.cs_len]; rfl) (vs := (Z).cs) (by rw [List.drop_zero, List.take_of_length_le (by rw [Sm.cs_len]; omega)]) ?_) | ((with_reducible refine at_alloc (T := 36) ?_); refine own_alloc hO zero_sum rfl sc_noU ?_; clear hO; intro gt wa hO) | ((with_reducible refine at_store (T := 36) ?_); refine own_store (vs := (Z).cs) (T := 36) hO 0 rfl rfl rfl (fun w => by rw [Sm.cs_len]; exact size_sum w) (sc_one _ _ _ _ _) sc_noU (by rw [Sm.cs_len]; rfl) ?_; clear hO; intro wb hO; simp only [List.set_cons_zero, spl_zsum (Sm.cs_len _)] at hO) | (go_at_call 15; (with_reducible refine (tneg_any Z hO).mono ?_); rintro e w1 ⟨rfl, hO1⟩; clear hO; have hO := hO1; clear hO1))
      have HZS := Lib.hid hZs
      clear hZs
      go_loopw [9] (fun kv wr => ∃ d : Int, kv = .int .i64 d ∧ -1 ≤ d ∧ d ≤ 2 ∧ Own w [⟨gt, 36, Z.neg.cs⟩, ⟨g, 36, Z.cs⟩] [] wr) (fun kv _ => (2 - intOf kv).toNat)
      case atStart => exact ⟨-1, rfl, by omega, by omega, hO⟩
      case round =>
        obtain ⟨d, rfl, hd1, hd2, hOr⟩ := hrel
        clear hO
        by_cases hd : d ≤ 1
        · have hO := hOr.swap
          clear hOr
          have q0 : decide (d ≤ 1) = true := decide_eq_true hd
          have hdd : d = -1 ∨ d = 0 ∨ d = 1 := by omega
          have hr1 := round_fin HZS.out d
          have hr2 := round_fin (neg_state HZS.out) (-d)
          have HR1 := Lib.hid (fun w1 h => tround_any (w0 := w) (w := w1) (L := [⟨gt, 36, Z.neg.cs⟩]) (W := []) (g := g) Z d (fun hs => HZO.out.fit hs) h)
          have HR2 := Lib.hid (fun w1 h => tround_any (w0 := w) (w := w1) (L := [⟨g, 36, Z.cs⟩]) (W := []) (g := gt) Z.neg (-d) (fun hs => HZO.out.neg.fit hs) h)
          rw [hr1] at HR1
          rw [hr2] at HR2
          have HK1 := Lib.hid (rT_kind d Z.T)
          have HK2 := Lib.hid (rT_kind (-d) Z.neg.T)
          have hmir : eqB (rT d Z.T) (ng (rT (-d) Z.neg.T)) = true := mir_eq d Z.T hdd
          have hq := fo_ne HK1.out.2.2.1 (ng_lt HK2.out.2.2.1)
          rw [hmir] at hq
          have hng := fun w => run_ng HK2.out.2.2.1 w
          have HG1 := Lib.hid (fun w1 h => tsign_any (w0 := w) (w := w1) (L := [⟨gt, 36, Z.neg.cs⟩]) (W := []) (g := g) Z (fun hs => HZO.out.fit hs) h)
          have HG2 := Lib.hid (fun w1 h => tsign_any (w0 := w) (w := w1) (L := [⟨g, 36, Z.cs⟩]) (W := []) (g := gt) Z.neg (fun hs => HZO.out.neg.fit hs) h)
          rw [sign_mir HZS.out] at HG1
          have hsb : -1 ≤ Z.neg.sign ∧ Z.neg.sign ≤ 1 := by
            rw [sign_fin (neg_state HZS.out)]
            split
            · omega
            · split <;> omega
          generalize rT d Z.T = V1 at *
          generalize rT (-d) Z.neg.T = V2 at *
          generalize Z.neg.sign = s2 at *
          have hw1 : IntKind.i64.wrap (-d) = -d := by rw [IntKind.wrap_i64]; omega
          have hw2 : IntKind.i64.wrap (-s2) = -s2 := by rw [IntKind.wrap_i64]; omega
          have hw3 : IntKind.i64.wrap (d + 1) = d + 1 := by rw [IntKind.wrap_i64]; omega
          have e1 : ((V1 : Int) == 9223372036854775808) = false := by rw [beq_eq_false_iff_ne]; have := HK1.out.2.1; omega
          have e2 : ((V2 : Int) == 9223372036854775808) = false := by rw [beq_eq_false_iff_ne]; have := HK2.out.2.1; omega
          clear hmir hr1 hr2 hdd hsb
          go_wp2_with fail
          refine (HR1.out _ hO).mono ?_
          rintro e w2 ⟨r, rfl, _, hc, hE⟩
          have hrr := cn_is HK1.out.1 hc
          subst hrr
          clear hc
          have hO := (hO.ext hE).swap
          clear hE
          go_wp2_with fail
          refine (HR2.out _ hO).mono ?_
          rintro e w3 ⟨r2, rfl, _, hc, hE⟩
          have hrr := cn_is HK2.out.1 hc
          subst hrr
          clear hc
          have hO := hO.ext hE
          clear hE
          go_wp2_with fail
          refine (HBT.out r _ HK1.out.2.2.1).mono ?_
          rintro e w4 ⟨rfl, rfl⟩
          rw [HK1.out.2.2.2]
          go_wp2_with fail
          refine (HBT.out r2 _ HK2.out.2.2.1).mono ?_
          rintro e w4 ⟨rfl, rfl⟩
          rw [HK2.out.2.2.2]
          go_wp2_with fail
          refine (HG1.out _ hO.swap).mono ?_
          rintro e w4 ⟨rfl, rfl⟩
          go_wp2_with fail
          refine (HG2.out _ hO).mono ?_
          rintro e w4 ⟨rfl, rfl⟩
          go_wp2_with fail
          go_roundw
          case rel => exact ⟨d + 1, rfl, by omega, by omega, hO⟩
          case measure => simp [intOf]; omega
        · have q0 : decide (d ≤ 1) = false := decide_eq_false hd
          have hO : Own w [⟨g, 36, (cnB N ts n 0).cs⟩, ⟨gt, 36, Z.neg.cs⟩] [] wr := by
            have h1 := hOr.swap
            rw [HZ.out] at h1 ⊢
            exact h1
          clear hOr
          go_wp2_with fail
          go_loopw [12] (fun kv wr => ∃ i : Nat, kv = .int .i64 (i : Int) ∧ i ≤ n ∧ Own w [⟨g, 36, (cnB N ts n i).cs⟩, ⟨gt, 36, Z.neg.cs⟩] [] wr) (fun kv _ => n - (intOf kv).toNat)
          case atStart => exact ⟨0, rfl, Nat.zero_le _, hO⟩
          case round =>
            obtain ⟨i, rfl, hiK, hOr⟩ := hrel
            clear hO
            by_cases hlt : i < n
            · have hO := hOr
              clear hOr
              obtain ⟨ad, X, Y, b, rfl, hq, lX, lY, _, _, _⟩ := HT.out.at_ (show i < n by omega)
              obtain ⟨p, hp⟩ : ∃ p, ad.add (i * 3) = p := ⟨_, rfl⟩
              have HCELL : Hid (∀ wz, Ext w wz → wz.cell? p = some (.int .u64 (X : Int)) ∧ wz.cell? ⟨p.block, p.off + 1, none⟩ = some (.int .u64 (Y : Int)) ∧ wz.cell? ⟨p.block, p.off + 2, none⟩ = some (.bool b)) := Lib.hid (fun wz hz => by
                obtain ⟨ad', X', Y', b', e1, e2, _, _, e3⟩ := (HT.out.ext hz).at_ (show i < n by omega)
                rw [hq] at e2
                injection e2 with e2
                injection e2 with e2 e4
                injection e4 with e4 e5
                injection e1 with e1
                subst e1 e2 e4 e5
                rw [← addr_add2, ← addr_add2, hp] at e3
                exact e3)
              have HNX := Lib.hid (fun w => num4_any X w lX)
              have HNY := Lib.hid (fun w => num4_any Y w lY)
              have lPX := numP_lt lX
              have lPY := numP_lt lY
              have bi0 : (0 : Int) ≤ (i : Int) := by omega
              have bi1 : (i : Int) < (n : Int) := by omega
              have HTK : Hid (∀ w1, Own w [⟨g, 36, (cnB N ts n i).cs⟩, ⟨gt, 36, Z.neg.cs⟩] [] w1 → Calls Try.prog 14 #[.pointer (some ⟨g, 0, none⟩), .agg #[.int .u64 (ng (numP X) : Nat), .int .u64 (numP Y : Nat), .bool b]] w1 fun e w' => e = .returned (.tuple #[]) ∧ Own w [⟨g, 36, (cnB N ts n (i + 1)).cs⟩, ⟨gt, 36, Z.neg.cs⟩] [] w') := Lib.hid (fun w1 h => by
                have h1 := take4_any (g := g) (cnB N ts n i) (ng (numP X)) (numP Y) b (HBO.out i) (ng_lt lPX) lPY h
                have h2 : cnB N ts n (i + 1) = (cnB N ts n i).take (ng (numP X)) (numP Y) b := fold_next (q := (X, Y, b)) hq
                rw [h2]
                exact h1)
              have hxor := xor_ng4 lPX
              generalize numP X = PX at *
              generalize numP Y = PY at *
              clear hq lX lY lPX lPY
              go_upto_region 24 with fail
              obtain ⟨S, hS⟩ : ∃ S : World → Prop, S = Own w [⟨g, 36, (cnB N ts n i).cs⟩, ⟨gt, 36, Z.neg.cs⟩] [] := ⟨_, rfl⟩
              have hSE : ∀ w w', S w → Ext w w' → S w' := fun w w' h1 h2 => by rw [hS] at h1 ⊢; exact h1.ext h2
              have hS1 : S wr.drew := by rw [hS]; exact hO.ext (Ext.refl wr).drew
              have HS := Lib.hid hS
              clear hS hO hf
              obtain ⟨sp, hsp⟩ : ∃ sp : Nat → Sp, sp = ofList [det (.pointer (some ⟨g, 0, none⟩)), det (.slice (some ad) n c), det (.int .i64 (i : Int)), det (.pointer (some p)), det (.pointer (some p)), det (.int .u64 (X : Int)), det (.int .u64 (PX : Int)), det (.int .u64 (ng PX : Nat)), det (.slice (some ad) n c), det (.int .i64 (i : Int)), det (.pointer (some p)), det (.pointer (some ⟨p.block, p.off + 1, none⟩)), det (.int .u64 (Y : Int)), det (.int .u64 (PY : Int)), det (.slice (some ad) n c), det (.int .i64 (i : Int)), det (.pointer (some p)), det (.pointer (some ⟨p.block, p.off + 2, none⟩)), det (.bool b), det (.agg #[.int .u64 (ng PX : Nat), .int .u64 (PY : Int), .bool b])] := ⟨_, rfl⟩
              have HSP := Lib.hid hsp
              clear hsp
              refine wp_region_loose 20 S sp (by kernel_rfl) (by kernel_rfl) hS1 hSE ?_
              simp only [List.take_succ_cons, List.take_zero, List.drop_succ_cons, List.drop_zero]
              iterate 5
                refine wpX_step (fun K hK => ?_)
                go_simp
                refine StepY.det (by rw [HSP.out]; rfl) ?_ ?_
                · intro wz hz hF
                  clear hz hF
                  go_simp
                  exact ⟨rfl, Ext.refl _⟩
                refine hK _ _ ?_
                clear hK K
              refine wpX_step (fun K hK => ?_)
              go_simp
              refine StepY.det (by rw [HSP.out]; rfl) ?_ ?_
              · intro wz hz hF
                rw [HS.out] at hz
                obtain ⟨c1, c2, c3⟩ := HCELL.out _ hz.toExt
                clear hz hF
                go_simp
                exact ⟨rfl, Ext.refl _⟩
              refine hK _ _ ?_
              clear hK K
              refine wpX_step (fun K hK => ?_)
              go_simp
              refine StepY.det (by rw [HSP.out]; rfl) ?_ ?_
              · intro wz hz hF
                clear hz hF
                go_simp
                refine (HNX.out _).mono ?_
                rintro e w5 ⟨rfl, rfl⟩
                exact ⟨_, rfl, rfl, Ext.refl _⟩
              refine hK _ _ ?_
              clear hK K
              iterate 5
                refine wpX_step (fun K hK => ?_)
                go_simp
                refine StepY.det (by rw [HSP.out]; rfl) ?_ ?_
                · intro wz hz hF
                  clear hz hF
                  go_simp
                  exact ⟨rfl, Ext.refl _⟩
                refine hK _ _ ?_
                clear hK K
              refine wpX_step (fun K hK => ?_)
              go_simp
              refine StepY.det (by rw [HSP.out]; rfl) ?_ ?_
              · intro wz hz hF
                rw [HS.out] at hz
                obtain ⟨c1, c2, c3⟩ := HCELL.out _ hz.toExt
                clear hz hF
                go_simp
                exact ⟨rfl, Ext.refl _⟩
              refine hK _ _ ?_
              clear hK K
              refine wpX_step (fun K hK => ?_)
              go_simp
              refine StepY.det (by rw [HSP.out]; rfl) ?_ ?_
              · intro wz hz hF
                clear hz hF
                go_simp
                refine (HNY.out _).mono ?_
                rintro e w5 ⟨rfl, rfl⟩
                exact ⟨_, rfl, rfl, Ext.refl _⟩
              refine hK _ _ ?_
              clear hK K
              iterate 4
                refine wpX_step (fun K hK => ?_)
                go_simp
                refine StepY.det (by rw [HSP.out]; rfl) ?_ ?_
                · intro wz hz hF
                  clear hz hF
                  go_simp
                  exact ⟨rfl, Ext.refl _⟩
                refine hK _ _ ?_
                clear hK K
              refine wpX_step (fun K hK => ?_)
              go_simp
              refine StepY.det (by rw [HSP.out]; rfl) ?_ ?_
              · intro wz hz hF
                rw [HS.out] at hz
                obtain ⟨c1, c2, c3⟩ := HCELL.out _ hz.toExt
                clear hz hF
                go_simp
                exact ⟨rfl, Ext.refl _⟩
              refine hK _ _ ?_
              clear hK K
              refine wpX_step (fun K hK => ?_)
              go_simp
              refine StepY.det (by rw [HSP.out]; rfl) ?_ ?_
              · intro wz hz hF
                clear hz hF
                go_simp
                exact ⟨rfl, Ext.refl _⟩
              refine hK _ _ ?_
              clear hK K
              refine wpX_nil ?_
              intro wq hz hF
              clear hF
              rw [HS.out] at hz
              have hO := hz
              clear hz HS HSP
              have hf := hO.cells
              simp only [BC, CC, Nat.zero_add, Nat.reduceAdd, and_true] at hf
              go_wp2_with fail
              refine (HTK.out _ hO).mono ?_
              rintro e w9 ⟨rfl, hO2⟩
              clear hO hf
              go_wp2_with fail
              go_roundw
              case rel => exact ⟨i + 1, by go_num, by omega, hO2⟩
              case measure => simp [intOf]; omega
            · have hie : i = n := by omega
              have hO := hOr
              rw [hie] at hO
              clear hOr hie hiK
              obtain ⟨Q, hQ⟩ : ∃ Q, Q = cnB N ts n n := ⟨_, rfl⟩
              have hQO : Q.Ok := by rw [hQ]; exact HBO.out _
              have hQE := HBE.out
              rw [← hQ] at hO hQE
              obtain ⟨hQT, hQs⟩ := hQE
              have HR1 := Lib.hid (fun w1 h => tround_any (w0 := w) (w := w1) (L := [⟨gt, 36, Z.neg.cs⟩]) (W := []) (g := g) Q (-1) (fun hs => hQO.fit hs) h)
              have HR2 := Lib.hid (fun w1 h => tround_any (w0 := w) (w := w1) (L := [⟨gt, 36, Z.neg.cs⟩]) (W := []) (g := g) Q 1 (fun hs => hQO.fit hs) h)
              have HG := Lib.hid (fun w1 h => tsign_any (w0 := w) (w := w1) (L := [⟨gt, 36, Z.neg.cs⟩]) (W := []) (g := g) Q (fun hs => hQO.fit hs) h)
              have HST := Lib.hid (fun w1 h => tstate_S (w0 := w) (w := w1) (L := [⟨gt, 36, Z.neg.cs⟩]) (W := []) (g := g) Q h)
              rw [round_fin hQs, hQT, rT_num _ HLN.out HFF.out] at HR1 HR2
              rw [sign_fin hQs, hQT] at HG
              rw [hQs] at HST
              have hzz := num_zero HLN.out HFF.out
              obtain ⟨sg1, hsg1⟩ : ∃ s, s = (if sv N * (K74 : Int) < 0 then (-1 : Int) else if sv N * (K74 : Int) = 0 then 0 else 1) := ⟨_, rfl⟩
              rw [← hsg1] at HG
              have hfin : ((sg1 == 0) == ((pl N : Int) == 0)) = true := by
                rw [beq_iff_eq, Bool.eq_iff_iff, beq_iff_eq, beq_iff_eq, hsg1]
                constructor
                · intro h0
                  have : sv N * (K74 : Int) = 0 := by
                    revert h0
                    split
                    · intro h0; omega
                    · split
                      · rename_i h1; intro _; exact h1
                      · intro h0; omega
                  have := hzz.1 this
                  omega
                · intro h0
                  have := hzz.2 (by omega)
                  rw [if_neg (by omega), if_pos this]
              generalize pl N = PN at *
              clear hQ hQO hQT hQs hzz hsg1
              go_wp2_with (first | (go_at_call 13; (with_reducible refine (HNU.out _).mono ?_); rintro e w2 ⟨rfl, rfl⟩) | (go_at_call 19; (with_reducible refine (HPL.out _).mono ?_); rintro e w2 ⟨rfl, rfl⟩))
              refine (HR1.out _ hO).mono ?_
              rintro e w2 ⟨r, rfl, hr, hc, hE⟩
              have hO := hO.ext hE
              clear hE
              go_wp2_with fail
              refine (HBT.out r _ hr).mono ?_
              rintro e w4 ⟨rfl, rfl⟩
              rw [hc]
              clear hr hc
              go_wp2_with fail
              refine (HR2.out _ hO).mono ?_
              rintro e w2 ⟨r, rfl, hr, hc, hE⟩
              have hO := hO.ext hE
              clear hE
              go_wp2_with fail
              refine (HBT.out r _ hr).mono ?_
              rintro e w4 ⟨rfl, rfl⟩
              rw [hc]
              clear hr hc
              go_wp2_with fail
              refine (HST.out _ hO).mono ?_
              rintro e w4 ⟨rfl, rfl⟩
              go_wp2_with fail
              refine (HG.out _ hO).mono ?_
              rintro e w4 ⟨rfl, rfl⟩
              go_wp2_with fail
              refine (HL.out _).mono ?_
              rintro e w5 ⟨rfl, hE⟩
              have hO := hO.ext hE
              clear hE
              go_wp2_with fail
              go_ret
              exact ⟨rfl, hO.toExt⟩

theorem cancels_w (A : Option Addr) (n c : Nat) (ts : List Tm) (x : Nat) (w : World) (h : Trs w A n c ts) (hx : x < 18446744073709551616) :
    Calls Try.prog 3 #[.slice A n c, .int .u64 (x : Int)] w fun e w' => e = .returned (.bool true) ∧ Ext w w' := by
  rcases Nat.lt_or_ge 3000 n with hk | hk
  · exact cancels_a A n c ts x w h hx hk
  · exact cancels_b A n c ts x w h hx hk
end Go.Proofs.Ytfbjeifhpmdjaaa
