/-
  The walk through PowerTight, the whole. Conditions: those that each theorem names.
-/
import Derived.Test.YtadijoeeaineaaaDoorT40
import Derived.Test.YtadijoeeaineaaaDoorT41
import Derived.Test.YtadijoeeaineaaaDoorT36
namespace Go.Proofs.YtadijoeeaineaaaDoor
open Go.RowKit Go.Proofs.YtadijoeeaineaaaDoor.Nm Rn
set_option maxRecDepth 100000
set_option linter.unusedVariables false
set_option linter.unusedSimpArgs false

theorem xor_ng {b : Nat} (h : b < 18446744073709551616) : bits .xor .u64 (b : Int) 9223372036854775808 = ((ng b : Nat) : Int) := by
  rw [show (9223372036854775808 : Int) = ((9223372036854775808 : Nat) : Int) from rfl, u64_xor_nat _ _ h (by omega), ng_xor h]
theorem stepP_lt {b : Nat} (h : b < 18446744073709551615) : stepP b < 18446744073709551616 := by
  unfold stepP
  split
  · omega
  · split <;> omega
theorem bl_40 {n : Nat} (h : nw n ≤ 40) : bl n ≤ 3000 := by
  rw [nw_bl] at h
  omega
theorem tiE_of {x m y1 y2 : Nat} (hx : x < 18446744073709551616) (nx : isNaN x = false) (fx : mg x < infR) (hm0 : 0 < m) (hm : m ≤ 64) (hy : PnE y1 y2) (hv : vldB y1 y2 = true) (h : TiX x m y1 y2) (l1 : stepP y1 < 18446744073709551616) (l2 : prevP y2 < 18446744073709551616) :
    ∃ fS fN fD vS vN vD nS nN nD tS tN tD lS lN lD r1 r2 r3 c1 c2 c3, TiE x m y1 y2 (stepP y1) (prevP y2) (tiLow x m y1) (tiHigh x m y2) fS fN fD vS vN vD nS nN nD tS tN tD lS lN lD r1 r2 r3 c1 c2 c3 := by
  have im := minf_val
  have ii := infR_val
  obtain ⟨n1, n2⟩ := ti_nw x m (by omega)
  have pD := tiD_pos x m
  have ZN : ∀ b, nw (fbN b) ≤ 1000000 := fun b => Nat.le_trans (fbN_bits b) (by decide)
  have ZD : ∀ b, nw (fbD b) ≤ 1000000 := fun b => Nat.le_trans (fbD_bits b) (by decide)
  have CM : ∀ (b : Nat) (A1 : Option Addr) (l1 c1 : Nat) (B1 : Option Addr) (k1 d1 : Nat) (A2 : Option Addr) (l2 c2 : Nat) (B2 : Option Addr) (k2 d2 : Nat) (w : World), RatAt w A1 l1 c1 B1 k1 d1 (tiN x m) (tiD x m) → RatAt w A2 l2 c2 B2 k2 d2 (fbN b) (fbD b) → Calls Tryd.prog 43 #[.agg #[.bool (tiS x m), .slice A1 l1 c1, .slice B1 k1 d1], .agg #[.bool (sg b && decide (mg b ≠ 0)), .slice A2 l2 c2, .slice B2 k2 d2]] w (fun e w' => e = .returned (.int .i64 (rcR (tiS x m) (tiN x m) (tiD x m) b)) ∧ Ext w w') := by
    intro b A1 l1 c1 B1 k1 d1 A2 l2 c2 B2 k2 d2 w g1 g2
    have a1 := ZN b
    have a2 := ZD b
    have a3 := fbD_pos b
    exact rcmp_any _ A1 l1 c1 B1 k1 d1 _ _ _ A2 l2 c2 B2 k2 d2 _ _ w g1 g2 (by omega) (by omega) (by omega) (by omega) (by omega) (by omega)
  refine ⟨_, _, _, _, _, _, _, _, _, _, _, _, _, _, _, _, _, _, decide (stepP y1 = infR), decide (y2 = 0), decide (prevP y2 = minf),
    ⟨Lib.hid fun w => frombits_any x w hx, Lib.hid fun A l c B k d w g => rpowb_any _ A l c B k d _ _ m w g (by omega) (bl_40 (fbN_bits x)) (bl_40 (fbD_bits x)) (fbD_pos x),
     Lib.hid (holds7_any (by omega) hy hv h), Lib.hid fun w => frombits_any _ w l1, Lib.hid (CM _), Lib.hid fun w => frombits_any 9223372036854775809 w (by decide), Lib.hid (CM _), Lib.hid fun w => frombits_any _ w l2, Lib.hid (CM _),
     Lib.hid (by rw [Bool.eq_iff_iff, beq_iff_eq, decide_eq_true_iff]; omega), Lib.hid (by rw [Bool.eq_iff_iff, beq_iff_eq, decide_eq_true_iff]; omega), Lib.hid (by rw [Bool.eq_iff_iff, beq_iff_eq, decide_eq_true_iff]; omega), Lib.hid rfl, Lib.hid (by unfold tiHigh; rw [decide_not])⟩⟩
theorem tight_go (x1 x2 p q a b m : Nat) (n0 n1 : Int) (fe fp fq bad : Bool) (w : World) (hT : Tab w) (HRD : Hid (∀ w, Calls Tryd.prog 32 #[.agg #[.int .u64 (x1 : Int), .int .u64 (x2 : Int)]] w (RetI p q w)))
    (HLM : Hid (∀ w, Calls Tryd.prog 33 #[.int .i64 n0] w (fun x w' => x = .returned (.int .i64 n1) ∧ w = w'))) (hn : (decide (n1 < 1) = true ∧ m = 2) ∨ (decide (n1 < 1) = false ∧ n1 = (m : Int)))
    (hm0 : 0 < m) (hm : m ≤ 64)
    (hq1 : ∀ w, (binOp .eql 53 (.agg #[.int .u64 (p : Int), .int .u64 (q : Int)]) (.agg #[.int .u64 (infR : Int), .int .u64 (minf : Int)])).run Tryd.prog w = .ok (.bool fe) w)
    (HFP : Hid (∀ w, Calls Tryd.prog 20 #[.int .u64 (p : Int)] w (fun x w' => x = .returned (.bool fp) ∧ w = w'))) (HFQ : Hid (∀ w, Calls Tryd.prog 20 #[.int .u64 (q : Int)] w (fun x w' => x = .returned (.bool fq) ∧ w = w')))
    (hbad : (fe = true ∧ bad = true) ∨ (fe = false ∧ fp = false ∧ bad = true) ∨ (fe = false ∧ fp = true ∧ fq = false ∧ bad = true) ∨ (fe = false ∧ fp = true ∧ fq = true ∧ bad = false))
    (hab : (bad = true ∧ a = 13832806255468478464 ∧ b = 4613937818241073152) ∨ (bad = false ∧ a = p ∧ b = q)) (hE : PnE a b) (fa : mg a < infR) (fb : mg b < infR) :
    Calls Tryd.prog 6 #[.agg #[.int .u64 (x1 : Int), .int .u64 (x2 : Int)], .int .i64 n0] w fun e w' => e = .returned (.bool true) ∧ Ext w w' := by
  have hM : (0 : Int) < (m : Int) := by omega
  have hM2 : (m : Int) ≤ 1024 := by omega
  have hy : PnE (pwnLo a b (m : Int)) (pwnHi a b (m : Int)) := by
    obtain ⟨e1, e2⟩ := pwn_p hE (m : Int)
    rw [e1, e2, if_neg (by omega), if_neg (by omega), if_neg (by omega), if_neg (by omega)]
    exact pw_pne (rs_of hE _) (by omega) (by omega) (by omega)
  have hv := vld_pne hy
  have hin := fun x (h1 : PnE x x) (h2 : mg x < infR) (h3 : key a ≤ key x) (h4 : key x ≤ key b) => ti_in hE h1 h2 h3 h4 hM hM2
  obtain ⟨at1, at2⟩ := ti_att hE fa fb hM hM2
  have ii := infR_val
  have im := minf_val
  have HPN := Lib.hid (fun w hT => pown_any a b (m : Int) w hT hE.la hE.lb)
  generalize pwnLo a b (m : Int) = y1 at *
  generalize pwnHi a b (m : Int) = y2 at *
  have s1 := step_key hy.la hy.na hy.ia hy.ma
  have my2 := mg_le_inf hy.nb
  have my1 := mg_le_inf hy.na
  have l0 : ng y2 < 18446744073709551615 := by
    have := ng_lt hy.lb
    have e := mg_ng hy.lb
    unfold mg at e my2
    omega
  have l1 : y1 < 18446744073709551615 := by unfold mg at my1; have := hy.la; omega
  have l2 := stepP_lt l0
  have l3 : prevP y2 < 18446744073709551616 := ng_lt l2
  have hpa : PnE a a := ⟨hE.la, hE.la, hE.na, hE.na, Int.le_refl _, hE.ma, hE.ma, hE.ia, fun e => by rw [e] at fa; revert fa; decide⟩
  have hpb : PnE b b := ⟨hE.lb, hE.lb, hE.nb, hE.nb, Int.le_refl _, hE.mb, hE.mb, fun e => by rw [e] at fb; revert fb; decide, hE.ib⟩
  have hp0 : PnE 0 0 := ⟨by decide, by decide, by decide, by decide, by decide, by decide, by decide, by decide, by decide⟩
  have f0 : mg 0 < infR := by decide
  have n0' : isNaN 0 = false := by decide
  have k0 : key 0 = 0 := rfl
  have hL1 : ltB a 0 = decide (key a < 0) := by unfold ltB; rw [hE.na, n0', k0]; rfl
  have hL2 : ltB 0 b = decide (0 < key b) := by unfold ltB; rw [hE.nb, n0', k0]; rfl
  obtain ⟨xs, z, hxs, hz, hmem, hflo, hfhi⟩ : ∃ (xs : List Nat) (z : Bool), ((z = true ∧ xs = [a, b, 0]) ∨ (z = false ∧ xs = [a, b])) ∧ ((ltB a 0 = false ∧ z = false) ∨ (ltB a 0 = true ∧ ltB 0 b = z)) ∧ (∀ x ∈ xs, PnE x x ∧ mg x < infR ∧ key a ≤ key x ∧ key x ≤ key b) ∧ (xs.any (fun x => tiLow x m y1) = true) ∧ (xs.any (fun x => tiHigh x m y2) = true) := by
    have ka := hE.ki
    have LW : ∀ x, PnE x x → mg x < infR → y1 = powR (-1) x (m : Int) → tiLow x m y1 = true := fun x h1 h2 e => tiLow_of h1.na h2 rfl hm0 (by omega) e
    have HW : ∀ x, PnE x x → mg x < infR → y2 = powR 1 x (m : Int) → tiHigh x m y2 = true := fun x h1 h2 e => tiHigh_of h1.na h2 rfl hm0 (by omega) e
    by_cases hzz : key a < 0 ∧ 0 < key b
    · refine ⟨[a, b, 0], true, .inl ⟨rfl, rfl⟩, .inr ⟨by rw [hL1]; exact decide_eq_true hzz.1, by rw [hL2]; exact decide_eq_true hzz.2⟩, fun x hx => ?_, ?_, ?_⟩
      · simp only [List.mem_cons, List.not_mem_nil, or_false] at hx
        rcases hx with rfl | rfl | rfl
        · exact ⟨hpa, fa, Int.le_refl _, ka⟩
        · exact ⟨hpb, fb, ka, Int.le_refl _⟩
        · exact ⟨hp0, f0, by omega, by omega⟩
      · simp only [List.any_cons, List.any_nil, Bool.or_false, Bool.or_eq_true]
        rcases at1 with e | e | ⟨_, _, e⟩
        · exact .inl (LW a hpa fa e)
        · exact .inr (.inl (LW b hpb fb e))
        · exact .inr (.inr (LW 0 hp0 f0 e))
      · simp only [List.any_cons, List.any_nil, Bool.or_false, Bool.or_eq_true]
        rcases at2 with e | e
        · exact .inl (HW a hpa fa e)
        · exact .inr (.inl (HW b hpb fb e))
    · refine ⟨[a, b], false, .inr ⟨rfl, rfl⟩, ?_, fun x hx => ?_, ?_, ?_⟩
      · by_cases h1 : key a < 0
        · exact .inr ⟨by rw [hL1]; exact decide_eq_true h1, by rw [hL2]; exact decide_eq_false (fun h2 => hzz ⟨h1, h2⟩)⟩
        · exact .inl ⟨by rw [hL1]; exact decide_eq_false h1, rfl⟩
      · simp only [List.mem_cons, List.not_mem_nil, or_false] at hx
        rcases hx with rfl | rfl
        · exact ⟨hpa, fa, Int.le_refl _, ka⟩
        · exact ⟨hpb, fb, ka, Int.le_refl _⟩
      · simp only [List.any_cons, List.any_nil, Bool.or_false, Bool.or_eq_true]
        rcases at1 with e | e | ⟨h1, h2, e⟩
        · exact .inl (LW a hpa fa e)
        · exact .inr (LW b hpb fb e)
        · exact absurd ⟨h1, h2⟩ hzz
      · simp only [List.any_cons, List.any_nil, Bool.or_false, Bool.or_eq_true]
        rcases at2 with e | e
        · exact .inl (HW a hpa fa e)
        · exact .inr (HW b hpb fb e)
  have hq2 := eqI' (a := (y1 : Int)) (b := (y2 : Int)) (c := (infR : Int)) (d := (minf : Int)) (E := false) (by
    rw [Bool.and_eq_false_iff, beq_eq_false_iff_ne]
    have := hy.ia
    exact .inl (by omega))
  exact tight_w x1 x2 p q infR minf a b y1 y2 m n0 n1 fe fp fq bad w hT HRD HLM hn (Lib.hid fun w => empty6_any w) hq1 HFP HFQ hbad hab (ltB a 0) (ltB 0 b) z xs (Lib.hid fun w => above6_any 0 a w (by decide) hE.la) (Lib.hid fun w => above6_any b 0 w hE.lb (by decide)) hz hxs
    (Lib.hid fun w => in7_any a b w) HPN (Lib.hid fun w => out7_any y1 y2 w) (Lib.hid fun w => hv ▸ valid6_any y1 y2 w hy.la hy.lb) hq2 (stepP y1) (ng y2) (stepP (ng y2)) (prevP y2) (Lib.hid fun w => up7_any y1 w hy.la (by omega)) (Lib.hid fun w => up7_any (ng y2) w (ng_lt hy.lb) (by omega)) (xor_ng hy.lb) (xor_ng l2)
    (fun x => tiLow x m y1) (fun x => tiHigh x m y2) (Lib.hid ⟨hflo, hfhi⟩) (Lib.hid fun i x hx => by
      obtain ⟨g1, g2, g3, g4⟩ := hmem x (List.mem_of_getElem? hx)
      obtain ⟨k1, k2⟩ := hin x g1 g2 g3 g4
      exact tiE_of g1.la g1.na g2 hm0 hm hy hv (tiX_of g1.na g2 rfl hm0 (by omega) hy k1 k2) s1.1 l3)
theorem eqEt {p q : Nat} : (((p : Int) == (infR : Int)) && ((q : Int) == (minf : Int))) = decide (p = infR ∧ q = minf) := by
  rw [Bool.eq_iff_iff, Bool.and_eq_true, beq_iff_eq, beq_iff_eq, decide_eq_true_iff]
  omega
theorem tight_walk (x1 x2 : Nat) (n0 : Int) (w : World) (hx1 : x1 < 18446744073709551616) (hx2 : x2 < 18446744073709551616) (hT : Tab w) :
    Calls Tryd.prog 6 #[.agg #[.int .u64 (x1 : Int), .int .u64 (x2 : Int)], .int .i64 n0] w fun e w' => e = .returned (.bool true) ∧ Ext w w' := by
  have HRD := Lib.hid (fun w => read6_any x1 x2 w hx1 hx2)
  have HLM := Lib.hid (fun w => limit7_any n0 w)
  obtain ⟨m, hm0, hm1, hn⟩ : ∃ m : Nat, 0 < m ∧ m ≤ 64 ∧ ((decide (limI n0 < 1) = true ∧ m = 2) ∨ (decide (limI n0 < 1) = false ∧ limI n0 = (m : Int))) := by
    have hl : limI n0 ≤ 64 := by unfold limI; split <;> omega
    by_cases h : limI n0 < 1
    · exact ⟨2, by omega, by omega, .inl ⟨decide_eq_true h, rfl⟩⟩
    · exact ⟨(limI n0).toNat, by omega, by omega, .inr ⟨decide_eq_false h, by omega⟩⟩
  have hBA : PnE 13832806255468478464 4613937818241073152 := ⟨by decide, by decide, by decide, by decide, by decide, by decide, by decide, by decide, by decide⟩
  have hpl : rdLo x1 x2 < 18446744073709551616 ∧ rdHi x1 x2 < 18446744073709551616 := by
    by_cases he : emp x1 x2
    · rw [he.1, he.2]; decide
    · exact ⟨(pnE_rd hx1 hx2 he).la, (pnE_rd hx1 hx2 he).lb⟩
  have hpe : (rdLo x1 x2 = infR ∧ rdHi x1 x2 = minf) ∨ PnE (rdLo x1 x2) (rdHi x1 x2) := by
    by_cases he : emp x1 x2
    · exact .inl he
    · exact .inr (pnE_rd hx1 hx2 he)
  generalize rdLo x1 x2 = p at *
  generalize rdHi x1 x2 = q at *
  have G := fun a b fe fp fq bad => tight_go x1 x2 p q a b m n0 (limI n0) fe fp fq bad w hT HRD HLM hn hm0 hm1
  have HFP := Lib.hid (fun w => finite2_any p w hpl.1)
  have HFQ := Lib.hid (fun w => finite2_any q w hpl.2)
  by_cases he : p = infR ∧ q = minf
  · exact G 13832806255468478464 4613937818241073152 true _ _ true (eqI' (by rw [eqEt]; exact decide_eq_true he)) HFP HFQ (.inl ⟨rfl, rfl⟩) (.inl ⟨rfl, rfl, rfl⟩) hBA (by decide) (by decide)
  · have hE := hpe.resolve_left he
    have hq := eqI' (a := (p : Int)) (b := (q : Int)) (c := (infR : Int)) (d := (minf : Int)) (E := false) (by rw [eqEt]; exact decide_eq_false he)
    by_cases h1 : mg p < infR
    · by_cases h2 : mg q < infR
      · exact G p q false _ _ false hq HFP HFQ (.inr (.inr (.inr ⟨rfl, decide_eq_true h1, decide_eq_true h2, rfl⟩))) (.inr ⟨rfl, rfl, rfl⟩) hE h1 h2
      · exact G 13832806255468478464 4613937818241073152 false _ _ true hq HFP HFQ (.inr (.inr (.inl ⟨rfl, decide_eq_true h1, decide_eq_false h2, rfl⟩))) (.inl ⟨rfl, rfl, rfl⟩) hBA (by decide) (by decide)
    · exact G 13832806255468478464 4613937818241073152 false _ _ true hq HFP HFQ (.inr (.inl ⟨rfl, decide_eq_false h1, rfl⟩)) (.inl ⟨rfl, rfl, rfl⟩) hBA (by decide) (by decide)
end Go.Proofs.YtadijoeeaineaaaDoor
