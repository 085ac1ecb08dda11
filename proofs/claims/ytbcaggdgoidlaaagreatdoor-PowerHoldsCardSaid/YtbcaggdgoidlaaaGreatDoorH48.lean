/-
 The walk through PowerHolds, the whole. Conditions: those that each theorem names.
-/
import Derived.Test.YtbcaggdgoidlaaaGreatDoorH47
import Derived.Test.YtbcaggdgoidlaaaGreatDoorH41
namespace Go.Proofs.YtbcaggdgoidlaaaGreatDoor
open Go.RowKit Nm Rn
set_option maxRecDepth 100000
set_option linter.unusedVariables false
set_option linter.unusedSimpArgs false
theorem ti_nwh (x m : Nat) (hm : m ≤ 1024) : nw (tiN x m) ≤ 1000000 ∧ nw (tiD x m) ≤ 1000000 := by
 have h1 := fbN_bits x
 have h2 := fbD_bits x
 rw [nw_bl] at h1 h2
 exact pow_sz hm (by omega) (by omega) (fbD_pos x)
theorem sgnZ_key (x : Nat) : decide (sgnZ (sgb x) (fbN x) < 0) = sgb x ∧ (sgnZ (sgb x) (fbN x) == 0) = decide (mg x = 0) := by
 have h0 := fbN_zero x
 unfold sgnZ sgb
 by_cases z : mg x = 0
 · rw [if_pos (h0.2 z), decide_eq_false (show ¬ mg x ≠ 0 by omega), Bool.and_false, decide_eq_true z]
   exact ⟨rfl, rfl⟩
 · rw [if_neg (fun e => z (h0.1 e)), decide_eq_true z, Bool.and_true, decide_eq_false z]
   cases sg x <;> exact ⟨rfl, rfl⟩
theorem stZ_nw (k x : Nat) : nw (stZ k (sgb x) (fbN x) (fbD x)) ≤ 1000000 := by
 have h1 := fbN_bits x
 have h2 : stZ k (sgb x) (fbN x) (fbD x) ≤ fbN x + 1 := by
   unfold stZ
   split
   · split <;> omega
   · unfold stQ
     have := Nat.div_le_self (fbN x) (fbD x)
     have := Bool.toNat_le (stMo k (sgb x) (fbN x) (fbD x))
     omega
 have h3 := nw_mono h2
 have h4 : nw (fbN x + 1) ≤ 41 := by
   refine (nw_le_iff _ _).2 ?_
   have h5 := lt_pow_nw (fbN x)
   have h6 : 4294967296 ^ nw (fbN x) ≤ 4294967296 ^ 40 := Nat.pow_le_pow_right (by omega) h1
   rw [Nat.pow_succ]
   omega
 omega
theorem eqEh {p q : Nat} : (((p : Int) == (infR : Int)) && ((q : Int) == (minf : Int))) = decide (p = infR ∧ q = minf) := by
 rw [Bool.eq_iff_iff, Bool.and_eq_true, beq_iff_eq, beq_iff_eq, decide_eq_true_iff]
 omega
theorem emp_read (x1 x2 : Nat) (h : ¬ emp x1 x2) : (((rdLo x1 x2 : Nat) : Int) == (infR : Int) && ((rdHi x1 x2 : Nat) : Int) == (minf : Int)) = false := by
 rw [eqEh]
 exact decide_eq_false h
theorem hold_of {s : Bool} {N D y1 y2 : Nat} (n1 : nw N ≤ 1000000) (n2 : nw D ≤ 1000000) (pD : 0 < D) (h : PnE y1 y2 ∧ HdX s N D y1 y2) : Hid (∀ (A1 : Option Addr) (l1 c1 : Nat) (B1 : Option Addr) (k1 d1 : Nat) w, RatAt w A1 l1 c1 B1 k1 d1 N D → Calls Tryz.prog 14 #[.agg #[.float .f64 y1, .float .f64 y2], .agg #[.bool s, .slice A1 l1 c1, .slice B1 k1 d1]] w (fun e w' => e = .returned (.bool true) ∧ Ext w w')) :=
 Lib.hid (holds7_gen n1 n2 pD h.1 (vld_pne h.1) h.2)
theorem limI_bd (n : Int) : -64 ≤ limI n ∧ limI n ≤ 64 := by unfold limI; split <;> omega
set_option maxHeartbeats 4000000 in
theorem pholds_walk (x1 x2 y1 y2 pa pb : Nat) (n0 : Int) (w : World) (hx1 : x1 < 18446744073709551616) (hx2 : x2 < 18446744073709551616) (hy1 : y1 < 18446744073709551616) (hy2 : y2 < 18446744073709551616) (hpa : pa < 18446744073709551616) (hpb : pb < 18446744073709551616) (hT : Tab w) :
   Calls Tryz.prog 3 #[.agg #[.int .u64 (x1 : Int), .int .u64 (x2 : Int)], .agg #[.int .u64 (y1 : Int), .int .u64 (y2 : Int)], .int .u64 (pa : Int), .int .u64 (pb : Int), .int .i64 n0] w (fun e w' => e = .returned (.bool true) ∧ Ext w w') := by
 have HT := Lib.hid hT
 have HLV := Lib.hid (fun w h => lives7_any w h)
 have HRX := Lib.hid (fun w => read6_any x1 x2 w hx1 hx2)
 have HRY := Lib.hid (fun w => read6_any y1 y2 w hy1 hy2)
 have HLM := Lib.hid (fun w => limit7_any n0 w)
 have HEM := Lib.hid (fun w => empty6_any w)
 have HIX := Lib.hid (fun w => in7_any (rdLo x1 x2) (rdHi x1 x2) w)
 have HIY := Lib.hid (fun w => in7_any (rdLo y1 y2) (rdHi y1 y2) w)
 have HOU := Lib.hid (fun w => out7_any infR minf w)
 have qe := eqI' (a := (infR : Int)) (b := (minf : Int)) (c := (infR : Int)) (d := (minf : Int)) (E := true) (by rw [eqEh]; exact decide_eq_true ⟨rfl, rfl⟩)
 have ii : infR < 18446744073709551616 := by decide
 have im : minf < 18446744073709551616 := by decide
 have rl : ∀ a b : Nat, a < 18446744073709551616 → b < 18446744073709551616 → rdLo a b < 18446744073709551616 ∧ rdHi a b < 18446744073709551616 := fun a b ha hb => by
   by_cases e : emp a b
   · rw [e.1, e.2]; exact ⟨ii, im⟩
   · have := pnE_rd ha hb e; exact ⟨this.la, this.lb⟩
 have lx := rl x1 x2 hx1 hx2
 have ly := rl y1 y2 hy1 hy2
 by_cases ex : emp x1 x2
 · have hm := min_e1 (x1 := rdLo x1 x2) (x2 := rdHi x1 x2) (z1 := rdLo y1 y2) (z2 := rdHi y1 y2) (.inl (by rw [ex.1, ex.2]; exact emp_e))
   have HMN := Lib.hid (fun w => pmin_any (rdLo x1 x2) (rdHi x1 x2) (rdLo y1 y2) (rdHi y1 y2) w lx.1 lx.2 ly.1 ly.2)
   have HMX := Lib.hid (fun w => pmax_any (rdLo x1 x2) (rdHi x1 x2) (rdLo y1 y2) (rdHi y1 y2) w lx.1 lx.2 ly.1 ly.2)
   rw [hm.1, hm.2.1] at HMN
   rw [hm.2.2.1, hm.2.2.2] at HMX
   exact holds_ex x1 x2 y1 y2 _ _ _ _ pa pb n0 _ w HT HLV HRX HRY HLM HEM HIX HIY (eqI' (by rw [eqEh]; exact decide_eq_true ex)) qe HMN HMX HOU
 by_cases ey : emp y1 y2
 · have hm := min_e1 (x1 := rdLo x1 x2) (x2 := rdHi x1 x2) (z1 := rdLo y1 y2) (z2 := rdHi y1 y2) (.inr (by rw [ey.1, ey.2]; exact emp_e))
   have HMN := Lib.hid (fun w => pmin_any (rdLo x1 x2) (rdHi x1 x2) (rdLo y1 y2) (rdHi y1 y2) w lx.1 lx.2 ly.1 ly.2)
   have HMX := Lib.hid (fun w => pmax_any (rdLo x1 x2) (rdHi x1 x2) (rdLo y1 y2) (rdHi y1 y2) w lx.1 lx.2 ly.1 ly.2)
   rw [hm.1, hm.2.1] at HMN
   rw [hm.2.2.1, hm.2.2.2] at HMX
   exact holds_ey x1 x2 y1 y2 _ _ _ _ pa pb n0 _ w HT HLV HRX HRY HLM HEM HIX HIY (eqI' (emp_read x1 x2 ex)) (eqI' (by rw [eqEh]; exact decide_eq_true ey)) qe HMN HMX HOU
 have qx := eqI' (emp_read x1 x2 ex)
 have qy := eqI' (emp_read y1 y2 ey)
 have h := pnE_rd hx1 hx2 ex
 have g := pnE_rd hy1 hy2 ey
 generalize rdLo x1 x2 = p at *
 generalize rdHi x1 x2 = q at *
 generalize rdLo y1 y2 = r at *
 generalize rdHi y1 y2 = t at *
 have hx := hdn_of h hpa
 have hy := hdn_of g hpb
 have HN1 := Lib.hid (fun w => inside7_any p q pa w h.la h.lb hpa)
 have HN2 := Lib.hid (fun w => inside7_any r t pb w g.la g.lb hpb)
 have HB1 := fun w => frombits_any (inP p q pa) w (inP_facts h hpa).1
 have HB2 := fun w => frombits_any (inP r t pb) w (inP_facts g hpb).1
 obtain ⟨a1, a2, a3⟩ := fb_pl (inP p q pa)
 obtain ⟨b1, b2, b3⟩ := fb_pl (inP r t pb)
 unfold sgb at a3 b3
 rw [← a1, ← a2, ← a3] at HB1
 rw [← b1, ← b2, ← b3] at HB2
 clear a1 a2 a3 b1 b2 b3
 generalize inP p q pa = xa at *
 generalize inP r t pb = yb at *
 generalize pl xa = X at *
 generalize pl yb = Y at *
 obtain ⟨M, hM⟩ : ∃ M, M = limI n0 := ⟨_, rfl⟩
 have hMb := limI_bd n0
 rw [← hM] at HLM hMb
 clear hM
 have n1 := fbN_bits X
 have n2 := fbD_bits X
 have n3 := fbN_bits Y
 have n4 := fbD_bits Y
 have p1 := fbD_pos X
 have p2 := fbD_pos Y
 have c1 := n1
 have c2 := n2
 rw [nw_bl] at c1 c2
 have HSG : Hid (∀ (A1 : Option Addr) (l1 c1 : Nat) (B1 : Option Addr) (k1 d1 : Nat) w, RatAt w A1 l1 c1 B1 k1 d1 (fbN X) (fbD X) → Calls Tryz.prog 17 #[.agg #[.bool (sgb X), .slice A1 l1 c1, .slice B1 k1 d1]] w fun e w' => e = .returned (.int .i64 (sgnZ (sgb X) (fbN X))) ∧ Ext w w') := Lib.hid (fun A1 l1 c1 B1 k1 d1 w h => by
   have hl := h.lenN
   have := rsign_any (sgb X) A1 l1 c1 (nd (fbN X)) B1 k1 d1 w h.1 (by omega)
   rwa [nv_nd] at this)
 have HI1 : Hid (∀ w, Calls Tryz.prog 19 #[.int .i64 1] w (RetR false 1 1 w)) := Lib.hid (fun w => by
   have := int_any 1 w (by omega)
   rwa [(fr_one 1).1, (fr_one 1).2] at this)
 have HRP := fun (m : Nat) (hm : m ≤ 1024) => (Lib.hid fun A1 l1 c1 B1 k1 d1 w h => rpowb_any (sgb X) A1 l1 c1 B1 k1 d1 (fbN X) (fbD X) m w h hm (by omega) (by omega) p1 : Hid (∀ (A1 : Option Addr) (l1 c1 : Nat) (B1 : Option Addr) (k1 d1 : Nat) w, RatAt w A1 l1 c1 B1 k1 d1 (fbN X) (fbD X) → Calls Tryz.prog 16 #[.agg #[.bool (sgb X), .slice A1 l1 c1, .slice B1 k1 d1], .int .i64 (m : Int)] w (RetR (tiS X m) (tiN X m) (tiD X m) w)))
 obtain ⟨sk1, sk2⟩ := sgnZ_key X
 refine holds_go x1 x2 y1 y2 p q r t pa pb xa yb n0 M (sgnZ (sgb X) (fbN X)) (cmpI (key X) (key Y)) (sgb X) (fbN X) (fbD X) (sgb Y) (fbN Y) (fbD Y) (pwnLo p q M) (pwnHi p q M) _ _ _ _ _ _ w HT HLV HRX HRY HLM HEM HIX HIY qx qy HN1 (Lib.hid HB1) HN2 (Lib.hid HB2)
   (Lib.hid fun w h => pown_any p q M w h lx.1 lx.2) HSG HI1 ?_ ?_ ?_ ?_ (Lib.hid fun w => pmin_any p q r t w lx.1 lx.2 ly.1 ly.2) (Lib.hid fun w => pmax_any p q r t w lx.1 lx.2 ly.1 ly.2) (Lib.hid fun w => pabs_any p q w lx.1 lx.2) ?_
 · rcases Int.lt_or_le M 0 with hneg | hpos
   · by_cases z : mg X = 0
     · exact .inr (.inr ⟨decide_eq_false (by omega), decide_eq_true hneg, by rw [sk2]; exact decide_eq_true z⟩)
     · obtain ⟨m, hm⟩ : ∃ m : Nat, M = -(m : Int) := ⟨(-M).toNat, by omega⟩
       have hm0 : 0 < m := by omega
       have hm1 : m ≤ 1024 := by omega
       obtain ⟨t1, t2⟩ := ti_nwh X m hm1
       have tN := tiN_pos z m
       have tD := tiD_pos X m
       obtain ⟨f1, f2, f3⟩ := hd_neg h hx z hm0 hm1
       subst hm
       have s1 := nw_mono (show nvN X m ≤ 1 * tiD X m from fracN_le0 _ _)
       have s2 := nw_mono (show nvD X m ≤ 1 * tiN X m from fracD_le0 (by omega))
       rw [Nat.one_mul] at s1 s2
       refine .inr (.inl ⟨decide_eq_false (by omega), decide_eq_true hneg, by rw [sk2]; exact decide_eq_false z, m, tiS X m, tiN X m, tiD X m, nvS X m, nvN X m, nvD X m, by rw [IntKind.wrap_i64]; omega, HRP m hm1, Lib.hid ?_, hold_of (by omega) (by omega) f2 ⟨f1, f3⟩⟩)
       intro A1 l1 c1 B1 k1 d1 A2 l2 c2 B2 k2 d2 w g1 g2
       exact rquoq_any false (tiS X m) A1 l1 c1 B1 k1 d1 1 1 A2 l2 c2 B2 k2 d2 (tiN X m) (tiD X m) w g1 g2 (by decide) (by decide) (by omega) (by omega) (by omega)
   · obtain ⟨m, hm⟩ : ∃ m : Nat, M = (m : Int) := ⟨M.toNat, by omega⟩
     subst hm
     have hm1 : m ≤ 1024 := by omega
     obtain ⟨t1, t2⟩ := ti_nwh X m hm1
     refine .inl ⟨decide_eq_true hpos, decide_eq_false (by omega), tiS X m, tiN X m, tiD X m, HRP m hm1, hold_of t1 t2 (tiD_pos X m) ?_⟩
     by_cases h0 : m = 0
     · subst h0; exact hd_zero h
     · exact hd_pos h hx (by omega) hm1
 · refine Lib.hid (fun A1 l1 c1 B1 k1 d1 A2 l2 c2 B2 k2 d2 w g1 g2 => ?_)
   have := rcmp_any (sgb X) A1 l1 c1 B1 k1 d1 (fbN X) (fbD X) (sgb Y) A2 l2 c2 B2 k2 d2 (fbN Y) (fbD Y) w g1 g2 (by omega) (by omega) (by omega) (by omega) (by omega) (by omega)
   have e := rc_bits X Y
   unfold sgb at this ⊢
   rwa [e] at this
 · have f1 := hd_min h g hx hy
   have f2 := hd_max h g hx hy
   by_cases hk : key Y < key X
   · have e1 : lsP X Y = Y := if_pos hk
     have e2 : grP X Y = X := if_pos hk
     rw [e1] at f1
     rw [e2] at f2
     exact .inl ⟨decide_eq_true (cmpI_pos0.2 hk), hold_of (by omega) (by omega) p2 f1, hold_of (by omega) (by omega) p1 f2⟩
   · have e1 : lsP X Y = X := if_neg hk
     have e2 : grP X Y = Y := if_neg hk
     rw [e1] at f1
     rw [e2] at f2
     exact .inr ⟨decide_eq_false (fun t => hk (cmpI_pos0.1 t)), hold_of (by omega) (by omega) p1 f1, hold_of (by omega) (by omega) p2 f2⟩
 · have f1 := hd_abs h hx
   rw [sk1]
   cases hs : sgb X
   · exact .inr ⟨rfl, hold_of (by omega) (by omega) p1 f1⟩
   · refine .inl ⟨rfl, Lib.hid (fun A1 l1 c1 B1 k1 d1 w g1 => ?_), hold_of (by omega) (by omega) p1 f1⟩
     have := rneg_any true A1 l1 c1 B1 k1 d1 (fbN X) (fbD X) w g1 (by omega) (by omega)
     rwa [show (!true && decide (fbN X ≠ 0)) = false by rfl] at this
 · refine Lib.hid (fun kk hk => ⟨piLo kk p q, piHi kk p q, (sgb X && decide (stZ kk (sgb X) (fbN X) (fbD X) ≠ 0)), stZ kk (sgb X) (fbN X) (fbD X), Lib.hid fun w => step_all kk p q w hk lx.1 lx.2, Lib.hid fun A1 l1 c1 B1 k1 d1 w g1 => ?_, hold_of (stZ_nw kk X) (by decide) (by omega) (hd_step hk h hx)⟩)
   exact step7_any kk (sgb X) A1 l1 c1 B1 k1 d1 (fbN X) (fbD X) w hk g1 p1 (fun e => by unfold sgb; rw [decide_eq_false (fun t => t ((fbN_zero X).1 e)), Bool.and_false]) (by omega) (by omega)
end Go.Proofs.YtbcaggdgoidlaaaGreatDoor
