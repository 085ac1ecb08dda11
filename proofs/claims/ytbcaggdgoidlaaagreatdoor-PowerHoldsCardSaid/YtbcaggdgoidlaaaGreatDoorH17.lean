/-
 The contracts of the program's own naturals: division. Conditions: those that each theorem names.
-/
import Derived.Test.YtbcaggdgoidlaaaGreatDoorH16
import Derived.Test.YtbcaggdgoidlaaaGreatDoorH12
import Derived.Deep.RegionWith
import Derived.Test.YtbcaggdgoidlaaaGreatDoorH06
import Derived.Test.YtbcaggdgoidlaaaGreatDoorH04
namespace Go.Proofs.YtbcaggdgoidlaaaGreatDoor
open Go.RowKit Nm
set_option maxRecDepth 100000
set_option linter.unusedVariables false
set_option linter.unusedSimpArgs false
theorem Row.pre {w : World} {g : Nat} {L : List Nat} (h : Row w g L) (hL : Ws L) {m c : Nat} (hm : m ≤ L.length) (hc : m ≤ c) (hcm : c ≤ maxLen) : Wds w (some ⟨g, 0, none⟩) m c (L.take m) := by
 refine ⟨by rw [List.length_take]; omega, hc, hcm, hL.take m, fun _ => ⟨_, rfl, h.lt, fun k x hk => ?_⟩⟩
 rw [List.getElem?_take] at hk
 split at hk
 · have hk' : k < L.length := (List.getElem?_eq_some_iff.1 hk).1
   have := h.cell hk'
   rw [List.getElem?_eq_getElem hk'] at hk
   injection hk with hk
   rw [← hk, ← this]
   unfold Addr.add
   split
   · subst_vars; rfl
   · simp
 · cases hk
theorem take_set_in (L : List Nat) (i m x : Nat) : (L.set i x).take m = (L.take m).set i x := by
 apply List.ext_getElem
 · simp
 · intro k h1 h2
   simp only [List.getElem_take, List.getElem_set]
set_option maxHeartbeats 1000000 in
theorem ncut_exact (ad : Addr) (n c : Nat) (xs : List Nat) (w : World) (h : Wds w (some ad) n c xs) (hn : n ≤ 35184372088832) :
   Calls Tryz.prog 100 #[.slice (some ad) n c] w fun e w' => e = .returned (.slice (some ad) (nw (nv xs)) (nw (nv xs))) ∧ w = w' := by
 have hw := fun w (h : Wds w (some ad) n c xs) => nwords_any (some ad) n c xs w h hn
 have hle : nw (nv xs) ≤ n := by have := nw_nv_le h.ws; have := h.len; omega
 have hlc := h.lec
 obtain ⟨m, hm⟩ : ∃ m, m = nw (nv xs) := ⟨_, rfl⟩
 rw [← hm] at hw hle ⊢
 have HW := Lib.hid hw
 clear hw hm
 go_enter Tryz.func100, Tryz.ntmps100
 go_wp2_with fail
 refine (HW.out _ h).mono ?_
 rintro e w1 ⟨rfl, hw1⟩
 subst hw1
 go_wp2_with fail
 refine (HW.out _ h).mono ?_
 rintro e w1 ⟨rfl, hw1⟩
 subst hw1
 clear h
 go_wp2
 go_ret
 exact ⟨rfl, rfl⟩
set_option maxHeartbeats 1000000 in
theorem nback_pre (g m c : Nat) (F : List Nat) (s : Nat) (w0 w : World) (hrow : Row w g F) (hF : Ws F) (hmF : m ≤ F.length) (hm : m ≤ 17592186044416) (hmc : m ≤ c) (hcm : c ≤ maxLen) (hs : s < 32) (hE : Ext w0 w) (hg : w0.heap.size ≤ g) :
   Calls Tryz.prog 112 #[.slice (some ⟨g, 0, none⟩) m c, .int .i64 (s : Int)] w (fun e w' => RetW (nv (F.take m) / 2 ^ s) w0 e w' ∧ Only g w w') := by
 obtain ⟨L0, hL0e⟩ : ∃ L0, L0 = F.take m := ⟨_, rfl⟩
 have hL0 : Ws L0 := by rw [hL0e]; exact hF.take m
 have hlen : L0.length = m := by rw [hL0e, List.length_take]; omega
 have hst0 : BackRel L0 (F.take m) s m 0 := by rw [← hL0e]; exact ⟨hlen, hL0, by simp [nv, Nat.mod_one], fun k hk _ => getD_of hk⟩
 have HST0 := Lib.hid hst0
 rw [← hL0e]
 clear hL0e hst0
 go_enter Tryz.func112, Tryz.ntmps112
 go_wp2
 go_loopw [9] (fun iv wr => ∃ (i : Nat) (L : List Nat), i ≤ m ∧ iv = .int .i64 i ∧ Row wr g L ∧ Ws L ∧ Hid (m ≤ L.length) ∧ Hid (BackRel L0 (L.take m) s m i) ∧ ExtO w0 g w wr) (fun iv _ => m - (intOf iv).toNat)
 case atStart => exact ⟨0, F, Nat.zero_le _, rfl, hrow, hF, Lib.hid hmF, HST0, ⟨hE, Only.refl g w⟩⟩
 case round =>
   obtain ⟨i, L, hi, rfl, hr, hLw, hmL, hrel, hEr⟩ := hrel
   have hLl := hmL.out
   by_cases hlt : i < m
   · have hiL : i < L.length := by omega
     have hc1 := hr.cell hiL
     have hf1 := hr.frozen i
     have ha32 := hLw.get hiL
     have haE : L[i] = L0.getD i 0 := by
       have := hrel.out.same i (by rw [List.length_take]; omega) (Nat.le_refl _)
       rw [List.getElem_take] at this; exact this
     obtain ⟨a, ha⟩ : ∃ a, a = L[i] := ⟨_, rfl⟩
     rw [← ha] at hc1 ha32 haE
     by_cases h2 : i + 1 < m
     · have hiL2 : i + 1 < L.length := by omega
       have hc2 := hr.cell hiL2
       have hb32 := hLw.get hiL2
       have hbE : L[i + 1] = L0.getD (i + 1) 0 := by
         have := hrel.out.same (i + 1) (by rw [List.length_take]; omega) (by omega)
         rw [List.getElem_take] at this; exact this
       obtain ⟨b, hb⟩ : ∃ b, b = L[i + 1] := ⟨_, rfl⟩
       rw [← hb] at hc2 hb32 hbE
       have hor := word_or2 a b ha32 hb32
       have hst := fun lo => hrel.out.step (lo := lo) hL0 hlen hlt hs
       rw [← haE, ← hbE] at hst
       obtain ⟨X, hX⟩ : ∃ X, X = a + 4294967296 * b := ⟨_, rfl⟩
       rw [← hX] at hor hst
       have hX64 : X < 18446744073709551616 := by omega
       have hXd : X / 2 ^ s ≤ X := Nat.div_le_self _ _
       have e1 : (X : Int) / 2 ^ s = ((X / 2 ^ s : Nat) : Int) := by push_cast; rfl
       obtain ⟨Y, hY⟩ : ∃ Y, Y = X / 2 ^ s := ⟨_, rfl⟩
       rw [← hY] at e1 hst hXd
       have e2 : (Y : Int) % 4294967296 = ((Y % 4294967296 : Nat) : Int) := by omega
       have hlo32 : Y % 4294967296 < 4294967296 := by omega
       obtain ⟨lo, hlo⟩ : ∃ lo, lo = Y % 4294967296 := ⟨_, rfl⟩
       rw [← hlo] at e2 hst hlo32
       have hst' := hst lo rfl
       rw [← take_set_in] at hst'
       have HST := Lib.hid hst'
       have hr' := hr.set_ i lo
       have hLw' := hLw.set i hlo32
       have hLl' := Lib.hid (show m ≤ (L.set i lo).length by rw [List.length_set]; exact hLl)
       clear hst hst' hlo hY hX ha hb haE hbE hrel hLl
       go_wp2
       go_roundw
       case rel => exact ⟨i + 1, _, by omega, by go_num, hr', hLw', hLl', HST, hEr.setCell hg _⟩
       case measure => simp [intOf]; omega
     · have hie : i + 1 = m := by omega
       have hst := fun lo => hrel.out.step (lo := lo) hL0 hlen hlt hs
       rw [← haE, ← getD_out (l := L0) (k := i + 1) (by omega), Nat.mul_zero, Nat.add_zero] at hst
       have hXd : a / 2 ^ s ≤ a := Nat.div_le_self _ _
       have e1 : (a : Int) / 2 ^ s = ((a / 2 ^ s : Nat) : Int) := by push_cast; rfl
       obtain ⟨Y, hY⟩ : ∃ Y, Y = a / 2 ^ s := ⟨_, rfl⟩
       rw [← hY] at e1 hst hXd
       have e2 : (Y : Int) % 4294967296 = (Y : Int) := by omega
       have hst' := hst Y (by omega)
       rw [← take_set_in] at hst'
       have HST := Lib.hid hst'
       have hr' := hr.set_ i Y
       have hLw' := hLw.set i (x := Y) (by omega)
       have hLl' := Lib.hid (show m ≤ (L.set i Y).length by rw [List.length_set]; exact hLl)
       clear hst hst' hY ha haE hrel hLl hie
       go_wp2
       go_roundw
       case rel => exact ⟨i + 1, _, by omega, by go_num, hr', hLw', hLl', HST, hEr.setCell hg _⟩
       case measure => simp [intOf]; omega
   · have hval := hrel.out.val
     rw [List.take_of_length_le (by rw [List.length_take]; omega)] at hval
     have h1 := nv_lt hL0
     rw [hlen] at h1
     rw [Nat.mod_eq_of_lt (by rw [show i = m by omega]; exact Nat.lt_of_le_of_lt (Nat.div_le_self _ _) h1)] at hval
     have HV := Lib.hid hval
     have hW := hr.pre hLw hLl hmc hcm
     clear hval h1 hrel hLl
     go_wp2_with fail
     refine (ncut_exact _ _ _ _ _ hW (by omega)).mono ?_
     rintro e w4 ⟨rfl, rfl⟩
     have hR := hW.cut
     rw [HV.out] at hR
     rw [HV.out]
     go_wp2
     go_ret
     exact ⟨⟨_, _, _, rfl, hR, hEr.1⟩, hEr.2⟩
theorem top_nd {U : Nat} (h : U ≠ 0) : ∃ (hk : nw U - 1 < (nd U).length), 0 < (nd U)[nw U - 1] ∧ (nd U)[nw U - 1] < 4294967296 ∧ bl U = 32 * (nw U - 1) + bl (nd U)[nw U - 1] := by
 obtain ⟨hk, h1, h2⟩ := top_word (Ws.nd U) (by rw [nv_nd]; exact h)
 simp only [nv_nd] at hk h1 h2
 exact ⟨hk, by omega, (Ws.nd U).get hk, h2⟩
set_option maxHeartbeats 4000000 in
theorem nquo_any (A : Option Addr) (n c : Nat) (xs : List Nat) (B : Option Addr) (m d : Nat) (ys : List Nat) (w : World) (h : Wds w A n c xs) (hn : n ≤ 8796093022208) (k : Wds w B m d ys) (hm : m ≤ 8796093022208) (h1 : nw (nv xs) ≤ 16384) (h2 : nw (nv ys) ≤ 16384) (h0 : nv ys ≠ 0) :
   Calls Tryz.prog 105 #[.slice A n c, .slice B m d] w (RetQR (nv xs / nv ys) (nv xs % nv ys) w) := by
 have hW1 := fun w h => nwords_any A n c xs w h (by omega)
 have hW2 := fun w h => nwords_any B m d ys w h (by omega)
 have hp1 := h.pre
 have hp2 := k.pre
 have hle1 : nw (nv xs) ≤ n := by have := nw_nv_le h.ws; have := h.len; omega
 have hle2 : nw (nv ys) ≤ m := by have := nw_nv_le k.ws; have := k.len; omega
 have hlc1 := h.lec
 have hlc2 := k.lec
 have hcm1 := h.cmax
 have hcm2 := k.cmax
 obtain ⟨V, hV⟩ : ∃ V, V = nv xs := ⟨_, rfl⟩
 obtain ⟨U, hU⟩ : ∃ U, U = nv ys := ⟨_, rfl⟩
 rw [← hV] at hW1 hp1 hle1 h1 ⊢
 rw [← hU] at hW2 hp2 hle2 h2 h0 ⊢
 have hvV := nv_nd V
 have hvU := nv_nd U
 have hq1 : 1 ≤ nw U := by
   rcases Nat.eq_zero_or_pos (nw U) with e | e
   · have := lt_pow_nw U; rw [e] at this; omega
   · exact e
 obtain ⟨htk, ht0, ht32, htb⟩ := top_nd h0
 obtain ⟨tp, htp⟩ : ∃ t, t = (nd U)[nw U - 1] := ⟨_, rfl⟩
 rw [← htp] at ht0 ht32 htb
 have hlV : (nd V).length = nw V := nd_length V
 have hlU : (nd U).length = nw U := nd_length U
 have hVlt := lt_pow_nw V
 have hUlt := lt_pow_nw U
 have hVU : V < U ∨ (U ≤ V ∧ nw U ≤ nw V) := by
   rcases Nat.lt_or_ge V U with e | e
   · exact .inl e
   · exact .inr ⟨e, nw_mono e⟩
 obtain ⟨p, hp⟩ : ∃ p, p = nw V := ⟨_, rfl⟩
 obtain ⟨q, hq⟩ : ∃ q, q = nw U := ⟨_, rfl⟩
 have htpe : ∃ hk : q - 1 < (nd U).length, (nd U)[q - 1] = tp := by subst hq; exact ⟨htk, htp.symm⟩
 rw [← hp] at hW1 hp1 hle1 h1 hlV hVlt hVU
 rw [← hq] at hW2 hp2 hle2 h2 hq1 hlU hUlt hVU htb
 clear htk htp
 obtain ⟨vs, hvs⟩ : ∃ vs, vs = nd V := ⟨_, rfl⟩
 obtain ⟨us, hus⟩ : ∃ us, us = nd U := ⟨_, rfl⟩
 have hUw : Ws us := by rw [hus]; exact Ws.nd U
 rw [← hvs] at hp1 hvV hlV
 rw [← hus] at hp2 hvU hlU htpe
 have hLG : Hid (∀ g w, w.cell? ⟨g, 0, none⟩ = some (.slice A p c) → w.cell? ⟨g, 1, none⟩ = some (.slice B q d) → Wds w A p c vs → Wds w B q d us → Calls Tryz.prog 96 #[.slice (some ⟨g, 0, none⟩) 2 2] w fun e w' => e = .returned (.bool false) ∧ w = w') :=
   Lib.hid (fun g w a b c' d' => nlong_two g 2 A p c vs B q d us w a b c' (by omega) (by rw [hvV, ← hp]; exact h1) d' (by omega) (by rw [hvU, ← hq]; exact h2))
 have HCM := Lib.hid (fun w a b => ncmp_any A p c vs B q d us w a (by omega) b (by omega))
 rw [hvV, hvU] at HCM
 have HW1 := Lib.hid hW1
 have HW2 := Lib.hid hW2
 have HVV := Lib.hid hvV
 have HVU := Lib.hid hvU
 have HP := Lib.hid hp
 have HQ := Lib.hid hq
 have HTB := Lib.hid htb
 have HVL := Lib.hid hVlt
 have HUL := Lib.hid hUlt
 have HTE := Lib.hid htpe
 clear hW1 hW2 hV hU hp hq hvs hus hvV hvU htb hVlt hUlt htpe
 have hpc : p ≤ c := by omega
 have hqd : q ≤ d := by omega
 have hq0 : ((q : Int) == 0) = false := by rw [beq_eq_false_iff_ne]; omega
 go_enter Tryz.func105, Tryz.ntmps105
 go_wp2_with fail
 refine wp_region_steady (Ext w) (by kernel_rfl) (by kernel_rfl) (Ext.refl w).drew ?_
 repeat (refine wpG_step (fun K hK => ?_)
         go_simp
         apply StepG.mk
         intro wz hz
         first
         | (go_simp
            first | exact rfl | exact ⟨rfl, hz⟩)
         | (go_simp
            go_at_call 111
            first
            | (with_reducible refine (HW1.out _ (h.ext hz)).mono ?_)
            | (with_reducible refine (HW2.out _ (k.ext hz)).mono ?_)
            rintro e w8 ⟨rfl, rfl⟩
            exact ⟨rfl, hz⟩)
         refine hK _ ?_
         clear hK K)
 refine wpG_nil ?_
 intro w2 hz2
 have hP2 := hp1.ext hz2
 have hQ2 := hp2.ext hz2
 have hP3 := hP2.alloc (.cells #[.slice A p c, .slice B q d] 35)
 have hQ3 := hQ2.alloc (.cells #[.slice A p c, .slice B q d] 35)
 have hE0 : Ext w (w2.alloc (.cells #[.slice A p c, .slice B q d] 35)) := hz2.alloc _
 have hcell0 : (w2.alloc (.cells #[.slice A p c, .slice B q d] 35)).cell? ⟨w2.heap.size, 0, none⟩ = some (.slice A p c) := by simp
 have hcell1 : (w2.alloc (.cells #[.slice A p c, .slice B q d] 35)).cell? ⟨w2.heap.size, 1, none⟩ = some (.slice B q d) := by simp
 clear hP2 hQ2 hz2 h k hp1 hp2 HW1 HW2
 go_wp2_with fail
 generalize w2.heap.size = g0 at hcell0 hcell1 ⊢
 generalize w2.alloc _ = w3 at hP3 hQ3 hE0 hcell0 hcell1 ⊢
 go_wp2_with (first | (go_at_call 96; refine (hLG.out _ _ hcell0 hcell1 hP3 hQ3).mono ?_; rintro e w' ⟨rfl, rfl⟩))
 refine (HCM.out _ hP3 hQ3).mono ?_
 rintro e w4 ⟨rfl, z, rfl⟩
 have hP4 := hP3.drewN z
 have hQ4 := hQ3.drewN z
 have hE4 := hE0.drewN z
 generalize w3.drewN z = w4 at hP4 hQ4 hE4 ⊢
 clear hP3 hQ3 hE0 hcell0 hcell1 hLG HCM
 rcases hVU with hlt | ⟨hle, hqp⟩
 · have HF : Hid (V / U = 0 ∧ V % U = V) := Lib.hid ⟨Nat.div_eq_of_lt hlt, Nat.mod_eq_of_lt hlt⟩
   have hNN := nnorm_any A p c vs w4 hP4 (by omega)
   rw [HVV.out] at hNN
   have HN := Lib.hid hNN
   have hcc : cmpN V U = -1 := cmpN_lt hlt
   rw [hcc]
   clear hNN hlt hcc
   go_wp2_with fail
   refine HN.out.mono ?_
   rintro e w5 ⟨g, m', rfl, hr5, hg5, hm', hE5⟩
   have hW5 := hr5.wds (Ws.nd V) (n := m') (c := m') (by rw [nd_length, hm']) (Nat.le_refl _) (by rw [hm', ← HP.out]; unfold maxLen; omega)
   clear hm'
   go_wp2
   go_ret3
   exact ⟨_, _, _, _, _, _, rfl, by rw [HF.out.1]; exact Wds.nil_ (by unfold maxLen; omega), by rw [HF.out.2]; exact hW5, hE4.trans hE5⟩
 · have hcc : 0 ≤ cmpN V U := by unfold cmpN; rw [if_neg (by omega)]; split <;> omega
   obtain ⟨cc, hcce⟩ : ∃ cc, cc = cmpN V U := ⟨_, rfl⟩
   rw [← hcce] at hcc ⊢
   have HLE := Lib.hid hle
   clear hcce hle
   by_cases h1q : q = 1
   · obtain ⟨ad, hx, hB, _, hcT⟩ := hQ4.at_ (k := 0) (by omega)
     have hte : us[0] = tp := by
       obtain ⟨hk, e⟩ := HTE.out
       simp only [h1q] at e
       exact e
     rw [hte, show ad.add 0 = ad by simp [Addr.add]] at hcT
     have hUt : U = tp := by
       rw [← HVU.out]
       have := nv_drop_eq (l := us) (k := 0) hx
       rw [List.drop_zero, hte, List.drop_of_length_le (by omega), nv_nil, Nat.mul_zero, Nat.add_zero] at this
       exact this
     have hNO := none_any A p c vs tp w4 hP4 (by omega) ht0 ht32
     rw [HVV.out] at hNO
     have HN := Lib.hid hNO
     have HUT := Lib.hid hUt
     subst hB
     subst h1q
     clear hNO hUt hte HQ HTB HTE HVU HUL
     go_wp2_with fail
     refine HN.out.mono ?_
     rintro e w5 ⟨A5, n5, c5, B5, m5, d5, rfl, hQ5, hR5, hE5⟩
     rw [← HUT.out] at hQ5 hR5
     go_wp2
     go_ret3
     exact ⟨_, _, _, _, _, _, rfl, hQ5, hR5, hE4.trans hE5⟩
   · have hq2 : 2 ≤ q := by omega
     have hbt : 1 ≤ bl tp := bl_pos (by omega)
     have hbt2 : bl tp ≤ 32 := by rw [bl_le_iff]; exact ht32
     have HLZ := Lib.hid (fun w => lz32_any tp w ht32)
     obtain ⟨s, hs⟩ : ∃ s : Nat, s = 32 - bl tp := ⟨_, rfl⟩
     have hs32 : s < 32 := by omega
     have hse : 32 - (bl tp : Int) = (s : Int) := by omega
     rw [hse] at HLZ
     have HUS : Hid (nw (U * 2 ^ s) = q ∧ U * 2 ^ s < 4294967296 ^ q ∧ 4294967296 ^ q ≤ 2 * (U * 2 ^ s)) := Lib.hid (by
       have e1 : bl (U * 2 ^ s) = 32 * q := by
         rw [bl_mul_pow s h0, HTB.out]; omega
       refine ⟨by rw [nw_bl, e1]; omega, ?_, ?_⟩
       · rw [pow32, ← bl_le_iff, e1]; exact Nat.le_refl _
       · have h3 : ¬ bl (U * 2 ^ s) ≤ 32 * q - 1 := by omega
         rw [bl_le_iff] at h3
         rw [pow32, show 32 * q = 32 * q - 1 + 1 by omega, Nat.pow_succ]
         omega)
     have HUQ : Hid (4294967296 ^ (q - 1) ≤ U) := Lib.hid (by
       rcases Nat.lt_or_ge U (4294967296 ^ (q - 1)) with e | e
       · have := (nw_le_iff U (q - 1)).2 e
         have := HQ.out
         omega
       · exact e)
     have HSA := Lib.hid (fun wz hz => nshift_any A p c vs s wz hz (by omega) hs32)
     have HSB := Lib.hid (fun wz hz => nshift_any B q d us s wz hz (by omega) hs32)
     rw [HVV.out] at HSA
     rw [HVU.out] at HSB
     obtain ⟨hk, htpe⟩ := HTE.out
     obtain ⟨ad, hx, hB, _, hcT⟩ := hQ4.at_ (k := q - 1) (by omega)
     rw [htpe] at hcT
     subst hB
     have b1 : (q : Int) - 1 = ((q - 1 : Nat) : Int) := by omega
     have b2 : ((q - 1 : Nat) : Int) < (q : Int) := by omega
     have hcf : decide (cc < 0) = false := decide_eq_false (by omega)
     have hq1f : ((q : Int) == 1) = false := by rw [beq_eq_false_iff_ne]; omega
     clear hs hse hbt hbt2 HTE hk htpe hx HTB h1q
     go_wp2_with (go_at_call 120; refine (HLZ.out _).mono ?_; rintro e w' ⟨rfl, rfl⟩)
     clear hcT HLZ
     go_region_with (first
       | (go_at_call_of 121 (Value.slice A p c); refine (HSA.out _ ?_).mono ?_; (first | exact hP4 | exact hP4.drew.ext hEv); rintro e wu ⟨gu, Lu, rfl, hru, hLuw, hLul, hLuv, hgu, hEu⟩)
       | (go_at_call_of 121 (Value.slice (some ad) q d); refine (HSB.out _ ?_).mono ?_; (first | exact hQ4 | exact hQ4.drew.ext hEu); rintro e wv ⟨gv, Lv, rfl, hrv, hLvw, hLvl, hLvv, hgv, hEv⟩))
     have hRu := hru.ext hEv
     have hne : gv ≠ gu := by have := hru.lt; omega
     have hEw : Ext w wv := hE4.trans ((Ext.refl w4).drew.trans (hEu.trans hEv))
     have hgu4 : w.heap.size ≤ gu := Nat.le_trans hE4.size hgu
     have hgv4 : w.heap.size ≤ gv := by have := hru.lt; omega
     clear hru hEv hEu hE4 hgu hgv HSA HSB hP4 hQ4
     generalize wv = wx at hRu hrv hEw ⊢
     obtain ⟨K, hK⟩ : ∃ K, K = p - q + 1 := ⟨_, rfl⟩
     have hKe : (p : Int) - (q : Int) + 1 = (K : Int) := by omega
     have hKq : K + q = p + 1 := by omega
     have hmk := run_make32 K (by omega) wx
     have hr0 := Row.new wx (List.replicate K 0)
     have hE5 : Ext w (wx.alloc (.cells (u32s (List.replicate K 0)).toArray 61)) := hEw.alloc _
     have hu5 := hRu.alloc (.cells (u32s (List.replicate K 0)).toArray 61)
     have hv5 := hrv.alloc (.cells (u32s (List.replicate K 0)).toArray 61)
     have hnu : wx.heap.size ≠ gu := by have := hRu.lt; omega
     have hnv : wx.heap.size ≠ gv := by have := hrv.lt; omega
     have hgq : w.heap.size ≤ wx.heap.size := hEw.size
     have HQR := Lib.hid (QuoRel.start (a := V) (b := U) (s := s) (n := q) (la := p) (K := K) (U := Lu) HVL.out HUQ.out hKq (by omega) (by omega) hLuw hLuv)
     obtain ⟨vt, hvt⟩ : ∃ vt, vt = Lv.take q := ⟨_, rfl⟩
     have hvtl : vt.length = q := by rw [hvt, List.length_take]; omega
     have hvtv : nv vt = U * 2 ^ s := by rw [hvt, nv_take_of_lt (by rw [hLvv]; exact HUS.out.2.1), hLvv]
     have hvtw : Ws vt := by rw [hvt]; exact hLvw.take q
     have HDG := Lib.hid (fun (Lu' Lq : List Nat) (r : Nat) (hr : r + 1 ≤ K) (hqr : QuoRel (V * 2 ^ s) (U * 2 ^ s) q K Lu' Lq (r + 1)) => hqr.dig hr hq2 hvtv hvtl hvtw (by rw [hvtv]; exact HUS.out.2.2))
     have hVp : 0 < U * 2 ^ s := Nat.mul_pos (by omega) (Nat.pow_pos (by omega))
     have HVP := Lib.hid (And.intro hVp hvtv)
     have HK := Lib.hid hK
     have HVT := Lib.hid hvt
     clear hRu hrv hEw hK hvt hvtl hvtv hvtw hVp hLuw hLul hLuv hLvw hLvv
     go_wp2
     clear hmk
     generalize wx.alloc _ = w5 at hr0 hE5 hu5 hv5 ⊢
     generalize wx.heap.size = gq at hr0 hnu hnv hgq ⊢
     go_loopw [74] (fun iv wr => ∃ (i : Nat) (Lu Lq : List Nat), i ≤ K ∧ iv = .int .i64 i ∧ Row wr gu Lu ∧ Row wr gq Lq ∧ Row wr gv Lv ∧ Hid (QuoRel (V * 2 ^ s) (U * 2 ^ s) q K Lu Lq (K - i)) ∧ Ext w wr) (fun iv _ => K - (intOf iv).toNat)
     case atStart => exact ⟨0, Lu, _, Nat.zero_le _, rfl, hu5, hr0, hv5, HQR, hE5⟩
     case round =>
       obtain ⟨i, Lu', Lq, hi, rfl, hru, hrq, hrv, hrel, hEr⟩ := hrel
       by_cases hlt : i < K
       · obtain ⟨r, hr⟩ : ∃ r, r = K - 1 - i := ⟨_, rfl⟩
         have hrK : r + 1 ≤ K := by omega
         have hri : (K : Int) - 1 - (i : Int) = (r : Int) := by omega
         have hrel2 : QuoRel (V * 2 ^ s) (U * 2 ^ s) q K Lu' Lq (r + 1) := by rw [show r + 1 = K - i by omega]; exact hrel.out
         have D := HDG.out Lu' Lq r hrK hrel2
         have hql := hrel2.qlen
         have hul := hrel2.ulen
         have hx32 := D.q_lt
         have HD := Lib.hid (ndigit_any gu r q (K + q) (p + 1 - r) Lu' vt Lv gv (q + 1) w wr hru D (by omega) hrv HVT.out hne hEr hgu4)
         obtain ⟨x, hx⟩ : ∃ x, x = nv Lu' / (4294967296 ^ r * nv vt) := ⟨_, rfl⟩
         rw [← hx] at HD hx32
         have HST := Lib.hid (fun (U' : List Nat) h1 h2 (h3 : nv U' + x * (4294967296 ^ r * nv vt) = nv Lu') => hrel2.step (x := x) (U' := U') hrK HVP.out.1 (by rw [hx, HVP.out.2]) hx32 h1 h2 (by rw [hx, HVP.out.2] at h3; exact h3))
         have HRI := Lib.hid hr
         have hrq' : r < Lq.length := by omega
         clear hrel hrel2 D hx hr hul
         go_wp2_with fail
         rw [show r + q + 1 - r = q + 1 by omega]
         refine HD.out.mono ?_
         rintro e w6 ⟨rfl, ⟨U', hru6, hU'w, hU'l, hU'v⟩, hrv6, hE6⟩
         have hrel6 := Lib.hid (HST.out U' hU'l hU'w hU'v)
         have hrq6 := hrq.only hnu hE6.2
         have hE6 := hE6.1
         have hf6 := hrq6.frozen r
         have hc6 := hrq6.cell hrq'
         have hrq7 := hrq6.set_ r x
         clear hU'v
         go_wp2
         go_roundw
         case rel => exact ⟨i + 1, U', _, by omega, by go_num, hru6.far (Ne.symm hnu) _, hrq7, hrv6.far (Ne.symm hnv) _, Lib.hid (by rw [show K - (i + 1) = r by have := HRI.out; omega]; exact hrel6.out), hE6.setCell hgq _⟩
         case measure => simp [intOf]; omega
       · have hiK : i = K := by omega
         rw [hiK, Nat.sub_self] at hrel
         have hend := hrel.out.end_ (by omega)
         have hul := hrel.out.ulen
         have huw := hrel.out.uws
         have hqw := hrel.out.qws
         have hql := hrel.out.qlen
         have hW1 := hru.pre huw (m := q) (c := p + 1) (by omega) (by omega) (by unfold maxLen; omega)
         have hlt2 : nv Lu' < 4294967296 ^ q := by
           have h3 := hrel.out.lt
           rw [Nat.pow_zero, Nat.one_mul] at h3
           exact Nat.lt_trans h3 HUS.out.2.1
         have hnvt : nv (Lu'.take q) = V % U * 2 ^ s := by rw [nv_take_of_lt hlt2]; exact hend.2
         have HCX := Lib.hid (ncut_exact ⟨gu, 0, none⟩ q (p + 1) (Lu'.take q) wr hW1 (by omega))
         rw [hnvt] at HCX
         have hnwq : nw (V % U * 2 ^ s) ≤ q := by rw [nw_le_iff, ← hend.2]; exact hlt2
         have hWq := hrq.wds hqw hql (Nat.le_refl _) (by unfold maxLen; omega)
         have HCQ := Lib.hid (ncut_exact ⟨gq, 0, none⟩ K K Lq wr hWq (by omega))
         have hnQ : nw (nv Lq) ≤ Lq.length := nw_nv_le hqw
         have hndq := nd_take hqw
         rw [hend.1] at HCQ hnQ hndq
         have HNQ := Lib.hid hndq
         obtain ⟨rr, hrr⟩ : ∃ rr, rr = nw (V % U * 2 ^ s) := ⟨_, rfl⟩
         rw [← hrr] at HCX hnwq
         have HBK := Lib.hid (fun wz hz hE => nback_pre gu rr rr Lu' s w wz hz huw (by omega) (by omega) (Nat.le_refl _) (by unfold maxLen; omega) hs32 hE hgu4)
         have hnr : nv (Lu'.take rr) / 2 ^ s = V % U := by
           rw [nv_take_of_lt (by rw [hend.2, hrr]; exact lt_pow_nw _), hend.2, Nat.mul_div_cancel _ (Nat.pow_pos (by omega))]
         rw [hnr] at HBK
         clear hrel hiK hend hW1 hlt2 hnvt hrr hnr
         go_wp2_with fail
         refine HCX.out.mono ?_
         rintro e w6 ⟨rfl, rfl⟩
         go_wp2_with fail
         refine HCQ.out.mono ?_
         rintro e w7 ⟨rfl, rfl⟩
         go_wp2_with fail
         refine (HBK.out _ hru hEr).mono ?_
         rintro e w8 ⟨⟨A8, n8, c8, rfl, hR8, hE8⟩, hO8⟩
         have hQ8 := (hrq.only hnu hO8).pre hqw (m := nw (V / U)) (c := nw (V / U)) hnQ (Nat.le_refl _) (by unfold maxLen; omega)
         rw [← HNQ.out] at hQ8
         go_wp2
         go_ret3
         exact ⟨_, _, _, _, _, _, rfl, hQ8, hR8, hE8⟩
end Go.Proofs.YtbcaggdgoidlaaaGreatDoor

set_option linter.unusedVariables false
set_option linter.unusedSimpArgs false
namespace Go.Proofs.YtbcaggdgoidlaaaGreatDoor.Rn
open Nm
theorem rr_alike {Z W : Nat} (h : ∀ t u : Nat, t < 18014398509481984 → (Z < 2 * (t * 2 ^ u) ↔ W < 2 * (t * 2 ^ u)) ∧ (2 * (t * 2 ^ u) < Z ↔ 2 * (t * 2 ^ u) < W)) (d : Int) (neg : Bool) : rnd d neg Z = rnd d neg W := by
 have hrv : ∀ k, (Z < 4 * rv k ↔ W < 4 * rv k) ∧ (4 * rv k < Z ↔ 4 * rv k < W) := fun k => by
   obtain ⟨s, h1, _, h3, _⟩ := rv_dvd k
   have := h s (k / 4503599627370496 - 1 + 1) (by omega)
   have e : s * 2 ^ (k / 4503599627370496 - 1 + 1) = rv k * 2 := by rw [h1, Nat.pow_succ, Nat.mul_assoc]
   rw [e] at this
   rw [show 4 * rv k = 2 * (rv k * 2) by omega]
   exact this
 have hmid : ∀ k, (Z < 2 * (rv k + rv (k + 1)) ↔ W < 2 * (rv k + rv (k + 1))) ∧ (2 * (rv k + rv (k + 1)) < Z ↔ 2 * (rv k + rv (k + 1)) < W) := fun k => by
   obtain ⟨s, h1, h2, h3, _⟩ := rv_dvd k
   have := h (2 * s + 1) (k / 4503599627370496 - 1) (by omega)
   have e : rv k + rv (k + 1) = (2 * s + 1) * 2 ^ (k / 4503599627370496 - 1) := by
     rw [h1, h2, ← Nat.add_mul]; congr 1; omega
   rw [e]; exact this
 have hr : rung (Z / 4) = rung (W / 4) := by
   obtain ⟨a1, a2⟩ := rung_spec (Z / 4)
   have b1 := (hrv (rung (Z / 4))).1
   have b2 := (hrv (rung (Z / 4) + 1)).1
   exact (rung_of_rv _ (by omega) (by omega)).symm
 have e0 : Z = 4 * rv (rung (W / 4)) ↔ W = 4 * rv (rung (W / 4)) := by
   have := hrv (rung (W / 4))
   omega
 have e1 := (hmid (rung (W / 4))).2
 have e2 : Z = 2 * (rv (rung (W / 4)) + rv (rung (W / 4) + 1)) ↔ W = 2 * (rv (rung (W / 4)) + rv (rung (W / 4) + 1)) := by
   have := hmid (rung (W / 4))
   omega
 have ha : away d neg Z = away d neg W := by
   unfold away
   rw [hr, decide_eq_decide.2 e1, decide_eq_decide.2 e2]
   by_cases h0 : Z = 4 * rv (rung (W / 4))
   · rw [if_pos h0, if_pos (e0.1 h0)]
   · rw [if_neg h0, if_neg (fun h => h0 (e0.2 h))]
 unfold rnd rr
 rw [hr, ha]
theorem rnd_mark {q A B N M : Nat} (hM : 0 < M) (hq : 18014398509481984 ≤ q) (hlo : q * (M * 2 ^ (A + 1)) < N * 2 ^ B) (hhi : N * 2 ^ B < (q + 1) * (M * 2 ^ (A + 1))) (d : Int) (neg : Bool) :
   rnd d neg (zq ((2 * q + 1) * 2 ^ A) (2 ^ B)) = rnd d neg (zq N M) := by
 refine rr_alike (fun t u ht => ?_) d neg
 have hB : 0 < 2 ^ B := two_pow_pos B
 have hA : 0 < 2 ^ A := two_pow_pos A
 rw [zq_lt hB, zq_gt hB, zq_lt hM, zq_gt hM, Nat.mul_assoc, ← Nat.pow_add]
 have hN : ∀ C : Nat, (N < C ↔ N * 2 ^ B < C * 2 ^ B) ∧ (C < N ↔ C * 2 ^ B < N * 2 ^ B) := fun C => ⟨(Nat.mul_lt_mul_right hB).symm, (Nat.mul_lt_mul_right hB).symm⟩
 rw [(hN _).1, (hN _).2]
 have e1 : t * 2 ^ u * M * 2 ^ B = t * 2 ^ (u + B) * M := by rw [Nat.pow_add, Nat.mul_right_comm, Nat.mul_assoc t]
 rw [e1]
 obtain ⟨P, hP⟩ : ∃ P, P = N * 2 ^ B := ⟨_, rfl⟩
 rw [← hP] at hlo hhi ⊢
 rw [Nat.pow_succ] at hlo hhi
 rcases Nat.lt_or_ge A (u + B) with hc | hc
 · obtain ⟨c, hce⟩ : ∃ c, u + B = A + 1 + c := ⟨u + B - (A + 1), by omega⟩
   rw [hce, Nat.pow_add 2 (A + 1) c, Nat.pow_succ]
   obtain ⟨T, hT⟩ : ∃ T, T = t * 2 ^ c := ⟨_, rfl⟩
   have e2 : t * (2 ^ A * 2 * 2 ^ c) = 2 * T * 2 ^ A := by rw [hT]; simp only [Nat.mul_assoc, Nat.mul_comm, Nat.mul_left_comm]
   rw [e2]
   have e3 : 2 * T * 2 ^ A * M = T * (M * (2 ^ A * 2)) := by simp only [Nat.mul_assoc, Nat.mul_comm, Nat.mul_left_comm]
   rw [e3, Nat.mul_lt_mul_right hA, Nat.mul_lt_mul_right hA]
   generalize M * (2 ^ A * 2) = E at *
   constructor
   · constructor
     · intro h
       have h2 : (q + 1) * E ≤ T * E := Nat.mul_le_mul_right E (by omega)
       omega
     · intro h
       have h2 : q * E < T * E := by omega
       have := Nat.lt_of_mul_lt_mul_right h2
       omega
   · constructor
     · intro h
       have h2 : T * E ≤ q * E := Nat.mul_le_mul_right E (by omega)
       omega
     · intro h
       have h2 : T * E < (q + 1) * E := by omega
       have := Nat.lt_of_mul_lt_mul_right h2
       omega
 · have h1 : t * 2 ^ (u + B) ≤ t * 2 ^ A := Nat.mul_le_mul_left t (Nat.pow_le_pow_right (by omega) hc)
   have h2 : (t + 1) * 2 ^ A ≤ q * 2 ^ A := Nat.mul_le_mul_right _ (by omega)
   rw [Nat.add_mul, Nat.one_mul] at h2
   have h3 : t * 2 ^ (u + B) * M ≤ q * 2 ^ A * M := Nat.mul_le_mul_right M (by omega)
   have e4 : q * (M * (2 ^ A * 2)) = 2 * (q * 2 ^ A * M) := by simp only [Nat.mul_assoc, Nat.mul_comm, Nat.mul_left_comm]
   rw [e4] at hlo
   have e5 : (2 * q + 1) * 2 ^ A = q * 2 ^ A + q * 2 ^ A + 2 ^ A := by rw [Nat.add_mul, Nat.mul_assoc, Nat.one_mul]; omega
   rw [e5]
   generalize t * 2 ^ (u + B) * M = X at *
   generalize t * 2 ^ (u + B) = Y at *
   generalize q * 2 ^ A * M = Z at *
   generalize q * 2 ^ A = V at *
   constructor
   · constructor
     · intro h; omega
     · intro h; omega
   · constructor
     · intro h; omega
     · intro h; omega
theorem rnd_quo {X Y q : Nat} {m : Bool} {e : Int} {N M A B : Nat} (hY : 0 < Y) (hM : 0 < M) (hq : q = X / Y) (hm : m = decide (X % Y ≠ 0)) (hb : m = true → 55 ≤ bl q) (hAB : (A : Int) - B = e + 1075) (hN : X * 2 ^ A * M = N * (Y * 2 ^ B)) (d : Int) (neg : Bool) :
   rnd d neg (zd (2 * q + m.toNat) (e - 1)) = rnd d neg (zq N M) := by
 have hB : 0 < 2 ^ B := two_pow_pos B
 have hA : 0 < 2 ^ A := two_pow_pos A
 have hdm := Nat.div_add_mod X Y
 have hlt := Nat.mod_lt X hY
 rw [← hq] at hdm
 cases m with
 | false =>
   have h0 : X % Y = 0 := by have := of_decide_eq_false hm.symm; omega
   rw [h0, Nat.add_zero] at hdm
   rw [Bool.toNat_false, Nat.add_zero]
   have e1 : zd (2 * q) (e - 1) = zq (2 * q * 2 ^ A) (2 ^ (B + 1)) := by rw [zd_of (A := A) (B := B + 1) (by omega)]
   rw [e1]
   congr 1
   refine zq_congr (two_pow_pos _) hM ?_
   refine Nat.eq_of_mul_eq_mul_right hY ?_
   rw [Nat.pow_succ]
   have a1 : 2 * q * 2 ^ A * M * Y = 2 * (Y * q * 2 ^ A * M) := by simp only [Nat.mul_assoc, Nat.mul_comm, Nat.mul_left_comm]
   have a2 : N * (2 ^ B * 2) * Y = 2 * (N * (Y * 2 ^ B)) := by simp only [Nat.mul_assoc, Nat.mul_comm, Nat.mul_left_comm]
   rw [a1, a2, hdm, hN]
 | true =>
   have h0 : X % Y ≠ 0 := of_decide_eq_true hm.symm
   have hq55 : 18014398509481984 ≤ q := by
     have h1 := hb rfl
     rcases Nat.lt_or_ge q 18014398509481984 with h | h
     · have : bl q ≤ 54 := by rw [bl_le_iff]; exact h
       omega
     · exact h
   rw [Bool.toNat_true]
   have e1 : zd (2 * q + 1) (e - 1) = zq ((2 * q + 1) * 2 ^ A) (2 ^ (B + 1)) := by rw [zd_of (A := A) (B := B + 1) (by omega)]
   rw [e1]
   have hYp : Y * 2 ^ B * q = Y * q * 2 ^ B := Nat.mul_right_comm _ _ _
   refine rnd_mark hM hq55 ?_ ?_ d neg
   · refine Nat.lt_of_mul_lt_mul_right (a := Y) ?_
     rw [Nat.pow_succ, Nat.pow_succ]
     have a1 : q * (M * (2 ^ A * 2)) * Y = Y * q * (2 * (2 ^ A * M)) := by simp only [Nat.mul_assoc, Nat.mul_comm, Nat.mul_left_comm]
     have a2 : N * (2 ^ B * 2) * Y = 2 * (N * (Y * 2 ^ B)) := by simp only [Nat.mul_assoc, Nat.mul_comm, Nat.mul_left_comm]
     have a3 : 2 * (X * 2 ^ A * M) = X * (2 * (2 ^ A * M)) := by simp only [Nat.mul_assoc, Nat.mul_comm, Nat.mul_left_comm]
     rw [a1, a2, ← hN, a3]
     have hpos : 0 < 2 * (2 ^ A * M) := Nat.mul_pos (by omega) (Nat.mul_pos hA hM)
     exact (Nat.mul_lt_mul_right hpos).2 (by omega)
   · refine Nat.lt_of_mul_lt_mul_right (a := Y) ?_
     rw [Nat.pow_succ, Nat.pow_succ]
     have a1 : (q + 1) * (M * (2 ^ A * 2)) * Y = Y * (q + 1) * (2 * (2 ^ A * M)) := by simp only [Nat.mul_assoc, Nat.mul_comm, Nat.mul_left_comm]
     have a2 : N * (2 ^ B * 2) * Y = 2 * (N * (Y * 2 ^ B)) := by simp only [Nat.mul_assoc, Nat.mul_comm, Nat.mul_left_comm]
     have a3 : 2 * (X * 2 ^ A * M) = X * (2 * (2 ^ A * M)) := by simp only [Nat.mul_assoc, Nat.mul_comm, Nat.mul_left_comm]
     rw [a1, a2, ← hN, a3]
     have hpos : 0 < 2 * (2 ^ A * M) := Nat.mul_pos (by omega) (Nat.mul_pos hA hM)
     refine (Nat.mul_lt_mul_right hpos).2 ?_
     rw [Nat.mul_add, Nat.mul_one]; omega
end Go.Proofs.YtbcaggdgoidlaaaGreatDoor.Rn
