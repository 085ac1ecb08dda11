/-
 The contracts of the program's own naturals: one word of a quotient. Conditions: those that each theorem names.
-/
import Derived.Test.YtbcaggdgoidlaaaGreatDoorH14
import Derived.Test.YtbcaggdgoidlaaaGreatDoorH15
namespace Go.Proofs.YtbcaggdgoidlaaaGreatDoor
open Go.RowKit Nm
set_option maxRecDepth 100000
set_option linter.unusedVariables false
set_option linter.unusedSimpArgs false
def Only (g : Nat) (w w' : World) : Prop := ∀ b, b ≠ g → w'.heap[b]? = w.heap[b]?
theorem Only.refl (g : Nat) (w : World) : Only g w w := fun _ _ => rfl
theorem Only.drewN {g : Nat} {w w' : World} (h : Only g w w') (n : Nat) : Only g w (w'.drewN n) := h
theorem Only.setCell {g : Nat} {w w' : World} (h : Only g w w') {p : Addr} (hp : p.block = g) (u : Value) : Only g w (w'.setCell p u) := fun b hb => by
 rw [Below.heap_setCell w' p u b (by rw [hp]; exact hb)]; exact h b hb
theorem Row.only {g b : Nat} {w w' : World} {L : List Nat} (h : Row w b L) (hb : b ≠ g) (ho : Only g w w') : Row w' b L := (ho b hb).trans h
def ExtO (wv : World) (g : Nat) (w0 w : World) : Prop := Ext wv w ∧ Only g w0 w
theorem ExtO.drewN {wv w0 w : World} {g : Nat} (h : ExtO wv g w0 w) (n : Nat) : ExtO wv g w0 (w.drewN n) := ⟨h.1.drewN n, h.2.drewN n⟩
theorem ExtO.setCell {wv w0 w : World} {g : Nat} (h : ExtO wv g w0 w) {p : Addr} (hg : wv.heap.size ≤ p.block) (u : Value) (hp : p.block = g := by rfl) : ExtO wv g w0 (w.setCell p u) := ⟨h.1.setCell hg u, h.2.setCell hp u⟩
set_option maxHeartbeats 400000 in
theorem lz32_any (x : Nat) (w : World) (h : x < 4294967296) :
   Calls Tryz.prog 120 #[.int .u32 (x : Int)] w fun e w' => e = .returned (.int .i64 (32 - (bl x : Int))) ∧ w = w' := by
 have hb : bl x ≤ 32 := by rw [bl_le_iff]; exact h
 have HL := Lib.hid (fun w => len32_any x w h)
 generalize bl x = b at hb HL ⊢
 go_enter Tryz.func120, Tryz.ntmps120
 go_wp2_with (go_at_call 113; refine (HL.out _).mono ?_; rintro e w' ⟨rfl, rfl⟩)
 go_ret
 exact ⟨rfl, rfl⟩
set_option maxHeartbeats 4000000 in
theorem ndigit_any (g k n M c : Nat) (L0 vs Lv : List Nat) (gv d : Nat) (wv w : World) (hrow : Row w g L0) (D : DigIn L0 vs k n M) (hM : M ≤ 17592186044416) (hvr : Row w gv Lv) (hvs : vs = Lv.take n) (hne : gv ≠ g) (hE : Ext wv w) (hg : wv.heap.size ≤ g) :
   Calls Tryz.prog 122 #[.slice (some ⟨g, k, none⟩) (n + 1) c, (.slice (some ⟨gv, 0, none⟩) n d)] w fun e w' => e = .returned (.int .u32 ((nv L0 / (4294967296 ^ k * nv vs) : Nat) : Int)) ∧ (∃ L, Row w' g L ∧ Ws L ∧ L.length = M ∧ nv L + nv L0 / (4294967296 ^ k * nv vs) * (4294967296 ^ k * nv vs) = nv L0) ∧ Row w' gv Lv ∧ ExtO wv g w w' := by
 have hE : ExtO wv g w w := ⟨hE, Only.refl g w⟩
 have hVR : ∀ i, i < n → ∃ h : i < Lv.length, Lv[i] = vs.getD i 0 := fun i hi => by
   have hl := D.vlen
   rw [hvs, List.length_take] at hl
   have hi2 : i < Lv.length := by omega
   refine ⟨hi2, ?_⟩
   rw [hvs, ← getD_of (by rw [List.length_take]; omega), List.getElem_take]
 have VR := Lib.hid hVR
 clear hVR hvs
 have hn2 := D.n2
 have hroom := D.room
 have hlen := D.len
 obtain ⟨T, hT⟩ : ∃ T, T = L0.getD (k + n) 0 * 4294967296 + L0.getD (k + n - 1) 0 := ⟨_, rfl⟩
 obtain ⟨v1, hv1⟩ : ∃ v, v = vs.getD (n - 1) 0 := ⟨_, rfl⟩
 obtain ⟨v2, hv2⟩ : ∃ v, v = vs.getD (n - 2) 0 := ⟨_, rfl⟩
 obtain ⟨u2, hu2⟩ : ∃ v, v = L0.getD (k + n - 2) 0 := ⟨_, rfl⟩
 have hv1b := D.v1_big
 have hv1l := D.v1_lt
 have hunl := D.un_le
 have hst := D.start hT hv1
 have HLESS := Lib.hid (fun (x rest : Nat) => D.less (x := x) (rest := rest) hT hv1 hv2 hu2)
 have HSTOP := Lib.hid (fun (x rest : Nat) => D.stop (x := x) (rest := rest) hT hv1 hv2 hu2)
 have DD := Lib.hid D
 have hc0 := hrow.cell (i := k + n) (by omega)
 have hc1 := hrow.cell (i := k + (n - 1)) (by omega)
 have hc2 := hrow.cell (i := k + (n - 2)) (by omega)
 have hu32 := D.ws.get (k := k + n) (by omega)
 have hu132 := D.ws.get (k := k + (n - 1)) (by omega)
 have hu232 := D.ws.get (k := k + (n - 2)) (by omega)
 rw [getD_of] at hc0 hc1 hc2 hu32 hu132 hu232
 rw [show k + n - 1 = k + (n - 1) by omega] at hT
 rw [show k + n - 2 = k + (n - 2) by omega] at hu2
 rw [← hu2] at hc2 hu232
 obtain ⟨u0, hu0⟩ : ∃ v, v = L0.getD (k + n) 0 := ⟨_, rfl⟩
 obtain ⟨u1, hu1⟩ : ∃ v, v = L0.getD (k + (n - 1)) 0 := ⟨_, rfl⟩
 rw [← hu0] at hc0 hT hu32
 rw [← hu1] at hc1 hT hu132
 obtain ⟨hx1, he1⟩ := VR.out (n - 1) (by omega)
 obtain ⟨hx2, he2⟩ := VR.out (n - 2) (by omega)
 have hd1 := hvr.cell hx1
 have hd2 := hvr.cell hx2
 have hv232 := D.wv.get (k := n - 2) (by have := D.vlen; omega)
 rw [he1] at hd1
 rw [he2] at hd2
 rw [getD_of] at hv232
 rw [← hv1] at hd1 hv1b hv1l hunl
 rw [← hv2] at hd2 hv232
 have hor := word_or3 u0 u1 hu32 hu132
 rw [← hT] at hor
 have hT64 : T < 18446744073709551616 := by omega
 have e1 : (T : Int) / (v1 : Int) = ((T / v1 : Nat) : Int) := by push_cast; rfl
 have e2 : (T : Int) % (v1 : Int) = ((T % v1 : Nat) : Int) := by push_cast; rfl
 have hst1 := hst.1
 have hst2 := hst.2
 have hst3 : T / v1 * v1 + T % v1 = T := by have := Nat.div_add_mod T v1; rw [Nat.mul_comm] at this; exact this
 have hst4 : T % v1 < v1 := Nat.mod_lt _ (by omega)
 obtain ⟨x0, hx0⟩ : ∃ x, x = T / v1 := ⟨_, rfl⟩
 obtain ⟨r0, hr0⟩ : ∃ r, r = T % v1 := ⟨_, rfl⟩
 rw [← hx0] at e1 hst1 hst2 hst3
 rw [← hr0] at e2 hst3 hst4
 have hy0 : ((v1 : Int) == 0) = false := by rw [beq_eq_false_iff_ne]; omega
 have b1 : (n : Int) - 1 = ((n - 1 : Nat) : Int) := by omega
 have b2 : (n : Int) - 2 = ((n - 2 : Nat) : Int) := by omega
 have b3 : ((n - 1 : Nat) : Int) < (n : Int) := by omega
 have b4 : ((n - 2 : Nat) : Int) < (n : Int) := by omega
 have b5 : ((n - 1 : Nat) : Int) < (n : Int) + 1 := by omega
 have b6 : ((n - 2 : Nat) : Int) < (n : Int) + 1 := by omega
 obtain ⟨Q, hQ⟩ : ∃ Q, Q = nv L0 / (4294967296 ^ k * nv vs) := ⟨_, rfl⟩
 have HQ := Lib.hid hQ
 rw [← hQ] at hst1 HLESS HSTOP ⊢
 have HST1 := Lib.hid hst1
 have HST3 := Lib.hid hst3
 clear hst1 hst3 hst hx0 hr0 hT hv1 hv2 hu2 hu0 hu1 hQ hx1 hx2 he1 he2 hunl D
 have HE2 := Lib.hid e2
 go_enter Tryz.func122, Tryz.ntmps122
 go_wp2
 go_quiet (fail)
 go_wp2
 go_quiet (fail)
 go_wp2
 rw [HE2.out]
 go_loopw [7, 8] (fun xv rv wr => ∃ (x rest : Nat), xv = .int .u64 x ∧ rv = .int .u64 rest ∧ x ≤ 4294967297 ∧ rest < 8589934592 ∧ Hid (x * v1 + rest = T) ∧ Hid (Q ≤ x) ∧ ∃ q, wr = w.drewN q) (fun xv _ _ => (intOf xv).toNat)
 case atStart => exact ⟨x0, r0, rfl, rfl, hst2, by omega, HST3, HST1, by (try simp only [World.drewN_drewN]); exact ⟨_, rfl⟩⟩
 case round =>
   obtain ⟨x, rest, rfl, rfl, hx, hrest, hxT, hxQ, q, rfl⟩ := hrel
   by_cases hex : 4294967296 ≤ rest ∨ (x < 4294967296 ∧ x * v2 ≤ rest * 4294967296 + u2)
   · have hs := HSTOP.out x rest hxT.out hxQ.out hx hex
     have hx32 := hs.1
     have HXQ := Lib.hid hs.2
     clear hs
     rcases hex with hr | ⟨hr, hp⟩
     have hq0 : (rest : Int) / 4294967296 = 1 := by omega
     go_wp2
     go_quiet (fail)
     go_wp2
     rotate_left
     by_cases hr2 : 4294967296 ≤ rest
     have hq0 : (rest : Int) / 4294967296 = 1 := by omega
     clear hp
     go_wp2
     go_quiet (fail)
     go_wp2
     rotate_left
     have hq0 : (rest : Int) / 4294967296 = 0 := by omega
     have hq1 : (x : Int) / 4294967296 = 0 := by omega
     have hp64 : x * v2 ≤ 18446744065119617025 := Nat.le_trans (Nat.mul_le_mul (show x ≤ 4294967295 by omega) (show v2 ≤ 4294967295 by omega)) (by omega)
     obtain ⟨p, hpv⟩ : ∃ p, p = x * v2 := ⟨_, rfl⟩
     rw [← hpv] at hp hp64
     have ep : (x : Int) * (v2 : Int) = (p : Int) := by rw [hpv]; exact (Int.natCast_mul x v2).symm
     have hor2 := word_or3 rest u2 (by omega) hu232
     obtain ⟨s2, hs2⟩ : ∃ s, s = rest * 4294967296 + u2 := ⟨_, rfl⟩
     rw [← hs2] at hor2 hp
     have hs64 : s2 < 18446744073709551616 := by omega
     clear hpv hs2
     go_wp2
     go_quiet (fail)
     go_wp2
     generalize decide (s2 < p) = bb
     clear ep hor2 hp hs64 hp64 hq1 hr2 hr
     all_goals
       have hrx := hrow.drewN (q + nq)
       have hEx := hE.drewN (q + nq)
       have hvx := hvr.drewN (q + nq)
       generalize w.drewN (q + nq) = wx at hrx hEx hvx ⊢
       clear hc0 hc1 hc2 hd1 hd2 hrow hE hq0 hxT hvr
       go_loopw [9, 10, 87] (fun bv cv iv wr => ∃ (i br cr : Nat) (L : List Nat), i ≤ n ∧ iv = .int .i64 i ∧ bv = .int .u32 (br : Int) ∧ cv = .int .u64 (cr : Int) ∧ br ≤ 1 ∧ cr < 4294967296 ∧ Row wr g L ∧ Hid (TakeRel L0 vs k n M x L i (cr + br)) ∧ Row wr gv Lv ∧ ExtO wv g w wr) (fun _ _ iv _ => n - (intOf iv).toNat)
       case atStart => exact ⟨0, 0, 0, L0, Nat.zero_le _, rfl, rfl, rfl, by omega, by omega, hrx, Lib.hid (TakeRel.zero DD.out), hvx, hEx⟩
       case round =>
         obtain ⟨i, br, cr, L, hi, rfl, rfl, rfl, hbr, hcr, hrL, hrel, hvr, hEr⟩ := hrel
         have hLl := hrel.out.len
         have hLw := hrel.out.ws
         by_cases hlt : i < n
         · have hc1 := hrL.cell (i := k + i) (by omega)
           have hf1 := hrL.frozen (k + i)
           have hu32 := hLw.get (k := k + i) (by omega)
           rw [getD_of] at hc1 hu32
           obtain ⟨hy, hey⟩ := VR.out i hlt
           have hcY := hvr.cell hy
           rw [hey] at hcY
           have hy32 := DD.out.wv.get (k := i) (by have := DD.out.vlen; omega)
           rw [getD_of] at hy32
           obtain ⟨u, hu⟩ : ∃ u, u = L.getD (k + i) 0 := ⟨_, rfl⟩
           obtain ⟨y, hye⟩ : ∃ y, y = vs.getD i 0 := ⟨_, rfl⟩
           rw [← hu] at hc1 hu32
           rw [← hye] at hcY hy32
           have hp64 : x * y ≤ 18446744065119617025 := Nat.le_trans (Nat.mul_le_mul (show x ≤ 4294967295 by omega) (show y ≤ 4294967295 by omega)) (by omega)
           obtain ⟨p, hpv⟩ : ∃ p, p = x * y := ⟨_, rfl⟩
           rw [← hpv] at hp64
           have ep : (x : Int) * (y : Int) = (p : Int) := by rw [hpv]; exact (Int.natCast_mul x y).symm
           obtain ⟨t, ht⟩ : ∃ t, t = cr + p := ⟨_, rfl⟩
           have ht64 : t < 18446744073709551616 := by omega
           obtain ⟨lo, hlo⟩ : ∃ lo, lo = t % 4294967296 := ⟨_, rfl⟩
           obtain ⟨cr', hcr'⟩ : ∃ c, c = t / 4294967296 := ⟨_, rfl⟩
           obtain ⟨u', hu'⟩ : ∃ u', u' = (u + 4294967296 - (lo + br)) % 4294967296 := ⟨_, rfl⟩
           obtain ⟨hi', hhi⟩ : ∃ h, h = if u < lo + br then 1 else 0 := ⟨_, rfl⟩
           have hlo32 : lo < 4294967296 := by omega
           have hcr32 : cr' < 4294967296 := by omega
           have hhi1 : hi' ≤ 1 := by rw [hhi]; split <;> omega
           have HS := Lib.hid (fun w => sub32_any u lo br u' hi' w hu32 hlo32 hbr hu' hhi)
           have HST := Lib.hid (hrel.out.step DD.out hlt hye hu hbr (t := t) (by rw [ht, hpv]) hlo hcr' hu' hhi)
           have g5 : (cr : Int) + (p : Int) = (t : Int) := by omega
           have g6 : (t : Int) % 4294967296 = (lo : Int) := by omega
           have g7 : (t : Int) / 4294967296 = (cr' : Int) := by omega
           have hr' := hrL.set_ (k + i) u'
           clear hu hye hpv ht hlo hcr' hu' hhi hrel hLl hLw hy hey
           go_wp2_with (go_at_call 127; refine (HS.out _).mono ?_; rintro e w' ⟨rfl, rfl⟩)
           go_roundw
           case rel => exact ⟨i + 1, hi', cr', _, by omega, by go_num, rfl, rfl, hhi1, hcr32, hr', HST, hvr.far hne _, hEr.setCell hg _⟩
           case measure => simp [intOf]; omega
         · have hin : i = n := by omega
           rw [hin] at hrel
           have hc1 := hrL.cell (i := k + n) (by omega)
           have hf1 := hrL.frozen (k + n)
           have hu32 := hLw.get (k := k + n) (by omega)
           rw [getD_of] at hc1 hu32
           obtain ⟨u, hu⟩ : ∃ u, u = L.getD (k + n) 0 := ⟨_, rfl⟩
           rw [← hu] at hc1 hu32
           obtain ⟨u', hu'⟩ : ∃ u', u' = (u + 4294967296 - (cr + br)) % 4294967296 := ⟨_, rfl⟩
           have g6 : (cr : Int) % 4294967296 = (cr : Int) := by omega
           have g7 : (x : Int) % 4294967296 = (x : Int) := by omega
           have hr' := hrL.set_ (k + n) u'
           have hE' := hEr.setCell (p := ⟨g, k + n, none⟩) hg (.int .u32 (u' : Int))
           have hv' := hvr.far (p := ⟨g, k + n, none⟩) hne (.int .u32 (u' : Int))
           by_cases hbo : u < cr + br
           · obtain ⟨hi', hhi⟩ : ∃ h, h = if u < cr + br then 1 else 0 := ⟨_, rfl⟩
             have HS := fun w => sub32_any u cr br u' hi' w hu32 hcr hbr hu' hhi
             have hl := hrel.out.last DD.out hu hcr hbr hu' hhi
             rw [if_pos hbo] at hhi
             subst hhi
             obtain ⟨h1, h2, h3, h4, -⟩ := hl
             have hxe := dig_over DD.out (by rw [← HQ.out]; exact HXQ.out) h3 h2 h1 h4
             rw [← HQ.out] at hxe
             have hx1 : 1 ≤ x := by omega
             have g8 : (x : Int) - 1 = (Q : Int) := by omega
             have g9 : (Q : Int) % 4294967296 = (Q : Int) := by omega
             rw [hxe] at h3
             obtain ⟨L1, hL1⟩ : ∃ L1, L1 = L.set (k + n) u' := ⟨_, rfl⟩
             rw [← hL1] at h1 h2 h3 h4 hr'
             have H3 := Lib.hid h3
             have HG := Lib.hid (GiveRel.mk (L1 := L1) (vs := vs) (k := k) (n := n) (M := M) (L := L1) (i := 0) (c := 0) h1 h2 (by simp [nv]) h4)
             have HSS := Lib.hid HS
             clear hu hu' hrel hLl hLw hin hL1 h3 h4 h1 h2 hxe hbo HS
             go_wp2_with (go_at_call 127; refine (HSS.out _).mono ?_; rintro e w' ⟨rfl, rfl⟩)
             generalize wr.setCell _ _ = wy at hr' hE' hv' ⊢
             clear hvr
             go_loopw [13, 135] (fun ov iv wr => ∃ (i o : Nat) (L : List Nat), i ≤ n ∧ iv = .int .i64 i ∧ ov = .int .u32 (o : Int) ∧ o ≤ 1 ∧ Row wr g L ∧ Hid (GiveRel L1 vs k n M L i o) ∧ Row wr gv Lv ∧ ExtO wv g w wr) (fun _ iv _ => n - (intOf iv).toNat)
             case atStart => exact ⟨0, 0, L1, Nat.zero_le _, rfl, rfl, by omega, hr', HG, hv', hE'⟩
             case round =>
               obtain ⟨i, o, L, hi, rfl, rfl, ho, hrL, hrel, hvr, hEr⟩ := hrel
               have hLl := hrel.out.len
               have hLw := hrel.out.ws
               by_cases hlt : i < n
               · have hc1 := hrL.cell (i := k + i) (by omega)
                 have hf1 := hrL.frozen (k + i)
                 have hu32 := hLw.get (k := k + i) (by omega)
                 rw [getD_of] at hc1 hu32
                 obtain ⟨hy, hey⟩ := VR.out i hlt
                 have hcY := hvr.cell hy
                 rw [hey] at hcY
                 have hy32 := DD.out.wv.get (k := i) (by have := DD.out.vlen; omega)
                 rw [getD_of] at hy32
                 obtain ⟨u, hu⟩ : ∃ u, u = L.getD (k + i) 0 := ⟨_, rfl⟩
                 obtain ⟨y, hye⟩ : ∃ y, y = vs.getD i 0 := ⟨_, rfl⟩
                 rw [← hu] at hc1 hu32
                 rw [← hye] at hcY hy32
                 obtain ⟨lo, hlo⟩ : ∃ lo, lo = (u + y + o) % 4294967296 := ⟨_, rfl⟩
                 obtain ⟨o', ho'⟩ : ∃ c, c = (u + y + o) / 4294967296 := ⟨_, rfl⟩
                 have ho1 : o' ≤ 1 := by omega
                 have HS := Lib.hid (fun w => add32_any u y o lo o' w hu32 hy32 ho hlo ho')
                 have HST := Lib.hid (hrel.out.step hroom hlt hye hu hlo ho')
                 have hr' := hrL.set_ (k + i) lo
                 clear hu hye hlo ho' hrel hLl hLw hy hey
                 go_wp2_with (go_at_call 128; refine (HS.out _).mono ?_; rintro e w' ⟨rfl, rfl⟩)
                 go_roundw
                 case rel => exact ⟨i + 1, o', _, by omega, by go_num, rfl, ho1, hr', HST, hvr.far hne _, hEr.setCell hg _⟩
                 case measure => simp [intOf]; omega
               · have hin : i = n := by omega
                 rw [hin] at hrel
                 have hc1 := hrL.cell (i := k + n) (by omega)
                 have hf1 := hrL.frozen (k + n)
                 have hu32 := hLw.get (k := k + n) (by omega)
                 rw [getD_of] at hc1 hu32
                 obtain ⟨u, hu⟩ : ∃ u, u = L.getD (k + n) 0 := ⟨_, rfl⟩
                 rw [← hu] at hc1 hu32
                 obtain ⟨lo, hlo⟩ : ∃ lo, lo = (u + o) % 4294967296 := ⟨_, rfl⟩
                 have hl := hrel.out.last DD.out hu ho hlo (by rw [← HQ.out]; exact H3.out)
                 rw [← HQ.out] at hl
                 have HL := Lib.hid hl
                 have g1 : ((u : Int) + (o : Int)) % 4294967296 = (lo : Int) := by omega
                 have hr' := hrL.set_ (k + n) lo
                 have hE' := hEr.setCell (p := ⟨g, k + n, none⟩) hg (.int .u32 (lo : Int))
                 have hv' := hvr.far (p := ⟨g, k + n, none⟩) hne (.int .u32 (lo : Int))
                 clear hu hlo hrel hLl hLw hin hl
                 go_wp2
                 go_ret
                 exact ⟨rfl, ⟨_, hr', HL.out.2.1, HL.out.1, HL.out.2.2⟩, hv', hE'⟩
           · obtain ⟨hi', hhi⟩ : ∃ h, h = if u < cr + br then 1 else 0 := ⟨_, rfl⟩
             have HS := fun w => sub32_any u cr br u' hi' w hu32 hcr hbr hu' hhi
             have hl := hrel.out.last DD.out hu hcr hbr hu' hhi
             rw [if_neg hbo] at hhi
             subst hhi
             obtain ⟨h1, h2, h3, h4, -⟩ := hl
             have hfit := dig_fits DD.out (by rw [← HQ.out]; exact hxQ.out) h3
             rw [← HQ.out] at hfit
             have HF := Lib.hid hfit
             have HSS := Lib.hid HS
             have H12 := Lib.hid (And.intro h1 h2)
             clear hu hu' hrel hLl hLw hin h3 h4 h1 h2 hfit hbo HS
             go_wp2_with (go_at_call 127; refine (HSS.out _).mono ?_; rintro e w' ⟨rfl, rfl⟩)
             go_ret
             exact ⟨ret_int (congrArg Int.ofNat HF.out.1), ⟨_, hr', H12.out.2, H12.out.1, HF.out.2⟩, hv', hE'⟩
   · have hr : ¬ 4294967296 ≤ rest := fun h => hex (.inl h)
     have hq0 : (rest : Int) / 4294967296 = 0 := by omega
     by_cases hx1 : 4294967296 ≤ x
     · have hs := HLESS.out x rest hxT.out hxQ.out (.inl hx1)
       have hq1 : (x : Int) / 4294967296 = 1 := by omega
       clear hex
       go_wp2
       go_quiet (fail)
       go_wp2
       go_roundw
       case rel => exact ⟨x - 1, rest + v1, by go_num, by go_num, by omega, by omega, Lib.hid (by have := hxT.out; rw [Nat.sub_mul]; have h2 : 1 * v1 ≤ x * v1 := Nat.mul_le_mul_right _ hs.2; omega), Lib.hid hs.1, by (try simp only [World.drewN_drewN]); exact ⟨_, rfl⟩⟩
       case measure => simp [intOf]; omega
     · have hp : rest * 4294967296 + u2 < x * v2 := by
         rcases Nat.lt_or_ge (rest * 4294967296 + u2) (x * v2) with h | h
         · exact h
         · exact absurd (.inr ⟨by omega, h⟩) hex
       have hs := HLESS.out x rest hxT.out hxQ.out (.inr hp)
       have hq1 : (x : Int) / 4294967296 = 0 := by omega
       have hp64 : x * v2 ≤ 18446744065119617025 := Nat.le_trans (Nat.mul_le_mul (show x ≤ 4294967295 by omega) (show v2 ≤ 4294967295 by omega)) (by omega)
       obtain ⟨p, hpv⟩ : ∃ p, p = x * v2 := ⟨_, rfl⟩
       rw [← hpv] at hp hp64
       have ep : (x : Int) * (v2 : Int) = (p : Int) := by rw [hpv]; exact (Int.natCast_mul x v2).symm
       have hor2 := word_or3 rest u2 (by omega) hu232
       obtain ⟨s2, hs2⟩ : ∃ s, s = rest * 4294967296 + u2 := ⟨_, rfl⟩
       rw [← hs2] at hor2 hp
       have hs64 : s2 < 18446744073709551616 := by omega
       clear hpv hs2 hex
       go_wp2
       go_quiet (fail)
       go_wp2
       go_roundw
       case rel => exact ⟨x - 1, rest + v1, by go_num, by go_num, by omega, by omega, Lib.hid (by have := hxT.out; rw [Nat.sub_mul]; have h2 : 1 * v1 ≤ x * v1 := Nat.mul_le_mul_right _ hs.2; omega), Lib.hid hs.1, by (try simp only [World.drewN_drewN]); exact ⟨_, rfl⟩⟩
       case measure => simp [intOf]; omega
end Go.Proofs.YtbcaggdgoidlaaaGreatDoor
