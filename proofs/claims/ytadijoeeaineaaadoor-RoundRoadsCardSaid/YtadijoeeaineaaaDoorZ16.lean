/-
  The contracts of the program's own naturals, eleventh part: differences. Conditions: those that each theorem names.
-/
import Derived.Test.YtadijoeeaineaaaDoorZ15
import Derived.Test.YtadijoeeaineaaaDoorZ13
import Derived.Test.YtadijoeeaineaaaDoorZ06
namespace Go.Proofs.YtadijoeeaineaaaDoor
open Go.RowKit Nm
set_option maxRecDepth 100000
set_option linter.unusedVariables false
set_option linter.unusedSimpArgs false

/-- The list behind i words: the difference ahead, the old words behind. -/
structure LessRel (L0 ys L : List Nat) (m i br : Nat) : Prop where
  len : L.length = m
  ws : Ws L
  val : nv (L.take i) + nv (ys.take i) = nv (L0.take i) + 4294967296 ^ i * br
  same : ∀ k, (hk : k < L.length) → i ≤ k → L[k] = L0.getD k 0
theorem LessRel.step {L0 ys L : List Nat} {m i br x y lo hi : Nat} (h : LessRel L0 ys L m i br) (hm : L0.length = m) (hi0 : i < m) (hx : x = L0.getD i 0) (hy : y = ys.getD i 0) (hx32 : x < 4294967296) (hy32 : y < 4294967296) (hbr : br ≤ 1)
    (hlo : lo = (x + 4294967296 - (y + br)) % 4294967296) (hhi : hi = if x < y + br then 1 else 0) : LessRel L0 ys (L.set i lo) m (i + 1) hi := by
  have hlen := h.len
  have hlo32 : lo < 4294967296 := by omega
  refine ⟨by simpa using hlen, h.ws.set _ hlo32, ?_, fun k hk hle => ?_⟩
  · rw [take_set_succ (by omega)]
    exact diff_step (l := L0) (m := ys) (acc := L.take i) (k := i) (br := br) (by rw [List.length_take]; omega) hx hy h.val (by rw [hhi]; split <;> omega)
  · rw [List.getElem_set_ne (by omega)]
    simp at hk
    exact h.same k hk (by omega)
theorem LessRel.done {L0 ys L : List Nat} {m i : Nat} (h : LessRel L0 ys L m i 0) (hm : L0.length = m) (hi : i ≤ m) (hy : ys.length ≤ i) : nv L = nv L0 - nv ys := by
  have hlen := h.len
  have hd : L.drop i = L0.drop i := by
    apply List.ext_getElem
    · simp [hlen, hm]
    · intro k h1 h2
      rw [List.getElem_drop, List.getElem_drop]
      simp at h1 h2
      rw [h.same _ (by omega) (by omega), ← getD_of (by omega)]
  have e1 := nv_take_drop L i (by omega)
  have e2 := nv_take_drop L0 i (by omega)
  have hv := h.val
  rw [List.take_of_length_le hy] at hv
  rw [e1, e2, hd]
  omega
theorem LessRel.end_ {L0 ys L : List Nat} {m br : Nat} (h : LessRel L0 ys L m m br) (hL0 : Ws L0) (hm : L0.length = m) (hy : ys.length ≤ m) (hbr : br ≤ 1) (hle : nv ys ≤ nv L0) : nv L = nv L0 - nv ys := by
  have hv := h.val
  have hlen := h.len
  rw [List.take_of_length_le hy, List.take_of_length_le (by omega), List.take_of_length_le (by omega)] at hv
  have hb := nv_lt h.ws
  rw [hlen] at hb
  have : br = 0 ∨ br = 1 := by omega
  rcases this with e | e
  · subst e; omega
  · subst e
    rw [Nat.mul_one] at hv
    omega

set_option maxHeartbeats 1000000 in
theorem nless_any (g m c : Nat) (L0 : List Nat) (B : Option Addr) (n d : Nat) (ys : List Nat) (wv w : World) (hrow : Row w g L0) (hL0 : Ws L0) (hlen : L0.length = m) (hm : m ≤ 17592186044416) (k : Wds wv B n d ys) (hE : Ext wv w) (hg : wv.heap.size ≤ g) (hnm : n ≤ m)
    (hle : nv ys ≤ nv L0) :
    Calls Tryd.prog 161 #[.slice (some ⟨g, 0, none⟩) m c, .slice B n d] w fun e w' => e = .returned (.tuple #[]) ∧ (∃ L, Row w' g L ∧ Ws L ∧ L.length = m ∧ nv L = nv L0 - nv ys) ∧ Ext wv w' := by
  have hly := k.len
  have HLE := Lib.hid hle
  have Hly := Lib.hid hly
  have Hlen := Lib.hid hlen
  clear hle hly hlen
  go_enter Tryd.func161, Tryd.ntmps161
  go_wp2
  go_loopw [4, 9] (fun bv iv wr => ∃ (i br : Nat) (L : List Nat), i ≤ m ∧ iv = .int .i64 i ∧ bv = .int .u32 (br : Int) ∧ br ≤ 1 ∧ Row wr g L ∧ Hid (LessRel L0 ys L m i br) ∧ Ext wv wr) (fun _ iv _ => m - (intOf iv).toNat)
  case atStart => exact ⟨0, 0, L0, Nat.zero_le _, rfl, rfl, by omega, hrow, Lib.hid ⟨Hlen.out, hL0, by simp [nv], fun k hk _ => getD_of hk⟩, hE⟩
  case round =>
    obtain ⟨i, br, L, hi, rfl, rfl, hbr, hr, hrl, hEr⟩ := hrel
    by_cases hlt : i < m
    · by_cases hstop : n ≤ i ∧ br = 0
      · obtain ⟨hni, rfl⟩ := hstop
        have hval := Lib.hid (hrl.out.done Hlen.out hi (by have := Hly.out; omega))
        go_wp2
        exact bodyPost_ret (results_none rfl _ _ _) rfl ⟨rfl, ⟨L, hr, hrl.out.ws, hrl.out.len, hval.out⟩, hEr⟩
      · have hiL : i < L.length := by have := hrl.out.len; omega
        have hc1 := hr.cell hiL
        have hf1 := hr.frozen i
        have ha32 := hrl.out.ws.get hiL
        have haE := hrl.out.same i hiL (Nat.le_refl _)
        obtain ⟨a, ha⟩ : ∃ a, a = L[i] := ⟨_, rfl⟩
        rw [← ha] at hc1 ha32 haE
        have hYc : (i < n ∧ ∃ bd, ∃ Y : Nat, B = some bd ∧ Y < 4294967296 ∧ Hid (Y = ys.getD i 0) ∧ wr.cell? (bd.add i) = some (.int .u32 (Y : Int))) ∨ (n ≤ i ∧ ((br : Int) == 0) = false ∧ ∃ Y : Nat, Y = 0 ∧ Hid (Y = ys.getD i 0)) := by
          by_cases hl : i < n
          · obtain ⟨bd, hy, e, _, hc⟩ := (k.ext hEr).at_ hl
            exact .inl ⟨hl, bd, ys[i], e, k.ws.get hy, Lib.hid (getD_of hy), hc⟩
          · exact .inr ⟨by omega, by rw [beq_eq_false_iff_ne]; intro h; exact hstop ⟨by omega, by omega⟩, 0, rfl, Lib.hid (getD_out (by have := Hly.out; omega))⟩
        have HaE := Lib.hid haE
        clear hstop ha haE
        rcases hYc with ⟨hjn, bd, Y, rfl, hY32, hYe, hcY⟩ | ⟨hjn, hb0, Y, rfl, hYe⟩
        · obtain ⟨lo, hlo⟩ : ∃ lo, lo = (a + 4294967296 - (Y + br)) % 4294967296 := ⟨_, rfl⟩
          obtain ⟨hi', hhi⟩ : ∃ hi', hi' = if a < Y + br then 1 else 0 := ⟨_, rfl⟩
          have hsb := fun w => sub32_any a Y br lo hi' w ha32 hY32 hbr hlo hhi
          have hst := hrl.out.step Hlen.out hlt HaE.out hYe.out ha32 hY32 hbr hlo hhi
          have HS := Lib.hid hsb
          have HST := Lib.hid hst
          have hhi1 : hi' ≤ 1 := by rw [hhi]; split <;> omega
          have hr' := hr.set_ i lo
          clear hsb hst hlo hhi
          go_wp2_with (go_at_call 165; refine (HS.out _).mono ?_; rintro e w' ⟨rfl, rfl⟩)
          go_roundw
          case rel => exact ⟨i + 1, hi', _, by omega, by go_num, rfl, hhi1, hr', HST, hEr.setCell hg _⟩
          case measure => simp [intOf]; omega
        · obtain ⟨lo, hlo⟩ : ∃ lo, lo = (a + 4294967296 - (0 + br)) % 4294967296 := ⟨_, rfl⟩
          obtain ⟨hi', hhi⟩ : ∃ hi', hi' = if a < 0 + br then 1 else 0 := ⟨_, rfl⟩
          have hsb := fun w => sub32_any a 0 br lo hi' w ha32 (by omega) hbr hlo hhi
          have hst := hrl.out.step Hlen.out hlt HaE.out hYe.out ha32 (by omega) hbr hlo hhi
          have HS := Lib.hid hsb
          have HST := Lib.hid hst
          have hhi1 : hi' ≤ 1 := by rw [hhi]; split <;> omega
          have hr' := hr.set_ i lo
          clear hsb hst hlo hhi
          go_wp2_with (go_at_call 165; refine (HS.out _).mono ?_; rintro e w' ⟨rfl, rfl⟩)
          go_roundw
          case rel => exact ⟨i + 1, hi', _, by omega, by go_num, rfl, hhi1, hr', HST, hEr.setCell hg _⟩
          case measure => simp [intOf]; omega
    · have hie : i = m := by omega
      subst hie
      have hval := Lib.hid (hrl.out.end_ hL0 Hlen.out (by have := Hly.out; omega) hbr HLE.out)
      go_wp2
      go_end0
      exact ⟨rfl, ⟨L, hr, hrl.out.ws, hrl.out.len, hval.out⟩, hEr⟩

set_option maxHeartbeats 2000000 in
theorem nsub_any (A : Option Addr) (n c : Nat) (xs : List Nat) (B : Option Addr) (m d : Nat) (ys : List Nat) (w : World) (h : Wds w A n c xs) (hn : n ≤ 8796093022208) (k : Wds w B m d ys) (hm : m ≤ 8796093022208) (h1 : nw (nv xs) ≤ 16384) (h2 : nw (nv ys) ≤ 16384) (hle : nv ys ≤ nv xs) :
    Calls Tryd.prog 120 #[.slice A n c, .slice B m d] w (RetWE (nv xs - nv ys) 0 w) := by
  have hcm := ncmp_any A n c xs B m d ys w h (by omega) k (by omega)
  have hcc : 0 ≤ cmpN (nv xs) (nv ys) := by unfold cmpN; rw [if_neg (by omega)]; split <;> omega
  have hLG : Hid (∀ g w, w.cell? ⟨g, 0, none⟩ = some (.slice A n c) → w.cell? ⟨g, 1, none⟩ = some (.slice B m d) → Wds w A n c xs → Wds w B m d ys → Calls Tryd.prog 131 #[.slice (some ⟨g, 0, none⟩) 2 2] w fun e w' => e = .returned (.bool false) ∧ w = w') :=
    Lib.hid (fun g w a b c' d' => nlong_two g 2 A n c xs B m d ys w a b c' (by omega) h1 d' (by omega) h2)
  have hN1 := fun w h => nnorm_any A n c xs w h (by omega)
  have hW2 := fun w h => nwords_any B m d ys w h (by omega)
  have hp2 := k.pre
  have hle2 : nw (nv ys) ≤ m := by have := nw_nv_le k.ws; have := k.len; omega
  have hlc2 := k.lec
  obtain ⟨V, hV⟩ : ∃ V, V = nv xs := ⟨_, rfl⟩
  obtain ⟨U, hU⟩ : ∃ U, U = nv ys := ⟨_, rfl⟩
  rw [← hV] at hN1 h1 hle hcm hcc ⊢
  rw [← hU] at hW2 hp2 hle2 h2 hle hcm hcc ⊢
  have hvU := nv_nd U
  have hvV := nv_nd V
  obtain ⟨q, hq⟩ : ∃ q, q = nw U := ⟨_, rfl⟩
  obtain ⟨p, hp⟩ : ∃ p, p = nw V := ⟨_, rfl⟩
  have hqp : q ≤ p := by rw [hq, hp]; exact nw_mono hle
  have hpl : (nd V).length = p := by rw [nd_length, hp]
  rw [← hq] at hW2 hp2 hle2 h2
  rw [← hp] at hN1 h1
  obtain ⟨us, hus⟩ : ∃ us, us = nd U := ⟨_, rfl⟩
  rw [← hus] at hp2 hvU
  obtain ⟨vs, hvs⟩ : ∃ vs, vs = nd V := ⟨_, rfl⟩
  have hvw : Ws vs := by rw [hvs]; exact Ws.nd V
  rw [← hvs] at hN1 hvV hpl
  obtain ⟨cc, hcce⟩ : ∃ cc, cc = cmpN V U := ⟨_, rfl⟩
  rw [← hcce] at hcm hcc
  have hfitb : nw (V - U) ≤ 16384 := Nat.le_trans (nw_mono (Nat.sub_le V U)) (by rw [← hp]; exact h1)
  have HCM := Lib.hid hcm
  have HN1 := Lib.hid hN1
  have HW2 := Lib.hid hW2
  have HVU := Lib.hid hvU
  have HVV := Lib.hid hvV
  have HPL := Lib.hid hpl
  have hqd : q ≤ d := by omega
  have HLE := Lib.hid hle
  clear hcm hN1 hW2 hV hU hq hp hus hvs hvU hvV hcce hpl hle
  go_enter Tryd.func120, Tryd.ntmps120
  go_wp2_with fail
  refine HCM.out.mono ?_
  rintro e w1 ⟨rfl, z, rfl⟩
  have hn0 := h.drewN z
  have hk0 := k.drewN z
  have hp0 := hp2.drewN z
  have hE00 : Ext w (w.drewN z) := (Ext.refl w).drewN z
  generalize w.drewN z = wz at *
  have hn1 := hn0.alloc (.cells #[.slice A n c, .slice B m d] 36)
  have hk1 := hk0.alloc (.cells #[.slice A n c, .slice B m d] 36)
  have hp2' := hp0.alloc (.cells #[.slice A n c, .slice B m d] 36)
  have hE0 : Ext w (wz.alloc (.cells #[.slice A n c, .slice B m d] 36)) := hE00.alloc _
  have hcell0 : (wz.alloc (.cells #[.slice A n c, .slice B m d] 36)).cell? ⟨wz.heap.size, 0, none⟩ = some (.slice A n c) := by simp
  have hcell1 : (wz.alloc (.cells #[.slice A n c, .slice B m d] 36)).cell? ⟨wz.heap.size, 1, none⟩ = some (.slice B m d) := by simp
  clear hn0 hk0 hp0 hE00 h k hp2 HCM
  go_wp2_with fail
  generalize wz.heap.size = g0 at hcell0 hcell1 ⊢
  generalize wz.alloc _ = w1 at hn1 hk1 hp2' hE0 hcell0 hcell1 ⊢
  refine (hLG.out _ _ hcell0 hcell1 hn1 hk1).mono ?_
  rintro e w' ⟨rfl, rfl⟩
  clear hcell0 hcell1
  go_wp2_with fail
  refine (HN1.out _ hn1).mono ?_
  rintro e w2 ⟨g, p', rfl, hr2, hg2, hp', hE2⟩
  have hk2 := hk1.ext hE2
  have hq2 := hp2'.ext hE2
  have HPP := Lib.hid hp'
  clear hp'
  go_wp2_with fail
  refine (HW2.out _ hk2).mono ?_
  rintro e w' ⟨rfl, rfl⟩
  go_wp2_with fail
  refine (nless_any g p' p' vs B q d us w1 w2 hr2 hvw (by rw [HPL.out, HPP.out]) (by have := HPP.out; omega) hp2' hE2 hg2 (by have := HPP.out; omega) (by rw [HVU.out, HVV.out]; exact HLE.out)).mono ?_
  rintro e w3 ⟨rfl, ⟨L, hr3, hL, hLl, hLv⟩, hE3⟩
  rw [HVU.out, HVV.out] at hLv
  have HLV := Lib.hid hLv
  have hWL := hr3.wds hL hLl (Nat.le_refl _) (by have := HPP.out; unfold maxLen; omega)
  clear hLv
  go_wp2_with fail
  refine (nfit_any _ _ _ _ _ hWL (by have := HPP.out; omega) (by rw [HLV.out]; exact hfitb)).mono ?_
  rintro e w4 ⟨A4, n4, c4, rfl, hR, hE4⟩
  rw [HLV.out] at hR
  go_wp2
  go_ret2
  exact ⟨A4, n4, c4, rfl, hR, hE0.trans (hE3.trans hE4)⟩
end Go.Proofs.YtadijoeeaineaaaDoor

/-
  The contracts of the program's exact road: product, to, sum. Conditions: those that each theorem names.
-/
namespace Go.Proofs.YtadijoeeaineaaaDoor
open Go.RowKit Nm Rn
set_option maxRecDepth 100000
set_option linter.unusedVariables false
set_option linter.unusedSimpArgs false

set_option maxHeartbeats 1000000 in
theorem product_any (s1 s2 : Bool) (A : Option Addr) (n c : Nat) (xs : List Nat) (x1 : Int) (B : Option Addr) (m d : Nat) (ys : List Nat) (x2 : Int) (w : World) (h : Wds w A n c xs) (hn : n ≤ 8796093022208) (k : Wds w B m d ys) (hm : m ≤ 8796093022208) (hs : bl (nv xs) + bl (nv ys) ≤ 524288)
    (b1 : -4398046511104 ≤ x1) (b2 : x1 ≤ 4398046511104) (b3 : -4398046511104 ≤ x2) (b4 : x2 ≤ 4398046511104) :
    Calls Tryd.prog 80 #[.agg #[.bool s1, .slice A n c, .int .i64 x1], .agg #[.bool s2, .slice B m d, .int .i64 x2]] w (RetD (s1 != s2) (nv xs * nv ys) (x1 + x2) w) := by
  have hO := ((Own.start w).add h).add k
  have HM := Lib.hid (fun w h k => nmul_any A n c xs B m d ys w h hn k hm hs)
  clear h k hs
  go_enter Tryd.func80, Tryd.ntmps80
  go_upto_region 1 with (first
    | (refine own_box hO rfl rfl ?_; clear hO; intro g w1 hO)
    | (refine own_alloc hO zero_dy rfl rfl ?_; clear hO; intro g w1 hO))
  have hF := hO.facts
  simp only [BF, CF, Nat.zero_add, Nat.reduceAdd, and_true] at hF
  go_wp2_with fail
  refine (HM.out _ (hO.wd 1 rfl) (hO.wd 0 rfl)).mono ?_
  rintro e w' ⟨A2, n2, c2, rfl, hR, hEx⟩
  have hO := (hO.ext hEx).add hR
  clear hF hR hEx HM
  have hF := hO.facts
  simp only [BF, CF, Nat.zero_add, Nat.reduceAdd, and_true] at hF
  go_wp2_with (refine own_store hO 0 rfl rfl rfl size_dy rfl rfl rfl ?_; clear hO; intro w1 hO)
  exact own_ret hO 0 rfl rfl rfl agg_dy size_dy rfl ⟨_, _, _, rfl, hO.wd 0 rfl, hO.toExt⟩

theorem to_any (d : Int) (neg : Bool) (A : Option Addr) (n c : Nat) (xs : List Nat) (exp : Int) (w : World) (h : Wds w A n c xs) (hn : n ≤ 1099511627776) (hnl : nw (nv xs) ≤ 16384)
    (he1 : -4398046511104 ≤ exp) (he2 : exp ≤ 4398046511104) :
    Calls Tryd.prog 81 #[.agg #[.bool neg, .slice A n c, .int .i64 exp], .int .i64 d] w fun e w' => e = .returned (.float .f64 (rnd d neg (zd (2 * nv xs) (exp - 1)))) ∧ Ext w w' := by
  have hO := (Own.start w).add h
  have HF := Lib.hid (fun w h => of_any d neg A n c xs exp false w h hn hnl he1 he2 (by intro h; cases h))
  clear h
  go_enter Tryd.func81, Tryd.ntmps81
  go_upto_region 1 with (refine own_box hO rfl rfl ?_; clear hO; intro g w1 hO)
  have hF := hO.facts
  simp only [BF, CF, Nat.zero_add, Nat.reduceAdd, and_true] at hF
  go_wp2_with fail
  refine (HF.out _ (hO.wd 0 rfl)).mono ?_
  rintro e w' ⟨rfl, hEx⟩
  go_wp2
  go_ret
  exact ⟨rfl, hO.toExt.trans hEx⟩
end Go.Proofs.YtadijoeeaineaaaDoor

/-
  Plain: what is left behind 54 digits only has to be told from nothing; quotients. Conditions: those that each theorem names.
-/
set_option linter.unusedVariables false

namespace Go.Proofs.YtadijoeeaineaaaDoor.Rn

/-- What the rounding asks of a Z. -/
def Asks (T : Nat) : Prop := ∃ k, T = 2 * rv k ∨ T = rv k + rv (k + 1)
theorem rr_same {Z Z' : Nat} (h : ∀ T, Asks T → ((2 * T ≤ Z ↔ 2 * T ≤ Z') ∧ (Z = 2 * T ↔ Z' = 2 * T))) (d : Int) (neg : Bool) : rr d neg Z = rr d neg Z' := by
  have hr : rung (Z / 4) = rung (Z' / 4) := by
    have h1 : ∀ k, k ≤ rung (Z / 4) ↔ k ≤ rung (Z' / 4) := fun k => by
      rw [le_rung_iff, le_rung_iff]
      have := (h (2 * rv k) ⟨k, .inl rfl⟩).1
      omega
    have a := (h1 (rung (Z / 4))).1 (Nat.le_refl _)
    have b := (h1 (rung (Z' / 4))).2 (Nat.le_refl _)
    omega
  have ha : away d neg Z = away d neg Z' := by
    unfold away
    rw [hr]
    obtain ⟨h1, h2⟩ := h (2 * rv (rung (Z' / 4))) ⟨_, .inl rfl⟩
    obtain ⟨h3, h4⟩ := h (rv (rung (Z' / 4)) + rv (rung (Z' / 4) + 1)) ⟨_, .inr rfl⟩
    have e1 : (Z = 4 * rv (rung (Z' / 4))) ↔ (Z' = 4 * rv (rung (Z' / 4))) := by omega
    have e2 : decide (2 * (rv (rung (Z' / 4)) + rv (rung (Z' / 4) + 1)) < Z) = decide (2 * (rv (rung (Z' / 4)) + rv (rung (Z' / 4) + 1)) < Z') := decide_eq_decide.2 (by omega)
    have e3 : decide (Z = 2 * (rv (rung (Z' / 4)) + rv (rung (Z' / 4) + 1))) = decide (Z' = 2 * (rv (rung (Z' / 4)) + rv (rung (Z' / 4) + 1))) := decide_eq_decide.2 (by omega)
    rw [e2, e3]
    by_cases h5 : Z = 4 * rv (rung (Z' / 4))
    · rw [if_pos h5, if_pos (e1.1 h5)]
    · rw [if_neg h5, if_neg (fun h6 => h5 (e1.2 h6))]
  unfold rr
  rw [hr, ha]

theorem asks_dvd {T a b : Nat} (hT : Asks T) (h : 9007199254740992 * 2 ^ a < T * 2 ^ b) : 2 ^ a ∣ T * 2 ^ b := by
  obtain ⟨k, hk⟩ := hT
  obtain ⟨s, h1, h2, h3, -⟩ := rv_dvd k
  generalize k / 4503599627370496 - 1 = v at *
  have key : ∀ {m c : Nat}, m < 9007199254740992 → T * 2 ^ b = m * 2 ^ c → 2 ^ a ∣ T * 2 ^ b := by
    intro m c hm e
    rw [e] at h ⊢
    rcases Nat.lt_or_ge c a with h4 | h4
    · exfalso
      have h5 := pow_mono (Nat.le_of_lt h4)
      have := Nat.mul_le_mul (Nat.le_of_lt hm) h5
      omega
    · exact Nat.dvd_mul_left_of_dvd (pow_dvd h4) _
  rcases hk with hk | hk
  · refine key (m := s) (c := v + 1 + b) h3 ?_
    rw [hk, h1, pow_add_ (v + 1) b, two_pow_s]
    ac_rfl
  · have e : T * 2 ^ b = (2 * s + 1) * 2 ^ (v + b) := by
      rw [hk, h1, h2, pow_add_, ← Nat.mul_assoc, ← Nat.add_mul]
      congr 2
      omega
    rw [e] at h ⊢
    rcases Nat.lt_or_ge (v + b) a with h4 | h4
    · exfalso
      have h5 := pow_mono (show v + b + 1 ≤ a by omega)
      rw [two_pow_s] at h5
      have : (2 * s + 1) * 2 ^ (v + b) ≤ 18014398509481984 * 2 ^ (v + b) := Nat.mul_le_mul_right _ (by omega)
      omega
    · exact Nat.dvd_mul_left_of_dvd (pow_dvd h4) _

/-- Nothing that the rounding asks lies strictly between two neighbours of 54 digits. -/
theorem between {Q a b T : Nat} (hQ : 9007199254740992 ≤ Q) (hT : Asks T) (h1 : Q * 2 ^ a < T * 2 ^ b) (h2 : T * 2 ^ b < (Q + 1) * 2 ^ a) : False := by
  have h3 := asks_dvd (a := a) (b := b) hT (Nat.lt_of_le_of_lt (Nat.mul_le_mul_right _ hQ) h1)
  obtain ⟨m, hm⟩ := h3
  rw [hm, Nat.mul_comm _ (2 ^ a)] at h1 h2
  have := Nat.lt_of_mul_lt_mul_left h1
  have := Nat.lt_of_mul_lt_mul_left h2
  omega

/-- How N by M stands to T times 2^b by 2^a, where nothing asked lies between. -/
theorem floor_le {N M Q a b T : Nat} (hM : 0 < M) (hQ : Q = N / M) (hQ1 : 9007199254740992 ≤ Q) (hT : Asks T) :
    (T * (M * 2 ^ b) ≤ N * 2 ^ a ↔ T * 2 ^ b ≤ Q * 2 ^ a) ∧ (N * 2 ^ a = T * (M * 2 ^ b) ↔ N % M = 0 ∧ Q * 2 ^ a = T * 2 ^ b) := by
  have h0 := Nat.div_add_mod N M
  have hl := Nat.mod_lt N hM
  rw [← hQ] at h0
  have hp := two_pow_pos a
  have e0 : T * (M * 2 ^ b) = M * (T * 2 ^ b) := by rw [Nat.mul_left_comm]
  have e1 : N * 2 ^ a = M * (Q * 2 ^ a) + N % M * 2 ^ a := by
    conv => lhs; rw [← h0]
    rw [Nat.add_mul, Nat.mul_assoc]
  have e2 : N % M * 2 ^ a < M * 2 ^ a := Nat.mul_lt_mul_of_pos_right hl hp
  have e3 : M * ((Q + 1) * 2 ^ a) = M * (Q * 2 ^ a) + M * 2 ^ a := by rw [Nat.add_mul, Nat.one_mul, Nat.mul_add]
  rw [e0, e1]
  rcases Nat.lt_or_ge (Q * 2 ^ a) (T * 2 ^ b) with h1 | h1
  · rcases Nat.lt_or_ge (T * 2 ^ b) ((Q + 1) * 2 ^ a) with h2 | h2
    · exact (between hQ1 hT h1 h2).elim
    · have h3 := Nat.mul_le_mul_left M h2
      rw [e3] at h3
      constructor
      · constructor <;> intro <;> omega
      · constructor
        · intro; omega
        · rintro ⟨-, h4⟩; omega
  · have h3 := Nat.mul_le_mul_left M h1
    constructor
    · constructor <;> intro <;> omega
    · constructor
      · intro h4
        have h5 : N % M * 2 ^ a = 0 := by omega
        have h6 : N % M = 0 := by
          rcases Nat.mul_eq_zero.1 h5 with h | h
          · exact h
          · omega
        have h7 : M * (Q * 2 ^ a) = M * (T * 2 ^ b) := by omega
        exact ⟨h6, Nat.eq_of_mul_eq_mul_left hM h7⟩
      · rintro ⟨h4, h5⟩
        rw [h4, h5]; omega

theorem rr_floor {N M N' M' a b : Nat} (hM : 0 < M) (hM' : 0 < M') (hQ : N / M = N' / M') (hQ1 : 9007199254740992 ≤ N / M) (hx : N % M = 0 ↔ N' % M' = 0) (d : Int) (neg : Bool) :
    rr d neg (zq (N * 2 ^ a) (M * 2 ^ b)) = rr d neg (zq (N' * 2 ^ a) (M' * 2 ^ b)) := by
  refine rr_same (fun T hT => ?_) d neg
  have hb := two_pow_pos b
  rw [zq_le (Nat.mul_pos hM hb), zq_le (Nat.mul_pos hM' hb), zq_eq (Nat.mul_pos hM hb), zq_eq (Nat.mul_pos hM' hb)]
  obtain ⟨h1, h2⟩ := floor_le (a := a) (b := b) hM rfl hQ1 hT
  obtain ⟨h3, h4⟩ := floor_le (a := a) (b := b) hM' hQ (by omega) hT
  rw [h1, h2, h3, h4, hx]
  exact ⟨Iff.rfl, Iff.rfl⟩

theorem zq_floor {N M : Nat} (hM : 0 < M) : zq N M / 2 = N / M ∧ (zq N M % 2 = 0 ↔ N % M = 0) := by
  unfold zq
  split <;> rename_i h
  · constructor
    · omega
    · constructor
      · intro; exact h
      · intro; omega
  · constructor
    · omega
    · constructor
      · intro; omega
      · intro h1; exact absurd h1 h

/-- A quotient of finite patterns. -/
theorem div_fin {x y : Nat} (hx : x < 18446744073709551616) (hy : y < 18446744073709551616) (fx : mg x < infR) (fy : mg y < infR) (hy0 : mg y ≠ 0) :
    Ieee.double.div x y = some (Ieee.double.word (sg x ^^ sg y) (near (zq (rv (mg x) * K75) (rv (mg y))))) := by
  obtain ⟨m, i, e1, hi, v1⟩ := read_fin hx fx
  obtain ⟨n, j, e2, hj, v2⟩ := read_fin hy fy
  have hn : n ≠ 0 := by
    intro h
    rw [h, Nat.zero_mul] at v2
    exact hy0 (rv_eq_zero.1 v2.symm)
  unfold Ieee.Format.div
  rw [e1, e2]
  simp only [Ieee.Datum.quotient, if_neg hn, Option.map_some]
  congr 1
  unfold Ieee.Format.write
  simp only
  rw [nearest_eq, near_eq]
  congr 1
  have e3 : Ieee.double.fractionBits + 2 = 54 := rfl
  rw [e3]
  generalize hmore : 54 + n.log2 - m.log2 = more
  have hmag : 2 * (m <<< more / n) + (m <<< more % n != 0).toNat = zq (m * 2 ^ more) n := by
    rw [Nat.shiftLeft_eq]
    unfold zq
    by_cases h : m * 2 ^ more % n = 0
    · rw [h]; rfl
    · rw [if_neg h, show (m * 2 ^ more % n != 0) = true by simpa using h]; rfl
  rw [hmag]
  -- both sides over powers of 2
  obtain ⟨c, hc⟩ : ∃ c : Nat, c = 1075 := ⟨_, rfl⟩
  have hK : K75 = 2 ^ c := by rw [hc]; exact K75_def
  by_cases hm : m = 0
  · have h1 : rv (mg x) = 0 := by rw [← v1, hm, Nat.zero_mul]
    rw [h1, hm, Nat.zero_mul, Nat.zero_mul]
    have z0 : ∀ M, zq 0 M = 0 := fun M => by simp [zq]
    rw [z0, z0, zd_zero]
  · have hfl : 9007199254740992 ≤ m * 2 ^ more / n := by
      rw [Nat.le_div_iff_mul_le (by omega)]
      obtain ⟨a1, a2⟩ := log2_bounds hm
      obtain ⟨b1, b2⟩ := log2_bounds hn
      have e5 : (9007199254740992 : Nat) = 2 ^ 53 := by decide
      rw [e5]
      have h2 : 2 ^ 53 * n ≤ 2 ^ 53 * 2 ^ (n.log2 + 1) := Nat.mul_le_mul_left _ (by omega)
      have h3 : 2 ^ m.log2 * 2 ^ more ≤ m * 2 ^ more := Nat.mul_le_mul_right _ a1
      rw [← pow_add_] at h2 h3
      have h4 := pow_mono (show 53 + (n.log2 + 1) ≤ m.log2 + more by omega)
      omega
    obtain ⟨f1, f2⟩ := zq_floor (N := m * 2 ^ more) (M := n) (by omega)
    -- places
    obtain ⟨A, B, hAB⟩ : ∃ A B : Nat, (A : Int) - B = i - j - more - 1 + 1075 := by
      refine ⟨(i + 1074).toNat + 1075, (j + 1074).toNat + more + 1, ?_⟩
      omega
    rw [zd_of hAB]
    show near _ = near _
    unfold near
    have h5 := rr_floor (N := m * 2 ^ more) (M := n) (N' := zq (m * 2 ^ more) n) (M' := 2) (a := A + 1) (b := B + 1 - 1) (by omega) (by omega) (by omega) hfl (by rw [f2]) 0 false
    rw [show zq (zq (m * 2 ^ more) n * 2 ^ (A + 1)) (2 * 2 ^ (B + 1 - 1)) = zq (zq (m * 2 ^ more) n * 2 ^ A) (2 ^ B) from zq_congr (Nat.mul_pos (by omega) (two_pow_pos _)) (two_pow_pos _) (by
      rw [show B + 1 - 1 = B by omega, two_pow_s]
      ac_rfl)] at h5
    rw [← h5]
    congr 1
    refine zq_congr (Nat.mul_pos (by omega) (two_pow_pos _)) (by rw [← v2]; exact Nat.mul_pos (by omega) (two_pow_pos _)) ?_
    rw [← v1, ← v2, hK, show B + 1 - 1 = B by omega]
    have e6 : more + (A + 1) + (j + 1074).toNat = (i + 1074).toNat + c + B := by omega
    have e7 : 2 ^ more * 2 ^ (A + 1) * 2 ^ (j + 1074).toNat = 2 ^ (i + 1074).toNat * 2 ^ c * 2 ^ B := by
      rw [← pow_add_, ← pow_add_, ← pow_add_, ← pow_add_, e6]
    calc m * 2 ^ more * 2 ^ (A + 1) * (n * 2 ^ (j + 1074).toNat) = m * n * (2 ^ more * 2 ^ (A + 1) * 2 ^ (j + 1074).toNat) := by ac_rfl
      _ = m * n * (2 ^ (i + 1074).toNat * 2 ^ c * 2 ^ B) := by rw [e7]
      _ = m * 2 ^ (i + 1074).toNat * 2 ^ c * (n * 2 ^ B) := by ac_rfl
end Go.Proofs.YtadijoeeaineaaaDoor.Rn

/-
  Plain: the quick road of a quotient answers the number rounded in the direction. Conditions: those that each theorem names.
-/
set_option linter.unusedVariables false

namespace Go.Proofs.YtadijoeeaineaaaDoor.Rn

theorem cap_rv : 1099511627776 * Kg ≤ rv (infR - 2) := by
  obtain ⟨c, hc⟩ : ∃ c : Nat, c = 1974 := ⟨_, rfl⟩
  rw [Kg_def, ← hc]
  have e : 1099511627776 * 2 ^ c = rv ((c + 40 - 52) * 4503599627370496 + 4503599627370496) := by
    rw [rv_form (c + 40 - 52) 4503599627370496 (by omega) (fun _ => Nat.le_refl _)]
    have : 2 ^ (c + 40) = 2 ^ (c + 40 - 52) * 2 ^ 52 := by rw [← pow_add_]; congr 1; omega
    rw [pow_add_] at this
    have e1 : (2 : Nat) ^ 40 = 1099511627776 := by decide
    have e2 : (2 : Nat) ^ 52 = 4503599627370496 := by decide
    rw [e1, e2] at this
    omega
  rw [e]
  exact rv_le (by rw [infR_val]; omega)

theorem K74_i : ((2 ^ 1074 : Nat) : Int) = (K74 : Int) := congrArg Int.ofNat K74_def.symm

/-- What a Z of a quotient asks. -/
theorem zd_le {X Y r : Nat} (hY : 0 < Y) : 4 * r ≤ zq (X * K75) Y ↔ r * Y ≤ X * K74 := by
  rw [show 4 * r = 2 * (2 * r) by omega, zq_le hY, K75_74]
  have e1 : 2 * r * Y = 2 * (r * Y) := Nat.mul_assoc _ _ _
  have e2 : X * (2 * K74) = 2 * (X * K74) := Nat.mul_left_comm _ _ _
  omega
theorem zd_gt {X Y r : Nat} (hY : 0 < Y) : 4 * r < zq (X * K75) Y ↔ r * Y < X * K74 := by
  rw [show 4 * r = 2 * (2 * r) by omega, zq_gt hY, K75_74]
  have e1 : 2 * r * Y = 2 * (r * Y) := Nat.mul_assoc _ _ _
  have e2 : X * (2 * K74) = 2 * (X * K74) := Nat.mul_left_comm _ _ _
  omega

theorem rn_pos {S : Int} : (0 < rn S ↔ 0 < S) ∧ (rn S < 0 ↔ S < 0) := by
  have h1 : S ≠ 0 → (1 : Int).natAbs ≤ (rn S).natAbs := fun h => rn_ge (g := 1) ⟨1, by decide⟩ (by omega)
  have h2 : S = 0 → rn S = 0 := fun h => by rw [h, rn_zero]
  have h3 : S < 0 → rn S ≤ 0 := fun h => by unfold rn; rw [if_pos h]; omega
  have h4 : ¬ S < 0 → 0 ≤ rn S := fun h => by unfold rn; rw [if_neg h]; omega
  omega

set_option maxHeartbeats 4000000 in
theorem div_quick {x y s p : Nat} {X Y : Int} (hx : Fl x X) (hy : Fl y Y) (mx : Mid X) (my : Mid Y) (hs : Ieee.double.div x y = some s) (fs : mg s < infR) (ms : Mid (sv s)) (hp : Ieee.double.mul s y = some p) (fp : mg p < infR) (mp : Mid (sv p)) :
    ∃ m a b M E, MissedOps s y p m ∧ Ieee.double.sub x p = some a ∧ Ieee.double.sub a m = some b ∧ Fl m M ∧ Fl b E ∧ ∀ d, rnd d (sg x ^^ sg y) (zq (rv (mg x) * K75) (rv (mg y))) = kp (key s + adj d (if Y < 0 then -E else E)) := by
  have hY0 : 0 < rv (mg y) := by have := my.1; have := hy.abs; omega
  have hX0 : 0 < rv (mg x) := by have := mx.1; have := hx.abs; omega
  have hmy : mg y ≠ 0 := fun h => by rw [h, rv_zero] at hY0; omega
  have hdiv := div_fin hx.lt hy.lt hx.fin hy.fin hmy
  rw [hdiv] at hs
  injection hs with hs
  obtain ⟨Z, hZ⟩ : ∃ Z, Z = zq (rv (mg x) * K75) (rv (mg y)) := ⟨_, rfl⟩
  rw [← hZ] at hs ⊢
  have hnl := near_lt' Z
  have hms : mg s = near Z := by rw [← hs, mg_word hnl]
  have hss : sg s = (sg x ^^ sg y) := by rw [← hs, sg_word hnl]
  have hsl : s < 18446744073709551616 := by rw [← hs]; exact word_lt hnl
  have hF : Fl s (sv s) := Fl.of hsl fs
  have hQ := sv_abs s
  obtain ⟨r, m, hr, hr0, hrg, om, fpr, fm, -⟩ := mul_quick hF hy ms my hp fp mp
  -- sizes
  clear hdiv
  have hbig : Z < 4 * (4 * Kg) := by
    rcases Nat.lt_or_ge Z (4 * (4 * Kg)) with h | h
    · exact h
    · exfalso
      obtain ⟨j, hj⟩ := rp_Kg (m := 4) (by omega)
      have h0 := nr_cap (P := 4 * Kg) (by omega)
      rw [← hj, nr_rv] at h0
      have h1 := near_lo (Z := Z) (k := j) (by omega) (by omega)
      have h2 := rv_le h1
      rw [← hms, hj, ← hQ] at h2
      have := ms.2
      omega
  have n3 : near Z = rung (Z / 4) ∨ near Z = rung (Z / 4) + 1 := (near_lt Z (by have := cap_rv; omega)).2.2
  obtain ⟨f, hf⟩ : ∃ f, f = rung (Z / 4) := ⟨_, rfl⟩
  rw [← hf] at n3
  obtain ⟨w1, w2⟩ := rung_spec (Z / 4)
  rw [← hf] at w1 w2
  have z1 : rv f * rv (mg y) ≤ rv (mg x) * K74 := (zd_le hY0).1 (by rw [← hZ]; omega)
  have z2 : rv (mg x) * K74 < rv (f + 1) * rv (mg y) := by
    rcases Nat.lt_or_ge (rv (mg x) * K74) (rv (f + 1) * rv (mg y)) with h | h
    · exact h
    · have := (zd_le hY0).2 h; rw [← hZ] at this; omega
  have hrv : r.natAbs * K74 = rv (mg s) * rv (mg y) := by
    have := congrArg Int.natAbs hr
    rw [Int.natAbs_mul, Int.natAbs_mul, K74_i, Int.natAbs_natCast, hy.abs, hQ] at this
    exact this
  obtain ⟨sf, g1, g2, g3, g4⟩ := rv_dvd f
  obtain ⟨v, hv⟩ : ∃ v, v = f / 4503599627370496 - 1 := ⟨_, rfl⟩
  rw [← hv] at g1 g2 g4
  have hKs : 18014398509481984 * 2 ^ 0 ≤ Ks := by
    obtain ⟨c, hc⟩ : ∃ c : Nat, c = 120 := ⟨_, rfl⟩
    have e : (2 : Nat) ^ 174 = 2 ^ 54 * 2 ^ c := by rw [hc, ← pow_add_]
    rw [Ks_def, e]
    have := two_pow_pos c
    have e1 : (2 : Nat) ^ 54 = 18014398509481984 := by decide
    rw [e1, Nat.pow_zero]
    omega
  rw [Nat.pow_zero, Nat.mul_one] at hKs
  have hs1 := ms.1
  rw [hQ] at hs1
  have hsle : rv (mg s) ≤ rv (f + 1) := rv_le (by omega)
  have hv0 : v ≠ 0 := by
    intro h
    rw [h, Nat.pow_zero] at g2
    omega
  have hu1 : 4503599627370496 * 2 ^ v ≤ rv f := by rw [g1]; exact Nat.mul_le_mul_right _ (g4 hv0)
  have hu2 : rv (f + 1) = rv f + 2 ^ v := by rw [g2, g1, Nat.add_mul, Nat.one_mul]
  obtain ⟨A, hA⟩ : ∃ A, A = 2 ^ v := ⟨_, rfl⟩
  rw [← hA] at hu1 hu2
  clear g1 g2 g3 g4 hA
  -- r beside X
  have hYm : 4503599627370496 * (A * rv (mg y)) ≤ rv f * rv (mg y) := by rw [← Nat.mul_assoc]; exact Nat.mul_le_mul_right _ hu1
  have hs3 : rv f ≤ rv (mg s) := rv_le (by omega)
  have hK := K74_pos
  have b1 : r.natAbs * K74 ≤ rv f * rv (mg y) + A * rv (mg y) := by
    rw [hrv, ← Nat.add_mul, ← hu2]; exact Nat.mul_le_mul_right _ hsle
  have b2 : rv f * rv (mg y) ≤ r.natAbs * K74 := by rw [hrv]; exact Nat.mul_le_mul_right _ hs3
  rw [hu2, Nat.add_mul] at z2
  have c1 : 4503599627370496 * r.natAbs ≤ 4503599627370497 * rv (mg x) := by
    have : (4503599627370496 * r.natAbs) * K74 ≤ (4503599627370497 * rv (mg x)) * K74 := by rw [Nat.mul_assoc, Nat.mul_assoc]; omega
    exact Nat.le_of_mul_le_mul_right this hK
  have c2 : 4503599627370495 * rv (mg x) ≤ 4503599627370496 * r.natAbs := by
    have : (4503599627370495 * rv (mg x)) * K74 ≤ (4503599627370496 * r.natAbs) * K74 := by rw [Nat.mul_assoc, Nat.mul_assoc]; omega
    exact Nat.le_of_mul_le_mul_right this hK
  clear b1 b2 hYm
  -- the signs
  have hXs := sv_sn x
  have hYs := sv_sn y
  have hSs := sv_sn s
  have hx' := hx.abs
  have hy' := hy.abs
  have sgX : (X < 0 ↔ sg x = true) := by
    rw [← hx.val]; unfold sv; cases sg x <;> simp <;> omega
  have sgY : (Y < 0 ↔ sg y = true) := by
    rw [← hy.val]; unfold sv; cases sg y <;> simp <;> omega
  have sgS : (sv s < 0 ↔ sg s = true) := by
    unfold sv; cases sg s <;> simp <;> omega
  have hsr : (r < 0 ↔ X < 0) := by
    have hp : (0 : Int) < (K74 : Int) := by omega
    rw [K74_i] at hr
    have e1 : r < 0 ↔ sv s * Y < 0 := by
      rw [← hr]
      constructor
      · intro h; exact Int.mul_neg_of_neg_of_pos h hp
      · intro h
        rcases Int.lt_or_le r 0 with h' | h'
        · exact h'
        · have := Int.mul_nonneg h' (show (0 : Int) ≤ (K74 : Int) by omega); omega
    rw [e1, sgX]
    rw [hss] at sgS
    have t1 : sv s ≠ 0 := by omega
    have t2 : Y ≠ 0 := by omega
    rcases Int.lt_or_lt_of_ne t1 with a | a <;> rcases Int.lt_or_lt_of_ne t2 with b | b
    · have := Int.mul_pos_of_neg_of_neg a b
      have h1 := sgS.1 a; have h2 := sgY.1 b
      rw [h2] at h1
      cases h3 : sg x
      · exact ⟨fun h => by omega, fun h => by cases h⟩
      · rw [h3] at h1; cases h1
    · have := Int.mul_neg_of_neg_of_pos a b
      have h1 := sgS.1 a
      have h2 : sg y = false := by cases h : sg y; rfl; have := sgY.2 h; omega
      rw [h2] at h1
      cases h3 : sg x
      · rw [h3] at h1; cases h1
      · exact ⟨fun _ => rfl, fun _ => by omega⟩
    · have := Int.mul_neg_of_pos_of_neg a b
      have h1 : ¬ (sg x ^^ sg y) = true := fun h => by have := sgS.2 h; omega
      have h2 := sgY.1 b
      rw [h2] at h1
      cases h3 : sg x
      · rw [h3] at h1; exact absurd rfl h1
      · exact ⟨fun _ => rfl, fun _ => by omega⟩
    · have := Int.mul_pos a b
      have h1 : ¬ (sg x ^^ sg y) = true := fun h => by have := sgS.2 h; omega
      have h2 : sg y = false := by cases h : sg y; rfl; have := sgY.2 h; omega
      rw [h2] at h1
      cases h3 : sg x
      · exact ⟨fun h => by omega, fun h => by cases h⟩
      · rw [h3] at h1; exact absurd rfl h1
  -- x less the nearest product is exact
  have hPr : 9007199254740992 * (rn r - r).natAbs ≤ r.natAbs := by
    have h1 := ex_hi r.natAbs
    have h2 := rn_err h1
    by_cases h3 : ex r.natAbs = 0
    · rw [h3, Nat.pow_zero] at h2; omega
    · have h4 := ex_lo h3
      omega
  have hrep : RpZ (X - rn r) := sterbZ hx.rp (rn_rp _) (by omega)
  have bX := mx.2
  obtain ⟨a, oa, fa⟩ := hx.sub fpr (nr_cap (by omega))
  rw [rn_of hrep] at fa
  obtain ⟨b, ob, fb⟩ := fa.sub fm (nr_cap (by omega))
  rw [show X - rn r - (r - rn r) = X - r by omega] at fb
  refine ⟨m, a, b, _, _, om, oa, ob, fm, fb, fun d => ?_⟩
  obtain ⟨q1, q2⟩ := rn_pos (S := X - r)
  -- the nearest one beside the quotient
  have t1 : 4 * rv (near Z) < Z ↔ r.natAbs < rv (mg x) := by
    rw [← hms]
    conv => lhs; rw [hZ]
    rw [zd_gt hY0, ← hrv]
    exact ⟨fun h => Nat.lt_of_mul_lt_mul_right h, fun h => Nat.mul_lt_mul_of_pos_right h hK⟩
  have t2 : Z < 4 * rv (near Z) ↔ rv (mg x) < r.natAbs := by
    have h1 : 4 * rv (near Z) ≤ Z ↔ r.natAbs ≤ rv (mg x) := by
      rw [← hms]
      conv => lhs; rw [hZ]
      rw [zd_le hY0, ← hrv]
      exact ⟨fun h => Nat.le_of_mul_le_mul_right h hK, fun h => Nat.mul_le_mul_right _ h⟩
    omega
  refine rnd_nudge d (sg x ^^ sg y) (by have := cap_rv; omega) (K := key s) ?_ ?_ ?_
  · unfold key; rw [hss, hms]
  · rw [t1, t2]
    cases h3 : sg x <;> cases h4 : sg y <;> rw [h3] at sgX <;> rw [h4] at sgY <;> simp only [Bool.false_xor, Bool.true_xor, Bool.not_false, Bool.not_true, Bool.false_eq_true, if_true, if_false, iff_false, iff_true] at sgX sgY ⊢
    · rw [if_neg sgY]; omega
    · rw [if_pos sgY]; omega
    · rw [if_neg sgY]; omega
    · rw [if_pos sgY]; omega
  · rw [t1, t2]
    cases h3 : sg x <;> cases h4 : sg y <;> rw [h3] at sgX <;> rw [h4] at sgY <;> simp only [Bool.false_xor, Bool.true_xor, Bool.not_false, Bool.not_true, Bool.false_eq_true, if_true, if_false, iff_false, iff_true] at sgX sgY ⊢
    · rw [if_neg sgY]; omega
    · rw [if_pos sgY]; omega
    · rw [if_neg sgY]; omega
    · rw [if_pos sgY]; omega
end Go.Proofs.YtadijoeeaineaaaDoor.Rn
