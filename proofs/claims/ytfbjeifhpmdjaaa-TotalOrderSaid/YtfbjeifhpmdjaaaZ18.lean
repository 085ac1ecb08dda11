/-
  The contracts of the program's own naturals, eleventh part: differences. Conditions: those that each theorem names.
-/
import Derived.Test.YtfbjeifhpmdjaaaZ17
import Derived.Test.YtfbjeifhpmdjaaaZ16
import Derived.Test.YtfbjeifhpmdjaaaZ13
import Derived.Test.YtfbjeifhpmdjaaaZ14
import Derived.Test.YtfbjeifhpmdjaaaZ10
import Derived.Test.YtfbjeifhpmdjaaaZ11
import Derived.ScopeJumps
namespace Go.Proofs.Ytfbjeifhpmdjaaa
open Go.RowKit Nm
set_option maxRecDepth 100000
set_option linter.unusedVariables false
set_option linter.unusedSimpArgs false

/-- The list behind i words: the difference ahead, the old words behind. -/
structure LessRel (L0 ys L : List Nat) (m i br : Nat) : Prop where
  len : L.length = m
  ws : Ws L
  val : nv (L.take i) + nv (ys.take i) = nv (L0.take i) + 4294967296 ^ i * br
  same : ∀ k, (hk : k < L.length) → i ≤ k → L[k] = L0.getD k 0
theorem LessRel.step {L0 ys L : List Nat} {m i br x y lo hi : Nat} (h : LessRel L0 ys L m i br) (hm : L0.length = m) (hi0 : i < m) (hx : x = L0.getD i 0) (hy : y = ys.getD i 0) (hx32 : x < 4294967296) (hy32 : y < 4294967296) (hbr : br ≤ 1)
    (hlo : lo = (x + 4294967296 - (y + br)) % 4294967296) (hhi : hi = if x < y + br then 1 else 0) : LessRel L0 ys (L.set i lo) m (i + 1) hi := by
  have hlen := h.len
  have hlo32 : lo < 4294967296 := by omega
  refine ⟨by simpa using hlen, h.ws.set _ hlo32, ?_, fun k hk hle => ?_⟩
  · rw [take_set_succ (by omega)]
    exact diff_step (l := L0) (m := ys) (acc := L.take i) (k := i) (br := br) (by rw [List.length_take]; omega) hx hy h.val (by rw [hhi]; split <;> omega)
  · rw [List.getElem_set_ne (by omega)]
    simp at hk
    exact h.same k hk (by omega)
theorem LessRel.done {L0 ys L : List Nat} {m i : Nat} (h : LessRel L0 ys L m i 0) (hm : L0.length = m) (hi : i ≤ m) (hy : ys.length ≤ i) : nv L = nv L0 - nv ys := by
  have hlen := h.len
  have hd : L.drop i = L0.drop i := by
    apply List.ext_getElem
    · simp [hlen, hm]
    · intro k h1 h2
      rw [List.getElem_drop, List.getElem_drop]
      simp at h1 h2
      rw [h.same _ (by omega) (by omega), ← getD_of (by omega)]
  have e1 := nv_take_drop L i (by omega)
  have e2 := nv_take_drop L0 i (by omega)
  have hv := h.val
  rw [List.take_of_length_le hy] at hv
  rw [e1, e2, hd]
  omega
theorem LessRel.end_ {L0 ys L : List Nat} {m br : Nat} (h : LessRel L0 ys L m m br) (hL0 : Ws L0) (hm : L0.length = m) (hy : ys.length ≤ m) (hbr : br ≤ 1) (hle : nv ys ≤ nv L0) : nv L = nv L0 - nv ys := by
  have hv := h.val
  have hlen := h.len
  rw [List.take_of_length_le hy, List.take_of_length_le (by omega), List.take_of_length_le (by omega)] at hv
  have hb := nv_lt h.ws
  rw [hlen] at hb
  have : br = 0 ∨ br = 1 := by omega
  rcases this with e | e
  · subst e; omega
  · subst e
    rw [Nat.mul_one] at hv
    omega

set_option maxHeartbeats 1000000 in
theorem nless_any (g m c : Nat) (L0 : List Nat) (B : Option Addr) (n d : Nat) (ys : List Nat) (wv w : World) (hrow : Row w g L0) (hL0 : Ws L0) (hlen : L0.length = m) (hm : m ≤ 17592186044416) (k : Wds wv B n d ys) (hE : Ext wv w) (hg : wv.heap.size ≤ g) (hnm : n ≤ m)
    (hle : nv ys ≤ nv L0) :
    Calls Try.prog 118 #[.slice (some ⟨g, 0, none⟩) m c, .slice B n d] w fun e w' => e = .returned (.tuple #[]) ∧ (∃ L, Row w' g L ∧ Ws L ∧ L.length = m ∧ nv L = nv L0 - nv ys) ∧ Ext wv w' := by
  have hly := k.len
  have HLE := Lib.hid hle
  have Hly := Lib.hid hly
  have Hlen := Lib.hid hlen
  clear hle hly hlen
  go_enter Try.func118, Try.ntmps118
  go_wp2
  go_loopw [4, 9] (fun bv iv wr => ∃ (i br : Nat) (L : List Nat), i ≤ m ∧ iv = .int .i64 i ∧ bv = .int .u32 (br : Int) ∧ br ≤ 1 ∧ Row wr g L ∧ Hid (LessRel L0 ys L m i br) ∧ Ext wv wr) (fun _ iv _ => m - (intOf iv).toNat)
  case atStart => exact ⟨0, 0, L0, Nat.zero_le _, rfl, rfl, by omega, hrow, Lib.hid ⟨Hlen.out, hL0, by simp [nv], fun k hk _ => getD_of hk⟩, hE⟩
  case round =>
    obtain ⟨i, br, L, hi, rfl, rfl, hbr, hr, hrl, hEr⟩ := hrel
    by_cases hlt : i < m
    · by_cases hstop : n ≤ i ∧ br = 0
      · obtain ⟨hni, rfl⟩ := hstop
        have hval := Lib.hid (hrl.out.done Hlen.out hi (by have := Hly.out; omega))
        go_wp2
        exact bodyPost_ret (results_none rfl _ _ _) rfl ⟨rfl, ⟨L, hr, hrl.out.ws, hrl.out.len, hval.out⟩, hEr⟩
      · have hiL : i < L.length := by have := hrl.out.len; omega
        have hc1 := hr.cell hiL
        have hf1 := hr.frozen i
        have ha32 := hrl.out.ws.get hiL
        have haE := hrl.out.same i hiL (Nat.le_refl _)
        obtain ⟨a, ha⟩ : ∃ a, a = L[i] := ⟨_, rfl⟩
        rw [← ha] at hc1 ha32 haE
        have hYc : (i < n ∧ ∃ bd, ∃ Y : Nat, B = some bd ∧ Y < 4294967296 ∧ Hid (Y = ys.getD i 0) ∧ wr.cell? (bd.add i) = some (.int .u32 (Y : Int))) ∨ (n ≤ i ∧ ((br : Int) == 0) = false ∧ ∃ Y : Nat, Y = 0 ∧ Hid (Y = ys.getD i 0)) := by
          by_cases hl : i < n
          · obtain ⟨bd, hy, e, _, hc⟩ := (k.ext hEr).at_ hl
            exact .inl ⟨hl, bd, ys[i], e, k.ws.get hy, Lib.hid (getD_of hy), hc⟩
          · exact .inr ⟨by omega, by rw [beq_eq_false_iff_ne]; intro h; exact hstop ⟨by omega, by omega⟩, 0, rfl, Lib.hid (getD_out (by have := Hly.out; omega))⟩
        have HaE := Lib.hid haE
        clear hstop ha haE
        rcases hYc with ⟨hjn, bd, Y, rfl, hY32, hYe, hcY⟩ | ⟨hjn, hb0, Y, rfl, hYe⟩
        · obtain ⟨lo, hlo⟩ : ∃ lo, lo = (a + 4294967296 - (Y + br)) % 4294967296 := ⟨_, rfl⟩
          obtain ⟨hi', hhi⟩ : ∃ hi', hi' = if a < Y + br then 1 else 0 := ⟨_, rfl⟩
          have hsb := fun w => sub32_any a Y br lo hi' w ha32 hY32 hbr hlo hhi
          have hst := hrl.out.step Hlen.out hlt HaE.out hYe.out ha32 hY32 hbr hlo hhi
          have HS := Lib.hid hsb
          have HST := Lib.hid hst
          have hhi1 : hi' ≤ 1 := by rw [hhi]; split <;> omega
          have hr' := hr.set_ i lo
          clear hsb hst hlo hhi
          go_wp2_with (go_at_call 119; refine (HS.out _).mono ?_; rintro e w' ⟨rfl, rfl⟩)
          go_roundw
          case rel => exact ⟨i + 1, hi', _, by omega, by go_num, rfl, hhi1, hr', HST, hEr.setCell hg _⟩
          case measure => simp [intOf]; omega
        · obtain ⟨lo, hlo⟩ : ∃ lo, lo = (a + 4294967296 - (0 + br)) % 4294967296 := ⟨_, rfl⟩
          obtain ⟨hi', hhi⟩ : ∃ hi', hi' = if a < 0 + br then 1 else 0 := ⟨_, rfl⟩
          have hsb := fun w => sub32_any a 0 br lo hi' w ha32 (by omega) hbr hlo hhi
          have hst := hrl.out.step Hlen.out hlt HaE.out hYe.out ha32 (by omega) hbr hlo hhi
          have HS := Lib.hid hsb
          have HST := Lib.hid hst
          have hhi1 : hi' ≤ 1 := by rw [hhi]; split <;> omega
          have hr' := hr.set_ i lo
          clear hsb hst hlo hhi
          go_wp2_with (go_at_call 119; refine (HS.out _).mono ?_; rintro e w' ⟨rfl, rfl⟩)
          go_roundw
          case rel => exact ⟨i + 1, hi', _, by omega, by go_num, rfl, hhi1, hr', HST, hEr.setCell hg _⟩
          case measure => simp [intOf]; omega
    · have hie : i = m := by omega
      subst hie
      have hval := Lib.hid (hrl.out.end_ hL0 Hlen.out (by have := Hly.out; omega) hbr HLE.out)
      go_wp2
      go_end0
      exact ⟨rfl, ⟨L, hr, hrl.out.ws, hrl.out.len, hval.out⟩, hEr⟩

set_option maxHeartbeats 2000000 in
theorem nsub_any (A : Option Addr) (n c : Nat) (xs : List Nat) (B : Option Addr) (m d : Nat) (ys : List Nat) (w : World) (h : Wds w A n c xs) (hn : n ≤ 8796093022208) (k : Wds w B m d ys) (hm : m ≤ 8796093022208) (h1 : nw (nv xs) ≤ 16384) (h2 : nw (nv ys) ≤ 16384) (hle : nv ys ≤ nv xs) :
    Calls Try.prog 106 #[.slice A n c, .slice B m d] w (RetWE (nv xs - nv ys) 0 w) := by
  have hcm := ncmp_any A n c xs B m d ys w h (by omega) k (by omega)
  have hcc : 0 ≤ cmpN (nv xs) (nv ys) := by unfold cmpN; rw [if_neg (by omega)]; split <;> omega
  have hLG : Hid (∀ g w, w.cell? ⟨g, 0, none⟩ = some (.slice A n c) → w.cell? ⟨g, 1, none⟩ = some (.slice B m d) → Wds w A n c xs → Wds w B m d ys → Calls Try.prog 98 #[.slice (some ⟨g, 0, none⟩) 2 2] w fun e w' => e = .returned (.bool false) ∧ w = w') :=
    Lib.hid (fun g w a b c' d' => nlong_two g 2 A n c xs B m d ys w a b c' (by omega) h1 d' (by omega) h2)
  have hN1 := fun w h => nnorm_any A n c xs w h (by omega)
  have hW2 := fun w h => nwords_any B m d ys w h (by omega)
  have hp2 := k.pre
  have hle2 : nw (nv ys) ≤ m := by have := nw_nv_le k.ws; have := k.len; omega
  have hlc2 := k.lec
  obtain ⟨V, hV⟩ : ∃ V, V = nv xs := ⟨_, rfl⟩
  obtain ⟨U, hU⟩ : ∃ U, U = nv ys := ⟨_, rfl⟩
  rw [← hV] at hN1 h1 hle hcm hcc ⊢
  rw [← hU] at hW2 hp2 hle2 h2 hle hcm hcc ⊢
  have hvU := nv_nd U
  have hvV := nv_nd V
  obtain ⟨q, hq⟩ : ∃ q, q = nw U := ⟨_, rfl⟩
  obtain ⟨p, hp⟩ : ∃ p, p = nw V := ⟨_, rfl⟩
  have hqp : q ≤ p := by rw [hq, hp]; exact nw_mono hle
  have hpl : (nd V).length = p := by rw [nd_length, hp]
  rw [← hq] at hW2 hp2 hle2 h2
  rw [← hp] at hN1 h1
  obtain ⟨us, hus⟩ : ∃ us, us = nd U := ⟨_, rfl⟩
  rw [← hus] at hp2 hvU
  obtain ⟨vs, hvs⟩ : ∃ vs, vs = nd V := ⟨_, rfl⟩
  have hvw : Ws vs := by rw [hvs]; exact Ws.nd V
  rw [← hvs] at hN1 hvV hpl
  obtain ⟨cc, hcce⟩ : ∃ cc, cc = cmpN V U := ⟨_, rfl⟩
  rw [← hcce] at hcm hcc
  have hfitb : nw (V - U) ≤ 16384 := Nat.le_trans (nw_mono (Nat.sub_le V U)) (by rw [← hp]; exact h1)
  have HCM := Lib.hid hcm
  have HN1 := Lib.hid hN1
  have HW2 := Lib.hid hW2
  have HVU := Lib.hid hvU
  have HVV := Lib.hid hvV
  have HPL := Lib.hid hpl
  have hqd : q ≤ d := by omega
  have HLE := Lib.hid hle
  clear hcm hN1 hW2 hV hU hq hp hus hvs hvU hvV hcce hpl hle
  go_enter Try.func106, Try.ntmps106
  go_wp2_with fail
  refine HCM.out.mono ?_
  rintro e w1 ⟨rfl, z, rfl⟩
  have hn0 := h.drewN z
  have hk0 := k.drewN z
  have hp0 := hp2.drewN z
  have hE00 : Ext w (w.drewN z) := (Ext.refl w).drewN z
  generalize w.drewN z = wz at *
  have hn1 := hn0.alloc (.cells #[.slice A n c, .slice B m d] 41)
  have hk1 := hk0.alloc (.cells #[.slice A n c, .slice B m d] 41)
  have hp2' := hp0.alloc (.cells #[.slice A n c, .slice B m d] 41)
  have hE0 : Ext w (wz.alloc (.cells #[.slice A n c, .slice B m d] 41)) := hE00.alloc _
  have hcell0 : (wz.alloc (.cells #[.slice A n c, .slice B m d] 41)).cell? ⟨wz.heap.size, 0, none⟩ = some (.slice A n c) := by simp
  have hcell1 : (wz.alloc (.cells #[.slice A n c, .slice B m d] 41)).cell? ⟨wz.heap.size, 1, none⟩ = some (.slice B m d) := by simp
  clear hn0 hk0 hp0 hE00 h k hp2 HCM
  go_wp2_with fail
  generalize wz.heap.size = g0 at hcell0 hcell1 ⊢
  generalize wz.alloc _ = w1 at hn1 hk1 hp2' hE0 hcell0 hcell1 ⊢
  refine (hLG.out _ _ hcell0 hcell1 hn1 hk1).mono ?_
  rintro e w' ⟨rfl, rfl⟩
  clear hcell0 hcell1
  go_wp2_with fail
  refine (HN1.out _ hn1).mono ?_
  rintro e w2 ⟨g, p', rfl, hr2, hg2, hp', hE2⟩
  have hk2 := hk1.ext hE2
  have hq2 := hp2'.ext hE2
  have HPP := Lib.hid hp'
  clear hp'
  go_wp2_with fail
  refine (HW2.out _ hk2).mono ?_
  rintro e w' ⟨rfl, rfl⟩
  go_wp2_with fail
  refine (nless_any g p' p' vs B q d us w1 w2 hr2 hvw (by rw [HPL.out, HPP.out]) (by have := HPP.out; omega) hp2' hE2 hg2 (by have := HPP.out; omega) (by rw [HVU.out, HVV.out]; exact HLE.out)).mono ?_
  rintro e w3 ⟨rfl, ⟨L, hr3, hL, hLl, hLv⟩, hE3⟩
  rw [HVU.out, HVV.out] at hLv
  have HLV := Lib.hid hLv
  have hWL := hr3.wds hL hLl (Nat.le_refl _) (by have := HPP.out; unfold maxLen; omega)
  clear hLv
  go_wp2_with fail
  refine (nfit_any _ _ _ _ _ hWL (by have := HPP.out; omega) (by rw [HLV.out]; exact hfitb)).mono ?_
  rintro e w4 ⟨A4, n4, c4, rfl, hR, hE4⟩
  rw [HLV.out] at hR
  go_wp2
  go_ret2
  exact ⟨A4, n4, c4, rfl, hR, hE0.trans (hE3.trans hE4)⟩
end Go.Proofs.Ytfbjeifhpmdjaaa

/-
  The contracts of the program's exact road: product, to, sum. Conditions: those that each theorem names.
-/
namespace Go.Proofs.Ytfbjeifhpmdjaaa
open Go.RowKit Nm Rn
set_option maxRecDepth 100000
set_option linter.unusedVariables false
set_option linter.unusedSimpArgs false

set_option maxHeartbeats 1000000 in
theorem product_any (s1 s2 : Bool) (A : Option Addr) (n c : Nat) (xs : List Nat) (x1 : Int) (B : Option Addr) (m d : Nat) (ys : List Nat) (x2 : Int) (w : World) (h : Wds w A n c xs) (hn : n ≤ 8796093022208) (k : Wds w B m d ys) (hm : m ≤ 8796093022208) (hs : bl (nv xs) + bl (nv ys) ≤ 524288)
    (b1 : -4398046511104 ≤ x1) (b2 : x1 ≤ 4398046511104) (b3 : -4398046511104 ≤ x2) (b4 : x2 ≤ 4398046511104) :
    Calls Try.prog 84 #[.agg #[.bool s1, .slice A n c, .int .i64 x1], .agg #[.bool s2, .slice B m d, .int .i64 x2]] w (RetD (s1 != s2) (nv xs * nv ys) (x1 + x2) w) := by
  have hO := ((Own.start w).add h).add k
  have HM := Lib.hid (fun w h k => nmul_any A n c xs B m d ys w h hn k hm hs)
  clear h k hs
  go_enter Try.func84, Try.ntmps84
  go_upto_region 1 with (first
    | (refine own_box hO rfl rfl ?_; clear hO; intro g w1 hO)
    | (refine own_alloc hO zero_dy rfl rfl ?_; clear hO; intro g w1 hO))
  have hF := hO.facts
  simp only [BF, CF, Nat.zero_add, Nat.reduceAdd, and_true] at hF
  go_wp2_with fail
  refine (HM.out _ (hO.wd 1 rfl) (hO.wd 0 rfl)).mono ?_
  rintro e w' ⟨A2, n2, c2, rfl, hR, hEx⟩
  have hO := (hO.ext hEx).add hR
  clear hF hR hEx HM
  have hF := hO.facts
  simp only [BF, CF, Nat.zero_add, Nat.reduceAdd, and_true] at hF
  go_wp2_with (refine own_store hO 0 rfl rfl rfl size_dy rfl rfl rfl ?_; clear hO; intro w1 hO)
  exact own_ret hO 0 rfl rfl rfl agg_dy size_dy rfl ⟨_, _, _, rfl, hO.wd 0 rfl, hO.toExt⟩

theorem to_any (d : Int) (neg : Bool) (A : Option Addr) (n c : Nat) (xs : List Nat) (exp : Int) (w : World) (h : Wds w A n c xs) (hn : n ≤ 1099511627776) (hnl : nw (nv xs) ≤ 16384)
    (he1 : -4398046511104 ≤ exp) (he2 : exp ≤ 4398046511104) :
    Calls Try.prog 80 #[.agg #[.bool neg, .slice A n c, .int .i64 exp], .int .i64 d] w fun e w' => e = .returned (.float .f64 (rnd d neg (zd (2 * nv xs) (exp - 1)))) ∧ Ext w w' := by
  have hO := (Own.start w).add h
  have HF := Lib.hid (fun w h => of_any d neg A n c xs exp false w h hn hnl he1 he2 (by intro h; cases h))
  clear h
  go_enter Try.func80, Try.ntmps80
  go_upto_region 1 with (refine own_box hO rfl rfl ?_; clear hO; intro g w1 hO)
  have hF := hO.facts
  simp only [BF, CF, Nat.zero_add, Nat.reduceAdd, and_true] at hF
  go_wp2_with fail
  refine (HF.out _ (hO.wd 0 rfl)).mono ?_
  rintro e w' ⟨rfl, hEx⟩
  go_wp2
  go_ret
  exact ⟨rfl, hO.toExt.trans hEx⟩
end Go.Proofs.Ytfbjeifhpmdjaaa

/-
  The contract of the program's Mul. Conditions: those that each theorem names.
-/
namespace Go.Proofs.Ytfbjeifhpmdjaaa
open Go.RowKit Nm Rn
set_option maxRecDepth 100000
set_option linter.unusedVariables false
set_option linter.unusedSimpArgs false

theorem Fl.zero : Fl 0 0 := ⟨by omega, by rw [show mg 0 = 0 from rfl, infR_val]; omega, by unfold sv; rw [show mg 0 = 0 from rfl, rv_zero]; simp⟩
theorem near_le (Z : Nat) : near Z ≤ infR := rr_le 0 false Z
theorem three_cases {b1 b2 b3 : Bool} (h : ¬ (b1 = true ∧ b2 = true ∧ b3 = true)) : b1 = false ∨ (b1 = true ∧ b2 = false) ∨ (b1 = true ∧ b2 = true ∧ b3 = false) := by
  cases b1 <;> cases b2 <;> cases b3 <;> simp_all
theorem mul_units (d : Int) {q X : Int} (h : q * ((2 ^ 1074 : Nat) : Int) = X) : rT d X = rnd d (decide (q < 0)) (4 * q.natAbs) := by
  rw [← h, K74_i, rT_units]
/-- The NaN that an operation without an answer draws. -/
def nanOf (w : World) (x y : Nat) : Nat := (Question.nanBits .f64 x y).cut (w.tape w.drawn (.nanBits .f64 x y))
theorem nanOf_lt (w : World) (x y : Nat) : nanOf w x y < 18446744073709551616 := by
  show (w.tape w.drawn (.nanBits .f64 x y) % 2) * 2 ^ 63 + 0x7ff0000000000000 + 1 + (w.tape w.drawn (.nanBits .f64 x y) / 2) % (2 ^ 52 - 1) < _
  omega
theorem nanOf_nan (w : World) (x y : Nat) : isNaN (nanOf w x y) = true := by
  rw [isNaN_iff, infR_val]
  show _ < ((w.tape w.drawn (.nanBits .f64 x y) % 2) * 2 ^ 63 + 0x7ff0000000000000 + 1 + (w.tape w.drawn (.nanBits .f64 x y) / 2) % (2 ^ 52 - 1)) % 9223372036854775808
  generalize w.tape w.drawn (.nanBits .f64 x y) = t
  have h1 : t % 2 = 0 ∨ t % 2 = 1 := by omega
  have h2 : t / 2 % (2 ^ 52 - 1) < 4503599627370495 := Nat.mod_lt _ (by omega)
  generalize t / 2 % (2 ^ 52 - 1) = u at h2 ⊢
  rcases h1 with h1 | h1 <;> rw [h1] <;> omega
theorem run_nan {op : BinOp} {x y : Nat} (h : floatBits op .f64 x y = none) (ho : op = .add ∨ op = .sub ∨ op = .mul ∨ op = .quo) (w : World) : (binOp op 28 (.float .f64 x) (.float .f64 y)).run Try.prog w = .ok (.float .f64 (nanOf w x y)) w.drew := by
  rcases ho with rfl | rfl | rfl | rfl
  all_goals
    unfold floatBits at h
    simp only at h
    simp [binOp, Op.floatArith, h, Question.forced, nanOf]

theorem prod_nw (x y : Nat) : nw (fbSig x * fbSig y) ≤ 8 := by
  rw [nw_bl]
  have := bl_mul_le (fbSig x) (fbSig y); have := fbSig_bl x; have := fbSig_bl y; omega
section
variable {P : Program} {a : Act} {w : World} {Q : Exit → Act → World → Prop}
/-- A scope that is left forward to one label, once. -/
theorem wp_scope_to {c rest : Code} {l : Nat} {A : Act} {W : World} (hf : findLabel c l = some rest)
    (first : c.wp P (Exit.jump l (fun a' w' => a' = A ∧ w' = W) Q) a w)
    (pass : rest.wp P (Exit.jump l (fun _ _ => False) Q) A W) : (Code.scope c).wp P Q a w := by
  refine wp_scope_jumps l _ (fun _ _ => 0) hf first ?_
  rintro a' w' ⟨rfl, rfl⟩
  intro b k cs
  obtain ⟨e, a₁, w₁, hq, harr⟩ := pass b k cs
  refine ⟨e, a₁, w₁, ?_, harr⟩
  cases e with
  | goto l' => exact hq.2.elim
  | normal => exact hq
  | exit id => exact hq
  | ret => exact hq
  | panic ch => exact hq
  | outgrown => exact hq
theorem jump_ret {l : Nat} {J : Act → World → Prop} : Exit.jump l J Q .ret a w = Q .ret a w := rfl
end


set_option maxHeartbeats 2000000 in
theorem rmul_odd (d : Int) (x y : Nat) (w : World) (hx : x < 18446744073709551616) (hy : y < 18446744073709551616) (ho : (oddF x || oddF y) = true) :
    Calls Try.prog 40 #[.int .i64 d, .float .f64 x, .float .f64 y] w (RetFl (mulR d x y) w) := by
  have hm := mul_odd hx hy ho
  have hE0 : Ext w (w.alloc (.cells #[.float .f64 x, .float .f64 y] 28)) := (Ext.refl w).alloc _
  have hc0 : (w.alloc (.cells #[.float .f64 x, .float .f64 y] 28)).cell? ⟨w.heap.size, 0, none⟩ = some (.float .f64 x) := by simp
  have hc1 : (w.alloc (.cells #[.float .f64 x, .float .f64 y] 28)).cell? ⟨w.heap.size, 1, none⟩ = some (.float .f64 y) := by simp
  have HO := Lib.hid (fun g w c0 c1 => odd_two g x y w c0 c1 hx hy)
  rw [ho] at HO
  obtain ⟨V, hV⟩ : ∃ V, V = mulR d x y := ⟨_, rfl⟩
  rw [← hV]
  rcases hm with ⟨hm, hr⟩ | ⟨s, hm, hr⟩
  · rw [hr] at hV
    have HV := Lib.hid hV
    have hrun := fun w => run_nan (op := .mul) (x := x) (y := y) hm (by simp) w
    have HP := Lib.hid (fun v w => rplain_any (nanOf v x y) w (nanOf_lt v x y))
    clear ho hm hr hV hx hy
    go_enter Try.func40, Try.ntmps40
    go_wp2
    go_step3
    go_wp2_with fail
    generalize w.heap.size = g0 at hc0 hc1 ⊢
    generalize w.alloc _ = w1 at hE0 hc0 hc1 ⊢
    go_wp2_with (first | (go_at_call 75; refine (HO.out _ _ hc0 hc1).mono ?_; rintro e w' ⟨rfl, rfl⟩) | (go_at_call 81; refine (HP.out _ _).mono ?_; rintro e w' ⟨rfl, rfl⟩))
    rw [Exit.noGoto_ret]
    go_ret
    exact ⟨_, rfl, by rw [pl_nan (nanOf_nan _ x y)]; exact nanOf_lt _ x y, by rw [pl_nan (nanOf_nan _ x y), cn_nan (nanOf_nan _ x y)]; exact HV.out.symm, hE0.drew⟩
  · rw [hr] at hV
    have HV := Lib.hid hV
    have hrun := fun w => fmul hm w
    have HP := Lib.hid (fun w => rplain_any (infP s) w (infP_lt s))
    clear ho hm hr hV hx hy
    go_enter Try.func40, Try.ntmps40
    go_wp2
    go_step3
    go_wp2_with fail
    generalize w.heap.size = g0 at hc0 hc1 ⊢
    generalize w.alloc _ = w1 at hE0 hc0 hc1 ⊢
    go_wp2_with (first | (go_at_call 75; refine (HO.out _ _ hc0 hc1).mono ?_; rintro e w' ⟨rfl, rfl⟩) | (go_at_call 81; refine (HP.out _).mono ?_; rintro e w' ⟨rfl, rfl⟩))
    rw [Exit.noGoto_ret]
    go_ret
    exact ⟨_, rfl, by rw [pl_infP]; exact infP_lt s, by rw [pl_infP, cn_infP]; exact HV.out.symm, hE0⟩

set_option maxHeartbeats 4000000 in
theorem rmul_fin (d : Int) (x y : Nat) (w : World) (hx : x < 18446744073709551616) (hy : y < 18446744073709551616) (ho : (oddF x || oddF y) = false) :
    Calls Try.prog 40 #[.int .i64 d, .float .f64 x, .float .f64 y] w fun e w' => e = .returned (.float .f64 (rT d (sv x * sv y))) ∧ Ext w w' := by
  have hE0 : Ext w (w.alloc (.cells #[.float .f64 x, .float .f64 y] 28)) := (Ext.refl w).alloc _
  have hc0 : (w.alloc (.cells #[.float .f64 x, .float .f64 y] 28)).cell? ⟨w.heap.size, 0, none⟩ = some (.float .f64 x) := by simp
  have hc1 : (w.alloc (.cells #[.float .f64 x, .float .f64 y] 28)).cell? ⟨w.heap.size, 1, none⟩ = some (.float .f64 y) := by simp
  have HO := Lib.hid (fun g w c0 c1 => odd_two g x y w c0 c1 hx hy)
  rw [ho] at HO
  rw [Bool.or_eq_false_iff] at ho
  have fx := oddF_fin ho.1
  have fy := oddF_fin ho.2
  have hm := mul_fin hx hy fx fy
  obtain ⟨p, hp⟩ : ∃ p, p = Ieee.double.word (sg x ^^ sg y) (near (zq (rv (mg x) * rv (mg y)) (2 ^ 1073))) := ⟨_, rfl⟩
  rw [← hp] at hm
  have hnl := near_lt' (zq (rv (mg x) * rv (mg y)) (2 ^ 1073))
  have hpl : p < 18446744073709551616 := by rw [hp]; exact word_lt hnl
  have hpi : mg p ≤ infR := by rw [hp, mg_word hnl]; exact near_le _
  have hrun := fun w => fmul hm w
  have HMX := Lib.hid (fun w => middle_any x w hx (by omega))
  have HMY := Lib.hid (fun w => middle_any y w hy (by omega))
  have HMP := Lib.hid (fun w => middle_any p w hpl hpi)
  obtain ⟨V, hV⟩ : ∃ V, V = rT d (sv x * sv y) := ⟨_, rfl⟩
  rw [← hV]
  obtain ⟨b1, hb1⟩ : ∃ b, b = midB x := ⟨_, rfl⟩
  obtain ⟨b2, hb2⟩ : ∃ b, b = midB y := ⟨_, rfl⟩
  obtain ⟨b3, hb3⟩ : ∃ b, b = midB p := ⟨_, rfl⟩
  rw [← hb1] at HMX
  rw [← hb2] at HMY
  rw [← hb3] at HMP
  have HPX := Lib.hid (fun w => part_any x w hx)
  have HPY := Lib.hid (fun w => part_any y w hy)
  have HPR := Lib.hid (fun A n c B m e w h k => product_any (sg x) (sg y) A n c (nd (fbSig x)) (fbExp x) B m e (nd (fbSig y)) (fbExp y) w h (by have := h.len; rw [nd_length] at this; have := fbSig_nw x; omega) k (by have := k.len; rw [nd_length] at this; have := fbSig_nw y; omega) (by rw [nv_nd, nv_nd]; have := fbSig_bl x; have := fbSig_bl y; omega) (by have := fbExp_lo x; omega) (by have := fbExp_hi x; omega) (by have := fbExp_lo y; omega) (by have := fbExp_hi y; omega))
  have HTO := Lib.hid (fun A n c w h => to_any d (sg x != sg y) A n c (nd (fbSig x * fbSig y)) (fbExp x + fbExp y) w h (by have := h.len; rw [nd_length] at this; have := prod_nw x y; omega) (by rw [nv_nd]; have := prod_nw x y; omega) (by have := fbExp_lo x; have := fbExp_lo y; omega) (by have := fbExp_hi x; have := fbExp_hi y; omega))
  simp only [nv_nd] at HPR HTO
  have HV : Hid (V = rnd d (sg x != sg y) (zd (2 * (fbSig x * fbSig y)) (fbExp x + fbExp y - 1))) := Lib.hid (by rw [mul_exact]; exact hV)
  rw [← HV.out] at HTO
  by_cases hb : b1 = true ∧ b2 = true ∧ b3 = true
  · obtain ⟨rfl, rfl, rfl⟩ := hb
    obtain ⟨mx, -⟩ := mid_of hb1.symm
    obtain ⟨my, -⟩ := mid_of hb2.symm
    obtain ⟨mp, fp⟩ := mid_of hb3.symm
    obtain ⟨q, e, hq, hq0, hqg, oe, fpq, fe, hres⟩ := mul_quick (Fl.of hx fx) (Fl.of hy fy) mx my hm fp mp
    have HMI := Lib.hid (fun w => missed_any x y p e w oe)
    have HNU := Lib.hid (fun w => nudge_any d p e (q - rn q) w hpl fp fe.lt (by rw [fe.ltB Fl.zero]) (by rw [Fl.zero.ltB fe]))
    have hk := hres d
    have e1 := mul_units d hq
    rw [← hk, ← e1, ← hV] at HNU
    clear hk e1 hres fe fpq oe hqg hq0 hq mx my mp fp hb1 hb2 hb3 HV HTO HPR HPX HPY hV hpi hpl hnl hp hm fx fy ho hx hy
    go_enter Try.func40, Try.ntmps40
    go_wp2
    go_step3
    go_wp2_with fail
    generalize w.heap.size = g0 at hc0 hc1 ⊢
    generalize w.alloc _ = w1 at hE0 hc0 hc1 ⊢
    go_wp2_with (first | (go_at_call 75; refine (HO.out _ _ hc0 hc1).mono ?_; rintro e w' ⟨rfl, rfl⟩) | (go_at_call 82; ((with_reducible refine (HMX.out _).mono ?_); rintro e w' ⟨rfl, rfl⟩)) | (go_at_call 82; ((with_reducible refine (HMY.out _).mono ?_); rintro e w' ⟨rfl, rfl⟩)) | (go_at_call 82; ((with_reducible refine (HMP.out _).mono ?_); rintro e w' ⟨rfl, rfl⟩)) | (go_at_call 83; refine (HMI.out _).mono ?_; rintro e w' ⟨rfl, rfl⟩) | (go_at_call 77; refine (HNU.out _).mono ?_; rintro e w' ⟨rfl, rfl⟩))
    rw [Exit.noGoto_ret]
    go_ret
    exact ⟨rfl, hE0⟩
  · have hcase := three_cases hb
    clear hb hb1 hb2 hb3 HV hV hpi hpl hnl hp hm fx fy ho hx hy
    rcases hcase with rfl | ⟨rfl, rfl⟩ | ⟨rfl, rfl, rfl⟩
    all_goals
      go_enter Try.func40, Try.ntmps40
      go_wp2
      apply wp_scope_to (l := 0) (hf := by rfl)
      · go_wp2_with (first | (go_at_call 75; refine (HO.out _ _ hc0 hc1).mono ?_; rintro e w' ⟨rfl, rfl⟩) | (go_at_call 82; ((with_reducible refine (HMX.out _).mono ?_); rintro e w' ⟨rfl, rfl⟩)) | (go_at_call 82; ((with_reducible refine (HMY.out _).mono ?_); rintro e w' ⟨rfl, rfl⟩)) | (go_at_call 82; ((with_reducible refine (HMP.out _).mono ?_); rintro e w' ⟨rfl, rfl⟩)))
        go_step3
        exact ⟨rfl, rfl, rfl⟩
      · go_wp2_with fail
        refine (HPX.out _).mono ?_
        rintro e w2 ⟨A1, n1, c1, rfl, hR1, hE1⟩
        go_wp2_with fail
        refine (HPY.out _).mono ?_
        rintro e w3 ⟨A2, n2, c2, rfl, hR2, hE2⟩
        go_wp2_with fail
        refine (HPR.out _ _ _ _ _ _ _ (hR1.ext hE2) hR2).mono ?_
        rintro e w4 ⟨A3, n3, c3, rfl, hR3, hE3⟩
        go_wp2_with fail
        refine (HTO.out _ _ _ _ hR3).mono ?_
        rintro e w5 ⟨rfl, hE4⟩
        go_wp2
        rw [jump_ret]
        go_ret
        exact ⟨rfl, (((hE0.trans hE1).trans hE2).trans hE3).trans hE4⟩

theorem rmul_any (d : Int) (x y : Nat) (w : World) (hx : x < 18446744073709551616) (hy : y < 18446744073709551616) :
    Calls Try.prog 40 #[.int .i64 d, .float .f64 x, .float .f64 y] w (RetFl (mulR d x y) w) := by
  cases ho : (oddF x || oddF y)
  · refine (rmul_fin d x y w hx hy ho).mono ?_
    rintro e w' ⟨rfl, hE⟩
    have e1 : mulR d x y = rT d (sv x * sv y) := by
      unfold oddF at ho
      rw [Bool.or_eq_false_iff, Bool.or_eq_false_iff, Bool.or_eq_false_iff] at ho
      unfold mulR
      rw [ho.1.1, ho.1.2, ho.2.1, ho.2.2]
      rfl
    rw [e1]
    exact ⟨_, rfl, (rT_ok _ _).1, (rT_ok _ _).2, hE⟩
  · exact rmul_odd d x y w hx hy ho
end Go.Proofs.Ytfbjeifhpmdjaaa
