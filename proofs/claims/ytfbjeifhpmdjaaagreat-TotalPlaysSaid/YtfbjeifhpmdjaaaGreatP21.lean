/-
  The contracts of the program's own naturals, eighth part: back, down, Shr, Word. Conditions: those that each theorem names.
-/
import Derived.Test.YtfbjeifhpmdjaaaGreatP19
import Derived.Test.YtfbjeifhpmdjaaaGreatP09
import Derived.Test.YtfbjeifhpmdjaaaGreatP20
import Derived.Test.YtfbjeifhpmdjaaaGreatP06
import Derived.Deep.DeepCutAuto
import Derived.Deep.CutBlock
namespace Go.Proofs.YtfbjeifhpmdjaaaGreat
open Go.RowKit Nm
set_option maxRecDepth 100000
set_option linter.unusedVariables false
set_option linter.unusedSimpArgs false

theorem word_or4 (a b : Nat) (ha : a < 4294967296) (hb : b < 4294967296) : bits .or .u64 ((a : Int) * 4294967296) (b : Int) = ((b + 4294967296 * a : Nat) : Int) := by
  have e : (a : Int) * 4294967296 = ((a * 4294967296 : Nat) : Int) := by omega
  rw [e, u64_or_nat _ _ (by omega) (by omega), nat_join 32 _ _ (by omega) (by omega)]
  omega
theorem word_or2 (a b : Nat) (ha : a < 4294967296) (hb : b < 4294967296) : bits .or .u64 (a : Int) ((b : Int) * 4294967296) = ((a + 4294967296 * b : Nat) : Int) := by
  have e : (b : Int) * 4294967296 = ((b * 4294967296 : Nat) : Int) := by omega
  rw [e, u64_or_nat _ _ (by omega) (by omega), Nat.or_comm, nat_join 32 _ _ (by omega) (by omega)]
  omega

/-- The list behind i words: the quotient's words ahead, the old ones behind. -/
structure BackRel (L0 L : List Nat) (s m i : Nat) : Prop where
  len : L.length = m
  ws : Ws L
  val : nv (L.take i) = nv L0 / 2 ^ s % 4294967296 ^ i
  same : ∀ k, (hk : k < L.length) → i ≤ k → L[k] = L0.getD k 0
theorem BackRel.step {L0 L : List Nat} {s m i lo : Nat} (h : BackRel L0 L s m i) (h0 : Ws L0) (hm : L0.length = m) (hi : i < m) (hs : s < 32) (hlo : lo = (L0.getD i 0 + 4294967296 * L0.getD (i + 1) 0) / 2 ^ s % 4294967296) : BackRel L0 (L.set i lo) s m (i + 1) := by
  have hlen := h.len
  have hlo32 : lo < 4294967296 := by rw [hlo]; exact Nat.mod_lt _ (by omega)
  refine ⟨by simpa using hlen, h.ws.set _ hlo32, ?_, fun k hk hle => ?_⟩
  · have h1 := right_word h0 (D := 0) (S := s) (i := i) (by omega) (by omega) hs
    simp only [Nat.mul_zero, Nat.zero_add, Nat.sub_zero] at h1
    rw [getD_of (l := L0) (k := i) (by omega)] at h1
    rw [nv_take_succ (l := L.set i lo) (by simp; omega), take_set_self, List.getElem_set_self, h.val, Nat.mod_pow_succ, h1, ← hlo]
  · rw [List.getElem_set_ne (by omega)]
    simp at hk
    exact h.same k hk (by omega)

set_option maxHeartbeats 1000000 in
theorem nback_any (g m c : Nat) (L0 : List Nat) (s : Nat) (w0 w : World) (hrow : Row w g L0) (hL0 : Ws L0) (hlen : L0.length = m) (hm : m ≤ 17592186044416) (hmc : m ≤ c) (hcm : c ≤ maxLen) (hs : s < 32) (hE : Ext w0 w) (hg : w0.heap.size ≤ g) :
    Calls Tryz.prog 123 #[.slice (some ⟨g, 0, none⟩) m c, .int .i64 (s : Int)] w (RetW (nv L0 / 2 ^ s) w0) := by
  go_enter Tryz.func123, Tryz.ntmps123
  go_wp2
  go_loopw [9] (fun iv wr => ∃ (i : Nat) (L : List Nat), i ≤ m ∧ iv = .int .i64 i ∧ Row wr g L ∧ BackRel L0 L s m i ∧ Ext w0 wr) (fun iv _ => m - (intOf iv).toNat)
  case atStart => exact ⟨0, L0, Nat.zero_le _, rfl, hrow, ⟨hlen, hL0, by simp [nv, Nat.mod_one], fun k hk _ => getD_of hk⟩, hE⟩
  case round =>
    obtain ⟨i, L, hi, rfl, hr, hrel, hEr⟩ := hrel
    have hLl := hrel.len
    by_cases hlt : i < m
    · have hiL : i < L.length := by omega
      have hc1 := hr.cell hiL
      have hf1 := hr.frozen i
      have ha32 := hrel.ws.get hiL
      have haE := hrel.same i hiL (Nat.le_refl _)
      obtain ⟨a, ha⟩ : ∃ a, a = L[i] := ⟨_, rfl⟩
      rw [← ha] at hc1 ha32 haE
      by_cases h2 : i + 1 < m
      · have hiL2 : i + 1 < L.length := by omega
        have hc2 := hr.cell hiL2
        have hb32 := hrel.ws.get hiL2
        have hbE := hrel.same (i + 1) hiL2 (by omega)
        obtain ⟨b, hb⟩ : ∃ b, b = L[i + 1] := ⟨_, rfl⟩
        rw [← hb] at hc2 hb32 hbE
        have hor := word_or2 a b ha32 hb32
        have hst := fun lo => hrel.step (lo := lo) hL0 hlen hlt hs
        rw [← haE, ← hbE] at hst
        obtain ⟨X, hX⟩ : ∃ X, X = a + 4294967296 * b := ⟨_, rfl⟩
        rw [← hX] at hor hst
        have hX64 : X < 18446744073709551616 := by omega
        have hXd : X / 2 ^ s ≤ X := Nat.div_le_self _ _
        have e1 : (X : Int) / 2 ^ s = ((X / 2 ^ s : Nat) : Int) := by push_cast; rfl
        obtain ⟨Y, hY⟩ : ∃ Y, Y = X / 2 ^ s := ⟨_, rfl⟩
        rw [← hY] at e1 hst hXd
        have e2 : (Y : Int) % 4294967296 = ((Y % 4294967296 : Nat) : Int) := by omega
        obtain ⟨lo, hlo⟩ : ∃ lo, lo = Y % 4294967296 := ⟨_, rfl⟩
        rw [← hlo] at e2 hst
        have hst' := hst lo rfl
        have HST := Lib.hid hst'
        have hr' := hr.set_ i lo
        have hLl' := Lib.hid hLl
        clear hst hst' hlo hY hX ha hb haE hbE hrel hLl
        go_wp2
        go_roundw
        case rel => exact ⟨i + 1, _, by omega, by go_num, hr', HST.out, hEr.setCell hg _⟩
        case measure => simp [intOf]; omega
      · have hie : i + 1 = m := by omega
        have hst := fun lo => hrel.step (lo := lo) hL0 hlen hlt hs
        rw [← haE, ← getD_out (l := L0) (k := i + 1) (by omega), Nat.mul_zero, Nat.add_zero] at hst
        have hXd : a / 2 ^ s ≤ a := Nat.div_le_self _ _
        have e1 : (a : Int) / 2 ^ s = ((a / 2 ^ s : Nat) : Int) := by push_cast; rfl
        obtain ⟨Y, hY⟩ : ∃ Y, Y = a / 2 ^ s := ⟨_, rfl⟩
        rw [← hY] at e1 hst hXd
        have e2 : (Y : Int) % 4294967296 = (Y : Int) := by omega
        have hst' := hst Y (by omega)
        have HST := Lib.hid hst'
        have hr' := hr.set_ i Y
        have hLl' := Lib.hid hLl
        clear hst hst' hY ha haE hrel hLl hie
        go_wp2
        go_roundw
        case rel => exact ⟨i + 1, _, by omega, by go_num, hr', HST.out, hEr.setCell hg _⟩
        case measure => simp [intOf]; omega
    · have hval := hrel.val
      rw [List.take_of_length_le (by omega)] at hval
      have h1 := nv_lt hL0
      rw [hlen] at h1
      rw [Nat.mod_eq_of_lt (by rw [show i = m by omega]; exact Nat.lt_of_le_of_lt (Nat.div_le_self _ _) h1)] at hval
      have HV := Lib.hid hval
      have hW := hr.wds hrel.ws hLl hmc hcm
      clear hval h1 hrel hLl
      go_wp2_with fail
      refine (ncut_any _ _ _ _ _ hW (by omega)).mono ?_
      rintro e w4 ⟨A4, n4, c4, rfl, hR, hE4⟩
      rw [HV.out] at hR
      go_wp2
      go_ret
      exact ⟨_, _, _, rfl, hR, hEr.trans hE4⟩

theorem add_lit' (b o n : Nat) : Addr.add ⟨b, o, none⟩ n = ⟨b, o + n, none⟩ := Addr.add_lit b o n
/-- The list from word k on. -/
theorem Wds.from_ {w : World} {ad : Addr} {n c k : Nat} {xs : List Nat} (h : Wds w (some ad) n c xs) (hk : k ≤ n) : Wds w (some (ad.add k)) (n - k) (c - k) (xs.drop k) := by
  have hl := h.len
  have hlc := h.lec
  have hcm := h.cmax
  refine ⟨by rw [List.length_drop]; omega, by omega, by omega, h.ws.drop k, fun h0 => ?_⟩
  obtain ⟨ad', e, hlt, hc⟩ := h.2.2.2.2 (by omega)
  injection e with e
  subst e
  refine ⟨_, rfl, by rw [block_of_add]; exact hlt, fun j x hj => ?_⟩
  rw [List.getElem?_drop] at hj
  rw [add_of_add]
  exact hc (k + j) x hj
theorem and_low32 (x S : Nat) (hx : x < 4294967296) (hS : S < 32) : bits .and .u32 (x : Int) ((2 ^ S : Int) - 1) = ((x % 2 ^ S : Nat) : Int) := by
  have h1 : 2 ^ S ≤ 2147483648 := Nat.pow_le_pow_right (n := 2) (by omega) (show S ≤ 31 by omega)
  have hp : 0 < 2 ^ S := Nat.two_pow_pos S
  have e : ((2 : Int) ^ S - 1) = ((2 ^ S - 1 : Nat) : Int) := by
    have : ((2 ^ S : Nat) : Int) = (2 : Int) ^ S := by push_cast; rfl
    omega
  rw [e, u32_and_nat _ _ hx (by omega), Nat.and_two_pow_sub_one_eq_mod]

set_option maxHeartbeats 2000000 in
theorem ndown_any (A : Option Addr) (n c : Nat) (xs : List Nat) (s : Nat) (w : World) (h : Wds w A n c xs) (hn : n ≤ 17592186044416) (hs : s ≤ 4611686018427387904) :
    Calls Tryz.prog 99 #[.slice A n c, .int .i64 (s : Int)] w (RetWB (nv xs / 2 ^ s) (lostB (nv xs) s) w) := by
  have hnw := nwords_any A n c xs w h (by omega)
  have hpre := h.pre
  have hle : nw (nv xs) ≤ n := by have := nw_nv_le h.ws; have := h.len; omega
  have hlec := h.lec
  obtain ⟨V, hV⟩ : ∃ V, V = nv xs := ⟨_, rfl⟩
  rw [← hV] at hnw hpre hle ⊢
  have hvn := nv_nd V
  obtain ⟨D, S, hS, hsD⟩ : ∃ D S, S < 32 ∧ s = 32 * D + S := ⟨s / 32, s % 32, Nat.mod_lt _ (by omega), by omega⟩
  have hq : (s : Int) / 32 = (D : Int) := by omega
  have hr : (s : Int) % 32 = (S : Int) := by omega
  obtain ⟨m, hm⟩ : ∃ m, m = nw V := ⟨_, rfl⟩
  have hlt := lt_pow_nw V
  rw [← hm] at hnw hle hpre hlt
  have HN := Lib.hid hnw
  have HD := Lib.hid hsD
  have HM := Lib.hid hm
  have HLT := Lib.hid hlt
  clear hnw hsD h hV hlt
  by_cases hge : m ≤ D
  · have h1 : Hid (nd (V / 2 ^ s) = []) := Lib.hid (by
      rw [HD.out, Nat.pow_add, ← pow32, ← Nat.div_div_eq_div_mul, Nat.div_eq_of_lt (Nat.lt_of_lt_of_le HLT.out (Nat.pow_le_pow_right (by omega) hge)), Nat.zero_div, nd_zero])
    have h2 : Hid (decide (0 < m) = lostB V s) := Lib.hid (by
      have hVs : V < 2 ^ s := by
        rw [HD.out, Nat.pow_add, ← pow32]
        exact Nat.lt_of_lt_of_le HLT.out (Nat.le_trans (Nat.pow_le_pow_right (by omega) hge) (Nat.le_mul_of_pos_right _ (Nat.two_pow_pos S)))
      unfold lostB
      rw [Nat.mod_eq_of_lt hVs, HM.out]
      refine decide_eq_decide.2 ⟨fun h hh => by rw [hh, nw_zero] at h; omega, fun h => ?_⟩
      rcases Nat.eq_zero_or_pos (nw V) with e | e
      · exact absurd (nw_eq_zero.1 e) h
      · exact e)
    clear hvn hm hpre
    cases A
    all_goals
      go_enter Tryz.func99, Tryz.ntmps99
      go_wp2
      go_step3
      go_wp2_with (go_at_call 96; refine HN.out.mono ?_; rintro e w' ⟨rfl, rfl⟩)
      rw [Exit.noGoto_ret]
      go_ret2
      exact ⟨none, 0, 0, by rw [h2.out]; rfl, by rw [h1.out]; exact Wds.nil_ (by unfold maxLen; omega), Ext.refl _⟩
  · have hlt : D < m := by omega
    clear hge
    obtain ⟨ad, hx, rfl, hbl, hc⟩ := hpre.at_ hlt
    have hX32 := hpre.ws.get hx
    have hcz := fun (i : Nat) (hi : i < D) => hpre.at_ (k := i) (show i < m by omega)
    have hlo : Hid (lostB V s = true ↔ nv ((nd V).take D) ≠ 0 ∨ (nd V)[D] % 2 ^ S ≠ 0) := Lib.hid (by
      have := right_mod hpre.ws hx hS
      rw [hvn, ← HD.out] at this
      unfold lostB
      rw [decide_eq_true_iff]
      exact this)
    have hdr : Hid (nv ((nd V).drop D) = V / 4294967296 ^ D) := Lib.hid (by
      have := nv_div_pow hpre.ws (k := D) (by omega)
      rw [hvn] at this
      exact this.symm)
    have hfrom := hpre.from_ (k := D) (by omega)
    have hval : Hid (V / 2 ^ s = V / 4294967296 ^ D / 2 ^ S) := Lib.hid (by rw [HD.out, Nat.pow_add, ← pow32, ← Nat.div_div_eq_div_mul])
    generalize nd V = vs at *
    obtain ⟨x, hxe⟩ : ∃ x, x = vs[D] := ⟨_, rfl⟩
    rw [← hxe] at hc hX32 hlo
    have hand := and_low32 x S hX32 hS
    have hP31 : (2 : Int) ^ S ≤ 2147483648 ∧ (0 : Int) < 2 ^ S := by
      have h1 : 2 ^ S ≤ 2147483648 := Nat.pow_le_pow_right (n := 2) (by omega) (show S ≤ 31 by omega)
      have hp : 0 < 2 ^ S := Nat.two_pow_pos S
      have : ((2 ^ S : Nat) : Int) = (2 : Int) ^ S := by push_cast; rfl
      omega
    obtain ⟨b0, hb0⟩ : ∃ b0, b0 = decide (x % 2 ^ S ≠ 0) := ⟨_, rfl⟩
    have hb0i : ((x : Int) % 2 ^ S != 0) = b0 := by
      rw [hb0]
      have e : ((x : Int) % 2 ^ S) = ((x % 2 ^ S : Nat) : Int) := by push_cast; rfl
      rw [e, Bool.eq_iff_iff, bne_iff_ne, decide_eq_true_iff]
      omega
    have HB0 := Lib.hid hb0
    clear hb0
    have HCZ := Lib.hid hcz
    have HPRE := Lib.hid hpre
    have HFR := Lib.hid hfrom
    have hDc : D < c := by omega
    have hP1 := hP31.1
    have hP2 := hP31.2
    clear hvn hxe hcz hpre hfrom hm hP31
    go_enter Tryz.func99, Tryz.ntmps99
    go_wp2
    go_step3
    go_wp2_with (go_at_call 96; refine HN.out.mono ?_; rintro e w' ⟨rfl, rfl⟩)
    go_quiet (fail)
    go_wp2
    go_step3
    go_wp2
    clear hb0i hand
    go_loop [6, 33] (fun bv iv => ∃ (i : Nat) (b : Bool), i ≤ D ∧ iv = .int .i64 i ∧ bv = .bool b ∧ Hid (b = true → lostB V s = true) ∧ Hid (b = false → x % 2 ^ S = 0 ∧ nv (vs.take i) = 0)) (fun _ iv => D - (intOf iv).toNat)
    case atStart =>
      refine ⟨0, b0, Nat.zero_le _, rfl, rfl, Lib.hid (fun h => ?_), Lib.hid (fun h => ?_)⟩
      · rw [HB0.out, decide_eq_true_iff] at h
        exact hlo.out.2 (.inr h)
      · rw [HB0.out, decide_eq_false_iff_not] at h
        exact ⟨Decidable.not_not.1 h, by simp [nv]⟩
    case round =>
      obtain ⟨i, b, hi, rfl, rfl, hbt, hbf⟩ := hrel
      by_cases hgo : b = false ∧ i < D
      · obtain ⟨rfl, hiD⟩ := hgo
        obtain ⟨ad', hxi, e', _, hci⟩ := HCZ.out i hiD
        injection e' with e'
        subst e'
        have hi32 := HPRE.out.ws.get hxi
        have hv := hbf.out rfl
        have hsucc := nv_take_succ hxi
        obtain ⟨y, hy⟩ : ∃ y, y = vs[i] := ⟨_, rfl⟩
        rw [← hy] at hci hi32 hsucc
        by_cases hy0 : y = 0
        · have HS : Hid (nv (vs.take (i + 1)) = 0) := Lib.hid (by rw [hsucc, hv.2, hy0]; simp)
          have HV := Lib.hid hv
          have hyz : ((y : Int) != 0) = false := by rw [hy0]; rfl
          clear hsucc hy hv hy0
          go_wp2
          go_round
          case rel => exact ⟨i + 1, false, by omega, by go_num, rfl, Lib.hid (fun h => by cases h), Lib.hid (fun _ => ⟨HV.out.1, HS.out⟩)⟩
          case measure => simp [intOf]; omega
        · have HS : Hid (lostB V s = true) := Lib.hid (hlo.out.2 (.inl (by
            have h1 := nv_take_drop (vs.take D) (i + 1) (by rw [List.length_take]; omega)
            rw [List.take_take, Nat.min_eq_left (by omega)] at h1
            have hp : 0 < 4294967296 ^ i * y := Nat.mul_pos (Nat.pow_pos (by omega)) (Nat.pos_of_ne_zero hy0)
            omega)))
          have hyz : ((y : Int) != 0) = true := by rw [bne_iff_ne]; omega
          clear hsucc hy hv hy0
          go_wp2
          go_round
          case rel => exact ⟨i + 1, true, by omega, by go_num, rfl, Lib.hid (fun _ => HS.out), Lib.hid (fun h => by cases h)⟩
          case measure => simp [intOf]; omega
      · have hb : Hid (b = lostB V s) := Lib.hid (by
          cases b
          · have hie : i = D := by
              rcases Nat.lt_or_ge i D with h | h
              · exact absurd ⟨rfl, h⟩ hgo
              · omega
            have h1 := hbf.out rfl
            rw [hie] at h1
            symm
            rw [Bool.eq_false_iff]
            intro h
            rcases hlo.out.1 h with h2 | h2
            · exact h2 h1.2
            · exact h2 h1.1
          · exact (hbt.out rfl).symm)
        have hcase : (b = true ∧ i < D) ∨ D ≤ i := by
          rcases Nat.lt_or_ge i D with h | h
          · left
            cases b
            · exact absurd ⟨rfl, h⟩ hgo
            · exact ⟨rfl, h⟩
          · exact .inr h
        clear hgo
        rcases hcase with ⟨rfl, hiD⟩ | hiD
        all_goals
          go_wp2_with fail
          refine (nnorm_any _ _ _ _ _ (HFR.out.drewN _) (by omega)).mono ?_
          rintro e w4 ⟨g, k, rfl, hr4, hg4, hk4, hE4⟩
          have hk5 : k ≤ m := by rw [hk4]; have h1 := nw_nv_le HFR.out.ws; have h2 := HFR.out.len; omega
          have hE5 : Ext w w4 := ((Ext.refl w).drewN _).trans hE4
          have HK := Lib.hid hk4
          clear hk4
          go_wp2_with fail
          refine (nback_any g k k _ S w w4 hr4 (Ws.nd _) (by rw [nd_length]; exact HK.out.symm) (by omega) (Nat.le_refl _) (by unfold maxLen; omega) hS hE5 hg4).mono ?_
          rintro e w6 ⟨A6, n6, c6, rfl, hR, hE6⟩
          go_wp2
          rw [Exit.noGoto_ret]
          go_ret2
          refine ⟨A6, n6, c6, ?_, by rw [hval.out, ← hdr.out]; rw [nv_nd] at hR; exact hR, hE6⟩
          rw [← hb.out]
          rfl

theorem nlong_raw (g c : Nat) (A : Option Addr) (n d : Nat) (xs : List Nat) (w : World) (hc : w.cell? ⟨g, 0, none⟩ = some (.slice A n d)) (h : Wds w A n d xs) (hn : n ≤ 35184372088832) (hs : nw (nv xs) ≤ 16384) :
    Calls Tryz.prog 97 #[.slice (some ⟨g, 0, none⟩) 1 c] w fun e w' => e = .returned (.bool false) ∧ w = w' :=
  (nlong_any g 1 c [⟨A, n, d, xs⟩] w rfl (by omega) (fun i s hs => by
    match i, hs with
    | 0, hs => simp at hs; subst hs; exact hc
    | i + 1, hs => simp at hs) (fun s hs => by simp at hs; subst hs; exact ⟨h, hn⟩)).mono fun e w' h => ⟨by rw [h.1]; exact ret_bool (by simp [isLong]; omega), h.2⟩

/-- What is answered: a list of words, a bool, an error's number. -/
def RetWBE (V : Nat) (b : Bool) (x : Int) (w : World) (e : Ending) (w' : World) : Prop := ∃ A n c, e = .returned (.tuple #[.slice A n c, .bool b, .int .i64 x]) ∧ Wds w' A n c (nd V) ∧ Ext w w'
set_option maxHeartbeats 1000000 in
theorem nshr_any (A : Option Addr) (n c : Nat) (xs : List Nat) (s : Nat) (w : World) (h : Wds w A n c xs) (hn : n ≤ 17592186044416) (hs : s ≤ 4611686018427387904) (hnl : nw (nv xs) ≤ 16384) :
    Calls Tryz.prog 116 #[.slice A n c, .int .i64 (s : Int)] w (RetWBE (nv xs / 2 ^ s) (lostB (nv xs) s) 0 w) := by
  have h1 := h.alloc (.cells #[.slice A n c] 36)
  have hL := fun g w hc h => nlong_raw g 1 A n c xs w hc h (by omega) hnl
  have hD := fun w h => ndown_any A n c xs s w h hn hs
  obtain ⟨Q, hQ⟩ : ∃ Q, Q = nv xs / 2 ^ s := ⟨_, rfl⟩
  obtain ⟨B, hB⟩ : ∃ B, B = lostB (nv xs) s := ⟨_, rfl⟩
  rw [← hQ, ← hB] at hD ⊢
  have HL := Lib.hid hL
  have HD := Lib.hid hD
  clear hL hD hQ hB
  go_enter Tryz.func116, Tryz.ntmps116
  go_wp2_with (first | (go_at_call 97; refine (HL.out _ _ (by simp) h1).mono ?_; rintro e w' ⟨rfl, rfl⟩) | (go_at_call 99; refine (HD.out _ h1).mono ?_; rintro e w' ⟨A2, n2, c2, rfl, hR, hE⟩))
  go_ret3
  exact ⟨A2, n2, c2, rfl, hR, ((Ext.refl w).alloc _).trans hE⟩

set_option maxHeartbeats 1000000 in
theorem nword_any (A : Option Addr) (n c : Nat) (xs : List Nat) (w : World) (h : Wds w A n c xs) (hn : n ≤ 17592186044416) (hs : nw (nv xs) ≤ 2) :
    Calls Tryz.prog 117 #[.slice A n c] w fun e w' => e = .returned (.tuple #[.int .u64 (nv xs : Int), .bool true]) ∧ ∃ q, w' = w.drewN q := by
  have hnw := nwords_any A n c xs w h (by omega)
  have hle : nw (nv xs) ≤ n := by have := nw_nv_le h.ws; have := h.len; omega
  have htk := nd_take h.ws
  have hvn := nv_nd (nv xs)
  have hlx := h.len
  obtain ⟨V, hV⟩ : ∃ V, V = nv xs := ⟨_, rfl⟩
  rw [← hV] at hnw hle hs htk hvn ⊢
  obtain ⟨m, hm⟩ : ∃ m, m = nw V := ⟨_, rfl⟩
  rw [← hm] at hnw hle hs htk
  match m, hs with
  | 0, _ =>
    have hF : (0 : Int) = (V : Int) := by rw [nw_eq_zero.1 hm.symm]; rfl
    have HF := Lib.hid hF
    have HN := Lib.hid hnw
    clear hF hnw hm htk hvn hV
    go_enter Tryz.func117, Tryz.ntmps117
    go_wp2_with (go_at_call 96; refine HN.out.mono ?_; rintro e w' ⟨rfl, rfl⟩)
    go_ret2
    exact ⟨by rw [← HF.out]; rfl, 0, rfl⟩
  | 1, _ =>
    obtain ⟨ad, hx, rfl, hb, hc⟩ := h.at_ (k := 0) (by omega)
    have hF : (xs[0] : Int) = (V : Int) := by
      rw [htk, List.take_succ_eq_append_getElem hx] at hvn
      simp [nv] at hvn
      omega
    have hX := h.ws.get hx
    obtain ⟨x, hxe⟩ : ∃ x, x = xs[0] := ⟨_, rfl⟩
    rw [← hxe] at hc hF hX
    have hc' : w.cell? ad = some (.int .u32 (x : Int)) := by simpa [Addr.add] using hc
    have HF := Lib.hid hF
    have HN := Lib.hid hnw
    clear hF hnw hm htk hvn hV hxe
    go_enter Tryz.func117, Tryz.ntmps117
    go_wp2_with (go_at_call 96; refine HN.out.mono ?_; rintro e w' ⟨rfl, rfl⟩)
    go_ret2
    exact ⟨by rw [← HF.out]; rfl, 0, rfl⟩
  | 2, _ =>
    obtain ⟨ad, hx, rfl, hb, hc⟩ := h.at_ (k := 0) (by omega)
    obtain ⟨ad', hx1, e', _, hc1⟩ := h.at_ (k := 1) (by omega)
    injection e' with e'
    subst e'
    have hX := h.ws.get hx
    have hY := h.ws.get hx1
    have hF : xs[0] + 4294967296 * xs[1] = V := by
      rw [htk, List.take_succ_eq_append_getElem hx1, List.take_succ_eq_append_getElem hx] at hvn
      simp [nv] at hvn
      omega
    obtain ⟨x, hxe⟩ : ∃ x, x = xs[0] := ⟨_, rfl⟩
    obtain ⟨y, hye⟩ : ∃ y, y = xs[1] := ⟨_, rfl⟩
    rw [← hxe] at hc hF hX
    rw [← hye] at hc1 hF hY
    have hc' : w.cell? ad = some (.int .u32 (x : Int)) := by simpa [Addr.add] using hc
    have hc1' : w.cell? { block := ad.block, off := ad.off + 1, spot := none } = some (.int .u32 (y : Int)) := by simpa [Addr.add] using hc1
    have b1 : (1 : Int) < (n : Int) := by omega
    have b0 : 0 < n := by omega
    have b2 : (0 : Int) < (n : Int) := by omega
    have b3 : 1 < n := by omega
    have hor := word_or4 y x hY hX
    rw [hF] at hor
    have HO := Lib.hid hor
    have HN := Lib.hid hnw
    have hyV : (y : Int) * 4294967296 ≤ 18446744069414584320 := by omega
    clear hF hnw hm htk hvn hV hxe hye hor
    go_enter Tryz.func117, Tryz.ntmps117
    go_wp2_with (go_at_call 96; refine HN.out.mono ?_; rintro e w' ⟨rfl, rfl⟩)
    go_quiet (fail)
    go_wp2
    go_ret2
    exact ⟨by rw [← HO.out]; rfl, _, rfl⟩
end Go.Proofs.YtfbjeifhpmdjaaaGreat

/-
  The contracts of the program's rounding: beyond, of. Conditions: those that each theorem names.
-/
namespace Go.Proofs.YtfbjeifhpmdjaaaGreat
open Go.RowKit Nm Rn
set_option maxRecDepth 100000
set_option linter.unusedVariables false
set_option linter.unusedSimpArgs false

/-- The sign turned, in the walk's own form. -/
theorem run_ng {x : Nat} (h : x < 18446744073709551616) (w : World) : (Go.Op.unary .neg (.float .f64 x)).run Tryz.prog w = .ok (.float .f64 (ng x)) w := by
  have : Go.Op.negFloat .f64 x = ng x := ng_xor h
  rw [← this]; rfl
theorem pat_ng {r : Nat} (h : r < 9223372036854775808) (h0 : r ≠ 0) : ng r = pat true r := by
  unfold ng pat sg
  rw [decide_eq_false (by omega), if_neg h0]
  simp; omega
theorem pat_plus (r : Nat) : pat false r = r := by unfold pat; split <;> simp_all

set_option maxHeartbeats 1000000 in
theorem beyond_any (d : Int) (neg : Bool) (w : World) :
    Calls Tryz.prog 115 #[.int .i64 d, .bool neg] w fun e w' => e = .returned (.float .f64 (pat neg (if twB d neg then infR - 1 else infR))) ∧ w = w' := by
  have hn1 := fun w => run_ng (x := 9218868437227405311) (by omega) w
  have hn2 := fun w => run_ng (x := infR) infR_lt w
  rw [pat_ng (r := 9218868437227405311) (by omega) (by omega)] at hn1
  rw [pat_ng (r := infR) (by rw [infR_val]; omega) (by rw [infR_val]; omega)] at hn2
  have HI := Lib.hid (fun w => inf_p w)
  have key : ∃ t, t = twB d neg ∧ ((d == 1) = true ∧ (d == -1) = false ∧ t = neg ∨ (d == 1) = false ∧ (d == -1) = true ∧ t = !neg ∨ (d == 1) = false ∧ (d == -1) = false ∧ t = false) := by
    refine ⟨_, rfl, ?_⟩
    unfold twB
    by_cases h1 : d = 1
    · subst h1; left; cases neg <;> simp
    · by_cases h2 : d = -1
      · subst h2; right; left; cases neg <;> simp
      · right; right; simp [h1, h2]
  obtain ⟨t, ht, hk⟩ := key
  rw [← ht]
  clear ht
  have hF : ∀ b, (if b = true then infR - 1 else infR) = if b = true then 9218868437227405311 else infR := by intro b; rw [infR_val]
  rw [hF]
  clear hF
  cases neg
  all_goals
    rcases hk with ⟨h1, h2, rfl⟩ | ⟨h1, h2, rfl⟩ | ⟨h1, h2, rfl⟩
    all_goals
      go_enter Tryz.func115, Tryz.ntmps115
      go_wp2_with (go_at_call 71; refine (HI.out _).mono ?_; rintro e w' ⟨rfl, rfl⟩)
      go_ret
      exact ⟨by first | rfl | (simp only [pat_plus]; rfl), rfl⟩

theorem and3 (v : Nat) (h : v < 18446744073709551616) : bits .and .u64 (v : Int) 3 = ((v % 4 : Nat) : Int) := by
  rw [show (3 : Int) = ((3 : Nat) : Int) from rfl, u64_and_nat _ _ h (by omega)]
  congr 1
  exact Nat.and_two_pow_sub_one_eq_mod v 2
theorem and1 (v : Nat) (h : v < 18446744073709551616) : bits .and .u64 (v : Int) 1 = ((v % 2 : Nat) : Int) := by
  rw [show (1 : Int) = ((1 : Nat) : Int) from rfl, u64_and_nat _ _ h (by omega)]
  congr 1
  exact Nat.and_two_pow_sub_one_eq_mod v 1
theorem or1 (v : Nat) (h : v < 18446744073709551615) : bits .or .u64 (v : Int) 1 = ((stick v true : Nat) : Int) := by
  rw [show (1 : Int) = ((1 : Nat) : Int) from rfl, u64_or_nat _ _ (by omega) (by omega), or_one]
theorem stick_lt (W : Nat) (f : Bool) : stick W f ≤ W + 1 := by unfold stick; split <;> omega

set_option maxHeartbeats 4000000 in
theorem of_any (d : Int) (neg : Bool) (A : Option Addr) (n c : Nat) (xs : List Nat) (exp : Int) (more : Bool) (w : World) (h : Wds w A n c xs) (hn : n ≤ 1099511627776) (hnl : nw (nv xs) ≤ 16384)
    (he1 : -4398046511104 ≤ exp) (he2 : exp ≤ 4398046511104) (hm : more = true → 55 ≤ bl (nv xs)) :
    Calls Tryz.prog 92 #[.int .i64 d, .bool neg, .slice A n c, .int .i64 exp, .bool more] w fun e w' => e = .returned (.float .f64 (rnd d neg (zd (2 * nv xs + more.toNat) (exp - 1)))) ∧ Ext w w' := by
  have hLen := nlen_any A n c xs w h (by omega)
  have hBl := bl_le_nw (nv xs)
  obtain ⟨V, hV⟩ : ∃ V, V = nv xs := ⟨_, rfl⟩
  obtain ⟨B, hB⟩ : ∃ B, B = bl V := ⟨_, rfl⟩
  rw [← hV] at hLen hBl hm hnl ⊢
  rw [← hB] at hLen hBl hm
  have HL := Lib.hid hLen
  have HB := Lib.hid hB
  have HV := Lib.hid hV
  clear hLen hB hV
  by_cases hV0 : V = 0
  · have hB0 : B = 0 := by rw [HB.out, hV0]; rfl
    have hmf : more = false := by cases more; rfl; have := hm rfl; omega
    have HF : Hid (0 = rnd d neg (zd (2 * V + more.toNat) (exp - 1))) := Lib.hid (by rw [hV0, hmf]; show 0 = rnd d neg (zd 0 _); rw [zd_zero, rnd_zero])
    have hB1 : ((B : Int) == 0) = true := by rw [hB0]; rfl
    clear hmf hB0 hV0 hm
    go_enter Tryz.func92, Tryz.ntmps92
    go_wp2_with (go_at_call 90; refine HL.out.mono ?_; rintro e w' ⟨rfl, rfl⟩)
    go_ret
    exact ⟨ret_float HF.out, Ext.refl w⟩
  · have hBp : 1 ≤ B := by have := bl_pos hV0; have := HB.out; omega
    have hB1 : ((B : Int) == 0) = false := by rw [beq_eq_false_iff_ne]; omega
    by_cases hbig : 1023 < (B : Int) - 1 + exp
    · have HF : Hid (pat neg (if twB d neg then infR - 1 else infR) = rnd d neg (zd (2 * V + more.toNat) (exp - 1))) := Lib.hid (by rw [rnd_big hV0 (by rw [← HB.out]; exact hbig)])
      have HY := Lib.hid (fun w => beyond_any d neg w)
      generalize pat neg (if twB d neg then infR - 1 else infR) = R at *
      clear hV0 hm
      go_enter Tryz.func92, Tryz.ntmps92
      go_wp2_with (first | (go_at_call 90; refine HL.out.mono ?_; rintro e w' ⟨rfl, rfl⟩) | (go_at_call 115; refine (HY.out _).mono ?_; rintro e w' ⟨rfl, rfl⟩))
      go_ret
      exact ⟨ret_float HF.out, Ext.refl w⟩
    · obtain ⟨E, hE⟩ : ∃ E, E = ofE V exp := ⟨_, rfl⟩
      have hEd : E = max ((B : Int) - 53 + exp) (-1074) := by rw [hE, HB.out]; rfl
      have hE1 : -1074 ≤ E := by omega
      have hE2 : E ≤ 971 := by omega
      obtain ⟨C, hC⟩ : ∃ C, C = E - 2 - exp := ⟨_, rfl⟩
      have hC1 : C ≤ 4398046513000 := by omega
      have hC2 : -4398046513000 ≤ C := by omega
      have hCE : C = ofE V exp - 2 - exp := by rw [← hE]; exact hC
      obtain ⟨u, hu⟩ : ∃ u : Nat, (u : Int) = E + 1074 := ⟨(E + 1074).toNat, by omega⟩
      obtain ⟨W, hW⟩ : ∃ W, W = ofW V C := ⟨_, rfl⟩
      obtain ⟨F, hF⟩ : ∃ F, F = ofF V C more := ⟨_, rfl⟩
      obtain ⟨v, hv⟩ : ∃ v, v = stick W F := ⟨_, rfl⟩
      have hwl := ofW_lt hV0 hCE
      rw [← hW] at hwl
      have hvl : v ≤ W + 1 := by rw [hv]; exact stick_lt W F
      have hmain := rnd_ofW (more := more) hV0 (by rw [← HB.out]; exact hm) hCE (by rw [← HB.out]; omega) d neg (v := v) (u := u) (by rw [hv, hW, hF]) (by rw [← hE]; exact hu)
      obtain ⟨s, hs⟩ : ∃ s, s = v / 4 := ⟨_, rfl⟩
      obtain ⟨r, hr⟩ : ∃ r, r = v % 4 := ⟨_, rfl⟩
      rw [← hs, ← hr] at hmain
      obtain ⟨up, hup⟩ : ∃ up, up = upO d neg s r := ⟨_, rfl⟩
      rw [← hup] at hmain
      obtain ⟨S, hS⟩ : ∃ S, S = s + up.toNat := ⟨_, rfl⟩
      rw [← hS] at hmain
      obtain ⟨m1, m2, m3, m4⟩ := hmain
      rw [m1]
      have hW55 : W < 36028797018963968 := hwl.1
      have HSH := Lib.hid hwl.2.2
      have hr4 : r < 4 := by omega
      have hsl : s ≤ 9007199254740992 := by omega
      have HED := Lib.hid hEd
      have HM4 := Lib.hid m4
      have HU := Lib.hid hu
      have HWV := Lib.hid hW
      have HFV := Lib.hid hF
      have HSV := Lib.hid hv
      have HRV := Lib.hid hr
      have HSS := Lib.hid hs
      have HUP := Lib.hid hup
      have HST := Lib.hid hS
      have HCC := Lib.hid hC
      have hv64 : v ≤ 36028797018963968 := by omega
      have hbig' : ((B : Int) - 1 + exp) ≤ 1023 := by omega
      clear hwl m1 m4 hE hEd hCE hu hW hF hv hr hs hup hS hbig hm hC
      go_enter Tryz.func92, Tryz.ntmps92
      go_upto_region 6 with (go_at_call 90; refine HL.out.mono ?_; rintro e w' ⟨rfl, rfl⟩)
      go_cut [12] (fun a wx => a = .int .i64 E ∧ w = wx)
      case first =>
        as_aux_lemma =>
          have hEv := HED.out
          rcases Int.lt_or_le ((B : Int) - 53 + exp) (-1074) with hlo | hhi
          · have HF : Hid (-1074 = E) := Lib.hid (by omega)
            clear hEv hE1 hE2
            go_wp2
            go_meet
            exact ⟨by rw [HF.out], rfl⟩
          · have HF : Hid ((B : Int) - 53 + exp = E) := Lib.hid (by omega)
            clear hEv hE1 hE2
            go_wp2
            go_meet
            exact ⟨by rw [HF.out], rfl⟩
      case rest =>
        obtain ⟨rfl, rfl⟩ := hcut
        have hC' : E - 2 - exp = C := HCC.out.symm
        obtain ⟨LO, hLO⟩ : ∃ LO, LO = (decide (0 < C) && decide (V % 2 ^ C.toNat ≠ 0)) := ⟨_, rfl⟩
        have HLO := Lib.hid hLO
        have HV0 := Lib.hid hV0
        clear hLO hV0
        go_upto_if 44 with fail
        go_cut [14, 15] (fun a b wx => ∃ A2 n2 c2, a = .slice A2 n2 c2 ∧ b = .bool LO ∧ Wds wx A2 n2 c2 (nd W) ∧ Ext w wx)
        case first =>
          as_aux_lemma =>
            rcases Int.lt_or_le 0 C with hpos | hneg
            · obtain ⟨k, rfl⟩ : ∃ k : Nat, C = k := ⟨C.toNat, by omega⟩
              have hsh := nshr_any A n c xs k w h (by omega) (by omega) (by rw [← HV.out]; exact hnl)
              have e1 : Hid (nv xs / 2 ^ k = W) := Lib.hid (by rw [← HV.out, HWV.out]; unfold ofW; rw [if_pos hpos, Int.toNat_natCast])
              have e2 : lostB (nv xs) k = LO := by
                rw [HLO.out, ← HV.out, decide_eq_true hpos, Bool.true_and, Int.toNat_natCast]; rfl
              rw [e1.out, e2] at hsh
              have HSR := Lib.hid hsh
              clear hsh e2
              go_wp2_with (go_at_call 116; refine HSR.out.mono ?_; rintro e w' ⟨A2, n2, c2, rfl, hR, hEx⟩)
              go_meet
              exact ⟨A2, n2, c2, rfl, rfl, hR, hEx⟩
            · obtain ⟨k, hk⟩ : ∃ k : Nat, -C = k := ⟨(-C).toNat, by omega⟩
              have hk2 : IntKind.i64.wrap (-C) = (k : Int) := by rw [IntWalk.i64_in _ (by omega)]; exact hk
              have h55 := HSH.out hneg
              rw [hk, Int.toNat_natCast, ← HB.out] at h55
              have hsh := nshl_any A n c xs k w h (by omega) (by rw [← HV.out]; exact HV0.out) (by rw [← HV.out, ← HB.out]; omega)
              have e1 : Hid (nv xs * 2 ^ k = W) := Lib.hid (by rw [← HV.out, HWV.out]; unfold ofW; rw [if_neg (by omega), hk, Int.toNat_natCast])
              have e2 : Hid (LO = false) := Lib.hid (by rw [HLO.out, decide_eq_false (by omega), Bool.false_and])
              rw [e1.out] at hsh
              have HSL := Lib.hid hsh
              clear hsh h55 hk
              go_wp2_with (go_at_call 72; refine HSL.out.mono ?_; rintro e w' ⟨A2, n2, c2, rfl, hR, hEx⟩)
              go_meet
              exact ⟨A2, n2, c2, rfl, by rw [e2.out], hR, hEx⟩
        case rest =>
          obtain ⟨A2, n2, c2, rfl, rfl, hW2, hEx⟩ := hcut
          have hn2 : n2 ≤ 2 := by
            have h1 := hW2.len
            rw [nd_length] at h1
            have h2 : nw W ≤ 2 := (nw_le_iff W 2).2 (by omega)
            omega
          have hwd := nword_any A2 n2 c2 _ wc hW2 (by omega) (by rw [nv_nd]; exact (nw_le_iff W 2).2 (by omega))
          rw [nv_nd] at hwd
          have HWD := Lib.hid hwd
          have HEX := Lib.hid hEx
          clear hwd hEx hC'
          go_wp2_with fail
          refine HWD.out.mono ?_
          rintro e w3 ⟨rfl, q, rfl⟩
          have HE3 : Hid (Ext w (wc.drewN q)) := Lib.hid (HEX.out.drewN q)
          clear HEX
          have hFL : F = (LO || more) := by rw [HFV.out, HLO.out]; rfl
          have HFL := Lib.hid hFL
          clear hFL
          go_upto_region 13 with fail
          go_cut [67] (fun a wx => a = .bool F ∧ wc.drewN q = wx)
          case first =>
            as_aux_lemma =>
              cases LO <;> cases more
              all_goals
                go_wp2
                go_meet
                exact ⟨by rw [HFL.out]; rfl, rfl⟩
          case rest =>
            obtain ⟨rfl, rfl⟩ := hcut
            go_upto_if 67 with fail
            go_cut [16] (fun a wx => a = .int .u64 (v : Int) ∧ wc.drewN q = wx)
            case first =>
              as_aux_lemma =>
                have hsv := HSV.out
                cases F
                · have HF : Hid (W = v) := Lib.hid (by rw [hsv]; rfl)
                  clear hsv
                  go_wp2
                  go_meet
                  exact ⟨by rw [HF.out], rfl⟩
                · have hor := or1 W (by omega)
                  have HF : Hid (stick W true = v) := Lib.hid (by rw [hsv])
                  clear hsv
                  go_wp2
                  go_meet
                  exact ⟨by rw [← HF.out], rfl⟩
            case rest =>
              obtain ⟨rfl, rfl⟩ := hcut
              have hs4 : (v : Int) / 4 = (s : Int) := by have := HSS.out; omega
              have hr3 := and3 v (by omega)
              rw [← HRV.out] at hr3
              go_upto_block 0 with fail
              go_cut [18] (fun a wx => a = .int .u64 (S : Int) ∧ wc.drewN q = wx)
              case first =>
                as_aux_lemma =>
                  clear hs4 hr3
                  by_cases hd1 : d = 1
                  · subst hd1
                    by_cases hr0 : r = 0
                    · have HF : Hid (S = s) := Lib.hid (by rw [HST.out, HUP.out]; unfold upO; rw [if_pos hr0]; rfl)
                      subst hr0
                      go_wp2
                      go_meet
                      exact ⟨val_int (by have := HF.out; omega), rfl⟩
                    · have hr1 : (0 : Int) < (r : Int) := by omega
                      have hr2 : 0 < r := by omega
                      have HF : Hid (S = s + (!neg).toNat) := Lib.hid (by rw [HST.out, HUP.out]; unfold upO; rw [if_neg hr0, if_pos rfl])
                      clear hr0
                      cases neg
                      all_goals
                        go_wp2
                        go_meet
                        exact ⟨val_int (by have h9 := HF.out; simp at h9; omega), rfl⟩
                  · by_cases hd2 : d = -1
                    · subst hd2
                      by_cases hr0 : r = 0
                      · have HF : Hid (S = s) := Lib.hid (by rw [HST.out, HUP.out]; unfold upO; rw [if_pos hr0]; rfl)
                        subst hr0
                        go_wp2
                        go_meet
                        exact ⟨val_int (by have := HF.out; omega), rfl⟩
                      · have hr1 : (0 : Int) < (r : Int) := by omega
                        have hr2 : 0 < r := by omega
                        have HF : Hid (S = s + neg.toNat) := Lib.hid (by rw [HST.out, HUP.out]; unfold upO; rw [if_neg hr0, if_neg (by omega), if_pos rfl])
                        clear hr0
                        cases neg
                        all_goals
                          go_wp2
                          go_meet
                          exact ⟨val_int (by have h9 := HF.out; simp at h9; omega), rfl⟩
                    · have e1 : (d == 1) = false := by rw [beq_eq_false_iff_ne]; exact hd1
                      have e2 : (d == -1) = false := by rw [beq_eq_false_iff_ne]; exact hd2
                      have HF : Hid (S = s + (if r = 0 then false else (decide (r = 3) || (decide (r = 2) && decide (s % 2 = 1)))).toNat) := Lib.hid (by rw [HST.out, HUP.out]; unfold upO; rw [if_neg hd1, if_neg hd2])
                      have ha := and1 s (by omega)
                      have hcases : r = 0 ∨ r = 1 ∨ r = 2 ∨ r = 3 := by omega
                      have hpar : s % 2 = 0 ∨ s % 2 = 1 := by omega
                      clear hd1 hd2
                      rcases hcases with rfl | rfl | rfl | rfl
                      · go_wp2
                        go_meet
                        exact ⟨val_int (by have h9 := HF.out; simp at h9; omega), rfl⟩
                      · go_wp2
                        go_meet
                        exact ⟨val_int (by have h9 := HF.out; simp at h9; omega), rfl⟩
                      · rcases hpar with hp | hp
                        · have HF2 : Hid (S = s) := Lib.hid (by have h9 := HF.out; simp [hp] at h9; omega)
                          rw [hp] at ha
                          clear hp
                          go_wp2
                          go_meet
                          exact ⟨val_int (by have h9 := HF2.out; omega), rfl⟩
                        · have HF2 : Hid (S = s + 1) := Lib.hid (by have h9 := HF.out; simp [hp] at h9; omega)
                          rw [hp] at ha
                          clear hp
                          go_wp2
                          go_meet
                          exact ⟨val_int (by have h9 := HF2.out; omega), rfl⟩
                      · go_wp2
                        go_meet
                        exact ⟨val_int (by have h9 := HF.out; simp at h9; omega), rfl⟩
              case rest =>
                obtain ⟨rfl, rfl⟩ := hcut
                have hld := fun w => mldexp_any S u E w (by have := HU.out; omega) m2 m3 HM4.out
                obtain ⟨P, hP⟩ : ∃ P, P = FloatKind.f64.nearest (S : Int) := ⟨_, rfl⟩
                have hP' : floatOfInt .f64 (S : Int) = P := hP.symm
                obtain ⟨R, hR⟩ : ∃ R, R = u * 4503599627370496 + S := ⟨_, rfl⟩
                rw [← hP, ← hR] at hld
                have HRD := Lib.hid hR
                have hRl : R < 9223372036854775808 := by omega
                have HLD := Lib.hid hld
                have hq := fo_ne (x := R) (y := 0) (by omega) (by omega)
                rw [eq0 (by omega)] at hq
                have hu1 := fun w => run_ng (x := R) (by omega) w
                clear hP hld hR hs4 hr3
                cases neg
                · have HF : Hid (R = pat false R) := Lib.hid (pat_plus R).symm
                  clear hq hu1
                  go_wp2_with (go_at_call 118; refine (HLD.out _).mono ?_; rintro e w' ⟨rfl, rfl⟩)
                  go_ret
                  exact ⟨ret_float (by rw [← HRD.out]; exact HF.out), HE3.out⟩
                · by_cases hR0 : R = 0
                  · rw [decide_eq_true (.inl hR0), Bool.not_true] at hq
                    have HF : Hid (R = pat true R) := Lib.hid (by rw [hR0]; rfl)
                    clear hR0 hu1
                    go_wp2_with (go_at_call 118; refine (HLD.out _).mono ?_; rintro e w' ⟨rfl, rfl⟩)
                    go_ret
                    exact ⟨ret_float (by rw [← HRD.out]; exact HF.out), HE3.out⟩
                  · rw [decide_eq_false (by omega), Bool.not_false] at hq
                    have HF : Hid (ng R = pat true R) := Lib.hid (pat_ng hRl hR0)
                    clear hR0
                    go_wp2_with (go_at_call 118; refine (HLD.out _).mono ?_; rintro e w' ⟨rfl, rfl⟩)
                    go_ret
                    exact ⟨ret_float (by rw [← HRD.out]; exact HF.out), HE3.out⟩
end Go.Proofs.YtfbjeifhpmdjaaaGreat
