/-
  The contracts of the program's own naturals, eighth part: back, down, Shr, Word. Conditions: those that each theorem names.
-/
import Derived.Test.YtmcfflecaklpcaaZ10
import Derived.Test.YtmcfflecaklpcaaZ08
namespace Go.Proofs.Ytmcfflecaklpcaa
open Go.RowKit Nm
set_option maxRecDepth 100000
set_option linter.unusedVariables false
set_option linter.unusedSimpArgs false

theorem word_or2 (a b : Nat) (ha : a < 4294967296) (hb : b < 4294967296) : bits .or .u64 (a : Int) ((b : Int) * 4294967296) = ((a + 4294967296 * b : Nat) : Int) := by
  have e : (b : Int) * 4294967296 = ((b * 4294967296 : Nat) : Int) := by omega
  rw [e, u64_or_nat _ _ (by omega) (by omega), Nat.or_comm, nat_join 32 _ _ (by omega) (by omega)]
  omega

/-- The list behind i words: the quotient's words ahead, the old ones behind. -/
structure BackRel (L0 L : List Nat) (s m i : Nat) : Prop where
  len : L.length = m
  ws : Ws L
  val : nv (L.take i) = nv L0 / 2 ^ s % 4294967296 ^ i
  same : ∀ k, (hk : k < L.length) → i ≤ k → L[k] = L0.getD k 0
theorem BackRel.step {L0 L : List Nat} {s m i lo : Nat} (h : BackRel L0 L s m i) (h0 : Ws L0) (hm : L0.length = m) (hi : i < m) (hs : s < 32) (hlo : lo = (L0.getD i 0 + 4294967296 * L0.getD (i + 1) 0) / 2 ^ s % 4294967296) : BackRel L0 (L.set i lo) s m (i + 1) := by
  have hlen := h.len
  have hlo32 : lo < 4294967296 := by rw [hlo]; exact Nat.mod_lt _ (by omega)
  refine ⟨by simpa using hlen, h.ws.set _ hlo32, ?_, fun k hk hle => ?_⟩
  · have h1 := right_word h0 (D := 0) (S := s) (i := i) (by omega) (by omega) hs
    simp only [Nat.mul_zero, Nat.zero_add, Nat.sub_zero] at h1
    rw [getD_of (l := L0) (k := i) (by omega)] at h1
    rw [nv_take_succ (l := L.set i lo) (by simp; omega), take_set_self, List.getElem_set_self, h.val, Nat.mod_pow_succ, h1, ← hlo]
  · rw [List.getElem_set_ne (by omega)]
    simp at hk
    exact h.same k hk (by omega)

set_option maxHeartbeats 1000000 in
theorem nback_any (g m c : Nat) (L0 : List Nat) (s : Nat) (w0 w : World) (hrow : Row w g L0) (hL0 : Ws L0) (hlen : L0.length = m) (hm : m ≤ 17592186044416) (hmc : m ≤ c) (hcm : c ≤ maxLen) (hs : s < 32) (hE : Ext w0 w) (hg : w0.heap.size ≤ g) :
    Calls Try.prog 164 #[.slice (some ⟨g, 0, none⟩) m c, .int .i64 (s : Int)] w (RetW (nv L0 / 2 ^ s) w0) := by
  go_enter Try.func164, Try.ntmps164
  go_wp2
  go_loopw [9] (fun iv wr => ∃ (i : Nat) (L : List Nat), i ≤ m ∧ iv = .int .i64 i ∧ Row wr g L ∧ BackRel L0 L s m i ∧ Ext w0 wr) (fun iv _ => m - (intOf iv).toNat)
  case atStart => exact ⟨0, L0, Nat.zero_le _, rfl, hrow, ⟨hlen, hL0, by simp [nv, Nat.mod_one], fun k hk _ => getD_of hk⟩, hE⟩
  case round =>
    obtain ⟨i, L, hi, rfl, hr, hrel, hEr⟩ := hrel
    have hLl := hrel.len
    by_cases hlt : i < m
    · have hiL : i < L.length := by omega
      have hc1 := hr.cell hiL
      have hf1 := hr.frozen i
      have ha32 := hrel.ws.get hiL
      have haE := hrel.same i hiL (Nat.le_refl _)
      obtain ⟨a, ha⟩ : ∃ a, a = L[i] := ⟨_, rfl⟩
      rw [← ha] at hc1 ha32 haE
      by_cases h2 : i + 1 < m
      · have hiL2 : i + 1 < L.length := by omega
        have hc2 := hr.cell hiL2
        have hb32 := hrel.ws.get hiL2
        have hbE := hrel.same (i + 1) hiL2 (by omega)
        obtain ⟨b, hb⟩ : ∃ b, b = L[i + 1] := ⟨_, rfl⟩
        rw [← hb] at hc2 hb32 hbE
        have hor := word_or2 a b ha32 hb32
        have hst := fun lo => hrel.step (lo := lo) hL0 hlen hlt hs
        rw [← haE, ← hbE] at hst
        obtain ⟨X, hX⟩ : ∃ X, X = a + 4294967296 * b := ⟨_, rfl⟩
        rw [← hX] at hor hst
        have hX64 : X < 18446744073709551616 := by omega
        have hXd : X / 2 ^ s ≤ X := Nat.div_le_self _ _
        have e1 : (X : Int) / 2 ^ s = ((X / 2 ^ s : Nat) : Int) := by push_cast; rfl
        obtain ⟨Y, hY⟩ : ∃ Y, Y = X / 2 ^ s := ⟨_, rfl⟩
        rw [← hY] at e1 hst hXd
        have e2 : (Y : Int) % 4294967296 = ((Y % 4294967296 : Nat) : Int) := by omega
        obtain ⟨lo, hlo⟩ : ∃ lo, lo = Y % 4294967296 := ⟨_, rfl⟩
        rw [← hlo] at e2 hst
        have hst' := hst lo rfl
        have HST := Lib.hid hst'
        have hr' := hr.set_ i lo
        have hLl' := Lib.hid hLl
        clear hst hst' hlo hY hX ha hb haE hbE hrel hLl
        go_wp2
        go_roundw
        case rel => exact ⟨i + 1, _, by omega, by go_num, hr', HST.out, hEr.setCell hg _⟩
        case measure => simp [intOf]; omega
      · have hie : i + 1 = m := by omega
        have hst := fun lo => hrel.step (lo := lo) hL0 hlen hlt hs
        rw [← haE, ← getD_out (l := L0) (k := i + 1) (by omega), Nat.mul_zero, Nat.add_zero] at hst
        have hXd : a / 2 ^ s ≤ a := Nat.div_le_self _ _
        have e1 : (a : Int) / 2 ^ s = ((a / 2 ^ s : Nat) : Int) := by push_cast; rfl
        obtain ⟨Y, hY⟩ : ∃ Y, Y = a / 2 ^ s := ⟨_, rfl⟩
        rw [← hY] at e1 hst hXd
        have e2 : (Y : Int) % 4294967296 = (Y : Int) := by omega
        have hst' := hst Y (by omega)
        have HST := Lib.hid hst'
        have hr' := hr.set_ i Y
        have hLl' := Lib.hid hLl
        clear hst hst' hY ha haE hrel hLl hie
        go_wp2
        go_roundw
        case rel => exact ⟨i + 1, _, by omega, by go_num, hr', HST.out, hEr.setCell hg _⟩
        case measure => simp [intOf]; omega
    · have hval := hrel.val
      rw [List.take_of_length_le (by omega)] at hval
      have h1 := nv_lt hL0
      rw [hlen] at h1
      rw [Nat.mod_eq_of_lt (by rw [show i = m by omega]; exact Nat.lt_of_le_of_lt (Nat.div_le_self _ _) h1)] at hval
      have HV := Lib.hid hval
      have hW := hr.wds hrel.ws hLl hmc hcm
      clear hval h1 hrel hLl
      go_wp2_with fail
      refine (ncut_any _ _ _ _ _ hW (by omega)).mono ?_
      rintro e w4 ⟨A4, n4, c4, rfl, hR, hE4⟩
      rw [HV.out] at hR
      go_wp2
      go_ret
      exact ⟨_, _, _, rfl, hR, hEr.trans hE4⟩

theorem add_lit' (b o n : Nat) : Addr.add ⟨b, o, none⟩ n = ⟨b, o + n, none⟩ := Addr.add_lit b o n
/-- The list from word k on. -/
theorem Wds.from_ {w : World} {ad : Addr} {n c k : Nat} {xs : List Nat} (h : Wds w (some ad) n c xs) (hk : k ≤ n) : Wds w (some (ad.add k)) (n - k) (c - k) (xs.drop k) := by
  have hl := h.len
  have hlc := h.lec
  have hcm := h.cmax
  refine ⟨by rw [List.length_drop]; omega, by omega, by omega, h.ws.drop k, fun h0 => ?_⟩
  obtain ⟨ad', e, hlt, hc⟩ := h.2.2.2.2 (by omega)
  injection e with e
  subst e
  refine ⟨_, rfl, by rw [block_of_add]; exact hlt, fun j x hj => ?_⟩
  rw [List.getElem?_drop] at hj
  rw [add_of_add]
  exact hc (k + j) x hj
theorem and_low32 (x S : Nat) (hx : x < 4294967296) (hS : S < 32) : bits .and .u32 (x : Int) ((2 ^ S : Int) - 1) = ((x % 2 ^ S : Nat) : Int) := by
  have h1 : 2 ^ S ≤ 2147483648 := Nat.pow_le_pow_right (n := 2) (by omega) (show S ≤ 31 by omega)
  have hp : 0 < 2 ^ S := Nat.two_pow_pos S
  have e : ((2 : Int) ^ S - 1) = ((2 ^ S - 1 : Nat) : Int) := by
    have : ((2 ^ S : Nat) : Int) = (2 : Int) ^ S := by push_cast; rfl
    omega
  rw [e, u32_and_nat _ _ hx (by omega), Nat.and_two_pow_sub_one_eq_mod]

set_option maxHeartbeats 2000000 in
theorem ndown_any (A : Option Addr) (n c : Nat) (xs : List Nat) (s : Nat) (w : World) (h : Wds w A n c xs) (hn : n ≤ 17592186044416) (hs : s ≤ 4611686018427387904) :
    Calls Try.prog 160 #[.slice A n c, .int .i64 (s : Int)] w (RetWB (nv xs / 2 ^ s) (lostB (nv xs) s) w) := by
  have hnw := nwords_any A n c xs w h (by omega)
  have hpre := h.pre
  have hle : nw (nv xs) ≤ n := by have := nw_nv_le h.ws; have := h.len; omega
  have hlec := h.lec
  obtain ⟨V, hV⟩ : ∃ V, V = nv xs := ⟨_, rfl⟩
  rw [← hV] at hnw hpre hle ⊢
  have hvn := nv_nd V
  obtain ⟨D, S, hS, hsD⟩ : ∃ D S, S < 32 ∧ s = 32 * D + S := ⟨s / 32, s % 32, Nat.mod_lt _ (by omega), by omega⟩
  have hq : (s : Int) / 32 = (D : Int) := by omega
  have hr : (s : Int) % 32 = (S : Int) := by omega
  obtain ⟨m, hm⟩ : ∃ m, m = nw V := ⟨_, rfl⟩
  have hlt := lt_pow_nw V
  rw [← hm] at hnw hle hpre hlt
  have HN := Lib.hid hnw
  have HD := Lib.hid hsD
  have HM := Lib.hid hm
  have HLT := Lib.hid hlt
  clear hnw hsD h hV hlt
  by_cases hge : m ≤ D
  · have h1 : Hid (nd (V / 2 ^ s) = []) := Lib.hid (by
      rw [HD.out, Nat.pow_add, ← pow32, ← Nat.div_div_eq_div_mul, Nat.div_eq_of_lt (Nat.lt_of_lt_of_le HLT.out (Nat.pow_le_pow_right (by omega) hge)), Nat.zero_div, nd_zero])
    have h2 : Hid (decide (0 < m) = lostB V s) := Lib.hid (by
      have hVs : V < 2 ^ s := by
        rw [HD.out, Nat.pow_add, ← pow32]
        exact Nat.lt_of_lt_of_le HLT.out (Nat.le_trans (Nat.pow_le_pow_right (by omega) hge) (Nat.le_mul_of_pos_right _ (Nat.two_pow_pos S)))
      unfold lostB
      rw [Nat.mod_eq_of_lt hVs, HM.out]
      refine decide_eq_decide.2 ⟨fun h hh => by rw [hh, nw_zero] at h; omega, fun h => ?_⟩
      rcases Nat.eq_zero_or_pos (nw V) with e | e
      · exact absurd (nw_eq_zero.1 e) h
      · exact e)
    clear hvn hm hpre
    cases A
    all_goals
      go_enter Try.func160, Try.ntmps160
      go_wp2
      go_step3
      go_wp2_with (go_at_call 129; refine HN.out.mono ?_; rintro e w' ⟨rfl, rfl⟩)
      rw [Exit.noGoto_ret]
      go_ret2
      exact ⟨none, 0, 0, by rw [h2.out]; rfl, by rw [h1.out]; exact Wds.nil_ (by unfold maxLen; omega), Ext.refl _⟩
  · have hlt : D < m := by omega
    clear hge
    obtain ⟨ad, hx, rfl, hbl, hc⟩ := hpre.at_ hlt
    have hX32 := hpre.ws.get hx
    have hcz := fun (i : Nat) (hi : i < D) => hpre.at_ (k := i) (show i < m by omega)
    have hlo : Hid (lostB V s = true ↔ nv ((nd V).take D) ≠ 0 ∨ (nd V)[D] % 2 ^ S ≠ 0) := Lib.hid (by
      have := right_mod hpre.ws hx hS
      rw [hvn, ← HD.out] at this
      unfold lostB
      rw [decide_eq_true_iff]
      exact this)
    have hdr : Hid (nv ((nd V).drop D) = V / 4294967296 ^ D) := Lib.hid (by
      have := nv_div_pow hpre.ws (k := D) (by omega)
      rw [hvn] at this
      exact this.symm)
    have hfrom := hpre.from_ (k := D) (by omega)
    have hval : Hid (V / 2 ^ s = V / 4294967296 ^ D / 2 ^ S) := Lib.hid (by rw [HD.out, Nat.pow_add, ← pow32, ← Nat.div_div_eq_div_mul])
    generalize nd V = vs at *
    obtain ⟨x, hxe⟩ : ∃ x, x = vs[D] := ⟨_, rfl⟩
    rw [← hxe] at hc hX32 hlo
    have hand := and_low32 x S hX32 hS
    have hP31 : (2 : Int) ^ S ≤ 2147483648 ∧ (0 : Int) < 2 ^ S := by
      have h1 : 2 ^ S ≤ 2147483648 := Nat.pow_le_pow_right (n := 2) (by omega) (show S ≤ 31 by omega)
      have hp : 0 < 2 ^ S := Nat.two_pow_pos S
      have : ((2 ^ S : Nat) : Int) = (2 : Int) ^ S := by push_cast; rfl
      omega
    obtain ⟨b0, hb0⟩ : ∃ b0, b0 = decide (x % 2 ^ S ≠ 0) := ⟨_, rfl⟩
    have hb0i : ((x : Int) % 2 ^ S != 0) = b0 := by
      rw [hb0]
      have e : ((x : Int) % 2 ^ S) = ((x % 2 ^ S : Nat) : Int) := by push_cast; rfl
      rw [e, Bool.eq_iff_iff, bne_iff_ne, decide_eq_true_iff]
      omega
    have HB0 := Lib.hid hb0
    clear hb0
    have HCZ := Lib.hid hcz
    have HPRE := Lib.hid hpre
    have HFR := Lib.hid hfrom
    have hDc : D < c := by omega
    have hP1 := hP31.1
    have hP2 := hP31.2
    clear hvn hxe hcz hpre hfrom hm hP31
    go_enter Try.func160, Try.ntmps160
    go_wp2
    go_step3
    go_wp2_with (go_at_call 129; refine HN.out.mono ?_; rintro e w' ⟨rfl, rfl⟩)
    go_quiet (fail)
    go_wp2
    go_step3
    go_wp2
    clear hb0i hand
    go_loop [6, 33] (fun bv iv => ∃ (i : Nat) (b : Bool), i ≤ D ∧ iv = .int .i64 i ∧ bv = .bool b ∧ Hid (b = true → lostB V s = true) ∧ Hid (b = false → x % 2 ^ S = 0 ∧ nv (vs.take i) = 0)) (fun _ iv => D - (intOf iv).toNat)
    case atStart =>
      refine ⟨0, b0, Nat.zero_le _, rfl, rfl, Lib.hid (fun h => ?_), Lib.hid (fun h => ?_)⟩
      · rw [HB0.out, decide_eq_true_iff] at h
        exact hlo.out.2 (.inr h)
      · rw [HB0.out, decide_eq_false_iff_not] at h
        exact ⟨Decidable.not_not.1 h, by simp [nv]⟩
    case round =>
      obtain ⟨i, b, hi, rfl, rfl, hbt, hbf⟩ := hrel
      by_cases hgo : b = false ∧ i < D
      · obtain ⟨rfl, hiD⟩ := hgo
        obtain ⟨ad', hxi, e', _, hci⟩ := HCZ.out i hiD
        injection e' with e'
        subst e'
        have hi32 := HPRE.out.ws.get hxi
        have hv := hbf.out rfl
        have hsucc := nv_take_succ hxi
        obtain ⟨y, hy⟩ : ∃ y, y = vs[i] := ⟨_, rfl⟩
        rw [← hy] at hci hi32 hsucc
        by_cases hy0 : y = 0
        · have HS : Hid (nv (vs.take (i + 1)) = 0) := Lib.hid (by rw [hsucc, hv.2, hy0]; simp)
          have HV := Lib.hid hv
          have hyz : ((y : Int) != 0) = false := by rw [hy0]; rfl
          clear hsucc hy hv hy0
          go_wp2
          go_round
          case rel => exact ⟨i + 1, false, by omega, by go_num, rfl, Lib.hid (fun h => by cases h), Lib.hid (fun _ => ⟨HV.out.1, HS.out⟩)⟩
          case measure => simp [intOf]; omega
        · have HS : Hid (lostB V s = true) := Lib.hid (hlo.out.2 (.inl (by
            have h1 := nv_take_drop (vs.take D) (i + 1) (by rw [List.length_take]; omega)
            rw [List.take_take, Nat.min_eq_left (by omega)] at h1
            have hp : 0 < 4294967296 ^ i * y := Nat.mul_pos (Nat.pow_pos (by omega)) (Nat.pos_of_ne_zero hy0)
            omega)))
          have hyz : ((y : Int) != 0) = true := by rw [bne_iff_ne]; omega
          clear hsucc hy hv hy0
          go_wp2
          go_round
          case rel => exact ⟨i + 1, true, by omega, by go_num, rfl, Lib.hid (fun _ => HS.out), Lib.hid (fun h => by cases h)⟩
          case measure => simp [intOf]; omega
      · have hb : Hid (b = lostB V s) := Lib.hid (by
          cases b
          · have hie : i = D := by
              rcases Nat.lt_or_ge i D with h | h
              · exact absurd ⟨rfl, h⟩ hgo
              · omega
            have h1 := hbf.out rfl
            rw [hie] at h1
            symm
            rw [Bool.eq_false_iff]
            intro h
            rcases hlo.out.1 h with h2 | h2
            · exact h2 h1.2
            · exact h2 h1.1
          · exact (hbt.out rfl).symm)
        have hcase : (b = true ∧ i < D) ∨ D ≤ i := by
          rcases Nat.lt_or_ge i D with h | h
          · left
            cases b
            · exact absurd ⟨rfl, h⟩ hgo
            · exact ⟨rfl, h⟩
          · exact .inr h
        clear hgo
        rcases hcase with ⟨rfl, hiD⟩ | hiD
        all_goals
          go_wp2_with fail
          refine (nnorm_any _ _ _ _ _ (HFR.out.drewN _) (by omega)).mono ?_
          rintro e w4 ⟨g, k, rfl, hr4, hg4, hk4, hE4⟩
          have hk5 : k ≤ m := by rw [hk4]; have h1 := nw_nv_le HFR.out.ws; have h2 := HFR.out.len; omega
          have hE5 : Ext w w4 := ((Ext.refl w).drewN _).trans hE4
          have HK := Lib.hid hk4
          clear hk4
          go_wp2_with fail
          refine (nback_any g k k _ S w w4 hr4 (Ws.nd _) (by rw [nd_length]; exact HK.out.symm) (by omega) (Nat.le_refl _) (by unfold maxLen; omega) hS hE5 hg4).mono ?_
          rintro e w6 ⟨A6, n6, c6, rfl, hR, hE6⟩
          go_wp2
          rw [Exit.noGoto_ret]
          go_ret2
          refine ⟨A6, n6, c6, ?_, by rw [hval.out, ← hdr.out]; rw [nv_nd] at hR; exact hR, hE6⟩
          rw [← hb.out]
          rfl

theorem nlong_raw (g c : Nat) (A : Option Addr) (n d : Nat) (xs : List Nat) (w : World) (hc : w.cell? ⟨g, 0, none⟩ = some (.slice A n d)) (h : Wds w A n d xs) (hn : n ≤ 35184372088832) (hs : nw (nv xs) ≤ 16384) :
    Calls Try.prog 131 #[.slice (some ⟨g, 0, none⟩) 1 c] w fun e w' => e = .returned (.bool false) ∧ w = w' :=
  (nlong_any g 1 c [⟨A, n, d, xs⟩] w rfl (by omega) (fun i s hs => by
    match i, hs with
    | 0, hs => simp at hs; subst hs; exact hc
    | i + 1, hs => simp at hs) (fun s hs => by simp at hs; subst hs; exact ⟨h, hn⟩)).mono fun e w' h => ⟨by rw [h.1]; exact ret_bool (by simp [isLong]; omega), h.2⟩

/-- What is answered: a list of words, a bool, an error's number. -/
def RetWBE (V : Nat) (b : Bool) (x : Int) (w : World) (e : Ending) (w' : World) : Prop := ∃ A n c, e = .returned (.tuple #[.slice A n c, .bool b, .int .i64 x]) ∧ Wds w' A n c (nd V) ∧ Ext w w'
set_option maxHeartbeats 1000000 in
theorem nshr_any (A : Option Addr) (n c : Nat) (xs : List Nat) (s : Nat) (w : World) (h : Wds w A n c xs) (hn : n ≤ 17592186044416) (hs : s ≤ 4611686018427387904) (hnl : nw (nv xs) ≤ 16384) :
    Calls Try.prog 133 #[.slice A n c, .int .i64 (s : Int)] w (RetWBE (nv xs / 2 ^ s) (lostB (nv xs) s) 0 w) := by
  have h1 := h.alloc (.cells #[.slice A n c] 33)
  have hL := fun g w hc h => nlong_raw g 1 A n c xs w hc h (by omega) hnl
  have hD := fun w h => ndown_any A n c xs s w h hn hs
  obtain ⟨Q, hQ⟩ : ∃ Q, Q = nv xs / 2 ^ s := ⟨_, rfl⟩
  obtain ⟨B, hB⟩ : ∃ B, B = lostB (nv xs) s := ⟨_, rfl⟩
  rw [← hQ, ← hB] at hD ⊢
  have HL := Lib.hid hL
  have HD := Lib.hid hD
  clear hL hD hQ hB
  go_enter Try.func133, Try.ntmps133
  go_wp2_with (first | (go_at_call 131; refine (HL.out _ _ (by simp) h1).mono ?_; rintro e w' ⟨rfl, rfl⟩) | (go_at_call 160; refine (HD.out _ h1).mono ?_; rintro e w' ⟨A2, n2, c2, rfl, hR, hE⟩))
  go_ret3
  exact ⟨A2, n2, c2, rfl, hR, ((Ext.refl w).alloc _).trans hE⟩

set_option maxHeartbeats 1000000 in
theorem nword_any (A : Option Addr) (n c : Nat) (xs : List Nat) (w : World) (h : Wds w A n c xs) (hn : n ≤ 17592186044416) (hs : nw (nv xs) ≤ 2) :
    Calls Try.prog 140 #[.slice A n c] w fun e w' => e = .returned (.tuple #[.int .u64 (nv xs : Int), .bool true]) ∧ ∃ q, w' = w.drewN q := by
  have hnw := nwords_any A n c xs w h (by omega)
  have hle : nw (nv xs) ≤ n := by have := nw_nv_le h.ws; have := h.len; omega
  have htk := nd_take h.ws
  have hvn := nv_nd (nv xs)
  have hlx := h.len
  obtain ⟨V, hV⟩ : ∃ V, V = nv xs := ⟨_, rfl⟩
  rw [← hV] at hnw hle hs htk hvn ⊢
  obtain ⟨m, hm⟩ : ∃ m, m = nw V := ⟨_, rfl⟩
  rw [← hm] at hnw hle hs htk
  match m, hs with
  | 0, _ =>
    have hF : (0 : Int) = (V : Int) := by rw [nw_eq_zero.1 hm.symm]; rfl
    have HF := Lib.hid hF
    have HN := Lib.hid hnw
    clear hF hnw hm htk hvn hV
    go_enter Try.func140, Try.ntmps140
    go_wp2_with (go_at_call 129; refine HN.out.mono ?_; rintro e w' ⟨rfl, rfl⟩)
    go_ret2
    exact ⟨by rw [← HF.out]; rfl, 0, rfl⟩
  | 1, _ =>
    obtain ⟨ad, hx, rfl, hb, hc⟩ := h.at_ (k := 0) (by omega)
    have hF : (xs[0] : Int) = (V : Int) := by
      rw [htk, List.take_succ_eq_append_getElem hx] at hvn
      simp [nv] at hvn
      omega
    have hX := h.ws.get hx
    obtain ⟨x, hxe⟩ : ∃ x, x = xs[0] := ⟨_, rfl⟩
    rw [← hxe] at hc hF hX
    have hc' : w.cell? ad = some (.int .u32 (x : Int)) := by simpa [Addr.add] using hc
    have HF := Lib.hid hF
    have HN := Lib.hid hnw
    clear hF hnw hm htk hvn hV hxe
    go_enter Try.func140, Try.ntmps140
    go_wp2_with (go_at_call 129; refine HN.out.mono ?_; rintro e w' ⟨rfl, rfl⟩)
    go_ret2
    exact ⟨by rw [← HF.out]; rfl, 0, rfl⟩
  | 2, _ =>
    obtain ⟨ad, hx, rfl, hb, hc⟩ := h.at_ (k := 0) (by omega)
    obtain ⟨ad', hx1, e', _, hc1⟩ := h.at_ (k := 1) (by omega)
    injection e' with e'
    subst e'
    have hX := h.ws.get hx
    have hY := h.ws.get hx1
    have hF : xs[0] + 4294967296 * xs[1] = V := by
      rw [htk, List.take_succ_eq_append_getElem hx1, List.take_succ_eq_append_getElem hx] at hvn
      simp [nv] at hvn
      omega
    obtain ⟨x, hxe⟩ : ∃ x, x = xs[0] := ⟨_, rfl⟩
    obtain ⟨y, hye⟩ : ∃ y, y = xs[1] := ⟨_, rfl⟩
    rw [← hxe] at hc hF hX
    rw [← hye] at hc1 hF hY
    have hc' : w.cell? ad = some (.int .u32 (x : Int)) := by simpa [Addr.add] using hc
    have hc1' : w.cell? { block := ad.block, off := ad.off + 1, spot := none } = some (.int .u32 (y : Int)) := by simpa [Addr.add] using hc1
    have b1 : (1 : Int) < (n : Int) := by omega
    have b0 : 0 < n := by omega
    have b2 : (0 : Int) < (n : Int) := by omega
    have b3 : 1 < n := by omega
    have hor := word_or y x hY hX
    rw [hF] at hor
    have HO := Lib.hid hor
    have HN := Lib.hid hnw
    have hyV : (y : Int) * 4294967296 ≤ 18446744069414584320 := by omega
    clear hF hnw hm htk hvn hV hxe hye hor
    go_enter Try.func140, Try.ntmps140
    go_wp2_with (go_at_call 129; refine HN.out.mono ?_; rintro e w' ⟨rfl, rfl⟩)
    go_quiet (fail)
    go_wp2
    go_ret2
    exact ⟨by rw [← HO.out]; rfl, _, rfl⟩
end Go.Proofs.Ytmcfflecaklpcaa

/-
  The contracts of the reference's naturals, fourth part: shifts and products. Conditions: those that each theorem names.
-/
namespace Go.Proofs.Ytmcfflecaklpcaa
open Go.RowKit Nm
set_option maxRecDepth 100000
set_option linter.unusedVariables false
set_option linter.unusedSimpArgs false

/-- The shape of Left's list behind i words. -/
structure LeftRel (xs L : List Nat) (D S t i : Nat) : Prop where
  len : L.length = D + t + 1
  ws : Ws L
  val : nv L = nv (xs.take i) * 2 ^ (32 * D + S)
  top : ∀ j, (hj : j < L.length) → D + i < j → L[j] = 0
  low : ∀ hj : D + i < L.length, L[D + i] < 2 ^ S

theorem LeftRel.start (xs : List Nat) (D S t : Nat) : LeftRel xs (List.replicate (D + t + 1) 0) D S t 0 where
  len := by simp
  ws := Ws.replicate _ (by omega)
  val := by simp [nv_replicate, nv]
  top := fun j hj _ => by simp
  low := fun hj => by simp; exact Nat.pow_pos (by omega)

theorem LeftRel.step {xs L : List Nat} {D S t i : Nat} (h : LeftRel xs L D S t i) (hS : S < 32) (hi : i < t) (hx : i < xs.length) (hw : Ws xs) (a lo hi' : Nat) (hk : D + i < L.length) (ha : L[D + i] = a)
    (hlo : lo = xs[i] * 2 ^ S % 4294967296) (hhi : hi' = xs[i] * 2 ^ S / 4294967296) :
    LeftRel xs ((L.set (D + i) (a + lo)).set (D + i + 1) hi') D S t (i + 1) ∧ a ||| lo = a + lo ∧ a + lo < 4294967296 := by
  have hx32 := hw.get hx
  have hlen := h.len
  have hlow := h.low hk
  rw [ha] at hlow
  have h0 := h.top (D + i + 1) (by omega) (by omega)
  obtain ⟨e, he⟩ : ∃ e, 4294967296 = 2 ^ S * e ∧ 0 < e := ⟨2 ^ (32 - S), by rw [← Nat.pow_add, show S + (32 - S) = 32 by omega], Nat.pow_pos (by omega)⟩
  have hlm : lo % 2 ^ S = 0 := by
    rw [hlo, he.1, Nat.mul_comm, Nat.mul_mod_mul_left]
    exact Nat.mul_mod_right _ _
  have hlo32 : lo < 4294967296 := by rw [hlo]; exact Nat.mod_lt _ (by omega)
  have hsum : a + lo < 4294967296 := by
    obtain ⟨q, hq⟩ : ∃ q, lo = 2 ^ S * q := ⟨lo / 2 ^ S, by have := Nat.mod_add_div lo (2 ^ S); omega⟩
    rw [hq, he.1] at hlo32
    have hqe : q < e := Nat.lt_of_mul_lt_mul_left hlo32
    have : 2 ^ S * (q + 1) ≤ 2 ^ S * e := Nat.mul_le_mul_left _ hqe
    rw [he.1, hq]
    rw [Nat.mul_add, Nat.mul_one] at this
    omega
  have hhi32 : hi' < 2 ^ S := by
    rw [hhi]
    refine (Nat.div_lt_iff_lt_mul (by omega)).2 ?_
    rw [Nat.mul_comm]
    exact Nat.mul_lt_mul_of_pos_left hx32 (Nat.pow_pos (by omega))
  refine ⟨⟨by simpa using hlen, (h.ws.set _ hsum).set _ (Nat.lt_of_lt_of_le hhi32 (by rw [he.1]; exact Nat.le_mul_of_pos_right _ he.2)), ?_, ?_, ?_⟩, ?_, hsum⟩
  · have hv : lo + 4294967296 * hi' = xs[i] * 2 ^ S := by rw [hlo, hhi]; exact Nat.mod_add_div _ _
    rw [nv_set2 (by omega) ha h0 hv, h.val, nv_take_succ hx, pow32, Nat.add_mul, Nat.pow_add, Nat.mul_add, Nat.pow_add]
    congr 1
    rw [pow32]
    simp only [Nat.mul_assoc, Nat.mul_comm, Nat.mul_left_comm]
  · intro j hj hlt
    rw [List.getElem_set_ne (by omega), List.getElem_set_ne (by omega)]
    simp at hj
    exact h.top j hj (by omega)
  · intro hj
    have e1 : D + (i + 1) = D + i + 1 := by omega
    simp only [e1]
    rw [List.getElem_set_self]
    exact hhi32
  · rw [Nat.or_comm, nat_join S lo a hlm hlow, Nat.add_comm]

set_option maxHeartbeats 1000000 in
theorem left_any (A : Option Addr) (n c : Nat) (xs : List Nat) (s : Nat) (w : World) (h : Wds w A n c xs) (hn : n ≤ 17592186044416) (hs : s ≤ 35184372088832) :
    Calls Try.prog 97 #[.slice A n c, .int .i64 (s : Int)] w (RetW (nv xs * 2 ^ s) w) := by
  have hxl : nw (nv xs) ≤ xs.length := nw_nv_le h.ws
  have hlx := h.len
  by_cases h0 : nv xs = 0
  · have hz : nw (nv xs) ≤ 0 := by rw [h0, nw_zero]; omega
    have HF : Hid (nd (nv xs * 2 ^ s) = []) := Lib.hid (by rw [h0, Nat.zero_mul, nd_zero])
    clear h0
    go_enter Try.func97, Try.ntmps97
    go_wp2_with (go_at_call 107; refine (words_any _ _ _ _ _ h (by omega)).mono ?_; rintro e w' ⟨rfl, rfl⟩)
    go_ret
    exact ⟨none, 0, 0, rfl, by rw [HF.out]; exact Wds.nil_ (by unfold maxLen; omega), Ext.refl _⟩
  · obtain ⟨D, S, hS, hsD⟩ : ∃ D S, S < 32 ∧ s = 32 * D + S := ⟨s / 32, s % 32, Nat.mod_lt _ (by omega), by omega⟩
    have hpos : 0 < nw (nv xs) := by
      rcases Nat.eq_zero_or_pos (nw (nv xs)) with e | e
      · exact absurd (nw_eq_zero.1 e) h0
      · exact e
    clear h0
    have hq : (s : Int) / 32 = (D : Int) := by omega
    have hr : (s : Int) % 32 = (S : Int) := by omega
    have HSD := Lib.hid hsD
    have HTk := Lib.hid (take_nw h.ws).1
    clear hsD
    obtain ⟨t, ht⟩ : ∃ t, t = nw (nv xs) := ⟨_, rfl⟩
    have hw := words_any A n c xs w h (by omega)
    rw [← ht] at hw hxl hpos HTk
    have HT := Lib.hid ht
    have HW := Lib.hid hw
    clear ht hw
    have hmk := run_make32 (D + t + 1) (by omega)
    push_cast at hmk
    go_enter Try.func97, Try.ntmps97
    go_wp2_with (go_at_call 107; refine HW.out.mono ?_; rintro e w' ⟨rfl, rfl⟩)
    clear hmk
    go_loopw [8] (fun iv wr => ∃ (i : Nat) (L : List Nat), i ≤ t ∧ iv = .int .i64 i ∧ LeftRel xs L D S t i ∧ Row wr w.heap.size L ∧ Ext w wr) (fun iv _ => t - (intOf iv).toNat)
    case atStart => exact ⟨0, _, Nat.zero_le _, rfl, LeftRel.start xs D S t, Row.new _ _, (Ext.refl w).alloc _⟩
    case round =>
      obtain ⟨i, L, hi, rfl, hL, hrow, hb⟩ := hrel
      have hLl := hL.len
      by_cases hlt : i < t
      · obtain ⟨ad, hx, rfl, _, hcX⟩ := (h.ext hb).at_ (k := i) (by omega)
        have hX32 := h.ws.get hx
        have hstep := hL.step hS hlt hx h.ws L[D + i] (xs[i] * 2 ^ S % 4294967296) (xs[i] * 2 ^ S / 4294967296) (by omega) rfl rfl rfl
        have hc1 := hrow.cell (i := D + i) (by omega)
        have hf1 := hrow.frozen (D + i)
        have hc2 := hrow.cell (i := D + i + 1) (by omega)
        have hf2 := hrow.frozen (D + i + 1)
        obtain ⟨V, hV⟩ : ∃ V, V = xs[i] * 2 ^ S := ⟨_, rfl⟩
        have hV64 : V < 18446744073709551616 := by
          have h1 : 2 ^ S ≤ 2147483648 := Nat.pow_le_pow_right (n := 2) (by omega) (show S ≤ 31 by omega)
          have h2 : xs[i] * 2 ^ S ≤ 4294967296 * 2147483648 := Nat.mul_le_mul (by omega) h1
          omega
        have e1 : ((xs[i] : Nat) : Int) * 2 ^ S = (V : Int) := by rw [hV]; push_cast; rfl
        rw [← hV] at hstep
        clear hV
        obtain ⟨lo, hlo⟩ : ∃ lo, lo = V % 4294967296 := ⟨_, rfl⟩
        obtain ⟨hi', hhi⟩ : ∃ hi', hi' = V / 4294967296 := ⟨_, rfl⟩
        rw [← hlo, ← hhi] at hstep
        have hlo32 : lo < 4294967296 := by omega
        have hhi32 : hi' < 4294967296 := by omega
        have e2 := and_mask V lo hV64 hlo
        have e3 : (V : Int) / 4294967296 = (hi' : Int) := by omega
        generalize L[D + i] = a at *
        have ha32 : a < 4294967296 := by omega
        have e4 : bits .or .u32 (a : Int) (lo : Int) = ((a + lo : Nat) : Int) := by
          rw [u32_or_nat _ _ ha32 hlo32, hstep.2.1]
        obtain ⟨r, hr'⟩ : ∃ r, r = a + lo := ⟨_, rfl⟩
        rw [← hr'] at e4 hstep
        obtain ⟨hst, _, hr32⟩ := hstep
        have hrow' := (hrow.set_ (D + i) r).set_ (D + i + 1) hi'
        have HST := Lib.hid hst
        clear hst hlo hhi hr'
        go_wp2
        go_roundw
        case rel => exact ⟨i + 1, _, by omega, by go_num, HST.out, hrow', (hb.setCell (Nat.le_refl _) _).setCell (Nat.le_refl _) _⟩
        case measure => simp [intOf]; omega
      · have HV : Hid (nv L = nv xs * 2 ^ s) := Lib.hid (by
          rw [hL.val, show i = t by omega, HTk.out, HSD.out])
        have hW := hrow.wds hL.ws hL.len (Nat.le_refl _) (by unfold maxLen; omega)
        go_wp2_with (go_at_call 65; refine (norm_any _ _ _ _ _ hW (by omega)).mono ?_; rintro e w2 ⟨A2, n2, c2, rfl, hR, hE2⟩)
        go_ret
        exact ⟨A2, n2, c2, rfl, by rw [← HV.out]; exact hR, hb.trans hE2⟩

/-- The shape of a product's list: within row j, behind i words. -/
structure RowRel (xs L : List Nat) (V0 y n m j i cr : Nat) : Prop where
  len : L.length = n + m
  ws : Ws L
  val : nv L + 4294967296 ^ (i + j) * cr = V0 + 4294967296 ^ j * (y * nv (xs.take i))
  top : ∀ k, (hk : k < L.length) → n + j ≤ k → L[k] = 0

theorem RowRel.step {xs L : List Nat} {V0 y n m j i cr a x v lo hi : Nat} (h : RowRel xs L V0 y n m j i cr) (hj : j < m) (hi0 : i < n) (hx : i < xs.length) (hxe : xs[i] = x) (hk : i + j < L.length) (ha : L[i + j] = a)
    (hv : v = cr + a + x * y) (hlo : lo = v % 4294967296) (hhi : hi = v / 4294967296) : RowRel xs (L.set (i + j) lo) V0 y n m j (i + 1) hi := by
  have hlen := h.len
  refine ⟨by simpa using hlen, h.ws.set _ (by rw [hlo]; exact Nat.mod_lt _ (by omega)), ?_, fun k hk' hle => ?_⟩
  · have h1 := nv_set hk lo
    rw [ha] at h1
    have h2 := h.val
    have e : lo + 4294967296 * hi = cr + a + x * y := by rw [← hv, hlo, hhi]; exact Nat.mod_add_div _ _
    have e1 : 4294967296 ^ (i + j) * (lo + 4294967296 * hi) = 4294967296 ^ (i + j) * (cr + a + x * y) := by rw [e]
    rw [Nat.mul_add, Nat.mul_add, Nat.mul_add, ← Nat.mul_assoc, ← Nat.pow_succ] at e1
    rw [show i + 1 + j = i + j + 1 by omega, nv_take_succ hx, hxe, Nat.mul_add y, Nat.mul_add (4294967296 ^ j)]
    have e2 : 4294967296 ^ j * (y * (4294967296 ^ i * x)) = 4294967296 ^ (i + j) * (x * y) := by
      rw [Nat.pow_add]
      simp only [Nat.mul_assoc, Nat.mul_comm, Nat.mul_left_comm]
    rw [e2]
    generalize 4294967296 ^ j * (y * nv (xs.take i)) = t0 at *
    generalize 4294967296 ^ (i + j) * (x * y) = t1 at *
    generalize 4294967296 ^ (i + j + 1) * hi = t2 at *
    generalize 4294967296 ^ (i + j) * lo = t3 at *
    generalize 4294967296 ^ (i + j) * a = t4 at *
    generalize 4294967296 ^ (i + j) * cr = t5 at *
    clear e2 e hlo hhi hv
    omega
  · rw [List.getElem_set_ne (by omega)]
    simp at hk'
    exact h.top k hk' hle

/-- The shape of a product's list behind j rows. -/
structure TimesRel (xs ys L : List Nat) (n m j : Nat) : Prop where
  len : L.length = n + m
  ws : Ws L
  val : nv L = nv xs * nv (ys.take j)
  top : ∀ k, (hk : k < L.length) → n + j ≤ k → L[k] = 0

theorem TimesRel.start (xs ys : List Nat) (n m : Nat) : TimesRel xs ys (List.replicate (n + m) 0) n m 0 where
  len := by simp
  ws := Ws.replicate _ (by omega)
  val := by simp [nv_replicate, nv]
  top := fun j hj _ => by simp

theorem TimesRel.row {xs ys L : List Nat} {n m j : Nat} (h : TimesRel xs ys L n m j) (y : Nat) : RowRel xs L (nv L) y n m j 0 0 where
  len := h.len
  ws := h.ws
  val := by simp [nv]
  top := h.top

theorem TimesRel.skip {xs ys L : List Nat} {n m j : Nat} (h : TimesRel xs ys L n m j) (hy : j < ys.length) (h0 : ys[j] = 0) : TimesRel xs ys L n m (j + 1) where
  len := h.len
  ws := h.ws
  val := by rw [nv_take_succ hy, h0, Nat.mul_zero, Nat.add_zero]; exact h.val
  top := fun k hk hle => h.top k hk (by omega)

theorem TimesRel.next {xs ys L0 L : List Nat} {n m j cr : Nat} (h0 : TimesRel xs ys L0 n m j) (hy : j < ys.length) (hj : j < m) (h : RowRel xs L (nv L0) ys[j] n m j n cr) (hn : nv (xs.take n) = nv xs) (hcr : cr < 4294967296) :
    TimesRel xs ys (L.set (j + n) cr) n m (j + 1) := by
  have hlen := h.len
  refine ⟨by simpa using hlen, h.ws.set _ hcr, ?_, fun k hk hle => ?_⟩
  · have h1 := nv_set (l := L) (k := j + n) (by omega) cr
    rw [h.top (j + n) (by omega) (by omega), Nat.mul_zero, Nat.add_zero] at h1
    rw [h1, Nat.add_comm j n, h.val, h0.val, hn, nv_take_succ hy, Nat.mul_add]
    congr 1
    simp only [Nat.mul_assoc, Nat.mul_comm, Nat.mul_left_comm]
  · rw [List.getElem_set_ne (by omega)]
    simp at hk
    exact h.top k hk (by omega)

set_option maxHeartbeats 1000000 in
theorem times_any (A : Option Addr) (n0 c : Nat) (xs : List Nat) (B : Option Addr) (m0 d : Nat) (ys : List Nat) (w : World) (h : Wds w A n0 c xs) (hn0 : n0 ≤ 8796093022208) (k : Wds w B m0 d ys) (hm0 : m0 ≤ 8796093022208) :
    Calls Try.prog 58 #[.slice A n0 c, .slice B m0 d] w (RetW (nv xs * nv ys) w) := by
  have hxl : nw (nv xs) ≤ xs.length := nw_nv_le h.ws
  have hyl : nw (nv ys) ≤ ys.length := nw_nv_le k.ws
  have hlx := h.len
  have hly := k.len
  have HXk := Lib.hid (take_nw h.ws).1
  have HYk := Lib.hid (take_nw k.ws).1
  have hw1 := words_any A n0 c xs w h (by omega)
  have hw2 := words_any B m0 d ys w k (by omega)
  obtain ⟨n, hn⟩ : ∃ n, n = nw (nv xs) := ⟨_, rfl⟩
  obtain ⟨m, hm⟩ : ∃ m, m = nw (nv ys) := ⟨_, rfl⟩
  rw [← hn] at hw1 hxl HXk
  rw [← hm] at hw2 hyl HYk
  have HW1 := Lib.hid hw1
  have HW2 := Lib.hid hw2
  clear hw1 hw2 hn hm
  have hmk := run_make32 (n + m) (by omega)
  push_cast at hmk
  go_enter Try.func58, Try.ntmps58
  go_wp2_with fail
  refine HW1.out.mono ?_
  rintro e w' ⟨rfl, rfl⟩
  go_wp2_with fail
  refine HW2.out.mono ?_
  rintro e w' ⟨rfl, rfl⟩
  go_wp2
  clear hmk
  go_loopw [8] (fun jv wr => ∃ (j : Nat) (L : List Nat), j ≤ m ∧ jv = .int .i64 j ∧ TimesRel xs ys L n m j ∧ Row wr w.heap.size L ∧ Ext w wr) (fun jv _ => m - (intOf jv).toNat)
  case atStart => exact ⟨0, _, Nat.zero_le _, rfl, TimesRel.start xs ys n m, Row.new _ _, (Ext.refl w).alloc _⟩
  case round =>
    obtain ⟨j, L0, hj, rfl, hL0, hrow0, hb0⟩ := hrel
    obtain ⟨wo, rfl⟩ : ∃ wo : World, wo = wr := ⟨_, rfl⟩
    by_cases hlt : j < m
    · obtain ⟨bd, hy, rfl, _, hcY⟩ := (k.ext hb0).at_ (k := j) (by omega)
      have hY32 := k.ws.get hy
      by_cases hy0 : ys[j] = 0
      · have hsk := Lib.hid (hL0.skip hy hy0)
        go_wp2
        go_roundw
        case rel => exact ⟨j + 1, L0, by omega, by go_num, hsk.out, hrow0, hb0⟩
        case measure => simp [intOf]; omega
      · have HN := Lib.hid (fun (L : List Nat) (cr : Nat) hh hcr => TimesRel.next (L := L) (cr := cr) hL0 hy hlt hh HXk.out hcr)
        generalize ys[j] = y at *
        have hy1 : 0 < y := by omega
        clear hy0
        go_wp2
        go_loopw [10, 11] (fun cv iv wr => ∃ (i cr : Nat) (L : List Nat), i ≤ n ∧ cr < 4294967296 ∧ iv = .int .i64 i ∧ cv = .int .u64 (cr : Int) ∧ RowRel xs L (nv L0) y n m j i cr ∧ Row wr w.heap.size L ∧ Ext w wr) (fun _ iv _ => n - (intOf iv).toNat)
        case atStart => exact ⟨0, 0, L0, Nat.zero_le _, by omega, rfl, rfl, hL0.row y, hrow0, hb0⟩
        case round =>
          obtain ⟨i, cr, L, hi, hcr, rfl, rfl, hL, hrow, hb⟩ := hrel
          have hLl := hL.len
          by_cases hlti : i < n
          · obtain ⟨ad, hx, rfl, _, hcX⟩ := (h.ext hb).at_ (k := i) (by omega)
            have hX32 := h.ws.get hx
            have hc1 := hrow.cell (i := i + j) (by omega)
            have hf1 := hrow.frozen (i + j)
            have hA32 := hL.ws.get (k := i + j) (by omega)
            have hk' : i + j < L.length := by omega
            obtain ⟨a, ha⟩ : ∃ a, L[i + j] = a := ⟨_, rfl⟩
            obtain ⟨x, hxe⟩ : ∃ x, xs[i] = x := ⟨_, rfl⟩
            have hst := fun (v lo hi' : Nat) hv hlo hhi => hL.step (v := v) (lo := lo) (hi := hi') hlt hlti hx hxe hk' ha hv hlo hhi
            rw [ha] at hc1 hA32
            rw [hxe] at hcX hX32
            clear ha hxe
            obtain ⟨q, hq⟩ : ∃ q, i + j = q := ⟨_, rfl⟩
            rw [hq] at hc1 hf1
            simp only [hq] at hst
            have hp : x * y ≤ 18446744065119617025 := Nat.le_trans (Nat.mul_le_mul (show x ≤ 4294967295 by omega) (show y ≤ 4294967295 by omega)) (by omega)
            obtain ⟨p, hpv⟩ : ∃ p, p = x * y := ⟨_, rfl⟩
            rw [← hpv] at hp
            obtain ⟨v, hv⟩ : ∃ v, v = cr + a + p := ⟨_, rfl⟩
            have hv64 : v < 18446744073709551616 := by omega
            obtain ⟨lo, hlo⟩ : ∃ lo, lo = v % 4294967296 := ⟨_, rfl⟩
            obtain ⟨hi', hhi⟩ : ∃ hi', hi' = v / 4294967296 := ⟨_, rfl⟩
            have hst' := hst v lo hi' (by rw [hv, hpv]) hlo hhi
            clear hst
            have HST := Lib.hid hst'
            clear hst'
            have hlo32 : lo < 4294967296 := by omega
            have hhi32 : hi' < 4294967296 := by omega
            have g1 : IntKind.i64.wrap ((i : Int) + (j : Int)) = (q : Int) := by rw [IntWalk.i64_in _ (by omega)]; omega
            have g1' : ((i : Int) + (j : Int)) = (q : Int) := by omega
            have g2 : IntKind.u64.wrap ((cr : Int) + (a : Int)) = ((cr + a : Nat) : Int) := by
              rw [IntKind.wrap_u64]; omega
            have g3 : IntKind.u64.wrap ((x : Int) * (y : Int)) = (p : Int) := by
              have e : (x : Int) * (y : Int) = (p : Int) := by rw [hpv]; exact (Int.natCast_mul x y).symm
              rw [IntKind.wrap_u64, e]; omega
            have g4 : IntKind.u64.wrap (((cr + a : Nat) : Int) + (p : Int)) = (v : Int) := by
              rw [IntKind.wrap_u64]; omega
            have g5 := and_mask v lo hv64 hlo
            have g7 : (cr : Int) + (a : Int) + (p : Int) = (v : Int) := by omega
            rw [← g7] at g5
            have g6 : ((cr : Int) + (a : Int) + (p : Int)) / 4294967296 = (hi' : Int) := by omega
            clear g7
            have hq2 : q < n + m := by omega
            have hq0 : (0 : Int) ≤ (q : Int) := by omega
            have hq1 : (q : Int) < ((n + m : Nat) : Int) := by omega
            have hi0 : (i : Int) < (n0 : Int) := by omega
            have hrow' := hrow.set_ q lo
            clear hpv hq hlo hhi hv
            go_wp2
            go_quiet (fail)
            go_wp2
            go_roundw
            case rel => exact ⟨i + 1, hi', _, by omega, hhi32, by go_num, rfl, HST.out, hrow'.drewN _, (hb.setCell (Nat.le_refl _) _).drewN _⟩
            case measure => simp [intOf]; omega
          · have e : i = n := by omega
            subst e
            have hk' : j + i < L.length := by omega
            have hc1 := hrow.cell hk'
            have hf1 := hrow.frozen (j + i)
            have hrow' := hrow.set_ (j + i) cr
            have HF := Lib.hid (HN.out L cr hL hcr)
            clear HN
            go_wp2
            go_roundw
            case rel => exact ⟨j + 1, _, by omega, by go_num, HF.out, hrow', hb.setCell (Nat.le_refl _) _⟩
            case measure => simp [intOf]; omega
    · have e : j = m := by omega
      subst e
      have HV : Hid (nv L0 = nv xs * nv ys) := Lib.hid (by rw [hL0.val, HYk.out])
      have hW := hrow0.wds hL0.ws hL0.len (Nat.le_refl _) (by unfold maxLen; omega)
      go_wp2_with (go_at_call 65; refine (norm_any _ _ _ _ _ hW (by omega)).mono ?_; rintro e w2 ⟨A2, n2, c2, rfl, hR, hE2⟩)
      go_ret
      exact ⟨A2, n2, c2, rfl, by rw [← HV.out]; exact hR, hb0.trans hE2⟩
end Go.Proofs.Ytmcfflecaklpcaa
