/-
  The contracts of the law's lists with guards: roomy, left, other, place. Conditions: those that each theorem names.
-/
import Derived.Test.YtjblogfbcglnmaaZ30
import Derived.Deep.QuietTactic
import Derived.BigQuiet
import Derived.Test.YtjblogfbcglnmaaZ18
import Derived.Test.YtjblogfbcglnmaaZ04
namespace Go.Proofs.Ytjblogfbcglnmaa
open Go.RowKit Nm
set_option maxRecDepth 100000
set_option linter.unusedVariables false
set_option linter.unusedSimpArgs false

/-- The guards behind a list. -/
def GD : List Nat := List.replicate 40 2882343476
theorem GD_len : GD.length = 40 := by simp [GD]
theorem GD_ws : Ws GD := Ws.replicate _ (by omega)
theorem GD_get {k : Nat} (h : k < GD.length) : GD[k] = 2882343476 := by
  show (List.replicate 40 2882343476)[k]'h = _
  exact List.getElem_replicate ..
theorem list_end {L T : List Nat} {m : Nat} (h1 : L.length = m) (h2 : T.length = m) (h : L.take m = T.take m) : L = T := by
  rw [List.take_of_length_le (by omega), List.take_of_length_le (by omega)] at h
  exact h
theorem take_step {L T : List Nat} {i x : Nat} (hi : i < L.length) (hT : i < T.length) (h : L.take i = T.take i) (hx : x = T[i]) : (L.set i x).take (i + 1) = T.take (i + 1) := by
  rw [take_set_succ hi, h, hx, List.take_succ_eq_append_getElem hT]

set_option maxHeartbeats 1000000 in
theorem lroomy_any (A : Option Addr) (n c : Nat) (xs : List Nat) (w : World) (h : Wds w A n c xs) (hn : n ≤ 17592186044416) :
    Calls Try.prog 23 #[.slice A n c] w fun e w' => ∃ g, e = .returned (.tuple #[.slice (some ⟨g, 0, none⟩) n (n + 40), .slice (some ⟨g, 0, none⟩) (n + 40) (n + 40)]) ∧ Row w' g (xs ++ GD) ∧ w.heap.size ≤ g ∧ Ext w w' := by
  have hlx := h.len
  have hmk := run_make32 (n + 40) (by omega) w
  rw [show ((n + 40 : Nat) : Int) = (n : Int) + 40 by omega] at hmk
  have hr0 := Row.new w (List.replicate (n + 40) 0)
  have hE0 : Ext w (w.alloc (.cells (u32s (List.replicate (n + 40) 0)).toArray 28)) := (Ext.refl w).alloc _
  obtain ⟨w1, hw1⟩ : ∃ w1, w1 = w.alloc (.cells (u32s (List.replicate (n + 40) 0)).toArray 28) := ⟨_, rfl⟩
  rw [← hw1] at hmk hr0 hE0
  clear hw1
  obtain ⟨g, hg⟩ : ∃ g, g = w.heap.size := ⟨_, rfl⟩
  rw [← hg] at hmk hr0
  have hgl : w.heap.size ≤ g := by omega
  clear hg
  have Hlx := Lib.hid hlx
  have HT : Hid ((xs ++ GD).length = n + 40) := Lib.hid (by rw [List.length_append, hlx, GD_len])
  clear hlx
  go_enter Try.func23, Try.ntmps23
  go_wp2
  clear hmk
  go_loopw [5] (fun iv wr => ∃ (i : Nat) (L : List Nat), i ≤ n + 40 ∧ iv = .int .i64 i ∧ Row wr g L ∧ Hid (L.length = n + 40) ∧ Hid (L.take i = (xs ++ GD).take i) ∧ Ext w wr) (fun iv _ => n + 40 - (intOf iv).toNat)
  case atStart => exact ⟨0, _, Nat.zero_le _, rfl, hr0, Lib.hid (by simp), Lib.hid (by simp), hE0⟩
  case round =>
    obtain ⟨i, L, hi, rfl, hr, hLl, hrel, hEr⟩ := hrel
    by_cases hlt : i < n + 40
    · have hiL : i < L.length := by rw [hLl.out]; exact hlt
      have hiT : i < (xs ++ GD).length := by rw [HT.out]; exact hlt
      have hc1 := hr.cell hiL
      have hf1 := hr.frozen i
      have hr1 := hr.set_ i 2882343476
      have hE1 := hEr.setCell (p := ⟨g, i, none⟩) hgl (.int .u32 ((2882343476 : Nat) : Int))
      by_cases hin : i < n
      · obtain ⟨ad, hx, rfl, _, hcX⟩ := (h.ext hE1).at_ hin
        have hTx : xs[i] = (xs ++ GD)[i] := by rw [List.getElem_append_left]
        have hst := Lib.hid (take_step (x := xs[i]) hiL hiT hrel.out hTx)
        have hc2 := hr1.cell (i := i) (by rw [List.length_set]; exact hiL)
        have hf2 := hr1.frozen i
        have hr2 := hr1.set_ i xs[i]
        rw [List.set_set] at hr2
        have hl2 := Lib.hid (show (L.set i xs[i]).length = n + 40 by rw [List.length_set]; exact hLl.out)
        generalize xs[i] = x at hcX hst hr2 hl2
        rw [List.getElem_set_self] at hc2
        clear hTx hrel hLl hiT
        have e1 : ((2882343476 : Nat) : Int) = 2882343476 := rfl
        rw [e1] at hE1 hcX hc2 hf2 hr2 hr1
        go_wp2
        go_roundw
        case rel => exact ⟨i + 1, _, by omega, by go_num, hr2, hl2, hst, hE1.setCell hgl _⟩
        case measure => simp [intOf]; omega
      · have hTx : 2882343476 = (xs ++ GD)[i] := by
          rw [List.getElem_append_right (by have := Hlx.out; omega), GD_get]
        have hst := Lib.hid (take_step (x := 2882343476) hiL hiT hrel.out hTx)
        have hl2 := Lib.hid (show (L.set i 2882343476).length = n + 40 by rw [List.length_set]; exact hLl.out)
        clear hTx hrel hLl hiT
        have e1 : ((2882343476 : Nat) : Int) = 2882343476 := rfl
        rw [e1] at hE1 hr1
        go_wp2
        go_roundw
        case rel => exact ⟨i + 1, _, by omega, by go_num, hr1, hl2, hst, hE1⟩
        case measure => simp [intOf]; omega
    · have hie : i = n + 40 := by omega
      rw [hie] at hrel
      have hLe := list_end hLl.out HT.out hrel.out
      rw [hLe] at hr
      clear hrel hLl hLe hie
      go_wp2
      go_ret2
      exact ⟨g, rfl, hr, hgl, hEr⟩

set_option maxHeartbeats 1000000 in
theorem lleft_any (A : Option Addr) (n c g : Nat) (xs : List Nat) (w : World) (h : Wds w A n c xs) (hr : Row w g (xs ++ GD)) (hn : n ≤ 17592186044416) :
    Calls Try.prog 26 #[.slice A n c, .slice (some ⟨g, 0, none⟩) (n + 40) (n + 40)] w fun e w' => e = .returned (.bool true) ∧ Ext w w' := by
  have hlx := h.len
  have Hlx := Lib.hid hlx
  have HT : Hid ((xs ++ GD).length = n + 40) := Lib.hid (by rw [List.length_append, hlx, GD_len])
  clear hlx
  go_enter Try.func26, Try.ntmps26
  go_wp2
  go_loopw [5] (fun iv wr => ∃ (i q : Nat), i ≤ n + 40 ∧ iv = .int .i64 i ∧ wr = w.drewN q) (fun iv _ => n + 40 - (intOf iv).toNat)
  case atStart => exact ⟨0, 0, Nat.zero_le _, rfl, rfl⟩
  case round =>
    obtain ⟨i, q, hi, rfl, rfl⟩ := hrel
    by_cases hlt : i < n + 40
    · have hc1 := hr.cell (i := i) (by rw [HT.out]; exact hlt)
      by_cases hin : i < n
      · obtain ⟨ad, hx, rfl, _, hcX⟩ := h.at_ hin
        rw [List.getElem_append_left hx] at hc1
        generalize xs[i] = x at hcX hc1
        have b1 : decide ((i : Int) < (n : Int)) = true := decide_eq_true (by omega)
        have b2 : decide ((n : Int) ≤ (i : Int)) = false := decide_eq_false (by omega)
        have b3 : decide (i < n) = true := decide_eq_true hin
        have b4 : decide (n ≤ i) = false := decide_eq_false (by omega)
        go_wp2
        go_quiet (fail)
        go_wp2
        go_roundw
        case rel => exact ⟨i + 1, _, by omega, by go_num, by (try simp only [World.drewN_drewN]); rfl⟩
        case measure => simp [intOf]; omega
      · rw [List.getElem_append_right (by have := Hlx.out; omega), GD_get] at hc1
        have e1 : ((2882343476 : Nat) : Int) = 2882343476 := rfl
        rw [e1] at hc1
        have b1 : decide ((i : Int) < (n : Int)) = false := decide_eq_false (by omega)
        have b2 : decide ((n : Int) ≤ (i : Int)) = true := decide_eq_true (by omega)
        have b3 : decide (i < n) = false := decide_eq_false hin
        have b4 : decide (n ≤ i) = true := decide_eq_true (by omega)
        go_wp2
        go_quiet (fail)
        go_wp2
        go_roundw
        case rel => exact ⟨i + 1, _, by omega, by go_num, by (try simp only [World.drewN_drewN]); rfl⟩
        case measure => simp [intOf]; omega
    · go_wp2
      go_ret
      exact ⟨rfl, (Ext.refl w).drewN q⟩

theorem xor32 (a b : Nat) (ha : a < 4294967296) (hb : b < 4294967296) : ∃ y : Nat, bits .xor .u32 (a : Int) (b : Int) = (y : Int) ∧ y < 4294967296 :=
  ⟨a ^^^ b, u32_xor_nat a b ha hb, Nat.xor_lt_two_pow (n := 32) ha hb⟩

set_option maxHeartbeats 1000000 in
theorem lother_any (A : Option Addr) (n c : Nat) (xs : List Nat) (w : World) (h : Wds w A n c xs) (hn : n ≤ 17592186044416) :
    Calls Try.prog 21 #[.slice A n c] w fun e w' => ∃ g ys, e = .returned (.slice (some ⟨g, 0, none⟩) n (n + 40)) ∧ ys.length = n ∧ Ws ys ∧ Row w' g (ys ++ GD) ∧ w.heap.size ≤ g ∧ Ext w w' := by
  have hlx := h.len
  have hws := h.ws
  have HR := Lib.hid (lroomy_any A n c xs w h hn)
  clear h
  by_cases h0 : n = 0
  · subst h0
    have Hlx := Lib.hid hlx
    clear hlx
    go_enter Try.func21, Try.ntmps21
    go_wp2_with fail
    refine HR.out.mono ?_
    rintro e w1 ⟨g, rfl, hr, hg, hE⟩
    go_wp2
    go_ret
    exact ⟨g, xs, rfl, Hlx.out, hws, hr, hg, hE⟩
  · have hp : 0 < n := by omega
    obtain ⟨x0, hx0⟩ : ∃ x, x = xs[0]'(by omega) := ⟨_, rfl⟩
    have hx032 : x0 < 4294967296 := by rw [hx0]; exact hws.get _
    obtain ⟨y0, hy0, hy032⟩ := xor32 x0 1 hx032 (by omega)
    obtain ⟨m, hm⟩ : ∃ m, m = n / 2 := ⟨_, rfl⟩
    have hmn : m < n := by omega
    have hme : (n : Int) / 2 = (m : Int) := by omega
    obtain ⟨xs1, hxs1⟩ : ∃ l, l = xs.set 0 y0 := ⟨_, rfl⟩
    have hws1 : Ws xs1 := by rw [hxs1]; exact hws.set 0 hy032
    have hlx1 : xs1.length = n := by rw [hxs1, List.length_set]; exact hlx
    obtain ⟨x1, hx1⟩ : ∃ x, x = xs1[m]'(by omega) := ⟨_, rfl⟩
    have hx132 : x1 < 4294967296 := by rw [hx1]; exact hws1.get _
    obtain ⟨y1, hy1, hy132⟩ := xor32 x1 1073741824 hx132 (by omega)
    have hws2 : Ws (xs1.set m y1) := hws1.set m hy132
    have hlx2 : (xs1.set m y1).length = n := by rw [List.length_set]; exact hlx1
    have hF : ∀ (w1 : World) g, Row w1 g (xs ++ GD) → w1.cell? ⟨g, 0, none⟩ = some (.int .u32 (x0 : Int)) ∧ w1.frozen? ⟨g, 0, none⟩ = false ∧ (w1.setCell ⟨g, 0, none⟩ (.int .u32 (y0 : Int))).cell? ⟨g, m, none⟩ = some (.int .u32 (x1 : Int)) ∧ (w1.setCell ⟨g, 0, none⟩ (.int .u32 (y0 : Int))).frozen? ⟨g, m, none⟩ = false ∧ Row ((w1.setCell ⟨g, 0, none⟩ (.int .u32 (y0 : Int))).setCell ⟨g, m, none⟩ (.int .u32 (y1 : Int))) g (xs1.set m y1 ++ GD) := fun w1 g hr => by
      have c0 := hr.cell (i := 0) (by rw [List.length_append]; omega)
      rw [List.getElem_append_left (by omega), ← hx0] at c0
      have r1 := hr.set_ 0 y0
      rw [List.set_append_left 0 y0 (by omega), ← hxs1] at r1
      have c1 := r1.cell (i := m) (by rw [List.length_append]; omega)
      rw [List.getElem_append_left (by omega), ← hx1] at c1
      have r2 := r1.set_ m y1
      rw [List.set_append_left m y1 (by omega)] at r2
      exact ⟨c0, hr.frozen 0, c1, r1.frozen m, r2⟩
    have HF := Lib.hid hF
    have e1 : ((1 : Nat) : Int) = 1 := rfl
    have e2 : ((1073741824 : Nat) : Int) = 1073741824 := rfl
    rw [e1] at hy0
    rw [e2] at hy1
    have hy0' : (y0 : Int) % 4294967296 = (y0 : Int) := by omega
    have H2 := Lib.hid (And.intro hlx2 hws2)
    clear hF hx0 hx1 hxs1 hws1 hlx1 hws2 hlx2 hm hlx hws h0 e1 e2
    go_enter Try.func21, Try.ntmps21
    go_wp2_with fail
    refine HR.out.mono ?_
    rintro e w1 ⟨g, rfl, hr, hg, hE⟩
    obtain ⟨c0, f0, c1, f1, r2⟩ := HF.out w1 g hr
    have hE2 := (hE.setCell (p := ⟨g, 0, none⟩) hg (.int .u32 (y0 : Int))).setCell (p := ⟨g, m, none⟩) hg (.int .u32 (y1 : Int))
    clear hr HF HR
    go_wp2
    go_ret
    exact ⟨g, _, rfl, H2.out.1, H2.out.2, r2, hg, hE2⟩

set_option maxHeartbeats 1000000 in
theorem lplace_any (g n c : Nat) (zs : List Nat) (A : Option Addr) (d : Nat) (ys : List Nat) (wv w : World) (hr : Row w g (zs ++ GD)) (hzl : zs.length = n) (hyl : ys.length = n) (hn : n ≤ 17592186044416)
    (HA : Hid (∀ w', ExtO wv g w w' → Wds w' A n d ys)) (hE : Ext wv w) (hg : wv.heap.size ≤ g) :
    Calls Try.prog 27 #[.slice (some ⟨g, 0, none⟩) n c, .slice A n d] w fun e w' => e = .returned (.tuple #[]) ∧ Row w' g (ys ++ GD) ∧ ExtO wv g w w' := by
  have hE : ExtO wv g w w := ⟨hE, Only.refl g w⟩
  have HT : Hid ((ys ++ GD).length = n + 40 ∧ ys.length = n) := Lib.hid ⟨by rw [List.length_append, hyl, GD_len], hyl⟩
  have HZ : Hid ((zs ++ GD).length = n + 40 ∧ (zs ++ GD).drop n = GD) := Lib.hid ⟨by rw [List.length_append, hzl, GD_len], by rw [← hzl, List.drop_left]⟩
  clear hzl hyl
  go_enter Try.func27, Try.ntmps27
  go_wp2
  go_loopw [4] (fun iv wr => ∃ (i : Nat) (L : List Nat), i ≤ n ∧ iv = .int .i64 i ∧ Row wr g L ∧ Hid (L.length = n + 40) ∧ Hid (L.take i = (ys ++ GD).take i) ∧ Hid (L.drop n = GD) ∧ ExtO wv g w wr) (fun iv _ => n - (intOf iv).toNat)
  case atStart => exact ⟨0, _, Nat.zero_le _, rfl, hr, Lib.hid HZ.out.1, Lib.hid (by simp), Lib.hid HZ.out.2, hE⟩
  case round =>
    obtain ⟨i, L, hi, rfl, hr, hLl, hrel, hdr, hEr⟩ := hrel
    by_cases hlt : i < n
    · have hiL : i < L.length := by rw [hLl.out]; omega
      have hiT : i < (ys ++ GD).length := by rw [HT.out.1]; omega
      have hc1 := hr.cell hiL
      have hf1 := hr.frozen i
      obtain ⟨ad, hx, rfl, _, hcX⟩ := (HA.out _ hEr).at_ hlt
      have hTx : ys[i] = (ys ++ GD)[i] := by rw [List.getElem_append_left]
      have hst := Lib.hid (take_step (x := ys[i]) hiL hiT hrel.out hTx)
      have hr2 := hr.set_ i ys[i]
      have hl2 := Lib.hid (show (L.set i ys[i]).length = n + 40 by rw [List.length_set]; exact hLl.out)
      have hd2 := Lib.hid (show (L.set i ys[i]).drop n = GD by rw [List.drop_set_of_lt hlt]; exact hdr.out)
      generalize ys[i] = x at hcX hst hr2 hl2 hd2
      clear hTx hrel hLl hiT hdr
      go_wp2
      go_roundw
      case rel => exact ⟨i + 1, _, by omega, by go_num, hr2, hl2, hst, hd2, hEr.setCell hg _⟩
      case measure => simp [intOf]; omega
    · have hie : i = n := by omega
      rw [hie] at hrel
      have hLe : L = ys ++ GD := by
        have := List.take_append_drop n L
        rw [hrel.out, hdr.out, ← HT.out.2, List.take_left] at this
        exact this.symm
      rw [hLe] at hr
      clear hrel hLl hLe hie hdr
      go_wp2
      go_end0
      exact ⟨rfl, hr, hEr⟩
end Go.Proofs.Ytjblogfbcglnmaa

/-
  Plain: how many words a ratio's parts have at most. Conditions: those that each theorem names.
-/
namespace Go.Proofs.Ytjblogfbcglnmaa
open Go.RowKit Nm Rn
set_option linter.unusedVariables false
set_option linter.unusedSimpArgs false

theorem le_nw_of {a b k : Nat} (h : a ≤ b) (hb : nw b ≤ k) : nw a ≤ k := (nw_le_iff _ _).2 (Nat.lt_of_le_of_lt h ((nw_le_iff _ _).1 hb))
theorem tz_bl (n : Nat) : tz n ≤ bl n := by
  by_cases h : n = 0
  · subst h; exact Nat.le_refl _
  · have h1 := tz_div (n := n)
    have h2 : 2 ^ tz n ≤ n := by
      have : 1 ≤ n / 2 ^ tz n := by
        rcases Nat.eq_zero_or_pos (n / 2 ^ tz n) with h3 | h3
        · rw [h3, Nat.zero_mul] at h1; omega
        · exact h3
      calc 2 ^ tz n = 1 * 2 ^ tz n := by omega
        _ ≤ n / 2 ^ tz n * 2 ^ tz n := Nat.mul_le_mul_right _ this
        _ = n := h1
    rcases Nat.lt_or_ge (bl n) (tz n) with h3 | h3
    · have h4 := lt_pow_bl n
      have h5 := Nat.pow_le_pow_right (n := 2) (by omega) (Nat.le_of_lt h3)
      omega
    · exact h3
theorem fracD_le_ {n d : Nat} {e : Int} (hd : d ≠ 0) : fracD n d e ≤ d * 2 ^ ((-e).toNat + tz d) := by
  unfold fracD
  split
  · exact Nat.mul_pos (by omega) (Nat.two_pow_pos _)
  · have h1 : (-(e + tz n - tz d)).toNat ≤ (-e).toNat + tz d := by omega
    have h2 := Nat.pow_le_pow_right (n := 2) (by omega) h1
    exact Nat.mul_le_mul (Nat.div_le_self _ _) h2
theorem frac_nw {n d : Nat} {e : Int} (hn : nw n ≤ 16384) (hdn : nw d ≤ 16384) (hd : d ≠ 0) (e1 : -1100000 ≤ e) (e2 : e ≤ 1100000) : nw (fracN n d e) ≤ 1073741824 ∧ nw (fracD n d e) ≤ 1073741824 := by
  have a1 := nw_bl n
  have a2 := nw_bl d
  have t1 := tz_bl n
  have t2 := tz_bl d
  have h1 := le_nw_of (fracN_le n d e) (Nat.le_trans (nw_shift _ (Nat.le_refl _)) (show nw n + ((e.toNat + tz n) / 32 + 1) ≤ 1073741824 by omega))
  have h2 := le_nw_of (fracD_le_ (n := n) (e := e) hd) (Nat.le_trans (nw_shift _ (Nat.le_refl _)) (show nw d + (((-e).toNat + tz d) / 32 + 1) ≤ 1073741824 by omega))
  exact ⟨h1, h2⟩
end Go.Proofs.Ytjblogfbcglnmaa
