/-
  The contracts of the reference's naturals, second part. Conditions: those that each theorem names.
-/
import Derived.Test.YtadijoeeaineaaaGreatDoorW08
import Derived.Deep.QuietTactic
import Derived.BigQuiet
import Derived.Test.YtadijoeeaineaaaGreatDoorW04
namespace Go.Proofs.YtadijoeeaineaaaGreatDoor
open Go.RowKit Nm
set_option maxRecDepth 100000
set_option linter.unusedVariables false
set_option linter.unusedSimpArgs false


theorem two_words (v : Nat) (h : v < 18446744073709551616) : nv [v % 4294967296, v / 4294967296] = v := by
  simp only [nv]; omega
set_option maxHeartbeats 400000 in
theorem small_any (v : Int) (w : World) (h0 : 0 ≤ v) (h1 : v < 18446744073709551616) :
    Calls Tryz.prog 42 #[.int .u64 v] w (RetW v.toNat w) := by
  obtain ⟨n, rfl⟩ := Int.eq_ofNat_of_zero_le h0
  have hand : bits .and .u64 (n : Int) 4294967295 = ((n % 4294967296 : Nat) : Int) := by
    rw [u64_and _ _ (by omega) h1 (by omega) (by omega)]
    rw [Int.toNat_natCast, show (4294967295 : Int).toNat = 4294967295 from rfl, nat_mask32]
  have hmod : ((n % 4294967296 : Nat) : Int) % 4294967296 = ((n % 4294967296 : Nat) : Int) := by omega
  have hdiv : (n : Int) / 4294967296 = ((n / 4294967296 : Nat) : Int) := by omega
  have H1 := Lib.hid hand
  have H2 := Lib.hid hmod
  have H3 := Lib.hid hdiv
  clear hand hmod hdiv
  go_enter Tryz.func42, Tryz.ntmps42
  go_wp2_with fail
  rw [H1.out, H2.out, H3.out]
  have hW : Wds (w.alloc (Obj.cells #[Value.int IntKind.u32 ((n % 4294967296 : Nat) : Int), Value.int IntKind.u32 ((n / 4294967296 : Nat) : Int)] 65)) (some ⟨w.heap.size, 0, none⟩) 2 2 [n % 4294967296, n / 4294967296] := by
    refine ⟨rfl, Nat.le_refl _, by unfold maxLen; omega, Ws.cons (by omega) (Ws.cons (by omega) Ws.nil), fun _ => ⟨_, rfl, by simp, fun k x hk => ?_⟩⟩
    match k, hk with
    | 0, hk => simp at hk; subst hk; simp [World.cell?_alloc_new, Addr.add]
    | 1, hk => simp at hk; subst hk; simp [World.cell?_alloc_new, Addr.add]
    | k + 2, hk => simp at hk
  refine (norm_any _ _ _ _ _ hW (by omega)).mono ?_
  rintro e w1 ⟨A, m, c, rfl, hR, hb⟩
  rw [two_words n (by omega)] at hR
  go_wp2
  go_ret
  exact ⟨A, m, c, rfl, hR, ((Ext.refl w).alloc _).trans hb⟩

theorem word_step {xs : List Nat} (h : Ws xs) {n k : Nat} (hn : n ≤ xs.length) (hk : k < n) : nv ((xs.take n).drop k) = xs[k]'(by omega) + 4294967296 * nv ((xs.take n).drop (k + 1)) := by
  rw [nv_drop_eq (by rw [List.length_take]; omega), List.getElem_take]
theorem word_or (a b : Nat) (ha : a < 4294967296) (hb : b < 4294967296) : bits .or .u64 ((a : Int) * 4294967296) (b : Int) = ((b + 4294967296 * a : Nat) : Int) := by
  have e : (a : Int) * 4294967296 = ((a * 4294967296 : Nat) : Int) := by omega
  rw [e, u64_or_nat _ _ (by omega) (by omega), nat_join 32 _ _ (by omega) (by omega)]
  omega
set_option maxHeartbeats 400000 in
theorem word_any (A : Option Addr) (n c : Nat) (xs : List Nat) (w : World) (h : Wds w A n c xs) (hn : n ≤ 35184372088832) (h2 : nw (nv xs) ≤ 2) :
    Calls Tryz.prog 121 #[.slice A n c] w fun e w' => e = .returned (.tuple #[.int .u64 (nv xs : Int), .bool true]) ∧ w = w' := by
  go_enter Tryz.func121, Tryz.ntmps121
  go_wp2_with (go_at_call 43; refine (words_any _ _ _ _ _ h hn).mono ?_; rintro e w' ⟨rfl, rfl⟩)
  have hxl : nw (nv xs) ≤ xs.length := nw_nv_le h.ws
  go_loop [5, 6] (fun v i => ∃ k : Nat, k ≤ nw (nv xs) ∧ i = .int .i64 ((k : Int) - 1) ∧ v = .int .u64 (nv ((xs.take (nw (nv xs))).drop k) : Nat)) (fun _ i => (intOf i + 1).toNat)
  case atStart => exact ⟨_, Nat.le_refl _, rfl, by rw [List.drop_of_length_le (by rw [List.length_take]; omega)]; rfl⟩
  case round =>
    obtain ⟨k, hk, rfl, rfl⟩ := hrel
    have hlen := h.len
    by_cases h0 : k = 0
    · subst h0
      go_wp2
      go_ret2
      exact ⟨by rw [(take_nw h.ws).1]; rfl, rfl⟩
    · obtain ⟨ad, hx, rfl, hb, hc⟩ := h.at_ (k := k - 1) (by omega)
      have hxk := h.ws.get hx
      have hv : nv ((xs.take (nw (nv xs))).drop k) < 4294967296 := by
        have := nv_lt ((h.ws.take (nw (nv xs))).drop k)
        rw [List.length_drop, List.length_take] at this
        exact Nat.lt_of_lt_of_le this (Nat.le_trans (Nat.pow_le_pow_right (by omega) (show _ ≤ 1 by omega)) (by omega))
      have hs := word_step h.ws hxl (show k - 1 < nw (nv xs) by omega)
      rw [show k - 1 + 1 = k by omega] at hs
      have ho := word_or _ _ hv hxk
      rw [← hs] at ho
      have HO := Lib.hid ho
      clear ho hs
      generalize nv ((xs.take (nw (nv xs))).drop k) = V at *
      go_wp2
      go_round
      case rel => exact ⟨k - 1, by omega, by go_num, by rw [HO.out]⟩
      case measure => simp [intOf]; omega

def cmpN (a b : Nat) : Int := if a < b then -1 else if b < a then 1 else 0
theorem cmpN_lt {a b : Nat} (h : a < b) : cmpN a b = -1 := by simp [cmpN, h]
theorem cmpN_gt {a b : Nat} (h : b < a) : cmpN a b = 1 := by
  unfold cmpN; rw [if_neg (by omega), if_pos h]
theorem cmpN_eq {a b : Nat} (h : a = b) : cmpN a b = 0 := by simp [cmpN, h]
theorem lt_of_nw {a b : Nat} (h : nw a < nw b) : a < b := by
  rcases Nat.lt_or_ge a b with h' | h'
  · exact h'
  · have := nw_mono h'; omega
/-- The parts from word k on are the same. -/
def Same (xs ys : List Nat) (n k : Nat) : Prop := ∀ j, (hj : j < (xs.take n).length) → (hj' : j < (ys.take n).length) → k ≤ j → (xs.take n)[j] = (ys.take n)[j]
theorem Same.all {xs ys : List Nat} (hx : Ws xs) (hy : Ws ys) (e : nw (nv xs) = nw (nv ys)) (h : Same xs ys (nw (nv xs)) 0) : nv xs = nv ys := by
  have h1 := (take_nw hx).1
  have h2 := (take_nw hy).1
  have l1 := nw_nv_le hx
  have l2 := nw_nv_le hy
  rw [← h1, ← h2, ← e]
  congr 1
  apply List.ext_getElem
  · rw [List.length_take, List.length_take]; omega
  · intro j a b; exact h j a b (Nat.zero_le _)
theorem Same.lt {xs ys : List Nat} (hx : Ws xs) (hy : Ws ys) (e : nw (nv xs) = nw (nv ys)) {k : Nat} (hk : k < nw (nv xs)) (hkx : k < xs.length) (hky : k < ys.length) (h : Same xs ys (nw (nv xs)) (k + 1)) (hlt : xs[k] < ys[k]) : nv xs < nv ys := by
  have h1 := (take_nw hx).1
  have h2 := (take_nw hy).1
  have l1 := nw_nv_le hx
  have l2 := nw_nv_le hy
  rw [← h1, ← h2, ← e]
  refine nv_lt_of_top (hx.take _) ?_ (k := k) ?_ (fun j hj hkj => h j hj ?_ hkj) ?_
  · rw [List.length_take, List.length_take]; omega
  · rw [List.length_take]; omega
  · rw [List.length_take] at hj ⊢; omega
  · rw [List.getElem_take, List.getElem_take]; exact hlt
theorem Same.symm {xs ys : List Nat} {n k : Nat} (h : Same xs ys n k) : Same ys xs n k := fun j a b c => (h j b a c).symm
theorem Same.step {xs ys : List Nat} {n k : Nat} (h : Same xs ys n (k + 1)) (hkx : k < xs.length) (hky : k < ys.length) (e : xs[k] = ys[k]) : Same xs ys n k := by
  intro j a b c
  by_cases hj : j = k
  · subst hj
    rw [List.getElem_take, List.getElem_take]; exact e
  · exact h j a b (by omega)
set_option maxHeartbeats 1000000 in
theorem cmp_any (A : Option Addr) (n c : Nat) (xs : List Nat) (B : Option Addr) (m d : Nat) (ys : List Nat) (w : World) (h : Wds w A n c xs) (hn : n ≤ 35184372088832) (k : Wds w B m d ys) (hm : m ≤ 35184372088832) :
    Calls Tryz.prog 45 #[.slice A n c, .slice B m d] w fun e w' => e = .returned (.int .i64 (cmpN (nv xs) (nv ys))) ∧ ∃ q, w' = w.drewN q := by
  have hxl : nw (nv xs) ≤ xs.length := nw_nv_le h.ws
  have hyl : nw (nv ys) ≤ ys.length := nw_nv_le k.ws
  have hlx := h.len
  have hly := k.len
  rcases Nat.lt_trichotomy (nw (nv xs)) (nw (nv ys)) with hlt | heq | hgt
  · go_enter Tryz.func45, Tryz.ntmps45
    go_wp2_with (first | (go_at_call 43; ((with_reducible refine (words_any A _ _ _ _ h hn).mono ?_); rintro e w' ⟨rfl, rfl⟩)) | (go_at_call 43; ((with_reducible refine (words_any B _ _ _ _ k hm).mono ?_); rintro e w' ⟨rfl, rfl⟩)))
    go_ret
    exact ⟨ret_int (cmpN_lt (lt_of_nw hlt)).symm, 0, rfl⟩
  · have HS := Lib.hid heq
    have hle : nw (nv xs) ≤ nw (nv ys) := by omega
    have hge : nw (nv ys) ≤ nw (nv xs) := by omega
    clear heq
    go_enter Tryz.func45, Tryz.ntmps45
    go_wp2_with (first | (go_at_call 43; ((with_reducible refine (words_any A _ _ _ _ h hn).mono ?_); rintro e w' ⟨rfl, rfl⟩)) | (go_at_call 43; ((with_reducible refine (words_any B _ _ _ _ k hm).mono ?_); rintro e w' ⟨rfl, rfl⟩)))
    go_loopw [7] (fun i wr => ∃ t : Nat, t ≤ nw (nv xs) ∧ i = .int .i64 ((t : Int) - 1) ∧ Same xs ys (nw (nv xs)) t ∧ ∃ q, wr = w.drewN q) (fun i _ => (intOf i + 1).toNat)
    case atStart => exact ⟨_, Nat.le_refl _, rfl, fun j a b c => by rw [List.length_take] at a; omega, 0, rfl⟩
    case round =>
      obtain ⟨t, ht, rfl, hs, q, rfl⟩ := hrel
      by_cases h0 : t = 0
      · subst h0
        have hfin := Lib.hid (hs.all h.ws k.ws HS.out)
        clear hs
        go_wp2
        go_ret
        exact ⟨ret_int (cmpN_eq hfin.out).symm, q, rfl⟩
      · obtain ⟨ad, hx, rfl, hb, hc⟩ := h.at_ (k := t - 1) (by omega)
        obtain ⟨bd, hy, rfl, hb', hc'⟩ := k.at_ (k := t - 1) (by omega)
        have hs' := hs
        rw [show t = t - 1 + 1 by omega] at hs'
        have hax := Lib.hid (fun hh => Same.lt h.ws k.ws HS.out (show t - 1 < nw (nv xs) by omega) hx hy hs' hh)
        have hay := Lib.hid (fun hh => Same.lt k.ws h.ws HS.out.symm (show t - 1 < nw (nv ys) by omega) hy hx (by rw [← HS.out]; exact hs'.symm) hh)
        have hae := Lib.hid (fun hh => hs'.step hx hy hh)
        clear hs hs'
        have hpos : 0 < t := by omega
        have b1 : (0 : Int) ≤ (t : Int) - 1 := by omega
        have b2 : (t : Int) - 1 < (n : Int) := by omega
        have b3 : (t : Int) - 1 < (m : Int) := by omega
        generalize hX : xs[t - 1] = X at *
        generalize hY : ys[t - 1] = Y at *
        have HX := Lib.hid hX
        have HY := Lib.hid hY
        clear hX hY
        rcases Nat.lt_trichotomy X Y with hlt | he | hgt
        · go_wp2
          go_quiet (fail)
          go_wp2
          go_ret
          exact ⟨ret_int (cmpN_lt (hax.out hlt)).symm, q + nq, World.drewN_drewN _ _ _⟩
        · have hng : ¬ X < Y := by omega
          have hng' : ¬ Y < X := by omega
          have HE := Lib.hid he
          clear he
          go_wp2
          go_quiet (fail)
          go_wp2
          go_quiet (fail)
          go_wp2
          go_roundw
          case rel => exact ⟨t - 1, by omega, by go_num, hae.out HE.out, by (try simp only [World.drewN_drewN]); exact ⟨_, rfl⟩⟩
          case measure => simp [intOf]; omega
        · have hng : ¬ X < Y := by omega
          go_wp2
          go_quiet (fail)
          go_wp2
          go_quiet (fail)
          go_wp2
          go_ret
          exact ⟨ret_int (cmpN_gt (hay.out hgt)).symm, by (try simp only [World.drewN_drewN]); exact ⟨_, rfl⟩⟩
  · go_enter Tryz.func45, Tryz.ntmps45
    go_wp2_with (first | (go_at_call 43; ((with_reducible refine (words_any A _ _ _ _ h hn).mono ?_); rintro e w' ⟨rfl, rfl⟩)) | (go_at_call 43; ((with_reducible refine (words_any B _ _ _ _ k hm).mono ?_); rintro e w' ⟨rfl, rfl⟩)))
    go_ret
    exact ⟨ret_int (cmpN_gt (lt_of_nw hgt)).symm, 0, rfl⟩

set_option maxHeartbeats 400000 in
theorem len_any (A : Option Addr) (n c : Nat) (xs : List Nat) (w : World) (h : Wds w A n c xs) (hn : n ≤ 35184372088832) :
    Calls Tryz.prog 16 #[.slice A n c] w fun e w' => e = .returned (.int .i64 (bl (nv xs) : Int)) ∧ w = w' := by
  have hxl : nw (nv xs) ≤ xs.length := nw_nv_le h.ws
  have hlen := h.len
  by_cases h0 : nv xs = 0
  · have hz : nw (nv xs) ≤ 0 := by rw [h0, nw_zero]; omega
    have hf : (0 : Int) = (bl (nv xs) : Int) := by rw [h0]; rfl
    have HF := Lib.hid hf
    clear hf h0
    go_enter Tryz.func16, Tryz.ntmps16
    go_wp2_with (go_at_call 43; refine (words_any _ _ _ _ _ h hn).mono ?_; rintro e w' ⟨rfl, rfl⟩)
    go_ret
    exact ⟨ret_int HF.out, rfl⟩
  · obtain ⟨hk, ht, htop⟩ := top_word h.ws h0
    have hnp : 0 < nw (nv xs) := by
      rcases Nat.eq_zero_or_pos (nw (nv xs)) with e | e
      · exact absurd (nw_eq_zero.1 e) h0
      · exact e
    clear h0
    obtain ⟨ad, hx, rfl, hb, hc⟩ := h.at_ (k := nw (nv xs) - 1) (by omega)
    have hX := h.ws.get hx
    have HT := Lib.hid htop
    clear htop
    generalize hXe : xs[nw (nv xs) - 1] = X at *
    have HX := Lib.hid hXe
    clear hXe
    go_enter Tryz.func16, Tryz.ntmps16
    go_wp2_with (go_at_call 43; refine (words_any _ _ _ _ _ h hn).mono ?_; rintro e w' ⟨rfl, rfl⟩)
    go_loop [4, 5] (fun v x => ∃ a b : Nat, a < 4294967296 ∧ x = .int .u32 (a : Int) ∧ v = .int .i64 (b : Int) ∧ b ≤ bl (nv xs) ∧ Hid (b + bl a = bl (nv xs))) (fun _ x => (intOf x).toNat)
    case atStart => exact ⟨X, 32 * (nw (nv xs) - 1), hX, rfl, by congr 1; omega, by have := HT.out; omega, Lib.hid HT.out.symm⟩
    case round =>
      obtain ⟨a, b, ha, rfl, rfl, hble, hab⟩ := hrel
      have hbb : bl (nv xs) ≤ 32 * nw (nv xs) := by
        rw [bl_le_iff, ← pow32]; exact lt_pow_nw _
      by_cases ha0 : a = 0
      · have he : (b : Int) = (bl (nv xs) : Int) := by have := hab.out; rw [ha0, bl_zero] at this; omega
        have HE := Lib.hid he
        clear he
        subst ha0
        go_wp2
        go_ret
        exact ⟨ret_int HE.out, rfl⟩
      · have hap : 0 < a := by omega
        have hh := bl_half ha0
        have HH := Lib.hid hh
        clear hh
        clear ha0
        go_wp2
        go_round
        case rel => exact ⟨a / 2, b + 1, by omega, by go_num, by go_num, by have := hab.out; have := HH.out; omega, Lib.hid (by have := hab.out; have := HH.out; omega)⟩
        case measure => simp [intOf]; omega

set_option maxHeartbeats 400000 in
theorem bit_any (A : Option Addr) (n c : Nat) (xs : List Nat) (i : Nat) (w : World) (h : Wds w A n c xs) (hn : n ≤ 35184372088832) (hi : i ≤ 4611686018427387904) :
    Calls Tryz.prog 105 #[.slice A n c, .int .i64 (i : Int)] w fun e w' => e = .returned (.int .u32 (nv xs / 2 ^ i % 2 : Nat)) ∧ w = w' := by
  have hlen := h.len
  by_cases hlt : i / 32 < n
  · obtain ⟨ad, hx, rfl, hb, hc⟩ := h.at_ hlt
    have hfin : bits .and .u32 ((xs[i / 32] : Int) / 2 ^ (i % 32)) 1 = ((nv xs / 2 ^ i % 2 : Nat) : Int) := by
      have hx32 := h.ws.get hx
      have e : ((xs[i / 32] : Nat) : Int) / 2 ^ (i % 32) = ((xs[i / 32] / 2 ^ (i % 32) : Nat) : Int) := by simp
      rw [bit_word h.ws hx, e, show (1 : Int) = ((1 : Nat) : Int) from rfl, u32_and_nat _ _ (Nat.lt_of_le_of_lt (Nat.div_le_self _ _) hx32) (by omega), nat_mask1]
    have HF := Lib.hid hfin
    clear hfin
    go_enter Tryz.func105, Tryz.ntmps105
    go_wp2
    go_ret
    exact ⟨ret_int HF.out, rfl⟩
  · have hfin : (0 : Int) = ((nv xs / 2 ^ i % 2 : Nat) : Int) := by
      have h1 := nv_lt h.ws
      rw [pow32] at h1
      have : nv xs < 2 ^ i := Nat.lt_of_lt_of_le h1 (Nat.pow_le_pow_right (by omega) (by omega))
      rw [Nat.div_eq_of_lt this]; rfl
    have HF := Lib.hid hfin
    clear hfin
    go_enter Tryz.func105, Tryz.ntmps105
    go_wp2
    go_ret
    exact ⟨ret_int HF.out, rfl⟩
end Go.Proofs.YtadijoeeaineaaaGreatDoor

/-
  The contracts of the program's own naturals, first part: words, cut, Small. Conditions: those that each theorem names.
-/
namespace Go.Proofs.YtadijoeeaineaaaGreatDoor
open Go.RowKit Nm
set_option maxRecDepth 100000
set_option linter.unusedVariables false
set_option linter.unusedSimpArgs false

set_option maxHeartbeats 400000 in
theorem nwords_any (A : Option Addr) (n c : Nat) (xs : List Nat) (w : World) (h : Wds w A n c xs) (hn : n ≤ 35184372088832) :
    Calls Tryz.prog 131 #[.slice A n c] w fun e w' => e = .returned (.int .i64 (nw (nv xs) : Int)) ∧ w = w' := by
  have hlen := h.len
  go_enter Tryz.func131, Tryz.ntmps131
  go_wp2
  go_loop [3] (fun i => ∃ k : Nat, k ≤ n ∧ i = .int .i64 k ∧ ∀ j, (hj : j < xs.length) → k ≤ j → xs[j] = 0) (fun i => (intOf i).toNat)
  case atStart => exact ⟨n, Nat.le_refl _, rfl, fun j hj hk => by omega⟩
  case round =>
    obtain ⟨k, hk, rfl, hz⟩ := hrel
    have HZ := Lib.hid hz
    clear hz
    by_cases h0 : k = 0
    · subst h0
      go_wp2
      go_ret
      exact ⟨ret_int (by rw [(take_trim h.ws (Nat.zero_le _) HZ.out (fun k hk e => by omega)).2.1]; rfl), rfl⟩
    · obtain ⟨ad, hx, rfl, hb, hc⟩ := h.at_ (k := k - 1) (by omega)
      by_cases hx0 : xs[k - 1] = 0
      · go_wp2
        go_round
        case rel => exact ⟨k - 1, by omega, by go_num, fun j hj hkj => by
          by_cases e : j = k - 1
          · subst e; exact hx0
          · exact HZ.out j hj (by omega)⟩
        case measure => simp [intOf]; omega
      · go_wp2
        go_ret
        exact ⟨ret_int (by rw [(take_trim h.ws (by omega) HZ.out (fun j hj e => by
          have e : j = k - 1 := by omega
          subst e; exact hx0)).2.1]), rfl⟩


theorem nd_take {xs : List Nat} (h : Ws xs) : nd (nv xs) = xs.take (nw (nv xs)) := by
  obtain ⟨n, hn, hz, ht⟩ : ∃ n, n ≤ xs.length ∧ (∀ k, (hk : k < xs.length) → n ≤ k → xs[k] = 0) ∧ (∀ k, (hk : k < xs.length) → k + 1 = n → xs[k] ≠ 0) := by
    have : ∀ m, m ≤ xs.length → (∀ k, (hk : k < xs.length) → m ≤ k → xs[k] = 0) → ∃ n, n ≤ xs.length ∧ (∀ k, (hk : k < xs.length) → n ≤ k → xs[k] = 0) ∧ (∀ k, (hk : k < xs.length) → k + 1 = n → xs[k] ≠ 0) := by
      intro m
      induction m with
      | zero => intro h1 h2; exact ⟨0, by omega, h2, fun k hk e => by omega⟩
      | succ m ih =>
        intro h1 h2
        by_cases h3 : xs[m]'(by omega) = 0
        · exact ih (by omega) (fun k hk hm => by
            by_cases e : k = m
            · subst e; exact h3
            · exact h2 k hk (by omega))
        · exact ⟨m + 1, h1, h2, fun k hk e => by
            have : k = m := by omega
            subst this; exact h3⟩
    exact this xs.length (Nat.le_refl _) (fun k hk h => by omega)
  have := take_trim h hn hz ht
  rw [this.1, this.2.1]

theorem Wds.cut {w : World} {A : Option Addr} {n c : Nat} {xs : List Nat} (h : Wds w A n c xs) : Wds w A (nw (nv xs)) (nw (nv xs)) (nd (nv xs)) := by
  have hle : nw (nv xs) ≤ n := by have := nw_nv_le h.ws; have := h.len; omega
  have hc1 := h.lec
  have hc2 := h.cmax
  refine ⟨nd_length _, Nat.le_refl _, by omega, Ws.nd _, fun h0 => ?_⟩
  obtain ⟨ad, e, hlt, hc⟩ := h.2.2.2.2 (by omega)
  refine ⟨ad, e, hlt, fun k x hk => hc k x ?_⟩
  rw [nd_take h.ws, List.getElem?_take] at hk
  split at hk
  · exact hk
  · cases hk

set_option maxHeartbeats 1000000 in
theorem ncut_any (A : Option Addr) (n c : Nat) (xs : List Nat) (w : World) (h : Wds w A n c xs) (hn : n ≤ 35184372088832) :
    Calls Tryz.prog 111 #[.slice A n c] w (RetW (nv xs) w) := by
  have hw := fun w (h : Wds w A n c xs) => nwords_any A n c xs w h hn
  have hle : nw (nv xs) ≤ n := by have := nw_nv_le h.ws; have := h.len; omega
  have hlc := h.lec
  have hcut := h.cut
  obtain ⟨m, hm⟩ : ∃ m, m = nw (nv xs) := ⟨_, rfl⟩
  rw [← hm] at hw hle
  have HW := Lib.hid hw
  have HM := Lib.hid hm
  clear hw hm
  go_enter Tryz.func111, Tryz.ntmps111
  go_wp2_with fail
  refine (HW.out _ h).mono ?_
  rintro e w1 ⟨rfl, hw1⟩
  subst hw1
  go_wp2_with fail
  refine (HW.out _ h).mono ?_
  rintro e w1 ⟨rfl, hw1⟩
  subst hw1
  cases A with
  | none =>
    have hn0 : n = 0 := by
      rcases Nat.eq_zero_or_pos n with e | e
      · exact e
      · obtain ⟨ad, e', _⟩ := h.2.2.2.2 e; cases e'
    have hm0 : m = 0 := by omega
    have HH := Lib.hid hcut
    clear hcut h
    go_wp2
    go_ret
    exact ⟨none, 0, 0, rfl, by have h1 := HH.out; rw [← HM.out, hm0] at h1; exact h1, Ext.refl w⟩
  | some ad =>
    have HH := Lib.hid hcut
    clear hcut h
    go_wp2
    go_ret
    exact ⟨some ad, m, m, rfl, by have h1 := HH.out; rw [← HM.out] at h1; exact h1, Ext.refl w⟩

set_option maxHeartbeats 1000000 in
theorem nsmall_any (n : Nat) (w : World) (h1 : n < 18446744073709551616) :
    Calls Tryz.prog 88 #[.int .u64 (n : Int)] w (RetW n w) := by
  have hmod : (n : Int) % 4294967296 = ((n % 4294967296 : Nat) : Int) := by omega
  have hdiv : (n : Int) / 4294967296 = ((n / 4294967296 : Nat) : Int) := by omega
  have hdm : ((n / 4294967296 : Nat) : Int) % 4294967296 = ((n / 4294967296 : Nat) : Int) := by omega
  have H2 := Lib.hid hmod
  have H3 := Lib.hid hdiv
  have H4 := Lib.hid hdm
  clear hmod hdiv hdm
  go_enter Tryz.func88, Tryz.ntmps88
  go_wp2_with fail
  rw [H2.out, H3.out]
  try rw [H4.out]
  have hW : Wds (w.alloc (Obj.cells #[Value.int IntKind.u32 ((n % 4294967296 : Nat) : Int), Value.int IntKind.u32 ((n / 4294967296 : Nat) : Int)] 65)) (some ⟨w.heap.size, 0, none⟩) 2 2 [n % 4294967296, n / 4294967296] := by
    refine ⟨rfl, Nat.le_refl _, by unfold maxLen; omega, Ws.cons (by omega) (Ws.cons (by omega) Ws.nil), fun _ => ⟨_, rfl, by simp, fun k x hk => ?_⟩⟩
    match k, hk with
    | 0, hk => simp at hk; subst hk; simp [World.cell?_alloc_new, Addr.add]
    | 1, hk => simp at hk; subst hk; simp [World.cell?_alloc_new, Addr.add]
    | k + 2, hk => simp at hk
  refine (ncut_any _ _ _ _ _ hW (by omega)).mono ?_
  rintro e w1 ⟨A, m, c, rfl, hR, hb⟩
  rw [two_words n (by omega)] at hR
  go_wp2
  go_ret
  exact ⟨A, m, c, rfl, hR, ((Ext.refl w).alloc _).trans hb⟩
end Go.Proofs.YtadijoeeaineaaaGreatDoor

/-
  The contracts of the program's own naturals, second part: Cmp. Conditions: those that each theorem names.
-/
namespace Go.Proofs.YtadijoeeaineaaaGreatDoor
open Go.RowKit Nm
set_option maxRecDepth 100000
set_option linter.unusedVariables false
set_option linter.unusedSimpArgs false

set_option maxHeartbeats 1000000 in
theorem ncmp_any (A : Option Addr) (n c : Nat) (xs : List Nat) (B : Option Addr) (m d : Nat) (ys : List Nat) (w : World) (h : Wds w A n c xs) (hn : n ≤ 35184372088832) (k : Wds w B m d ys) (hm : m ≤ 35184372088832) :
    Calls Tryz.prog 138 #[.slice A n c, .slice B m d] w fun e w' => e = .returned (.int .i64 (cmpN (nv xs) (nv ys))) ∧ ∃ q, w' = w.drewN q := by
  have hxl : nw (nv xs) ≤ xs.length := nw_nv_le h.ws
  have hyl : nw (nv ys) ≤ ys.length := nw_nv_le k.ws
  have hlx := h.len
  have hly := k.len
  rcases Nat.lt_trichotomy (nw (nv xs)) (nw (nv ys)) with hlt | heq | hgt
  · go_enter Tryz.func138, Tryz.ntmps138
    go_wp2_with (first | (go_at_call 131; ((with_reducible refine (nwords_any A _ _ _ _ h hn).mono ?_); rintro e w' ⟨rfl, rfl⟩)) | (go_at_call 131; ((with_reducible refine (nwords_any B _ _ _ _ k hm).mono ?_); rintro e w' ⟨rfl, rfl⟩)))
    go_ret
    exact ⟨ret_int (cmpN_lt (lt_of_nw hlt)).symm, 0, rfl⟩
  · have HS := Lib.hid heq
    have hle : nw (nv xs) ≤ nw (nv ys) := by omega
    have hge : nw (nv ys) ≤ nw (nv xs) := by omega
    clear heq
    go_enter Tryz.func138, Tryz.ntmps138
    go_wp2_with (first | (go_at_call 131; ((with_reducible refine (nwords_any A _ _ _ _ h hn).mono ?_); rintro e w' ⟨rfl, rfl⟩)) | (go_at_call 131; ((with_reducible refine (nwords_any B _ _ _ _ k hm).mono ?_); rintro e w' ⟨rfl, rfl⟩)))
    go_loopw [21] (fun i wr => ∃ t : Nat, t ≤ nw (nv xs) ∧ i = .int .i64 ((nw (nv xs) - t : Nat) : Int) ∧ Same xs ys (nw (nv xs)) t ∧ ∃ q, wr = w.drewN q) (fun i _ => nw (nv xs) - (intOf i).toNat)
    case atStart => exact ⟨_, Nat.le_refl _, by simp, fun j a b c => by rw [List.length_take] at a; omega, 0, rfl⟩
    case round =>
      obtain ⟨t, ht, rfl, hs, q, rfl⟩ := hrel
      by_cases h0 : t = 0
      · subst h0
        have hfin := Lib.hid (hs.all h.ws k.ws HS.out)
        clear hs
        go_wp2
        go_ret
        exact ⟨ret_int (cmpN_eq hfin.out).symm, q, rfl⟩
      · obtain ⟨ad, hx, rfl, hb, hc⟩ := h.at_ (k := t - 1) (by omega)
        obtain ⟨bd, hy, rfl, hb', hc'⟩ := k.at_ (k := t - 1) (by omega)
        have hs' := hs
        rw [show t = t - 1 + 1 by omega] at hs'
        have hax := Lib.hid (fun hh => Same.lt h.ws k.ws HS.out (show t - 1 < nw (nv xs) by omega) hx hy hs' hh)
        have hay := Lib.hid (fun hh => Same.lt k.ws h.ws HS.out.symm (show t - 1 < nw (nv ys) by omega) hy hx (by rw [← HS.out]; exact hs'.symm) hh)
        have hae := Lib.hid (fun hh => hs'.step hx hy hh)
        clear hs hs'
        have hpos : 0 < t := by omega
        have b0 : (nw (nv xs) : Int) - 1 - ((nw (nv xs) - t : Nat) : Int) = ((t - 1 : Nat) : Int) := by omega
        have b4 : (nw (nv xs) : Int) - 1 = ((nw (nv xs) - 1 : Nat) : Int) := by omega
        have b5 : ((nw (nv xs) - 1 : Nat) : Int) - ((nw (nv xs) - t : Nat) : Int) = ((t - 1 : Nat) : Int) := by omega
        have b1 : (0 : Int) ≤ ((t - 1 : Nat) : Int) := by omega
        have b2 : ((t - 1 : Nat) : Int) < (n : Int) := by omega
        have b3 : ((t - 1 : Nat) : Int) < (m : Int) := by omega
        generalize hX : xs[t - 1] = X at *
        generalize hY : ys[t - 1] = Y at *
        have HX := Lib.hid hX
        have HY := Lib.hid hY
        clear hX hY
        rcases Nat.lt_trichotomy X Y with hlt | he | hgt
        · go_wp2
          go_quiet (fail)
          go_wp2
          go_ret
          exact ⟨ret_int (cmpN_lt (hax.out hlt)).symm, by (try simp only [World.drewN_drewN]); exact ⟨_, rfl⟩⟩
        · have hng : ¬ X < Y := by omega
          have hng' : ¬ Y < X := by omega
          have HE := Lib.hid he
          clear he
          go_wp2
          go_quiet (fail)
          go_wp2
          go_roundw
          case rel => exact ⟨t - 1, by omega, val_int (by omega), hae.out HE.out, by (try simp only [World.drewN_drewN]); exact ⟨_, rfl⟩⟩
          case measure => simp [intOf]; omega
        · have hng : ¬ X < Y := by omega
          go_wp2
          go_quiet (fail)
          go_wp2
          go_ret
          exact ⟨ret_int (cmpN_gt (hay.out hgt)).symm, by (try simp only [World.drewN_drewN]); exact ⟨_, rfl⟩⟩
  · go_enter Tryz.func138, Tryz.ntmps138
    go_wp2_with (first | (go_at_call 131; ((with_reducible refine (nwords_any A _ _ _ _ h hn).mono ?_); rintro e w' ⟨rfl, rfl⟩)) | (go_at_call 131; ((with_reducible refine (nwords_any B _ _ _ _ k hm).mono ?_); rintro e w' ⟨rfl, rfl⟩)))
    go_ret
    exact ⟨ret_int (cmpN_gt (lt_of_nw hgt)).symm, 0, rfl⟩
end Go.Proofs.YtadijoeeaineaaaGreatDoor

/-
  The contracts of the program's own naturals, third part: the length of a word, Len. Conditions: those that each theorem names.
-/
namespace Go.Proofs.YtadijoeeaineaaaGreatDoor
open Go.RowKit Nm
set_option maxRecDepth 100000
set_option linter.unusedVariables false
set_option linter.unusedSimpArgs false

set_option maxHeartbeats 1000000 in
theorem len32_small (x : Nat) (w : World) (h : x < 256) :
    Calls Tryz.prog 133 #[.int .u32 (x : Int)] w fun e w' => e = .returned (.int .i64 (bl x : Int)) ∧ w = w' := by
  have g1 : decide ((65536 : Int) ≤ (x : Int)) = false := decide_eq_false (by omega)
  have g2 : decide ((256 : Int) ≤ (x : Int)) = false := decide_eq_false (by omega)
  have g3 : (x : Int) % 256 = (x : Int) := by omega
  go_enter Tryz.func133, Tryz.ntmps133
  go_wp2
  go_ret
  refine ⟨ret_int ?_, rfl⟩
  clear g1 g2 g3
  rename_i h2
  have h3 : x < 256 := h
  clear h
  revert h2
  revert h3
  revert x
  decide +kernel

theorem bl_shift (k x : Nat) (h : 2 ^ k ≤ x) : bl x = k + bl (x / 2 ^ k) := by
  have hp : 0 < 2 ^ k := Nat.two_pow_pos k
  apply Nat.le_antisymm
  · rw [bl_le_iff, Nat.pow_add, Nat.mul_comm]
    exact (Nat.div_lt_iff_lt_mul hp).1 ((bl_le_iff _ _).1 (Nat.le_refl _))
  · have hx := (bl_le_iff x (bl x)).1 (Nat.le_refl _)
    have hk : k ≤ bl x := by
      rcases Nat.lt_or_ge (bl x) k with e | e
      · have := Nat.pow_le_pow_right (n := 2) (by omega) (Nat.le_of_lt e); omega
      · exact e
    have : bl (x / 2 ^ k) ≤ bl x - k := by
      rw [bl_le_iff, Nat.div_lt_iff_lt_mul hp, ← Nat.pow_add, Nat.sub_add_cancel hk]
      exact hx
    omega


set_option maxHeartbeats 1000000 in
theorem len32_big (x : Nat) (w : World) (h : x < 4294967296) (c1 : 65536 ≤ x) :
    Calls Tryz.prog 133 #[.int .u32 (x : Int)] w fun e w' => e = .returned (.int .i64 (bl x : Int)) ∧ w = w' := by
  have g1 : decide ((65536 : Int) ≤ (x : Int)) = true := decide_eq_true (by omega)
  have hb := bl_shift 16 x (by omega)
  rw [show 2 ^ 16 = 65536 from rfl] at hb
  have HB := Lib.hid hb
  have HX := Lib.hid h
  clear h c1 hb
  go_enter Tryz.func133, Tryz.ntmps133
  go_wp2
  all_goals
    go_ret
    refine ⟨ret_int ?_, rfl⟩
  · have hy : x / 65536 / 256 < 256 := by have := HX.out; omega
    have hb2 := bl_shift 8 (x / 65536) (by omega)
    rw [show 2 ^ 8 = 256 from rfl] at hb2
    rw [HB.out, hb2, ← getElem!_pos]
    clear HB HX g1 hb2
    rename_i h1 h2
    clear h1 h2
    rw [Nat.mod_eq_of_lt hy]
    revert hy
    generalize x / 65536 / 256 = y
    revert y
    decide +kernel
  · have hy : x / 65536 < 256 := by omega
    rw [HB.out, ← getElem!_pos]
    clear HB HX g1
    rename_i h1 h2
    clear h1 h2
    revert hy
    generalize x / 65536 = y
    revert y
    decide +kernel

set_option maxHeartbeats 1000000 in
theorem len32_mid (x : Nat) (w : World) (c1 : x < 65536) (c2 : 256 ≤ x) :
    Calls Tryz.prog 133 #[.int .u32 (x : Int)] w fun e w' => e = .returned (.int .i64 (bl x : Int)) ∧ w = w' := by
  have g1 : decide ((65536 : Int) ≤ (x : Int)) = false := decide_eq_false (by omega)
  have g2 : decide ((256 : Int) ≤ (x : Int)) = true := decide_eq_true (by omega)
  have hb := bl_shift 8 x (by omega)
  rw [show 2 ^ 8 = 256 from rfl] at hb
  have HB := Lib.hid hb
  have HX := Lib.hid c1
  clear c1 c2 hb
  go_enter Tryz.func133, Tryz.ntmps133
  go_wp2
  go_ret
  refine ⟨ret_int ?_, rfl⟩
  have hy : x / 256 < 256 := by have := HX.out; omega
  rw [HB.out, ← getElem!_pos, Nat.mod_eq_of_lt hy]
  clear HB HX g1 g2
  rename_i h1
  clear h1
  revert hy
  generalize x / 256 = y
  revert y
  decide +kernel
theorem len32_any (x : Nat) (w : World) (h : x < 4294967296) :
    Calls Tryz.prog 133 #[.int .u32 (x : Int)] w fun e w' => e = .returned (.int .i64 (bl x : Int)) ∧ w = w' := by
  by_cases c1 : 65536 ≤ x
  · exact len32_big x w h c1
  · by_cases c2 : 256 ≤ x
    · exact len32_mid x w (by omega) c2
    · exact len32_small x w (by omega)
end Go.Proofs.YtadijoeeaineaaaGreatDoor

/-
  The contracts of the program's own naturals, fourth part: Len. Conditions: those that each theorem names.
-/
namespace Go.Proofs.YtadijoeeaineaaaGreatDoor
open Go.RowKit Nm
set_option maxRecDepth 100000
set_option linter.unusedVariables false
set_option linter.unusedSimpArgs false

set_option maxHeartbeats 1000000 in
theorem nlen_any (A : Option Addr) (n c : Nat) (xs : List Nat) (w : World) (h : Wds w A n c xs) (hn : n ≤ 35184372088832) :
    Calls Tryz.prog 110 #[.slice A n c] w fun e w' => e = .returned (.int .i64 (bl (nv xs) : Int)) ∧ w = w' := by
  have hxl : nw (nv xs) ≤ xs.length := nw_nv_le h.ws
  have hlen := h.len
  by_cases h0 : nv xs = 0
  · have hz : nw (nv xs) ≤ 0 := by rw [h0, nw_zero]; omega
    have hf : (0 : Int) = (bl (nv xs) : Int) := by rw [h0]; rfl
    have HF := Lib.hid hf
    clear hf h0
    go_enter Tryz.func110, Tryz.ntmps110
    go_wp2_with (go_at_call 131; refine (nwords_any _ _ _ _ _ h hn).mono ?_; rintro e w' ⟨rfl, rfl⟩)
    go_ret
    exact ⟨ret_int HF.out, rfl⟩
  · obtain ⟨hk, ht, htop⟩ := top_word h.ws h0
    have hnp : 0 < nw (nv xs) := by
      rcases Nat.eq_zero_or_pos (nw (nv xs)) with e | e
      · exact absurd (nw_eq_zero.1 e) h0
      · exact e
    clear h0
    obtain ⟨ad, hx, rfl, hb, hc⟩ := h.at_ (k := nw (nv xs) - 1) (by omega)
    have hX := h.ws.get hx
    have HT := Lib.hid htop
    clear htop
    generalize hXe : xs[nw (nv xs) - 1] = X at *
    have HX := Lib.hid hXe
    clear hXe
    have HL := Lib.hid (fun w => len32_any X w hX)
    go_enter Tryz.func110, Tryz.ntmps110
    go_wp2_with (first | (go_at_call 131; refine (nwords_any _ _ _ _ _ h hn).mono ?_; rintro e w' ⟨rfl, rfl⟩) | (go_at_call 133; refine (HL.out _).mono ?_; rintro e w' ⟨rfl, rfl⟩))
    go_ret
    exact ⟨ret_int (by have h1 := HT.out; have h2 : bl X ≤ 32 := (bl_le_iff X 32).2 hX; unfold wrap64; omega), rfl⟩
end Go.Proofs.YtadijoeeaineaaaGreatDoor

/-
  Words for memory: a block known whole, without integers in it; a list of words beside it. Conditions: none but those that each theorem names.
-/
namespace Go.Proofs.YtadijoeeaineaaaGreatDoor
open Go.RowKit Nm
set_option linter.unusedVariables false
set_option linter.unusedSimpArgs false

/-- Block g is just the cells cs of element type t, none frozen. -/
def Blk (w : World) (g : Nat) (t : TypeId) (cs : Array Value) : Prop := w.heap[g]? = some (.cells cs t (0, 0))
/-- No cell is an integer. -/
def NoInt (cs : Array Value) : Prop := ∀ (i : Nat) (k : IntKind) (x : Int), cs[i]? ≠ some (Value.int k x)

section
variable {w w' : World} {g : Nat} {t : TypeId} {cs : Array Value}
theorem Blk.lt (h : Blk w g t cs) : g < w.heap.size := by
  rcases Nat.lt_or_ge g w.heap.size with hlt | hge
  · exact hlt
  · unfold Blk at h; rw [Array.getElem?_eq_none hge] at h; cases h
theorem Blk.cell (h : Blk w g t cs) (i : Nat) : w.cell? ⟨g, i, none⟩ = cs[i]? := cell_of_row w g i cs t (0, 0) h
theorem Blk.frozen (h : Blk w g t cs) (i : Nat) : w.frozen? ⟨g, i, none⟩ = false := by
  unfold Blk at h
  simp [World.frozen?, h]
theorem Blk.new (w : World) (t : TypeId) (cs : Array Value) : Blk (w.alloc (.cells cs t)) w.heap.size t cs := heap_alloc_new w _
theorem Blk.ext (h : Blk w g t cs) (hb : Ext w w') : Blk w' g t cs := (Below.block hb g h.lt).trans h
theorem Blk.set_ (h : Blk w g t cs) (i : Nat) (u : Value) : Blk (w.setCell ⟨g, i, none⟩ u) g t (cs.setIfInBounds i u) := by
  unfold Blk at h ⊢
  simp [World.setCell, Array.getElem?_modify, h]
theorem Blk.far (h : Blk w g t cs) {p : Addr} (hp : g ≠ p.block) (u : Value) : Blk (w.setCell p u) g t cs := (Below.heap_setCell w p u g hp).trans h
theorem NoInt.set {cs : Array Value} (h : NoInt cs) (i : Nat) {u : Value} (hu : ∀ (k : IntKind) (x : Int), u ≠ Value.int k x) : NoInt (cs.setIfInBounds i u) := by
  intro j k x hj
  rw [Array.getElem?_setIfInBounds] at hj
  split at hj
  · split at hj
    · injection hj with hj; exact hu k x hj
    · cases hj
  · exact h j k x hj
/-- A store into a block without integers leaves every list of words as it was. -/
theorem Wds.set_box {A : Option Addr} {n c : Nat} {xs : List Nat} (h : Wds w A n c xs) (hb : Blk w g t cs) (hcs : NoInt cs) (i : Nat) (u : Value) : Wds (w.setCell ⟨g, i, none⟩ u) A n c xs := by
  refine ⟨h.1, h.2.1, h.2.2.1, h.2.2.2.1, fun hn => ?_⟩
  obtain ⟨ad, e, hlt, hc⟩ := h.2.2.2.2 hn
  have hne : ad.block ≠ g := by
    intro hg
    have hx1 : 0 < xs.length := by have := h.1; omega
    have h1 := hc 0 _ (List.getElem?_eq_getElem hx1)
    have h2 : w.heap[(ad.add 0).block]? = some (.cells cs t (0, 0)) := by rw [block_of_add, hg]; exact hb
    unfold World.cell? at h1
    rw [h2] at h1
    simp only at h1
    split at h1
    · cases h1
    · exact hcs _ _ _ h1
  refine ⟨ad, e, by simpa [World.setCell] using hlt, fun k x hk => ?_⟩
  rw [← hc k x hk]
  exact World.cell?_of_block (Below.heap_setCell w ⟨g, i, none⟩ u _ (by rw [block_of_add]; exact hne))
theorem Wds.set_box3 {A : Option Addr} {n c : Nat} {xs : List Nat} (h : Wds w A n c xs) (hb : Blk w g t cs) (hcs : NoInt cs) {u0 u1 u2 : Value} (h0 : ∀ (k : IntKind) (x : Int), u0 ≠ Value.int k x) (h1 : ∀ (k : IntKind) (x : Int), u1 ≠ Value.int k x) :
    Wds (((w.setCell ⟨g, 0, none⟩ u0).setCell ⟨g, 1, none⟩ u1).setCell ⟨g, 2, none⟩ u2) A n c xs :=
  ((h.set_box hb hcs 0 u0).set_box (hb.set_ 0 u0) (hcs.set 0 h0) 1 u1).set_box ((hb.set_ 0 u0).set_ 1 u1) ((hcs.set 0 h0).set 1 h1) 2 u2
theorem Ext.set3 {w0 : World} (h : Ext w0 w) (hg : w0.heap.size ≤ g) (u0 u1 u2 : Value) : Ext w0 (((w.setCell ⟨g, 0, none⟩ u0).setCell ⟨g, 1, none⟩ u1).setCell ⟨g, 2, none⟩ u2) :=
  ((h.setCell hg u0).setCell hg u1).setCell hg u2
end
theorem noInt3 (b : Bool) (A : Option Addr) (n c : Nat) (B : Option Addr) (m d : Nat) : NoInt #[.bool b, .slice A n c, .slice B m d] := by
  intro i k x h
  match i, h with
  | 0, h => simp at h
  | 1, h => simp at h
  | 2, h => simp at h
  | i + 3, h => simp at h

end Go.Proofs.YtadijoeeaineaaaGreatDoor
