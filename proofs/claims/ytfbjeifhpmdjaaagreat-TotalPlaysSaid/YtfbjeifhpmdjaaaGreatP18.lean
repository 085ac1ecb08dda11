/-
  Plain: what FMA answers, by its roads. Conditions: those that each theorem names.
-/
import Derived.Test.YtfbjeifhpmdjaaaGreatP06
import Derived.Test.YtfbjeifhpmdjaaaGreatP17
import Derived.Test.YtfbjeifhpmdjaaaGreatP16
import Derived.Test.YtfbjeifhpmdjaaaGreatP08
import Derived.BigQuiet
import Derived.Test.YtfbjeifhpmdjaaaGreatP07
import Derived.Laws.CopyOwn
set_option linter.unusedVariables false
set_option linter.unusedSimpArgs false
namespace Go.Proofs.YtfbjeifhpmdjaaaGreat.Rn
open Nm

def oddP (b : Nat) : Bool := isNaN b || isInf b
/-- What FMA answers. -/
def fmaR (d : Int) (x y z : Nat) : Nat :=
  if oddP x || oddP y then addR d (mulR d x y) z
  else if oddP z then cn z
  else rT d (sv x * sv y + sv z * (K74 : Int))

theorem add_nan {x y : Nat} (hx : x < 18446744073709551616) (h : isNaN x = true) : Ieee.double.add x y = none := by
  unfold Ieee.Format.add
  rw [read_nan hx ((isNaN_iff x).1 h)]
  rfl
theorem addR_nan (d : Int) {x y : Nat} (h : isNaN x = true) : addR d x y = NaNc := by
  unfold addR; rw [h]; rfl
theorem NaNc_nan : isNaN NaNc = true := rfl

theorem cast_swap (q K C : Nat) : (q : Int) * ((K * C : Nat) : Int) = ((K * q : Nat) : Int) * (C : Int) := by
  rw [← Int.natCast_mul, ← Int.natCast_mul, Nat.mul_left_comm, Nat.mul_assoc]
/-- A number's size times 2^-55, where the number is at least 2^-900: exactly. -/
theorem mul_55 {s : Nat} (hs : s < 18446744073709551616) (hf : mg s < infR) (h : Ks ≤ (sv s).natAbs) : ∃ m q : Nat, Ieee.double.mul (mg s) 4359484439294640128 = some m ∧ Fl m (q : Int) ∧ q * 36028797018963968 = (sv s).natAbs := by
  have hS := sv_abs s
  obtain ⟨c, hc⟩ : ∃ c : Nat, c = 1019 := ⟨_, rfl⟩
  have F0 : Fl (mg s) ((rv (mg s) : Nat) : Int) := by
    have hm : mg (mg s) = mg s := by unfold mg; omega
    have := Fl.of (b := mg s) (by have := mg_lt s; omega) (by rw [hm]; exact hf)
    have e : sv (mg s) = ((rv (mg s) : Nat) : Int) := by
      unfold sv
      rw [hm, show sg (mg s) = false by unfold sg; exact decide_eq_false (by have := mg_lt s; omega)]
      simp
    rwa [e] at this
  have F1 : Fl 4359484439294640128 ((2 ^ c : Nat) : Int) := by
    have hm : mg 4359484439294640128 = 4359484439294640128 := rfl
    have := Fl.of (b := 4359484439294640128) (by omega) (by rw [hm, infR_val]; omega)
    have e : sv 4359484439294640128 = ((2 ^ c : Nat) : Int) := by
      unfold sv
      rw [hm, show sg 4359484439294640128 = false from rfl]
      have h2 := rv_form (c - 52) 4503599627370496 (by omega) (fun _ => by omega)
      rw [show (c - 52) * 4503599627370496 + 4503599627370496 = 4359484439294640128 by omega] at h2
      rw [h2]
      have h3 : 4503599627370496 * 2 ^ (c - 52) = 2 ^ c := by
        rw [show c = 52 + (c - 52) by omega, Nat.pow_add]
        rw [show 52 + (c - 52) - 52 = c - 52 by omega]
      rw [h3]
      simp
    rwa [e] at this
  have hex : 55 ≤ ex Ks := by
    have : 54 < ex Ks := by
      refine ex_gt ?_
      obtain ⟨k, hk⟩ : ∃ k : Nat, k = 67 := ⟨_, rfl⟩
      rw [Ks_def, show 174 = 53 + 54 + k by omega, Nat.pow_add, Nat.pow_add]
      have := two_pow_pos k
      have e1 : (2 : Nat) ^ 53 = 9007199254740992 := by decide
      rw [e1]
      exact Nat.le_mul_of_pos_right _ this
    omega
  have hdv : 36028797018963968 ∣ rv (mg s) := by
    have h1 := F0.rp.dv (P := Ks) (by rw [Int.natAbs_natCast, ← hS]; exact h)
    have h2 := h1.mono hex
    unfold Dv at h2
    rwa [Int.natAbs_natCast] at h2
  obtain ⟨q, hq⟩ := hdv
  have hRq : RpZ (q : Int) := by
    have h1 := F0.rp
    unfold RpZ at h1 ⊢
    rw [Int.natAbs_natCast] at h1 ⊢
    have h2 := h1.dvd
    rw [hq] at h2
    obtain ⟨k, hk⟩ : ∃ k, ex (36028797018963968 * q) = 55 + k := by
      have h3 := ex_mono (P := Ks) (Q := 36028797018963968 * q) (by rw [← hq, ← hS]; exact h)
      exact ⟨ex (36028797018963968 * q) - 55, by omega⟩
    have h4 := ex_hi (36028797018963968 * q)
    rw [hk, Nat.pow_add, show (2 : Nat) ^ 55 = 36028797018963968 by decide] at h2 h4
    have h5 : 2 ^ k ∣ q := Nat.dvd_of_mul_dvd_mul_left (by omega) h2
    refine Rp.of_dvd h5 (Nat.le_of_lt ?_)
    rw [Nat.mul_left_comm] at h4
    exact Nat.lt_of_mul_lt_mul_left h4
  have hle : q ≤ rv (mg s) := by omega
  obtain ⟨m, hm, fm⟩ := F0.mul F1 (q := (q : Int)) (by
    have e0 : 2 ^ 1074 = 36028797018963968 * 2 ^ c := by
      rw [show (1074 : Nat) = 55 + c by omega, Nat.pow_add]
    have e : ((2 ^ 1074 : Nat) : Int) = ((36028797018963968 * 2 ^ c : Nat) : Int) := congrArg Int.ofNat e0
    rw [hq, e]
    generalize 2 ^ c = C
    exact cast_swap q 36028797018963968 C) (by
    rw [Int.natAbs_natCast]
    have h1 := nr_mono hle
    rw [nr_rv] at h1
    omega)
  rw [rn_of hRq] at fm
  exact ⟨m, q, hm, fm, by rw [hS, hq, Nat.mul_comm]⟩
end Go.Proofs.YtfbjeifhpmdjaaaGreat.Rn

/-
  Plain: what a sum has taken, and what its calls make of it. Conditions: those that each theorem names.
-/
namespace Go.Proofs.YtfbjeifhpmdjaaaGreat
open Nm Rn
set_option linter.unusedVariables false
set_option linter.unusedSimpArgs false

/-- What a sum has taken: its number, a whole number of 2^-2148; infinities, none; its terms. -/
structure Sm where
  T : Int
  p : Bool
  m : Bool
  n : Bool
  t : Nat
def Sm.cs (S : Sm) : List Value := sc (sw S.T) S.p S.m S.n S.t
def Sm.nil : Sm := ⟨0, false, false, false, 0⟩
def Sm.more (S : Sm) (k : Nat) : Sm := ⟨S.T, S.p, S.m, cntN S.n S.t k, cnt S.t k⟩
def Sm.lay (S : Sm) (X : Int) : Sm := ⟨S.T + X, S.p, S.m, S.n, S.t⟩
def Sm.add (S : Sm) (x : Nat) : Sm :=
  if isNaN x then ⟨S.T, S.p, S.m, true, cnt S.t 1⟩
  else if isInf x then (if sg x then ⟨S.T, S.p, true, cntN S.n S.t 1, cnt S.t 1⟩ else ⟨S.T, true, S.m, cntN S.n S.t 1, cnt S.t 1⟩)
  else (S.more 1).lay (sv x * (K74 : Int))
def Sm.mul (S : Sm) (x y : Nat) : Sm := if oddP x || oddP y then S.add (mulR 0 x y) else (S.more 1).lay (sv x * sv y)
def Sm.merge (S O : Sm) : Sm := ⟨S.T + O.T, S.p || O.p, S.m || O.m, cntN S.n S.t O.t || O.n, cnt S.t O.t⟩
def Sm.neg (S : Sm) : Sm := ⟨-S.T, S.m, S.p, S.n, S.t⟩
def Sm.state (S : Sm) : Int := stt S.p S.m S.n

theorem Sm.add_nan {S : Sm} {x y : Nat} (hx : isNaN x = true) (hy : isNaN y = true) : S.add x = S.add y := by unfold Sm.add; rw [hx, hy, if_pos rfl, if_pos rfl]
theorem Sm.add_t (S : Sm) (x : Nat) : (S.add x).t = cnt S.t 1 := by
  unfold Sm.add
  split
  · rfl
  · split
    · split <;> rfl
    · rfl
theorem Sm.mul_t (S : Sm) (x y : Nat) : (S.mul x y).t = cnt S.t 1 := by
  unfold Sm.mul
  split
  · exact Sm.add_t _ _
  · rfl

/-- Every cell is one. -/
theorem sc_one (ws : List Nat) (p m n : Bool) (t : Nat) : (sc ws p m n t).all Value.oneCell' = true := by
  rw [sc, List.all_append]
  have : (u64s ws).all Value.oneCell' = true := by
    induction ws with
    | nil => rfl
    | cons x xs ih => simp [u64s, Value.oneCell']
  rw [this]
  rfl
theorem spl_eq : ∀ (vs : List Value) (pre cs : List Value), cs.length = vs.length → spl (pre ++ cs) pre.length vs = pre ++ vs
  | [], pre, cs, h => by
    have : cs = [] := List.length_eq_zero_iff.1 (by simpa using h)
    rw [this]; rfl
  | v :: vs, pre, [], h => by simp at h
  | v :: vs, pre, c :: cs, h => by
    have e : (pre ++ c :: cs).set pre.length v = (pre ++ [v]) ++ cs := by
      rw [List.set_append_right _ _ (Nat.le_refl _), Nat.sub_self]
      simp
    rw [spl, e, show pre.length + 1 = (pre ++ [v]).length by simp, spl_eq vs (pre ++ [v]) cs (by simpa using h)]
    simp
/-- A box is written whole. -/
theorem spl_all {cs vs : List Value} (h : cs.length = vs.length) : spl cs 0 vs = vs := spl_eq vs [] cs h

/-- The place of a number's lowest bit. -/
theorem at_one (x : Nat) : ∃ i k : Nat, fbExp x + 2148 = ((64 * i + k : Nat) : Int) ∧ k < 64 ∧ i ≤ 63 := by
  have h1 := fbExp_lo x
  have h2 := fbExp_hi x
  exact ⟨(fbExp x + 2148).toNat / 64, (fbExp x + 2148).toNat % 64, by omega, by omega, by omega⟩
theorem at_two (x y : Nat) : ∃ i k : Nat, fbExp x + fbExp y + 2148 = ((64 * i + k : Nat) : Int) ∧ k < 64 ∧ i ≤ 63 := by
  have h1 := fbExp_lo x
  have h2 := fbExp_hi x
  have h3 := fbExp_lo y
  have h4 := fbExp_hi y
  exact ⟨(fbExp x + fbExp y + 2148).toNat / 64, (fbExp x + fbExp y + 2148).toNat % 64, by omega, by omega, by omega⟩
theorem lay_one {x i k : Nat} (h : fbExp x + 2148 = ((64 * i + k : Nat) : Int)) : sn (sg x) ((0 * 18446744073709551616 + fbSig x) * 2 ^ (64 * i + k)) = sv x * (K74 : Int) := by
  rw [← part_un]
  unfold un
  rw [Nat.zero_mul, Nat.zero_add, sn_mul, show (fbExp x + 2148).toNat = 64 * i + k by omega]
theorem lay_two {x y i k : Nat} (h : fbExp x + fbExp y + 2148 = ((64 * i + k : Nat) : Int)) : sn (sg x != sg y) ((fbSig x * fbSig y / 18446744073709551616 * 18446744073709551616 + fbSig x * fbSig y % 18446744073709551616) * 2 ^ (64 * i + k)) = sv x * sv y := by
  have h1 := fbExp_lo x
  have h3 := fbExp_lo y
  rw [← part_mul, sn_mul, Nat.div_add_mod', show (fbExp x + 1074).toNat + (fbExp y + 1074).toNat = 64 * i + k by omega]
end Go.Proofs.YtfbjeifhpmdjaaaGreat

/-
  The contracts of the program's own naturals, first part: words, cut, Small. Conditions: those that each theorem names.
-/
namespace Go.Proofs.YtfbjeifhpmdjaaaGreat
open Go.RowKit Nm
set_option maxRecDepth 100000
set_option linter.unusedVariables false
set_option linter.unusedSimpArgs false

set_option maxHeartbeats 400000 in
theorem nwords_any (A : Option Addr) (n c : Nat) (xs : List Nat) (w : World) (h : Wds w A n c xs) (hn : n ≤ 35184372088832) :
    Calls Tryz.prog 96 #[.slice A n c] w fun e w' => e = .returned (.int .i64 (nw (nv xs) : Int)) ∧ w = w' := by
  have hlen := h.len
  go_enter Tryz.func96, Tryz.ntmps96
  go_wp2
  go_loop [3] (fun i => ∃ k : Nat, k ≤ n ∧ i = .int .i64 k ∧ ∀ j, (hj : j < xs.length) → k ≤ j → xs[j] = 0) (fun i => (intOf i).toNat)
  case atStart => exact ⟨n, Nat.le_refl _, rfl, fun j hj hk => by omega⟩
  case round =>
    obtain ⟨k, hk, rfl, hz⟩ := hrel
    have HZ := Lib.hid hz
    clear hz
    by_cases h0 : k = 0
    · subst h0
      go_wp2
      go_ret
      exact ⟨ret_int (by rw [(take_trim h.ws (Nat.zero_le _) HZ.out (fun k hk e => by omega)).2.1]; rfl), rfl⟩
    · obtain ⟨ad, hx, rfl, hb, hc⟩ := h.at_ (k := k - 1) (by omega)
      by_cases hx0 : xs[k - 1] = 0
      · go_wp2
        go_round
        case rel => exact ⟨k - 1, by omega, by go_num, fun j hj hkj => by
          by_cases e : j = k - 1
          · subst e; exact hx0
          · exact HZ.out j hj (by omega)⟩
        case measure => simp [intOf]; omega
      · go_wp2
        go_ret
        exact ⟨ret_int (by rw [(take_trim h.ws (by omega) HZ.out (fun j hj e => by
          have e : j = k - 1 := by omega
          subst e; exact hx0)).2.1]), rfl⟩


theorem nd_take {xs : List Nat} (h : Ws xs) : nd (nv xs) = xs.take (nw (nv xs)) := by
  obtain ⟨n, hn, hz, ht⟩ : ∃ n, n ≤ xs.length ∧ (∀ k, (hk : k < xs.length) → n ≤ k → xs[k] = 0) ∧ (∀ k, (hk : k < xs.length) → k + 1 = n → xs[k] ≠ 0) := by
    have : ∀ m, m ≤ xs.length → (∀ k, (hk : k < xs.length) → m ≤ k → xs[k] = 0) → ∃ n, n ≤ xs.length ∧ (∀ k, (hk : k < xs.length) → n ≤ k → xs[k] = 0) ∧ (∀ k, (hk : k < xs.length) → k + 1 = n → xs[k] ≠ 0) := by
      intro m
      induction m with
      | zero => intro h1 h2; exact ⟨0, by omega, h2, fun k hk e => by omega⟩
      | succ m ih =>
        intro h1 h2
        by_cases h3 : xs[m]'(by omega) = 0
        · exact ih (by omega) (fun k hk hm => by
            by_cases e : k = m
            · subst e; exact h3
            · exact h2 k hk (by omega))
        · exact ⟨m + 1, h1, h2, fun k hk e => by
            have : k = m := by omega
            subst this; exact h3⟩
    exact this xs.length (Nat.le_refl _) (fun k hk h => by omega)
  have := take_trim h hn hz ht
  rw [this.1, this.2.1]

theorem Wds.cut {w : World} {A : Option Addr} {n c : Nat} {xs : List Nat} (h : Wds w A n c xs) : Wds w A (nw (nv xs)) (nw (nv xs)) (nd (nv xs)) := by
  have hle : nw (nv xs) ≤ n := by have := nw_nv_le h.ws; have := h.len; omega
  have hc1 := h.lec
  have hc2 := h.cmax
  refine ⟨nd_length _, Nat.le_refl _, by omega, Ws.nd _, fun h0 => ?_⟩
  obtain ⟨ad, e, hlt, hc⟩ := h.2.2.2.2 (by omega)
  refine ⟨ad, e, hlt, fun k x hk => hc k x ?_⟩
  rw [nd_take h.ws, List.getElem?_take] at hk
  split at hk
  · exact hk
  · cases hk

set_option maxHeartbeats 1000000 in
theorem ncut_any (A : Option Addr) (n c : Nat) (xs : List Nat) (w : World) (h : Wds w A n c xs) (hn : n ≤ 35184372088832) :
    Calls Tryz.prog 95 #[.slice A n c] w (RetW (nv xs) w) := by
  have hw := fun w (h : Wds w A n c xs) => nwords_any A n c xs w h hn
  have hle : nw (nv xs) ≤ n := by have := nw_nv_le h.ws; have := h.len; omega
  have hlc := h.lec
  have hcut := h.cut
  obtain ⟨m, hm⟩ : ∃ m, m = nw (nv xs) := ⟨_, rfl⟩
  rw [← hm] at hw hle
  have HW := Lib.hid hw
  have HM := Lib.hid hm
  clear hw hm
  go_enter Tryz.func95, Tryz.ntmps95
  go_wp2_with fail
  refine (HW.out _ h).mono ?_
  rintro e w1 ⟨rfl, hw1⟩
  subst hw1
  go_wp2_with fail
  refine (HW.out _ h).mono ?_
  rintro e w1 ⟨rfl, hw1⟩
  subst hw1
  cases A with
  | none =>
    have hn0 : n = 0 := by
      rcases Nat.eq_zero_or_pos n with e | e
      · exact e
      · obtain ⟨ad, e', _⟩ := h.2.2.2.2 e; cases e'
    have hm0 : m = 0 := by omega
    have HH := Lib.hid hcut
    clear hcut h
    go_wp2
    go_ret
    exact ⟨none, 0, 0, rfl, by have h1 := HH.out; rw [← HM.out, hm0] at h1; exact h1, Ext.refl w⟩
  | some ad =>
    have HH := Lib.hid hcut
    clear hcut h
    go_wp2
    go_ret
    exact ⟨some ad, m, m, rfl, by have h1 := HH.out; rw [← HM.out] at h1; exact h1, Ext.refl w⟩

set_option maxHeartbeats 1000000 in
theorem nsmall_any (n : Nat) (w : World) (h1 : n < 18446744073709551616) :
    Calls Tryz.prog 69 #[.int .u64 (n : Int)] w (RetW n w) := by
  have hmod : (n : Int) % 4294967296 = ((n % 4294967296 : Nat) : Int) := by omega
  have hdiv : (n : Int) / 4294967296 = ((n / 4294967296 : Nat) : Int) := by omega
  have hdm : ((n / 4294967296 : Nat) : Int) % 4294967296 = ((n / 4294967296 : Nat) : Int) := by omega
  have H2 := Lib.hid hmod
  have H3 := Lib.hid hdiv
  have H4 := Lib.hid hdm
  clear hmod hdiv hdm
  go_enter Tryz.func69, Tryz.ntmps69
  go_wp2_with fail
  rw [H2.out, H3.out]
  try rw [H4.out]
  have hW : Wds (w.alloc (Obj.cells #[Value.int IntKind.u32 ((n % 4294967296 : Nat) : Int), Value.int IntKind.u32 ((n / 4294967296 : Nat) : Int)] 104)) (some ⟨w.heap.size, 0, none⟩) 2 2 [n % 4294967296, n / 4294967296] := by
    refine ⟨rfl, Nat.le_refl _, by unfold maxLen; omega, Ws.cons (by omega) (Ws.cons (by omega) Ws.nil), fun _ => ⟨_, rfl, by simp, fun k x hk => ?_⟩⟩
    match k, hk with
    | 0, hk => simp at hk; subst hk; simp [World.cell?_alloc_new, Addr.add]
    | 1, hk => simp at hk; subst hk; simp [World.cell?_alloc_new, Addr.add]
    | k + 2, hk => simp at hk
  refine (ncut_any _ _ _ _ _ hW (by omega)).mono ?_
  rintro e w1 ⟨A, m, c, rfl, hR, hb⟩
  rw [two_words n (by omega)] at hR
  go_wp2
  go_ret
  exact ⟨A, m, c, rfl, hR, ((Ext.refl w).alloc _).trans hb⟩
end Go.Proofs.YtfbjeifhpmdjaaaGreat

/-
  The contracts of the program's own naturals, second part: Cmp. Conditions: those that each theorem names.
-/
namespace Go.Proofs.YtfbjeifhpmdjaaaGreat
open Go.RowKit Nm
set_option maxRecDepth 100000
set_option linter.unusedVariables false
set_option linter.unusedSimpArgs false

set_option maxHeartbeats 1000000 in
theorem ncmp_any (A : Option Addr) (n c : Nat) (xs : List Nat) (B : Option Addr) (m d : Nat) (ys : List Nat) (w : World) (h : Wds w A n c xs) (hn : n ≤ 35184372088832) (k : Wds w B m d ys) (hm : m ≤ 35184372088832) :
    Calls Tryz.prog 100 #[.slice A n c, .slice B m d] w fun e w' => e = .returned (.int .i64 (cmpN (nv xs) (nv ys))) ∧ ∃ q, w' = w.drewN q := by
  have hxl : nw (nv xs) ≤ xs.length := nw_nv_le h.ws
  have hyl : nw (nv ys) ≤ ys.length := nw_nv_le k.ws
  have hlx := h.len
  have hly := k.len
  rcases Nat.lt_trichotomy (nw (nv xs)) (nw (nv ys)) with hlt | heq | hgt
  · go_enter Tryz.func100, Tryz.ntmps100
    go_wp2_with (first | (go_at_call 96; ((with_reducible refine (nwords_any A _ _ _ _ h hn).mono ?_); rintro e w' ⟨rfl, rfl⟩)) | (go_at_call 96; ((with_reducible refine (nwords_any B _ _ _ _ k hm).mono ?_); rintro e w' ⟨rfl, rfl⟩)))
    go_ret
    exact ⟨ret_int (cmpN_lt (lt_of_nw hlt)).symm, 0, rfl⟩
  · have HS := Lib.hid heq
    have hle : nw (nv xs) ≤ nw (nv ys) := by omega
    have hge : nw (nv ys) ≤ nw (nv xs) := by omega
    clear heq
    go_enter Tryz.func100, Tryz.ntmps100
    go_wp2_with (first | (go_at_call 96; ((with_reducible refine (nwords_any A _ _ _ _ h hn).mono ?_); rintro e w' ⟨rfl, rfl⟩)) | (go_at_call 96; ((with_reducible refine (nwords_any B _ _ _ _ k hm).mono ?_); rintro e w' ⟨rfl, rfl⟩)))
    go_loopw [21] (fun i wr => ∃ t : Nat, t ≤ nw (nv xs) ∧ i = .int .i64 ((nw (nv xs) - t : Nat) : Int) ∧ Same xs ys (nw (nv xs)) t ∧ ∃ q, wr = w.drewN q) (fun i _ => nw (nv xs) - (intOf i).toNat)
    case atStart => exact ⟨_, Nat.le_refl _, by simp, fun j a b c => by rw [List.length_take] at a; omega, 0, rfl⟩
    case round =>
      obtain ⟨t, ht, rfl, hs, q, rfl⟩ := hrel
      by_cases h0 : t = 0
      · subst h0
        have hfin := Lib.hid (hs.all h.ws k.ws HS.out)
        clear hs
        go_wp2
        go_ret
        exact ⟨ret_int (cmpN_eq hfin.out).symm, q, rfl⟩
      · obtain ⟨ad, hx, rfl, hb, hc⟩ := h.at_ (k := t - 1) (by omega)
        obtain ⟨bd, hy, rfl, hb', hc'⟩ := k.at_ (k := t - 1) (by omega)
        have hs' := hs
        rw [show t = t - 1 + 1 by omega] at hs'
        have hax := Lib.hid (fun hh => Same.lt h.ws k.ws HS.out (show t - 1 < nw (nv xs) by omega) hx hy hs' hh)
        have hay := Lib.hid (fun hh => Same.lt k.ws h.ws HS.out.symm (show t - 1 < nw (nv ys) by omega) hy hx (by rw [← HS.out]; exact hs'.symm) hh)
        have hae := Lib.hid (fun hh => hs'.step hx hy hh)
        clear hs hs'
        have hpos : 0 < t := by omega
        have b0 : (nw (nv xs) : Int) - 1 - ((nw (nv xs) - t : Nat) : Int) = ((t - 1 : Nat) : Int) := by omega
        have b4 : (nw (nv xs) : Int) - 1 = ((nw (nv xs) - 1 : Nat) : Int) := by omega
        have b5 : ((nw (nv xs) - 1 : Nat) : Int) - ((nw (nv xs) - t : Nat) : Int) = ((t - 1 : Nat) : Int) := by omega
        have b1 : (0 : Int) ≤ ((t - 1 : Nat) : Int) := by omega
        have b2 : ((t - 1 : Nat) : Int) < (n : Int) := by omega
        have b3 : ((t - 1 : Nat) : Int) < (m : Int) := by omega
        generalize hX : xs[t - 1] = X at *
        generalize hY : ys[t - 1] = Y at *
        have HX := Lib.hid hX
        have HY := Lib.hid hY
        clear hX hY
        rcases Nat.lt_trichotomy X Y with hlt | he | hgt
        · go_wp2
          go_quiet (fail)
          go_wp2
          go_ret
          exact ⟨ret_int (cmpN_lt (hax.out hlt)).symm, by (try simp only [World.drewN_drewN]); exact ⟨_, rfl⟩⟩
        · have hng : ¬ X < Y := by omega
          have hng' : ¬ Y < X := by omega
          have HE := Lib.hid he
          clear he
          go_wp2
          go_quiet (fail)
          go_wp2
          go_roundw
          case rel => exact ⟨t - 1, by omega, val_int (by omega), hae.out HE.out, by (try simp only [World.drewN_drewN]); exact ⟨_, rfl⟩⟩
          case measure => simp [intOf]; omega
        · have hng : ¬ X < Y := by omega
          go_wp2
          go_quiet (fail)
          go_wp2
          go_ret
          exact ⟨ret_int (cmpN_gt (hay.out hgt)).symm, by (try simp only [World.drewN_drewN]); exact ⟨_, rfl⟩⟩
  · go_enter Tryz.func100, Tryz.ntmps100
    go_wp2_with (first | (go_at_call 96; ((with_reducible refine (nwords_any A _ _ _ _ h hn).mono ?_); rintro e w' ⟨rfl, rfl⟩)) | (go_at_call 96; ((with_reducible refine (nwords_any B _ _ _ _ k hm).mono ?_); rintro e w' ⟨rfl, rfl⟩)))
    go_ret
    exact ⟨ret_int (cmpN_gt (lt_of_nw hgt)).symm, 0, rfl⟩
end Go.Proofs.YtfbjeifhpmdjaaaGreat

/-
  The contracts of the program's own naturals, third part: the length of a word, Len. Conditions: those that each theorem names.
-/
namespace Go.Proofs.YtfbjeifhpmdjaaaGreat
open Go.RowKit Nm
set_option maxRecDepth 100000
set_option linter.unusedVariables false
set_option linter.unusedSimpArgs false

set_option maxHeartbeats 1000000 in
theorem len32_small (x : Nat) (w : World) (h : x < 256) :
    Calls Tryz.prog 114 #[.int .u32 (x : Int)] w fun e w' => e = .returned (.int .i64 (bl x : Int)) ∧ w = w' := by
  have g1 : decide ((65536 : Int) ≤ (x : Int)) = false := decide_eq_false (by omega)
  have g2 : decide ((256 : Int) ≤ (x : Int)) = false := decide_eq_false (by omega)
  have g3 : (x : Int) % 256 = (x : Int) := by omega
  go_enter Tryz.func114, Tryz.ntmps114
  go_wp2
  go_ret
  refine ⟨ret_int ?_, rfl⟩
  clear g1 g2 g3
  rename_i h2
  have h3 : x < 256 := h
  clear h
  revert h2
  revert h3
  revert x
  decide +kernel

theorem bl_shift (k x : Nat) (h : 2 ^ k ≤ x) : bl x = k + bl (x / 2 ^ k) := by
  have hp : 0 < 2 ^ k := Nat.two_pow_pos k
  apply Nat.le_antisymm
  · rw [bl_le_iff, Nat.pow_add, Nat.mul_comm]
    exact (Nat.div_lt_iff_lt_mul hp).1 ((bl_le_iff _ _).1 (Nat.le_refl _))
  · have hx := (bl_le_iff x (bl x)).1 (Nat.le_refl _)
    have hk : k ≤ bl x := by
      rcases Nat.lt_or_ge (bl x) k with e | e
      · have := Nat.pow_le_pow_right (n := 2) (by omega) (Nat.le_of_lt e); omega
      · exact e
    have : bl (x / 2 ^ k) ≤ bl x - k := by
      rw [bl_le_iff, Nat.div_lt_iff_lt_mul hp, ← Nat.pow_add, Nat.sub_add_cancel hk]
      exact hx
    omega


set_option maxHeartbeats 1000000 in
theorem len32_big (x : Nat) (w : World) (h : x < 4294967296) (c1 : 65536 ≤ x) :
    Calls Tryz.prog 114 #[.int .u32 (x : Int)] w fun e w' => e = .returned (.int .i64 (bl x : Int)) ∧ w = w' := by
  have g1 : decide ((65536 : Int) ≤ (x : Int)) = true := decide_eq_true (by omega)
  have hb := bl_shift 16 x (by omega)
  rw [show 2 ^ 16 = 65536 from rfl] at hb
  have HB := Lib.hid hb
  have HX := Lib.hid h
  clear h c1 hb
  go_enter Tryz.func114, Tryz.ntmps114
  go_wp2
  all_goals
    go_ret
    refine ⟨ret_int ?_, rfl⟩
  · have hy : x / 65536 / 256 < 256 := by have := HX.out; omega
    have hb2 := bl_shift 8 (x / 65536) (by omega)
    rw [show 2 ^ 8 = 256 from rfl] at hb2
    rw [HB.out, hb2, ← getElem!_pos]
    clear HB HX g1 hb2
    rename_i h1 h2
    clear h1 h2
    rw [Nat.mod_eq_of_lt hy]
    revert hy
    generalize x / 65536 / 256 = y
    revert y
    decide +kernel
  · have hy : x / 65536 < 256 := by omega
    rw [HB.out, ← getElem!_pos]
    clear HB HX g1
    rename_i h1 h2
    clear h1 h2
    revert hy
    generalize x / 65536 = y
    revert y
    decide +kernel

set_option maxHeartbeats 1000000 in
theorem len32_mid (x : Nat) (w : World) (c1 : x < 65536) (c2 : 256 ≤ x) :
    Calls Tryz.prog 114 #[.int .u32 (x : Int)] w fun e w' => e = .returned (.int .i64 (bl x : Int)) ∧ w = w' := by
  have g1 : decide ((65536 : Int) ≤ (x : Int)) = false := decide_eq_false (by omega)
  have g2 : decide ((256 : Int) ≤ (x : Int)) = true := decide_eq_true (by omega)
  have hb := bl_shift 8 x (by omega)
  rw [show 2 ^ 8 = 256 from rfl] at hb
  have HB := Lib.hid hb
  have HX := Lib.hid c1
  clear c1 c2 hb
  go_enter Tryz.func114, Tryz.ntmps114
  go_wp2
  go_ret
  refine ⟨ret_int ?_, rfl⟩
  have hy : x / 256 < 256 := by have := HX.out; omega
  rw [HB.out, ← getElem!_pos, Nat.mod_eq_of_lt hy]
  clear HB HX g1 g2
  rename_i h1
  clear h1
  revert hy
  generalize x / 256 = y
  revert y
  decide +kernel
theorem len32_any (x : Nat) (w : World) (h : x < 4294967296) :
    Calls Tryz.prog 114 #[.int .u32 (x : Int)] w fun e w' => e = .returned (.int .i64 (bl x : Int)) ∧ w = w' := by
  by_cases c1 : 65536 ≤ x
  · exact len32_big x w h c1
  · by_cases c2 : 256 ≤ x
    · exact len32_mid x w (by omega) c2
    · exact len32_small x w (by omega)
end Go.Proofs.YtfbjeifhpmdjaaaGreat

/-
  The contracts of the program's own naturals, fourth part: Len. Conditions: those that each theorem names.
-/
namespace Go.Proofs.YtfbjeifhpmdjaaaGreat
open Go.RowKit Nm
set_option maxRecDepth 100000
set_option linter.unusedVariables false
set_option linter.unusedSimpArgs false

set_option maxHeartbeats 1000000 in
theorem nlen_any (A : Option Addr) (n c : Nat) (xs : List Nat) (w : World) (h : Wds w A n c xs) (hn : n ≤ 35184372088832) :
    Calls Tryz.prog 90 #[.slice A n c] w fun e w' => e = .returned (.int .i64 (bl (nv xs) : Int)) ∧ w = w' := by
  have hxl : nw (nv xs) ≤ xs.length := nw_nv_le h.ws
  have hlen := h.len
  by_cases h0 : nv xs = 0
  · have hz : nw (nv xs) ≤ 0 := by rw [h0, nw_zero]; omega
    have hf : (0 : Int) = (bl (nv xs) : Int) := by rw [h0]; rfl
    have HF := Lib.hid hf
    clear hf h0
    go_enter Tryz.func90, Tryz.ntmps90
    go_wp2_with (go_at_call 96; refine (nwords_any _ _ _ _ _ h hn).mono ?_; rintro e w' ⟨rfl, rfl⟩)
    go_ret
    exact ⟨ret_int HF.out, rfl⟩
  · obtain ⟨hk, ht, htop⟩ := top_word h.ws h0
    have hnp : 0 < nw (nv xs) := by
      rcases Nat.eq_zero_or_pos (nw (nv xs)) with e | e
      · exact absurd (nw_eq_zero.1 e) h0
      · exact e
    clear h0
    obtain ⟨ad, hx, rfl, hb, hc⟩ := h.at_ (k := nw (nv xs) - 1) (by omega)
    have hX := h.ws.get hx
    have HT := Lib.hid htop
    clear htop
    generalize hXe : xs[nw (nv xs) - 1] = X at *
    have HX := Lib.hid hXe
    clear hXe
    have HL := Lib.hid (fun w => len32_any X w hX)
    go_enter Tryz.func90, Tryz.ntmps90
    go_wp2_with (first | (go_at_call 96; refine (nwords_any _ _ _ _ _ h hn).mono ?_; rintro e w' ⟨rfl, rfl⟩) | (go_at_call 114; refine (HL.out _).mono ?_; rintro e w' ⟨rfl, rfl⟩))
    go_ret
    exact ⟨ret_int (by have h1 := HT.out; have h2 : bl X ≤ 32 := (bl_le_iff X 32).2 hX; unfold wrap64; omega), rfl⟩
end Go.Proofs.YtfbjeifhpmdjaaaGreat

/-
  The contracts of the program's own naturals, fifth part: long, fit, Norm. Conditions: those that each theorem names.
-/
namespace Go.Proofs.YtfbjeifhpmdjaaaGreat
open Go.RowKit Nm
set_option maxRecDepth 100000
set_option linter.unusedVariables false
set_option linter.unusedSimpArgs false

/-- What is answered: a list of words and an error's number. -/
def RetWE (V : Nat) (x : Int) (w : World) (e : Ending) (w' : World) : Prop := ∃ A n c, e = .returned (.tuple #[.slice A n c, .int .i64 x]) ∧ Wds w' A n c (nd V) ∧ Ext w w'
def isLong (s : Sw) : Bool := decide (16384 < nw (nv s.xs))

set_option maxHeartbeats 1000000 in
theorem nlong_any (g k c : Nat) (ss : List Sw) (w : World) (hk : ss.length = k) (hkb : k ≤ 1000) (hc : ∀ i s, ss[i]? = some s → w.cell? ⟨g, i, none⟩ = some (.slice s.A s.n s.c)) (hs : ∀ s ∈ ss, Wds w s.A s.n s.c s.xs ∧ s.n ≤ 35184372088832) :
    Calls Tryz.prog 97 #[.slice (some ⟨g, 0, none⟩) k c] w fun e w' => e = .returned (.bool (ss.any isLong)) ∧ w = w' := by
  have HC := Lib.hid hc
  have HS := Lib.hid hs
  clear hc hs
  go_enter Tryz.func97, Tryz.ntmps97
  go_wp2
  go_loop [7] (fun t => ∃ i : Nat, i ≤ k ∧ t = .int .i64 i ∧ Hid ((ss.take i).any isLong = false)) (fun t => k - (intOf t).toNat)
  case atStart => exact ⟨0, Nat.zero_le _, rfl, Lib.hid rfl⟩
  case round =>
    obtain ⟨i, hi, rfl, hno⟩ := hrel
    by_cases hlt : i < k
    · obtain ⟨s, hsi⟩ : ∃ s, ss[i]? = some s := ⟨ss[i]'(by omega), List.getElem?_eq_getElem (by omega)⟩
      have hcell := HC.out i s hsi
      have hw := HS.out s (List.mem_of_getElem? hsi)
      have hnw := nwords_any s.A s.n s.c s.xs w hw.1 hw.2
      have hst : (ss.take (i + 1)).any isLong = isLong s := by
        rw [List.take_add_one, List.any_append, hno.out, hsi]; simp
      have HST := Lib.hid hst
      have HMEM := Lib.hid (List.mem_of_getElem? hsi)
      obtain ⟨m, hm⟩ : ∃ m, m = nw (nv s.xs) := ⟨_, rfl⟩
      have hL : isLong s = decide (16384 < m) := by rw [hm]; rfl
      rw [← hm] at hnw
      have HN := Lib.hid hnw
      have HLL := Lib.hid hL
      clear hst hnw hw hm hL hsi
      by_cases hb : 16384 < m
      · go_wp2_with (go_at_call 96; refine HN.out.mono ?_; rintro e w' ⟨rfl, rfl⟩)
        go_ret
        exact ⟨ret_bool (by
          symm
          exact List.any_eq_true.2 ⟨s, HMEM.out, by rw [HLL.out]; exact decide_eq_true hb⟩), rfl⟩
      · go_wp2_with (go_at_call 96; refine HN.out.mono ?_; rintro e w' ⟨rfl, rfl⟩)
        go_round
        case rel => exact ⟨i + 1, by omega, by go_num, Lib.hid (by rw [HST.out, HLL.out]; exact decide_eq_false hb)⟩
        case measure => simp [intOf]; omega
    · have HF : Hid (ss.any isLong = false) := Lib.hid (by
        have := hno.out
        rwa [List.take_of_length_le (by omega)] at this)
      go_wp2
      go_ret
      exact ⟨ret_bool HF.out.symm, rfl⟩

set_option maxHeartbeats 1000000 in
theorem nfit_any (A : Option Addr) (n c : Nat) (xs : List Nat) (w : World) (h : Wds w A n c xs) (hn : n ≤ 35184372088832) (hs : nw (nv xs) ≤ 16384) :
    Calls Tryz.prog 103 #[.slice A n c] w (RetWE (nv xs) 0 w) := by
  go_enter Tryz.func103, Tryz.ntmps103
  go_wp2_with (go_at_call 95; refine (ncut_any _ _ _ _ _ h hn).mono ?_; rintro e w' ⟨A2, m, c2, rfl, hR, hE⟩; have hm := Lib.hid hR.len; have hm2 : m ≤ 16384 := by (rw [← hm.out, nd_length]; exact hs))
  go_ret2
  exact ⟨_, _, _, rfl, hR, hE⟩
set_option maxHeartbeats 1000000 in
theorem nfit_long (A : Option Addr) (n c : Nat) (xs : List Nat) (w : World) (h : Wds w A n c xs) (hn : n ≤ 35184372088832) (hs : 16384 < nw (nv xs)) :
    Calls Tryz.prog 103 #[.slice A n c] w (RetWE 0 2 w) := by
  go_enter Tryz.func103, Tryz.ntmps103
  go_wp2_with (go_at_call 95; refine (ncut_any _ _ _ _ _ h hn).mono ?_; rintro e w' ⟨A2, m, c2, rfl, hR, hE⟩; have hm := Lib.hid hR.len; have hm2 : 16384 < m := by (rw [← hm.out, nd_length]; exact hs))
  go_ret2
  exact ⟨_, _, _, rfl, Wds.nil_ (by unfold maxLen; omega), hE⟩

/-- copy onto a row of the call's own. -/
theorem copy32 (dT sT ty : TypeId) (g m : Nat) (A : Option Addr) (n c : Nat) (L xs : List Nat) (w : World) (hr : Row w g L) (hL : L.length = m) (h : Wds w A n c xs) (hmn : m ≤ n) (hu : Tryz.prog.underlying dT = some (.slice 104)) :
    ∃ w', (Builtin.copy_ #[dT, sT] ty #[.slice (some ⟨g, 0, none⟩) m m, .slice A n c]).run Tryz.prog w = .ok (.int .i64 (m : Int)) w' ∧ Row w' g (xs.take m) ∧ ∀ w0 : World, Ext w0 w → w0.heap.size ≤ g → Ext w0 w' := by
  have hn0 : 0 < n → ∃ ad, A = some ad ∧ ad.block < w.heap.size ∧ ∀ (k x : Nat), xs[k]? = some x → w.cell? (ad.add k) = some (.int .u32 (x : Int)) := h.2.2.2.2
  have hsz : (Tryz.prog.info? 104).map (·.size) = some 1 := by kernel_rfl
  have hxl := h.len
  have key : ∀ a : Addr, (∀ (k x : Nat), xs[k]? = some x → w.cell? (a.add k) = some (.int .u32 (x : Int))) → A = some a →
      ∃ w', (Builtin.copy_ #[dT, sT] ty #[.slice (some ⟨g, 0, none⟩) m m, .slice A n c]).run Tryz.prog w = .ok (.int .i64 (m : Int)) w' ∧ Row w' g (xs.take m) ∧ ∀ w0 : World, Ext w0 w → w0.heap.size ≤ g → Ext w0 w' := by
    intro a hc hA
    subst hA
    have hcs : (u32s (xs.take m)).length = m := by rw [u32s_length, List.length_take]; omega
    have hrun := run_copy_row Tryz.prog w dT sT ty 104 g 0 m m a n c (u32s L).toArray 104 (u32s (xs.take m)) hu hsz hr (by rw [hcs]; exact (Nat.min_eq_right hmn).symm) (fun j v hj => by
      have h1 : (u32s xs)[j]? = some v := by
        unfold u32s at hj ⊢
        rw [List.map_take] at hj
        rw [List.getElem?_take] at hj
        split at hj
        · exact hj
        · cases hj
      unfold u32s at h1
      rw [List.getElem?_map] at h1
      cases hx : xs[j]? with
      | none => rw [hx] at h1; cases h1
      | some x => rw [hx] at h1; injection h1 with h1; subst h1; exact hc j x hx) (by rw [hcs]; simp [u32s, hL]) (fun v hv => by
      unfold u32s at hv
      obtain ⟨x, _, rfl⟩ := List.mem_map.1 hv
      rfl)
    rw [hcs] at hrun
    refine ⟨_, hrun, ?_, fun w0 hE hg => ?_⟩
    · have : (List.take 0 (u32s L).toArray.toList ++ u32s (List.take m xs) ++ List.drop (0 + m) (u32s L).toArray.toList) = u32s (xs.take m) := by
        rw [List.drop_of_length_le (by simp [u32s, hL])]; simp
      rw [this]
      exact setRow_heap w g _ _ _ _ hr
    · exact below_setRow hE hg _
  by_cases h0 : n = 0
  · have hm0 : m = 0 := by omega
    have hx0 : xs = [] := List.length_eq_zero_iff.1 (by omega)
    cases A with
    | some ad => exact key ad (fun k x hx => by rw [hx0] at hx; simp at hx) rfl
    | none =>
      subst h0 hm0
      refine ⟨w, ?_, by rw [hx0]; rw [List.length_eq_zero_iff.1 hL] at hr; exact hr, fun w0 hE _ => hE⟩
      cases hq : Tryz.prog.info? 104 with
      | none => simp [hq] at hsz
      | some i => simp [Builtin.copy_, run_underlying hu, Builtin.lenOf, Builtin.firstCells, sizeOf, typeInfo, hq, storeCells, goInt]
  · obtain ⟨ad, e, _, hc⟩ := hn0 (by omega)
    exact key ad hc e

set_option maxHeartbeats 1000000 in
theorem nnorm_any (A : Option Addr) (n c : Nat) (xs : List Nat) (w : World) (h : Wds w A n c xs) (hn : n ≤ 35184372088832) :
    Calls Tryz.prog 89 #[.slice A n c] w fun e w' => ∃ g m, e = .returned (.slice (some ⟨g, 0, none⟩) m m) ∧ Row w' g (nd (nv xs)) ∧ w.heap.size ≤ g ∧ m = nw (nv xs) ∧ Ext w w' := by
  have hnw := nwords_any A n c xs w h hn
  have hle : nw (nv xs) ≤ n := by have := nw_nv_le h.ws; have := h.len; omega
  obtain ⟨m, hm⟩ : ∃ m, m = nw (nv xs) := ⟨_, rfl⟩
  rw [← hm] at hnw hle
  have hmk := run_make32 m (by omega) w
  have hr0 := Row.new w (List.replicate m 0)
  have hE0 : Ext w (w.alloc (.cells (u32s (List.replicate m 0)).toArray 104)) := (Ext.refl w).alloc _
  have h1 := h.ext hE0
  obtain ⟨w1, hw1⟩ : ∃ w1, w1 = w.alloc (.cells (u32s (List.replicate m 0)).toArray 104) := ⟨_, rfl⟩
  rw [← hw1] at hmk hr0 hE0 h1
  clear hw1
  obtain ⟨g, hg⟩ : ∃ g, g = w.heap.size := ⟨_, rfl⟩
  rw [← hg] at hmk hr0
  have hgl : w.heap.size ≤ g := by omega
  clear hg
  obtain ⟨w2, hcp, hr2, hE2⟩ := copy32 36 36 3 g m A n c (List.replicate m 0) xs w1 hr0 (by simp) h1 hle Tryz.underlying36
  have hE3 := hE2 w hE0 hgl
  have ht : xs.take m = nd (nv xs) := by rw [hm]; exact (nd_take h.ws).symm
  rw [ht] at hr2
  have HN := Lib.hid hnw
  have HM := Lib.hid hm
  have HR := Lib.hid hr2
  have HE := Lib.hid hE3
  clear hnw hm hr2 hE3 hE2 hr0 hE0 h1 h ht
  go_enter Tryz.func89, Tryz.ntmps89
  go_wp2_with (go_at_call 96; refine HN.out.mono ?_; rintro e w' ⟨rfl, rfl⟩)
  go_ret
  exact ⟨g, m, rfl, HR.out, hgl, HM.out, HE.out⟩
/-- Norm, as a list of words. -/
theorem nnorm_ret (A : Option Addr) (n c : Nat) (xs : List Nat) (w : World) (h : Wds w A n c xs) (hn : n ≤ 35184372088832) :
    Calls Tryz.prog 89 #[.slice A n c] w (RetW (nv xs) w) :=
  (nnorm_any A n c xs w h hn).mono fun e w' ⟨g, m, he, hr, hg, hm, hE⟩ => by
    have hle : nw (nv xs) ≤ n := by have := nw_nv_le h.ws; have := h.len; omega
    exact ⟨_, _, _, he, hr.wds (Ws.nd _) (by rw [nd_length]; exact hm.symm) (Nat.le_refl _) (by unfold maxLen; omega), hE⟩
end Go.Proofs.YtfbjeifhpmdjaaaGreat
