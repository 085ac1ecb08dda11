/-
  The contracts of the reference's naturals, fourth part: shifts and products. Conditions: those that each theorem names.
-/
import Derived.Test.YtfbjeifhpmdjaaaGreatP08
namespace Go.Proofs.YtfbjeifhpmdjaaaGreat
open Go.RowKit Nm
set_option maxRecDepth 100000
set_option linter.unusedVariables false
set_option linter.unusedSimpArgs false

/-- The shape of Left's list behind i words. -/
structure LeftRel (xs L : List Nat) (D S t i : Nat) : Prop where
  len : L.length = D + t + 1
  ws : Ws L
  val : nv L = nv (xs.take i) * 2 ^ (32 * D + S)
  top : ∀ j, (hj : j < L.length) → D + i < j → L[j] = 0
  low : ∀ hj : D + i < L.length, L[D + i] < 2 ^ S

theorem LeftRel.start (xs : List Nat) (D S t : Nat) : LeftRel xs (List.replicate (D + t + 1) 0) D S t 0 where
  len := by simp
  ws := Ws.replicate _ (by omega)
  val := by simp [nv_replicate, nv]
  top := fun j hj _ => by simp
  low := fun hj => by simp; exact Nat.pow_pos (by omega)

theorem LeftRel.step {xs L : List Nat} {D S t i : Nat} (h : LeftRel xs L D S t i) (hS : S < 32) (hi : i < t) (hx : i < xs.length) (hw : Ws xs) (a lo hi' : Nat) (hk : D + i < L.length) (ha : L[D + i] = a)
    (hlo : lo = xs[i] * 2 ^ S % 4294967296) (hhi : hi' = xs[i] * 2 ^ S / 4294967296) :
    LeftRel xs ((L.set (D + i) (a + lo)).set (D + i + 1) hi') D S t (i + 1) ∧ a ||| lo = a + lo ∧ a + lo < 4294967296 := by
  have hx32 := hw.get hx
  have hlen := h.len
  have hlow := h.low hk
  rw [ha] at hlow
  have h0 := h.top (D + i + 1) (by omega) (by omega)
  obtain ⟨e, he⟩ : ∃ e, 4294967296 = 2 ^ S * e ∧ 0 < e := ⟨2 ^ (32 - S), by rw [← Nat.pow_add, show S + (32 - S) = 32 by omega], Nat.pow_pos (by omega)⟩
  have hlm : lo % 2 ^ S = 0 := by
    rw [hlo, he.1, Nat.mul_comm, Nat.mul_mod_mul_left]
    exact Nat.mul_mod_right _ _
  have hlo32 : lo < 4294967296 := by rw [hlo]; exact Nat.mod_lt _ (by omega)
  have hsum : a + lo < 4294967296 := by
    obtain ⟨q, hq⟩ : ∃ q, lo = 2 ^ S * q := ⟨lo / 2 ^ S, by have := Nat.mod_add_div lo (2 ^ S); omega⟩
    rw [hq, he.1] at hlo32
    have hqe : q < e := Nat.lt_of_mul_lt_mul_left hlo32
    have : 2 ^ S * (q + 1) ≤ 2 ^ S * e := Nat.mul_le_mul_left _ hqe
    rw [he.1, hq]
    rw [Nat.mul_add, Nat.mul_one] at this
    omega
  have hhi32 : hi' < 2 ^ S := by
    rw [hhi]
    refine (Nat.div_lt_iff_lt_mul (by omega)).2 ?_
    rw [Nat.mul_comm]
    exact Nat.mul_lt_mul_of_pos_left hx32 (Nat.pow_pos (by omega))
  refine ⟨⟨by simpa using hlen, (h.ws.set _ hsum).set _ (Nat.lt_of_lt_of_le hhi32 (by rw [he.1]; exact Nat.le_mul_of_pos_right _ he.2)), ?_, ?_, ?_⟩, ?_, hsum⟩
  · have hv : lo + 4294967296 * hi' = xs[i] * 2 ^ S := by rw [hlo, hhi]; exact Nat.mod_add_div _ _
    rw [nv_set2 (by omega) ha h0 hv, h.val, nv_take_succ hx, pow32, Nat.add_mul, Nat.pow_add, Nat.mul_add, Nat.pow_add]
    congr 1
    rw [pow32]
    simp only [Nat.mul_assoc, Nat.mul_comm, Nat.mul_left_comm]
  · intro j hj hlt
    rw [List.getElem_set_ne (by omega), List.getElem_set_ne (by omega)]
    simp at hj
    exact h.top j hj (by omega)
  · intro hj
    have e1 : D + (i + 1) = D + i + 1 := by omega
    simp only [e1]
    rw [List.getElem_set_self]
    exact hhi32
  · rw [Nat.or_comm, nat_join S lo a hlm hlow, Nat.add_comm]

set_option maxHeartbeats 1000000 in
theorem left_any (A : Option Addr) (n c : Nat) (xs : List Nat) (s : Nat) (w : World) (h : Wds w A n c xs) (hn : n ≤ 17592186044416) (hs : s ≤ 35184372088832) :
    Calls Tryz.prog 105 #[.slice A n c, .int .i64 (s : Int)] w (RetW (nv xs * 2 ^ s) w) := by
  have hxl : nw (nv xs) ≤ xs.length := nw_nv_le h.ws
  have hlx := h.len
  by_cases h0 : nv xs = 0
  · have hz : nw (nv xs) ≤ 0 := by rw [h0, nw_zero]; omega
    have HF : Hid (nd (nv xs * 2 ^ s) = []) := Lib.hid (by rw [h0, Nat.zero_mul, nd_zero])
    clear h0
    go_enter Tryz.func105, Tryz.ntmps105
    go_wp2_with (go_at_call 113; refine (words_any _ _ _ _ _ h (by omega)).mono ?_; rintro e w' ⟨rfl, rfl⟩)
    go_ret
    exact ⟨none, 0, 0, rfl, by rw [HF.out]; exact Wds.nil_ (by unfold maxLen; omega), Ext.refl _⟩
  · obtain ⟨D, S, hS, hsD⟩ : ∃ D S, S < 32 ∧ s = 32 * D + S := ⟨s / 32, s % 32, Nat.mod_lt _ (by omega), by omega⟩
    have hpos : 0 < nw (nv xs) := by
      rcases Nat.eq_zero_or_pos (nw (nv xs)) with e | e
      · exact absurd (nw_eq_zero.1 e) h0
      · exact e
    clear h0
    have hq : (s : Int) / 32 = (D : Int) := by omega
    have hr : (s : Int) % 32 = (S : Int) := by omega
    have HSD := Lib.hid hsD
    have HTk := Lib.hid (take_nw h.ws).1
    clear hsD
    obtain ⟨t, ht⟩ : ∃ t, t = nw (nv xs) := ⟨_, rfl⟩
    have hw := words_any A n c xs w h (by omega)
    rw [← ht] at hw hxl hpos HTk
    have HT := Lib.hid ht
    have HW := Lib.hid hw
    clear ht hw
    have hmk := run_make32 (D + t + 1) (by omega)
    push_cast at hmk
    go_enter Tryz.func105, Tryz.ntmps105
    go_wp2_with (go_at_call 113; refine HW.out.mono ?_; rintro e w' ⟨rfl, rfl⟩)
    clear hmk
    go_loopw [8] (fun iv wr => ∃ (i : Nat) (L : List Nat), i ≤ t ∧ iv = .int .i64 i ∧ LeftRel xs L D S t i ∧ Row wr w.heap.size L ∧ Ext w wr) (fun iv _ => t - (intOf iv).toNat)
    case atStart => exact ⟨0, _, Nat.zero_le _, rfl, LeftRel.start xs D S t, Row.new _ _, (Ext.refl w).alloc _⟩
    case round =>
      obtain ⟨i, L, hi, rfl, hL, hrow, hb⟩ := hrel
      have hLl := hL.len
      by_cases hlt : i < t
      · obtain ⟨ad, hx, rfl, _, hcX⟩ := (h.ext hb).at_ (k := i) (by omega)
        have hX32 := h.ws.get hx
        have hstep := hL.step hS hlt hx h.ws L[D + i] (xs[i] * 2 ^ S % 4294967296) (xs[i] * 2 ^ S / 4294967296) (by omega) rfl rfl rfl
        have hc1 := hrow.cell (i := D + i) (by omega)
        have hf1 := hrow.frozen (D + i)
        have hc2 := hrow.cell (i := D + i + 1) (by omega)
        have hf2 := hrow.frozen (D + i + 1)
        obtain ⟨V, hV⟩ : ∃ V, V = xs[i] * 2 ^ S := ⟨_, rfl⟩
        have hV64 : V < 18446744073709551616 := by
          have h1 : 2 ^ S ≤ 2147483648 := Nat.pow_le_pow_right (n := 2) (by omega) (show S ≤ 31 by omega)
          have h2 : xs[i] * 2 ^ S ≤ 4294967296 * 2147483648 := Nat.mul_le_mul (by omega) h1
          omega
        have e1 : ((xs[i] : Nat) : Int) * 2 ^ S = (V : Int) := by rw [hV]; push_cast; rfl
        rw [← hV] at hstep
        clear hV
        obtain ⟨lo, hlo⟩ : ∃ lo, lo = V % 4294967296 := ⟨_, rfl⟩
        obtain ⟨hi', hhi⟩ : ∃ hi', hi' = V / 4294967296 := ⟨_, rfl⟩
        rw [← hlo, ← hhi] at hstep
        have hlo32 : lo < 4294967296 := by omega
        have hhi32 : hi' < 4294967296 := by omega
        have e2 := and_mask V lo hV64 hlo
        have e3 : (V : Int) / 4294967296 = (hi' : Int) := by omega
        generalize L[D + i] = a at *
        have ha32 : a < 4294967296 := by omega
        have e4 : bits .or .u32 (a : Int) (lo : Int) = ((a + lo : Nat) : Int) := by
          rw [u32_or_nat _ _ ha32 hlo32, hstep.2.1]
        obtain ⟨r, hr'⟩ : ∃ r, r = a + lo := ⟨_, rfl⟩
        rw [← hr'] at e4 hstep
        obtain ⟨hst, _, hr32⟩ := hstep
        have hrow' := (hrow.set_ (D + i) r).set_ (D + i + 1) hi'
        have HST := Lib.hid hst
        clear hst hlo hhi hr'
        go_wp2
        go_roundw
        case rel => exact ⟨i + 1, _, by omega, by go_num, HST.out, hrow', (hb.setCell (Nat.le_refl _) _).setCell (Nat.le_refl _) _⟩
        case measure => simp [intOf]; omega
      · have HV : Hid (nv L = nv xs * 2 ^ s) := Lib.hid (by
          rw [hL.val, show i = t by omega, HTk.out, HSD.out])
        have hW := hrow.wds hL.ws hL.len (Nat.le_refl _) (by unfold maxLen; omega)
        go_wp2_with (go_at_call 88; refine (norm_any _ _ _ _ _ hW (by omega)).mono ?_; rintro e w2 ⟨A2, n2, c2, rfl, hR, hE2⟩)
        go_ret
        exact ⟨A2, n2, c2, rfl, by rw [← HV.out]; exact hR, hb.trans hE2⟩

/-- The shape of a product's list: within row j, behind i words. -/
structure RowRel (xs L : List Nat) (V0 y n m j i cr : Nat) : Prop where
  len : L.length = n + m
  ws : Ws L
  val : nv L + 4294967296 ^ (i + j) * cr = V0 + 4294967296 ^ j * (y * nv (xs.take i))
  top : ∀ k, (hk : k < L.length) → n + j ≤ k → L[k] = 0

theorem RowRel.step {xs L : List Nat} {V0 y n m j i cr a x v lo hi : Nat} (h : RowRel xs L V0 y n m j i cr) (hj : j < m) (hi0 : i < n) (hx : i < xs.length) (hxe : xs[i] = x) (hk : i + j < L.length) (ha : L[i + j] = a)
    (hv : v = cr + a + x * y) (hlo : lo = v % 4294967296) (hhi : hi = v / 4294967296) : RowRel xs (L.set (i + j) lo) V0 y n m j (i + 1) hi := by
  have hlen := h.len
  refine ⟨by simpa using hlen, h.ws.set _ (by rw [hlo]; exact Nat.mod_lt _ (by omega)), ?_, fun k hk' hle => ?_⟩
  · have h1 := nv_set hk lo
    rw [ha] at h1
    have h2 := h.val
    have e : lo + 4294967296 * hi = cr + a + x * y := by rw [← hv, hlo, hhi]; exact Nat.mod_add_div _ _
    have e1 : 4294967296 ^ (i + j) * (lo + 4294967296 * hi) = 4294967296 ^ (i + j) * (cr + a + x * y) := by rw [e]
    rw [Nat.mul_add, Nat.mul_add, Nat.mul_add, ← Nat.mul_assoc, ← Nat.pow_succ] at e1
    rw [show i + 1 + j = i + j + 1 by omega, nv_take_succ hx, hxe, Nat.mul_add y, Nat.mul_add (4294967296 ^ j)]
    have e2 : 4294967296 ^ j * (y * (4294967296 ^ i * x)) = 4294967296 ^ (i + j) * (x * y) := by
      rw [Nat.pow_add]
      simp only [Nat.mul_assoc, Nat.mul_comm, Nat.mul_left_comm]
    rw [e2]
    generalize 4294967296 ^ j * (y * nv (xs.take i)) = t0 at *
    generalize 4294967296 ^ (i + j) * (x * y) = t1 at *
    generalize 4294967296 ^ (i + j + 1) * hi = t2 at *
    generalize 4294967296 ^ (i + j) * lo = t3 at *
    generalize 4294967296 ^ (i + j) * a = t4 at *
    generalize 4294967296 ^ (i + j) * cr = t5 at *
    clear e2 e hlo hhi hv
    omega
  · rw [List.getElem_set_ne (by omega)]
    simp at hk'
    exact h.top k hk' hle

/-- The shape of a product's list behind j rows. -/
structure TimesRel (xs ys L : List Nat) (n m j : Nat) : Prop where
  len : L.length = n + m
  ws : Ws L
  val : nv L = nv xs * nv (ys.take j)
  top : ∀ k, (hk : k < L.length) → n + j ≤ k → L[k] = 0

theorem TimesRel.start (xs ys : List Nat) (n m : Nat) : TimesRel xs ys (List.replicate (n + m) 0) n m 0 where
  len := by simp
  ws := Ws.replicate _ (by omega)
  val := by simp [nv_replicate, nv]
  top := fun j hj _ => by simp

theorem TimesRel.row {xs ys L : List Nat} {n m j : Nat} (h : TimesRel xs ys L n m j) (y : Nat) : RowRel xs L (nv L) y n m j 0 0 where
  len := h.len
  ws := h.ws
  val := by simp [nv]
  top := h.top

theorem TimesRel.skip {xs ys L : List Nat} {n m j : Nat} (h : TimesRel xs ys L n m j) (hy : j < ys.length) (h0 : ys[j] = 0) : TimesRel xs ys L n m (j + 1) where
  len := h.len
  ws := h.ws
  val := by rw [nv_take_succ hy, h0, Nat.mul_zero, Nat.add_zero]; exact h.val
  top := fun k hk hle => h.top k hk (by omega)

theorem TimesRel.next {xs ys L0 L : List Nat} {n m j cr : Nat} (h0 : TimesRel xs ys L0 n m j) (hy : j < ys.length) (hj : j < m) (h : RowRel xs L (nv L0) ys[j] n m j n cr) (hn : nv (xs.take n) = nv xs) (hcr : cr < 4294967296) :
    TimesRel xs ys (L.set (j + n) cr) n m (j + 1) := by
  have hlen := h.len
  refine ⟨by simpa using hlen, h.ws.set _ hcr, ?_, fun k hk hle => ?_⟩
  · have h1 := nv_set (l := L) (k := j + n) (by omega) cr
    rw [h.top (j + n) (by omega) (by omega), Nat.mul_zero, Nat.add_zero] at h1
    rw [h1, Nat.add_comm j n, h.val, h0.val, hn, nv_take_succ hy, Nat.mul_add]
    congr 1
    simp only [Nat.mul_assoc, Nat.mul_comm, Nat.mul_left_comm]
  · rw [List.getElem_set_ne (by omega)]
    simp at hk
    exact h.top k hk (by omega)

set_option maxHeartbeats 1000000 in
theorem times_any (A : Option Addr) (n0 c : Nat) (xs : List Nat) (B : Option Addr) (m0 d : Nat) (ys : List Nat) (w : World) (h : Wds w A n0 c xs) (hn0 : n0 ≤ 8796093022208) (k : Wds w B m0 d ys) (hm0 : m0 ≤ 8796093022208) :
    Calls Tryz.prog 82 #[.slice A n0 c, .slice B m0 d] w (RetW (nv xs * nv ys) w) := by
  have hxl : nw (nv xs) ≤ xs.length := nw_nv_le h.ws
  have hyl : nw (nv ys) ≤ ys.length := nw_nv_le k.ws
  have hlx := h.len
  have hly := k.len
  have HXk := Lib.hid (take_nw h.ws).1
  have HYk := Lib.hid (take_nw k.ws).1
  have hw1 := words_any A n0 c xs w h (by omega)
  have hw2 := words_any B m0 d ys w k (by omega)
  obtain ⟨n, hn⟩ : ∃ n, n = nw (nv xs) := ⟨_, rfl⟩
  obtain ⟨m, hm⟩ : ∃ m, m = nw (nv ys) := ⟨_, rfl⟩
  rw [← hn] at hw1 hxl HXk
  rw [← hm] at hw2 hyl HYk
  have HW1 := Lib.hid hw1
  have HW2 := Lib.hid hw2
  clear hw1 hw2 hn hm
  have hmk := run_make32 (n + m) (by omega)
  push_cast at hmk
  go_enter Tryz.func82, Tryz.ntmps82
  go_wp2_with fail
  refine HW1.out.mono ?_
  rintro e w' ⟨rfl, rfl⟩
  go_wp2_with fail
  refine HW2.out.mono ?_
  rintro e w' ⟨rfl, rfl⟩
  go_wp2
  clear hmk
  go_loopw [8] (fun jv wr => ∃ (j : Nat) (L : List Nat), j ≤ m ∧ jv = .int .i64 j ∧ TimesRel xs ys L n m j ∧ Row wr w.heap.size L ∧ Ext w wr) (fun jv _ => m - (intOf jv).toNat)
  case atStart => exact ⟨0, _, Nat.zero_le _, rfl, TimesRel.start xs ys n m, Row.new _ _, (Ext.refl w).alloc _⟩
  case round =>
    obtain ⟨j, L0, hj, rfl, hL0, hrow0, hb0⟩ := hrel
    obtain ⟨wo, rfl⟩ : ∃ wo : World, wo = wr := ⟨_, rfl⟩
    by_cases hlt : j < m
    · obtain ⟨bd, hy, rfl, _, hcY⟩ := (k.ext hb0).at_ (k := j) (by omega)
      have hY32 := k.ws.get hy
      by_cases hy0 : ys[j] = 0
      · have hsk := Lib.hid (hL0.skip hy hy0)
        go_wp2
        go_roundw
        case rel => exact ⟨j + 1, L0, by omega, by go_num, hsk.out, hrow0, hb0⟩
        case measure => simp [intOf]; omega
      · have HN := Lib.hid (fun (L : List Nat) (cr : Nat) hh hcr => TimesRel.next (L := L) (cr := cr) hL0 hy hlt hh HXk.out hcr)
        generalize ys[j] = y at *
        have hy1 : 0 < y := by omega
        clear hy0
        go_wp2
        go_loopw [10, 11] (fun cv iv wr => ∃ (i cr : Nat) (L : List Nat), i ≤ n ∧ cr < 4294967296 ∧ iv = .int .i64 i ∧ cv = .int .u64 (cr : Int) ∧ RowRel xs L (nv L0) y n m j i cr ∧ Row wr w.heap.size L ∧ Ext w wr) (fun _ iv _ => n - (intOf iv).toNat)
        case atStart => exact ⟨0, 0, L0, Nat.zero_le _, by omega, rfl, rfl, hL0.row y, hrow0, hb0⟩
        case round =>
          obtain ⟨i, cr, L, hi, hcr, rfl, rfl, hL, hrow, hb⟩ := hrel
          have hLl := hL.len
          by_cases hlti : i < n
          · obtain ⟨ad, hx, rfl, _, hcX⟩ := (h.ext hb).at_ (k := i) (by omega)
            have hX32 := h.ws.get hx
            have hc1 := hrow.cell (i := i + j) (by omega)
            have hf1 := hrow.frozen (i + j)
            have hA32 := hL.ws.get (k := i + j) (by omega)
            have hk' : i + j < L.length := by omega
            obtain ⟨a, ha⟩ : ∃ a, L[i + j] = a := ⟨_, rfl⟩
            obtain ⟨x, hxe⟩ : ∃ x, xs[i] = x := ⟨_, rfl⟩
            have hst := fun (v lo hi' : Nat) hv hlo hhi => hL.step (v := v) (lo := lo) (hi := hi') hlt hlti hx hxe hk' ha hv hlo hhi
            rw [ha] at hc1 hA32
            rw [hxe] at hcX hX32
            clear ha hxe
            obtain ⟨q, hq⟩ : ∃ q, i + j = q := ⟨_, rfl⟩
            rw [hq] at hc1 hf1
            simp only [hq] at hst
            have hp : x * y ≤ 18446744065119617025 := Nat.le_trans (Nat.mul_le_mul (show x ≤ 4294967295 by omega) (show y ≤ 4294967295 by omega)) (by omega)
            obtain ⟨p, hpv⟩ : ∃ p, p = x * y := ⟨_, rfl⟩
            rw [← hpv] at hp
            obtain ⟨v, hv⟩ : ∃ v, v = cr + a + p := ⟨_, rfl⟩
            have hv64 : v < 18446744073709551616 := by omega
            obtain ⟨lo, hlo⟩ : ∃ lo, lo = v % 4294967296 := ⟨_, rfl⟩
            obtain ⟨hi', hhi⟩ : ∃ hi', hi' = v / 4294967296 := ⟨_, rfl⟩
            have hst' := hst v lo hi' (by rw [hv, hpv]) hlo hhi
            clear hst
            have HST := Lib.hid hst'
            clear hst'
            have hlo32 : lo < 4294967296 := by omega
            have hhi32 : hi' < 4294967296 := by omega
            have g1 : IntKind.i64.wrap ((i : Int) + (j : Int)) = (q : Int) := by rw [IntWalk.i64_in _ (by omega)]; omega
            have g1' : ((i : Int) + (j : Int)) = (q : Int) := by omega
            have g2 : IntKind.u64.wrap ((cr : Int) + (a : Int)) = ((cr + a : Nat) : Int) := by
              rw [IntKind.wrap_u64]; omega
            have g3 : IntKind.u64.wrap ((x : Int) * (y : Int)) = (p : Int) := by
              have e : (x : Int) * (y : Int) = (p : Int) := by rw [hpv]; exact (Int.natCast_mul x y).symm
              rw [IntKind.wrap_u64, e]; omega
            have g4 : IntKind.u64.wrap (((cr + a : Nat) : Int) + (p : Int)) = (v : Int) := by
              rw [IntKind.wrap_u64]; omega
            have g5 := and_mask v lo hv64 hlo
            have g7 : (cr : Int) + (a : Int) + (p : Int) = (v : Int) := by omega
            rw [← g7] at g5
            have g6 : ((cr : Int) + (a : Int) + (p : Int)) / 4294967296 = (hi' : Int) := by omega
            clear g7
            have hq2 : q < n + m := by omega
            have hq0 : (0 : Int) ≤ (q : Int) := by omega
            have hq1 : (q : Int) < ((n + m : Nat) : Int) := by omega
            have hi0 : (i : Int) < (n0 : Int) := by omega
            have hrow' := hrow.set_ q lo
            clear hpv hq hlo hhi hv
            go_wp2
            go_quiet (fail)
            go_wp2
            go_roundw
            case rel => exact ⟨i + 1, hi', _, by omega, hhi32, by go_num, rfl, HST.out, hrow'.drewN _, (hb.setCell (Nat.le_refl _) _).drewN _⟩
            case measure => simp [intOf]; omega
          · have e : i = n := by omega
            subst e
            have hk' : j + i < L.length := by omega
            have hc1 := hrow.cell hk'
            have hf1 := hrow.frozen (j + i)
            have hrow' := hrow.set_ (j + i) cr
            have HF := Lib.hid (HN.out L cr hL hcr)
            clear HN
            go_wp2
            go_roundw
            case rel => exact ⟨j + 1, _, by omega, by go_num, HF.out, hrow', hb.setCell (Nat.le_refl _) _⟩
            case measure => simp [intOf]; omega
    · have e : j = m := by omega
      subst e
      have HV : Hid (nv L0 = nv xs * nv ys) := Lib.hid (by rw [hL0.val, HYk.out])
      have hW := hrow0.wds hL0.ws hL0.len (Nat.le_refl _) (by unfold maxLen; omega)
      go_wp2_with (go_at_call 88; refine (norm_any _ _ _ _ _ hW (by omega)).mono ?_; rintro e w2 ⟨A2, n2, c2, rfl, hR, hE2⟩)
      go_ret
      exact ⟨A2, n2, c2, rfl, by rw [← HV.out]; exact hR, hb0.trans hE2⟩
end Go.Proofs.YtfbjeifhpmdjaaaGreat

/-
  The contracts of the reference's naturals, fifth part: zeros at the bottom, shifts down. Conditions: those that each theorem names.
-/
namespace Go.Proofs.YtfbjeifhpmdjaaaGreat
open Go.RowKit Nm
set_option maxRecDepth 100000
set_option linter.unusedVariables false
set_option linter.unusedSimpArgs false

set_option maxHeartbeats 1000000 in
theorem zeros_any (A : Option Addr) (n c : Nat) (xs : List Nat) (w : World) (h : Wds w A n c xs) (hn : n ≤ 35184372088832) :
    Calls Tryz.prog 111 #[.slice A n c] w fun e w' => e = .returned (.int .i64 (tz (nv xs) : Int)) ∧ w = w' := by
  have hlx := h.len
  by_cases h0 : nv xs = 0
  · have hz : nw (nv xs) ≤ 0 := by rw [h0, nw_zero]; omega
    have HF : Hid ((0 : Int) = (tz (nv xs) : Int)) := Lib.hid (by rw [h0]; rfl)
    clear h0
    go_enter Tryz.func111, Tryz.ntmps111
    go_wp2_with (go_at_call 113; refine (words_any _ _ _ _ _ h (by omega)).mono ?_; rintro e w' ⟨rfl, rfl⟩)
    go_ret
    exact ⟨ret_int HF.out, rfl⟩
  · have hpos : 0 < nw (nv xs) := by
      rcases Nat.eq_zero_or_pos (nw (nv xs)) with e | e
      · exact absurd (nw_eq_zero.1 e) h0
      · exact e
    have htz : tz (nv xs) ≤ 32 * n := by
      have h1 := tz_lt h0
      have h2 := (bl_le_iff (nv xs) (32 * xs.length)).2 (by rw [← pow32]; exact nv_lt h.ws)
      omega
    have H0 := Lib.hid h0
    clear h0
    go_enter Tryz.func111, Tryz.ntmps111
    go_wp2_with (go_at_call 113; refine (words_any _ _ _ _ _ h (by omega)).mono ?_; rintro e w' ⟨rfl, rfl⟩)
    go_loop [3] (fun kv => ∃ j : Nat, 32 * j ≤ tz (nv xs) ∧ kv = .int .i64 ((32 * j : Nat) : Int)) (fun kv => 32 * n + 32 - (intOf kv).toNat)
    case atStart => exact ⟨0, by omega, rfl⟩
    case round =>
      obtain ⟨j, hj, rfl⟩ := hrel
      obtain ⟨hjl, hz1, hz2⟩ := tz_word h.ws H0.out hj
      obtain ⟨ad, hx, rfl, hb, hc⟩ := h.at_ (k := j) (by omega)
      have g1 : ((32 * j : Nat) : Int) / 32 = (j : Int) := by omega
      obtain ⟨J, hJ⟩ : ∃ J, J = 32 * j := ⟨_, rfl⟩
      rw [← hJ] at hj g1
      rw [← hJ]
      have HJ := Lib.hid hJ
      clear hJ
      by_cases hx0 : xs[j] = 0
      · have h1 := hz1 hx0
        clear hz1 hz2
        go_wp2
        go_round
        case rel => exact ⟨j + 1, h1, val_int (by have := HJ.out; omega)⟩
        case measure => simp [intOf]; have := HJ.out; omega
      · have hle : tz (nv xs) < J + 32 := by
          rcases Nat.lt_or_ge (tz (nv xs)) (J + 32) with hl | hl
          · exact hl
          · exact absurd (hz2 (by have := HJ.out; omega)) hx0
        clear hz1 hz2
        go_wp2
        go_loop [3] (fun kv => ∃ k : Nat, k ≤ tz (nv xs) ∧ kv = .int .i64 (k : Int)) (fun kv => 32 * n + 32 - (intOf kv).toNat)
        case atStart => exact ⟨J, hj, rfl⟩
        case round =>
          obtain ⟨k, hk, rfl⟩ := hrel
          have hbit := bit_any (some ad) n c xs k w h (by omega) (by omega)
          by_cases hkt : k < tz (nv xs)
          · rw [tz_low H0.out hkt] at hbit
            have HB := Lib.hid hbit
            clear hbit
            go_wp2_with (go_at_call 127; refine HB.out.mono ?_; rintro e w' ⟨rfl, rfl⟩)
            go_round
            case rel => exact ⟨k + 1, by omega, by go_num⟩
            case measure => simp [intOf]; omega
          · have hke : k = tz (nv xs) := by omega
            rw [hke, tz_bit H0.out] at hbit
            have HB := Lib.hid hbit
            have HK := Lib.hid hke
            clear hbit hke
            go_wp2_with (go_at_call 127; rw [HK.out]; refine HB.out.mono ?_; rintro e w' ⟨rfl, rfl⟩)
            go_ret
            exact ⟨rfl, rfl⟩

/-- Is something cut off? -/
def lostB (V s : Nat) : Bool := decide (V % 2 ^ s ≠ 0)
theorem lostB_zero (s : Nat) : lostB 0 s = false := by simp [lostB]
theorem lostB_true {V s : Nat} (h : V % 2 ^ s ≠ 0) : lostB V s = true := by simp [lostB, h]

/-- What is answered: a list of the words of V, and a bool. -/
def RetWB (V : Nat) (b : Bool) (w : World) (e : Ending) (w' : World) : Prop := ∃ A n c, e = .returned (.tuple #[.slice A n c, .bool b]) ∧ Wds w' A n c (nd V) ∧ Ext w w'

set_option maxHeartbeats 1000000 in
theorem right_any (A : Option Addr) (n c : Nat) (xs : List Nat) (s : Nat) (w : World) (h : Wds w A n c xs) (hn : n ≤ 17592186044416) (hs : s ≤ 4611686018427387904) :
    Calls Tryz.prog 112 #[.slice A n c, .int .i64 (s : Int)] w (RetWB (nv xs / 2 ^ s) (lostB (nv xs) s) w) := by
  have hxl : nw (nv xs) ≤ xs.length := nw_nv_le h.ws
  have hlx := h.len
  by_cases h0 : nv xs = 0
  · have hz : nw (nv xs) ≤ 0 := by rw [h0, nw_zero]; omega
    have HF : Hid (nd (nv xs / 2 ^ s) = []) := Lib.hid (by rw [h0, Nat.zero_div, nd_zero])
    have HF2 : Hid (lostB (nv xs) s = false) := Lib.hid (by rw [h0, lostB_zero])
    clear h0
    rw [HF2.out]
    go_enter Tryz.func112, Tryz.ntmps112
    go_wp2_with (go_at_call 113; refine (words_any _ _ _ _ _ h (by omega)).mono ?_; rintro e w' ⟨rfl, rfl⟩)
    go_ret2
    exact ⟨none, 0, 0, rfl, by rw [HF.out]; exact Wds.nil_ (by unfold maxLen; omega), Ext.refl _⟩
  · obtain ⟨D, S, hS, hsD⟩ : ∃ D S, S < 32 ∧ s = 32 * D + S := ⟨s / 32, s % 32, Nat.mod_lt _ (by omega), by omega⟩
    have hpos : 0 < nw (nv xs) := by
      rcases Nat.eq_zero_or_pos (nw (nv xs)) with e | e
      · exact absurd (nw_eq_zero.1 e) h0
      · exact e
    have hq : (s : Int) / 32 = (D : Int) := by omega
    have hr : (s : Int) % 32 = (S : Int) := by omega
    have HTk := Lib.hid (take_nw h.ws).1
    have HLT := Lib.hid (lt_pow_nw (nv xs))
    have H0 := Lib.hid h0
    have hw := words_any A n c xs w h (by omega)
    obtain ⟨t, ht⟩ : ∃ t, t = nw (nv xs) := ⟨_, rfl⟩
    rw [← ht] at hw hxl hpos HTk HLT
    have HT := Lib.hid ht
    have HW := Lib.hid hw
    clear ht hw h0
    by_cases hD : D < t
    · obtain ⟨ad, hx, rfl, hb, hc⟩ := h.at_ (k := D) (by omega)
      have hX32 := h.ws.get hx
      have HSD := Lib.hid hsD
      clear hsD
      have hlow := shl_low xs[D] hS
      obtain ⟨x0, hx0⟩ : ∃ x0, x0 = xs[D] := ⟨_, rfl⟩
      have HR := Lib.hid (right_mod h.ws hx hS)
      have HX := Lib.hid hx0
      rw [← hx0] at hlow hc hX32
      clear hx0
      have hY : (∃ Y : Nat, 0 < Y ∧ 0 < S ∧ Hid (x0 % 2 ^ S ≠ 0) ∧ (x0 : Int) * 2 ^ (31 - S) % 4294967296 * 2 % 4294967296 = (Y : Int)) ∨ (Hid (x0 % 2 ^ S = 0) ∧ (x0 : Int) * 2 ^ (31 - S) % 4294967296 * 2 % 4294967296 = 0) := by
        have e : (x0 : Int) * 2 ^ (31 - S) % 4294967296 * 2 % 4294967296 = ((x0 % 2 ^ S * 2 ^ (32 - S) : Nat) : Int) := by
          rw [← hlow, Int.natCast_emod, Int.natCast_mul, Int.natCast_emod, Int.natCast_mul, Int.natCast_pow]; rfl
        by_cases hz : x0 % 2 ^ S = 0
        · right
          refine ⟨Lib.hid hz, ?_⟩
          rw [e, hz, Nat.zero_mul]; rfl
        · left
          refine ⟨_, Nat.mul_pos (by omega) (Nat.pow_pos (by omega)), ?_, Lib.hid hz, e⟩
          rcases Nat.eq_zero_or_pos S with h0 | h0
          · rw [h0] at hz; simp [Nat.mod_one] at hz
          · exact h0
      clear hlow
      rcases hY with ⟨Y, hYp, hSp, hlz, hYe⟩ | ⟨hlz, hYe⟩
      all_goals
        go_enter Tryz.func112, Tryz.ntmps112
        go_wp2_with (go_at_call 113; refine HW.out.mono ?_; rintro e w' ⟨rfl, rfl⟩)
        clear hYe
        go_loop [8, 9] (fun lv iv => ∃ (i : Nat) (b : Bool), i ≤ D ∧ iv = .int .i64 i ∧ lv = .bool b ∧ Hid (b = decide (nv (xs.take i) ≠ 0 ∨ x0 % 2 ^ S ≠ 0))) (fun _ iv => D - (intOf iv).toNat)
        case atStart => exact ⟨0, _, Nat.zero_le _, rfl, rfl, Lib.hid (by simp [nv, hlz.out]; try omega)⟩
        case round =>
          obtain ⟨i, b, hi, rfl, rfl, hbe⟩ := hrel
          by_cases hlt : i < D
          · obtain ⟨ad', hxi, hae, _, hci⟩ := h.at_ (k := i) (by omega)
            injection hae with hae
            subst hae
            have hts := Lib.hid (nv_take_succ hxi)
            cases b
            · by_cases hz : xs[i] = 0
              · go_wp2
                go_round
                case rel => exact ⟨i + 1, false, by omega, by go_num, rfl, Lib.hid (by rw [hbe.out, hts.out, hz, Nat.mul_zero, Nat.add_zero])⟩
                case measure => simp [intOf]; omega
              · have hnz : Hid (nv (xs.take (i + 1)) ≠ 0) := Lib.hid (by
                  rw [hts.out]
                  have : 4294967296 ^ i * 1 ≤ 4294967296 ^ i * xs[i] := Nat.mul_le_mul_left _ (by omega)
                  have : 0 < 4294967296 ^ i := Nat.pow_pos (by omega)
                  omega)
                go_wp2
                go_round
                case rel => exact ⟨i + 1, _, by omega, by go_num, rfl, Lib.hid (by simp [hnz.out, hz])⟩
                case measure => simp [intOf]; omega
            · have hmono : Hid (nv (xs.take i) ≠ 0 ∨ x0 % 2 ^ S ≠ 0 → nv (xs.take (i + 1)) ≠ 0 ∨ x0 % 2 ^ S ≠ 0) := Lib.hid (by
                rw [hts.out]; omega)
              go_wp2
              go_round
              case rel => exact ⟨i + 1, true, by omega, by go_num, rfl, Lib.hid (by have := hbe.out; simp only [true_eq_decide_iff] at *; exact hmono.out this)⟩
              case measure => simp [intOf]; omega
          · have hie : i = D := by omega
            have HB : Hid (b = lostB (nv xs) s) := Lib.hid (by
              rw [hbe.out, hie, lostB, HSD.out]
              refine decide_eq_decide.2 ?_
              rw [HR.out, HX.out])
            subst hie
            go_wp2
            go_loopw [10, 11] (fun v iv wr => ∃ (k : Nat) (acc : List Nat), i + k ≤ t ∧ iv = .int .i64 ((i : Int) + (k : Int)) ∧ Ws acc ∧ Hid (acc.length = k) ∧ Hid (nv acc = nv xs / 2 ^ s % 4294967296 ^ k) ∧ wr.ownsRow w.heap.size 104 1 v k (u32s acc) ∧ Ext w wr) (fun _ iv _ => t - (intOf iv).toNat)
            case atStart => exact ⟨0, [], by omega, val_int (by omega), Ws.nil, Lib.hid rfl, Lib.hid (by simp [nv, Nat.mod_one]), World.ownsRow_nil _ _ _ _, Ext.refl _⟩
            case round =>
              obtain ⟨k, acc, hk, rfl, hacc, hal, hval, hown, hb1⟩ := hrel
              by_cases hlt2 : i + k < t
              · obtain ⟨ad', hxi, hae, _, hci⟩ := (h.ext hb1).at_ (k := i + k) (by omega)
                injection hae with hae
                subst hae
                have hw1 := right_word h.ws hxi (show i ≤ i + k by omega) hS
                rw [← HSD.out, show i + k - i = k by omega] at hw1
                have hx32 := h.ws.get hxi
                generalize xs[i + k] = x at *
                have hy : (i + k + 1 < t ∧ ∃ y : Nat, y < 4294967296 ∧ Hid (y = xs.getD (i + k + 1) 0) ∧ wr.cell? (ad.add (i + k + 1)) = some (.int .u32 (y : Int)) ∧ bits .or .u64 (x : Int) ((y : Int) * 4294967296) = ((x + 4294967296 * y : Nat) : Int)) ∨ (t ≤ i + k + 1 ∧ ∃ y : Nat, y ≤ 0 ∧ Hid (y = xs.getD (i + k + 1) 0)) := by
                  by_cases hl : i + k + 1 < t
                  · obtain ⟨ad', hxj, hae, _, hcj⟩ := (h.ext hb1).at_ (k := i + k + 1) (by omega)
                    injection hae with hae
                    subst hae
                    have hy32 := h.ws.get hxj
                    refine .inl ⟨hl, xs[i + k + 1], hy32, Lib.hid (getD_of hxj), hcj, ?_⟩
                    have e : (xs[i + k + 1] : Int) * 4294967296 = ((xs[i + k + 1] * 4294967296 : Nat) : Int) := by omega
                    rw [e, u64_or_nat _ _ (by omega) (by omega), Nat.or_comm, nat_join 32 _ _ (by omega) (by omega)]
                    omega
                  · exact .inr ⟨by omega, 0, by omega, Lib.hid (by rw [getD_nw h.ws (by have := HT.out; omega)])⟩
                obtain ⟨y, hy32, hyD, hyC⟩ : ∃ y : Nat, y < 4294967296 ∧ Hid (y = xs.getD (i + k + 1) 0) ∧ ((i + k + 1 < t ∧ wr.cell? (ad.add (i + k + 1)) = some (.int .u32 (y : Int)) ∧ bits .or .u64 (x : Int) ((y : Int) * 4294967296) = ((x + 4294967296 * y : Nat) : Int)) ∨ (t ≤ i + k + 1 ∧ y ≤ 0)) := by
                  rcases hy with ⟨hl, y, h1, h2, h3, h4⟩ | ⟨hl, y, h1, h2⟩
                  · exact ⟨y, h1, h2, .inl ⟨hl, h3, h4⟩⟩
                  · exact ⟨y, by omega, h2, .inr ⟨hl, h1⟩⟩
                clear hy
                rw [← hyD.out] at hw1
                obtain ⟨V, hV⟩ : ∃ V, V = x + 4294967296 * y := ⟨_, rfl⟩
                rw [← hV] at hw1 hyC
                have hV64 : V < 18446744073709551616 := by omega
                obtain ⟨Q, hQ⟩ : ∃ Q, Q = V / 2 ^ S := ⟨_, rfl⟩
                have hQV : Q ≤ V := by rw [hQ]; exact Nat.div_le_self _ _
                rw [← hQ] at hw1
                have eQ : (V : Int) / 2 ^ S = (Q : Int) := by rw [hQ]; push_cast; rfl
                obtain ⟨lo, hlo⟩ : ∃ lo, lo = Q % 4294967296 := ⟨_, rfl⟩
                rw [← hlo] at hw1
                have eL := and_mask Q lo (by omega) hlo
                have hlo32 : lo < 4294967296 := by omega
                have HN := Lib.hid (right_step hal.out hval.out hw1.symm)
                clear hw1 hQ hlo
                rcases hyC with ⟨hl, hcj, hor⟩ | ⟨hl, hy0⟩
                · clear hV
                  have hcj2 : wr.cell? { block := ad.block, off := ad.off + (i + k + 1) } = some (.int .u32 (y : Int)) := by simpa [Addr.add] using hcj
                  clear hcj
                  go_wp2_with (at_builtin; refine wp_app32 rfl (.tmp 77) (.tmp 83) rfl lo rfl hown hb1 rfl (by omega) (by omega) ?_; intro v' w1 hown' hE')
                  go_roundw
                  case rel => exact ⟨k + 1, acc ++ [lo], by omega, val_int (by omega), hacc.append (Ws.cons hlo32 Ws.nil), Lib.hid (by simp [hal.out]), HN, hown', hE'⟩
                  case measure => simp [intOf]; omega
                · have hVx : (x : Int) = (V : Int) := by omega
                  rw [hVx] at hci
                  clear hV hVx
                  go_wp2_with (at_builtin; refine wp_app32 rfl (.tmp 77) (.tmp 83) rfl lo rfl hown hb1 rfl (by omega) (by omega) ?_; intro v' w1 hown' hE')
                  go_roundw
                  case rel => exact ⟨k + 1, acc ++ [lo], by omega, val_int (by omega), hacc.append (Ws.cons hlo32 Ws.nil), Lib.hid (by simp [hal.out]), HN, hown', hE'⟩
                  case measure => simp [intOf]; omega
              · have HV : Hid (nv acc = nv xs / 2 ^ s) := Lib.hid (by
                  rw [hval.out]
                  refine Nat.mod_eq_of_lt ?_
                  have h1 := HLT.out
                  rw [pow32] at h1 ⊢
                  refine (Nat.div_lt_iff_lt_mul (Nat.pow_pos (by omega))).2 ?_
                  rw [← Nat.pow_add]
                  exact Nat.lt_of_lt_of_le h1 (Nat.pow_le_pow_right (by omega) (by have := HSD.out; omega)))
                obtain ⟨A', c', rfl, hW⟩ := Wds.of_own hown hacc
                go_wp2_with (go_at_call 88; refine (norm_any _ _ _ _ _ hW (by omega)).mono ?_; rintro e w2 ⟨A2, n2, c2, rfl, hR, hE2⟩)
                go_ret2
                exact ⟨A2, n2, c2, by rw [← HB.out]; rfl, by rw [← HV.out]; exact hR, hb1.trans hE2⟩
    · have HF : Hid (nd (nv xs / 2 ^ s) = []) := Lib.hid (by
        have h1 := HLT.out
        rw [pow32] at h1
        have : nv xs < 2 ^ s := Nat.lt_of_lt_of_le h1 (Nat.pow_le_pow_right (by omega) (by omega))
        rw [Nat.div_eq_of_lt this, nd_zero])
      have HF2 : Hid (lostB (nv xs) s = true) := Lib.hid (by
        have h1 := HLT.out
        rw [pow32] at h1
        have : nv xs < 2 ^ s := Nat.lt_of_lt_of_le h1 (Nat.pow_le_pow_right (by omega) (by omega))
        refine lostB_true ?_
        rw [Nat.mod_eq_of_lt this]
        exact H0.out)
      clear hsD
      rw [HF2.out]
      go_enter Tryz.func112, Tryz.ntmps112
      go_wp2_with (go_at_call 113; refine HW.out.mono ?_; rintro e w' ⟨rfl, rfl⟩)
      go_ret2
      exact ⟨none, 0, 0, rfl, by rw [HF.out]; exact Wds.nil_ (by unfold maxLen; omega), Ext.refl _⟩
end Go.Proofs.YtfbjeifhpmdjaaaGreat
