/-
  The contracts of the reference's naturals, sixth part: quotients. Conditions: those that each theorem names.
-/
import Derived.Test.YtfbjeifhpmdjaaaGreatP09
import Derived.Test.YtfbjeifhpmdjaaaGreatP07
import Derived.Test.YtfbjeifhpmdjaaaGreatP08
namespace Go.Proofs.YtfbjeifhpmdjaaaGreat
open Go.RowKit Nm
set_option maxRecDepth 100000
set_option linter.unusedVariables false
set_option linter.unusedSimpArgs false

set_option maxHeartbeats 1000000 in
theorem guess_any (A : Option Addr) (m c : Nat) (xs : List Nat) (B : Option Addr) (n d : Nat) (ys : List Nat) (w : World) (h : Wds w A m c xs) (k : Wds w B n d ys) (k0 : Nat) (hn : n ≤ 17592186044416) (hnk : k0 + 1 = n) (hm : n + 1 = m)
    (hle : nv ys ≤ nv xs) :
    Calls Tryz.prog 125 #[.slice A m c, .slice B n d] w fun e w' => ∃ g : Nat, e = .returned (.int .u64 (g : Int)) ∧ 1 ≤ g ∧ g * nv ys ≤ nv xs ∧ ∃ q, w' = w.drewN q := by
  have hlx := h.len
  have hly := k.len
  obtain ⟨ad, hx1, rfl, _, hc1⟩ := h.at_ (k := n) (by omega)
  obtain ⟨ad', hx0, hae, _, hc0⟩ := h.at_ (k := k0) (by omega)
  injection hae with hae
  subst hae
  obtain ⟨bd, hy0, rfl, _, hcb⟩ := k.at_ (k := k0) (by omega)
  have hr1 := h.ws.get hx1
  have hr0 := h.ws.get hx0
  have hb0 := k.ws.get hy0
  have l1 : xs.length = k0 + 2 := by omega
  have l2 : ys.length = k0 + 1 := by omega
  obtain ⟨r1, hr1e⟩ : ∃ r1, xs[n] = r1 := ⟨_, rfl⟩
  obtain ⟨r0, hr0e⟩ : ∃ r0, xs[k0] = r0 := ⟨_, rfl⟩
  obtain ⟨b0, hb0e⟩ : ∃ b0, ys[k0] = b0 := ⟨_, rfl⟩
  rw [hr1e] at hc1 hr1
  rw [hr0e] at hc0 hr0
  rw [hb0e] at hcb hb0
  have HG2 : Hid ((r1 * 4294967296 + r0) / (b0 + 1) * nv ys ≤ nv xs) := Lib.hid (guess_le h.ws k.ws l1 l2 (by simp only [hnk]; rw [hr1e, hr0e]) hb0e.symm)
  clear l1 l2 hr1e hr0e hb0e
  have HLE := Lib.hid hle
  clear hle
  obtain ⟨T, hT⟩ : ∃ T, T = r1 * 4294967296 + r0 := ⟨_, rfl⟩
  rw [← hT] at HG2
  have g1 : IntKind.i64.wrap ((n : Int) - 1) = (k0 : Int) := by rw [IntWalk.i64_in _ (by omega)]; omega
  obtain ⟨X, hX⟩ : ∃ X, X = T / (b0 + 1) := ⟨_, rfl⟩
  have hXT : X ≤ T := by rw [hX]; exact Nat.div_le_self _ _
  have g3 : IntKind.u64.wrap ((bits .or .u64 ((r1 : Int) * 4294967296) (r0 : Int)).tdiv ((b0 : Int) + 1)) = (X : Int) := by
    have e : (r1 : Int) * 4294967296 = ((r1 * 4294967296 : Nat) : Int) := by omega
    have e2 : (b0 : Int) + 1 = ((b0 + 1 : Nat) : Int) := by omega
    rw [e, e2, u64_or_nat _ _ (by omega) (by omega), nat_join 32 _ _ (by omega) (by omega), ← hT, ← Int.ofNat_tdiv, IntKind.wrap_u64, ← hX]
    omega
  rw [← hX] at HG2
  clear hX
  have g6 : (0 : Int) ≤ (k0 : Int) := by omega
  have g7 : (k0 : Int) < (n : Int) := by omega
  have g8 : (k0 : Int) < (m : Int) := by omega
  have g9 : (n : Int) < (m : Int) := by omega
  have g10 : (0 : Int) ≤ (n : Int) := by omega
  clear hT hnk hm
  go_enter Tryz.func125, Tryz.ntmps125
  go_wp2
  go_quiet (fail)
  by_cases hz : X = 0
  · have hz0 : X ≤ 0 := by omega
    clear hz
    go_wp2
    go_ret
    exact ⟨1, rfl, Nat.le_refl _, by rw [Nat.one_mul]; exact HLE.out, nq, rfl⟩
  · have hX1 : 1 ≤ X := by omega
    clear hz
    go_wp2
    go_ret
    exact ⟨X, rfl, hX1, HG2.out, nq, rfl⟩

theorem only_drewN {a w : World} {row : Option Nat} (h : a.grownBy w row) (n : Nat) : a.grownBy (w.drewN n) row := ⟨h.os, h.tape, h.output, h.size, h.block⟩
theorem only_setCell {a w : World} {g : Nat} (h : a.grownBy w (some g)) {p : Addr} (hp : p.block = g) (u : Value) : a.grownBy (w.setCell p u) (some g) :=
  ⟨h.os, h.tape, h.output, by simpa [World.setCell] using h.size, fun i hi hne => (Below.heap_setCell w p u i (by
    rintro rfl
    exact hne (by rw [hp]))).trans (h.block i hi hne)⟩

set_option maxHeartbeats 1000000 in
theorem sub_any (g m c : Nat) (L0 : List Nat) (B : Option Addr) (n d : Nat) (ys : List Nat) (x : Nat) (wv w : World) (h : Row w g L0) (hL0 : Ws L0) (hlen : L0.length = m) (hm : m ≤ 17592186044416) (k : Wds wv B n d ys) (hE : Ext wv w) (hg : wv.heap.size ≤ g) (hnm : n ≤ m)
    (hx : x < 4294967296) (hle : x * nv ys ≤ nv L0) :
    Calls Tryz.prog 126 #[.slice (some ⟨g, 0, none⟩) m c, .slice B n d, .int .u64 (x : Int)] w fun e w' => e = .returned (.tuple #[]) ∧ (∃ L, Row w' g L ∧ Ws L ∧ L.length = m ∧ nv L = nv L0 - x * nv ys) ∧ w.grownBy w' (some g) := by
  have hly := k.len
  have HLE := Lib.hid hle
  clear hle
  go_enter Tryz.func126, Tryz.ntmps126
  go_wp2
  go_loopw [6, 7, 8] (fun cv bv iv wr => ∃ (i cr br : Nat) (L : List Nat), i ≤ m ∧ iv = .int .i64 i ∧ cv = .int .u64 (cr : Int) ∧ cr < 4294967296 ∧ bv = .int .u64 (br : Int) ∧ br ≤ 1 ∧ Row wr g L ∧ Ws L ∧ Hid (L.length = m) ∧ Hid (nv L + x * nv (ys.take i) = nv L0 + 4294967296 ^ i * (br + cr)) ∧ w.grownBy wr (some g)) (fun _ _ iv _ => m - (intOf iv).toNat)
  case atStart => exact ⟨0, 0, 0, L0, Nat.zero_le _, rfl, rfl, by omega, rfl, by omega, h, hL0, Lib.hid hlen, Lib.hid (by simp [nv]), World.grownBy.refl w _⟩
  case round =>
    obtain ⟨i, cr, br, L, hi, rfl, rfl, hcr, rfl, hbr, hrow, hL, hLl, hval, hgr⟩ := hrel
    by_cases hlt : i < m
    · have hiL : i < L.length := by rw [hLl.out]; exact hlt
      have hc1 := hrow.cell hiL
      have hf1 := hrow.frozen i
      have ha32 := hL.get hiL
      obtain ⟨a, ha⟩ : ∃ a, L[i] = a := ⟨_, rfl⟩
      rw [ha] at hc1 ha32
      have HA := Lib.hid ha
      clear ha
      have hEr : Ext wv wr := hE.grown hgr (fun q hq => by injection hq with hq; omega)
      have hY : ∃ y : Nat, y < 4294967296 ∧ Hid (y = ys.getD i 0) ∧ ((i < n ∧ ∃ bd, B = some bd ∧ wr.cell? (bd.add i) = some (.int .u32 (y : Int))) ∨ (n ≤ i ∧ y ≤ 0)) := by
        by_cases hl : i < n
        · obtain ⟨bd, hy, e, _, hc⟩ := (k.ext hEr).at_ hl
          exact ⟨ys[i], k.ws.get hy, Lib.hid (getD_of hy), .inl ⟨hl, bd, e, hc⟩⟩
        · exact ⟨0, by omega, Lib.hid (getD_out (by omega)), .inr ⟨by omega, by omega⟩⟩
      obtain ⟨y, hy32, hyD, hyC⟩ := hY
      have hp : y * x ≤ 18446744065119617025 := Nat.le_trans (Nat.mul_le_mul (show y ≤ 4294967295 by omega) (show x ≤ 4294967295 by omega)) (by omega)
      have HS := Lib.hid (fun (lo c' new b' : Nat) h1 h2 => sub_step (lo := lo) (c' := c') (new := new) (b' := b') hiL HA.out hyD.out hval.out h1 h2)
      obtain ⟨p, hpv⟩ : ∃ p, p = y * x := ⟨_, rfl⟩
      have ep : (y : Int) * (x : Int) = (p : Int) := by rw [hpv]; exact (Int.natCast_mul y x).symm
      have hp0 : y ≤ 0 → p ≤ 0 := by
        intro h0
        have : y = 0 := by omega
        rw [hpv, this, Nat.zero_mul]; omega
      rw [← hpv] at hp HS
      clear hpv
      obtain ⟨V, hV⟩ : ∃ V, V = cr + p := ⟨_, rfl⟩
      have hV64 : V < 18446744073709551616 := by omega
      obtain ⟨lo, hlo⟩ : ∃ lo, lo = V % 4294967296 := ⟨_, rfl⟩
      have hlo32 : lo < 4294967296 := by omega
      have eL := and_mask V lo hV64 hlo
      have hc'32 : V / 4294967296 < 4294967296 := by omega
      have hdm : lo + 4294967296 * (V / 4294967296) = cr + p := by omega
      have HS2 := Lib.hid (fun (new b' : Nat) h2 => HS.out lo (V / 4294967296) new b' hdm h2)
      have HVe : (V : Int) = (cr : Int) + (p : Int) := by omega
      have eL2 := eL
      rw [HVe] at eL2
      have hc' : ((cr : Int) + (p : Int)) / 4294967296 = ((V / 4294967296 : Nat) : Int) := by omega
      have HD := Lib.hid hdm
      clear HS hV hlo hdm HVe
      obtain ⟨c', hc'e⟩ : ∃ c', c' = V / 4294967296 := ⟨_, rfl⟩
      rw [← hc'e] at hc' HS2 hc'32 HD
      clear hc'e
      rcases hyC with ⟨hl, bd, rfl, hcy⟩ | ⟨hl, hy0⟩
      · by_cases hb : a < lo + br
        · obtain ⟨N, hN⟩ : ∃ N, N = a + 4294967296 - (lo + br) := ⟨_, rfl⟩
          have eN : (a : Int) + 4294967296 - ((lo : Int) + (br : Int)) = (N : Int) := by omega
          have hN32 : N < 4294967296 := by omega
          have HN := Lib.hid (HS2.out N 1 (by omega))
          have hrow' := hrow.set_ i N
          clear hN
          go_wp2
          go_roundw
          case rel => exact ⟨i + 1, c', 1, _, by omega, by go_num, rfl, hc'32, rfl, by omega, hrow', hL.set _ hN32, Lib.hid (by simp [hLl.out]), HN, only_setCell hgr rfl _⟩
          case measure => simp [intOf]; omega
        · obtain ⟨N, hN⟩ : ∃ N, N = a - (lo + br) := ⟨_, rfl⟩
          have eN : (a : Int) - ((lo : Int) + (br : Int)) = (N : Int) := by omega
          have hN32 : N < 4294967296 := by omega
          have HN := Lib.hid (HS2.out N 0 (by omega))
          have hrow' := hrow.set_ i N
          clear hN
          go_wp2
          go_roundw
          case rel => exact ⟨i + 1, c', 0, _, by omega, by go_num, rfl, hc'32, rfl, by omega, hrow', hL.set _ hN32, Lib.hid (by simp [hLl.out]), HN, only_setCell hgr rfl _⟩
          case measure => simp [intOf]; omega
      · have hp00 := hp0 hy0
        have hlc : lo = cr := by have := HD.out; omega
        have hc0 : c' = 0 := by have := HD.out; omega
        have eC := and_mask cr cr (by omega) (by omega)
        have eD : (cr : Int) / 4294967296 = 0 := by omega
        rw [hlc, hc0] at HS2
        clear eL eL2 hc' hlc hc0 HD hp0 hp00 hp ep
        by_cases hb : a < cr + br
        · obtain ⟨N, hN⟩ : ∃ N, N = a + 4294967296 - (cr + br) := ⟨_, rfl⟩
          have eN : (a : Int) + 4294967296 - ((cr : Int) + (br : Int)) = (N : Int) := by omega
          have hN32 : N < 4294967296 := by omega
          have HN := Lib.hid (HS2.out N 1 (by omega))
          have hrow' := hrow.set_ i N
          clear hN
          go_wp2
          go_roundw
          case rel => exact ⟨i + 1, 0, 1, _, by omega, by go_num, rfl, by omega, rfl, by omega, hrow', hL.set _ hN32, Lib.hid (by simp [hLl.out]), HN, only_setCell hgr rfl _⟩
          case measure => simp [intOf]; omega
        · obtain ⟨N, hN⟩ : ∃ N, N = a - (cr + br) := ⟨_, rfl⟩
          have eN : (a : Int) - ((cr : Int) + (br : Int)) = (N : Int) := by omega
          have hN32 : N < 4294967296 := by omega
          have HN := Lib.hid (HS2.out N 0 (by omega))
          have hrow' := hrow.set_ i N
          clear hN
          go_wp2
          go_roundw
          case rel => exact ⟨i + 1, 0, 0, _, by omega, by go_num, rfl, by omega, rfl, by omega, hrow', hL.set _ hN32, Lib.hid (by simp [hLl.out]), HN, only_setCell hgr rfl _⟩
          case measure => simp [intOf]; omega
    · have hie : i = m := by omega
      have hend := Lib.hid (sub_end hL (hLl.out.trans hie.symm) (by omega) HLE.out hval.out)
      subst hie
      go_wp2
      go_end0
      exact ⟨rfl, ⟨L, hrow, hL, hLl.out, hend.out⟩, hgr⟩

/-- What is answered: two lists, of the words of V and of U. -/
def RetWW (V U : Nat) (w : World) (e : Ending) (w' : World) : Prop :=
  ∃ A n c A2 n2 c2, e = .returned (.tuple #[.slice A n c, .slice A2 n2 c2]) ∧ Wds w' A n c (nd V) ∧ Wds w' A2 n2 c2 (nd U) ∧ Ext w w'

theorem Row.grown {w w' : World} {g g' : Nat} {L : List Nat} (h : Row w g L) (hg : w.grownBy w' (some g')) (hne : g ≠ g') : Row w' g L :=
  (hg.block g h.lt (fun e => hne (by injection e))).trans h

set_option maxHeartbeats 2000000 in
theorem by_any (A : Option Addr) (n c : Nat) (xs : List Nat) (B : Option Addr) (m d : Nat) (ys : List Nat) (w : World) (h : Wds w A n c xs) (hn : n ≤ 4398046511104) (k : Wds w B m d ys) (hm : m ≤ 4398046511104) (hpos : 0 < nv ys) :
    Calls Tryz.prog 106 #[.slice A n c, .slice B m d] w (RetWW (nv xs / nv ys) (nv xs % nv ys) w) := by
  have hlx := h.len
  have hly := k.len
  have hcmp := cmp_any A n c xs B m d ys w h (by omega) k (by omega)
  by_cases hlt : nv xs < nv ys
  · rw [cmpN_lt hlt] at hcmp
    have HC := Lib.hid hcmp
    clear hcmp
    have H1 : Hid (nd (nv xs / nv ys) = []) := Lib.hid (by rw [Nat.div_eq_of_lt hlt, nd_zero])
    have H2 : Hid (nd (nv xs % nv ys) = nd (nv xs)) := Lib.hid (by rw [Nat.mod_eq_of_lt hlt])
    clear hlt
    go_enter Tryz.func106, Tryz.ntmps106
    go_wp2_with fail
    refine HC.out.mono ?_
    rintro e w1 ⟨rfl, q, rfl⟩
    go_wp2_with fail
    refine (norm_any _ _ _ _ _ (h.drewN q) (by omega)).mono ?_
    rintro e w1 ⟨A1, n1, c1, rfl, hR, hE⟩
    go_wp2
    go_ret2
    exact ⟨none, 0, 0, A1, n1, c1, rfl, by rw [H1.out]; exact Wds.nil_ (by unfold maxLen; omega), by rw [H2.out]; exact hR, ((Ext.refl w).drewN q).trans hE⟩
  · have hc0 : 0 ≤ cmpN (nv xs) (nv ys) := by unfold cmpN; rw [if_neg hlt]; split <;> omega
    obtain ⟨cv, hcv⟩ : ∃ cv, cv = cmpN (nv xs) (nv ys) := ⟨_, rfl⟩
    rw [← hcv] at hc0 hcmp
    have HC := Lib.hid hcmp
    clear hcmp hcv hlt
    have hlen := len_any B m d ys
    have hblp := bl_pos (show nv ys ≠ 0 by omega)
    have hblb : bl (nv ys) ≤ 32 * m := (bl_le_iff _ _).2 (by rw [← pow32, ← hly]; exact nv_lt k.ws)
    obtain ⟨L, hL⟩ : ∃ L, L = bl (nv ys) := ⟨_, rfl⟩
    rw [← hL] at hlen hblp hblb
    obtain ⟨s, hs⟩ : ∃ s, s = 31 - (L - 1) % 32 := ⟨_, rfl⟩
    have hs31 : s ≤ 31 := by omega
    have es : 31 - ((L : Int) - 1) % 32 = (s : Int) := by omega
    have HL := Lib.hid hlen
    have HS := Lib.hid (show (L + s) % 32 = 0 by omega)
    have HBL := Lib.hid hL
    have HP := Lib.hid hpos
    clear hlen hs hL hpos
    go_enter Tryz.func106, Tryz.ntmps106
    go_wp2_with fail
    refine HC.out.mono ?_
    rintro e w1 ⟨rfl, q, rfl⟩
    go_wp2_with fail
    refine (HL.out _ (k.drewN q) (by omega)).mono ?_
    rintro e w1 ⟨rfl, rfl⟩
    go_wp2_with fail
    refine (left_any _ _ _ _ s _ (h.drewN q) (by omega) (by omega)).mono ?_
    rintro e w1 ⟨UA, un, uc, rfl, hU, hE1⟩
    go_wp2_with fail
    refine (left_any _ _ _ _ s _ ((k.drewN q).ext hE1) (by omega) (by omega)).mono ?_
    rintro e w2 ⟨VA, vn, vc, rfl, hV, hE2⟩
    have hU2 := hU.ext hE2
    have hE : Ext w w2 := ((Ext.refl w).drewN q).trans (hE1.trans hE2)
    have hul := hU.len
    have hvl := hV.len
    have hunb : un ≤ n + 1 := by
      rw [← hul, nd_length]; exact nw_mul_pow _ _ _ (by rw [← hlx]; exact nv_lt h.ws) (by omega)
    have hvnb : vn ≤ m + 1 := by
      rw [← hvl, nd_length]; exact nw_mul_pow _ _ _ (by rw [← hly]; exact nv_lt k.ws) (by omega)
    have hVbl : Hid (bl (nv ys * 2 ^ s) = L + s) := Lib.hid (by rw [bl_mul_pow s (by have := HP.out; omega), ← HBL.out])
    have hvn1 : 1 ≤ vn := by
      rw [← hvl, nd_length]
      have h1 := nw_bl (nv ys * 2 ^ s)
      rw [hVbl.out] at h1
      omega
    obtain ⟨U, hUe⟩ : ∃ U, U = nv xs * 2 ^ s := ⟨_, rfl⟩
    obtain ⟨V, hVe⟩ : ∃ V, V = nv ys * 2 ^ s := ⟨_, rfl⟩
    rw [← hUe] at hU hU2 hul
    rw [← hVe] at hV hvl hVbl
    have HUE := Lib.hid hUe
    have HVE := Lib.hid hVe
    have hVP : Hid (V < 4294967296 ^ vn) := Lib.hid (by
      have := nv_lt hV.ws
      rw [nv_nd, hvl] at this; exact this)
    have hV0 : 0 < V := by rw [hVe]; exact Nat.mul_pos HP.out (Nat.pow_pos (by omega))
    obtain ⟨us, hus⟩ : ∃ us, us = nd U := ⟨_, rfl⟩
    obtain ⟨vs, hvs⟩ : ∃ vs, vs = nd V := ⟨_, rfl⟩
    have HUV : Hid (nv us = U) := Lib.hid (by rw [hus, nv_nd])
    have HVV : Hid (nv vs = V) := Lib.hid (by rw [hvs, nv_nd])
    rw [← hus] at hU hU2 hul
    rw [← hvs] at hV hvl
    clear hus hvs hUe hVe
    have hmk1 := run_make32 un (by omega)
    have hmk2 := run_make32 (vn + 1) (by omega)
    push_cast at hmk2
    go_wp2
    clear hmk1 hmk2
    have hr1 := (Row.new w2 (List.replicate un 0)).alloc (.cells (u32s (List.replicate (vn + 1) 0)).toArray 104)
    have hr2 := Row.new (w2.alloc (.cells (u32s (List.replicate un 0)).toArray 104)) (List.replicate (vn + 1) 0)
    have hsz : (w2.alloc (.cells (u32s (List.replicate un 0)).toArray 104)).heap.size = w2.heap.size + 1 := by simp
    rw [hsz] at hr2
    clear hsz
    obtain ⟨G, hG⟩ : ∃ G, G = w2.heap.size := ⟨_, rfl⟩
    rw [← hG] at hr1 hr2
    have hGle : w2.heap.size ≤ G := by omega
    rw [← hG]
    have hE2' : Ext w2 ((w2.alloc (.cells (u32s (List.replicate un 0)).toArray 104)).alloc (.cells (u32s (List.replicate (vn + 1) 0)).toArray 104)) := ((Ext.refl w2).alloc _).alloc _
    clear hG
    go_loopw [11] (fun iv wr => ∃ (i : Nat) (Qs Rs : List Nat), i ≤ un ∧ iv = .int .i64 ((i : Int) - 1) ∧ Row wr G Qs ∧ Row wr (G + 1) Rs ∧ Ws Qs ∧ Ws Rs ∧ Hid (Qs.length = un) ∧ Hid (Rs.length = vn + 1) ∧ Hid (nv (us.drop i) = nv (Qs.drop i) * V + nv Rs) ∧ Hid (nv Rs < V) ∧ Ext w2 wr) (fun iv _ => (intOf iv + 1).toNat)
    case atStart => exact ⟨un, _, _, Nat.le_refl _, rfl, hr1, hr2, Ws.replicate _ (by omega), Ws.replicate _ (by omega), Lib.hid (by simp), Lib.hid (by simp), Lib.hid (by
      rw [List.drop_of_length_le (by omega), List.drop_of_length_le (by simp), nv_replicate, nv_nil, Nat.zero_mul]), Lib.hid (by rw [nv_replicate]; exact hV0), hE2'⟩
    case round =>
      obtain ⟨i, Qs, Rs, hi, rfl, hrQ, hrR, hQ, hR, hQl, hRl, hinv, hRV, hEr⟩ := hrel
      obtain ⟨wo, rfl⟩ : ∃ wo : World, wo = wr := ⟨_, rfl⟩
      by_cases hi0 : i = 0
      · have hfin := by_end (a := nv xs) (b := nv ys) (s := s) (q := nv Qs) (R := nv Rs) HP.out (by
          have := hinv.out
          rw [hi0, List.drop_zero, List.drop_zero, HUV.out] at this
          rw [← HUE.out, ← HVE.out]; exact this) (by rw [← HVE.out]; exact hRV.out)
        have H1 := Lib.hid hfin.1
        have H2 := Lib.hid hfin.2
        clear hfin
        have hWR := hrR.wds hR hRl.out (Nat.le_refl _) (by unfold maxLen; omega)
        have hWQ := hrQ.wds hQ hQl.out (Nat.le_refl _) (by unfold maxLen; omega)
        go_wp2_with fail
        refine (right_any _ _ _ _ s _ hWR (by omega) (by omega)).mono ?_
        rintro e w3 ⟨A1, n1, c1, rfl, hR1, hE3⟩
        go_wp2_with fail
        refine (norm_any _ _ _ _ _ (hWQ.ext hE3) (by omega)).mono ?_
        rintro e w4 ⟨A2, n2, c2, rfl, hR2, hE4⟩
        go_wp2
        go_ret2
        exact ⟨A2, n2, c2, A1, n1, c1, rfl, by rw [← H1.out]; exact hR2, by rw [← H2.out]; exact hR1.ext hE4, hE.trans (hEr.trans (hE3.trans hE4))⟩
      · have hi1 : 0 < i := by omega
        have hb1 : decide ((1 : Int) ≤ (i : Int)) = true := decide_eq_true (by omega)
        go_wp2
        go_loopw [12] (fun jv wr => ∃ (j : Nat) (Ms : List Nat), j ≤ vn ∧ jv = .int .i64 j ∧ Row wr G Qs ∧ Row wr (G + 1) Ms ∧ Ws Ms ∧ Hid (Ms.length = vn + 1) ∧ Hid (∀ k, (hk : k < Ms.length) → k ≤ j → Ms[k] = Rs.getD k 0) ∧ Hid (∀ k, (hk : k < Ms.length) → j < k → Ms[k] = Rs.getD (k - 1) 0) ∧ Ext w2 wr) (fun jv _ => (intOf jv).toNat)
        case atStart => exact ⟨vn, Rs, Nat.le_refl _, rfl, hrQ, hrR, hR, hRl, Lib.hid (fun k hk _ => getD_of hk), Lib.hid (fun k hk hlt => by have := hRl.out; omega), hEr⟩
        case round =>
          obtain ⟨j, Ms, hj, rfl, hrQ1, hrM, hM, hMl, hlow, hhigh, hE1r⟩ := hrel
          by_cases hj0 : j = 0
          · obtain ⟨ad, hux, rfl, _, hcu⟩ := (hU2.ext hE1r).at_ (k := i - 1) (by omega)
            have hu32 := hU2.ws.get hux
            have hUD := Lib.hid (nv_drop_eq hux)
            obtain ⟨ux, hux'⟩ : ∃ ux, us[i - 1] = ux := ⟨_, rfl⟩
            rw [hux'] at hcu hu32 hUD
            clear hux'
            have hjz : j ≤ 0 := by omega
            have hb2 : decide (0 < j) = false := decide_eq_false (by omega)
            have hj00 := Lib.hid hj0
            clear hj0
            have hc1 := hrM.cell (i := 0) (by rw [hMl.out]; omega)
            have hf1 := hrM.frozen 0
            have hrM' := hrM.set_ 0 ux
            have hNV : Hid (nv (Ms.set 0 ux) = ux + 4294967296 * nv Rs) := Lib.hid (shifted hR hRl.out hMl.out (fun k hk h0 => by
              have hkr : k - 1 < Rs.length := by have := hRl.out; have := hMl.out; omega
              rw [hhigh.out k hk (by omega), ← getD_of hkr]) hRV.out hVP.out)
            obtain ⟨M0, hM0⟩ : ∃ M0, M0 = Ms.set 0 ux := ⟨_, rfl⟩
            have hM0w : Ws M0 := by rw [hM0]; exact hM.set 0 hu32
            have hM0l : Hid (M0.length = vn + 1) := Lib.hid (by rw [hM0]; simp [hMl.out])
            rw [← hM0] at hrM' hNV
            clear hM0
            have hE1s := hE1r.setCell (p := ⟨G + 1, 0, none⟩) (show w2.heap.size ≤ G + 1 by omega) (.int .u32 (ux : Int))
            have hrQ1' := hrQ1.far (p := ⟨G + 1, 0, none⟩) (show G ≠ G + 1 by omega) (.int .u32 (ux : Int))
            have hPV : Hid (nv M0 < 4294967296 * V) := Lib.hid (by
              have := hRV.out
              rw [hNV.out]; omega)
            obtain ⟨wp, rfl⟩ : ∃ wp : World, wp = wr := ⟨_, rfl⟩
            go_wp2
            go_loopw [13] (fun dv wr => ∃ (dN : Nat) (Ms2 : List Nat), dv = .int .u64 (dN : Int) ∧ Row wr G Qs ∧ Row wr (G + 1) Ms2 ∧ Ws Ms2 ∧ Hid (Ms2.length = vn + 1) ∧ Hid (dN * V + nv Ms2 = nv M0) ∧ dN < 4294967296 ∧ Ext w2 wr) (fun dv _ => 4294967296 - (intOf dv).toNat)
            case atStart => exact ⟨0, M0, rfl, hrQ1', hrM', hM0w, hM0l, Lib.hid (by rw [Nat.zero_mul, Nat.zero_add]), by omega, hE1s⟩
            case round =>
              obtain ⟨dN, Ms2, rfl, hrQ2, hrM2, hM2, hM2l, hdv, hd32, hE2r⟩ := hrel
              have hWM := hrM2.wds hM2 hM2l.out (Nat.le_refl _) (by unfold maxLen; omega)
              have hcm := cmp_any _ _ _ _ _ _ _ _ wr hWM (by omega) (hV.ext hE2r) (by omega)
              rw [HVV.out] at hcm
              by_cases hge : V ≤ nv Ms2
              · have hcc : 0 ≤ cmpN (nv Ms2) V := by unfold cmpN; rw [if_neg (by omega)]; split <;> omega
                obtain ⟨cc, hcce⟩ : ∃ cc, cc = cmpN (nv Ms2) V := ⟨_, rfl⟩
                rw [← hcce] at hcc hcm
                have HCM := Lib.hid hcm
                clear hcm hcce
                go_wp2_with fail
                refine HCM.out.mono ?_
                rintro e w3 ⟨rfl, q3, rfl⟩
                go_wp2_with fail
                refine (guess_any _ _ _ _ _ _ _ _ _ (hWM.drewN q3) ((hV.ext hE2r).drewN q3) (vn - 1) (by omega) (by omega) rfl (by rw [HVV.out]; exact hge)).mono ?_
                rintro e w4 ⟨gN, rfl, hg1, hg2, q4, rfl⟩
                rw [HVV.out] at hg2
                have hg32 : gN < 4294967296 := Nat.lt_of_mul_lt_mul_right (a := V) (by have := hPV.out; have := hdv.out; omega)
                have hdd : (dN + gN) * V + (nv Ms2 - gN * V) = nv M0 := by rw [Nat.add_mul, ← hdv.out]; omega
                have hdd32 : dN + gN < 4294967296 := Nat.lt_of_mul_lt_mul_right (a := V) (by have := hPV.out; omega)
                have HDD := Lib.hid hdd
                clear hdd
                have HG2 := Lib.hid hg2
                clear hg2
                go_wp2_with fail
                refine (sub_any (G + 1) (vn + 1) _ Ms2 VA vn vc vs gN w2 _ (by first | exact hrM2 | exact hrM2.drewN _) hM2 hM2l.out (by omega) hV (by first | exact hE2r.drewN _ | exact (hE2r.drewN _).drewN _) (by omega) (by omega) hg32 (by rw [HVV.out]; exact HG2.out)).mono ?_
                rintro e w5 ⟨rfl, ⟨L5, hr5, hw5, hl5, hv5⟩, hgr5⟩
                rw [HVV.out] at hv5
                have hrQ5 := Row.grown (by first | exact hrQ2 | exact hrQ2.drewN _) hgr5 (show G ≠ G + 1 by omega)
                have hE5 : Ext w2 w5 := Ext.grown (by first | exact hE2r.drewN _ | exact (hE2r.drewN _).drewN _) hgr5 (fun q hq => by injection hq with hq; omega)
                have HV5 := Lib.hid hv5
                have HL5 := Lib.hid hl5
                clear hv5 hl5 hgr5
                go_wp2
                go_roundw
                case rel => exact ⟨dN + gN, L5, val_int (by omega), hrQ5, hr5, hw5, HL5, Lib.hid (by rw [HV5.out]; exact HDD.out), hdd32, hE5⟩
                case measure => simp [intOf]; omega
              · have hlt : nv Ms2 < V := by omega
                rw [cmpN_lt hlt] at hcm
                have HCM := Lib.hid hcm
                have HLT := Lib.hid hlt
                clear hcm hlt hge
                have hql : i - 1 < Qs.length := by rw [hQl.out]; omega
                have hcq := hrQ2.cell hql
                have hfq := hrQ2.frozen (i - 1)
                have hrQ3 := hrQ2.set_ (i - 1) dN
                have hinv' : Hid (nv (us.drop (i - 1)) = nv ((Qs.set (i - 1) dN).drop (i - 1)) * V + nv Ms2) := Lib.hid (by
                  rw [hUD.out, nv_drop_set_self hql, show i - 1 + 1 = i by omega]
                  refine by_step hinv.out ?_
                  rw [hdv.out, hNV.out, Nat.add_comm])
                go_wp2_with fail
                refine HCM.out.mono ?_
                rintro e w3 ⟨rfl, q3, rfl⟩
                go_wp2
                go_roundw
                case rel => exact ⟨i - 1, Qs.set (i - 1) dN, Ms2, by omega, by go_num, by first | exact hrQ3 | exact hrQ3.drewN _, by exact (hrM2.far (p := ⟨G, i - 1, none⟩) (show G + 1 ≠ G by omega) _), hQ.set _ hd32, hM2, Lib.hid (by simp [hQl.out]), hM2l, hinv', HLT, by first | exact (hE2r.setCell (p := ⟨G, i - 1, none⟩) hGle _).drewN _ | exact (hE2r.drewN _).setCell (p := ⟨G, i - 1, none⟩) hGle _⟩
                case measure => simp [intOf]; omega
          · have hj1 : 0 < j := by omega
            clear hj0
            have hjl : j < Ms.length := by rw [hMl.out]; omega
            have hjl1 : j - 1 < Ms.length := by omega
            have hc0 := hrM.cell hjl1
            have hc1 := hrM.cell hjl
            have hf1 := hrM.frozen j
            have hm32 := hM.get hjl1
            have hv1 := Lib.hid (hlow.out (j - 1) hjl1 (by omega))
            obtain ⟨x, hx⟩ : ∃ x, Ms[j - 1] = x := ⟨_, rfl⟩
            rw [hx] at hc0 hm32 hv1
            clear hx
            have hrM' := hrM.set_ j x
            go_wp2
            go_roundw
            case rel => exact ⟨j - 1, _, by omega, by go_num, hrQ1.far (p := ⟨G + 1, j, none⟩) (show G ≠ G + 1 by omega) _, hrM', hM.set _ hm32, Lib.hid (by simp [hMl.out]), Lib.hid (fun k hk hle => by
              rw [List.getElem_set_ne (by omega)]
              exact hlow.out k (by simpa using hk) (by omega)), Lib.hid (fun k hk hlt => by
              by_cases e : k = j
              · subst e
                rw [List.getElem_set_self, hv1.out]
              · rw [List.getElem_set_ne (by omega)]
                exact hhigh.out k (by simpa using hk) (by omega)), hE1r.setCell (p := ⟨G + 1, j, none⟩) (show w2.heap.size ≤ G + 1 by omega) _⟩
            case measure => simp [intOf]; omega
end Go.Proofs.YtfbjeifhpmdjaaaGreat

/-
  The contracts of the reference's ratios. Conditions: those that each theorem names.
-/
namespace Go.Proofs.YtfbjeifhpmdjaaaGreat
open Go.RowKit Nm
set_option maxRecDepth 100000
set_option linter.unusedVariables false
set_option linter.unusedSimpArgs false

theorem nd_one : nd 1 = [1] := by rw [nd_pos (by omega), show 1 / 4294967296 = 0 from rfl, nd_zero]

/-- The list of one word 1, new. -/
theorem one_wds (w : World) {g : Nat} (hg : g = w.heap.size) : Wds (w.alloc (.cells #[.int .u32 1] 104)) (some ⟨g, 0, none⟩) 1 1 [1] := by
  subst hg
  exact (Row.new w [1]).wds (Ws.cons (by omega) Ws.nil) rfl (Nat.le_refl _) (by unfold maxLen; omega)

/-- What is answered: a ratio. -/
def RetR (neg : Bool) (n m : Nat) (w : World) (e : Ending) (w' : World) : Prop :=
  ∃ A l c B k d, e = .returned (.agg #[.bool neg, .slice A l c, .slice B k d]) ∧ Wds w' A l c (nd n) ∧ Wds w' B k d (nd m) ∧ Ext w w'

set_option maxHeartbeats 1000000 in
theorem frac_any (neg : Bool) (A : Option Addr) (n c : Nat) (xs : List Nat) (B : Option Addr) (m d : Nat) (ys : List Nat) (ex : Int) (w : World) (h : Wds w A n c xs) (hn : n ≤ 274877906944) (k : Wds w B m d ys) (hm : m ≤ 274877906944)
    (he1 : -4398046511104 ≤ ex) (he2 : ex ≤ 4398046511104) (hpos : 0 < nv ys) :
    Calls Tryz.prog 79 #[.bool neg, .slice A n c, .slice B m d, .int .i64 ex] w (RetR (neg && decide (nv xs ≠ 0)) (fracN (nv xs) (nv ys) ex) (fracD (nv xs) (nv ys) ex) w) := by
  have hlx := h.len
  have hly := k.len
  have hXl : nv xs < 4294967296 ^ n := by rw [← hlx]; exact nv_lt h.ws
  have hYl : nv ys < 4294967296 ^ m := by rw [← hly]; exact nv_lt k.ws
  by_cases h0 : nv xs = 0
  · have hz : nw (nv xs) ≤ 0 := by rw [h0, nw_zero]; omega
    have HN : Hid (nd (fracN (nv xs) (nv ys) ex) = []) := Lib.hid (by rw [h0, fracN_zero, nd_zero])
    have HD : Hid (nd (fracD (nv xs) (nv ys) ex) = [1]) := Lib.hid (by rw [h0]; simp only [fracD, if_true]; exact nd_one)
    have HB : Hid ((neg && decide (nv xs ≠ 0)) = false) := Lib.hid (by simp [h0])
    clear h0 hXl hYl
    rw [HB.out]
    go_enter Tryz.func79, Tryz.ntmps79
    go_wp2_with fail
    refine (norm_any _ _ _ _ _ (h.alloc _) (by omega)).mono ?_
    rintro e w1 ⟨A1, n1, c1, rfl, hN, hE1⟩
    have hn1 : n1 ≤ 0 := by have := hN.len; rw [nd_length] at this; omega
    go_wp2_with fail
    refine (norm_any _ _ _ _ _ ((k.alloc _).ext hE1) (by omega)).mono ?_
    rintro e w2 ⟨A2, n2, c2, rfl, hM, hE2⟩
    have hblk := ((Blk.new w 38 #[Value.bool false, Value.slice none 0 0, Value.slice none 0 0]).ext hE1).ext hE2
    have hE : Ext w w2 := ((Ext.refl w).alloc _).trans (hE1.trans hE2)
    obtain ⟨G, hG⟩ : ∃ G, G = w.heap.size := ⟨_, rfl⟩
    rw [← hG] at hblk
    rw [← hG]
    have hGl := hblk.lt
    have hGw : w.heap.size ≤ G := by omega
    have q0 : w2.cell? ⟨G, 0, none⟩ = some (.bool false) := hblk.cell 0
    have q1 : w2.cell? ⟨G, 1, none⟩ = some (.slice none 0 0) := hblk.cell 1
    have q2 : w2.cell? ⟨G, 2, none⟩ = some (.slice none 0 0) := hblk.cell 2
    have f0 := hblk.frozen 0
    have f1 := hblk.frozen 1
    have f2 := hblk.frozen 2
    clear hG
    go_wp2
    refine bodyPost_ret (v := .agg #[.bool false, .slice none 0 0, .slice (some ⟨w2.heap.size, 0, none⟩) 1 1]) (by simp [results, Tryz.results79, go_sem, hGl, q0, q1, q2]) rfl ?_
    refine ⟨none, 0, 0, some ⟨w2.heap.size, 0, none⟩, 1, 1, rfl, by rw [HN.out]; exact Wds.nil_ (by unfold maxLen; omega), ?_, (hE.set3 hGw _ _ _).alloc _⟩
    rw [HD.out]
    exact one_wds _ (by simp [World.setCell])
  · have hX0 : 0 < nv xs := by omega
    have HB : Hid ((neg && decide (nv xs ≠ 0)) = neg) := Lib.hid (by simp [h0])
    have HN : Hid (fracN (nv xs) (nv ys) ex = nv xs / 2 ^ tz (nv xs) * 2 ^ (ex + tz (nv xs) - tz (nv ys)).toNat) := Lib.hid (by unfold fracN; rw [if_neg h0])
    have HD : Hid (fracD (nv xs) (nv ys) ex = nv ys / 2 ^ tz (nv ys) * 2 ^ (-(ex + tz (nv xs) - tz (nv ys))).toNat) := Lib.hid (by unfold fracD; rw [if_neg h0])
    have hta : tz (nv xs) ≤ 32 * n := by
      have h1 := tz_lt h0
      have h2 := (bl_le_iff (nv xs) (32 * n)).2 (by rw [← pow32]; exact hXl)
      omega
    have htb : tz (nv ys) ≤ 32 * m := by
      have h1 := tz_lt (show nv ys ≠ 0 by omega)
      have h2 := (bl_le_iff (nv ys) (32 * m)).2 (by rw [← pow32]; exact hYl)
      omega
    have hnx := nw_nv_le h.ws
    have hny := nw_nv_le k.ws
    have hnx1 : 0 < nw (nv xs) := by
      rcases Nat.eq_zero_or_pos (nw (nv xs)) with e | e
      · exact absurd (nw_eq_zero.1 e) h0
      · exact e
    clear h0 hXl hYl
    rw [HB.out]
    have ha1 := norm_any A n c xs (w.alloc (Obj.cells #[Value.bool false, Value.slice none 0 0, Value.slice none 0 0] 38)) (h.alloc _) (by omega)
    have hb1 := fun w' (k' : Wds w' B m d ys) => norm_any B m d ys w' k' (by omega)
    obtain ⟨X, hX⟩ : ∃ X, X = nv xs := ⟨_, rfl⟩
    obtain ⟨Y, hY⟩ : ∃ Y, Y = nv ys := ⟨_, rfl⟩
    rw [← hX, ← hY] at HN HD
    rw [← hX] at ha1 hX0 hta hnx hnx1
    rw [← hY] at hb1 hpos htb hny
    have HA1 := Lib.hid ha1
    have HB1 := Lib.hid hb1
    rw [← hX, ← hY]
    clear ha1 hb1 hX hY
    obtain ⟨a, ha⟩ : ∃ a, a = tz X := ⟨_, rfl⟩
    obtain ⟨b, hb⟩ : ∃ b, b = tz Y := ⟨_, rfl⟩
    rw [← ha, ← hb] at HN HD
    rw [← ha] at hta
    rw [← hb] at htb
    go_enter Tryz.func79, Tryz.ntmps79
    have HAe := Lib.hid ha
    have HBe := Lib.hid hb
    clear ha hb
    go_wp2_with fail
    refine HA1.out.mono ?_
    rintro e w1 ⟨A1, n1, c1, rfl, hN, hE1⟩
    have hn1 : 0 < n1 := by have := hN.len; rw [nd_length] at this; omega
    have hn1b : n1 ≤ n := by have := hN.len; rw [nd_length] at this; omega
    go_wp2_with fail
    refine (HB1.out _ ((k.alloc _).ext hE1)).mono ?_
    rintro e w2 ⟨A2, n2, c2, rfl, hM, hE2⟩
    have hn2b : n2 ≤ m := by have := hM.len; rw [nd_length] at this; omega
    have hblk := ((Blk.new w 38 #[Value.bool false, Value.slice none 0 0, Value.slice none 0 0]).ext hE1).ext hE2
    have hE : Ext w w2 := ((Ext.refl w).alloc _).trans (hE1.trans hE2)
    have hN2 := hN.ext hE2
    obtain ⟨G, hG⟩ : ∃ G, G = w.heap.size := ⟨_, rfl⟩
    rw [← hG] at hblk
    rw [← hG]
    have hGw : w.heap.size ≤ G := by omega
    clear hG hE1 hE2 hN
    have hz1 := zeros_any _ _ _ _ w2 hN2 (by omega)
    rw [nv_nd, ← HAe.out] at hz1
    have HZ1 := Lib.hid hz1
    clear hz1
    go_wp2_with fail
    refine HZ1.out.mono ?_
    rintro e w3 ⟨rfl, rfl⟩
    have hr1 := right_any _ _ _ _ a w2 hN2 (by omega) (by omega)
    rw [nv_nd] at hr1
    have HR1 := Lib.hid hr1
    clear hr1
    go_wp2_with fail
    refine HR1.out.mono ?_
    rintro e w3 ⟨A3, n3, c3, rfl, hP, hE3⟩
    have hM3 := hM.ext hE3
    have hz2 := zeros_any _ _ _ _ w3 hM3 (by omega)
    rw [nv_nd, ← HBe.out] at hz2
    have HZ2 := Lib.hid hz2
    clear hz2
    go_wp2_with fail
    refine HZ2.out.mono ?_
    rintro e w4 ⟨rfl, rfl⟩
    have hr2 := right_any _ _ _ _ b w3 hM3 (by omega) (by omega)
    rw [nv_nd] at hr2
    have HR2 := Lib.hid hr2
    clear hr2
    go_wp2_with fail
    refine HR2.out.mono ?_
    rintro e w4 ⟨A4, n4, c4, rfl, hQ, hE4⟩
    have hP4 := hP.ext hE4
    have hblk4 := (hblk.ext hE3).ext hE4
    have hE4' : Ext w w4 := hE.trans (hE3.trans hE4)
    have hn3b : n3 ≤ n := by
      have h1 := hP.len
      rw [nd_length] at h1
      have h2 := nw_mono (Nat.div_le_self X (2 ^ a))
      omega
    have hn4b : n4 ≤ m := by
      have h1 := hQ.len
      rw [nd_length] at h1
      have h2 := nw_mono (Nat.div_le_self Y (2 ^ b))
      omega
    clear hE3 hE4 hE hblk hP hM hM3 hN2
    rcases Int.lt_trichotomy (ex + a - b) 0 with hlt | heq | hgt
    · obtain ⟨E, hE⟩ : ∃ E : Nat, -(ex + a - b) = E := ⟨(-(ex + a - b)).toNat, by omega⟩
      have hEb : E ≤ 35184372088832 := by omega
      have HE1 : Hid ((ex + a - b).toNat = 0) := Lib.hid (by omega)
      have HE2 : Hid ((-(ex + a - b)).toNat = E) := Lib.hid (by omega)
      have hl := left_any _ _ _ _ E w4 hQ (by omega) (by omega)
      rw [nv_nd] at hl
      have HL := Lib.hid hl
      clear hl
      go_wp2_with fail
      refine HL.out.mono ?_
      rintro e w5 ⟨A5, n5, c5, rfl, hR, hE5⟩
      have hblk5 := hblk4.ext hE5
      have hGl := hblk5.lt
      have q0 : w5.cell? ⟨G, 0, none⟩ = some (.bool false) := hblk5.cell 0
      have q1 : w5.cell? ⟨G, 1, none⟩ = some (.slice none 0 0) := hblk5.cell 1
      have q2 : w5.cell? ⟨G, 2, none⟩ = some (.slice none 0 0) := hblk5.cell 2
      have f0 := hblk5.frozen 0
      have f1 := hblk5.frozen 1
      have f2 := hblk5.frozen 2
      go_wp2
      refine bodyPost_ret (v := .agg #[.bool neg, .slice A3 n3 c3, .slice A5 n5 c5]) (by simp [results, Tryz.results79, go_sem, hGl, q0, q1, q2]) rfl ?_
      exact ⟨_, _, _, _, _, _, rfl, by
        rw [HN.out, HE1.out, Nat.pow_zero, Nat.mul_one]; exact (hP4.ext hE5).set_box3 hblk5 (noInt3 _ _ _ _ _ _ _) (by simp) (by simp), by
        rw [HD.out, HE2.out]; exact hR.set_box3 hblk5 (noInt3 _ _ _ _ _ _ _) (by simp) (by simp), (hE4'.trans hE5).set3 hGw _ _ _⟩
    · have HE1 : Hid ((ex + a - b).toNat = 0) := Lib.hid (by omega)
      have HE2 : Hid ((-(ex + a - b)).toNat = 0) := Lib.hid (by omega)
      have hle1 : ex + a - b ≤ 0 := by omega
      have hle2 : 0 ≤ ex + a - b := by omega
      clear heq
      have hGl := hblk4.lt
      have q0 : w4.cell? ⟨G, 0, none⟩ = some (.bool false) := hblk4.cell 0
      have q1 : w4.cell? ⟨G, 1, none⟩ = some (.slice none 0 0) := hblk4.cell 1
      have q2 : w4.cell? ⟨G, 2, none⟩ = some (.slice none 0 0) := hblk4.cell 2
      have f0 := hblk4.frozen 0
      have f1 := hblk4.frozen 1
      have f2 := hblk4.frozen 2
      go_wp2
      refine bodyPost_ret (v := .agg #[.bool neg, .slice A3 n3 c3, .slice A4 n4 c4]) (by simp [results, Tryz.results79, go_sem, hGl, q0, q1, q2]) rfl ?_
      exact ⟨_, _, _, _, _, _, rfl, by
        rw [HN.out, HE1.out, Nat.pow_zero, Nat.mul_one]; exact hP4.set_box3 hblk4 (noInt3 _ _ _ _ _ _ _) (by simp) (by simp), by
        rw [HD.out, HE2.out, Nat.pow_zero, Nat.mul_one]; exact hQ.set_box3 hblk4 (noInt3 _ _ _ _ _ _ _) (by simp) (by simp), hE4'.set3 hGw _ _ _⟩
    · obtain ⟨E, hE⟩ : ∃ E : Nat, ex + a - b = E := ⟨(ex + a - b).toNat, by omega⟩
      have hEb : E ≤ 35184372088832 := by omega
      have hE0 : 0 < E := by omega
      have HE1 : Hid ((ex + a - b).toNat = E) := Lib.hid (by omega)
      have HE2 : Hid ((-(ex + a - b)).toNat = 0) := Lib.hid (by omega)
      have hl := left_any _ _ _ _ E w4 hP4 (by omega) (by omega)
      rw [nv_nd] at hl
      have HL := Lib.hid hl
      clear hl
      go_wp2_with fail
      refine HL.out.mono ?_
      rintro e w5 ⟨A5, n5, c5, rfl, hR, hE5⟩
      have hblk5 := hblk4.ext hE5
      have hGl := hblk5.lt
      have q0 : w5.cell? ⟨G, 0, none⟩ = some (.bool false) := hblk5.cell 0
      have q1 : w5.cell? ⟨G, 1, none⟩ = some (.slice none 0 0) := hblk5.cell 1
      have q2 : w5.cell? ⟨G, 2, none⟩ = some (.slice none 0 0) := hblk5.cell 2
      have f0 := hblk5.frozen 0
      have f1 := hblk5.frozen 1
      have f2 := hblk5.frozen 2
      go_wp2
      refine bodyPost_ret (v := .agg #[.bool neg, .slice A5 n5 c5, .slice A4 n4 c4]) (by simp [results, Tryz.results79, go_sem, hGl, q0, q1, q2]) rfl ?_
      exact ⟨_, _, _, _, _, _, rfl, by
        rw [HN.out, HE1.out]; exact hR.set_box3 hblk5 (noInt3 _ _ _ _ _ _ _) (by simp) (by simp), by
        rw [HD.out, HE2.out, Nat.pow_zero, Nat.mul_one]; exact (hQ.ext hE5).set_box3 hblk5 (noInt3 _ _ _ _ _ _ _) (by simp) (by simp), (hE4'.trans hE5).set3 hGw _ _ _⟩
end Go.Proofs.YtfbjeifhpmdjaaaGreat
