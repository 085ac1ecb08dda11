/-
 The contracts of the program's Zeros and power. Conditions: those that each theorem names.
-/
import Derived.Test.YtbcaggdgoidlaaaGreatDoorH20
import Derived.Test.YtbcaggdgoidlaaaGreatDoorH21
import Derived.Test.YtbcaggdgoidlaaaGreatDoorH12
import Derived.Test.YtbcaggdgoidlaaaGreatDoorH09
import Derived.Lib.TrailingZeros
namespace Go.Proofs.YtbcaggdgoidlaaaGreatDoor
open Go.RowKit Nm Rn
set_option maxRecDepth 100000
set_option linter.unusedVariables false
set_option linter.unusedSimpArgs false
def Tab (w : World) : Prop := ∀ j, j < 32 → w.cell? ⟨1, j, none⟩ = some (.int .u8 ((Lib.deBruijn32tab.getD j 0 : Nat) : Int))
theorem cell_lt_ {w : World} {p : Addr} {v : Value} (h : w.cell? p = some v) : p.block < w.heap.size := by
 rcases Nat.lt_or_ge p.block w.heap.size with c | c
 · exact c
 · exfalso
   have : w.heap[p.block]? = none := Array.getElem?_eq_none c
   unfold World.cell? at h
   rw [this] at h
   simp at h
theorem Tab.ext {w w' : World} (h : Tab w) (e : Ext w w') : Tab w' := fun j hj => by
 have h1 := h j hj
 have h2 := cell_lt_ h1
 have e' : Below w.heap.size w w' := e
 rw [e'.cell h2]
 exact h1
theorem and_u32n (a b : Nat) (ha : a < 4294967296) (hb : b < 4294967296) : bits .and .u32 (a : Int) (b : Int) = ((a &&& b : Nat) : Int) := u32_and_nat a b ha hb
theorem tz32_key (x a : Nat) (hx : x < 4294967296) (hx0 : x ≠ 0) (hlow : x &&& (4294967296 - x) = a) :
   bits BinOp.and IntKind.u32 (x : Int) (-(x : Int) % 4294967296) * 125613361 % 4294967296 / 134217728 = ((a * 125613361 % 4294967296 / 134217728 : Nat) : Int) := by
 have e1 : -(x : Int) % 4294967296 = ((4294967296 - x : Nat) : Int) := by omega
 rw [e1, and_u32n x _ hx (by omega), hlow]
 omega
set_option maxHeartbeats 1000000 in
theorem tz32_core (x k idx : Nat) (w : World) (hx0 : ((x : Int) == 0) = false)
   (key : bits BinOp.and IntKind.u32 (x : Int) (-(x : Int) % 4294967296) * 125613361 % 4294967296 / 134217728 = (idx : Int))
   (hi : idx < 32) (hk : k < 32) (hcell : w.cell? ⟨1, idx, none⟩ = some (.int .u8 k)) :
   Calls Tryz.prog 95 #[.int .u32 x] w fun e w' => e = .returned (.int .i64 k) ∧ w = w' := by
 go_enter Tryz.func95, Tryz.ntmps95
 go_wp2_with (simp only [key])
 go_ret
 exact ⟨rfl, rfl⟩
theorem tz32_any (x : Nat) (hx : x < 4294967296) (hx0 : x ≠ 0) (w : World) (hT : Tab w) :
   Calls Tryz.prog 95 #[.int .u32 x] w fun e w' => e = .returned (.int .i64 (Lib.ctz 32 x : Nat)) ∧ w = w' := by
 obtain ⟨hlow, hk⟩ := Lib.lowest_bit 32 x hx0 hx
 obtain ⟨hi, htab⟩ := Lib.deBruijn32_at _ hk
 have hcell := hT _ hi
 rw [htab] at hcell
 exact tz32_core x _ _ w (by simp; omega) (tz32_key x _ hx hx0 hlow) hi hk hcell
theorem tz_uniq {n a m : Nat} (h : n = 2 ^ a * m) (hm : m % 2 = 1) : tz n = a := by
 have h0 : n ≠ 0 := fun e => by
   have := Nat.mul_pos (two_pow_pos a) (show 0 < m by omega)
   omega
 obtain ⟨m', h1, h2⟩ := tz_spec h0
 obtain ⟨b, hb⟩ : ∃ b, b = tz n := ⟨_, rfl⟩
 rw [← hb] at h1 ⊢
 rcases Nat.lt_trichotomy b a with g | g | g
 · exfalso
   rw [h, show a = b + (1 + (a - b - 1)) by omega, Nat.pow_add, Nat.mul_assoc] at h1
   have := Nat.eq_of_mul_eq_mul_left (two_pow_pos b) h1
   rw [Nat.pow_add, Nat.pow_one, Nat.mul_assoc] at this
   omega
 · exact g
 · exfalso
   rw [h, show b = a + (1 + (b - a - 1)) by omega, Nat.pow_add, Nat.mul_assoc] at h1
   have := Nat.eq_of_mul_eq_mul_left (two_pow_pos a) h1
   rw [Nat.pow_add, Nat.pow_one, Nat.mul_assoc] at this
   omega
theorem tz_at {xs : List Nat} (h : Ws xs) {k : Nat} (hk : k < xs.length) (hz : nv (xs.take k) = 0) (hx : xs[k] ≠ 0) : tz (nv xs) = 32 * k + Lib.ctz 32 xs[k] := by
 have hx32 : xs[k] < 4294967296 := h.get hk
 have h1 := nv_take_drop xs k (by omega)
 have h2 := nv_drop_eq hk
 obtain ⟨m, hm, hc⟩ := Lib.ctzFrom_spec 32 xs[k] (by omega) hx32
 have he : Lib.ctz 32 xs[k] = Lib.ctzFrom 32 xs[k] := by unfold Lib.ctz; rw [if_neg hx]
 rw [he]
 obtain ⟨c, hcc⟩ : ∃ c, c = Lib.ctzFrom 32 xs[k] := ⟨_, rfl⟩
 rw [← hcc] at hm hc ⊢
 obtain ⟨R, hR⟩ : ∃ R, R = nv (xs.drop (k + 1)) := ⟨_, rfl⟩
 rw [← hR] at h2
 rw [hz, Nat.zero_add, h2, hm] at h1
 refine tz_uniq (m := 2 * m + 1 + 2 ^ (32 - c) * R) ?_ ?_
 · rw [h1, show (4294967296 : Nat) ^ k = 2 ^ (32 * k) by rw [Nat.pow_mul], Nat.pow_add, Nat.mul_assoc]
   congr 1
   have e : (4294967296 : Nat) = 2 ^ c * 2 ^ (32 - c) := by rw [← Nat.pow_add, show c + (32 - c) = 32 by omega]
   rw [Nat.mul_add (2 ^ c) (2 * m + 1), ← Nat.mul_assoc (2 ^ c) (2 ^ (32 - c)) R, ← e]
 · obtain ⟨t, ht⟩ : ∃ t, 32 - c = 1 + t := ⟨31 - c, by omega⟩
   rw [ht, Nat.pow_add, Nat.pow_one, Nat.mul_assoc]
   omega
set_option maxHeartbeats 1000000 in
theorem nzeros_any (A : Option Addr) (n c : Nat) (xs : List Nat) (w : World) (h : Wds w A n c xs) (hn : n ≤ 1099511627776) (hT : Tab w) :
   Calls Tryz.prog 82 #[.slice A n c] w fun e w' => e = .returned (.int .i64 (tz (nv xs) : Nat)) ∧ w = w' := by
 have hlen := h.len
 have HTZ := Lib.hid (fun x hx hx0 => tz32_any x hx hx0 w hT)
 obtain ⟨Z, hZ⟩ : ∃ Z, Z = tz (nv xs) := ⟨_, rfl⟩
 have HZ := Lib.hid hZ
 rw [← hZ]
 clear hZ hT
 go_enter Tryz.func82, Tryz.ntmps82
 go_wp2
 go_loop [7] (fun iv => ∃ k : Nat, k ≤ n ∧ iv = .int .i64 (k : Int) ∧ Hid (nv (xs.take k) = 0)) (fun iv => n - (intOf iv).toNat)
 case atStart => exact ⟨0, by omega, rfl, Lib.hid (by simp [nv])⟩
 case round =>
   obtain ⟨k, hk, rfl, hz⟩ := hrel
   by_cases hkn : k < n
   · obtain ⟨ad, hx, rfl, hb, hc⟩ := h.at_ (k := k) hkn
     have hX := h.ws.get hx
     have hsucc := Lib.hid (nv_take_succ hx)
     by_cases hx0 : xs[k] = 0
     · have hz2 : Hid (nv (xs.take (k + 1)) = 0) := Lib.hid (by rw [hsucc.out, hz.out, hx0]; simp)
       rw [hx0] at hc
       clear hx0 hsucc hX
       go_wp2
       go_round
       case rel => exact ⟨k + 1, by omega, by go_num, hz2⟩
       case measure => simp [intOf]; omega
     · have hq : ((xs[k] : Int) != 0) = true := by rw [bne_iff_ne]; omega
       have HX := Lib.hid (HTZ.out xs[k] hX hx0)
       have HE := Lib.hid (tz_at h.ws hx hz.out hx0)
       have hcb : Lib.ctz 32 xs[k] < 32 := (Lib.lowest_bit 32 xs[k] hx0 hX).2
       obtain ⟨X, hXX⟩ : ∃ X, X = xs[k] := ⟨_, rfl⟩
       rw [← hXX] at hc hq HX HE hcb
       obtain ⟨q, hqq⟩ : ∃ q, q = Lib.ctz 32 X := ⟨_, rfl⟩
       rw [← hqq] at HX HE hcb
       clear hXX hqq hx0 hsucc hX
       go_wp2_with (go_at_call 95; refine HX.out.mono ?_; rintro e w' ⟨rfl, rfl⟩)
       go_ret
       exact ⟨ret_int (by rw [HZ.out, HE.out]; push_cast; rfl), rfl⟩
   · have hke : k = n := by omega
     subst hke
     have hz0 : Z = 0 := by
       rw [HZ.out]
       have := hz.out
       rw [← hlen, List.take_length] at this
       rw [this]
       rfl
     have HZ0 := Lib.hid hz0
     clear hz0
     go_wp2
     go_ret
     exact ⟨ret_int (by rw [HZ0.out]; rfl), rfl⟩
def pwS (s : Bool) (m : Nat) : Bool := s && decide (m % 2 = 1)
set_option maxHeartbeats 2000000 in
theorem rpower_p (d : Int) (s : Bool) (A : Option Addr) (l c : Nat) (sig : Nat) (E : Int) (m : Nat) (w : World) (h : Wds w A l c (nd sig)) (hT : Tab w) (hsg : sig < 9007199254740992) (hE1 : -1074 ≤ E) (hE2 : E ≤ 972) (hm1 : 1 ≤ m) (hm2 : m ≤ 1024) :
   Calls Tryz.prog 68 #[.int .i64 d, .agg #[.bool s, .slice A l c, .int .i64 E], .int .i64 (m : Int)] w (RetFl (ofR d (pwS s m) ((sig / 2 ^ tz sig) ^ m) ((E + tz sig) * m)) w) := by
 have hbl : bl sig ≤ 53 := by rw [bl_le_iff]; have : (2 : Nat) ^ 53 = 9007199254740992 := by decide
                              omega
 have hnw : nw sig ≤ 2 := by have := nw_bl sig; omega
 have hl : l = nw sig := by have := h.len; rw [nd_length] at this; omega
 have htz : tz sig ≤ 53 := by
   by_cases h0 : sig = 0
   · rw [h0]; decide
   · have := tz_lt h0; omega
 have HZE : Hid (∀ w, Wds w A l c (nd sig) → Tab w → Calls Tryz.prog 82 #[.slice A l c] w fun e w' => e = .returned (.int .i64 (tz sig : Nat)) ∧ w = w') := Lib.hid (fun w h hT => by
   have := nzeros_any A l c (nd sig) w h (by omega) hT
   rwa [nv_nd] at this)
 have HSH : Hid (∀ w, Wds w A l c (nd sig) → Calls Tryz.prog 83 #[.slice A l c, .int .i64 (tz sig : Int)] w (RetWBE (sig / 2 ^ tz sig) (lostB sig (tz sig)) 0 w)) := Lib.hid (fun w h => by
   have := nshr_any A l c (nd sig) (tz sig) w h (by omega) (by omega) (by rw [nv_nd]; omega)
   rwa [nv_nd] at this)
 obtain ⟨z, hz⟩ : ∃ z, z = tz sig := ⟨_, rfl⟩
 obtain ⟨O, hO0⟩ : ∃ O, O = sig / 2 ^ tz sig := ⟨_, rfl⟩
 have hOb : bl O ≤ 53 := by
   rw [hO0]
   exact Nat.le_trans (bl_mono (Nat.div_le_self _ _)) hbl
 rw [← hO0] at HSH ⊢
 rw [← hz] at HZE HSH htz ⊢
 have HPW : Hid (∀ (A2 : Option Addr) (l2 c2 : Nat) w, Wds w A2 l2 c2 (nd O) → Calls Tryz.prog 84 #[.slice A2 l2 c2, .int .i64 (m : Int)] w (RetWE (O ^ m) 0 w)) := Lib.hid (fun A2 l2 c2 w h2 => by
   have h3 := h2.len
   rw [nd_length] at h3
   have h4 : nw O ≤ 2 := by have := nw_bl O; omega
   have h5 : bl O * m ≤ 53 * 1024 := Nat.mul_le_mul hOb hm2
   have := npow_any A2 l2 c2 (nd O) m w h2 (by omega) (by omega) (by rw [nv_nd]; omega) (by rw [nv_nd]; omega)
   rwa [nv_nd] at this)
 have hbp : nw (O ^ m) ≤ 4000 := by
   have h1 := lt_pow_bl O
   have h2 : O ^ m ≤ (2 ^ 53) ^ m := Nat.pow_le_pow_left (Nat.le_trans (Nat.le_of_lt h1) (Nat.pow_le_pow_right (by omega) hOb)) m
   rw [← Nat.pow_mul] at h2
   have h3 : 53 * m ≤ 54272 := by omega
   obtain ⟨T, hT'⟩ : ∃ T : Nat, T = 54273 := ⟨_, rfl⟩
   have h4 : bl (O ^ m) ≤ T := by
     rw [bl_le_iff]
     have h5 : 2 ^ (53 * m) < 2 ^ T := Nat.pow_lt_pow_right (by omega) (by omega)
     omega
   have := nw_bl (O ^ m)
   omega
 obtain ⟨V, hV⟩ : ∃ V, V = O ^ m := ⟨_, rfl⟩
 rw [← hV] at HPW hbp ⊢
 obtain ⟨F, hF⟩ : ∃ F : Int, F = (E + z) * m := ⟨_, rfl⟩
 have hFb : -1099776 ≤ F ∧ F ≤ 1126400 := by
   have a1 := Int.mul_le_mul_of_nonneg_right (show E + (z : Int) ≤ 1025 by omega) (show (0 : Int) ≤ (m : Int) by omega)
   have a2 := Int.mul_le_mul_of_nonneg_right (show -1074 ≤ E + (z : Int) by omega) (show (0 : Int) ≤ (m : Int) by omega)
   rw [← hF] at a1 a2
   omega
 have hWF : IntKind.i64.wrap ((E + (z : Int)) * (m : Int)) = F := by
   rw [← hF]
   simp [IntKind.wrap, IntKind.bits, IntKind.signed]
   omega
 have HOF : Hid (∀ (A2 : Option Addr) (l2 c2 : Nat) (t : Bool) w, Wds w A2 l2 c2 (nd V) → Calls Tryz.prog 86 #[.int .i64 d, .bool t, .slice A2 l2 c2, .int .i64 F] w (RetFl (ofR d t V F) w)) := Lib.hid (fun A2 l2 c2 t w h2 => by
   have h3 := h2.len
   rw [nd_length] at h3
   have := rof_any d t A2 l2 c2 (nd V) F w h2 (by omega)
   rwa [nv_nd] at this)
 rw [← hF]
 have hm3 : decide ((m : Int) < 0) = false := decide_eq_false (by omega)
 obtain ⟨par, hpar⟩ : ∃ b, b = decide (m % 2 = 1) := ⟨_, rfl⟩
 have hq : ((m : Int) % 2 == 1) = par := by
   rw [hpar, Bool.eq_iff_iff, beq_iff_eq, decide_eq_true_eq]
   omega
 have hps : pwS s m = (s && par) := by unfold pwS; rw [hpar]
 rw [hps]
 have hO := (Own.start w).add h
 have hf : True := trivial
 have hT' := hT
 clear h hz hO0 hV hF hpar hps hbl hnw hsg hOb hbp hl hT
 cases s
 all_goals
   go_enter Tryz.func68, Tryz.ntmps68
   go_wp2_with (first | ((with_reducible refine at_box ?_); (first | refine own_box (cs := [.bool false, .slice A l c, .int .i64 E]) hO rfl rfl ?_ | refine own_box (cs := [.bool true, .slice A l c, .int .i64 E]) hO rfl rfl ?_); clear hO; intro ga wa hO; clear hf; have hf := hO.cells; simp only [BC, CC, Nat.zero_add, Nat.reduceAdd, and_true] at hf))
   refine (HZE.out _ (hO.wd 0 rfl) (hT'.ext hO.toExt)).mono ?_
   rintro e w' ⟨rfl, rfl⟩
   go_wp2_with fail
   refine (HSH.out _ (hO.wd 0 rfl)).mono ?_
   rintro e w2 ⟨A2, l2, c2, rfl, hW2, hE2⟩
   have hO := (hO.ext hE2).add hW2
   clear hW2 hE2
   clear hf
   have hf := hO.cells
   simp only [BC, CC, Nat.zero_add, Nat.reduceAdd, and_true] at hf
   go_wp2_with fail
   refine (HPW.out _ _ _ _ (hO.wd 0 rfl)).mono ?_
   rintro e w3 ⟨A3, l3, c3, rfl, hW3, hE3⟩
   have hO := (hO.ext hE3).add hW3
   clear hW3 hE3
   clear hf
   have hf := hO.cells
   simp only [BC, CC, Nat.zero_add, Nat.reduceAdd, and_true] at hf
   go_wp2_with fail
   refine (HOF.out _ _ _ _ _ (hO.wd 0 rfl)).mono ?_
   rintro e w4 ⟨r, rfl, hr, hc, hE4⟩
   go_wp2
   go_ret
   exact ⟨r, rfl, hr, by first | exact hc | simpa using hc, hO.toExt.trans hE4⟩
end Go.Proofs.YtbcaggdgoidlaaaGreatDoor
