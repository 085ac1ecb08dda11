/-
 Plain: one word of a quotient: the guess out of the highest words, the product taken away word by word, given back if it was one too many. Conditions: those that each theorem names.
-/
import Derived.Test.YtbcaggdgoidlaaaGreatDoorH14
set_option linter.unusedVariables false
namespace Go.Proofs.YtbcaggdgoidlaaaGreatDoor.Nm
theorem nv_near {l : List Nat} (h : Ws l) {i : Nat} (hi : i ≤ l.length) : nv (l.drop i) * 4294967296 ^ i ≤ nv l ∧ nv l < (nv (l.drop i) + 1) * 4294967296 ^ i := by
 have e := nv_take_drop l i hi
 have hb := nv_lt (h.take i)
 rw [List.length_take, Nat.min_eq_left hi] at hb
 rw [e, Nat.add_mul, Nat.one_mul, Nat.mul_comm (nv (l.drop i))]
 omega
structure DigIn (L0 vs : List Nat) (k n M : Nat) : Prop where
 len : L0.length = M
 room : k + n + 1 ≤ M
 n2 : 2 ≤ n
 vlen : vs.length = n
 ws : Ws L0
 wv : Ws vs
 norm : 4294967296 ^ n ≤ 2 * nv vs
 lt : nv L0 < 4294967296 ^ (k + 1) * nv vs
namespace DigIn
variable {L0 vs : List Nat} {k n M : Nat} (h : DigIn L0 vs k n M)
include h
theorem vpos : 0 < nv vs := by have := h.norm; have : 0 < 4294967296 ^ n := Nat.pow_pos (by omega); omega
theorem q_lt : nv L0 / (4294967296 ^ k * nv vs) < 4294967296 := by
 apply Nat.div_lt_of_lt_mul
 have := h.lt
 rw [Nat.pow_succ] at this
 rw [Nat.mul_right_comm]; exact this
theorem lt_pow : nv L0 < 4294967296 ^ (k + n + 1) := by
 have h1 := h.lt
 have h2 := nv_lt h.wv
 rw [h.vlen] at h2
 have h3 := Nat.mul_le_mul_left (4294967296 ^ (k + 1)) (Nat.le_of_lt h2)
 rw [← Nat.pow_add] at h3
 rw [show k + n + 1 = k + 1 + n by omega]
 omega
theorem high : nv (L0.drop (k + n + 1)) = 0 := by
 rw [← nv_div_pow h.ws (by rw [h.len]; exact h.room)]
 exact Nat.div_eq_of_lt h.lt_pow
theorem v1_eq : nv (vs.drop (n - 1)) = vs.getD (n - 1) 0 := by
 have hn := h.n2
 have hl := h.vlen
 rw [nv_drop_eq (by omega), show n - 1 + 1 = n by omega, List.drop_of_length_le (by omega), nv_nil, getD_of (by omega)]; rfl
theorem v2_eq : nv (vs.drop (n - 2)) = vs.getD (n - 1) 0 * 4294967296 + vs.getD (n - 2) 0 := by
 have hn := h.n2
 have hl := h.vlen
 rw [nv_drop_eq (by omega), show n - 2 + 1 = n - 1 by omega, h.v1_eq, getD_of (by omega), Nat.mul_comm, Nat.add_comm]
theorem t_eq : nv (L0.drop (k + n - 1)) = L0.getD (k + n) 0 * 4294967296 + L0.getD (k + n - 1) 0 := by
 have hn := h.n2
 have hl := h.len
 have hr := h.room
 rw [nv_drop_eq (by omega), show k + n - 1 + 1 = k + n by omega, nv_drop_eq (by omega), h.high, getD_of (by omega), getD_of (by omega), Nat.mul_zero, Nat.add_zero, Nat.mul_comm, Nat.add_comm]
theorem u2_eq : nv (L0.drop (k + n - 2)) = (L0.getD (k + n) 0 * 4294967296 + L0.getD (k + n - 1) 0) * 4294967296 + L0.getD (k + n - 2) 0 := by
 have hn := h.n2
 have hl := h.len
 have hr := h.room
 rw [nv_drop_eq (by omega), show k + n - 2 + 1 = k + n - 1 by omega, h.t_eq, getD_of (by omega)]
 rw [Nat.mul_comm 4294967296, Nat.add_comm]
theorem vnear {i : Nat} (hi : i ≤ n) : nv (vs.drop i) * 4294967296 ^ (k + i) ≤ 4294967296 ^ k * nv vs ∧ 4294967296 ^ k * nv vs < (nv (vs.drop i) + 1) * 4294967296 ^ (k + i) := by
 obtain ⟨h1, h2⟩ := nv_near h.wv (i := i) (by rw [h.vlen]; exact hi)
 have hp : 0 < 4294967296 ^ k := Nat.pow_pos (by omega)
 constructor
 · have := Nat.mul_le_mul_left (4294967296 ^ k) h1
   rw [Nat.pow_add]
   rw [Nat.mul_left_comm] at this
   exact this
 · have := Nat.mul_lt_mul_of_pos_left h2 hp
   rw [Nat.pow_add]
   rw [Nat.mul_left_comm] at this
   exact this
theorem v1_big : 2147483648 ≤ vs.getD (n - 1) 0 := by
 have hn := h.n2
 have h1 := h.norm
 obtain ⟨_, h2⟩ := nv_near h.wv (i := n - 1) (by rw [h.vlen]; omega)
 rw [h.v1_eq] at h2
 have e : 4294967296 ^ n = 4294967296 * 4294967296 ^ (n - 1) := by
   rw [show n = n - 1 + 1 by omega, Nat.pow_succ, Nat.mul_comm]; rfl
 rw [e] at h1
 have h3 : 4294967296 * 4294967296 ^ (n - 1) < (2 * (vs.getD (n - 1) 0 + 1)) * 4294967296 ^ (n - 1) := by
   rw [Nat.mul_assoc]; omega
 have := Nat.lt_of_mul_lt_mul_right h3
 omega
theorem v1_lt : vs.getD (n - 1) 0 < 4294967296 := by
 have hn := h.n2
 rw [← getD_of (by rw [h.vlen]; omega)]
 exact h.wv.get _
theorem un_le : L0.getD (k + n) 0 ≤ vs.getD (n - 1) 0 := by
 have hn := h.n2
 obtain ⟨_, h2⟩ := h.vnear (i := n - 1) (by omega)
 rw [h.v1_eq] at h2
 have h1 := h.lt
 obtain ⟨h3, _⟩ := nv_near h.ws (i := k + n) (by have := h.len; have := h.room; omega)
 have e : nv (L0.drop (k + n)) = L0.getD (k + n) 0 := by
   have hl := h.len
   have hr := h.room
   rw [nv_drop_eq (by omega), h.high, getD_of (by omega), Nat.mul_zero, Nat.add_zero]
 rw [e] at h3
 have h4 : 4294967296 ^ (k + 1) * nv vs < (vs.getD (n - 1) 0 + 1) * 4294967296 ^ (k + n) := by
   have := Nat.mul_lt_mul_of_pos_left h2 (show 0 < 4294967296 by omega)
   rw [← Nat.mul_assoc, ← Nat.mul_assoc, Nat.mul_comm 4294967296 (4294967296 ^ k), ← Nat.pow_succ, Nat.mul_comm 4294967296 (vs.getD (n - 1) 0 + 1), Nat.mul_assoc, Nat.mul_comm 4294967296 (4294967296 ^ (k + (n - 1))), ← Nat.pow_succ, show (k + (n - 1)).succ = k + n by omega] at this
   exact this
 have h5 : L0.getD (k + n) 0 * 4294967296 ^ (k + n) < (vs.getD (n - 1) 0 + 1) * 4294967296 ^ (k + n) := by omega
 have := Nat.lt_of_mul_lt_mul_right h5
 omega
theorem un1_lt : L0.getD (k + n - 1) 0 < 4294967296 := by
 have hn := h.n2
 have hl := h.len
 have hr := h.room
 rw [← getD_of (by omega)]
 exact h.ws.get _
omit h in
theorem cpos (c : Nat) : 0 < 4294967296 ^ c := Nat.pow_pos (by omega)
theorem start {T v1 : Nat} (hT : T = L0.getD (k + n) 0 * 4294967296 + L0.getD (k + n - 1) 0) (hv : v1 = vs.getD (n - 1) 0) : nv L0 / (4294967296 ^ k * nv vs) ≤ T / v1 ∧ T / v1 ≤ 4294967297 := by
 have hn := h.n2
 obtain ⟨h1, _⟩ := h.vnear (i := n - 1) (by omega)
 rw [h.v1_eq, ← hv] at h1
 obtain ⟨_, h2⟩ := nv_near h.ws (i := k + n - 1) (by have := h.len; have := h.room; omega)
 rw [h.t_eq, ← hT, show k + n - 1 = k + (n - 1) by omega] at h2
 have hb := h.v1_big
 have hu := h.un_le
 have hu1 := h.un1_lt
 rw [← hv] at hb hu
 refine ⟨knu_init (w := 0) (DigIn.cpos (k + (n - 1))) h1 h2 (by omega), ?_⟩
 have : T / v1 < 4294967298 := by
   rw [Nat.div_lt_iff_lt_mul (by omega)]
   omega
 omega
theorem less {T v1 v2 u2 x rest : Nat} (hT : T = L0.getD (k + n) 0 * 4294967296 + L0.getD (k + n - 1) 0) (hv : v1 = vs.getD (n - 1) 0) (hv2 : v2 = vs.getD (n - 2) 0) (hu2 : u2 = L0.getD (k + n - 2) 0)
   (hx : x * v1 + rest = T) (hq : nv L0 / (4294967296 ^ k * nv vs) ≤ x) (hc : 4294967296 ≤ x ∨ rest * 4294967296 + u2 < x * v2) : nv L0 / (4294967296 ^ k * nv vs) ≤ x - 1 ∧ 1 ≤ x := by
 rcases hc with hc | hc
 · have := h.q_lt
   exact ⟨by omega, by omega⟩
 · have hn := h.n2
   obtain ⟨h1, _⟩ := h.vnear (i := n - 2) (by omega)
   rw [h.v2_eq, ← hv, ← hv2] at h1
   obtain ⟨_, h2⟩ := nv_near h.ws (i := k + n - 2) (by have := h.len; have := h.room; omega)
   rw [h.u2_eq, ← hT, ← hu2, show k + n - 2 = k + (n - 2) by omega] at h2
   refine ⟨knu_less (DigIn.cpos (k + (n - 2))) h1 h2 ?_ hq, ?_⟩
   · rw [← hx, Nat.add_mul, Nat.mul_add, ← Nat.mul_assoc, Nat.add_assoc]
     exact Nat.add_lt_add_left hc _
   · rcases Nat.eq_zero_or_pos x with e | e
     · rw [e, Nat.zero_mul] at hc; omega
     · exact e
theorem stop {T v1 v2 u2 x rest : Nat} (hT : T = L0.getD (k + n) 0 * 4294967296 + L0.getD (k + n - 1) 0) (hv : v1 = vs.getD (n - 1) 0) (hv2 : v2 = vs.getD (n - 2) 0) (hu2 : u2 = L0.getD (k + n - 2) 0)
   (hx : x * v1 + rest = T) (hq : nv L0 / (4294967296 ^ k * nv vs) ≤ x) (hx1 : x ≤ 4294967297) (hc : 4294967296 ≤ rest ∨ (x < 4294967296 ∧ x * v2 ≤ rest * 4294967296 + u2)) : x < 4294967296 ∧ x ≤ nv L0 / (4294967296 ^ k * nv vs) + 1 := by
 have hn := h.n2
 have hVp : 0 < 4294967296 ^ k * nv vs := Nat.mul_pos (DigIn.cpos k) h.vpos
 have hql := h.q_lt
 rcases hc with hc | ⟨hc1, hc2⟩
 · obtain ⟨_, h1⟩ := h.vnear (i := n - 1) (by omega)
   rw [h.v1_eq, ← hv] at h1
   obtain ⟨h2, _⟩ := nv_near h.ws (i := k + n - 1) (by have := h.len; have := h.room; omega)
   rw [h.t_eq, ← hT, show k + n - 1 = k + (n - 1) by omega] at h2
   have hb := h.v1_big
   have hu := h.un_le
   have hu1 := h.un1_lt
   rw [← hv] at hb hu
   have hx0 : x ≤ 4294967296 := by
     rcases Nat.lt_or_ge 4294967296 x with e | e
     · exfalso
       have e2 : 4294967297 * v1 ≤ x * v1 := Nat.mul_le_mul_right _ e
       have e3 : L0.getD (k + n) 0 * 4294967296 ≤ v1 * 4294967296 := Nat.mul_le_mul_right _ hu
       omega
     · exact e
   have := knu_over (DigIn.cpos (k + (n - 1))) h1 h2 hx hc hx0 hVp
   omega
 · obtain ⟨_, h1⟩ := h.vnear (i := n - 2) (by omega)
   rw [h.v2_eq, ← hv, ← hv2] at h1
   obtain ⟨h2, _⟩ := nv_near h.ws (i := k + n - 2) (by have := h.len; have := h.room; omega)
   rw [h.u2_eq, ← hT, ← hu2, show k + n - 2 = k + (n - 2) by omega] at h2
   obtain ⟨h3, _⟩ := h.vnear (i := n - 1) (by omega)
   rw [h.v1_eq, ← hv] at h3
   have hb := h.v1_big
   rw [← hv] at hb
   have h4 : 4294967296 * 4294967296 ^ (k + (n - 2)) ≤ 4294967296 ^ k * nv vs := by
     have e : 4294967296 * 4294967296 ^ (k + (n - 2)) = 4294967296 ^ (k + (n - 1)) := by
       rw [show k + (n - 1) = k + (n - 2) + 1 by omega, Nat.pow_succ, Nat.mul_comm]
     rw [e]
     have : 1 * 4294967296 ^ (k + (n - 1)) ≤ v1 * 4294967296 ^ (k + (n - 1)) := Nat.mul_le_mul_right _ (by omega)
     omega
   refine ⟨hc1, knu_stand (B := 4294967296) (DigIn.cpos (k + (n - 2))) h1 h4 h2 ?_ hc1 hVp⟩
   rw [← hx, Nat.add_mul, Nat.mul_add, ← Nat.mul_assoc]
   omega
end DigIn
structure TakeRel (L0 vs : List Nat) (k n M x : Nat) (L : List Nat) (i cb : Nat) : Prop where
 len : L.length = M
 ws : Ws L
 val : nv L + 4294967296 ^ k * (x * nv (vs.take i)) = nv L0 + 4294967296 ^ (k + i) * cb
 high : nv (L.drop (k + n + 1)) = 0
theorem TakeRel.zero {L0 vs : List Nat} {k n M x : Nat} (h : DigIn L0 vs k n M) : TakeRel L0 vs k n M x L0 0 0 := ⟨h.len, h.ws, by simp [nv], h.high⟩
theorem word_sub {u s u' hi : Nat} (hu : u < 4294967296) (hs : s ≤ 4294967296) (hu' : u' = (u + 4294967296 - s) % 4294967296) (hhi : hi = if u < s then 1 else 0) : u' + s = u + 4294967296 * hi ∧ u' < 4294967296 := by
 by_cases e : u < s
 · rw [if_pos e] at hhi; subst hhi; omega
 · rw [if_neg e] at hhi; subst hhi; omega
theorem TakeRel.step {L0 vs L : List Nat} {k n M x i carry br y u t lo cr u' hi : Nat} (h : TakeRel L0 vs k n M x L i (carry + br)) (d : DigIn L0 vs k n M) (hi0 : i < n) (hy : y = vs.getD i 0) (hu : u = L.getD (k + i) 0)
   (hbr : br ≤ 1) (ht : t = carry + x * y) (hlo : lo = t % 4294967296) (hcr : cr = t / 4294967296) (hu' : u' = (u + 4294967296 - (lo + br)) % 4294967296) (hhi : hi = if u < lo + br then 1 else 0) :
   TakeRel L0 vs k n M x (L.set (k + i) u') (i + 1) (cr + hi) := by
 have hr := d.room
 have hlen := h.len
 have hu32 : u < 4294967296 := by rw [hu, ← getD_of (by omega)]; exact h.ws.get _
 obtain ⟨e1, e2⟩ := word_sub hu32 (by omega) hu' hhi
 refine ⟨by simpa using hlen, h.ws.set _ e2, ?_, ?_⟩
 · have e3 := nv_set (l := L) (k := k + i) (by omega) u'
   rw [getD_of (by omega), ← hu] at e3
   rw [nv_take_getD, ← hy]
   have hv := h.val
   have e4 : x * y + carry + br + u' = u + 4294967296 * (cr + hi) := by omega
   have e5 := congrArg (4294967296 ^ (k + i) * ·) e4
   rw [show k + (i + 1) = k + i + 1 by omega, Nat.pow_succ, Nat.mul_assoc]
   have e6 : 4294967296 ^ k * (x * (nv (vs.take i) + 4294967296 ^ i * y)) = 4294967296 ^ k * (x * nv (vs.take i)) + 4294967296 ^ (k + i) * (x * y) := by
     rw [Nat.mul_add, Nat.mul_add, Nat.pow_add, Nat.mul_left_comm x, Nat.mul_assoc]
   rw [e6]
   simp only [Nat.mul_add] at e5 hv ⊢
   omega
 · rw [List.drop_set_of_lt (by omega)]; exact h.high
theorem TakeRel.last {L0 vs L : List Nat} {k n M x carry br u u' hi : Nat} (h : TakeRel L0 vs k n M x L n (carry + br)) (d : DigIn L0 vs k n M) (hu : u = L.getD (k + n) 0) (hc : carry < 4294967296) (hbr : br ≤ 1)
   (hu' : u' = (u + 4294967296 - (carry + br)) % 4294967296) (hhi : hi = if u < carry + br then 1 else 0) :
   (L.set (k + n) u').length = M ∧ Ws (L.set (k + n) u') ∧ nv (L.set (k + n) u') + x * (4294967296 ^ k * nv vs) = nv L0 + 4294967296 ^ (k + n + 1) * hi ∧ nv ((L.set (k + n) u').drop (k + n + 1)) = 0 ∧ u' < 4294967296 := by
 have hr := d.room
 have hlen := h.len
 have hu32 : u < 4294967296 := by rw [hu, ← getD_of (by omega)]; exact h.ws.get _
 obtain ⟨e1, e2⟩ := word_sub hu32 (by omega) hu' hhi
 refine ⟨by simpa using hlen, h.ws.set _ e2, ?_, ?_, e2⟩
 · have e3 := nv_set (l := L) (k := k + n) (by omega) u'
   rw [getD_of (by omega), ← hu] at e3
   have hv := h.val
   rw [List.take_of_length_le (by rw [d.vlen]; exact Nat.le_refl _)] at hv
   have e5 := congrArg (4294967296 ^ (k + n) * ·) e1
   rw [Nat.pow_succ, Nat.mul_assoc, Nat.mul_left_comm x]
   simp only [Nat.mul_add] at e5 hv ⊢
   omega
 · rw [List.drop_set_of_lt (by omega)]; exact h.high
theorem pow_of_high {L : List Nat} {j : Nat} (hw : Ws L) (h : nv (L.drop j) = 0) (hj : j ≤ L.length) : nv L < 4294967296 ^ j := by
 have := (nv_near hw hj).2
 rw [h] at this
 omega
theorem dig_fits {L0 vs L : List Nat} {k n M x : Nat} (d : DigIn L0 vs k n M) (hq : nv L0 / (4294967296 ^ k * nv vs) ≤ x) (hv : nv L + x * (4294967296 ^ k * nv vs) = nv L0 + 4294967296 ^ (k + n + 1) * 0) :
   x = nv L0 / (4294967296 ^ k * nv vs) ∧ nv L + nv L0 / (4294967296 ^ k * nv vs) * (4294967296 ^ k * nv vs) = nv L0 := by
 have hVp : 0 < 4294967296 ^ k * nv vs := Nat.mul_pos (DigIn.cpos k) d.vpos
 rw [Nat.mul_zero, Nat.add_zero] at hv
 have h1 : x ≤ nv L0 / (4294967296 ^ k * nv vs) := by rw [Nat.le_div_iff_mul_le hVp]; omega
 have e : x = nv L0 / (4294967296 ^ k * nv vs) := by omega
 rw [← e]
 exact ⟨rfl, by omega⟩
theorem dig_over {L0 vs L : List Nat} {k n M x : Nat} (d : DigIn L0 vs k n M) (hx : x ≤ nv L0 / (4294967296 ^ k * nv vs) + 1) (hv : nv L + x * (4294967296 ^ k * nv vs) = nv L0 + 4294967296 ^ (k + n + 1) * 1) (hw : Ws L) (hl : L.length = M) (hh : nv (L.drop (k + n + 1)) = 0) :
   x = nv L0 / (4294967296 ^ k * nv vs) + 1 := by
 have hVp : 0 < 4294967296 ^ k * nv vs := Nat.mul_pos (DigIn.cpos k) d.vpos
 have hb := pow_of_high hw hh (by rw [hl]; exact d.room)
 have : nv L0 / (4294967296 ^ k * nv vs) < x := by rw [Nat.div_lt_iff_lt_mul hVp]; omega
 omega
structure GiveRel (L1 vs : List Nat) (k n M : Nat) (L : List Nat) (i c : Nat) : Prop where
 len : L.length = M
 ws : Ws L
 val : nv L + 4294967296 ^ (k + i) * c = nv L1 + 4294967296 ^ k * nv (vs.take i)
 high : nv (L.drop (k + n + 1)) = 0
theorem GiveRel.step {L1 vs L : List Nat} {k n M i c y u lo hi : Nat} (h : GiveRel L1 vs k n M L i c) (hr : k + n + 1 ≤ M) (hi0 : i < n) (hy : y = vs.getD i 0) (hu : u = L.getD (k + i) 0)
   (hlo : lo = (u + y + c) % 4294967296) (hhi : hi = (u + y + c) / 4294967296) : GiveRel L1 vs k n M (L.set (k + i) lo) (i + 1) hi := by
 have hlen := h.len
 have e2 : lo < 4294967296 := by omega
 refine ⟨by simpa using hlen, h.ws.set _ e2, ?_, ?_⟩
 · have e3 := nv_set (l := L) (k := k + i) (by omega) lo
   rw [getD_of (by omega), ← hu] at e3
   rw [nv_take_getD, ← hy]
   have hv := h.val
   have e4 : lo + 4294967296 * hi = u + y + c := by omega
   have e5 := congrArg (4294967296 ^ (k + i) * ·) e4
   rw [show k + (i + 1) = k + i + 1 by omega, Nat.pow_succ, Nat.mul_assoc]
   have e6 : 4294967296 ^ k * (nv (vs.take i) + 4294967296 ^ i * y) = 4294967296 ^ k * nv (vs.take i) + 4294967296 ^ (k + i) * y := by
     rw [Nat.mul_add, Nat.pow_add, Nat.mul_assoc]
   rw [e6]
   simp only [Nat.mul_add] at e5 hv ⊢
   omega
 · rw [List.drop_set_of_lt (by omega)]; exact h.high
theorem GiveRel.last {L0 L1 vs L : List Nat} {k n M c u lo : Nat} (h : GiveRel L1 vs k n M L n c) (d : DigIn L0 vs k n M) (hu : u = L.getD (k + n) 0) (hc : c ≤ 1) (hlo : lo = (u + c) % 4294967296)
   (hv1 : nv L1 + (nv L0 / (4294967296 ^ k * nv vs) + 1) * (4294967296 ^ k * nv vs) = nv L0 + 4294967296 ^ (k + n + 1) * 1) :
   (L.set (k + n) lo).length = M ∧ Ws (L.set (k + n) lo) ∧ nv (L.set (k + n) lo) + nv L0 / (4294967296 ^ k * nv vs) * (4294967296 ^ k * nv vs) = nv L0 := by
 have hr := d.room
 have hlen := h.len
 have e2 : lo < 4294967296 := by omega
 have hw : Ws (L.set (k + n) lo) := h.ws.set _ e2
 have hl : (L.set (k + n) lo).length = M := by simpa using hlen
 refine ⟨hl, hw, ?_⟩
 obtain ⟨o, ho⟩ : ∃ o, o = (u + c) / 4294967296 := ⟨_, rfl⟩
 have hu32 : u < 4294967296 := by rw [hu, ← getD_of (by omega)]; exact h.ws.get _
 have ho1 : o ≤ 1 := by omega
 have e3 := nv_set (l := L) (k := k + n) (by omega) lo
 rw [getD_of (by omega), ← hu] at e3
 have hv := h.val
 rw [List.take_of_length_le (by rw [d.vlen]; exact Nat.le_refl _)] at hv
 have e4 : lo + 4294967296 * o = u + c := by omega
 have e5 := congrArg (4294967296 ^ (k + n) * ·) e4
 have hb := pow_of_high (j := k + n + 1) hw (by rw [List.drop_set_of_lt (by omega)]; exact h.high) (by omega)
 have hq := Nat.div_mul_le_self (nv L0) (4294967296 ^ k * nv vs)
 generalize nv L0 / (4294967296 ^ k * nv vs) = q at *
 generalize 4294967296 ^ k * nv vs = V at *
 rw [Nat.add_mul, Nat.one_mul] at hv1
 generalize q * V = qV at *
 rw [Nat.pow_succ] at hb hv1
 generalize 4294967296 ^ (k + n) = C at *
 have : o = 0 ∨ o = 1 := by omega
 rcases this with e | e
 · subst e
   simp only [Nat.mul_add] at e5
   omega
 · subst e
   simp only [Nat.mul_add] at e5
   omega
structure QuoRel (T V n K : Nat) (U q : List Nat) (r : Nat) : Prop where
 ulen : U.length = K + n
 uws : Ws U
 qlen : q.length = K
 qws : Ws q
 val : nv U + nv (q.drop r) * (4294967296 ^ r * V) = T
 lt : nv U < 4294967296 ^ r * V
theorem QuoRel.start {a b s n la K : Nat} {U : List Nat} (hla : a < 4294967296 ^ la) (hb : 4294967296 ^ (n - 1) ≤ b) (hK : K + n = la + 1) (hn : 1 ≤ n) (hl : U.length = K + n) (hw : Ws U) (hU : nv U = a * 2 ^ s) :
   QuoRel (a * 2 ^ s) (b * 2 ^ s) n K U (List.replicate K 0) K := by
 have hs : 0 < 2 ^ s := Nat.pow_pos (by omega)
 refine ⟨hl, hw, by simp, Ws.replicate _ (by omega), ?_, ?_⟩
 · rw [List.drop_of_length_le (by simp), nv_nil, Nat.zero_mul, Nat.add_zero, hU]
 · rw [hU, ← Nat.mul_assoc]
   refine (Nat.mul_lt_mul_right hs).2 ?_
   have h1 : 4294967296 ^ K * 4294967296 ^ (n - 1) ≤ 4294967296 ^ K * b := Nat.mul_le_mul_left _ hb
   rw [← Nat.pow_add, show K + (n - 1) = la by omega] at h1
   omega
theorem QuoRel.dig {T V n K r : Nat} {U q vs : List Nat} (h : QuoRel T V n K U q (r + 1)) (hr : r + 1 ≤ K) (hn : 2 ≤ n) (hv : nv vs = V) (hvl : vs.length = n) (hvw : Ws vs) (hN : 4294967296 ^ n ≤ 2 * nv vs) : DigIn U vs r n (K + n) :=
 ⟨h.ulen, by omega, hn, hvl, h.uws, hvw, hN, by rw [hv]; exact h.lt⟩
theorem QuoRel.step {T V n K r x : Nat} {U U' q : List Nat} (h : QuoRel T V n K U q (r + 1)) (hr : r + 1 ≤ K) (hV : 0 < V) (hx : x = nv U / (4294967296 ^ r * V)) (hx32 : x < 4294967296) (hl : U'.length = K + n) (hw : Ws U')
   (hU : nv U' + nv U / (4294967296 ^ r * V) * (4294967296 ^ r * V) = nv U) : QuoRel T V n K U' (q.set r x) r := by
 have hp : 0 < 4294967296 ^ r * V := Nat.mul_pos (Nat.pow_pos (by omega)) hV
 refine ⟨hl, hw, by simpa using h.qlen, h.qws.set _ hx32, ?_, ?_⟩
 · rw [nv_drop_set_self (by rw [h.qlen]; omega), ← h.val, ← hU, ← hx, Nat.add_mul, Nat.add_assoc]
   congr 1
   congr 1
   rw [Nat.pow_succ]
   simp only [Nat.mul_assoc, Nat.mul_comm, Nat.mul_left_comm]
 · have := Nat.mod_lt (nv U) hp
   have h2 := Nat.div_add_mod (nv U) (4294967296 ^ r * V)
   rw [Nat.mul_comm] at h2
   omega
theorem QuoRel.end_ {a b s n K : Nat} {U q : List Nat} (h : QuoRel (a * 2 ^ s) (b * 2 ^ s) n K U q 0) (hb : 0 < b) : nv q = a / b ∧ nv U = a % b * 2 ^ s := by
 have hs : 0 < 2 ^ s := Nat.pow_pos (by omega)
 have hV : 0 < b * 2 ^ s := Nat.mul_pos hb hs
 have h1 := h.val
 have h2 := h.lt
 rw [List.drop_zero, Nat.pow_zero, Nat.one_mul] at h1
 rw [Nat.pow_zero, Nat.one_mul] at h2
 constructor
 · rw [← Nat.mul_div_mul_right a b hs, ← h1, Nat.mul_comm (nv q), Nat.add_mul_div_left _ _ hV, Nat.div_eq_of_lt h2, Nat.zero_add]
 · rw [← Nat.mul_mod_mul_right, ← h1, Nat.mul_comm (nv q), Nat.add_mul_mod_self_left, Nat.mod_eq_of_lt h2]
end Go.Proofs.YtbcaggdgoidlaaaGreatDoor.Nm
