/-
 Naturals as lists of words of 32 bits, the lowest first: the value of a list, the shortest list of a value.
 Plain arithmetic: no program is in sight. Conditions: none but those that each theorem names.
-/

set_option linter.unusedVariables false
set_option linter.unusedSimpArgs false
namespace Go.Proofs.YtbcaggdgoidlaaaGreatDoor.Nm
def nv : List Nat → Nat
 | [] => 0
 | x :: l => x + 4294967296 * nv l
def ndf : Nat → Nat → List Nat
 | 0, _ => []
 | f + 1, n => if n = 0 then [] else (n % 4294967296) :: ndf f (n / 4294967296)
def nd (n : Nat) : List Nat := ndf (n + 1) n
def nw (n : Nat) : Nat := (nd n).length
theorem ndf_fuel : ∀ (f g n : Nat), n < f → n < g → ndf f n = ndf g n := by
 intro f
 induction f with
 | zero => intro g n h; omega
 | succ f ih =>
   intro g n hf hg
   match g with
   | 0 => omega
   | g + 1 =>
     unfold ndf
     split
     · rfl
     · rw [ih g (n / 4294967296) (by omega) (by omega)]
theorem nd_zero : nd 0 = [] := by simp [nd, ndf]
theorem nd_pos {n : Nat} (h : n ≠ 0) : nd n = (n % 4294967296) :: nd (n / 4294967296) := by
 unfold nd
 rw [show ndf (n + 1) n = if n = 0 then [] else (n % 4294967296) :: ndf n (n / 4294967296) from rfl, if_neg h]
 rw [ndf_fuel n (n / 4294967296 + 1) (n / 4294967296) (by omega) (by omega)]
theorem nv_nil : nv [] = 0 := rfl
theorem nv_cons (x : Nat) (l : List Nat) : nv (x :: l) = x + 4294967296 * nv l := rfl
theorem nv_nd (n : Nat) : nv (nd n) = n := by
 induction n using Nat.strongRecOn with
 | _ n ih =>
   by_cases h : n = 0
   · subst h; rw [nd_zero]; rfl
   · rw [nd_pos h, nv_cons, ih (n / 4294967296) (by omega)]
     omega
theorem nd_lt (n : Nat) : ∀ x ∈ nd n, x < 4294967296 := by
 induction n using Nat.strongRecOn with
 | _ n ih =>
   by_cases h : n = 0
   · subst h; rw [nd_zero]; simp
   · rw [nd_pos h]
     intro x hx
     rcases List.mem_cons.1 hx with e | e
     · omega
     · exact ih (n / 4294967296) (by omega) x e
def Ws (l : List Nat) : Prop := ∀ x ∈ l, x < 4294967296
theorem Ws.nil : Ws [] := by intro x h; cases h
theorem Ws.cons {x : Nat} {l : List Nat} (hx : x < 4294967296) (h : Ws l) : Ws (x :: l) := by
 intro y hy
 rcases List.mem_cons.1 hy with e | e
 · omega
 · exact h y e
theorem Ws.tail {x : Nat} {l : List Nat} (h : Ws (x :: l)) : Ws l := fun y hy => h y (List.mem_cons_of_mem _ hy)
theorem Ws.head {x : Nat} {l : List Nat} (h : Ws (x :: l)) : x < 4294967296 := h x List.mem_cons_self
theorem Ws.take {l : List Nat} (h : Ws l) (k : Nat) : Ws (l.take k) := fun y hy => h y (List.mem_of_mem_take hy)
theorem Ws.drop {l : List Nat} (h : Ws l) (k : Nat) : Ws (l.drop k) := fun y hy => h y (List.mem_of_mem_drop hy)
theorem Ws.get {l : List Nat} (h : Ws l) {k : Nat} (hk : k < l.length) : l[k] < 4294967296 := h _ (List.getElem_mem hk)
theorem Ws.append {l m : List Nat} (h : Ws l) (h' : Ws m) : Ws (l ++ m) := by
 intro y hy
 rcases List.mem_append.1 hy with e | e
 · exact h y e
 · exact h' y e
theorem Ws.nd (n : Nat) : Ws (nd n) := nd_lt n
theorem Ws.set {l : List Nat} (h : Ws l) (k : Nat) {x : Nat} (hx : x < 4294967296) : Ws (l.set k x) := by
 intro y hy
 rcases List.mem_or_eq_of_mem_set hy with e | e
 · exact h y e
 · omega
theorem Ws.replicate (n : Nat) {x : Nat} (hx : x < 4294967296) : Ws (List.replicate n x) := by
 intro y hy
 have := List.eq_of_mem_replicate hy
 omega
theorem nv_append (l m : List Nat) : nv (l ++ m) = nv l + 4294967296 ^ l.length * nv m := by
 induction l with
 | nil => simp [nv]
 | cons x l ih =>
   rw [List.cons_append, nv_cons, ih, nv_cons, List.length_cons, Nat.pow_succ, Nat.mul_add]
   rw [Nat.mul_comm (4294967296 ^ l.length) 4294967296, Nat.mul_assoc]
   omega
theorem nv_lt {l : List Nat} (h : Ws l) : nv l < 4294967296 ^ l.length := by
 induction l with
 | nil => simp [nv]
 | cons x l ih =>
   have h1 := ih h.tail
   have h2 := h.head
   rw [nv_cons, List.length_cons, Nat.pow_succ]
   omega
theorem nv_replicate (n : Nat) : nv (List.replicate n 0) = 0 := by
 induction n with
 | zero => rfl
 | succ n ih => rw [List.replicate_succ, nv_cons, ih]
theorem nv_take_succ {l : List Nat} {k : Nat} (hk : k < l.length) : nv (l.take (k + 1)) = nv (l.take k) + 4294967296 ^ k * l[k] := by
 rw [List.take_succ_eq_append_getElem hk, nv_append, List.length_take, Nat.min_eq_left (by omega)]
 simp [nv]
theorem nv_take_drop (l : List Nat) (k : Nat) (hk : k ≤ l.length) : nv l = nv (l.take k) + 4294967296 ^ k * nv (l.drop k) := by
 have h := nv_append (l.take k) (l.drop k)
 rw [List.take_append_drop, List.length_take, Nat.min_eq_left hk] at h
 exact h
theorem nv_drop_eq {l : List Nat} {k : Nat} (hk : k < l.length) : nv (l.drop k) = l[k] + 4294967296 * nv (l.drop (k + 1)) := by
 rw [List.drop_eq_getElem_cons hk, nv_cons]
theorem nv_eq_zero {l : List Nat} (h : nv l = 0) : ∀ k, (hk : k < l.length) → l[k] = 0 := by
 induction l with
 | nil => intro k hk; simp at hk
 | cons x l ih =>
   rw [nv_cons] at h
   intro k hk
   match k with
   | 0 => simp; omega
   | k + 1 =>
     simp only [List.getElem_cons_succ]
     exact ih (by omega) k (by simpa using hk)
theorem nd_nv {l : List Nat} (h : Ws l) (ht : ∀ k, (hk : k < l.length) → k + 1 = l.length → l[k] ≠ 0) : nd (nv l) = l := by
 induction l with
 | nil => exact nd_zero
 | cons x l ih =>
   have hx := h.head
   have h1 : nd (nv l) = l := ih h.tail fun k hk e => by
     have := ht (k + 1) (by simp; omega) (by simp; omega)
     simpa using this
   have hne : x + 4294967296 * nv l ≠ 0 := by
     intro h0
     have hx0 : x = 0 := by omega
     have hl0 : nv l = 0 := by omega
     rw [hl0, nd_zero] at h1
     have := ht 0 (by simp) (by rw [← h1]; rfl)
     simp at this
     omega
   rw [nv_cons, nd_pos hne]
   have e1 : (x + 4294967296 * nv l) % 4294967296 = x := by omega
   have e2 : (x + 4294967296 * nv l) / 4294967296 = nv l := by omega
   rw [e1, e2, h1]
theorem take_trim {l : List Nat} (h : Ws l) {n : Nat} (hn : n ≤ l.length) (hz : ∀ k, (hk : k < l.length) → n ≤ k → l[k] = 0)
   (ht : ∀ k, (hk : k < l.length) → k + 1 = n → l[k] ≠ 0) : nd (nv l) = l.take n ∧ nw (nv l) = n ∧ nv (l.take n) = nv l := by
 have h0 : nv (l.drop n) = 0 := by
   have : ∀ (m : List Nat), (∀ k, (hk : k < m.length) → m[k] = 0) → nv m = 0 := by
     intro m
     induction m with
     | nil => intro _; rfl
     | cons x m ih =>
       intro hm
       have h1 := hm 0 (by simp)
       have h2 := ih fun k hk => by
         have := hm (k + 1) (by simp; omega)
         simpa using this
       rw [nv_cons, h2]
       simpa using h1
   refine this _ fun k hk => ?_
   rw [List.getElem_drop]
   exact hz (n + k) (by simp at hk; omega) (by omega)
 have hv : nv l = nv (l.take n) := by
   rw [nv_take_drop l n hn, h0]; omega
 have e : nd (nv (l.take n)) = l.take n := by
   refine nd_nv (h.take n) fun k hk hk1 => ?_
   rw [List.getElem_take]
   have hl : (l.take n).length = n := by rw [List.length_take]; omega
   exact ht k (by omega) (by omega)
 refine ⟨by rw [hv, e], ?_, hv.symm⟩
 unfold nw
 rw [hv, e, List.length_take]
 omega
theorem nw_zero : nw 0 = 0 := by simp [nw, nd_zero]
theorem nw_pos {n : Nat} (h : n ≠ 0) : nw n = nw (n / 4294967296) + 1 := by
 unfold nw; rw [nd_pos h]; rfl
theorem nw_eq_zero {n : Nat} : nw n = 0 ↔ n = 0 := by
 constructor
 · intro h
   by_cases e : n = 0
   · exact e
   · rw [nw_pos e] at h; omega
 · intro h; subst h; exact nw_zero
theorem nw_le_iff (n k : Nat) : nw n ≤ k ↔ n < 4294967296 ^ k := by
 induction k generalizing n with
 | zero =>
   rw [Nat.pow_zero]
   constructor
   · intro h; have := nw_eq_zero.1 (Nat.le_zero.1 h); omega
   · intro h
     have : n = 0 := by omega
     subst this
     rw [nw_zero]; omega
 | succ k ih =>
   by_cases e : n = 0
   · subst e
     rw [nw_zero]
     have : 0 < 4294967296 ^ (k + 1) := Nat.pow_pos (by omega)
     omega
   · rw [nw_pos e, Nat.pow_succ]
     have h1 := ih (n / 4294967296)
     constructor
     · intro h
       have := h1.1 (by omega)
       omega
     · intro h
       have := h1.2 (by omega)
       omega
theorem lt_pow_nw (n : Nat) : n < 4294967296 ^ nw n := (nw_le_iff n _).1 (Nat.le_refl _)
theorem pow_le_of_nw {n : Nat} (h : n ≠ 0) : 4294967296 ^ (nw n - 1) ≤ n := by
 have h0 : nw n ≠ 0 := fun e => h (nw_eq_zero.1 e)
 rcases Nat.lt_or_ge n (4294967296 ^ (nw n - 1)) with hlt | hge
 · have := (nw_le_iff n (nw n - 1)).2 hlt
   omega
 · exact hge
theorem nw_mono {a b : Nat} (h : a ≤ b) : nw a ≤ nw b := (nw_le_iff a _).2 (Nat.lt_of_le_of_lt h (lt_pow_nw b))
theorem nw_nv_le {l : List Nat} (h : Ws l) : nw (nv l) ≤ l.length := (nw_le_iff _ _).2 (nv_lt h)
theorem nd_length (n : Nat) : (nd n).length = nw n := rfl
theorem nv_lt_of_top {l m : List Nat} (hl : Ws l) (hlen : l.length = m.length) {k : Nat} (hk : k < l.length)
   (hsame : ∀ j, (hj : j < l.length) → k < j → l[j] = m[j]'(by omega)) (hlt : l[k] < m[k]'(by omega)) : nv l < nv m := by
 have e1 := nv_take_drop l k (by omega)
 have e2 := nv_take_drop m k (by omega)
 have d1 := nv_drop_eq hk
 have d2 := nv_drop_eq (l := m) (k := k) (by omega)
 have hd : l.drop (k + 1) = m.drop (k + 1) := by
   apply List.ext_getElem
   · simp [hlen]
   · intro i h1 h2
     rw [List.getElem_drop, List.getElem_drop]
     simp at h1
     exact hsame _ (by omega) (by omega)
 have b1 := nv_lt (hl.take k)
 rw [List.length_take, Nat.min_eq_left (by omega)] at b1
 rw [e1, e2, d1, d2, hd]
 generalize nv (m.drop (k + 1)) = t at *
 have hle : l[k] + 4294967296 * t + 1 ≤ m[k]'(by omega) + 4294967296 * t := by omega
 have hmul := Nat.mul_le_mul_left (4294967296 ^ k) hle
 rw [Nat.mul_add _ _ 1, Nat.mul_one] at hmul
 omega
def bl (n : Nat) : Nat := if n = 0 then 0 else n.log2 + 1
theorem bl_zero : bl 0 = 0 := rfl
theorem bl_le_iff (n k : Nat) : bl n ≤ k ↔ n < 2 ^ k := by
 unfold bl
 by_cases h : n = 0
 · subst h
   have : 0 < 2 ^ k := Nat.pow_pos (by omega)
   simp [this]
 · rw [if_neg h]
   exact Nat.log2_lt h
theorem lt_pow_bl (n : Nat) : n < 2 ^ bl n := (bl_le_iff n _).1 (Nat.le_refl _)
theorem pow_le_of_bl {n : Nat} (h : n ≠ 0) : 2 ^ (bl n - 1) ≤ n := by
 have h0 : bl n ≠ 0 := by
   intro e
   have := (bl_le_iff n 0).1 (by omega)
   simp at this
   exact h this
 rcases Nat.lt_or_ge n (2 ^ (bl n - 1)) with hlt | hge
 · have := (bl_le_iff n (bl n - 1)).2 hlt
   omega
 · exact hge
theorem bl_eq_of {n k : Nat} (h1 : 2 ^ k ≤ n) (h2 : n < 2 ^ (k + 1)) : bl n = k + 1 := by
 have a := (bl_le_iff n (k + 1)).2 h2
 have b : ¬ bl n ≤ k := fun h => by have := (bl_le_iff n k).1 h; omega
 omega
theorem bl_eq_zero {n : Nat} : bl n = 0 ↔ n = 0 := by
 have := bl_le_iff n 0
 rw [Nat.pow_zero] at this
 omega
theorem bl_pos {n : Nat} (h : n ≠ 0) : 0 < bl n := by
 rcases Nat.eq_zero_or_pos (bl n) with h' | h'
 · exact absurd (bl_eq_zero.1 h') h
 · exact h'
theorem bl_mono {a b : Nat} (h : a ≤ b) : bl a ≤ bl b := (bl_le_iff a _).2 (Nat.lt_of_le_of_lt h (lt_pow_bl b))
theorem bl_half {n : Nat} (h : n ≠ 0) : bl n = bl (n / 2) + 1 := by
 have h1 := pow_le_of_bl h
 have h2 := lt_pow_bl n
 have h0 : bl n ≠ 0 := fun e => h (bl_eq_zero.1 e)
 obtain ⟨k, hk⟩ : ∃ k, bl n = k + 1 := ⟨bl n - 1, by omega⟩
 rw [hk] at h1 h2 ⊢
 simp only [Nat.add_sub_cancel] at h1
 have a := (bl_le_iff (n / 2) k).2 (by rw [Nat.pow_succ] at h2; omega)
 match k with
 | 0 => omega
 | k + 1 =>
   have b : ¬ bl (n / 2) ≤ k := fun hh => by
     have := (bl_le_iff (n / 2) k).1 hh
     rw [Nat.pow_succ] at h1
     omega
   omega
theorem pow32 (k : Nat) : 4294967296 ^ k = 2 ^ (32 * k) := by
 rw [Nat.pow_mul]
theorem bl_mul_pow {n : Nat} (k : Nat) (h : n ≠ 0) : bl (n * 2 ^ k) = bl n + k := by
 have h1 := pow_le_of_bl h
 have h2 := lt_pow_bl n
 obtain ⟨m, hm⟩ : ∃ m, bl n = m + 1 := ⟨bl n - 1, by have := bl_pos h; omega⟩
 rw [hm] at h1 h2 ⊢
 simp only [Nat.add_sub_cancel] at h1
 have e := bl_eq_of (n := n * 2 ^ k) (k := m + k) (by rw [Nat.pow_add]; exact Nat.mul_le_mul_right _ h1)
   (by rw [show m + k + 1 = m + 1 + k by omega, Nat.pow_add]; exact Nat.mul_lt_mul_of_pos_right h2 (Nat.pow_pos (by omega)))
 rw [e]; omega
theorem bl_top {l : List Nat} (h : Ws l) {n : Nat} (hn : l.length = n + 1) (ht : l[n]'(by omega) ≠ 0) : bl (nv l) = 32 * n + bl (l[n]'(by omega)) := by
 have e := nv_take_succ (l := l) (k := n) (by omega)
 rw [List.take_of_length_le (by omega)] at e
 have hb := nv_lt (h.take n)
 rw [List.length_take, Nat.min_eq_left (by omega)] at hb
 generalize l[n]'(by omega) = t at *
 generalize nv (l.take n) = r at *
 rw [pow32] at e hb
 obtain ⟨m, hm⟩ : ∃ m, bl t = m + 1 := ⟨bl t - 1, by have := bl_pos ht; omega⟩
 have h1 := pow_le_of_bl ht
 have h2 := lt_pow_bl t
 rw [hm] at h1 h2 ⊢
 simp only [Nat.add_sub_cancel] at h1
 have hlow : 2 ^ (32 * n + m) ≤ nv l := by
   rw [Nat.pow_add, e]
   have := Nat.mul_le_mul_left (2 ^ (32 * n)) h1
   omega
 have hhigh : nv l < 2 ^ (32 * n + m + 1) := by
   rw [show 32 * n + m + 1 = 32 * n + (m + 1) by omega, Nat.pow_add, e]
   have : 2 ^ (32 * n) * (t + 1) ≤ 2 ^ (32 * n) * 2 ^ (m + 1) := Nat.mul_le_mul_left _ h2
   rw [Nat.mul_add] at this
   omega
 rw [bl_eq_of hlow hhigh]
 omega
theorem nw_bl (n : Nat) : nw n = (bl n + 31) / 32 := by
 have h (k : Nat) : nw n ≤ k ↔ bl n ≤ 32 * k := by rw [nw_le_iff, bl_le_iff, pow32]
 have h1 := (h (nw n)).1 (Nat.le_refl _)
 have h2 := (h ((bl n + 31) / 32)).2 (by omega)
 omega
theorem top_word {xs : List Nat} (h : Ws xs) (h0 : nv xs ≠ 0) : ∃ hk : nw (nv xs) - 1 < xs.length, xs[nw (nv xs) - 1] ≠ 0 ∧ bl (nv xs) = 32 * (nw (nv xs) - 1) + bl xs[nw (nv xs) - 1] := by
 have hn : nw (nv xs) ≠ 0 := fun e => h0 (nw_eq_zero.1 e)
 have hl := nw_nv_le h
 have hv : nv (xs.take (nw (nv xs))) = nv xs := by
   have e := nv_take_drop xs _ hl
   have h1 := lt_pow_nw (nv xs)
   generalize nv (xs.take (nw (nv xs))) = a at *
   rcases Nat.eq_zero_or_pos (nv (xs.drop (nw (nv xs)))) with hz | hz
   · rw [hz] at e; omega
   · have : 4294967296 ^ nw (nv xs) * 1 ≤ 4294967296 ^ nw (nv xs) * nv (xs.drop (nw (nv xs))) := Nat.mul_le_mul_left _ hz
     omega
 have hk : nw (nv xs) - 1 < xs.length := by omega
 refine ⟨hk, ?_⟩
 have ht : xs[nw (nv xs) - 1] ≠ 0 := by
   intro e0
   have e := nv_take_succ hk
   rw [show nw (nv xs) - 1 + 1 = nw (nv xs) by omega, hv, e0] at e
   have hb := nv_lt (h.take (nw (nv xs) - 1))
   rw [List.length_take, Nat.min_eq_left (by omega)] at hb
   have h2 := pow_le_of_nw h0
   omega
 refine ⟨ht, ?_⟩
 have hlen : (xs.take (nw (nv xs))).length = (nw (nv xs) - 1) + 1 := by rw [List.length_take]; omega
 have := bl_top (h.take (nw (nv xs))) hlen (by rw [List.getElem_take]; exact ht)
 rw [hv, List.getElem_take] at this
 exact this
theorem take_nw {xs : List Nat} (h : Ws xs) : nv (xs.take (nw (nv xs))) = nv xs ∧ nd (nv xs) = xs.take (nw (nv xs)) := by
 by_cases h0 : nv xs = 0
 · rw [h0, nw_zero, nd_zero, List.take_zero]
   exact ⟨rfl, rfl⟩
 · obtain ⟨hk, ht, _⟩ := top_word h h0
   have hn : nw (nv xs) ≠ 0 := fun e => h0 (nw_eq_zero.1 e)
   have hl := nw_nv_le h
   have hz : ∀ k, (hk : k < xs.length) → nw (nv xs) ≤ k → xs[k] = 0 := by
     have e := nv_take_drop xs _ hl
     have h1 := lt_pow_nw (nv xs)
     have h0' : nv (xs.drop (nw (nv xs))) = 0 := by
       rcases Nat.eq_zero_or_pos (nv (xs.drop (nw (nv xs)))) with hz | hz
       · exact hz
       · have : 4294967296 ^ nw (nv xs) * 1 ≤ 4294967296 ^ nw (nv xs) * nv (xs.drop (nw (nv xs))) := Nat.mul_le_mul_left _ hz
         omega
     intro k hk hle
     have := nv_eq_zero h0' (k - nw (nv xs)) (by rw [List.length_drop]; omega)
     rw [List.getElem_drop] at this
     simpa [show nw (nv xs) + (k - nw (nv xs)) = k by omega] using this
   have := take_trim h hl hz (fun k hk e => by
     have e : k = nw (nv xs) - 1 := by omega
     subst e; exact ht)
   exact ⟨this.2.2, this.1⟩
theorem nv_div_pow {l : List Nat} (h : Ws l) {k : Nat} (hk : k ≤ l.length) : nv l / 4294967296 ^ k = nv (l.drop k) := by
 have e := nv_take_drop l k hk
 have hb := nv_lt (h.take k)
 rw [List.length_take, Nat.min_eq_left hk] at hb
 rw [e, Nat.add_comm, Nat.mul_comm, Nat.add_comm, Nat.add_mul_div_right _ _ (Nat.pow_pos (by omega)), Nat.div_eq_of_lt hb, Nat.zero_add]
theorem bit_word {l : List Nat} (h : Ws l) {i : Nat} (hi : i / 32 < l.length) : nv l / 2 ^ i % 2 = l[i / 32] / 2 ^ (i % 32) % 2 := by
 have e : 2 ^ i = 4294967296 ^ (i / 32) * 2 ^ (i % 32) := by
   rw [pow32, ← Nat.pow_add]; congr 1; omega
 rw [e, ← Nat.div_div_eq_div_mul, nv_div_pow h (by omega), nv_drop_eq hi]
 generalize nv (l.drop (i / 32 + 1)) = R
 generalize l[i / 32] = x
 have hr : i % 32 < 32 := Nat.mod_lt _ (by omega)
 generalize i % 32 = r at *
 have e2 : 4294967296 * R = 2 ^ r * (2 * (2 ^ (31 - r) * R)) := by
   rw [← Nat.mul_assoc 2, ← Nat.pow_succ', ← Nat.mul_assoc, ← Nat.pow_add, show r + (31 - r + 1) = 32 by omega]
 rw [e2, Nat.add_mul_div_left _ _ (Nat.pow_pos (by omega)), Nat.add_mul_mod_self_left]
theorem nv_take_getD (l : List Nat) (k : Nat) : nv (l.take (k + 1)) = nv (l.take k) + 4294967296 ^ k * l.getD k 0 := by
 by_cases hk : k < l.length
 · rw [nv_take_succ hk]
   simp [List.getD, hk]
 · rw [List.take_of_length_le (by omega), List.take_of_length_le (by omega)]
   simp [List.getD, hk]
theorem sum_step {l m acc : List Nat} {k cr x y lo : Nat} (hacc : acc.length = k) (hx : x = l.getD k 0) (hy : y = m.getD k 0)
   (h : nv acc + 4294967296 ^ k * cr = nv (l.take k) + nv (m.take k)) (hlo : lo = (cr + x + y) % 4294967296) :
   nv (acc ++ [lo]) + 4294967296 ^ (k + 1) * ((cr + x + y) / 4294967296) = nv (l.take (k + 1)) + nv (m.take (k + 1)) := by
 rw [nv_append, nv_take_getD, nv_take_getD, hacc, ← hx, ← hy, nv_cons, nv_nil, hlo, Nat.pow_succ, Nat.mul_zero, Nat.add_zero]
 have e : (cr + x + y) % 4294967296 + 4294967296 * ((cr + x + y) / 4294967296) = cr + x + y := Nat.mod_add_div _ _
 have e2 : 4294967296 ^ k * ((cr + x + y) % 4294967296 + 4294967296 * ((cr + x + y) / 4294967296)) = 4294967296 ^ k * (cr + x + y) := by rw [e]
 rw [Nat.mul_add, ← Nat.mul_assoc] at e2
 rw [Nat.mul_add, Nat.mul_add] at e2
 omega
theorem diff_step {l m acc : List Nat} {k br x y lo b' : Nat} (hacc : acc.length = k) (hx : x = l.getD k 0) (hy : y = m.getD k 0)
   (h : nv acc + nv (m.take k) = nv (l.take k) + 4294967296 ^ k * br) (hlo : lo + (br + y) = x + 4294967296 * b') :
   nv (acc ++ [lo]) + nv (m.take (k + 1)) = nv (l.take (k + 1)) + 4294967296 ^ (k + 1) * b' := by
 rw [nv_append, nv_take_getD, nv_take_getD, hacc, ← hx, ← hy, nv_cons, nv_nil, Nat.pow_succ, Nat.mul_zero, Nat.add_zero, Nat.mul_assoc]
 have e2 : 4294967296 ^ k * (lo + (br + y)) = 4294967296 ^ k * (x + 4294967296 * b') := by rw [hlo]
 rw [Nat.mul_add, Nat.mul_add, Nat.mul_add] at e2
 omega
theorem nv_take_of_lt {m : List Nat} {k : Nat} (h : nv m < 4294967296 ^ k) : nv (m.take k) = nv m := by
 by_cases hk : k ≤ m.length
 · have e := nv_take_drop m k hk
   rcases Nat.eq_zero_or_pos (nv (m.drop k)) with hz | hz
   · rw [hz] at e; omega
   · have : 4294967296 ^ k * 1 ≤ 4294967296 ^ k * nv (m.drop k) := Nat.mul_le_mul_left _ hz
     omega
 · rw [List.take_of_length_le (by omega)]
theorem diff_end {l m acc : List Nat} {k br : Nat} (hl : Ws l) (hacc : Ws acc) (hlen : acc.length = k) (hk : l.length = k) (hle : nv m ≤ nv l)
   (h : nv acc + nv (m.take k) = nv (l.take k) + 4294967296 ^ k * br) : nv acc = nv l - nv m := by
 have h1 := nv_lt hl
 have h2 := nv_lt hacc
 rw [hk] at h1
 rw [hlen] at h2
 rw [nv_take_of_lt (by omega), List.take_of_length_le (by omega)] at h
 rcases Nat.eq_zero_or_pos br with hz | hz
 · rw [hz] at h; omega
 · have : 4294967296 ^ k * 1 ≤ 4294967296 ^ k * br := Nat.mul_le_mul_left _ hz
   omega
theorem getD_of {l : List Nat} {k : Nat} (h : k < l.length) : l[k] = l.getD k 0 := by simp [List.getD, h]
theorem getD_out {l : List Nat} {k : Nat} (h : l.length ≤ k) : 0 = l.getD k 0 := by simp [List.getD, show ¬ k < l.length by omega]
theorem nv_set {l : List Nat} {k : Nat} (hk : k < l.length) (y : Nat) : nv (l.set k y) + 4294967296 ^ k * l[k] = nv l + 4294967296 ^ k * y := by
 induction l generalizing k with
 | nil => simp at hk
 | cons x l ih =>
   match k with
   | 0 =>
     simp only [List.set_cons_zero, nv_cons, List.getElem_cons_zero, Nat.pow_zero, Nat.one_mul]
     omega
   | k + 1 =>
     have := ih (k := k) (by simpa using hk)
     simp only [List.set_cons_succ, nv_cons, List.getElem_cons_succ, Nat.pow_succ]
     rw [Nat.mul_comm (4294967296 ^ k) 4294967296, Nat.mul_assoc, Nat.mul_assoc]
     omega
theorem nv_set2 {l : List Nat} {k a lo hi v : Nat} (hk : k + 1 < l.length) (ha : l[k] = a) (h0 : l[k + 1] = 0) (hv : lo + 4294967296 * hi = v) :
   nv ((l.set k (a + lo)).set (k + 1) hi) = nv l + 4294967296 ^ k * v := by
 have h1 := nv_set (l := l) (k := k) (by omega) (a + lo)
 have h2 := nv_set (l := l.set k (a + lo)) (k := k + 1) (by simpa using hk) hi
 rw [List.getElem_set_ne (by omega), h0] at h2
 rw [ha] at h1
 rw [← hv, Nat.mul_add]
 rw [Nat.mul_zero, Nat.add_zero, Nat.pow_succ, Nat.mul_assoc] at h2
 rw [Nat.mul_add] at h1
 rw [h2]
 generalize 4294967296 ^ k * (4294967296 * hi) = t1 at *
 generalize 4294967296 ^ k * lo = t2 at *
 generalize 4294967296 ^ k * a = t3 at *
 omega
theorem right_mod {l : List Nat} (h : Ws l) {D S : Nat} (hD : D < l.length) (hS : S < 32) : nv l % 2 ^ (32 * D + S) ≠ 0 ↔ nv (l.take D) ≠ 0 ∨ l[D] % 2 ^ S ≠ 0 := by
 have e := nv_take_drop l D (by omega)
 rw [nv_drop_eq hD] at e
 have hb := nv_lt (h.take D)
 rw [List.length_take, Nat.min_eq_left (by omega)] at hb
 have hp : 2 ^ (32 * D + S) = 4294967296 ^ D * 2 ^ S := by rw [pow32, ← Nat.pow_add]
 have hm : nv l % 2 ^ (32 * D + S) = nv (l.take D) + 4294967296 ^ D * (l[D] % 2 ^ S) := by
   have e1 : 4294967296 * nv (l.drop (D + 1)) = 2 ^ S * (2 ^ (32 - S) * nv (l.drop (D + 1))) := by
     rw [← Nat.mul_assoc, ← Nat.pow_add, show S + (32 - S) = 32 by omega]
   have e2 : (l[D] + 4294967296 * nv (l.drop (D + 1))) % 2 ^ S = l[D] % 2 ^ S := by rw [e1, Nat.add_mul_mod_self_left]
   rw [hp, Nat.mod_mul, e, Nat.add_mul_mod_self_left, Nat.mod_eq_of_lt hb, Nat.add_mul_div_left _ _ (Nat.pow_pos (by omega)), Nat.div_eq_of_lt hb, Nat.zero_add, e2]
 have hpp : 0 < 4294967296 ^ D := Nat.pow_pos (by omega)
 rw [hm]
 constructor
 · intro hne
   by_cases h1 : nv (l.take D) = 0
   · right
     intro h2
     rw [h1, h2] at hne
     simp at hne
   · exact Or.inl h1
 · intro hor
   rcases hor with h1 | h1
   · omega
   · have : 4294967296 ^ D * 1 ≤ 4294967296 ^ D * (l[D] % 2 ^ S) := Nat.mul_le_mul_left _ (by omega)
     omega
theorem right_word {l : List Nat} (h : Ws l) {D S i : Nat} (hi : i < l.length) (hD : D ≤ i) (hS : S < 32) :
   nv l / 2 ^ (32 * D + S) / 4294967296 ^ (i - D) % 4294967296 = (l[i] + 4294967296 * l.getD (i + 1) 0) / 2 ^ S % 4294967296 := by
 have hp : 2 ^ (32 * D + S) * 4294967296 ^ (i - D) = 4294967296 ^ i * 2 ^ S := by
   rw [pow32, pow32, ← Nat.pow_add, ← Nat.pow_add]; congr 1; omega
 rw [Nat.div_div_eq_div_mul, hp, ← Nat.div_div_eq_div_mul, nv_div_pow h (by omega), nv_drop_eq hi]
 have hd : nv (l.drop (i + 1)) = l.getD (i + 1) 0 + 4294967296 * nv (l.drop (i + 2)) := by
   by_cases h2 : i + 1 < l.length
   · rw [nv_drop_eq h2, getD_of h2]
   · rw [List.drop_of_length_le (by omega), List.drop_of_length_le (by omega), ← getD_out (l := l) (k := i + 1) (by omega)]; rfl
 rw [hd]
 generalize nv (l.drop (i + 2)) = R
 generalize l.getD (i + 1) 0 = y
 generalize l[i] = x
 have e : x + 4294967296 * (y + 4294967296 * R) = x + 4294967296 * y + 2 ^ S * (4294967296 * (2 ^ (32 - S) * R)) := by
   have : 2 ^ S * (4294967296 * (2 ^ (32 - S) * R)) = 4294967296 * (4294967296 * R) := by
     have e1 : 2 ^ S * (4294967296 * (2 ^ (32 - S) * R)) = 4294967296 * ((2 ^ S * 2 ^ (32 - S)) * R) := by
       simp only [Nat.mul_assoc, Nat.mul_comm, Nat.mul_left_comm]
     rw [e1, ← Nat.pow_add, show S + (32 - S) = 32 by omega]
   rw [this, Nat.mul_add]
   omega
 rw [e, Nat.add_mul_div_left _ _ (Nat.pow_pos (by omega)), Nat.add_mul_mod_self_left]
theorem right_step {acc : List Nat} {Q k lo : Nat} (hl : acc.length = k) (h : nv acc = Q % 4294967296 ^ k) (hlo : lo = Q / 4294967296 ^ k % 4294967296) :
   nv (acc ++ [lo]) = Q % 4294967296 ^ (k + 1) := by
 rw [nv_append, hl, h, Nat.mod_pow_succ, hlo]
 simp [nv]
def tzf : Nat → Nat → Nat
 | 0, _ => 0
 | f + 1, n => if n = 0 then 0 else if n % 2 = 1 then 0 else tzf f (n / 2) + 1
def tz (n : Nat) : Nat := tzf n n
theorem tzf_spec : ∀ (f n : Nat), n ≤ f → n ≠ 0 → ∃ m, n = 2 ^ tzf f n * m ∧ m % 2 = 1 := by
 intro f
 induction f with
 | zero => intro n h h0; omega
 | succ f ih =>
   intro n h h0
   unfold tzf
   rw [if_neg h0]
   split
   · exact ⟨n, by simp, by assumption⟩
   · obtain ⟨m, h1, h2⟩ := ih (n / 2) (by omega) (by omega)
     refine ⟨m, ?_, h2⟩
     rw [Nat.pow_succ, Nat.mul_comm _ 2, Nat.mul_assoc, ← h1]
     omega
theorem tz_spec {n : Nat} (h : n ≠ 0) : ∃ m, n = 2 ^ tz n * m ∧ m % 2 = 1 := tzf_spec n n (Nat.le_refl _) h
theorem tz_zero : tz 0 = 0 := rfl
theorem tz_bit {n : Nat} (h : n ≠ 0) : n / 2 ^ tz n % 2 = 1 := by
 obtain ⟨m, h1, h2⟩ := tz_spec h
 generalize tz n = t at *
 rw [h1, Nat.mul_div_cancel_left _ (Nat.pow_pos (by omega))]
 exact h2
theorem tz_low {n k : Nat} (h : n ≠ 0) (hk : k < tz n) : n / 2 ^ k % 2 = 0 := by
 obtain ⟨m, h1, h2⟩ := tz_spec h
 generalize tz n = t at *
 obtain ⟨d, rfl⟩ : ∃ d, t = k + (d + 1) := ⟨t - k - 1, by omega⟩
 rw [h1, Nat.pow_add, Nat.mul_assoc, Nat.mul_div_cancel_left _ (Nat.pow_pos (by omega)), Nat.pow_succ, Nat.mul_comm _ 2, Nat.mul_assoc]
 omega
theorem tz_lt {n : Nat} (h : n ≠ 0) : tz n < bl n := by
 obtain ⟨m, h1, h2⟩ := tz_spec h
 have hm : 1 ≤ m := by omega
 have hl := lt_pow_bl n
 have : 2 ^ tz n * 1 ≤ 2 ^ tz n * m := Nat.mul_le_mul_left _ hm
 rw [← h1] at this
 exact (Nat.pow_lt_pow_iff_right (a := 2) (by omega)).1 (by omega)
theorem tz_word {l : List Nat} (h : Ws l) (h0 : nv l ≠ 0) {j : Nat} (hj : 32 * j ≤ tz (nv l)) :
   ∃ hl : j < l.length, (l[j] = 0 → 32 * (j + 1) ≤ tz (nv l)) ∧ (32 * (j + 1) ≤ tz (nv l) → l[j] = 0) := by
 have hlt : tz (nv l) / 32 < l.length := by
   have h1 := tz_lt h0
   have h2 := (bl_le_iff (nv l) (32 * l.length)).2 (by rw [← pow32]; exact nv_lt h)
   omega
 refine ⟨by omega, fun hz => ?_, fun hle => ?_⟩
 · rcases Nat.lt_or_ge (tz (nv l)) (32 * (j + 1)) with hl | hl
   · have hb := tz_bit h0
     have e : tz (nv l) / 32 = j := by omega
     rw [bit_word h (by omega)] at hb
     simp only [e, hz, Nat.zero_div] at hb
     omega
   · exact hl
 · obtain ⟨m, h1, _⟩ := tz_spec h0
   have hd := nv_div_pow h (k := j) (by omega)
   rw [nv_drop_eq (by omega), h1, pow32] at hd
   obtain ⟨d, hd'⟩ : ∃ d, tz (nv l) = 32 * j + (32 + d) := ⟨tz (nv l) - 32 * j - 32, by omega⟩
   rw [hd', Nat.pow_add, Nat.mul_assoc, Nat.mul_div_cancel_left _ (Nat.pow_pos (by omega)), Nat.pow_add, Nat.mul_assoc] at hd
   have := h.get (k := j) (by omega)
   have e2 : 2 ^ 32 = 4294967296 := rfl
   rw [e2] at hd
   omega
theorem shl_low (x : Nat) {S : Nat} (hS : S < 32) : x * 2 ^ (31 - S) % 4294967296 * 2 % 4294967296 = x % 2 ^ S * 2 ^ (32 - S) := by
 rw [Nat.mod_mul_mod, Nat.mul_assoc, ← Nat.pow_succ, show (31 - S).succ = 32 - S by omega]
 have e : 4294967296 = 2 ^ S * 2 ^ (32 - S) := by rw [← Nat.pow_add, show S + (32 - S) = 32 by omega]
 rw [show x * 2 ^ (32 - S) % 4294967296 = x * 2 ^ (32 - S) % (2 ^ S * 2 ^ (32 - S)) by rw [← e], Nat.mul_mod_mul_right]
theorem getD_nw {l : List Nat} (h : Ws l) {j : Nat} (hj : nw (nv l) ≤ j) : l.getD j 0 = 0 := by
 by_cases hl : j < l.length
 · have e := nv_take_drop l (nw (nv l)) (nw_nv_le h)
   have h1 := (take_nw h).1
   rw [h1] at e
   have hp : 0 < 4294967296 ^ nw (nv l) := Nat.pow_pos (by omega)
   have hz : nv (l.drop (nw (nv l))) = 0 := by
     rcases Nat.eq_zero_or_pos (nv (l.drop (nw (nv l)))) with hz | hz
     · exact hz
     · have : 4294967296 ^ nw (nv l) * 1 ≤ 4294967296 ^ nw (nv l) * nv (l.drop (nw (nv l))) := Nat.mul_le_mul_left _ hz
       omega
   have h2 := nv_eq_zero hz (j - nw (nv l)) (by rw [List.length_drop]; omega)
   rw [List.getElem_drop] at h2
   rw [← getD_of hl]
   simpa [show nw (nv l) + (j - nw (nv l)) = j by omega] using h2
 · exact (getD_out (by omega)).symm
theorem guess_le {l m : List Nat} (hl : Ws l) (hm : Ws m) {k : Nat} (h1 : l.length = k + 2) (h2 : m.length = k + 1) {T B : Nat}
   (hT : T = l[k + 1]'(by omega) * 4294967296 + l[k]'(by omega)) (hB : B = m[k]'(by omega)) : T / (B + 1) * nv m ≤ nv l := by
 have e1 := nv_take_drop l k (by omega)
 rw [nv_drop_eq (by omega), nv_drop_eq (by omega), List.drop_of_length_le (by omega), nv_nil, Nat.mul_zero, Nat.add_zero] at e1
 have e2 := nv_take_drop m k (by omega)
 rw [nv_drop_eq (by omega), List.drop_of_length_le (by omega), nv_nil, Nat.mul_zero, Nat.add_zero] at e2
 have hb := nv_lt (hm.take k)
 rw [List.length_take, Nat.min_eq_left (by omega)] at hb
 rw [← hB] at e2
 have e3 : l[k]'(by omega) + 4294967296 * l[k + 1]'(by omega) = T := by rw [hT, Nat.mul_comm]; omega
 rw [e3] at e1
 have hmle : nv m ≤ (B + 1) * 4294967296 ^ k := by
   rw [e2, Nat.add_mul, Nat.one_mul, Nat.mul_comm B]; omega
 have h3 : T / (B + 1) * nv m ≤ T / (B + 1) * ((B + 1) * 4294967296 ^ k) := Nat.mul_le_mul_left _ hmle
 have h4 : T / (B + 1) * (B + 1) ≤ T := Nat.div_mul_le_self _ _
 have h5 := Nat.mul_le_mul_right (4294967296 ^ k) h4
 rw [← Nat.mul_assoc] at h3
 rw [Nat.mul_comm T] at h5
 omega
theorem sub_step {L0 L ys : List Nat} {x i br c y lo c' new b' a : Nat} (hi : i < L.length) (ha : L[i] = a) (hy : y = ys.getD i 0)
   (h : nv L + x * nv (ys.take i) = nv L0 + 4294967296 ^ i * (br + c)) (hc : lo + 4294967296 * c' = c + y * x) (hn : new + (lo + br) = a + 4294967296 * b') :
   nv (L.set i new) + x * nv (ys.take (i + 1)) = nv L0 + 4294967296 ^ (i + 1) * (b' + c') := by
 have h1 := nv_set hi new
 rw [ha] at h1
 rw [nv_take_getD, ← hy, Nat.mul_add, Nat.pow_succ, Nat.mul_assoc]
 have e1 : 4294967296 ^ i * (new + (lo + br)) = 4294967296 ^ i * (a + 4294967296 * b') := by rw [hn]
 have e2 : 4294967296 ^ i * (lo + 4294967296 * c') = 4294967296 ^ i * (c + y * x) := by rw [hc]
 have e3 : x * (4294967296 ^ i * y) = 4294967296 ^ i * (y * x) := by simp only [Nat.mul_assoc, Nat.mul_comm, Nat.mul_left_comm]
 rw [e3]
 simp only [Nat.mul_add] at e1 e2 h ⊢
 generalize 4294967296 ^ i * (4294967296 * c') = t1 at *
 generalize 4294967296 ^ i * (4294967296 * b') = t2 at *
 generalize 4294967296 ^ i * (y * x) = t3 at *
 generalize 4294967296 ^ i * new = t4 at *
 generalize 4294967296 ^ i * lo = t5 at *
 generalize 4294967296 ^ i * br = t6 at *
 generalize 4294967296 ^ i * a = t7 at *
 generalize 4294967296 ^ i * c = t8 at *
 clear hc hn e3
 omega
theorem sub_end {L0 L ys : List Nat} {x i e : Nat} (hL : Ws L) (hlen : L.length = i) (hys : ys.length ≤ i) (hle : x * nv ys ≤ nv L0)
   (h : nv L + x * nv (ys.take i) = nv L0 + 4294967296 ^ i * e) : nv L = nv L0 - x * nv ys := by
 rw [List.take_of_length_le hys] at h
 have h1 := nv_lt hL
 rw [hlen] at h1
 rcases Nat.eq_zero_or_pos e with hz | hz
 · rw [hz] at h; omega
 · have : 4294967296 ^ i * 1 ≤ 4294967296 ^ i * e := Nat.mul_le_mul_left _ hz
   omega
theorem by_step {U V Q R d u R' : Nat} (h : U = Q * V + R) (hd : d * V + R' = 4294967296 * R + u) : u + 4294967296 * U = (d + 4294967296 * Q) * V + R' := by
 rw [h, Nat.mul_add, Nat.add_mul, ← Nat.mul_assoc]
 omega
theorem by_end {a b s q R : Nat} (hb : 0 < b) (h : a * 2 ^ s = q * (b * 2 ^ s) + R) (hR : R < b * 2 ^ s) : q = a / b ∧ R / 2 ^ s = a % b := by
 have hp : 0 < 2 ^ s := Nat.pow_pos (by omega)
 have h1 : (a * 2 ^ s) / (b * 2 ^ s) = q := by
   rw [h, Nat.mul_comm q, Nat.mul_add_div (Nat.mul_pos hb hp), Nat.div_eq_of_lt hR, Nat.add_zero]
 have h2 : (a * 2 ^ s) % (b * 2 ^ s) = R := by
   rw [h, Nat.mul_comm q, Nat.mul_add_mod, Nat.mod_eq_of_lt hR]
 rw [Nat.mul_div_mul_right _ _ hp] at h1
 rw [Nat.mul_mod_mul_right] at h2
 refine ⟨h1.symm, ?_⟩
 rw [← h2, Nat.mul_div_cancel _ hp]
theorem nv_drop_set_self {l : List Nat} {k : Nat} (hk : k < l.length) (d : Nat) : nv ((l.set k d).drop k) = d + 4294967296 * nv (l.drop (k + 1)) := by
 rw [nv_drop_eq (by simpa using hk), List.getElem_set_self, List.drop_set_of_lt (by omega)]
theorem nw_mul_pow (a s n : Nat) (h : a < 4294967296 ^ n) (hs : s ≤ 32) : nw (a * 2 ^ s) ≤ n + 1 := by
 refine (nw_le_iff _ _).2 ?_
 rw [Nat.pow_succ]
 have h1 : 2 ^ s ≤ 2 ^ 32 := Nat.pow_le_pow_right (by omega) hs
 have h2 : a * 2 ^ s ≤ a * 4294967296 := Nat.mul_le_mul_left _ h1
 have h3 : a * 4294967296 < 4294967296 ^ n * 4294967296 := Nat.mul_lt_mul_of_pos_right h (by omega)
 omega
theorem shifted {R M : List Nat} (hR : Ws R) {n x V : Nat} (hlen : R.length = n + 1) (hM : M.length = n + 1) (hsame : ∀ k, (hk : k < M.length) → 0 < k → M[k] = R[k - 1]'(by omega))
   (hlt : nv R < V) (hV : V < 4294967296 ^ n) : nv (M.set 0 x) = x + 4294967296 * nv R := by
 have e : M.set 0 x = x :: R.take n := by
   apply List.ext_getElem
   · simp [hM, hlen]
   · intro i h1 h2
     simp at h1
     match i with
     | 0 => simp
     | i + 1 =>
       rw [List.getElem_set_ne (by omega), hsame (i + 1) (by omega) (by omega)]
       simp
 rw [e, nv_cons, nv_take_of_lt (by omega)]
def fracN (n d : Nat) (e : Int) : Nat :=
 if n = 0 then 0 else n / 2 ^ tz n * 2 ^ (e + tz n - tz d).toNat
def fracD (n d : Nat) (e : Int) : Nat :=
 if n = 0 then 1 else d / 2 ^ tz d * 2 ^ (-(e + tz n - tz d)).toNat
theorem tz_div {n : Nat} : n / 2 ^ tz n * 2 ^ tz n = n := by
 by_cases h : n = 0
 · subst h; rfl
 · obtain ⟨m, h1, _⟩ := tz_spec h
   have hp : 0 < 2 ^ tz n := Nat.pow_pos (by omega)
   have h2 : n / 2 ^ tz n = m := by
     conv => lhs; lhs; rw [h1]
     exact Nat.mul_div_cancel_left _ hp
   rw [h2, Nat.mul_comm]
   exact h1.symm
theorem tz_div_pos {n : Nat} (h : n ≠ 0) : 0 < n / 2 ^ tz n := by
 rcases Nat.eq_zero_or_pos (n / 2 ^ tz n) with h0 | h0
 · have := tz_div (n := n)
   rw [h0] at this
   omega
 · exact h0
theorem fracD_pos {n d : Nat} (e : Int) (h : d ≠ 0) : 0 < fracD n d e := by
 unfold fracD
 split
 · omega
 · exact Nat.mul_pos (tz_div_pos h) (Nat.pow_pos (by omega))
theorem fracN_zero (d : Nat) (e : Int) : fracN 0 d e = 0 := by simp [fracN]
theorem fracN_eq_zero {n d : Nat} {e : Int} : fracN n d e = 0 ↔ n = 0 := by
 constructor
 · intro h
   by_cases h0 : n = 0
   · exact h0
   · unfold fracN at h
     rw [if_neg h0] at h
     have := Nat.mul_pos (tz_div_pos h0) (Nat.pow_pos (a := 2) (n := (e + tz n - tz d).toNat) (by omega))
     omega
 · intro h; subst h; exact fracN_zero d e
theorem frac_val {n d : Nat} {e : Int} {p q : Nat} (hpq : (p : Int) - q = e) : fracN n d e * (d * 2 ^ q) = n * 2 ^ p * fracD n d e := by
 unfold fracN fracD
 by_cases h : n = 0
 · subst h; simp
 · rw [if_neg h, if_neg h]
   have h1 := tz_div (n := n)
   have h2 := tz_div (n := d)
   generalize n / 2 ^ tz n = n' at *
   generalize d / 2 ^ tz d = d' at *
   generalize tz n = a at *
   generalize tz d = b at *
   rw [← h1, ← h2]
   have e1 : n' * 2 ^ (e + a - b).toNat * (d' * 2 ^ b * 2 ^ q) = n' * d' * 2 ^ ((e + a - b).toNat + b + q) := by
     rw [Nat.pow_add, Nat.pow_add]
     simp only [Nat.mul_assoc, Nat.mul_comm, Nat.mul_left_comm]
   have e2 : n' * 2 ^ a * 2 ^ p * (d' * 2 ^ (-(e + a - b)).toNat) = n' * d' * 2 ^ (a + p + (-(e + a - b)).toNat) := by
     rw [Nat.pow_add, Nat.pow_add]
     simp only [Nat.mul_assoc, Nat.mul_comm, Nat.mul_left_comm]
   rw [e1, e2]
   congr 2
   omega
theorem fracN_le (n d : Nat) (e : Int) : fracN n d e ≤ n * 2 ^ (e.toNat + tz n) := by
 unfold fracN
 split
 · omega
 · exact Nat.mul_le_mul (Nat.div_le_self _ _) (Nat.pow_le_pow_right (by omega) (by omega))
end Go.Proofs.YtbcaggdgoidlaaaGreatDoor.Nm
