/-
  The contracts of the program's sums, eighth part: Total, Abs, Squares, Dot. Conditions: those that each theorem names.
-/
import Derived.Test.YtfbjeifhpmdjaaaZ27
namespace Go.Proofs.Ytfbjeifhpmdjaaa
open Go.RowKit Nm Rn
set_option maxRecDepth 100000
set_option linter.unusedVariables false
set_option linter.unusedSimpArgs false

/-- The slice '.slice A n c' of float64 reads as the patterns xs. -/
def Fds (w : World) (A : Option Addr) (n c : Nat) (xs : List Nat) : Prop :=
  xs.length = n ∧ n ≤ c ∧ c ≤ maxLen ∧ W6 xs ∧ (0 < n → ∃ ad, A = some ad ∧ ad.block < w.heap.size ∧ ∀ (k x : Nat), xs[k]? = some x → w.cell? (ad.add k) = some (.float .f64 x))
section
variable {w w' : World} {n c : Nat} {A : Option Addr} {xs : List Nat}
theorem Fds.len (h : Fds w A n c xs) : xs.length = n := h.1
theorem Fds.ws (h : Fds w A n c xs) : W6 xs := h.2.2.2.1
theorem Fds.at_ {k : Nat} (h : Fds w A n c xs) (hk : k < n) : ∃ ad, ∃ hx : k < xs.length, A = some ad ∧ ad.block < w.heap.size ∧ w.cell? (ad.add k) = some (.float .f64 xs[k]) := by
  obtain ⟨ad, e, hb, hc⟩ := h.2.2.2.2 (by omega)
  have hl : k < xs.length := by have := h.1; omega
  exact ⟨ad, hl, e, hb, hc k _ (List.getElem?_eq_getElem hl)⟩
theorem Fds.ext (h : Fds w A n c xs) (he : Ext w w') : Fds w' A n c xs :=
  ⟨h.1, h.2.1, h.2.2.1, h.2.2.2.1, fun hn => by
    obtain ⟨ad, e, hb, hc⟩ := h.2.2.2.2 hn
    exact ⟨ad, e, Nat.lt_of_lt_of_le hb he.size, fun k x hx => by rw [he.cell (by rw [block_of_add]; exact hb)]; exact hc k x hx⟩⟩
/-- Patterns as cells. -/
def fls (xs : List Nat) : List Value := xs.map fun x => Value.float .f64 x
theorem fls_noU (xs : List Nat) : (fls xs).any isU = false := by
  induction xs with
  | nil => rfl
  | cons x xs ih => simp [fls, isU]
theorem fls_get (xs : List Nat) (k : Nat) : (fls xs)[k]? = (xs[k]?).map (Value.float .f64) := by simp [fls]
theorem fls_len (xs : List Nat) : (fls xs).length = xs.length := by simp [fls]
/-- A box of floats reads as a list. -/
theorem Fds.of_blk {g : Nat} {t : TypeId} {ys : List Nat} (hb : Blk w g t (fls (xs ++ ys)).toArray) (h6 : W6 xs) (hn : xs.length = n) (hc : n ≤ c) (hm : c ≤ maxLen) : Fds w (some ⟨g, 0, none⟩) n c xs :=
  ⟨hn, hc, hm, h6, fun _ => ⟨⟨g, 0, none⟩, rfl, hb.lt, fun k x hx => by
    rw [Addr.add_lit, Nat.zero_add, hb.cell]
    have hk : k < xs.length := (List.getElem?_eq_some_iff.1 hx).1
    have : (xs ++ ys)[k]? = some x := by rw [List.getElem?_append_left hk]; exact hx
    rw [List.getElem?_toArray, fls_get, this]
    rfl⟩⟩
end
theorem W6.of_all {xs : List Nat} (h : ∀ x ∈ xs, x < 18446744073709551616) : W6 xs := h
theorem W6.nil : W6 [] := fun x h => by cases h
theorem W6.cons {x : Nat} {l : List Nat} (hx : x < 18446744073709551616) (h : W6 l) : W6 (x :: l) := fun y hy => by
  rcases List.mem_cons.1 hy with rfl | hy
  · exact hx
  · exact h y hy
/-- The sum of a list; of the squares; of the products of two lists. -/
def sumL (xs : List Nat) : Sm := xs.foldl Sm.add Sm.nil
def sqL (xs : List Nat) : Sm := xs.foldl (fun S x => S.mul x x) Sm.nil
def abL (xs : List Nat) : Sm := xs.foldl (fun S x => S.add (mg x)) Sm.nil
def dotL (xs ys : List Nat) : Sm := (xs.zip ys).foldl (fun S p => S.mul p.1 p.2) Sm.nil
theorem foldl_take {α : Type} (f : Sm → α → Sm) {l : List α} {i : Nat} (h : i < l.length) : (l.take (i + 1)).foldl f Sm.nil = f ((l.take i).foldl f Sm.nil) l[i] := by
  rw [List.take_succ_eq_append_getElem h, List.foldl_append]; rfl
theorem foldl_ok {α : Type} (f : Sm → α → Sm) (P : α → Prop) (hf : ∀ S x, S.Ok → P x → (f S x).Ok) : ∀ (l : List α) (S : Sm), S.Ok → (∀ x ∈ l, P x) → (l.foldl f S).Ok
  | [], S, h, _ => h
  | x :: l, S, h, hl => foldl_ok f P hf l _ (hf S x h (hl x (by simp))) (fun y hy => hl y (by simp [hy]))
theorem sumL_ok {xs : List Nat} (h : W6 xs) : (sumL xs).Ok := foldl_ok _ (fun x => x < 18446744073709551616) (fun S x hS hx => hS.add hx) xs _ Sm.Ok.nil h
theorem sqL_ok {xs : List Nat} (h : W6 xs) : (sqL xs).Ok := foldl_ok _ (fun x => x < 18446744073709551616) (fun S x hS hx => hS.mul hx hx) xs _ Sm.Ok.nil h
theorem abL_ok {xs : List Nat} (h : W6 xs) : (abL xs).Ok := foldl_ok _ (fun x => x < 18446744073709551616) (fun S x hS hx => hS.add (mg_lt64 x)) xs _ Sm.Ok.nil h
theorem dotL_ok {xs ys : List Nat} (h : W6 xs) (g : W6 ys) : (dotL xs ys).Ok := foldl_ok (fun (S : Sm) (p : Nat × Nat) => S.mul p.1 p.2) (fun p => p.1 < 18446744073709551616 ∧ p.2 < 18446744073709551616) (fun S x hS hx => hS.mul hx.1 hx.2) _ _ Sm.Ok.nil (fun p hp => ⟨h _ (List.of_mem_zip hp).1, g _ (List.of_mem_zip hp).2⟩)
theorem W6.take {l : List Nat} (h : W6 l) (k : Nat) : W6 (l.take k) := fun y hy => h y (List.mem_of_mem_take hy)
theorem fold0 {α : Type} (f : Sm → α → Sm) (l : List α) : (l.take 0).foldl f Sm.nil = Sm.nil := rfl


set_option maxHeartbeats 4000000 in
theorem ttotal_any (d : Int) (A : Option Addr) (n c : Nat) (xs : List Nat) (w : World) (h : Fds w A n c xs) :
    Calls Try.prog 38 #[.int .i64 d, .slice A n c] w (RetFl ((sumL xs).round d) w) := by
  have hO := Own.start w
  have hlen := h.len
  have HH := Lib.hid h
  have hm : n ≤ 9223372036854775807 := by have := h.2.1; have := h.2.2.1; unfold maxLen at this; omega
  clear h
  go_enter Try.func38, Try.ntmps38
  go_wp2_with ((with_reducible refine at_alloc (T := 36) ?_); refine own_alloc hO zero_sum rfl sc_noU ?_; clear hO; intro g wa hO)
  have hO : Own w [⟨g, 36, (sumL (xs.take 0)).cs⟩] [] wa := by rw [show (sumL (xs.take 0)).cs = zsum from Sm.nil_cs]; exact hO
  go_loopw [10] (fun kv wr => ∃ i : Nat, kv = .int .i64 (i : Int) ∧ i ≤ n ∧ Own w [⟨g, 36, (sumL (xs.take i)).cs⟩] [] wr) (fun kv _ => n - (intOf kv).toNat)
  case atStart => exact ⟨0, rfl, Nat.zero_le _, hO⟩
  case round =>
    obtain ⟨i, rfl, hin, hOr⟩ := hrel
    clear hO
    by_cases hlt : i < n
    · obtain ⟨ad, hx, rfl, _, hc⟩ := (HH.out.ext hOr.toExt).at_ hlt
      have HST : Hid (sumL (xs.take (i + 1)) = (sumL (xs.take i)).add xs[i]) := Lib.hid (foldl_take _ hx)
      have HX := Lib.hid (HH.out.ws.get hx)
      have HOK := Lib.hid (sumL_ok (HH.out.ws.take i)).1
      generalize xs[i] = x at *
      go_wp2_with (go_at_call 11; refine (tadd_any (sumL (xs.take i)) x HOK.out HX.out hOr).mono ?_; rintro e w2 ⟨rfl, hO2⟩; clear hOr; have hOr := hO2; rw [← HST.out] at hOr; clear hO2)
      go_roundw
      case rel => exact ⟨i + 1, by go_num, by omega, hOr⟩
      case measure => simp [intOf]; omega
    · have hie : i = n := by omega
      have hO := hOr
      rw [hie, List.take_of_length_le (by omega)] at hO
      have HR := Lib.hid (tround_any (sumL xs) d (fun hs => (sumL_ok HH.out.ws).fit hs) hO)
      clear hOr hie
      go_wp2_with fail
      refine HR.out.mono ?_
      rintro e w2 ⟨r, rfl, h1, h2, hE⟩
      go_wp2_with fail
      go_ret
      exact ⟨r, rfl, h1, h2, hO.toExt.trans hE⟩

set_option maxHeartbeats 4000000 in
theorem tsquares_any (d : Int) (A : Option Addr) (n c : Nat) (xs : List Nat) (w : World) (h : Fds w A n c xs) :
    Calls Try.prog 37 #[.int .i64 d, .slice A n c] w (RetFl ((sqL xs).round d) w) := by
  have hO := Own.start w
  have hlen := h.len
  have HH := Lib.hid h
  have hm : n ≤ 9223372036854775807 := by have := h.2.1; have := h.2.2.1; unfold maxLen at this; omega
  clear h
  go_enter Try.func37, Try.ntmps37
  go_wp2_with ((with_reducible refine at_alloc (T := 36) ?_); refine own_alloc hO zero_sum rfl sc_noU ?_; clear hO; intro g wa hO)
  have hO : Own w [⟨g, 36, (sqL (xs.take 0)).cs⟩] [] wa := by rw [show (sqL (xs.take 0)).cs = zsum from Sm.nil_cs]; exact hO
  go_loopw [10] (fun kv wr => ∃ i : Nat, kv = .int .i64 (i : Int) ∧ i ≤ n ∧ Own w [⟨g, 36, (sqL (xs.take i)).cs⟩] [] wr) (fun kv _ => n - (intOf kv).toNat)
  case atStart => exact ⟨0, rfl, Nat.zero_le _, hO⟩
  case round =>
    obtain ⟨i, rfl, hin, hOr⟩ := hrel
    clear hO
    by_cases hlt : i < n
    · obtain ⟨ad, hx, rfl, _, hc⟩ := (HH.out.ext hOr.toExt).at_ hlt
      have HST : Hid (sqL (xs.take (i + 1)) = (sqL (xs.take i)).mul xs[i] xs[i]) := Lib.hid (foldl_take _ hx)
      have HX := Lib.hid (HH.out.ws.get hx)
      have HOK := Lib.hid (sqL_ok (HH.out.ws.take i)).1
      generalize xs[i] = x at *
      go_wp2_with (go_at_call 35; refine (tmul_any (sqL (xs.take i)) x x HOK.out HX.out HX.out hOr).mono ?_; rintro e w2 ⟨rfl, hO2⟩; clear hOr; have hOr := hO2; rw [← HST.out] at hOr; clear hO2)
      go_roundw
      case rel => exact ⟨i + 1, by go_num, by omega, hOr⟩
      case measure => simp [intOf]; omega
    · have hie : i = n := by omega
      have hO := hOr
      rw [hie, List.take_of_length_le (by omega)] at hO
      have HR := Lib.hid (tround_any (sqL xs) d (fun hs => (sqL_ok HH.out.ws).fit hs) hO)
      clear hOr hie
      go_wp2_with fail
      refine HR.out.mono ?_
      rintro e w2 ⟨r, rfl, h1, h2, hE⟩
      go_wp2_with fail
      go_ret
      exact ⟨r, rfl, h1, h2, hO.toExt.trans hE⟩

/-- What Dot answers. -/
def RetDot (xs ys : List Nat) (d : Int) (w : World) (e : Ending) (w' : World) : Prop := ∃ r, e = .returned (.tuple #[.float .f64 r, .int .i64 (if xs.length = ys.length then 0 else 1)]) ∧ r < 18446744073709551616 ∧ cn r = (if xs.length = ys.length then (dotL xs ys).round d else 0) ∧ Ext w w'
set_option maxHeartbeats 4000000 in
theorem tdot_any (d : Int) (A : Option Addr) (n c : Nat) (xs : List Nat) (B : Option Addr) (m k : Nat) (ys : List Nat) (w : World) (h : Fds w A n c xs) (h' : Fds w B m k ys) :
    Calls Try.prog 36 #[.int .i64 d, .slice A n c, .slice B m k] w (RetDot xs ys d w) := by
  have hlen := h.len
  have hlen' := h'.len
  have hm : n ≤ 9223372036854775807 := by have := h.2.1; have := h.2.2.1; unfold maxLen at this; omega
  have HH := Lib.hid h
  have HH' := Lib.hid h'
  clear h h'
  by_cases hnm : n = m
  · subst hnm
    have hO := Own.start w
    unfold RetDot
    rw [if_pos (show xs.length = ys.length by omega), if_pos (show xs.length = ys.length by omega)]
    go_enter Try.func36, Try.ntmps36
    go_wp2_with ((with_reducible refine at_alloc (T := 36) ?_); refine own_alloc hO zero_sum rfl sc_noU ?_; clear hO; intro g wa hO)
    have hO : Own w [⟨g, 36, (((xs.zip ys).take 0).foldl (fun S p => S.mul p.1 p.2) Sm.nil).cs⟩] [] wa := by rw [fold0, Sm.nil_cs]; exact hO
    go_loopw [18] (fun kv wr => ∃ i : Nat, kv = .int .i64 (i : Int) ∧ i ≤ n ∧ Own w [⟨g, 36, (((xs.zip ys).take i).foldl (fun S p => S.mul p.1 p.2) Sm.nil).cs⟩] [] wr) (fun kv _ => n - (intOf kv).toNat)
    case atStart => exact ⟨0, rfl, Nat.zero_le _, hO⟩
    case round =>
      obtain ⟨i, rfl, hin, hOr⟩ := hrel
      clear hO
      have HO6 : Hid (∀ i, (((xs.zip ys).take i).foldl (fun S p => S.mul p.1 p.2) Sm.nil).Ok) := Lib.hid (fun i => foldl_ok (fun (S : Sm) (p : Nat × Nat) => S.mul p.1 p.2) (fun p => p.1 < 18446744073709551616 ∧ p.2 < 18446744073709551616) (fun S x hS hx => hS.mul hx.1 hx.2) _ _ Sm.Ok.nil (fun p hp => ⟨HH.out.ws _ (List.of_mem_zip (List.mem_of_mem_take hp)).1, HH'.out.ws _ (List.of_mem_zip (List.mem_of_mem_take hp)).2⟩))
      by_cases hlt : i < n
      · obtain ⟨ad, hx, rfl, _, hc⟩ := (HH.out.ext hOr.toExt).at_ hlt
        obtain ⟨bd, hy, rfl, _, hc'⟩ := (HH'.out.ext hOr.toExt).at_ hlt
        have hz : i < (xs.zip ys).length := by rw [List.length_zip]; omega
        have HST : Hid (((xs.zip ys).take (i + 1)).foldl (fun S p => S.mul p.1 p.2) Sm.nil = (((xs.zip ys).take i).foldl (fun S p => S.mul p.1 p.2) Sm.nil).mul xs[i] ys[i]) := Lib.hid (by
          have h1 := foldl_take (fun (S : Sm) (p : Nat × Nat) => S.mul p.1 p.2) hz
          rw [List.getElem_zip] at h1
          exact h1)
        have HX := Lib.hid (HH.out.ws.get hx)
        have HY := Lib.hid (HH'.out.ws.get hy)
        generalize xs[i] = x at *
        generalize ys[i] = y at *
        have HOK := Lib.hid (HO6.out i).1
        go_wp2_with (go_at_call 35; refine (tmul_any _ x y HOK.out HX.out HY.out hOr).mono ?_; rintro e w2 ⟨rfl, hO2⟩; clear hOr; have hOr := hO2; rw [← HST.out] at hOr; clear hO2)
        go_roundw
        case rel => exact ⟨i + 1, by go_num, by omega, hOr⟩
        case measure => simp [intOf]; omega
      · have hie : i = n := by omega
        have hO := hOr
        rw [hie, List.take_of_length_le (by rw [List.length_zip]; omega)] at hO
        have HR := Lib.hid (tround_any (dotL xs ys) d (fun hs => (dotL_ok HH.out.ws HH'.out.ws).fit hs) hO)
        clear hOr hie
        go_wp2_with fail
        refine HR.out.mono ?_
        rintro e w2 ⟨r, rfl, h1, h2, hE⟩
        go_wp2_with fail
        go_ret2
        exact ⟨r, rfl, h1, h2, hO.toExt.trans hE⟩
  · have HN := Lib.hid (show ¬ xs.length = ys.length by omega)
    have q1 : ((n : Int) == (m : Int)) = false := by rw [beq_eq_false_iff_ne]; omega
    have q2 : (!((n : Int) == (m : Int))) = true := by rw [q1]; rfl
    unfold RetDot
    rw [if_neg HN.out, if_neg HN.out]
    go_enter Try.func36, Try.ntmps36
    go_wp2_with fail
    go_ret2
    exact ⟨0, rfl, by decide, by decide, Ext.refl _⟩
end Go.Proofs.Ytfbjeifhpmdjaaa
