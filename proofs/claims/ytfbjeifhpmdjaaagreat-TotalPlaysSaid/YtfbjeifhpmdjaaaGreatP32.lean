/-
  The contracts of the program's sums, eighth part: Total, Abs, Squares, Dot. Conditions: those that each theorem names.
-/
import Derived.Test.YtfbjeifhpmdjaaaGreatP29
import Derived.Test.YtfbjeifhpmdjaaaGreatP31
namespace Go.Proofs.YtfbjeifhpmdjaaaGreat
open Go.RowKit Nm Rn
set_option maxRecDepth 100000
set_option linter.unusedVariables false
set_option linter.unusedSimpArgs false

/-- The slice '.slice A n c' of float64 reads as the patterns xs. -/
def Fds (w : World) (A : Option Addr) (n c : Nat) (xs : List Nat) : Prop :=
  xs.length = n ∧ n ≤ c ∧ c ≤ maxLen ∧ W6 xs ∧ (0 < n → ∃ ad, A = some ad ∧ ad.block < w.heap.size ∧ ∀ (k x : Nat), xs[k]? = some x → w.cell? (ad.add k) = some (.float .f64 x))
section
variable {w w' : World} {n c : Nat} {A : Option Addr} {xs : List Nat}
theorem Fds.len (h : Fds w A n c xs) : xs.length = n := h.1
theorem Fds.ws (h : Fds w A n c xs) : W6 xs := h.2.2.2.1
theorem Fds.at_ {k : Nat} (h : Fds w A n c xs) (hk : k < n) : ∃ ad, ∃ hx : k < xs.length, A = some ad ∧ ad.block < w.heap.size ∧ w.cell? (ad.add k) = some (.float .f64 xs[k]) := by
  obtain ⟨ad, e, hb, hc⟩ := h.2.2.2.2 (by omega)
  have hl : k < xs.length := by have := h.1; omega
  exact ⟨ad, hl, e, hb, hc k _ (List.getElem?_eq_getElem hl)⟩
theorem Fds.ext (h : Fds w A n c xs) (he : Ext w w') : Fds w' A n c xs :=
  ⟨h.1, h.2.1, h.2.2.1, h.2.2.2.1, fun hn => by
    obtain ⟨ad, e, hb, hc⟩ := h.2.2.2.2 hn
    exact ⟨ad, e, Nat.lt_of_lt_of_le hb he.size, fun k x hx => by rw [he.cell (by rw [block_of_add]; exact hb)]; exact hc k x hx⟩⟩
/-- Patterns as cells. -/
def fls (xs : List Nat) : List Value := xs.map fun x => Value.float .f64 x
theorem fls_noU (xs : List Nat) : (fls xs).any isU = false := by
  induction xs with
  | nil => rfl
  | cons x xs ih => simp [fls, isU]
theorem fls_get (xs : List Nat) (k : Nat) : (fls xs)[k]? = (xs[k]?).map (Value.float .f64) := by simp [fls]
theorem fls_len (xs : List Nat) : (fls xs).length = xs.length := by simp [fls]
/-- A box of floats reads as a list. -/
theorem Fds.of_blk {g : Nat} {t : TypeId} {ys : List Nat} (hb : Blk w g t (fls (xs ++ ys)).toArray) (h6 : W6 xs) (hn : xs.length = n) (hc : n ≤ c) (hm : c ≤ maxLen) : Fds w (some ⟨g, 0, none⟩) n c xs :=
  ⟨hn, hc, hm, h6, fun _ => ⟨⟨g, 0, none⟩, rfl, hb.lt, fun k x hx => by
    rw [Addr.add_lit, Nat.zero_add, hb.cell]
    have hk : k < xs.length := (List.getElem?_eq_some_iff.1 hx).1
    have : (xs ++ ys)[k]? = some x := by rw [List.getElem?_append_left hk]; exact hx
    rw [List.getElem?_toArray, fls_get, this]
    rfl⟩⟩
end
theorem W6.of_all {xs : List Nat} (h : ∀ x ∈ xs, x < 18446744073709551616) : W6 xs := h
theorem W6.nil : W6 [] := fun x h => by cases h
theorem W6.cons {x : Nat} {l : List Nat} (hx : x < 18446744073709551616) (h : W6 l) : W6 (x :: l) := fun y hy => by
  rcases List.mem_cons.1 hy with rfl | hy
  · exact hx
  · exact h y hy
/-- The sum of a list; of the squares; of the products of two lists. -/
def sumL (xs : List Nat) : Sm := xs.foldl Sm.add Sm.nil
def sqL (xs : List Nat) : Sm := xs.foldl (fun S x => S.mul x x) Sm.nil
def abL (xs : List Nat) : Sm := xs.foldl (fun S x => S.add (mg x)) Sm.nil
def dotL (xs ys : List Nat) : Sm := (xs.zip ys).foldl (fun S p => S.mul p.1 p.2) Sm.nil
theorem foldl_take {α : Type} (f : Sm → α → Sm) {l : List α} {i : Nat} (h : i < l.length) : (l.take (i + 1)).foldl f Sm.nil = f ((l.take i).foldl f Sm.nil) l[i] := by
  rw [List.take_succ_eq_append_getElem h, List.foldl_append]; rfl
theorem foldl_ok {α : Type} (f : Sm → α → Sm) (P : α → Prop) (hf : ∀ S x, S.Ok → P x → (f S x).Ok) : ∀ (l : List α) (S : Sm), S.Ok → (∀ x ∈ l, P x) → (l.foldl f S).Ok
  | [], S, h, _ => h
  | x :: l, S, h, hl => foldl_ok f P hf l _ (hf S x h (hl x (by simp))) (fun y hy => hl y (by simp [hy]))
theorem sumL_ok {xs : List Nat} (h : W6 xs) : (sumL xs).Ok := foldl_ok _ (fun x => x < 18446744073709551616) (fun S x hS hx => hS.add hx) xs _ Sm.Ok.nil h
theorem sqL_ok {xs : List Nat} (h : W6 xs) : (sqL xs).Ok := foldl_ok _ (fun x => x < 18446744073709551616) (fun S x hS hx => hS.mul hx hx) xs _ Sm.Ok.nil h
theorem abL_ok {xs : List Nat} (h : W6 xs) : (abL xs).Ok := foldl_ok _ (fun x => x < 18446744073709551616) (fun S x hS hx => hS.add (mg_lt64 x)) xs _ Sm.Ok.nil h
theorem dotL_ok {xs ys : List Nat} (h : W6 xs) (g : W6 ys) : (dotL xs ys).Ok := foldl_ok (fun (S : Sm) (p : Nat × Nat) => S.mul p.1 p.2) (fun p => p.1 < 18446744073709551616 ∧ p.2 < 18446744073709551616) (fun S x hS hx => hS.mul hx.1 hx.2) _ _ Sm.Ok.nil (fun p hp => ⟨h _ (List.of_mem_zip hp).1, g _ (List.of_mem_zip hp).2⟩)
theorem W6.take {l : List Nat} (h : W6 l) (k : Nat) : W6 (l.take k) := fun y hy => h y (List.mem_of_mem_take hy)
theorem fold0 {α : Type} (f : Sm → α → Sm) (l : List α) : (l.take 0).foldl f Sm.nil = Sm.nil := rfl


set_option maxHeartbeats 4000000 in
theorem ttotal_any (d : Int) (A : Option Addr) (n c : Nat) (xs : List Nat) (w : World) (h : Fds w A n c xs) :
    Calls Tryz.prog 42 #[.int .i64 d, .slice A n c] w (RetFl ((sumL xs).round d) w) := by
  have hO := Own.start w
  have hlen := h.len
  have HH := Lib.hid h
  have hm : n ≤ 9223372036854775807 := by have := h.2.1; have := h.2.2.1; unfold maxLen at this; omega
  clear h
  go_enter Tryz.func42, Tryz.ntmps42
  go_wp2_with ((with_reducible refine at_alloc (T := 55) ?_); refine own_alloc hO zero_sum rfl sc_noU ?_; clear hO; intro g wa hO)
  have hO : Own w [⟨g, 55, (sumL (xs.take 0)).cs⟩] [] wa := by rw [show (sumL (xs.take 0)).cs = zsum from Sm.nil_cs]; exact hO
  go_loopw [10] (fun kv wr => ∃ i : Nat, kv = .int .i64 (i : Int) ∧ i ≤ n ∧ Own w [⟨g, 55, (sumL (xs.take i)).cs⟩] [] wr) (fun kv _ => n - (intOf kv).toNat)
  case atStart => exact ⟨0, rfl, Nat.zero_le _, hO⟩
  case round =>
    obtain ⟨i, rfl, hin, hOr⟩ := hrel
    clear hO
    by_cases hlt : i < n
    · obtain ⟨ad, hx, rfl, _, hc⟩ := (HH.out.ext hOr.toExt).at_ hlt
      have HST : Hid (sumL (xs.take (i + 1)) = (sumL (xs.take i)).add xs[i]) := Lib.hid (foldl_take _ hx)
      have HX := Lib.hid (HH.out.ws.get hx)
      have HOK := Lib.hid (sumL_ok (HH.out.ws.take i)).1
      generalize xs[i] = x at *
      go_wp2_with (go_at_call 19; refine (tadd_any (sumL (xs.take i)) x HOK.out HX.out hOr).mono ?_; rintro e w2 ⟨rfl, hO2⟩; clear hOr; have hOr := hO2; rw [← HST.out] at hOr; clear hO2)
      go_roundw
      case rel => exact ⟨i + 1, by go_num, by omega, hOr⟩
      case measure => simp [intOf]; omega
    · have hie : i = n := by omega
      have hO := hOr
      rw [hie, List.take_of_length_le (by omega)] at hO
      have HR := Lib.hid (tround_any (sumL xs) d (fun hs => (sumL_ok HH.out.ws).fit hs) hO)
      clear hOr hie
      go_wp2_with fail
      refine HR.out.mono ?_
      rintro e w2 ⟨r, rfl, h1, h2, hE⟩
      go_wp2_with fail
      go_ret
      exact ⟨r, rfl, h1, h2, hO.toExt.trans hE⟩

set_option maxHeartbeats 4000000 in
theorem tsquares_any (d : Int) (A : Option Addr) (n c : Nat) (xs : List Nat) (w : World) (h : Fds w A n c xs) :
    Calls Tryz.prog 44 #[.int .i64 d, .slice A n c] w (RetFl ((sqL xs).round d) w) := by
  have hO := Own.start w
  have hlen := h.len
  have HH := Lib.hid h
  have hm : n ≤ 9223372036854775807 := by have := h.2.1; have := h.2.2.1; unfold maxLen at this; omega
  clear h
  go_enter Tryz.func44, Tryz.ntmps44
  go_wp2_with ((with_reducible refine at_alloc (T := 55) ?_); refine own_alloc hO zero_sum rfl sc_noU ?_; clear hO; intro g wa hO)
  have hO : Own w [⟨g, 55, (sqL (xs.take 0)).cs⟩] [] wa := by rw [show (sqL (xs.take 0)).cs = zsum from Sm.nil_cs]; exact hO
  go_loopw [10] (fun kv wr => ∃ i : Nat, kv = .int .i64 (i : Int) ∧ i ≤ n ∧ Own w [⟨g, 55, (sqL (xs.take i)).cs⟩] [] wr) (fun kv _ => n - (intOf kv).toNat)
  case atStart => exact ⟨0, rfl, Nat.zero_le _, hO⟩
  case round =>
    obtain ⟨i, rfl, hin, hOr⟩ := hrel
    clear hO
    by_cases hlt : i < n
    · obtain ⟨ad, hx, rfl, _, hc⟩ := (HH.out.ext hOr.toExt).at_ hlt
      have HST : Hid (sqL (xs.take (i + 1)) = (sqL (xs.take i)).mul xs[i] xs[i]) := Lib.hid (foldl_take _ hx)
      have HX := Lib.hid (HH.out.ws.get hx)
      have HOK := Lib.hid (sqL_ok (HH.out.ws.take i)).1
      generalize xs[i] = x at *
      go_wp2_with (go_at_call 22; refine (tmul_any (sqL (xs.take i)) x x HOK.out HX.out HX.out hOr).mono ?_; rintro e w2 ⟨rfl, hO2⟩; clear hOr; have hOr := hO2; rw [← HST.out] at hOr; clear hO2)
      go_roundw
      case rel => exact ⟨i + 1, by go_num, by omega, hOr⟩
      case measure => simp [intOf]; omega
    · have hie : i = n := by omega
      have hO := hOr
      rw [hie, List.take_of_length_le (by omega)] at hO
      have HR := Lib.hid (tround_any (sqL xs) d (fun hs => (sqL_ok HH.out.ws).fit hs) hO)
      clear hOr hie
      go_wp2_with fail
      refine HR.out.mono ?_
      rintro e w2 ⟨r, rfl, h1, h2, hE⟩
      go_wp2_with fail
      go_ret
      exact ⟨r, rfl, h1, h2, hO.toExt.trans hE⟩
set_option maxHeartbeats 4000000 in
theorem tabs_any (d : Int) (A : Option Addr) (n c : Nat) (xs : List Nat) (w : World) (h : Fds w A n c xs) :
    Calls Tryz.prog 43 #[.int .i64 d, .slice A n c] w (RetFl ((abL xs).round d) w) := by
  have hO := Own.start w
  have hlen := h.len
  have HH := Lib.hid h
  have hm : n ≤ 9223372036854775807 := by have := h.2.1; have := h.2.2.1; unfold maxLen at this; omega
  clear h
  go_enter Tryz.func43, Tryz.ntmps43
  go_wp2_with ((with_reducible refine at_alloc (T := 55) ?_); refine own_alloc hO zero_sum rfl sc_noU ?_; clear hO; intro g wa hO)
  have hO : Own w [⟨g, 55, (abL (xs.take 0)).cs⟩] [] wa := by rw [show (abL (xs.take 0)).cs = zsum from Sm.nil_cs]; exact hO
  go_loopw [10] (fun kv wr => ∃ i : Nat, kv = .int .i64 (i : Int) ∧ i ≤ n ∧ Own w [⟨g, 55, (abL (xs.take i)).cs⟩] [] wr) (fun kv _ => n - (intOf kv).toNat)
  case atStart => exact ⟨0, rfl, Nat.zero_le _, hO⟩
  case round =>
    obtain ⟨i, rfl, hin, hOr⟩ := hrel
    clear hO
    by_cases hlt : i < n
    · obtain ⟨ad, hx, rfl, _, hc⟩ := (HH.out.ext hOr.toExt).at_ hlt
      have HST : Hid (abL (xs.take (i + 1)) = (abL (xs.take i)).add (mg xs[i])) := Lib.hid (foldl_take _ hx)
      have HX := Lib.hid (HH.out.ws.get hx)
      have HOK := Lib.hid (abL_ok (HH.out.ws.take i)).1
      generalize xs[i] = x at *
      go_wp2_with (first | (go_at_call 78; refine (mabs_any x _ HX.out).mono ?_; rintro e w1 ⟨rfl, rfl⟩) | (go_at_call 19; refine (tadd_any (abL (xs.take i)) (mg x) HOK.out (mg_lt64 x) hOr).mono ?_; rintro e w2 ⟨rfl, hO2⟩; clear hOr; have hOr := hO2; rw [← HST.out] at hOr; clear hO2))
      go_roundw
      case rel => exact ⟨i + 1, by go_num, by omega, hOr⟩
      case measure => simp [intOf]; omega
    · have hie : i = n := by omega
      have hO := hOr
      rw [hie, List.take_of_length_le (by omega)] at hO
      have HR := Lib.hid (tround_any (abL xs) d (fun hs => (abL_ok HH.out.ws).fit hs) hO)
      clear hOr hie
      go_wp2_with fail
      refine HR.out.mono ?_
      rintro e w2 ⟨r, rfl, h1, h2, hE⟩
      go_wp2_with fail
      go_ret
      exact ⟨r, rfl, h1, h2, hO.toExt.trans hE⟩

/-- What Dot answers. -/
def RetDot (xs ys : List Nat) (d : Int) (w : World) (e : Ending) (w' : World) : Prop := ∃ r, e = .returned (.tuple #[.float .f64 r, .int .i64 (if xs.length = ys.length then 0 else 1)]) ∧ r < 18446744073709551616 ∧ cn r = (if xs.length = ys.length then (dotL xs ys).round d else 0) ∧ Ext w w'
set_option maxHeartbeats 4000000 in
theorem tdot_any (d : Int) (A : Option Addr) (n c : Nat) (xs : List Nat) (B : Option Addr) (m k : Nat) (ys : List Nat) (w : World) (h : Fds w A n c xs) (h' : Fds w B m k ys) :
    Calls Tryz.prog 38 #[.int .i64 d, .slice A n c, .slice B m k] w (RetDot xs ys d w) := by
  have hlen := h.len
  have hlen' := h'.len
  have hm : n ≤ 9223372036854775807 := by have := h.2.1; have := h.2.2.1; unfold maxLen at this; omega
  have HH := Lib.hid h
  have HH' := Lib.hid h'
  clear h h'
  by_cases hnm : n = m
  · subst hnm
    have hO := Own.start w
    unfold RetDot
    rw [if_pos (show xs.length = ys.length by omega), if_pos (show xs.length = ys.length by omega)]
    go_enter Tryz.func38, Tryz.ntmps38
    go_wp2_with ((with_reducible refine at_alloc (T := 55) ?_); refine own_alloc hO zero_sum rfl sc_noU ?_; clear hO; intro g wa hO)
    have hO : Own w [⟨g, 55, (((xs.zip ys).take 0).foldl (fun S p => S.mul p.1 p.2) Sm.nil).cs⟩] [] wa := by rw [fold0, Sm.nil_cs]; exact hO
    go_loopw [18] (fun kv wr => ∃ i : Nat, kv = .int .i64 (i : Int) ∧ i ≤ n ∧ Own w [⟨g, 55, (((xs.zip ys).take i).foldl (fun S p => S.mul p.1 p.2) Sm.nil).cs⟩] [] wr) (fun kv _ => n - (intOf kv).toNat)
    case atStart => exact ⟨0, rfl, Nat.zero_le _, hO⟩
    case round =>
      obtain ⟨i, rfl, hin, hOr⟩ := hrel
      clear hO
      have HO6 : Hid (∀ i, (((xs.zip ys).take i).foldl (fun S p => S.mul p.1 p.2) Sm.nil).Ok) := Lib.hid (fun i => foldl_ok (fun (S : Sm) (p : Nat × Nat) => S.mul p.1 p.2) (fun p => p.1 < 18446744073709551616 ∧ p.2 < 18446744073709551616) (fun S x hS hx => hS.mul hx.1 hx.2) _ _ Sm.Ok.nil (fun p hp => ⟨HH.out.ws _ (List.of_mem_zip (List.mem_of_mem_take hp)).1, HH'.out.ws _ (List.of_mem_zip (List.mem_of_mem_take hp)).2⟩))
      by_cases hlt : i < n
      · obtain ⟨ad, hx, rfl, _, hc⟩ := (HH.out.ext hOr.toExt).at_ hlt
        obtain ⟨bd, hy, rfl, _, hc'⟩ := (HH'.out.ext hOr.toExt).at_ hlt
        have hz : i < (xs.zip ys).length := by rw [List.length_zip]; omega
        have HST : Hid (((xs.zip ys).take (i + 1)).foldl (fun S p => S.mul p.1 p.2) Sm.nil = (((xs.zip ys).take i).foldl (fun S p => S.mul p.1 p.2) Sm.nil).mul xs[i] ys[i]) := Lib.hid (by
          have h1 := foldl_take (fun (S : Sm) (p : Nat × Nat) => S.mul p.1 p.2) hz
          rw [List.getElem_zip] at h1
          exact h1)
        have HX := Lib.hid (HH.out.ws.get hx)
        have HY := Lib.hid (HH'.out.ws.get hy)
        generalize xs[i] = x at *
        generalize ys[i] = y at *
        have HOK := Lib.hid (HO6.out i).1
        go_wp2_with (go_at_call 22; refine (tmul_any _ x y HOK.out HX.out HY.out hOr).mono ?_; rintro e w2 ⟨rfl, hO2⟩; clear hOr; have hOr := hO2; rw [← HST.out] at hOr; clear hO2)
        go_roundw
        case rel => exact ⟨i + 1, by go_num, by omega, hOr⟩
        case measure => simp [intOf]; omega
      · have hie : i = n := by omega
        have hO := hOr
        rw [hie, List.take_of_length_le (by rw [List.length_zip]; omega)] at hO
        have HR := Lib.hid (tround_any (dotL xs ys) d (fun hs => (dotL_ok HH.out.ws HH'.out.ws).fit hs) hO)
        clear hOr hie
        go_wp2_with fail
        refine HR.out.mono ?_
        rintro e w2 ⟨r, rfl, h1, h2, hE⟩
        go_wp2_with fail
        go_ret2
        exact ⟨r, rfl, h1, h2, hO.toExt.trans hE⟩
  · have HN := Lib.hid (show ¬ xs.length = ys.length by omega)
    have q1 : ((n : Int) == (m : Int)) = false := by rw [beq_eq_false_iff_ne]; omega
    have q2 : (!((n : Int) == (m : Int))) = true := by rw [q1]; rfl
    unfold RetDot
    rw [if_neg HN.out, if_neg HN.out]
    go_enter Tryz.func38, Tryz.ntmps38
    go_wp2_with fail
    go_ret2
    exact ⟨0, rfl, by decide, by decide, Ext.refl _⟩
end Go.Proofs.YtfbjeifhpmdjaaaGreat

/-
  Lists of patterns; the contracts of the document's sums, fifth part: Dot. Conditions: those that each theorem names.
-/
namespace Go.Proofs.YtfbjeifhpmdjaaaGreat
open Go.RowKit Nm Rn
set_option maxRecDepth 100000
set_option linter.unusedVariables false
set_option linter.unusedSimpArgs false

/-- The slice '.slice A n c' of uint64 reads as the patterns xs. -/
def Uds (w : World) (A : Option Addr) (n c : Nat) (xs : List Nat) : Prop :=
  xs.length = n ∧ n ≤ c ∧ c ≤ maxLen ∧ W6 xs ∧ (0 < n → ∃ ad, A = some ad ∧ ad.block < w.heap.size ∧ ∀ (k x : Nat), xs[k]? = some x → w.cell? (ad.add k) = some (.int .u64 (x : Int)))
section
variable {w w' : World} {n c : Nat} {A : Option Addr} {xs : List Nat}
theorem Uds.len (h : Uds w A n c xs) : xs.length = n := h.1
theorem Uds.ws (h : Uds w A n c xs) : W6 xs := h.2.2.2.1
theorem Uds.small (h : Uds w A n c xs) : n ≤ maxLen := Nat.le_trans h.2.1 h.2.2.1
theorem Uds.at_ {k : Nat} (h : Uds w A n c xs) (hk : k < n) : ∃ ad, ∃ hx : k < xs.length, A = some ad ∧ ad.block < w.heap.size ∧ w.cell? (ad.add k) = some (.int .u64 (xs[k] : Int)) := by
  obtain ⟨ad, e, hb, hc⟩ := h.2.2.2.2 (by omega)
  have hl : k < xs.length := by have := h.1; omega
  exact ⟨ad, hl, e, hb, hc k _ (List.getElem?_eq_getElem hl)⟩
theorem Uds.ext (h : Uds w A n c xs) (he : Ext w w') : Uds w' A n c xs :=
  ⟨h.1, h.2.1, h.2.2.1, h.2.2.2.1, fun hn => by
    obtain ⟨ad, e, hb, hc⟩ := h.2.2.2.2 hn
    exact ⟨ad, e, Nat.lt_of_lt_of_le hb he.size, fun k x hx => by rw [he.cell (by rw [block_of_add]; exact hb)]; exact hc k x hx⟩⟩
end
/-- How great a sum is, whatever else it has taken. -/
theorem add_bd (Z : Sm) (x : Nat) : (Z.add x).T.natAbs ≤ Z.T.natAbs + BG := by
  rcases kind x with ⟨n1, i1, k1⟩ | ⟨n1, i1, k1⟩ | ⟨n1, i1, k1⟩
  · unfold Sm.add; rw [if_pos n1]; exact Nat.le_add_right _ _
  · unfold Sm.add; rw [if_neg (by rw [n1]; decide), if_pos i1]
    split <;> exact Nat.le_add_right _ _
  · rw [add_fin k1]
    show (Z.T + sv x * (K74 : Int)).natAbs ≤ _
    have := one_le k1
    omega
theorem mul_bd (Z : Sm) (x y : Nat) : (Z.mul x y).T.natAbs ≤ Z.T.natAbs + BG := by
  unfold Sm.mul
  by_cases ho : (oddP x || oddP y) = true
  · rw [if_pos ho]; exact add_bd _ _
  · rw [if_neg ho]
    obtain ⟨h1, h2⟩ := Bool.or_eq_false_iff.1 (by simpa using ho)
    have := two_le (oddP_fin h1) (oddP_fin h2)
    show (Z.T + sv x * sv y).natAbs ≤ _
    omega
theorem fold_bd {α : Type} (f : Sm → α → Sm) (hf : ∀ S x, (f S x).T.natAbs ≤ S.T.natAbs + BG) : ∀ (l : List α) (S : Sm), (l.foldl f S).T.natAbs ≤ S.T.natAbs + l.length * BG
  | [], S => by simp
  | x :: l, S => by
    have h1 := fold_bd f hf l (f S x)
    have h2 := hf S x
    rw [List.foldl_cons, List.length_cons, Nat.add_mul, Nat.one_mul]
    omega
theorem nw_bg {T : Int} {i : Nat} (hi : i ≤ 9223372036854775808) (h : T.natAbs ≤ i * BG) : nw T.natAbs ≤ 1000 := by
  have h1 := nw_mono h
  have h2 := nw_mul2 i BG
  have h3 : nw i ≤ 2 := (nw_le_iff i 2).2 (by omega)
  have h4 := nw_sum (T := (BG : Int)) (by have := BG_mm; have := BG_pos; rw [Int.natAbs_natCast]; omega)
  rw [Int.natAbs_natCast] at h4
  omega
def dtS (xs ys : List Nat) (i : Nat) : Sm := ((xs.zip ys).take i).foldl (fun S p => S.mul p.1 p.2) Sm.nil
theorem dtS_nw (xs ys : List Nat) {i : Nat} (hi : i ≤ 9223372036854775808) : nw (dtS xs ys i).T.natAbs ≤ 1000 := by
  have h := fold_bd (fun S (p : Nat × Nat) => S.mul p.1 p.2) (fun S p => mul_bd S p.1 p.2) ((xs.zip ys).take i) Sm.nil
  refine nw_bg (i := ((xs.zip ys).take i).length) (by rw [List.length_take]; omega) ?_
  have e : Sm.nil.T.natAbs = 0 := rfl
  rw [e, Nat.zero_add] at h
  exact h
theorem dtS_ok {xs ys : List Nat} (hx : W6 xs) (hy : W6 ys) (i : Nat) : (dtS xs ys i).Ok :=
  foldl_ok (fun S (p : Nat × Nat) => S.mul p.1 p.2) (fun p => p.1 < 18446744073709551616 ∧ p.2 < 18446744073709551616) (fun S p hS hp => hS.mul hp.1 hp.2) _ _ Sm.Ok.nil (fun p hp => by
    have := List.mem_of_mem_take hp
    obtain ⟨h1, h2⟩ := List.of_mem_zip (a := p.1) (b := p.2) this
    exact ⟨hx _ h1, hy _ h2⟩)
theorem dtS_next {xs ys : List Nat} {i : Nat} (h1 : i < xs.length) (h2 : i < ys.length) : dtS xs ys (i + 1) = (dtS xs ys i).mul xs[i] ys[i] := by
  have hz : i < (xs.zip ys).length := by rw [List.length_zip]; omega
  unfold dtS
  rw [foldl_take _ hz, List.getElem_zip]
theorem dtS_all (xs ys : List Nat) {n : Nat} (h : xs.length = n) : dtS xs ys n = dotL xs ys := by
  unfold dtS dotL
  rw [List.take_of_length_le (by rw [List.length_zip]; omega)]
set_option maxHeartbeats 8000000 in
theorem ddot_any (dd : Int) (A : Option Addr) (n c : Nat) (xs : List Nat) (B : Option Addr) (m k : Nat) (ys : List Nat) (w : World) (h : Uds w A n c xs) (h' : Uds w B m k ys) :
    Calls Tryz.prog 7 #[.int .i64 dd, .slice A n c, .slice B m k] w fun e w' => e = .returned (.tuple #[.int .u64 ((if n = m then (dotL xs ys).round dd else 0 : Nat) : Int), .int .i64 (if n = m then 0 else 1)]) ∧ Ext w w' := by
  have hO := Own.start w
  have hf : True := trivial
  have hns := h.small
  unfold maxLen at hns
  by_cases hnm : n = m
  · subst hnm
    rw [if_pos rfl, if_pos rfl]
    have HH := Lib.hid h
    have HH' := Lib.hid h'
    have HNK := Lib.hid (fun i (hi : i ≤ 9223372036854775808) => dtS_nw xs ys hi)
    have HOK := Lib.hid (fun i => dtS_ok h.ws h'.ws i)
    have HNEW := Lib.hid (fun w => dnew_any (w := w))
    have HAL := Lib.hid (dtS_all xs ys h.len)
    clear h h'
    go_enter Tryz.func7, Tryz.ntmps7
    go_wp2_with (first | (go_at_call 17; (with_reducible refine (HNEW.out _).mono ?_); rintro e w3 ⟨s0, N0, D0, A0, l0, c0, B0, k0, d0, rfl, HD0, hR0, hE⟩; have hO := ((hO.ext hE).add hR0.1).add hR0.2; clear hE hR0; clear hf; have hf := hO.cells; simp only [BC, CC, Nat.zero_add, Nat.reduceAdd, and_true] at hf) | ((with_reducible refine at_alloc ?_); refine own_alloc hO zero_ds rfl rfl ?_; clear hO; intro g wa hO; clear hf; have hf := hO.cells; simp only [BC, CC, Nat.zero_add, Nat.reduceAdd, and_true] at hf) | ((with_reducible refine at_store (T := 40) ?_); refine own_store (vs := [.bool s0, .slice A0 l0 c0, .slice B0 k0 d0, .bool Sm.nil.p, .bool Sm.nil.m, .bool Sm.nil.n, .int .u64 (Sm.nil.t : Int)]) (T := 40) hO 0 rfl rfl rfl size_ds rfl rfl rfl ?_; clear hO; intro wb hO; simp only [List.set_cons_zero, List.set_cons_succ, spl, List.take_succ_cons, List.take_zero, List.nil_append, List.cons_append, List.length_cons, List.length_nil, List.drop_succ_cons, List.drop_zero, List.drop_nil, Nat.reduceAdd, Nat.zero_add, List.append_nil] at hO; clear hf; have hf := hO.cells; simp only [BC, CC, Nat.zero_add, Nat.reduceAdd, and_true] at hf))
    go_loopw [9] (fun kv wr => ∃ i : Nat, kv = .int .i64 (i : Int) ∧ i ≤ n ∧ ∃ (sq : Bool) (Nq Dq : Nat) (A6 : Option Addr) (l6 c6 : Nat) (B6 : Option Addr) (k6 d6 : Nat), Hid (DR (dtS xs ys i).T sq Nq Dq) ∧ Own w [⟨g, 40, [.bool sq, .slice A6 l6 c6, .slice B6 k6 d6, .bool (dtS xs ys i).p, .bool (dtS xs ys i).m, .bool (dtS xs ys i).n, .int .u64 ((dtS xs ys i).t : Int)]⟩] [⟨B6, k6, d6, nd Dq⟩, ⟨A6, l6, c6, nd Nq⟩] wr) (fun kv _ => n - (intOf kv).toNat)
    case atStart => exact ⟨0, rfl, Nat.zero_le _, s0, N0, D0, A0, l0, c0, B0, k0, d0, HD0, hO⟩
    case round =>
      obtain ⟨i, rfl, hiK, sq, Nq, Dq, A6, l6, c6, B6, k6, d6, HDR, hOr⟩ := hrel
      clear hO hf
      have hO := hOr
      clear hOr
      by_cases hlt : i < n
      · obtain ⟨ad, hx1, hA, -, -⟩ := HH.out.at_ hlt
        obtain ⟨bd, hx2, hB, -, -⟩ := HH'.out.at_ hlt
        subst hA
        subst hB
        obtain ⟨p1, hp1⟩ : ∃ p1, ad.add i = p1 := ⟨_, rfl⟩
        obtain ⟨p2, hp2⟩ : ∃ p2, bd.add i = p2 := ⟨_, rfl⟩
        have HQE : Hid (dtS xs ys (i + 1) = (dtS xs ys i).mul xs[i] ys[i]) := Lib.hid (dtS_next hx1 hx2)
        have HC1 : Hid (∀ wz, Ext w wz → wz.cell? p1 = some (.int .u64 (xs[i] : Int))) := Lib.hid (fun wz hz => by
          obtain ⟨ad', _, e1, _, e2⟩ := (HH.out.ext hz).at_ hlt
          injection e1 with e1
          subst e1
          rwa [hp1] at e2)
        have HC2 : Hid (∀ wz, Ext w wz → wz.cell? p2 = some (.int .u64 (ys[i] : Int))) := Lib.hid (fun wz hz => by
          obtain ⟨ad', _, e1, _, e2⟩ := (HH'.out.ext hz).at_ hlt
          injection e1 with e1
          subst e1
          rwa [hp2] at e2)
        have lX : xs[i] < 18446744073709551616 := HH.out.ws _ (List.getElem_mem hx1)
        have lY : ys[i] < 18446744073709551616 := HH'.out.ws _ (List.getElem_mem hx2)
        generalize xs[i] = X at *
        generalize ys[i] = Y at *
        have HMU := Lib.hid (fun w1 (hr : RatAt w1 A6 l6 c6 B6 k6 d6 Nq Dq) => dmul_any (w := w1) (dtS xs ys i) X Y lX lY (HOK.out i).1 (HNK.out i (by omega)) HDR.out hr)
        obtain ⟨Q, hQ⟩ : ∃ Q, Q = (dtS xs ys i).mul X Y := ⟨_, rfl⟩
        rw [← hQ] at HMU HQE
        have HQE := Lib.hid HQE.out.symm
        have bi0 : (0 : Int) ≤ (i : Int) := by omega
        have bi1 : (i : Int) < (n : Int) := by omega
        clear hQ lX lY
        have hf : True := trivial
        go_upto_region 7 with fail
        obtain ⟨S, hS⟩ : ∃ S : World → Prop, S = Own w [⟨g, 40, [.bool sq, .slice A6 l6 c6, .slice B6 k6 d6, .bool (dtS xs ys i).p, .bool (dtS xs ys i).m, .bool (dtS xs ys i).n, .int .u64 ((dtS xs ys i).t : Int)]⟩] [⟨B6, k6, d6, nd Dq⟩, ⟨A6, l6, c6, nd Nq⟩] := ⟨_, rfl⟩
        have hSE : ∀ w w', S w → Ext w w' → S w' := fun w w' h1 h2 => by rw [hS] at h1 ⊢; exact h1.ext h2
        have hS1 : S wr.drew := by rw [hS]; exact hO.ext (Ext.refl wr).drew
        have HS := Lib.hid hS
        clear hS hO hf
        obtain ⟨sp, hsp⟩ : ∃ sp : Nat → Sp, sp = ofList [det (.agg #[.bool sq, .slice A6 l6 c6, .slice B6 k6 d6, .bool (dtS xs ys i).p, .bool (dtS xs ys i).m, .bool (dtS xs ys i).n, .int .u64 ((dtS xs ys i).t : Int)]), det (.slice (some ad) n c), det (.int .i64 (i : Int)), det (.pointer (some p1)), det (.int .u64 (X : Int)), det (.slice (some bd) n k), det (.int .i64 (i : Int)), det (.pointer (some p2)), det (.int .u64 (Y : Int))] := ⟨_, rfl⟩
        have HSP := Lib.hid hsp
        clear hsp
        refine wp_region_loose 9 S sp (by kernel_rfl) (by kernel_rfl) hS1 hSE ?_
        simp only [List.take_succ_cons, List.take_zero, List.drop_succ_cons, List.drop_zero]
        iterate 4
          refine wpX_step (fun K hK => ?_)
          go_simp
          refine StepY.det (by rw [HSP.out]; rfl) ?_ ?_
          · intro wz hz hF
            rw [HS.out] at hz
            have hf := hz.cells
            simp only [BC, CC, Nat.zero_add, Nat.reduceAdd, and_true] at hf
            clear hz hF
            go_simp
            exact ⟨rfl, Ext.refl _⟩
          refine hK _ _ ?_
          clear hK K
        refine wpX_step (fun K hK => ?_)
        go_simp
        refine StepY.det (by rw [HSP.out]; rfl) ?_ ?_
        · intro wz hz hF
          rw [HS.out] at hz
          have c1 := HC1.out _ hz.toExt
          clear hz hF
          go_simp
          exact ⟨rfl, Ext.refl _⟩
        refine hK _ _ ?_
        clear hK K
        iterate 3
          refine wpX_step (fun K hK => ?_)
          go_simp
          refine StepY.det (by rw [HSP.out]; rfl) ?_ ?_
          · intro wz hz hF
            clear hz hF
            go_simp
            exact ⟨rfl, Ext.refl _⟩
          refine hK _ _ ?_
          clear hK K
        refine wpX_step (fun K hK => ?_)
        go_simp
        refine StepY.det (by rw [HSP.out]; rfl) ?_ ?_
        · intro wz hz hF
          rw [HS.out] at hz
          have c1 := HC2.out _ hz.toExt
          clear hz hF
          go_simp
          exact ⟨rfl, Ext.refl _⟩
        refine hK _ _ ?_
        clear hK K
        refine wpX_nil ?_
        intro wq hz hF
        clear hF
        rw [HS.out] at hz
        have hO := hz
        clear hz HS HSP
        have hf := hO.cells
        simp only [BC, CC, Nat.zero_add, Nat.reduceAdd, and_true] at hf
        go_wp2_with fail
        refine (HMU.out _ ⟨hO.wd 1 rfl, hO.wd 0 rfl⟩).mono ?_
        rintro e w9 ⟨s9, N9, D9, A9, l9, c9, B9, k9, d9, rfl, HD9, hR9, hE9⟩
        have hO := ((hO.ext hE9).add hR9.1).add hR9.2
        clear hR9 hE9
        clear hf
        have hf := hO.cells
        simp only [BC, CC, Nat.zero_add, Nat.reduceAdd, and_true] at hf
        go_wp2_with ((with_reducible refine at_store (T := 40) ?_); refine own_store (vs := [.bool s9, .slice A9 l9 c9, .slice B9 k9 d9, .bool Q.p, .bool Q.m, .bool Q.n, .int .u64 (Q.t : Int)]) (T := 40) hO 0 rfl rfl rfl size_ds rfl rfl rfl ?_; clear hO; intro w11 hO; simp only [List.set_cons_zero, List.set_cons_succ, spl, List.take_succ_cons, List.take_zero, List.nil_append, List.cons_append, List.length_cons, List.length_nil, List.drop_succ_cons, List.drop_zero, List.drop_nil, Nat.reduceAdd, Nat.zero_add, List.append_nil] at hO; clear hf; have hf := hO.cells; simp only [BC, CC, Nat.zero_add, Nat.reduceAdd, and_true] at hf)
        go_roundw
        case rel => exact ⟨i + 1, by go_num, by omega, s9, N9, D9, A9, l9, c9, B9, k9, d9, by rw [← HQE.out]; exact HD9, by rw [← HQE.out]; exact hO.forget (fun s hs => List.mem_of_mem_take (i := 2) hs)⟩
        case measure => simp [intOf]; omega
      · have hie : i = n := by omega
        rw [hie] at hO HDR
        have HRO := Lib.hid (fun w1 (hr : RatAt w1 A6 l6 c6 B6 k6 d6 Nq Dq) => dround_any (w := w1) (dtS xs ys n) dd (HNK.out n (by omega)) HDR.out hr)
        rw [HAL.out] at HRO hO
        have hf := hO.cells
        simp only [BC, CC, Nat.zero_add, Nat.reduceAdd, and_true] at hf
        go_wp2_with fail
        refine (HRO.out _ ⟨hO.wd 1 rfl, hO.wd 0 rfl⟩).mono ?_
        rintro e w9 ⟨rfl, hE9⟩
        have hO := hO.ext hE9
        go_wp2_with fail
        go_ret2
        exact ⟨rfl, hO.toExt⟩
  · rw [if_neg hnm, if_neg hnm]
    have q1 : ((n : Int) == (m : Int)) = false := by rw [beq_eq_false_iff_ne]; omega
    have q2 : ((n : Int) != (m : Int)) = true := by rw [bne, q1]; rfl
    have q3 : ¬ (n : Int) = (m : Int) := by omega
    go_enter Tryz.func7, Tryz.ntmps7
    go_wp2_with fail
    go_ret2
    exact ⟨rfl, Ext.refl _⟩
end Go.Proofs.YtfbjeifhpmdjaaaGreat
