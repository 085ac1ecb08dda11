/-
  The document's inverses of sets, by the signs of their bounds. Conditions: those that each theorem names.
-/
import Derived.Test.YtadijoeeaineaaaGreatDoorQ19
import Derived.Test.YtadijoeeaineaaaGreatDoorQ31
import Derived.Test.YtadijoeeaineaaaGreatDoorQ15
namespace Go.Proofs.YtadijoeeaineaaaGreatDoor
open Go.RowKit Nm Rn
set_option maxRecDepth 100000
set_option linter.unusedVariables false
set_option linter.unusedSimpArgs false

/-- A bound of a sign. -/
structure EG (i : Int) (s : Bool) (N D : Nat) (v : Int) : Prop where
  hi : -1 ≤ i ∧ i ≤ 1
  hN : nw N ≤ 1000000
  hD : nw D ≤ 1000000
  hp : D ≠ 0
  hv : eS i s N = v
  hz : N = 0 → s = false
theorem fr0 : fracN 0 1 0 = 0 ∧ fracD 0 1 0 = 1 := by decide
theorem eg_fin : EG 0 false (fracN 0 1 0) (fracD 0 1 0) 0 := ⟨by omega, by decide, by decide, by decide, by decide, fun _ => rfl⟩
theorem EG.cases {i : Int} {s : Bool} {N D : Nat} {v : Int} (h : EG i s N D v) : (i = 0 ∧ N = 0 ∧ s = false ∧ v = 0) ∨ (i = 0 ∧ N ≠ 0 ∧ s = false ∧ v = 1) ∨ (i = 0 ∧ N ≠ 0 ∧ s = true ∧ v = -1) ∨ (i ≠ 0 ∧ v = i) := by
  have hv := h.hv
  unfold eS at hv
  by_cases hi : i = 0
  · rw [if_pos hi] at hv
    unfold sgnZ at hv
    by_cases hN : N = 0
    · rw [if_pos hN] at hv; exact .inl ⟨hi, hN, h.hz hN, hv.symm⟩
    · rw [if_neg hN] at hv
      cases s
      · exact .inr (.inl ⟨hi, hN, rfl, by simpa using hv.symm⟩)
      · exact .inr (.inr (.inl ⟨hi, hN, rfl, by simpa using hv.symm⟩))
  · rw [if_neg hi] at hv
    exact .inr (.inr (.inr ⟨hi, hv.symm⟩))
theorem EG.neg {i : Int} {s : Bool} {N D : Nat} {v : Int} (h : EG i s N D v) : EG (-i) (!s && decide (N ≠ 0)) N D (-v) := by
  have h1 := h.hi
  refine ⟨by omega, h.hN, h.hD, h.hp, ?_, fun e => by rw [decide_eq_false (by omega), Bool.and_false]⟩
  rcases h.cases with ⟨a, b, c, d⟩ | ⟨a, b, c, d⟩ | ⟨a, b, c, d⟩ | ⟨a, b⟩
  · subst a b c d; rfl
  · subst a c d; unfold eS sgnZ; simp [b]
  · subst a c d; unfold eS sgnZ; simp [b]
  · subst b; unfold eS; rw [if_neg (by omega)]
/-- How nought stands to it. -/
theorem EG.cmp0 {i : Int} {s : Bool} {N D : Nat} {v : Int} (h : EG i s N D v) : eC 0 false (fracN 0 1 0) (fracD 0 1 0) i s N D = if 0 < v then -1 else if v < 0 then 1 else 0 := by
  rw [fr0.1, fr0.2]
  unfold eC
  rcases h.cases with ⟨a, b, c, d⟩ | ⟨a, b, c, d⟩ | ⟨a, b, c, d⟩ | ⟨a, b⟩
  · subst a b c d
    unfold rc sn cmpI; simp
  · subst a c d
    rw [if_neg (by omega), if_neg (by omega), if_pos rfl, if_pos (by omega)]
    unfold rc sn cmpI
    simp; omega
  · subst a c d
    rw [if_neg (by omega), if_neg (by omega), if_pos rfl, if_neg (by omega), if_pos (by omega)]
    unfold rc sn cmpI
    simp; omega
  · subst b
    by_cases hp : 0 < v
    · rw [if_pos hp, if_pos hp]
    · rw [if_neg hp, if_neg hp, if_pos (by omega), if_pos (by omega)]

/-- An inverse. -/
def ivS (i : Int) (s : Bool) : Bool := if i = 0 then s else false
def ivN (i : Int) (N D : Nat) : Nat := if i = 0 then fracN (1 * D) (1 * N) 0 else fracN 0 1 0
def ivD (i : Int) (N D : Nat) : Nat := if i = 0 then fracD (1 * D) (1 * N) 0 else fracD 0 1 0
theorem fr11_ : fracN 1 1 0 = 1 ∧ fracD 1 1 0 = 1 := by decide
theorem s6_inv {i : Int} {s : Bool} {N D : Nat} {v : Int} (h : EG i s N D v) (hv : v ≠ 0) : ∀ (A : Option Addr) (l c : Nat) (B : Option Addr) (k d : Nat) (w : World), RatAt w A l c B k d N D →
    Calls Tryz.prog 126 #[.agg #[.int .i64 i, .bool s, .slice A l c, .slice B k d]] w (RetEnd 0 (ivS i s) (ivN i N D) (ivD i N D) w) := by
  intro A l c B k d w h1
  by_cases hi : i = 0
  · have hNz : N ≠ 0 := by
      rcases h.cases with ⟨_, _, _, e⟩ | ⟨_, e, _⟩ | ⟨_, e, _⟩ | ⟨e, _⟩
      · exact absurd e hv
      · exact e
      · exact e
      · exact absurd hi e
    unfold ivS ivN ivD
    rw [if_pos hi, if_pos hi, if_pos hi]
    have HI : Hid (∀ w, Calls Tryz.prog 19 #[.int .i64 1] w (RetR false 1 1 w)) := Lib.hid (fun w => by
      have := int_any 1 w (by omega)
      rw [fr11_.1, fr11_.2] at this
      exact this)
    refine inverse_q (h1 := h1) (hi := by rw [hi]; rfl) (HI := HI) (HQ := Lib.hid (fun A0 l0 c0 B0 k0 d0 w g g' => ?_))
    have := rquoq_any false s A0 l0 c0 B0 k0 d0 1 1 A l c B k d N D w g g' (by decide) (by decide) (by have := h.hN; omega) (by have := h.hD; omega) (by omega)
    rw [decide_eq_true (show 1 * D ≠ 0 by have := h.hp; omega), Bool.and_true, Bool.false_bne] at this
    exact this
  · unfold ivS ivN ivD
    rw [if_neg hi, if_neg hi, if_neg hi]
    exact inverse_i (s1 := s) (h1 := h1) (hi := by rw [bne_iff_ne]; exact hi) (HFI := Lib.hid fun w => finite_any 0 w (by omega))
theorem ivN_sz {i : Int} {s : Bool} {N D : Nat} {v : Int} (h : EG i s N D v) (hv : v ≠ 0) : nw (ivN i N D) ≤ 1073741824 ∧ nw (ivD i N D) ≤ 1073741824 ∧ ivD i N D ≠ 0 := by
  unfold ivN ivD
  by_cases hi : i = 0
  · rw [if_pos hi, if_pos hi]
    have hNz : N ≠ 0 := by
      rcases h.cases with ⟨_, _, _, e⟩ | ⟨_, e, _⟩ | ⟨_, e, _⟩ | ⟨e, _⟩
      · exact absurd e hv
      · exact e
      · exact e
      · exact absurd hi e
    rw [Nat.one_mul, Nat.one_mul]
    have h3 := nw_mono (fracN_le_z D N)
    have h4 := nw_mono (fracD_le_z (n := D) hNz)
    have h5 := h.hN
    have h6 := h.hD
    exact ⟨by omega, by omega, Nat.ne_of_gt (fracD_pos 0 hNz)⟩
  · rw [if_neg hi, if_neg hi]; decide

theorem s6_sg {i : Int} {s : Bool} {N D : Nat} {v : Int} (h : EG i s N D v) : ∀ (A : Option Addr) (l c : Nat) (B : Option Addr) (k d : Nat) (w : World), RatAt w A l c B k d N D →
    Calls Tryz.prog 92 #[.agg #[.int .i64 i, .bool s, .slice A l c, .slice B k d]] w fun e w' => e = .returned (.int .i64 v) ∧ Ext w w' := by
  intro A l c B k d w h1
  have := sign6_any i s A l c B k d N D w h1 (by have := h.hN; omega)
  rw [h.hv] at this
  exact this
theorem gr0_keep {i : Int} {s : Bool} {N D : Nat} {v : Int} (h : EG i s N D v) (hv : 0 ≤ v) : ∀ (A : Option Addr) (l c : Nat) (B : Option Addr) (k d : Nat) (A' : Option Addr) (l' c' : Nat) (B' : Option Addr) (k' d' : Nat) (w : World), RatAt w A l c B k d N D → RatAt w A' l' c' B' k' d' (fracN 0 1 0) (fracD 0 1 0) →
    Calls Tryz.prog 125 #[.agg #[.int .i64 i, .bool s, .slice A l c, .slice B k d], .agg #[.int .i64 0, .bool false, .slice A' l' c', .slice B' k' d']] w (RetEnd i s N D w) := by
  intro A l c B k d A' l' c' B' k' d' w h1 h2
  refine greater_f (h1 := h1) (h2 := h2) (hv := ?_) (HC := Lib.hid fun w g g' => cmp6_any 0 false A' l' c' B' k' d' _ _ i s A l c B k d N D w g g' (by decide) (by decide) (by have := h.hN; omega) (by have := h.hD; omega) (by decide) h.hp)
  rw [h.cmp0]
  refine decide_eq_false ?_
  split
  · omega
  · rw [if_neg (by omega)]; omega
theorem gr0_zero {i : Int} {s : Bool} {N D : Nat} {v : Int} (h : EG i s N D v) (hv : v < 0) : ∀ (A : Option Addr) (l c : Nat) (B : Option Addr) (k d : Nat) (A' : Option Addr) (l' c' : Nat) (B' : Option Addr) (k' d' : Nat) (w : World), RatAt w A l c B k d N D → RatAt w A' l' c' B' k' d' (fracN 0 1 0) (fracD 0 1 0) →
    Calls Tryz.prog 125 #[.agg #[.int .i64 i, .bool s, .slice A l c, .slice B k d], .agg #[.int .i64 0, .bool false, .slice A' l' c', .slice B' k' d']] w (RetEnd 0 false (fracN 0 1 0) (fracD 0 1 0) w) := by
  intro A l c B k d A' l' c' B' k' d' w h1 h2
  refine greater_t (h1 := h1) (h2 := h2) (hv := ?_) (HC := Lib.hid fun w g g' => cmp6_any 0 false A' l' c' B' k' d' _ _ i s A l c B k d N D w g g' (by decide) (by decide) (by have := h.hN; omega) (by have := h.hD; omega) (by decide) h.hp)
  rw [h.cmp0]
  refine decide_eq_true ?_
  rw [if_neg (by omega), if_pos hv]; omega
theorem s6_fin0 : Hid (∀ w, Calls Tryz.prog 59 #[.int .i64 0] w (RetEnd 0 false (fracN 0 1 0) (fracD 0 1 0) w)) := Lib.hid fun w => finite_any 0 w (by omega)
theorem s6_noneh : Hid (∀ w, Calls Tryz.prog 127 #[] w (RetSet true 0 false (fracN 0 1 0) (fracD 0 1 0) 0 false (fracN 0 1 0) (fracD 0 1 0) w)) := Lib.hid fun w => none6_w (w := w) (HFI := s6_fin0)

section
variable {i : Int} {s : Bool} {N D : Nat} {v : Int} {j : Int} {t : Bool} {M E : Nat} {u : Int}
theorem s6_none (hB : EG j t M E u) (hu : u ≤ 0) : ∀ (A : Option Addr) (l c : Nat) (B : Option Addr) (k d : Nat) (A' : Option Addr) (l' c' : Nat) (B' : Option Addr) (k' d' : Nat) (w : World), RatAt w A l c B k d N D → RatAt w A' l' c' B' k' d' M E →
    Calls Tryz.prog 96 #[.agg #[.bool false, .int .i64 i, .bool s, .slice A l c, .slice B k d, .int .i64 j, .bool t, .slice A' l' c', .slice B' k' d']] w (RetSet true 0 false (fracN 0 1 0) (fracD 0 1 0) 0 false (fracN 0 1 0) (fracD 0 1 0) w) := by
  intro A l c B k d A' l' c' B' k' d' w h1 h2
  exact upper_z (i1 := i) (s1 := s) (h1 := h1) (h2 := h2) (v := u) (hv := decide_eq_true hu) (HSG := Lib.hid fun w g => s6_sg hB _ _ _ _ _ _ w g) (HNO := s6_noneh)
theorem s6_keep (hA : EG i s N D v) (hv : 0 ≤ v) (hB : EG j t M E u) (hu : 0 < u) : ∀ (A : Option Addr) (l c : Nat) (B : Option Addr) (k d : Nat) (A' : Option Addr) (l' c' : Nat) (B' : Option Addr) (k' d' : Nat) (w : World), RatAt w A l c B k d N D → RatAt w A' l' c' B' k' d' M E →
    Calls Tryz.prog 96 #[.agg #[.bool false, .int .i64 i, .bool s, .slice A l c, .slice B k d, .int .i64 j, .bool t, .slice A' l' c', .slice B' k' d']] w (RetSet false i s N D j t M E w) := by
  intro A l c B k d A' l' c' B' k' d' w h1 h2
  exact upper_p (h1 := h1) (h2 := h2) (v := u) (hv := decide_eq_false (by omega)) (HSG := Lib.hid fun w g => s6_sg hB _ _ _ _ _ _ w g) (HFI := s6_fin0) (HGR := Lib.hid fun A0 l0 c0 B0 k0 d0 w g g' => gr0_keep hA hv _ _ _ _ _ _ A0 l0 c0 B0 k0 d0 w g g')
theorem s6_zero (hA : EG i s N D v) (hv : v < 0) (hB : EG j t M E u) (hu : 0 < u) : ∀ (A : Option Addr) (l c : Nat) (B : Option Addr) (k d : Nat) (A' : Option Addr) (l' c' : Nat) (B' : Option Addr) (k' d' : Nat) (w : World), RatAt w A l c B k d N D → RatAt w A' l' c' B' k' d' M E →
    Calls Tryz.prog 96 #[.agg #[.bool false, .int .i64 i, .bool s, .slice A l c, .slice B k d, .int .i64 j, .bool t, .slice A' l' c', .slice B' k' d']] w (RetSet false 0 false (fracN 0 1 0) (fracD 0 1 0) j t M E w) := by
  intro A l c B k d A' l' c' B' k' d' w h1 h2
  exact upper_p (h1 := h1) (h2 := h2) (v := u) (hv := decide_eq_false (by omega)) (HSG := Lib.hid fun w g => s6_sg hB _ _ _ _ _ _ w g) (HFI := s6_fin0) (HGR := Lib.hid fun A0 l0 c0 B0 k0 d0 w g g' => gr0_zero hA hv _ _ _ _ _ _ A0 l0 c0 B0 k0 d0 w g g')
theorem s6_int0 : Hid (∀ w, Calls Tryz.prog 19 #[.int .i64 0] w (RetR false (fracN 0 1 0) (fracD 0 1 0) w)) := Lib.hid fun w => int_any 0 w (by omega)
theorem s6_top (hA : EG i s N D v) (hv : 0 < v) (hB : EG j t M E u) (hu : 0 < u) : ∀ (A : Option Addr) (l c : Nat) (B : Option Addr) (k d : Nat) (A' : Option Addr) (l' c' : Nat) (B' : Option Addr) (k' d' : Nat) (w : World), RatAt w A l c B k d N D → RatAt w A' l' c' B' k' d' M E →
    Calls Tryz.prog 95 #[.agg #[.bool false, .int .i64 i, .bool s, .slice A l c, .slice B k d, .int .i64 j, .bool t, .slice A' l' c', .slice B' k' d']] w (RetSet false 0 (ivS j t) (ivN j M E) (ivD j M E) 0 (ivS i s) (ivN i N D) (ivD i N D) w) := by
  intro A l c B k d A' l' c' B' k' d' w h1 h2
  exact over_t (h1 := h1) (h2 := h2) (v := v) (hv := decide_eq_true hv) (HI0 := s6_int0) (HSG := Lib.hid fun w g => s6_sg hA _ _ _ _ _ _ w g) (HV1 := Lib.hid fun w g => s6_inv hA (by omega) _ _ _ _ _ _ w g) (HV2 := Lib.hid fun w g => s6_inv hB (by omega) _ _ _ _ _ _ w g)
theorem s6_inf (hA : EG i s N D v) (hv : v ≤ 0) (hB : EG j t M E u) (hu : 0 < u) : ∀ (A : Option Addr) (l c : Nat) (B : Option Addr) (k d : Nat) (A' : Option Addr) (l' c' : Nat) (B' : Option Addr) (k' d' : Nat) (w : World), RatAt w A l c B k d N D → RatAt w A' l' c' B' k' d' M E →
    Calls Tryz.prog 95 #[.agg #[.bool false, .int .i64 i, .bool s, .slice A l c, .slice B k d, .int .i64 j, .bool t, .slice A' l' c', .slice B' k' d']] w (RetSet false 0 (ivS j t) (ivN j M E) (ivD j M E) 1 false (fracN 0 1 0) (fracD 0 1 0) w) := by
  intro A l c B k d A' l' c' B' k' d' w h1 h2
  exact over_f (h1 := h1) (h2 := h2) (v := v) (hv := decide_eq_false (by omega)) (HI0 := s6_int0) (HSG := Lib.hid fun w g => s6_sg hA _ _ _ _ _ _ w g) (HV2 := Lib.hid fun w g => s6_inv hB (by omega) _ _ _ _ _ _ w g)
theorem s6_mi (hi : -1 ≤ i ∧ i ≤ 1) (hj : -1 ≤ j ∧ j ≤ 1) (hN : nw N ≤ 1073741824) (hD : nw D ≤ 1073741824) (hM : nw M ≤ 1073741824) (hE : nw E ≤ 1073741824) : ∀ (A : Option Addr) (l c : Nat) (B : Option Addr) (k d : Nat) (A' : Option Addr) (l' c' : Nat) (B' : Option Addr) (k' d' : Nat) (w : World), RatAt w A l c B k d N D → RatAt w A' l' c' B' k' d' M E →
    Calls Tryz.prog 97 #[.agg #[.bool false, .int .i64 i, .bool s, .slice A l c, .slice B k d, .int .i64 j, .bool t, .slice A' l' c', .slice B' k' d']] w (RetSet false (-j) (!t && decide (M ≠ 0)) M E (-i) (!s && decide (N ≠ 0)) N D w) := by
  intro A l c B k d A' l' c' B' k' d' w h1 h2
  exact minus6_full i s A l c B k d N D j t A' l' c' B' k' d' M E w h1 h2 hi hj hN hD hM hE
theorem s6_meg (hA : EG i s N D v) (hB : EG j t M E u) : ∀ (A : Option Addr) (l c : Nat) (B : Option Addr) (k d : Nat) (A' : Option Addr) (l' c' : Nat) (B' : Option Addr) (k' d' : Nat) (w : World), RatAt w A l c B k d N D → RatAt w A' l' c' B' k' d' M E →
    Calls Tryz.prog 97 #[.agg #[.bool false, .int .i64 i, .bool s, .slice A l c, .slice B k d, .int .i64 j, .bool t, .slice A' l' c', .slice B' k' d']] w (RetSet false (-j) (!t && decide (M ≠ 0)) M E (-i) (!s && decide (N ≠ 0)) N D w) :=
  s6_mi hA.hi hB.hi (by have := hA.hN; omega) (by have := hA.hD; omega) (by have := hB.hN; omega) (by have := hB.hD; omega)
theorem s6_mnone : ∀ (A : Option Addr) (l c : Nat) (B : Option Addr) (k d : Nat) (A' : Option Addr) (l' c' : Nat) (B' : Option Addr) (k' d' : Nat) (w : World), RatAt w A l c B k d N D → RatAt w A' l' c' B' k' d' M E →
    Calls Tryz.prog 97 #[.agg #[.bool true, .int .i64 i, .bool s, .slice A l c, .slice B k d, .int .i64 j, .bool t, .slice A' l' c', .slice B' k' d']] w (RetSet true i s N D j t M E w) := by
  intro A l c B k d A' l' c' B' k' d' w h1 h2
  exact minus6_none i s A l c B k d N D j t A' l' c' B' k' d' M E w h1 h2
theorem s6_onone : ∀ (A : Option Addr) (l c : Nat) (B : Option Addr) (k d : Nat) (A' : Option Addr) (l' c' : Nat) (B' : Option Addr) (k' d' : Nat) (w : World), RatAt w A l c B k d N D → RatAt w A' l' c' B' k' d' M E →
    Calls Tryz.prog 95 #[.agg #[.bool true, .int .i64 i, .bool s, .slice A l c, .slice B k d, .int .i64 j, .bool t, .slice A' l' c', .slice B' k' d']] w (RetSet true i s N D j t M E w) := by
  intro A l c B k d A' l' c' B' k' d' w h1 h2
  exact over_n (i1 := i) (s1 := s) (i2 := j) (s2 := t) (h1 := h1) (h2 := h2)

/-- Inverses, both bounds above 0. -/
theorem inverse_pp (hA : EG i s N D v) (hv : 0 < v) (hB : EG j t M E u) (hu : 0 < u) : ∀ (A : Option Addr) (l c : Nat) (B : Option Addr) (k d : Nat) (A' : Option Addr) (l' c' : Nat) (B' : Option Addr) (k' d' : Nat) (w : World), RatAt w A l c B k d N D → RatAt w A' l' c' B' k' d' M E →
    Calls Tryz.prog 65 #[.agg #[.bool false, .int .i64 i, .bool s, .slice A l c, .slice B k d, .int .i64 j, .bool t, .slice A' l' c', .slice B' k' d']] w (RetSet false 0 (ivS j t) (ivN j M E) (ivD j M E) 0 (ivS i s) (ivN i N D) (ivD i N D) w) := by
  intro A l c B k d A' l' c' B' k' d' w h1 h2
  refine inverse6_w (h1 := h1) (h2 := h2) (HU := Lib.hid (s6_keep hA (by omega) hB hu)) (HO_ := Lib.hid (s6_top hA hv hB hu)) (HM := Lib.hid (s6_meg hA hB)) (HV := Lib.hid (s6_none hA.neg (by omega))) (HP := Lib.hid s6_onone) (HQ := Lib.hid s6_mnone) (HH := Lib.hid ?_)
  intro A1 l1 c1 B1 k1 d1 A2 l2 c2 B2 k2 d2 A3 l3 c3 B3 k3 d3 A4 l4 c4 B4 k4 d4 w g1 g2 g3 g4
  exact hull6_t (i1 := _) (s1 := _) (i2 := _) (s2 := _) (i3 := _) (s3 := _) (i4 := _) (s4 := _) (h1 := g1) (h2 := g2) (h3 := g3) (h4 := g4)
theorem inverse_zp (hA : EG i s N D v) (hv : v = 0) (hB : EG j t M E u) (hu : 0 < u) : ∀ (A : Option Addr) (l c : Nat) (B : Option Addr) (k d : Nat) (A' : Option Addr) (l' c' : Nat) (B' : Option Addr) (k' d' : Nat) (w : World), RatAt w A l c B k d N D → RatAt w A' l' c' B' k' d' M E →
    Calls Tryz.prog 65 #[.agg #[.bool false, .int .i64 i, .bool s, .slice A l c, .slice B k d, .int .i64 j, .bool t, .slice A' l' c', .slice B' k' d']] w (RetSet false 0 (ivS j t) (ivN j M E) (ivD j M E) 1 false (fracN 0 1 0) (fracD 0 1 0) w) := by
  intro A l c B k d A' l' c' B' k' d' w h1 h2
  refine inverse6_w (h1 := h1) (h2 := h2) (HU := Lib.hid (s6_keep hA (by omega) hB hu)) (HO_ := Lib.hid (s6_inf hA (by omega) hB hu)) (HM := Lib.hid (s6_meg hA hB)) (HV := Lib.hid (s6_none hA.neg (by omega))) (HP := Lib.hid s6_onone) (HQ := Lib.hid s6_mnone) (HH := Lib.hid ?_)
  intro A1 l1 c1 B1 k1 d1 A2 l2 c2 B2 k2 d2 A3 l3 c3 B3 k3 d3 A4 l4 c4 B4 k4 d4 w g1 g2 g3 g4
  exact hull6_t (i1 := _) (s1 := _) (i2 := _) (s2 := _) (i3 := _) (s3 := _) (i4 := _) (s4 := _) (h1 := g1) (h2 := g2) (h3 := g3) (h4 := g4)
theorem inverse_zz (hA : EG i s N D v) (hv : v = 0) (hB : EG j t M E u) (hu : u = 0) : ∀ (A : Option Addr) (l c : Nat) (B : Option Addr) (k d : Nat) (A' : Option Addr) (l' c' : Nat) (B' : Option Addr) (k' d' : Nat) (w : World), RatAt w A l c B k d N D → RatAt w A' l' c' B' k' d' M E →
    Calls Tryz.prog 65 #[.agg #[.bool false, .int .i64 i, .bool s, .slice A l c, .slice B k d, .int .i64 j, .bool t, .slice A' l' c', .slice B' k' d']] w (RetSet true 0 false (fracN 0 1 0) (fracD 0 1 0) 0 false (fracN 0 1 0) (fracD 0 1 0) w) := by
  intro A l c B k d A' l' c' B' k' d' w h1 h2
  refine inverse6_w (h1 := h1) (h2 := h2) (HU := Lib.hid (s6_none hB (by omega))) (HO_ := Lib.hid s6_onone) (HM := Lib.hid (s6_meg hA hB)) (HV := Lib.hid (s6_none hA.neg (by omega))) (HP := Lib.hid s6_onone) (HQ := Lib.hid s6_mnone) (HH := Lib.hid ?_)
  intro A1 l1 c1 B1 k1 d1 A2 l2 c2 B2 k2 d2 A3 l3 c3 B3 k3 d3 A4 l4 c4 B4 k4 d4 w g1 g2 g3 g4
  exact hull6_s (i1 := _) (s1 := _) (i2 := _) (s2 := _) (i3 := _) (s3 := _) (i4 := _) (s4 := _) (nb := _) (h1 := g1) (h2 := g2) (h3 := g3) (h4 := g4)
/-- A negative one's inverse, turned twice. -/
def nvS (i : Int) (s : Bool) (N D : Nat) : Bool := !ivS (-i) (!s && decide (N ≠ 0)) && decide (ivN (-i) N D ≠ 0)
theorem inverse_nz (hA : EG i s N D v) (hv : v < 0) (hB : EG j t M E u) (hu : u = 0) : ∀ (A : Option Addr) (l c : Nat) (B : Option Addr) (k d : Nat) (A' : Option Addr) (l' c' : Nat) (B' : Option Addr) (k' d' : Nat) (w : World), RatAt w A l c B k d N D → RatAt w A' l' c' B' k' d' M E →
    Calls Tryz.prog 65 #[.agg #[.bool false, .int .i64 i, .bool s, .slice A l c, .slice B k d, .int .i64 j, .bool t, .slice A' l' c', .slice B' k' d']] w (RetSet false (-1) (!false && decide (fracN 0 1 0 ≠ 0)) (fracN 0 1 0) (fracD 0 1 0) (-0) (nvS i s N D) (ivN (-i) N D) (ivD (-i) N D) w) := by
  intro A l c B k d A' l' c' B' k' d' w h1 h2
  have hs := ivN_sz hA.neg (by omega)
  refine inverse6_w (h1 := h1) (h2 := h2) (HU := Lib.hid (s6_none hB (by omega))) (HO_ := Lib.hid s6_onone) (HM := Lib.hid (s6_meg hA hB)) (HV := Lib.hid (s6_keep hB.neg (by omega) hA.neg (by omega))) (HP := Lib.hid (s6_inf hB.neg (by omega) hA.neg (by omega))) (HQ := Lib.hid (s6_mi (by omega) (by omega) hs.1 hs.2.1 (by decide) (by decide))) (HH := Lib.hid ?_)
  intro A1 l1 c1 B1 k1 d1 A2 l2 c2 B2 k2 d2 A3 l3 c3 B3 k3 d3 A4 l4 c4 B4 k4 d4 w g1 g2 g3 g4
  exact hull6_s (i1 := _) (s1 := _) (i2 := _) (s2 := _) (i3 := _) (s3 := _) (i4 := _) (s4 := _) (nb := _) (h1 := g1) (h2 := g2) (h3 := g3) (h4 := g4)
theorem inverse_nn (hA : EG i s N D v) (hv : v < 0) (hB : EG j t M E u) (hu : u < 0) : ∀ (A : Option Addr) (l c : Nat) (B : Option Addr) (k d : Nat) (A' : Option Addr) (l' c' : Nat) (B' : Option Addr) (k' d' : Nat) (w : World), RatAt w A l c B k d N D → RatAt w A' l' c' B' k' d' M E →
    Calls Tryz.prog 65 #[.agg #[.bool false, .int .i64 i, .bool s, .slice A l c, .slice B k d, .int .i64 j, .bool t, .slice A' l' c', .slice B' k' d']] w (RetSet false (-0) (nvS j t M E) (ivN (-j) M E) (ivD (-j) M E) (-0) (nvS i s N D) (ivN (-i) N D) (ivD (-i) N D) w) := by
  intro A l c B k d A' l' c' B' k' d' w h1 h2
  have hs := ivN_sz hA.neg (by omega)
  have hs2 := ivN_sz hB.neg (by omega)
  refine inverse6_w (h1 := h1) (h2 := h2) (HU := Lib.hid (s6_none hB (by omega))) (HO_ := Lib.hid s6_onone) (HM := Lib.hid (s6_meg hA hB)) (HV := Lib.hid (s6_keep hB.neg (by omega) hA.neg (by omega))) (HP := Lib.hid (s6_top hB.neg (by omega) hA.neg (by omega))) (HQ := Lib.hid (s6_mi (by omega) (by omega) hs.1 hs.2.1 hs2.1 hs2.2.1)) (HH := Lib.hid ?_)
  intro A1 l1 c1 B1 k1 d1 A2 l2 c2 B2 k2 d2 A3 l3 c3 B3 k3 d3 A4 l4 c4 B4 k4 d4 w g1 g2 g3 g4
  exact hull6_s (i1 := _) (s1 := _) (i2 := _) (s2 := _) (i3 := _) (s3 := _) (i4 := _) (s4 := _) (nb := _) (h1 := g1) (h2 := g2) (h3 := g3) (h4 := g4)
theorem inverse_np (hA : EG i s N D v) (hv : v < 0) (hB : EG j t M E u) (hu : 0 < u) : ∀ (A : Option Addr) (l c : Nat) (B : Option Addr) (k d : Nat) (A' : Option Addr) (l' c' : Nat) (B' : Option Addr) (k' d' : Nat) (w : World), RatAt w A l c B k d N D → RatAt w A' l' c' B' k' d' M E →
    Calls Tryz.prog 65 #[.agg #[.bool false, .int .i64 i, .bool s, .slice A l c, .slice B k d, .int .i64 j, .bool t, .slice A' l' c', .slice B' k' d']] w (RetSet false (-1) (!false && decide (fracN 0 1 0 ≠ 0)) (fracN 0 1 0) (fracD 0 1 0) 1 false (fracN 0 1 0) (fracD 0 1 0) w) := by
  intro A l c B k d A' l' c' B' k' d' w h1 h2
  have hs := ivN_sz hA.neg (by omega)
  have hs2 := ivN_sz hB (by omega)
  refine inverse6_w (h1 := h1) (h2 := h2) (HU := Lib.hid (s6_zero hA hv hB hu)) (HO_ := Lib.hid (s6_inf eg_fin (by omega) hB hu)) (HM := Lib.hid (s6_meg hA hB)) (HV := Lib.hid (s6_zero hB.neg (by omega) hA.neg (by omega))) (HP := Lib.hid (s6_inf eg_fin (by omega) hA.neg (by omega))) (HQ := Lib.hid (s6_mi (by omega) (by omega) hs.1 hs.2.1 (by decide) (by decide))) (HH := Lib.hid ?_)
  intro A1 l1 c1 B1 k1 d1 A2 l2 c2 B2 k2 d2 A3 l3 c3 B3 k3 d3 A4 l4 c4 B4 k4 d4 w g1 g2 g3 g4
  refine hull6_b (h1 := g1) (h2 := g2) (h3 := g3) (h4 := g4) (HLE := Lib.hid fun w e1 e3 => ?_) (HGR := Lib.hid fun w e2 e4 => ?_)
  · refine lesser_t (h1 := e1) (h2 := e3) (v := -1) (hv := by decide) (HC := Lib.hid fun w f3 f1 => ?_)
    exact cmp6_any _ _ _ _ _ _ _ _ _ _ _ _ _ _ _ _ _ _ _ _ w f3 f1 (by decide) (by decide) hs2.1 hs2.2.1 (by decide) hs2.2.2
  · refine greater_f (h1 := e2) (h2 := e4) (v := -1) (hv := by decide) (HC := Lib.hid fun w f4 f2 => ?_)
    exact cmp6_any _ _ _ _ _ _ _ _ _ _ _ _ _ _ _ _ _ _ _ _ w f4 f2 hs.1 hs.2.1 (by decide) (by decide) hs.2.2 (by decide)
end
end Go.Proofs.YtadijoeeaineaaaGreatDoor
