/-
  Four sums beside one another and the document's: how they lie; what a store and a call leave of them. Conditions: those that each theorem names.
-/
import Derived.Test.YtfbjeifhpmdjaaaGreatP38
import Derived.Laws.BitsLemmas
import Derived.ProofKit
import Derived.ChangeOld
import Derived.OpenShut
namespace Go.Proofs.YtfbjeifhpmdjaaaGreat
open Go.RowKit Nm Rn
set_option maxRecDepth 100000
set_option linter.unusedVariables false
set_option linter.unusedSimpArgs false

/-- How a document's sum lies: its ratio and where its naturals stand. -/
structure Dv where
  s : Bool
  N : Nat
  D : Nat
  A : Option Addr
  l : Nat
  c : Nat
  B : Option Addr
  k : Nat
  d : Nat
def Dv.cs (v : Dv) (S : Sm) : List Value := [.bool v.s, .slice v.A v.l v.c, .slice v.B v.k v.d, .bool S.p, .bool S.m, .bool S.n, .int .u64 (S.t : Int)]
def Dv.ws (v : Dv) : List Sw := [⟨v.B, v.k, v.d, nd v.D⟩, ⟨v.A, v.l, v.c, nd v.N⟩]
def Dv.at_ (v : Dv) (w : World) : Prop := RatAt w v.A v.l v.c v.B v.k v.d v.N v.D
def updF {α : Type} (f : Nat → α) (s : Nat) (x : α) : Nat → α := fun i => if i = s then x else f i
theorem updF_self {α : Type} (f : Nat → α) (s : Nat) (x : α) : updF f s x s = x := if_pos rfl
theorem updF_ne {α : Type} (f : Nat → α) {s i : Nat} (x : α) (h : i ≠ s) : updF f s x i = f i := if_neg h
theorem updF_same {α : Type} (f : Nat → α) (s : Nat) : updF f s (f s) = f := by
  funext i
  unfold updF
  split
  · rename_i h; rw [h]
  · rfl
theorem updF_all {α : Type} {f : Nat → α} {s : Nat} {x : α} (P : Nat → α → Prop) (h : ∀ i, i < 4 → P i (f i)) (hx : P s x) : ∀ i, i < 4 → P i (updF f s x i) := fun i hi => by
  unfold updF
  split
  · rename_i e; rw [e]; exact hx
  · exact h i hi
def ptrs (G : Nat → Nat) : List Value := [.pointer (some ⟨G 0, 0, none⟩), .pointer (some ⟨G 1, 0, none⟩), .pointer (some ⟨G 2, 0, none⟩), .pointer (some ⟨G 3, 0, none⟩)]
def docs (V : Nat → Dv) (Y : Nat → Sm) : List Value := (V 0).cs (Y 0) ++ ((V 1).cs (Y 1) ++ ((V 2).cs (Y 2) ++ (V 3).cs (Y 3)))
def sums (G : Nat → Nat) (Z : Nat → Sm) : List Bx := [⟨G 0, 55, (Z 0).cs⟩, ⟨G 1, 55, (Z 1).cs⟩, ⟨G 2, 55, (Z 2).cs⟩, ⟨G 3, 55, (Z 3).cs⟩]
def wrds (V : Nat → Dv) : List Sw := (V 0).ws ++ ((V 1).ws ++ ((V 2).ws ++ (V 3).ws))
/-- What stands: the pointers, the document's sums, the four sums; X lies beside. -/
def PS (w0 : World) (X : List Bx) (ga gd : Nat) (G : Nat → Nat) (Z Y : Nat → Sm) (V : Nat → Dv) (w : World) : Prop :=
  Own w0 (X ++ ⟨gd, 47, docs V Y⟩ :: ⟨ga, 46, ptrs G⟩ :: sums G Z) (wrds V) w
theorem four_cases {s : Nat} (h : s < 4) : s = 0 ∨ s = 1 ∨ s = 2 ∨ s = 3 := by omega
theorem spl_ptrs {s : Nat} (h : s < 4) (G : Nat → Nat) (g : Nat) : spl (ptrs G) s [.pointer (some ⟨g, 0, none⟩)] = ptrs (updF G s g) := by
  rcases four_cases h with rfl | rfl | rfl | rfl <;> rfl
theorem spl_docs {s : Nat} (h : s < 4) (V : Nat → Dv) (Y : Nat → Sm) (v : Dv) (S : Sm) : spl (docs V Y) (s * 7) (v.cs S) = docs (updF V s v) (updF Y s S) := by
  rcases four_cases h with rfl | rfl | rfl | rfl <;> rfl
section
variable {w0 w w' : World} {X : List Bx} {ga gd : Nat} {G : Nat → Nat} {Z Y : Nat → Sm} {V : Nat → Dv}
theorem PS.ext (h : PS w0 X ga gd G Z Y V w) (e : Ext w w') : PS w0 X ga gd G Z Y V w' := Own.ext h e
theorem PS.toExt (h : PS w0 X ga gd G Z Y V w) : Ext w0 w := Own.toExt h
theorem PS.box (h : PS w0 X ga gd G Z Y V w) {b : Bx} (hb : b ∈ X ++ ⟨gd, 47, docs V Y⟩ :: ⟨ga, 46, ptrs G⟩ :: sums G Z) (j : Nat) : w.cell? ⟨b.g, j, none⟩ = b.cs[j]? := by
  obtain ⟨i, hi⟩ := List.getElem?_of_mem hb
  exact Own.cell h i hi j
theorem PS.ptr (h : PS w0 X ga gd G Z Y V w) {s : Nat} (hs : s < 4) : w.cell? ⟨ga, s, none⟩ = some (.pointer (some ⟨G s, 0, none⟩)) := by
  have h1 := h.box (b := ⟨ga, 46, ptrs G⟩) (by simp) s
  rw [h1]
  rcases four_cases hs with rfl | rfl | rfl | rfl <;> rfl
theorem PS.doc (h : PS w0 X ga gd G Z Y V w) {s : Nat} (hs : s < 4) (j : Nat) (hj : j < 7) : w.cell? ⟨gd, s * 7 + j, none⟩ = ((V s).cs (Y s))[j]? := by
  have h1 := h.box (b := ⟨gd, 47, docs V Y⟩) (by simp) (s * 7 + j)
  rw [h1]
  have hj : j = 0 ∨ j = 1 ∨ j = 2 ∨ j = 3 ∨ j = 4 ∨ j = 5 ∨ j = 6 := by omega
  rcases four_cases hs with rfl | rfl | rfl | rfl <;> rcases hj with rfl | rfl | rfl | rfl | rfl | rfl | rfl <;> rfl
theorem PS.doc7 (h : PS w0 X ga gd G Z Y V w) {s : Nat} (hs : s < 4) : w.cell? ⟨gd, s * 7, none⟩ = some (.bool (V s).s) ∧ w.cell? ⟨gd, s * 7 + 1, none⟩ = some (.slice (V s).A (V s).l (V s).c) ∧ w.cell? ⟨gd, s * 7 + 2, none⟩ = some (.slice (V s).B (V s).k (V s).d) ∧ w.cell? ⟨gd, s * 7 + 3, none⟩ = some (.bool (Y s).p) ∧ w.cell? ⟨gd, s * 7 + 4, none⟩ = some (.bool (Y s).m) ∧ w.cell? ⟨gd, s * 7 + 5, none⟩ = some (.bool (Y s).n) ∧ w.cell? ⟨gd, s * 7 + 6, none⟩ = some (.int .u64 ((Y s).t : Int)) :=
  ⟨h.doc hs 0 (by omega), h.doc hs 1 (by omega), h.doc hs 2 (by omega), h.doc hs 3 (by omega), h.doc hs 4 (by omega), h.doc hs 5 (by omega), h.doc hs 6 (by omega)⟩
theorem PS.step7 {gp : Nat} {tp : TypeId} {v0 v1 v2 v3 v4 v5 v6 : Value} (h : PS w0 (⟨gp, tp, [v0, v1, v2, v3, v4, v5, v6]⟩ :: X) ga gd G Z Y V w) : w.cell? ⟨gp, 0, none⟩ = some v0 ∧ w.cell? ⟨gp, 1, none⟩ = some v1 ∧ w.cell? ⟨gp, 2, none⟩ = some v2 ∧ w.cell? ⟨gp, 3, none⟩ = some v3 ∧ w.cell? ⟨gp, 4, none⟩ = some v4 ∧ w.cell? ⟨gp, 5, none⟩ = some v5 ∧ w.cell? ⟨gp, 6, none⟩ = some v6 := by
  have hc : ∀ j, w.cell? ⟨gp, j, none⟩ = [v0, v1, v2, v3, v4, v5, v6][j]? := fun j => h.box (b := ⟨gp, tp, [v0, v1, v2, v3, v4, v5, v6]⟩) (by simp) j
  exact ⟨hc 0, hc 1, hc 2, hc 3, hc 4, hc 5, hc 6⟩
theorem PS.rat (h : PS w0 X ga gd G Z Y V w) {s : Nat} (hs : s < 4) : (V s).at_ w := by
  refine ⟨h.2.2.2 ⟨(V s).A, (V s).l, (V s).c, nd (V s).N⟩ ?_, h.2.2.2 ⟨(V s).B, (V s).k, (V s).d, nd (V s).D⟩ ?_⟩ <;>
    rcases four_cases hs with rfl | rfl | rfl | rfl <;> simp [wrds, Dv.ws]
/-- The sum s ahead of all else. -/
theorem sums_front {s : Nat} (hs : s < 4) (X : List Bx) (b c : Bx) (G : Nat → Nat) (Z : Nat → Sm) : ∃ L, ∀ S, (X ++ b :: c :: sums G (updF Z s S)).Perm (⟨G s, 55, S.cs⟩ :: L) := by
  have key : ∀ (P : List Bx) (x : Bx) (Q : List Bx), (X ++ b :: c :: (P ++ x :: Q)).Perm (x :: (X ++ b :: c :: (P ++ Q))) := fun P x Q => by
    have h1 : X ++ b :: c :: (P ++ x :: Q) = (X ++ b :: c :: P) ++ x :: Q := by simp
    have h2 : x :: (X ++ b :: c :: (P ++ Q)) = x :: ((X ++ b :: c :: P) ++ Q) := by simp
    rw [h1, h2]
    exact List.perm_middle
  rcases four_cases hs with rfl | rfl | rfl | rfl
  · exact ⟨_, fun S => key [] ⟨G 0, 55, S.cs⟩ [⟨G 1, 55, (Z 1).cs⟩, ⟨G 2, 55, (Z 2).cs⟩, ⟨G 3, 55, (Z 3).cs⟩]⟩
  · exact ⟨_, fun S => key [⟨G 0, 55, (Z 0).cs⟩] ⟨G 1, 55, S.cs⟩ [⟨G 2, 55, (Z 2).cs⟩, ⟨G 3, 55, (Z 3).cs⟩]⟩
  · exact ⟨_, fun S => key [⟨G 0, 55, (Z 0).cs⟩, ⟨G 1, 55, (Z 1).cs⟩] ⟨G 2, 55, S.cs⟩ [⟨G 3, 55, (Z 3).cs⟩]⟩
  · exact ⟨_, fun S => key [⟨G 0, 55, (Z 0).cs⟩, ⟨G 1, 55, (Z 1).cs⟩, ⟨G 2, 55, (Z 2).cs⟩] ⟨G 3, 55, S.cs⟩ []⟩
/-- A call that turns the sum s. -/
theorem PS.call {s : Nat} (hs : s < 4) (h : PS w0 X ga gd G Z Y V w) {R : World → Prop} (S : Sm)
    (hc : ∀ L, Own w0 (⟨G s, 55, (Z s).cs⟩ :: L) (wrds V) w → Own w0 (⟨G s, 55, S.cs⟩ :: L) (wrds V) w') : PS w0 X ga gd G (updF Z s S) Y V w' := by
  obtain ⟨L, hL⟩ := sums_front hs X ⟨gd, 47, docs V Y⟩ ⟨ga, 46, ptrs G⟩ G Z
  have h1 := hL (Z s)
  rw [updF_same] at h1
  exact (hc L (Own.perm h h1)).perm (hL S).symm
/-- The sum s, to be asked. -/
theorem PS.ask {s : Nat} (hs : s < 4) (h : PS w0 X ga gd G Z Y V w) : ∃ L, Own w0 (⟨G s, 55, (Z s).cs⟩ :: L) (wrds V) w := by
  obtain ⟨L, hL⟩ := sums_front hs X ⟨gd, 47, docs V Y⟩ ⟨ga, 46, ptrs G⟩ G Z
  have h1 := hL (Z s)
  rw [updF_same] at h1
  exact ⟨L, Own.perm h h1⟩
theorem PS.turn {s : Nat} (hs : s < 4) (h : PS w0 X ga gd G Z Y V w) (S : Sm) {f : Nat} {args : Array Value}
    (hc : ∀ L, Own w0 (⟨G s, 55, (Z s).cs⟩ :: L) (wrds V) w → Calls Tryz.prog f args w fun e w' => e = .returned (.tuple #[]) ∧ Own w0 (⟨G s, 55, S.cs⟩ :: L) (wrds V) w') :
    Calls Tryz.prog f args w fun e w' => e = .returned (.tuple #[]) ∧ PS w0 X ga gd G (updF Z s S) Y V w' := by
  obtain ⟨L, hL⟩ := sums_front hs X ⟨gd, 47, docs V Y⟩ ⟨ga, 46, ptrs G⟩ G Z
  have h1 := hL (Z s)
  rw [updF_same] at h1
  refine (hc L (Own.perm h h1)).mono ?_
  rintro e w' ⟨he, hO⟩
  exact ⟨he, Own.perm hO (hL S).symm⟩
theorem PS.add_ {s : Nat} (hs : s < 4) (h : PS w0 X ga gd G Z Y V w) (x : Nat) (hok : (Z s).Ok) (hx : x < 18446744073709551616) :
    Calls Tryz.prog 19 #[.pointer (some ⟨G s, 0, none⟩), .float .f64 x] w fun e w' => e = .returned (.tuple #[]) ∧ PS w0 X ga gd G (updF Z s ((Z s).add x)) Y V w' :=
  h.turn hs _ fun L hO => tadd_any (Z s) x hok.1 hx hO
theorem PS.mul_ {s : Nat} (hs : s < 4) (h : PS w0 X ga gd G Z Y V w) (x y : Nat) (hok : (Z s).Ok) (hx : x < 18446744073709551616) (hy : y < 18446744073709551616) :
    Calls Tryz.prog 22 #[.pointer (some ⟨G s, 0, none⟩), .float .f64 x, .float .f64 y] w fun e w' => e = .returned (.tuple #[]) ∧ PS w0 X ga gd G (updF Z s ((Z s).mul x y)) Y V w' :=
  h.turn hs _ fun L hO => tmul_any (Z s) x y hok.1 hx hy hO
theorem PS.neg_ {s : Nat} (hs : s < 4) (h : PS w0 X ga gd G Z Y V w) :
    Calls Tryz.prog 26 #[.pointer (some ⟨G s, 0, none⟩)] w fun e w' => e = .returned (.tuple #[]) ∧ PS w0 X ga gd G (updF Z s ((Z s).neg)) Y V w' :=
  h.turn hs _ fun L hO => tneg_any (Z s) hO
theorem sums_at {t : Nat} (ht : t < 4) (G : Nat → Nat) (Z : Nat → Sm) : (⟨G t, 55, (Z t).cs⟩ : Bx) ∈ sums G Z := by
  rcases four_cases ht with rfl | rfl | rfl | rfl <;> simp [sums]
theorem PS.merge_ {s t : Nat} (hs : s < 4) (ht : t < 4) (h : PS w0 X ga gd G Z Y V w) (hok : (Z s).Ok) (hok2 : (Z t).Ok) :
    Calls Tryz.prog 24 #[.pointer (some ⟨G s, 0, none⟩), .pointer (some ⟨G t, 0, none⟩)] w fun e w' => e = .returned (.tuple #[]) ∧ PS w0 X ga gd G (updF Z s ((Z s).merge (Z t))) Y V w' := by
  obtain ⟨L, hL⟩ := sums_front hs X ⟨gd, 47, docs V Y⟩ ⟨ga, 46, ptrs G⟩ G Z
  have h1 := hL (Z s)
  rw [updF_same] at h1
  have hm : (⟨G t, 55, (Z t).cs⟩ : Bx) ∈ (⟨G s, 55, (Z s).cs⟩ :: L : List Bx) := h1.mem_iff.1 (by
    have := sums_at ht G Z
    simp only [List.mem_append, List.mem_cons]
    exact .inr (.inr (.inr this)))
  obtain ⟨ko, hko⟩ := List.getElem?_of_mem hm
  refine (tmerge_core (Z s) (Z t) (G t) ko hko hok.1 hok2.1 (Own.perm h h1)).mono ?_
  rintro e w' ⟨he, hO⟩
  exact ⟨he, Own.perm hO (hL _).symm⟩
/-- The document's sum s is written anew. -/
theorem PS.words {s : Nat} (h : PS w0 X ga gd G Z Y V w) {v : Dv} (hv : v.at_ w) : ∀ b ∈ wrds (updF V s v), Wds w b.A b.n b.c b.xs := by
  have each : ∀ i, i < 4 → ∀ b ∈ (updF V s v i).ws, Wds w b.A b.n b.c b.xs := fun i hi b hb => by
    have h2 : (updF V s v i).at_ w := by
      unfold updF
      split
      · exact hv
      · exact h.rat hi
    simp only [Dv.ws, List.mem_cons, List.not_mem_nil, or_false] at hb
    rcases hb with rfl | rfl
    · exact h2.2
    · exact h2.1
  intro b hb
  simp only [wrds, List.mem_append] at hb
  rcases hb with hb | hb | hb | hb
  · exact each 0 (by omega) b hb
  · exact each 1 (by omega) b hb
  · exact each 2 (by omega) b hb
  · exact each 3 (by omega) b hb
theorem nodup_new {g : Nat} {X : List Bx} {G : Nat → Nat} {Z Z' : Nat → Sm} {b c b' c' : Bx} (hb : b.g = b'.g) (hc : c.g = c'.g) {s : Nat} (hs : s < 4) (S : Sm) (h : ((⟨g, 55, S.cs⟩ :: X ++ b :: c :: sums G Z : List Bx).map Bx.g).Nodup) :
    ((X ++ b' :: c' :: sums (updF G s g) Z').map Bx.g).Nodup := by
  have e1 : (⟨g, 55, S.cs⟩ :: X ++ b :: c :: sums G Z : List Bx).map Bx.g = g :: (X.map Bx.g ++ [b.g, c.g, G 0, G 1, G 2, G 3]) := by simp [sums]
  have e2 : (X ++ b' :: c' :: sums (updF G s g) Z').map Bx.g = X.map Bx.g ++ [b.g, c.g, updF G s g 0, updF G s g 1, updF G s g 2, updF G s g 3] := by simp [sums, hb, hc]
  rw [e1] at h
  rw [e2]
  have h' : (g :: (X.map Bx.g ++ [b.g, c.g, G 0, G 1, G 2, G 3])).Nodup := h
  clear h e1 e2
  have key : ∀ P Q : List Nat, ∀ y, (g :: (X.map Bx.g ++ (P ++ y :: Q))).Nodup → (X.map Bx.g ++ (P ++ g :: Q)).Nodup := fun P Q y hn => by
    have a1 : (X.map Bx.g ++ (P ++ g :: Q)).Perm (g :: (X.map Bx.g ++ (P ++ Q))) := by
      rw [← List.append_assoc, ← List.append_assoc]
      exact List.perm_middle
    refine a1.nodup_iff.2 (hn.sublist ?_)
    exact List.Sublist.cons_cons _ (List.Sublist.append (List.Sublist.refl _) (List.Sublist.append (List.Sublist.refl _) (List.sublist_cons_self _ _)))
  rcases four_cases hs with rfl | rfl | rfl | rfl
  · exact key [b.g, c.g] _ _ h'
  · exact key [b.g, c.g, G 0] _ _ h'
  · exact key [b.g, c.g, G 0, G 1] _ _ h'
  · exact key [b.g, c.g, G 0, G 1, G 2] _ _ h'
/-- A sum beside takes the place s. -/
theorem PS.take_ {g : Nat} {S : Sm} {s : Nat} (hs : s < 4) (h : Own w0 (⟨g, 55, S.cs⟩ :: X ++ ⟨gd, 47, docs V Y⟩ :: ⟨ga, 46, ptrs (updF G s g)⟩ :: sums G Z) (wrds V) w) : PS w0 X ga gd (updF G s g) (updF Z s S) Y V w := by
  refine ⟨h.1, fun b hb => h.2.1 b ?_, nodup_new rfl rfl hs S h.2.2.1, h.2.2.2⟩
  simp only [List.mem_append, List.mem_cons, List.cons_append] at hb ⊢
  rcases hb with hb | hb | hb | hb
  · exact .inr (.inl hb)
  · exact .inr (.inr (.inl hb))
  · exact .inr (.inr (.inr (.inl hb)))
  · rcases four_cases hs with rfl | rfl | rfl | rfl <;>
      (simp [sums, updF] at hb
       rcases hb with hb | hb | hb | hb <;> simp [sums, hb])
theorem PS.drop {b : Bx} (h : PS w0 (b :: X) ga gd G Z Y V w) : PS w0 X ga gd G Z Y V w := Own.sub h (List.sublist_cons_self _ _)
end
theorem set_mid (X : List Bx) (b c c' : Bx) (R : List Bx) : (X ++ b :: c :: R)[X.length + 1]? = some c ∧ (X ++ b :: c :: R).set (X.length + 1) c' = X ++ b :: c' :: R := by
  constructor
  · rw [List.getElem?_append_right (by omega), show X.length + 1 - X.length = 1 by omega]; rfl
  · rw [List.set_append_right _ _ (by omega), show X.length + 1 - X.length = 1 by omega]; rfl
theorem set_mid0 (X : List Bx) (b b' : Bx) (R : List Bx) : (X ++ b :: R)[X.length]? = some b ∧ (X ++ b :: R).set X.length b' = X ++ b' :: R := by
  constructor
  · rw [List.getElem?_append_right (by omega), Nat.sub_self]; rfl
  · rw [List.set_append_right _ _ (by omega), Nat.sub_self]; rfl
section
variable {P : Program} {ops : Array Oper} {rest : List Oper} {a : Act} {Q : Exit → Act → World → Prop} {ty T : TypeId} {ps : String} {af : Array Edge} {x y : Operand} {w0 w : World} {X : List Bx} {ga gd g s : Nat} {G : Nat → Nat} {Z Y : Nat → Sm} {V : Nat → Dv} {S : Sm}
/-- A pointer to a sum beside is stored at the place s. -/
theorem ps_new (hP : PS w0 (⟨g, 55, S.cs⟩ :: X) ga gd G Z Y V w) (hs : s < 4) (hx : a.eval x = .pointer (some ⟨ga, s, none⟩)) (hy : (a.eval y).cells = #[.pointer (some ⟨g, 0, none⟩)]) (hsz : ∀ w, (sizeOf T).run P w = .ok 1 w)
    (h : ∀ w', PS w0 X ga gd (updF G s g) (updF Z s S) Y V w' → wpList P ops Q rest a w') :
    wpList P ops Q ({ dst := none, op := .store T x y, type := ty, pos := ps, after := af, guard := none } :: rest) a w := by
  obtain ⟨h1, h2⟩ := set_mid (⟨g, 55, S.cs⟩ :: X) ⟨gd, 47, docs V Y⟩ ⟨ga, 46, ptrs G⟩ ⟨ga, 46, ptrs (updF G s g)⟩ (sums G Z)
  refine own_store (vs := [.pointer (some ⟨g, 0, none⟩)]) (T := T) hP _ h1 hx hy hsz rfl rfl ?_ (fun w' hO => h w' ?_)
  · show Nat.ble (s + 1) 4 = true
    rw [Nat.ble_eq]; omega
  · rw [spl_ptrs hs, h2] at hO
    exact PS.take_ hs hO
/-- A document's sum is stored at the place s. -/
theorem ps_doc (hP : PS w0 X ga gd G Z Y V w) (hs : s < 4) (v : Dv) (S : Sm) (hv : v.at_ w) (hx : a.eval x = .pointer (some ⟨gd, s * 7, none⟩)) (hy : (a.eval y).cells = (v.cs S).toArray) (hsz : ∀ w, (sizeOf T).run P w = .ok 7 w)
    (h : ∀ w', PS w0 X ga gd G Z (updF Y s S) (updF V s v) w' → wpList P ops Q rest a w') :
    wpList P ops Q ({ dst := none, op := .store T x y, type := ty, pos := ps, after := af, guard := none } :: rest) a w := by
  obtain ⟨h1, h2⟩ := set_mid0 X ⟨gd, 47, docs V Y⟩ ⟨gd, 47, docs (updF V s v) (updF Y s S)⟩ (⟨ga, 46, ptrs G⟩ :: sums G Z)
  have hO : Own w0 (X ++ ⟨gd, 47, docs V Y⟩ :: ⟨ga, 46, ptrs G⟩ :: sums G Z) (wrds (updF V s v)) w := ⟨hP.1, hP.2.1, hP.2.2.1, PS.words hP hv⟩
  refine own_store (vs := v.cs S) (T := T) hO _ h1 hx hy hsz rfl rfl ?_ (fun w' hO => h w' ?_)
  · show Nat.ble (s * 7 + 7) 28 = true
    rw [Nat.ble_eq]; omega
  · rw [spl_docs hs, h2] at hO
    exact hO
end
end Go.Proofs.YtfbjeifhpmdjaaaGreat

/-
  Lists of steps: how such an argument is opened; slot. Conditions: those that each theorem names.
-/
namespace Go.Proofs.YtfbjeifhpmdjaaaGreat
open Go.ChangeShapes Go.WideShapes Go.ChangeAt Go.RowKit
set_option linter.unusedVariables false
set_option linter.unusedSimpArgs false

/-- A step of a play. -/
structure Stp where
  o : Int
  s : Int
  t : Int
  x : Nat
  y : Nat
  d : Int
  n : Int
def Stp.ok (q : Stp) : Prop := q.x < 18446744073709551616 ∧ q.y < 18446744073709551616 ∧ q.n < 9223372036854775808 ∧ -9223372036854775808 ≤ q.s ∧ q.s < 9223372036854775808 ∧ -9223372036854775808 ≤ q.t ∧ q.t < 9223372036854775808
def Stp.cell (q : Stp) (w : World) (ad : Addr) (k : Nat) : Prop :=
  w.cell? (ad.add (k * 7)) = some (.int .i64 q.o)
      ∧ w.cell? (ad.add (k * 7 + 1)) = some (.int .i64 q.s)
      ∧ w.cell? (ad.add (k * 7 + 2)) = some (.int .i64 q.t)
      ∧ w.cell? (ad.add (k * 7 + 3)) = some (.int .u64 (q.x : Int))
      ∧ w.cell? (ad.add (k * 7 + 4)) = some (.int .u64 (q.y : Int))
      ∧ w.cell? (ad.add (k * 7 + 5)) = some (.int .i64 q.d)
      ∧ w.cell? (ad.add (k * 7 + 6)) = some (.int .i64 q.n)
/-- The slice '.slice A n c' of steps reads as the list ts. -/
def Sps (w : World) (A : Option Addr) (n c : Nat) (ts : List Stp) : Prop :=
  ts.length = n ∧ n ≤ c ∧ c ≤ maxLen ∧ (∀ q ∈ ts, q.ok) ∧
    (0 < n → ∃ ad, A = some ad ∧ ad.block < w.heap.size ∧ ∀ (k : Nat) (q : Stp), ts[k]? = some q → q.cell w ad k)
section
variable {w w' : World} {n c : Nat} {A : Option Addr} {ts : List Stp}
theorem Stp.cell.ext {q : Stp} {ad : Addr} {k : Nat} (h : q.cell w ad k) (he : Ext w w') (hb : ad.block < w.heap.size) : q.cell w' ad k := by
  unfold Stp.cell at h ⊢
  obtain ⟨h0, h1, h2, h3, h4, h5, h6⟩ := h
  exact ⟨by rw [he.cell (by rw [block_of_add]; exact hb)]; exact h0, by rw [he.cell (by rw [block_of_add]; exact hb)]; exact h1, by rw [he.cell (by rw [block_of_add]; exact hb)]; exact h2, by rw [he.cell (by rw [block_of_add]; exact hb)]; exact h3, by rw [he.cell (by rw [block_of_add]; exact hb)]; exact h4, by rw [he.cell (by rw [block_of_add]; exact hb)]; exact h5, by rw [he.cell (by rw [block_of_add]; exact hb)]; exact h6⟩
theorem Sps.len (h : Sps w A n c ts) : ts.length = n := h.1
theorem Sps.small (h : Sps w A n c ts) : n ≤ 9223372036854775807 := by have h1 := h.2.1; have h2 := h.2.2.1; unfold maxLen at h2; omega
theorem Sps.ext (h : Sps w A n c ts) (he : Ext w w') : Sps w' A n c ts :=
  ⟨h.1, h.2.1, h.2.2.1, h.2.2.2.1, fun hn => by
    obtain ⟨ad, e, hb, hc⟩ := h.2.2.2.2 hn
    exact ⟨ad, e, Nat.lt_of_lt_of_le hb he.size, fun k q hq => (hc k q hq).ext he hb⟩⟩
theorem Sps.at_ {k : Nat} (h : Sps w A n c ts) (hk : k < n) : ∃ ad q, A = some ad ∧ ts[k]? = some q ∧ q.ok ∧ ad.block < w.heap.size ∧ q.cell w ad k := by
  obtain ⟨ad, e, hb, hc⟩ := h.2.2.2.2 (by omega)
  have hl : k < ts.length := by have := h.1; omega
  have hq : ts[k]? = some ts[k] := List.getElem?_eq_getElem hl
  exact ⟨ad, _, e, hq, h.2.2.2.1 _ (List.getElem_mem hl), hb, hc k _ hq⟩
end
theorem list_of4 {α : Type} (Q : Nat → α → Prop) : ∀ n, (∀ i, i < n → ∃ q, Q i q) → ∃ ts : List α, ts.length = n ∧ ∀ i q, ts[i]? = some q → Q i q
  | 0, _ => ⟨[], rfl, fun i q h => by simp at h⟩
  | n + 1, h => by
    obtain ⟨ts, h1, h2⟩ := list_of4 Q n (fun i hi => h i (by omega))
    obtain ⟨q, hq⟩ := h n (by omega)
    refine ⟨ts ++ [q], by simp [h1], fun i r hr => ?_⟩
    rcases Nat.lt_or_ge i n with hi | hi
    · rw [List.getElem?_append_left (by omega)] at hr
      exact h2 i r hr
    · rw [List.getElem?_append_right (by omega)] at hr
      have hi0 : i = n := by
        rcases Nat.eq_or_lt_of_le hi with e | e
        · exact e.symm
        · rw [List.getElem?_eq_none (by simp; omega)] at hr; cases hr
      subst hi0
      rw [h1, Nat.sub_self] at hr
      simp at hr
      rw [← hr]
      exact hq
theorem cell_in4 {w : World} {a : Addr} {v : Value} (h : w.cell? a = some v) : a.block < w.heap.size := by
  rcases Nat.lt_or_ge a.block w.heap.size with hl | hl
  · exact hl
  · unfold World.cell? at h
    rw [Array.getElem?_eq_none hl] at h
    cases h
theorem addr_add4 (a : Addr) (i j : Nat) : (a.add i).add j = a.add (i + j) := add_of_add a i j


theorem open_steps {H : Type} {enc : TypeId × Value → H} {P : Program} {W : World} {sp : Nat → Bool} {held : Bool} {r : Reach} {b0 : Nat} {t te : TypeId} {f0 f1 f2 f3 f4 f5 f6 : Field} {v : Value} {d : DataW H} {ps : List MemPlace}
    (ht : P.underlying t = some (.slice te)) (hs : P.underlying te = some (.struct #[f0, f1, f2, f3, f4, f5, f6]))
    (u0 : P.underlying f0.type = some (.int .i64)) (u1 : P.underlying f1.type = some (.int .i64)) (u2 : P.underlying f2.type = some (.int .i64)) (u3 : P.underlying f3.type = some (.int .u64)) (u4 : P.underlying f4.type = some (.int .u64)) (u5 : P.underlying f5.type = some (.int .i64)) (u6 : P.underlying f6.type = some (.int .i64))
    (o0 : f0.offset = 0) (o1 : f1.offset = 1) (o2 : f2.offset = 2) (o3 : f3.offset = 3) (o4 : f4.offset = 4) (o5 : f5.offset = 5) (o6 : f6.offset = 6) (cc : P.cellsOf te = 7) (c0 : P.cellsOf f0.type = 1) (c1 : P.cellsOf f1.type = 1) (c2 : P.cellsOf f2.type = 1) (c3 : P.cellsOf f3.type = 1) (c4 : P.cellsOf f4.type = 1) (c5 : P.cellsOf f5.type = 1) (c6 : P.cellsOf f6.type = 1)
    (hval : Value.okWide P W r b0 t v) (hd : DataW.Trod enc P W 0 sp held t v d ps) : ∃ A n c ts, v = .slice A n c ∧ Sps W A n c ts := by
  obtain ⟨a0, n0, k0, rfl⟩ := okWide_slice ht hval
  obtain ⟨fuel, hf⟩ := hd
  rcases DataW.trod_slice ht hf with ⟨h1, _⟩ | ⟨a, len, cap, elems, rest, n, _, h1, _, _, hl, hm, hlen, hel, _, _⟩
  · simp [Value.cells] at h1
    obtain ⟨rfl, rfl, rfl⟩ := h1
    exact ⟨none, 0, 0, [], rfl, rfl, Nat.le_refl _, Nat.zero_le _, (fun q hq => nomatch hq), fun h => absurd h (by omega)⟩
  · simp [Value.cells] at h1
    obtain ⟨rfl, rfl, rfl⟩ := h1
    have each : ∀ i, i < n0 → ∃ q : Stp, q.ok ∧ q.cell W a i := fun i hi => by
      have h2 := hel i hi
      rw [List.getElem?_eq_getElem (by omega), Option.bind_eq_some_iff, cc] at h2
      obtain ⟨cs, hcs, hy⟩ := h2
      obtain ⟨_, hcl, hcc⟩ := World.cells?_some hcs
      obtain ⟨xs, m, _, _, _, hxl, hx⟩ := DataW.trod_struct hs hy
      match cs, hcl with
      | [v0, v1, v2, v3, v4, v5, v6], _ =>
        have x0 := hx 0 f0 rfl
        have x1 := hx 1 f1 rfl
        have x2 := hx 2 f2 rfl
        have x3 := hx 3 f3 rfl
        have x4 := hx 4 f4 rfl
        have x5 := hx 5 f5 rfl
        have x6 := hx 6 f6 rfl
        match xs, hxl with
        | [y0, y1, y2, y3, y4, y5, y6], _ =>
          rw [o0, c0] at x0
          rw [o1, c1] at x1
          rw [o2, c2] at x2
          rw [o3, c3] at x3
          rw [o4, c4] at x4
          rw [o5, c5] at x5
          rw [o6, c6] at x6
          simp at x0 x1 x2 x3 x4 x5 x6
          obtain ⟨m0, e0, _, w0⟩ := DataW.trod_int u0 x0
          obtain ⟨m1, e1, _, w1⟩ := DataW.trod_int u1 x1
          obtain ⟨m2, e2, _, w2⟩ := DataW.trod_int u2 x2
          obtain ⟨m3, e3, _, w3⟩ := DataW.trod_int u3 x3
          obtain ⟨m4, e4, _, w4⟩ := DataW.trod_int u4 x4
          obtain ⟨m5, e5, _, w5⟩ := DataW.trod_int u5 x5
          obtain ⟨m6, e6, _, w6⟩ := DataW.trod_int u6 x6
          simp at e0 e1 e2 e3 e4 e5 e6
          subst e0 e1 e2 e3 e4 e5 e6
          have b0 := bounds_i64 w0
          have b1 := bounds_i64 w1
          have b2 := bounds_i64 w2
          have b3 := bounds_u64 w3
          have b4 := bounds_u64 w4
          have b5 := bounds_i64 w5
          have b6 := bounds_i64 w6
          obtain ⟨X, rfl⟩ := Int.eq_ofNat_of_zero_le b3.1
          obtain ⟨Y, rfl⟩ := Int.eq_ofNat_of_zero_le b4.1
          have k0 := hcc 0 (by omega)
          have k1 := hcc 1 (by omega)
          have k2 := hcc 2 (by omega)
          have k3 := hcc 3 (by omega)
          have k4 := hcc 4 (by omega)
          have k5 := hcc 5 (by omega)
          have k6 := hcc 6 (by omega)
          rw [addr_add4] at k0 k1 k2 k3 k4 k5 k6
          exact ⟨⟨m0, m1, m2, X, Y, m5, m6⟩, ⟨by simp; omega, by simp; omega, by simp; omega, by simp; omega, by simp; omega, by simp; omega, by simp; omega⟩, by simpa using k0, by simpa using k1, by simpa using k2, by simpa using k3, by simpa using k4, by simpa using k5, by simpa using k6⟩
    obtain ⟨ts, g1, g2⟩ := list_of4 _ n0 each
    refine ⟨some a, n0, k0, ts, rfl, g1, hl, hm, fun q hq => ?_, fun h0 => ⟨a, rfl, ?_, fun k q hq => (g2 k q hq).2⟩⟩
    · obtain ⟨i, hi⟩ := List.getElem?_of_mem hq
      exact (g2 i q hi).1
    · obtain ⟨q, hq⟩ := each 0 h0
      have := cell_in4 hq.2.1
      rw [block_of_add] at this
      exact this
theorem i64_and3 (n : Int) : bits .and .i64 n 3 = n % 4 := by
  have e3 : (BitVec.ofInt 64 3).toNat = 2 ^ 2 - 1 := by decide
  have hk : (BitVec.ofInt 64 n &&& BitVec.ofInt 64 3).toNat = (n % ((2 ^ 64 : Nat) : Int)).toNat % 2 ^ 2 := by rw [BitVec.toNat_and, BitVec.toNat_ofInt, e3, Nat.and_two_pow_sub_one_eq_mod]
  show IntKind.i64.wrap ((BitVec.ofInt 64 n &&& BitVec.ofInt 64 3).toNat : Nat) = n % 4
  rw [hk, IntKind.wrap_i64]
  omega
theorem slot_any (i : Int) (w : World) : Calls Tryz.prog 18 #[.int .i64 i] w fun e w' => e = .returned (.int .i64 (((i % 4).toNat : Nat) : Int)) ∧ w = w' := by
  have h := i64_and3 i
  have h2 : (((i % 4).toNat : Nat) : Int) = i % 4 := by omega
  rw [h2]
  go_enter Tryz.func18, Tryz.ntmps18
  go_wp2
  go_ret
  exact ⟨rfl, rfl⟩
end Go.Proofs.YtfbjeifhpmdjaaaGreat

/-
  Plain: how great the sums of a play are. Conditions: those that each theorem names.
-/
namespace Go.Proofs.YtfbjeifhpmdjaaaGreat
open Go.RowKit Nm Rn
set_option linter.unusedVariables false
set_option linter.unusedSimpArgs false

/-- Behind k steps: the program's sums beside the document's. -/
def PGood (k : Nat) (Z : Nat → Sm) (V : Nat → Dv) : Prop := ∀ i, i < 4 → (Z i).Ok ∧ (Z i).T.natAbs ≤ 2 ^ k * BG ∧ DR (Z i).T (V i).s (V i).N (V i).D
section
variable {k s t : Nat} {Z : Nat → Sm} {V : Nat → Dv} {S : Sm} {v : Dv}
theorem nw_play {T : Int} (hk : k ≤ 2001) (h : T.natAbs ≤ 2 ^ k * BG) : nw T.natAbs ≤ 1000 := by
  have h1 := nw_mono h
  have h2 := nw_mul2 (2 ^ k) BG
  have h3 : bl (2 ^ k) ≤ k + 1 := (bl_le_iff _ _).2 (Nat.pow_lt_pow_right (by omega) (by omega))
  have h5 := nw_bl (2 ^ k)
  have h4 := nw_sum (T := (BG : Int)) (by have := BG_mm; have := BG_pos; rw [Int.natAbs_natCast]; omega)
  rw [Int.natAbs_natCast] at h4
  omega
theorem PGood.nw (h : PGood k Z V) (hk : k ≤ 2001) (hs : s < 4) : nw (Z s).T.natAbs ≤ 1000 := nw_play hk (h s hs).2.1
theorem PGood.ok (h : PGood k Z V) (hs : s < 4) : (Z s).Ok := (h s hs).1
theorem PGood.dr (h : PGood k Z V) (hs : s < 4) : DR (Z s).T (V s).s (V s).N (V s).D := (h s hs).2.2
theorem pow_up (k : Nat) : 2 ^ k * BG ≤ 2 ^ (k + 1) * BG := Nat.mul_le_mul_right _ (Nat.pow_le_pow_right (by omega) (by omega))
theorem PGood.up (h : PGood k Z V) : PGood (k + 1) Z V := fun i hi => ⟨(h i hi).1, Nat.le_trans (h i hi).2.1 (pow_up k), (h i hi).2.2⟩
theorem PGood.put (h : PGood k Z V) (ho : S.Ok) (hb : S.T.natAbs ≤ 2 ^ (k + 1) * BG) (hd : DR S.T v.s v.N v.D) : PGood (k + 1) (updF Z s S) (updF V s v) := fun i hi => by
  unfold updF
  split
  · exact ⟨ho, hb, hd⟩
  · exact h.up i hi
theorem PGood.nil (h : PGood k Z V) (hd : DR Sm.nil.T v.s v.N v.D) : PGood (k + 1) (updF Z s Sm.nil) (updF V s v) := h.put Sm.Ok.nil (Nat.zero_le _) hd
theorem pow_one (k : Nat) : BG ≤ 2 ^ k * BG := Nat.le_mul_of_pos_left _ (Nat.pow_pos (by omega))
theorem pow_two' (k : Nat) : 2 ^ (k + 1) * BG = 2 ^ k * BG + 2 ^ k * BG := by rw [Nat.pow_succ, Nat.mul_right_comm, Nat.mul_two]
theorem PGood.add_ (h : PGood k Z V) (hs : s < 4) {x : Nat} (hx : x < 18446744073709551616) (hd : DR ((Z s).add x).T v.s v.N v.D) : PGood (k + 1) (updF Z s ((Z s).add x)) (updF V s v) := by
  refine h.put ((h.ok hs).add hx) ?_ hd
  have h1 := add_bd (Z s) x
  have h2 := (h s hs).2.1
  have h3 := pow_one k
  rw [pow_two']
  omega
theorem PGood.mul_ (h : PGood k Z V) (hs : s < 4) {x y : Nat} (hx : x < 18446744073709551616) (hy : y < 18446744073709551616) (hd : DR ((Z s).mul x y).T v.s v.N v.D) : PGood (k + 1) (updF Z s ((Z s).mul x y)) (updF V s v) := by
  refine h.put ((h.ok hs).mul hx hy) ?_ hd
  have h1 := mul_bd (Z s) x y
  have h2 := (h s hs).2.1
  have h3 := pow_one k
  rw [pow_two']
  omega
theorem PGood.merge_ (h : PGood k Z V) (hs : s < 4) (ht : t < 4) (hd : DR ((Z s).merge (Z t)).T v.s v.N v.D) : PGood (k + 1) (updF Z s ((Z s).merge (Z t))) (updF V s v) := by
  refine h.put ((h.ok hs).merge (h.ok ht)) ?_ hd
  have h2 := (h s hs).2.1
  have h3 := (h t ht).2.1
  rw [pow_two']
  show ((Z s).T + (Z t).T).natAbs ≤ _
  omega
theorem PGood.neg_ (h : PGood k Z V) (hs : s < 4) (hd : DR ((Z s).neg).T v.s v.N v.D) : PGood (k + 1) (updF Z s ((Z s).neg)) (updF V s v) := by
  refine h.put (h.ok hs).neg ?_ hd
  have h2 := (h.up s hs).2.1
  show (-(Z s).T).natAbs ≤ _
  omega
theorem PGood.copy_ (h : PGood k Z V) (ht : t < 4) : PGood (k + 1) (updF Z s (Z t)) (updF V s (V t)) := h.put (h.ok ht) (h.up t ht).2.1 (h.dr ht)
end
end Go.Proofs.YtfbjeifhpmdjaaaGreat
