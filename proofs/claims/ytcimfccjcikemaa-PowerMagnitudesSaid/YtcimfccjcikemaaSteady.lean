/-
  Plain, over whatever program: a region whose order is open, in which each operation gives one and the same value from every world of a kind and stays in that kind: walked once, in the order of the text. Conditions: those that each theorem names.
-/
import Derived.Orders
import Derived.Still
import Derived.Tactics
import Derived.KernelRfl
namespace Go.Proofs.Ytcimfccjcikemaa
open Go
set_option linter.unusedVariables false

section
variable {P : Program} {ops : Array Oper} {md : Region.Mode} {S : World → Prop}

/-- The operation's outcome is the value v, in a world of the kind. -/
def Gives (P : Program) (S : World → Prop) (v : Value) : Result Next → Prop
  | .ok (.value u) w' => u = v ∧ S w'
  | .ok .skip w' => undef = v ∧ S w'
  | .ok (.enter f args) w' => Calls P f args w' fun e w'' => e = .returned v ∧ S w''
  | _ => False
@[go_sem] theorem gives_value (v u : Value) (w : World) : Gives P S v (.ok (.value u) w) = (u = v ∧ S w) := rfl
@[go_sem] theorem gives_skip (v : Value) (w : World) : Gives P S v (.ok .skip w) = (undef = v ∧ S w) := rfl
@[go_sem] theorem gives_enter (v : Value) (f : FuncId) (args : Array Value) (w : World) : Gives P S v (.ok (.enter f args) w) = Calls P f args w (fun e w'' => e = .returned v ∧ S w'') := rfl

/-- What one operation does, from every world of the kind. -/
def Steady (P : Program) (ops : Array Oper) (S : World → Prop) (o : Oper) (v : Value) (a : Act) : Prop :=
  (Region.wanted o (yielded ops a.tmps) = true ∧ ∀ w, S w → Gives P S v ((execOp a.eval o).run P w)) ∨ (Region.wanted o (yielded ops a.tmps) = false ∧ v = undef)

theorem Steady.of_same {o : Oper} {v : Value} {a a' : Act} (h : Steady P ops S o v a) (he : execOp a'.eval o = execOp a.eval o)
    (hw : Region.wanted o (yielded ops a'.tmps) = Region.wanted o (yielded ops a.tmps)) : Steady P ops S o v a' := by
  unfold Steady at *
  rw [he, hw]
  exact h

theorem Steady.wpOp {i : Nat} {o : Oper} {v : Value} {a : Act} {w : World} {K : Act → World → Prop} {Q : Exit → Act → World → Prop} (hi : ops[i]? = some o) (h : Steady P ops S o v a) (hw : S w)
    (hK : ∀ w', S w' → K (a.put o.dst v) w') : wpOp P ops Q i K a w := by
  unfold Go.wpOp
  simp only [hi]
  rcases h with ⟨h1, h2⟩ | ⟨h1, rfl⟩
  · rw [if_pos h1]
    refine .inl ?_
    have h3 := h2 w hw
    unfold Oper.wp
    generalize (execOp a.eval o).run P w = r at h3
    cases r with
    | ok n w' =>
      cases n <;> simp only [Gives] at h3 <;> simp only [Oper.upon]
      case value u => obtain ⟨rfl, h4⟩ := h3; exact hK _ h4
      case skip => obtain ⟨rfl, h4⟩ := h3; exact hK _ h4
      case enter f args => exact h3.mono fun e w'' ⟨he, h4⟩ => by subst he; exact hK _ h4
    | halt x w' => simp only [Gives] at h3
  · rw [if_neg (by rw [h1]; simp)]
    exact hK _ hw

/-- What may come up, whatever comes up, in whatever world of the kind. -/
def wpAnyG (P : Program) (md : Region.Mode) (ops : Array Oper) (S : World → Prop) (Q : Act → Prop) : Nat → Array Bool → Act → Prop
  | 0, listed, a => Region.ready md ops listed = [] ∧ Q a
  | f + 1, listed, a => (Region.ready md ops listed = [] → Q a) ∧
    ∀ i ∈ Region.ready md ops listed, ∃ o v, ops[i]? = some o ∧ Steady P ops S o v a ∧ wpAnyG P md ops S Q f (listed.setIfInBounds i true) (a.put o.dst v)

theorem wpAny_of_G {Q : Act → Prop} {Q' : Exit → Act → World → Prop} (hQ : ∀ a w, Q a → S w → Q' .normal a w) : ∀ (f : Nat) (listed : Array Bool) (a : Act) (w : World), S w →
    wpAnyG P md ops S Q f listed a → wpAny P md ops Q' f listed a w
  | 0, _, _, _, hS, h => ⟨h.1, hQ _ _ h.2 hS⟩
  | f + 1, _, _, _, hS, h => ⟨fun h0 => hQ _ _ (h.1 h0) hS, fun i hi => by
      obtain ⟨o, v, h1, h2, h3⟩ := h.2 i hi
      exact h2.wpOp h1 hS fun w' hS' => wpAny_of_G hQ f _ _ w' hS' h3⟩

theorem not_listed {i : Nat} {listed : Array Bool} (h : listed.getD i true = false) : ¬ listed.getD i false = true := by
  intro h'
  rcases Nat.lt_or_ge i listed.size with h1 | h1
  · simp [h1] at h h'
    rw [h] at h'
    cases h'
  · simp [Array.getElem?_eq_none h1] at h

/-- One that is ready, and on which none of the others looks, may come first. -/
theorem wpAnyG_first {Q : Act → Prop} {i : Nat} {oi : Oper} {v : Value} (hi : ops[i]? = some oi) (hsel : Region.noSelect ops = true) :
    ∀ (f : Nat) (listed : Array Bool) (a : Act),
      (∀ j oj, ops[j]? = some oj → j ≠ i → listed.getD j true = false → (∀ e ∈ oj.after, Region.binds md e = true → e.on ≠ i) → oi.apart ops oj = true) →
      i ∈ Region.ready md ops listed → Steady P ops S oi v a → wpAnyG P md ops S Q f (listed.setIfInBounds i true) (a.put oi.dst v) → wpAnyG P md ops S Q (f + 1) listed a := by
  intro f
  induction f with
  | zero =>
    intro listed a _ hr hy H
    refine ⟨fun h => (by rw [h] at hr; cases hr), fun j hj => ?_⟩
    by_cases hji : j = i
    · subst hji; exact ⟨oi, v, hi, hy, H⟩
    · have h1 := ready_mono hj hji
      rw [H.1] at h1
      cases h1
  | succ f ih =>
    intro listed a hfree hr hy H
    refine ⟨fun h => (by rw [h] at hr; cases hr), fun j hj => ?_⟩
    by_cases hji : j = i
    · subst hji; exact ⟨oi, v, hi, hy, H⟩
    · obtain ⟨o', u, h1, h2, h3⟩ := H.2 j (ready_mono hj hji)
      obtain ⟨hjun, oj, hoj, hall⟩ := mem_ready.1 hj
      have e0 : o' = oj := Option.some.inj (h1.symm.trans hoj)
      subst e0
      have hnot : ∀ e ∈ o'.after, Region.binds md e = true → e.on ≠ i := fun e he hb heq => by
        have h4 := hall e he hb
        rw [heq] at h4
        exact not_listed (mem_ready.1 hr).1 h4
      obtain ⟨a1, a2, a3⟩ := Oper.apart_spec (hfree j o' hoj hji hjun hnot)
      have s1 := Region.noSelect_spec hsel j o'
      have s2 := Region.noSelect_spec hsel i oi
      refine ⟨o', u, hoj, h2.of_same (execOp_put o' (fun cs b => s1 cs b hoj) a oi.dst v a1).symm (wanted_put o' a oi.dst v a1).symm, ?_⟩
      refine ih (listed.setIfInBounds j true) _ (fun k ok hk hki hun hno => ?_) (ready_mono hr (Ne.symm hji)) ?_ ?_
      · refine hfree k ok hk hki ?_ hno
        by_cases hjk : j = k
        · subst hjk; exact hjun
        · rw [getD_set_ne true hjk] at hun; exact hun
      · exact hy.of_same (execOp_put oi (fun cs b => s2 cs b hi) a o'.dst u a3) (wanted_put oi a o'.dst u a3)
      · rw [Array.setIfInBounds_comm _ _ hji, ← Act.put_comm a v u a2]
        exact h3

/-- In the order of the text. -/
def wpG (P : Program) (ops : Array Oper) (S : World → Prop) (Q : Act → Prop) : List Oper → Act → Prop
  | [], a => Q a
  | o :: rest, a => if Region.wanted o (yielded ops a.tmps) then ∃ v, (∀ w, S w → Gives P S v ((execOp a.eval o).run P w)) ∧ wpG P ops S Q rest (a.put o.dst v) else wpG P ops S Q rest (a.put o.dst undef)

theorem wpG_lex {Q : Act → Prop} (hs : Region.noSelect ops = true) : ∀ (l : List Oper) (k : Nat) (listed : Array Bool) (a : Act), (∀ j, l[j]? = ops[k + j]?) →
    Region.lexFrom md ops l.length k listed = true → wpG P ops S Q l a → wpAnyG P md ops S Q l.length listed a
  | [], _, _, _, _, hB, h => ⟨by simpa [Region.lexFrom] using hB, h⟩
  | o :: l, k, listed, a, hl, hB, h => by
    have h0 : ops[k]? = some o := by simpa using (hl 0).symm
    simp only [List.length_cons, Region.lexFrom, Bool.and_eq_true] at hB
    obtain ⟨⟨hr, hf⟩, hB'⟩ := hB
    have step : ∃ v, Steady P ops S o v a ∧ wpG P ops S Q l (a.put o.dst v) := by
      unfold wpG at h
      by_cases hw : Region.wanted o (yielded ops a.tmps) = true
      · rw [if_pos hw] at h
        obtain ⟨v, h1, h2⟩ := h
        exact ⟨v, .inl ⟨hw, h1⟩, h2⟩
      · rw [if_neg hw] at h
        exact ⟨undef, .inr ⟨by simpa using hw, rfl⟩, h⟩
    obtain ⟨v, hy, hK⟩ := step
    exact wpAnyG_first h0 hs l.length listed a (Region.free_spec h0 hf) (by simpa using hr) hy
      (wpG_lex hs l (k + 1) _ _ (fun j => by have := hl (j + 1); simpa [Nat.add_assoc, Nat.add_comm 1 j] using this) hB' hK)

theorem wp_region_steady {id : Nat} {Q : Exit → Act → World → Prop} {a : Act} {w : World} {l : List Oper} (S : World → Prop) (hm : P.follows .mixedOrders = true) (hB : Region.lexB .any l.toArray = true)
    (hS : S { w with drawn := w.drawn + 1 }) (h : wpG P l.toArray S (fun a' => ∀ w', S w' → Q .normal a' w') l a) : (Code.region id l.toArray true).wp P Q a w := by
  simp only [Region.lexB, Bool.and_eq_true] at hB
  refine wp_region_any hm (wpAny_of_G (S := S) (Q := fun a' => ∀ w', S w' → Q .normal a' w') (fun _ w' h hS => h w' hS) _ _ _ _ hS ?_)
  have := wpG_lex (md := .any) hB.1 l 0 (Array.replicate l.toArray.size false) a (by simp) (by simpa using hB.2) h
  simpa using this

theorem wpG_nil {Q : Act → Prop} {a : Act} (h : Q a) : wpG P ops S Q [] a := h
/-- One step, closed to the walk. -/
def StepG (P : Program) (S : World → Prop) (o : Oper) (a : Act) (K : Act → Prop) : Prop := ∃ v, (∀ w, S w → Gives P S v ((execOp a.eval o).run P w)) ∧ K (a.put o.dst v)
theorem StepG.mk {o : Oper} {a : Act} {K : Act → Prop} {v : Value} (h : ∀ w, S w → Gives P S v ((execOp a.eval o).run P w)) (k : K (a.put o.dst v)) : StepG P S o a K := ⟨v, h, k⟩
theorem wpG_step {Q : Act → Prop} {a : Act} {o : Oper} {rest : List Oper}
    (h : ∀ K : Act → Prop, (∀ a, wpG P ops S Q rest a → K a) → if Region.wanted o (yielded ops a.tmps) then StepG P S o a K else K (a.put o.dst undef)) : wpG P ops S Q (o :: rest) a :=
  h _ fun _ h => h
end
end Go.Proofs.Ytcimfccjcikemaa
