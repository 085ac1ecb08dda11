/-
 Plain, over whatever program: a region whose order is open, whose operations only read, call or make new memory, and which a forced tail ends: walked once, in the order of the text; of a value it is told only what holds of it. Conditions: those that each theorem names.
-/
import Derived.Test.YtbcaggdgoidlaaaGreatDoorH12
import Derived.StillTail
import Derived.Test.YtbcaggdgoidlaaaGreatDoorH06
import Derived.Test.YtbcaggdgoidlaaaGreatDoorH10
namespace Go.Proofs.YtbcaggdgoidlaaaGreatDoor
open Go
set_option linter.unusedVariables false
abbrev Sp := Option Value × (Value → World → Prop)
def det (c : Value) : Sp := (some c, fun _ _ => True)
def anyOf (R : Value → World → Prop) : Sp := (none, R)
def fact (s : Sp) (v : Value) (w : World) : Prop := match s.1 with
 | some _ => True
 | none => ∃ w0, Ext w0 w ∧ s.2 v w0
def told (s : Sp) (v : Value) (w : World) : Prop := match s.1 with
 | some c => v = c
 | none => s.2 v w
def may (s : Sp) (v : Value) : Prop := match s.1 with
 | some c => v = c
 | none => True
theorem fact.ext {s : Sp} {v : Value} {w w' : World} (h : fact s v w) (he : Ext w w') : fact s v w' := by
 unfold fact at *
 split
 · trivial
 · rename_i h0
   rw [h0] at h
   obtain ⟨w0, h1, h2⟩ := h
   exact ⟨w0, h1.trans he, h2⟩
theorem told.fact {s : Sp} {v : Value} {w : World} (h : told s v w) : Go.Proofs.YtbcaggdgoidlaaaGreatDoor.fact s v w := by
 unfold told at h
 unfold Go.Proofs.YtbcaggdgoidlaaaGreatDoor.fact
 split
 · trivial
 · rename_i h0
   rw [h0] at h
   exact ⟨w, Ext.refl w, h⟩
theorem told.may {s : Sp} {v : Value} {w : World} (h : told s v w) : Go.Proofs.YtbcaggdgoidlaaaGreatDoor.may s v := by
 unfold told at h
 unfold Go.Proofs.YtbcaggdgoidlaaaGreatDoor.may
 cases h0 : s.1 with
 | some c => rw [h0] at h; exact h
 | none => trivial
theorem may_ex (s : Sp) : ∃ v, may s v := by
 unfold may
 cases s.1 with
 | some c => exact ⟨c, rfl⟩
 | none => exact ⟨undef, trivial⟩
section
variable {P : Program} {ops : Array Oper} {md : Region.Mode} {S : World → Prop} {sp : Nat → Sp}
def GivesL (P : Program) (s : Sp) (w0 : World) : Result Next → Prop
 | .ok (.value u) w' => told s u w' ∧ Ext w0 w'
 | .ok .skip w' => told s undef w' ∧ Ext w0 w'
 | .ok (.enter f args) w' => Calls P f args w' fun e w'' => ∃ u, e = .returned u ∧ told s u w'' ∧ Ext w0 w''
 | _ => False
@[go_sem] theorem givesL_value (s : Sp) (u : Value) (w0 w : World) : GivesL P s w0 (.ok (.value u) w) = (told s u w ∧ Ext w0 w) := rfl
@[go_sem] theorem givesL_skip (s : Sp) (w0 w : World) : GivesL P s w0 (.ok .skip w) = (told s undef w ∧ Ext w0 w) := rfl
@[go_sem] theorem givesL_enter (s : Sp) (w0 : World) (f : FuncId) (args : Array Value) (w : World) : GivesL P s w0 (.ok (.enter f args) w) = Calls P f args w (fun e w'' => ∃ u, e = .returned u ∧ told s u w'' ∧ Ext w0 w'') := rfl
def upd (V : Nat → Value) (i : Nat) (v : Value) : Nat → Value := fun j => if j = i then v else V j
theorem upd_self (V : Nat → Value) (i : Nat) (v : Value) : upd V i v i = v := by simp [upd]
theorem upd_ne (V : Nat → Value) {i j : Nat} (v : Value) (h : j ≠ i) : upd V i v j = V j := by simp [upd, h]
theorem upd_comm (V : Nat → Value) {i j : Nat} (v u : Value) (h : j ≠ i) : upd (upd V i v) j u = upd (upd V j u) i v := by
 funext k
 unfold upd
 by_cases h1 : k = i
 · subst h1; rw [if_pos rfl, if_neg (Ne.symm h), if_pos rfl]
 · by_cases h2 : k = j
   · subst h2; rw [if_pos rfl, if_neg h1, if_pos rfl]
   · rw [if_neg h2, if_neg h1, if_neg h1, if_neg h2]
def Sees (md : Region.Mode) (sp : Nat → Sp) (o : Oper) (V : Nat → Value) (w : World) : Prop := ∀ e ∈ o.after, Region.binds md e = true → fact (sp e.on) (V e.on) w
def AL (ops : Array Oper) (s : Sp) (o : Oper) (a : Act) (v : Value) : Prop := if Region.wanted o (yielded ops a.tmps) = true then may s v else v = undef
theorem AL_ex (s : Sp) (o : Oper) (a : Act) : ∃ v, AL ops s o a v := by
 unfold AL
 split
 · exact may_ex s
 · exact ⟨undef, rfl⟩
structure StepL (P : Program) (ops : Array Oper) (md : Region.Mode) (S : World → Prop) (sp : Nat → Sp) (i : Nat) (o : Oper) (V : Nat → Value) (a : Act) (K : Value → Prop) : Prop where
 gives : Region.wanted o (yielded ops a.tmps) = true → ∀ w, S w → Sees md sp o V w → GivesL P (sp i) w ((execOp a.eval o).run P w)
 none_ : Region.wanted o (yielded ops a.tmps) = false → (sp i).1.isSome = true
 next : ∀ v, AL ops (sp i) o a v → K v
def wpAnyX (P : Program) (md : Region.Mode) (ops : Array Oper) (S : World → Prop) (sp : Nat → Sp) (n : Nat) (Q : Array Bool → (Nat → Value) → Act → Prop) : Nat → Array Bool → (Nat → Value) → Act → Prop
 | 0, listed, V, a => Q listed V a
 | f + 1, listed, V, a => Region.ready md ops listed ≠ [] ∧
   ∀ i ∈ Region.ready md ops listed, i < n ∧ ∃ o, ops[i]? = some o ∧ StepL P ops md S sp i o V a fun u => wpAnyX P md ops S sp n Q f (listed.setIfInBounds i true) (upd V i u) (a.put o.dst u)
def Inv (sp : Nat → Sp) (listed : Array Bool) (V : Nat → Value) (w : World) : Prop := ∀ j, listed.getD j false = true → fact (sp j) (V j) w
theorem Inv.ext {listed : Array Bool} {V : Nat → Value} {w w' : World} (h : Inv sp listed V w) (he : Ext w w') : Inv sp listed V w' := fun j hj => (h j hj).ext he
theorem Inv.set {listed : Array Bool} {V : Nat → Value} {w : World} {i : Nat} {u : Value} (h : Inv sp listed V w) (hu : fact (sp i) u w) : Inv sp (listed.setIfInBounds i true) (upd V i u) w := by
 intro j hj
 by_cases hji : j = i
 · subst hji; rw [upd_self]; exact hu
 · rw [upd_ne _ _ hji]
   rw [getD_set_ne false (Ne.symm hji)] at hj
   exact h j hj
theorem wpAny_of_X {n g : Nat} {Q : Array Bool → (Nat → Value) → Act → Prop} {Q' : Exit → Act → World → Prop} (hSE : ∀ w w', S w → Ext w w' → S w')
   (hQ : ∀ listed V a w, Q listed V a → S w → Inv sp listed V w → wpAny P md ops Q' g listed a w) :
   ∀ (f : Nat) (listed : Array Bool) (V : Nat → Value) (a : Act) (w : World), S w → Inv sp listed V w → wpAnyX P md ops S sp n Q f listed V a → wpAny P md ops Q' (f + g) listed a w
 | 0, _, _, _, _, hS, hI, h => by rw [Nat.zero_add]; exact hQ _ _ _ _ h hS hI
 | f + 1, listed, V, a, w, hS, hI, h => by
   rw [show f + 1 + g = (f + g) + 1 by omega]
   refine ⟨fun h0 => absurd h0 h.1, fun i hi => ?_⟩
   obtain ⟨-, o, ho, hst⟩ := h.2 i hi
   obtain ⟨hun, o', ho', hall⟩ := mem_ready.1 hi
   have e0 : o' = o := Option.some.inj (ho'.symm.trans ho)
   subst e0
   have hsee : Sees md sp o' V w := fun e he hb => hI _ (hall e he hb)
   unfold Go.wpOp
   simp only [ho]
   by_cases hw : Region.wanted o' (yielded ops a.tmps) = true
   · rw [if_pos hw]
     refine .inl ?_
     have h3 := hst.gives hw w hS hsee
     have go : ∀ u w', told (sp i) u w' → Ext w w' → wpAny P md ops Q' (f + g) (listed.setIfInBounds i true) (a.put o'.dst u) w' := fun u w' h5 h6 =>
       wpAny_of_X hSE hQ f _ _ _ w' (hSE _ _ hS h6) ((hI.ext h6).set h5.fact) (hst.next u (by unfold AL; rw [if_pos hw]; exact h5.may))
     unfold Oper.wp
     generalize (execOp a.eval o').run P w = r at h3
     cases r with
     | ok x w' =>
       cases x <;> simp only [GivesL] at h3 <;> simp only [Oper.upon]
       case value u => exact go u w' h3.1 h3.2
       case skip => exact go undef w' h3.1 h3.2
       case enter f' args => exact h3.mono fun e w'' ⟨u, he, h5, h6⟩ => by subst he; exact go u w'' h5 h6
     | halt x w' => simp only [GivesL] at h3
   · rw [if_neg hw]
     have hw' : Region.wanted o' (yielded ops a.tmps) = false := by simpa using hw
     refine wpAny_of_X hSE hQ f _ _ _ w hS (hI.set ?_) (hst.next undef (by unfold AL; rw [if_neg hw]))
     have h7 := hst.none_ hw'
     unfold fact
     cases h8 : (sp i).1 with
     | some c => trivial
     | none => rw [h8] at h7; cases h7
theorem wpAnyX_first {n i : Nat} {oi : Oper} {Q : Array Bool → (Nat → Value) → Act → Prop} (hi : ops[i]? = some oi) (hsel : Region.noSelect ops = true)
   (hs : Region.sinkB md ops n = true) (hc : Region.chainB md ops n = true) (hn : n < ops.size) (hin : i < n)
   (hdone : ∀ listed V a, Q listed V a → ∀ j ∈ Region.ready md ops listed, n ≤ j) :
   ∀ (f : Nat) (listed : Array Bool) (V : Nat → Value) (a : Act), HeadInv md ops n listed →
     (∀ j oj, ops[j]? = some oj → j ≠ i → listed.getD j true = false → (∀ e ∈ oj.after, Region.binds md e = true → e.on ≠ i) → oi.apart ops oj = true) →
     i ∈ Region.ready md ops listed →
     (StepL P ops md S sp i oi V a fun v => wpAnyX P md ops S sp n Q f (listed.setIfInBounds i true) (upd V i v) (a.put oi.dst v)) → wpAnyX P md ops S sp n Q (f + 1) listed V a := by
 intro f
 induction f with
 | zero =>
   intro listed V a inv _ hr H
   have hun := (mem_ready.1 hr).1
   refine ⟨fun h => (by rw [h] at hr; cases hr), fun j hj => ?_⟩
   have hjn : j < n := by
     rcases Nat.lt_or_ge j n with h | h
     · exact h
     · exact absurd hj (tail_waits hs hc hn inv _ i rfl hin hun j h)
   by_cases hji : j = i
   · subst hji; exact ⟨hjn, oi, hi, H⟩
   · obtain ⟨v, hv⟩ := AL_ex (ops := ops) (sp i) oi a
     have := hdone _ _ _ (H.next v hv) j (ready_mono hj hji)
     omega
 | succ f ih =>
   intro listed V a inv hfree hr H
   have hun := (mem_ready.1 hr).1
   refine ⟨fun h => (by rw [h] at hr; cases hr), fun j hj => ?_⟩
   have hjn : j < n := by
     rcases Nat.lt_or_ge j n with h | h
     · exact h
     · exact absurd hj (tail_waits hs hc hn inv _ i rfl hin hun j h)
   refine ⟨hjn, ?_⟩
   by_cases hji : j = i
   · subst hji; exact ⟨oi, hi, H⟩
   · obtain ⟨hjun, oj, hoj, hall⟩ := mem_ready.1 hj
     have hnot : ∀ e ∈ oj.after, Region.binds md e = true → e.on ≠ i := fun e he hb heq => by
       have h1 := hall e he hb
       rw [heq, getD_both hun] at h1
       cases h1
     have hnot' : ∀ e ∈ oi.after, Region.binds md e = true → e.on ≠ j := fun e he hb heq => by
       obtain ⟨-, oi', hoi', hall'⟩ := mem_ready.1 hr
       have : oi' = oi := Option.some.inj (hoi'.symm.trans hi)
       subst this
       have h1 := hall' e he hb
       rw [heq, getD_both hjun] at h1
       cases h1
     obtain ⟨a1, a2, a3⟩ := Oper.apart_spec (hfree j oj hoj hji hjun hnot)
     have s1 := Region.noSelect_spec hsel j oj
     have s2 := Region.noSelect_spec hsel i oi
     -- what stands behind i, for each value of i
     have hj2 : ∀ v, AL ops (sp i) oi a v → StepL P ops md S sp j oj (upd V i v) (a.put oi.dst v) fun u => wpAnyX P md ops S sp n Q f ((listed.setIfInBounds i true).setIfInBounds j true) (upd (upd V i v) j u) ((a.put oi.dst v).put oj.dst u) := fun v hv => by
       obtain ⟨-, o', ho', h2⟩ := (H.next v hv).2 j (ready_mono hj hji)
       have : o' = oj := Option.some.inj (ho'.symm.trans hoj)
       subst this
       exact h2
     have wj : ∀ v, Region.wanted oj (yielded ops (a.put oi.dst v).tmps) = Region.wanted oj (yielded ops a.tmps) := fun v => wanted_put oj a oi.dst v a1
     have xj : ∀ v, execOp (a.put oi.dst v).eval oj = execOp a.eval oj := fun v => execOp_put oj (fun cs b => s1 cs b hoj) a oi.dst v a1
     have wi : ∀ u, Region.wanted oi (yielded ops (a.put oj.dst u).tmps) = Region.wanted oi (yielded ops a.tmps) := fun u => wanted_put oi a oj.dst u a3
     have xi : ∀ u, execOp (a.put oj.dst u).eval oi = execOp a.eval oi := fun u => execOp_put oi (fun cs b => s2 cs b hi) a oj.dst u a3
     obtain ⟨v0, hv0⟩ := AL_ex (ops := ops) (sp i) oi a
     refine ⟨oj, hoj, ?_, ?_, ?_⟩
     · intro hw w hS hsee
       have := (hj2 v0 hv0).gives (by rw [wj]; exact hw) w hS (fun e he hb => by rw [upd_ne _ _ (hnot e he hb)]; exact hsee e he hb)
       rwa [xj] at this
     · intro hw
       exact (hj2 v0 hv0).none_ (by rw [wj]; exact hw)
     · intro u hu
       refine ih (listed.setIfInBounds j true) _ _ (inv.set hj hjn) (fun k ok hk hki hun' hno => ?_) (ready_mono hr (Ne.symm hji)) ⟨?_, ?_, ?_⟩
       · refine hfree k ok hk hki ?_ hno
         by_cases hjk : j = k
         · subst hjk; exact hjun
         · rw [getD_set_ne true hjk] at hun'; exact hun'
       · intro hw w hS hsee
         have := H.gives (by rw [wi] at hw; exact hw) w hS (fun e he hb => by have h9 := hsee e he hb; rwa [upd_ne _ _ (hnot' e he hb)] at h9)
         rwa [xi]
       · intro hw
         exact H.none_ (by rw [wi] at hw; exact hw)
       · intro v hv
         have hv' : AL ops (sp i) oi a v := by unfold AL at *; rwa [wi] at hv
         have hu' : AL ops (sp j) oj (a.put oi.dst v) u := by unfold AL at *; rwa [wj]
         have h10 := (hj2 v hv').next u hu'
         rw [Array.setIfInBounds_comm _ _ hji, ← Act.put_comm a v u a2, ← upd_comm V v u hji]
         exact h10
def asFun (l : List Value) : Nat → Value := fun j => l.getD j undef
theorem upd_asFun (l : List Value) (v : Value) : upd (asFun l) l.length v = asFun (l ++ [v]) := by
 funext j
 unfold upd asFun
 by_cases h : j = l.length
 · subst h; simp
 · rw [if_neg h]
   rcases Nat.lt_or_ge j l.length with h1 | h1
   · simp [List.getElem?_append_left h1]
   · simp [List.getD, List.getElem?_eq_none h1, List.getElem?_eq_none (show (l ++ [v]).length ≤ j by simp; omega)]
def wpX (P : Program) (md : Region.Mode) (ops : Array Oper) (S : World → Prop) (sp : Nat → Sp) (Q : List Value → Act → Prop) : List Oper → List Value → Act → Prop
 | [], V, a => Q V a
 | o :: rest, V, a => if Region.wanted o (yielded ops a.tmps) = true then (∀ w, S w → Sees md sp o (asFun V) w → GivesL P (sp V.length) w ((execOp a.eval o).run P w)) ∧ ∀ v, may (sp V.length) v → wpX P md ops S sp Q rest (V ++ [v]) (a.put o.dst v)
     else (sp V.length).1.isSome = true ∧ wpX P md ops S sp Q rest (V ++ [undef]) (a.put o.dst undef)
theorem wpX_lex {n g : Nat} {Q : List Value → Act → Prop} (hsel : Region.noSelect ops = true) (hs : Region.sinkB md ops n = true) (hc : Region.chainB md ops n = true) (hn : n < ops.size) :
   ∀ (l : List Oper) (k : Nat) (listed : Array Bool) (V : List Value) (a : Act), (∀ j, j < l.length → l[j]? = ops[k + j]?) → k + l.length = n → V.length = k → HeadInv md ops n listed →
   Region.lexHead md ops g l.length k listed = true → wpX P md ops S sp Q l V a →
   wpAnyX P md ops S sp n (fun listed' V' a' => HeadInv md ops n listed' ∧ Region.seqB md ops g n listed' = true ∧ ∃ Vl : List Value, V' = asFun Vl ∧ Q Vl a') l.length listed (asFun V) a
 | [], k, listed, V, a, _, hk, _, inv, hB, h => by
   have : k = n := by simpa using hk
   subst this
   exact ⟨inv, by simpa [Region.lexHead] using hB, V, rfl, h⟩
 | o :: l, k, listed, V, a, hl, hk, hV, inv, hB, h => by
   have h0 : ops[k]? = some o := by simpa using (hl 0 (by simp)).symm
   simp only [List.length_cons, Region.lexHead, Bool.and_eq_true] at hB
   obtain ⟨⟨hr, hf⟩, hB'⟩ := hB
   have hkn : k < n := by simp only [List.length_cons] at hk; omega
   have hr' : k ∈ Region.ready md ops listed := by simpa using hr
   subst hV
   have rec_ : ∀ v, wpX P md ops S sp Q l (V ++ [v]) (a.put o.dst v) → wpAnyX P md ops S sp n (fun listed' V' a' => HeadInv md ops n listed' ∧ Region.seqB md ops g n listed' = true ∧ ∃ Vl : List Value, V' = asFun Vl ∧ Q Vl a') l.length (listed.setIfInBounds V.length true) (upd (asFun V) V.length v) (a.put o.dst v) := fun v hv => by
     rw [upd_asFun]
     exact wpX_lex hsel hs hc hn l (V.length + 1) _ _ _ (fun j hj => by have := hl (j + 1) (by simp; omega); simpa [Nat.add_assoc, Nat.add_comm 1 j] using this) (by simp only [List.length_cons] at hk; omega) (by simp) (inv.set hr' hkn) hB' hv
   refine wpAnyX_first h0 hsel hs hc hn hkn (fun listed' V' a' hL => seqB_ready hL.2.1) l.length listed _ a inv (Region.free_spec h0 hf) hr' ?_
   unfold wpX at h
   by_cases hw : Region.wanted o (yielded ops a.tmps) = true
   · rw [if_pos hw] at h
     exact ⟨fun _ => h.1, fun h1 => (by rw [hw] at h1; cases h1), fun v hv => rec_ v (h.2 v (by unfold AL at hv; rwa [if_pos hw] at hv))⟩
   · rw [if_neg hw] at h
     exact ⟨fun h1 => absurd h1 hw, fun _ => h.1, fun v hv => by
       unfold AL at hv
       rw [if_neg hw] at hv
       subst hv
       exact rec_ _ h.2⟩
theorem wp_region_loose {id : Nat} {Q : Exit → Act → World → Prop} {a : Act} {w : World} {l : List Oper} (n : Nat) (S : World → Prop) (sp : Nat → Sp) (hm : P.follows .mixedOrders = true) (hB : Region.lexTailB .any l.toArray n = true)
   (hS : S { w with drawn := w.drawn + 1 }) (hSE : ∀ w w', S w → Ext w w' → S w')
   (h : wpX P .any l.toArray S sp (fun V a' => ∀ w', S w' → (∀ j, j < n → fact (sp j) (asFun V j) w') → wpList P l.toArray Q (l.drop n) a' w') (l.take n) [] a) : (Code.region id l.toArray true).wp P Q a w := by
 simp only [Region.lexTailB, Bool.and_eq_true, decide_eq_true_eq] at hB
 obtain ⟨⟨⟨⟨hsel, hn⟩, hs⟩, hc⟩, hlex⟩ := hB
 have hn' : n < l.length := by simpa using hn
 have htl : (l.take n).length = n := by simp; omega
 have hdl : (l.drop n).length = l.toArray.size - n := by simp
 have inv0 : HeadInv .any l.toArray n (Array.replicate l.toArray.size false) :=
   ⟨by simp, fun j oj _ hl => (by rw [getD_replicate_false] at hl; cases hl), fun t _ ht => getD_in (by simpa using ht) (getD_replicate_false _ _)⟩
 have H := wpX_lex (md := .any) (g := l.toArray.size - n) hsel hs hc hn (l.take n) 0 _ [] a (fun j hj => by
   have hj' : j < n := by rw [htl] at hj; exact hj
   simp [hj']) (by simpa using htl) rfl inv0 (by rw [htl]; exact hlex) h
 refine wp_region_any hm ?_
 have := wpAny_of_X (Q' := Q) (g := l.toArray.size - n) hSE (fun listed V a' w' hL hS' hI => by
   obtain ⟨hinv, h1, Vl, rfl, h2⟩ := hL
   have hrd : n ∈ Region.ready .any l.toArray listed := by
     obtain ⟨g, hg⟩ : ∃ g, l.toArray.size - n = g + 1 := ⟨l.toArray.size - n - 1, by simp; omega⟩
     rw [hg] at h1
     simp only [Region.seqB, Bool.and_eq_true, decide_eq_true_eq] at h1
     rw [h1.1]
     exact List.mem_singleton.2 rfl
   have hall : ∀ j, j < n → fact (sp j) (asFun Vl j) w' := fun j hj => by
     refine hI j ?_
     cases hl : listed.getD j false with
     | true => rfl
     | false => exact absurd hrd (tail_waits hs hc hn hinv _ j rfl hj (getD_in (by rw [hinv.size]; simp; omega) hl) n (Nat.le_refl _))
   have := wpAny_of_seq (md := .any) (Q' := Q) (l.drop n) n listed a' w' (fun j => by simp [List.getElem?_drop]) (by rw [hdl]; exact h1) (h2 w' hS' hall)
   rwa [hdl] at this) _ _ _ _ _ hS (fun j hj => by rw [getD_replicate_false] at hj; cases hj) H
 rw [htl, show n + (l.toArray.size - n) = l.toArray.size by omega] at this
 exact this
def StepY (P : Program) (md : Region.Mode) (S : World → Prop) (sp : Nat → Sp) (o : Oper) (V : List Value) (a : Act) (K : List Value → Act → Prop) : Prop :=
 (∀ w, S w → Sees md sp o (asFun V) w → GivesL P (sp V.length) w ((execOp a.eval o).run P w)) ∧ ∀ v, may (sp V.length) v → K (V ++ [v]) (a.put o.dst v)
theorem StepY.det {o : Oper} {V : List Value} {a : Act} {K : List Value → Act → Prop} {c : Value} (e : sp V.length = Go.Proofs.YtbcaggdgoidlaaaGreatDoor.det c) (h : ∀ w, S w → Sees md sp o (asFun V) w → GivesL P (Go.Proofs.YtbcaggdgoidlaaaGreatDoor.det c) w ((execOp a.eval o).run P w)) (k : K (V ++ [c]) (a.put o.dst c)) : StepY P md S sp o V a K :=
 ⟨by rw [e]; exact h, fun v hv => by rw [e] at hv; have hv' : v = c := hv; subst hv'; exact k⟩
theorem StepY.any {o : Oper} {V : List Value} {a : Act} {K : List Value → Act → Prop} {R : Value → World → Prop} (e : sp V.length = anyOf R) (h : ∀ w, S w → Sees md sp o (asFun V) w → GivesL P (anyOf R) w ((execOp a.eval o).run P w)) (k : ∀ v, K (V ++ [v]) (a.put o.dst v)) : StepY P md S sp o V a K :=
 ⟨by rw [e]; exact h, fun v _ => k v⟩
theorem wpX_nil {Q : List Value → Act → Prop} {V : List Value} {a : Act} (h : Q V a) : wpX P md ops S sp Q [] V a := h
theorem wpX_step {Q : List Value → Act → Prop} {V : List Value} {a : Act} {o : Oper} {rest : List Oper}
   (h : ∀ K : List Value → Act → Prop, (∀ V a, wpX P md ops S sp Q rest V a → K V a) → if Region.wanted o (yielded ops a.tmps) = true then StepY P md S sp o V a K else (sp V.length).1.isSome = true ∧ K (V ++ [undef]) (a.put o.dst undef)) : wpX P md ops S sp Q (o :: rest) V a :=
 h _ fun _ _ h => h
theorem Sees.any {o : Oper} {V : Nat → Value} {w : World} {R : Value → World → Prop} (h : Sees md sp o V w) (j : Nat) (hb : (o.after.any fun e => Region.binds md e && e.on == j) = true) (e : sp j = anyOf R) : ∃ w0, Ext w0 w ∧ R (V j) w0 := by
 obtain ⟨x, hx, h1⟩ := Array.any_eq_true'.1 hb
 simp only [Bool.and_eq_true, beq_iff_eq] at h1
 have h2 := h x hx h1.1
 rw [h1.2, e] at h2
 exact h2
theorem fact_any {s : Sp} {v : Value} {w : World} {R : Value → World → Prop} (h : fact s v w) (e : s = anyOf R) : ∃ w0, Ext w0 w ∧ R v w0 := by
 subst e; exact h
def ofList (l : List Sp) : Nat → Sp := fun k => l.getD k (det undef)
end
end Go.Proofs.YtbcaggdgoidlaaaGreatDoor

namespace Go.Proofs.YtbcaggdgoidlaaaGreatDoor
open Go.RowKit Nm
set_option maxRecDepth 100000
set_option linter.unusedVariables false
set_option linter.unusedSimpArgs false
set_option maxHeartbeats 2000000 in
theorem nmul_raw (A : Option Addr) (n c : Nat) (xs : List Nat) (B : Option Addr) (m d : Nat) (ys : List Nat) (w : World) (h : Wds w A n c xs) (hn : n ≤ 8796093022208) (k : Wds w B m d ys) (hm : m ≤ 8796093022208) :
   Calls Tryz.prog 101 #[.slice A n c, .slice B m d] w fun e w' => ∃ g L, e = .returned (.slice (some ⟨g, 0, none⟩) (n + m) (n + m)) ∧ Row w' g L ∧ Ws L ∧ L.length = n + m ∧ nv L = nv xs * nv ys ∧ w.heap.size ≤ g ∧ Ext w w' := by
 have hlx := h.len
 have hly := k.len
 have hmk := run_make32 (n + m) (by omega) w
 push_cast at hmk
 have hr0 := Row.new w (List.replicate (n + m) 0)
 have hE0 : Ext w (w.alloc (.cells (u32s (List.replicate (n + m) 0)).toArray 61)) := (Ext.refl w).alloc _
 obtain ⟨w1, hw1⟩ : ∃ w1, w1 = w.alloc (.cells (u32s (List.replicate (n + m) 0)).toArray 61) := ⟨_, rfl⟩
 rw [← hw1] at hmk hr0 hE0
 clear hw1
 obtain ⟨g, hg⟩ : ∃ g, g = w.heap.size := ⟨_, rfl⟩
 rw [← hg] at hmk hr0
 have hgl : w.heap.size ≤ g := by omega
 clear hg
 have HXk : Hid (nv (xs.take n) = nv xs) := Lib.hid (by rw [List.take_of_length_le (by omega)])
 have Hlx := Lib.hid hlx
 have Hly := Lib.hid hly
 clear hlx hly
 go_enter Tryz.func101, Tryz.ntmps101
 go_wp2
 clear hmk
 go_loopw [20] (fun jv wr => ∃ (j : Nat) (L : List Nat), j ≤ m ∧ jv = .int .i64 j ∧ TimesRel xs ys L n m j ∧ Row wr g L ∧ Ext w wr) (fun jv _ => m - (intOf jv).toNat)
 case atStart => exact ⟨0, _, Nat.zero_le _, rfl, TimesRel.start xs ys n m, hr0, hE0⟩
 case round =>
   obtain ⟨j, L0, hj, rfl, hL0, hrow0, hb0⟩ := hrel
   obtain ⟨wo, rfl⟩ : ∃ wo : World, wo = wr := ⟨_, rfl⟩
   by_cases hlt : j < m
   · obtain ⟨bd, hy, rfl, _, hcY⟩ := (k.ext hb0).at_ (k := j) (by omega)
     have hY32 := k.ws.get hy
     by_cases hy0 : ys[j] = 0
     · have hsk := Lib.hid (hL0.skip hy hy0)
       go_wp2
       go_roundw
       case rel => exact ⟨j + 1, L0, by omega, by go_num, hsk.out, hrow0, hb0⟩
       case measure => simp [intOf]; omega
     · have HN := Lib.hid (fun (L : List Nat) (cr : Nat) hh hcr => TimesRel.next (L := L) (cr := cr) hL0 hy hlt hh HXk.out hcr)
       generalize ys[j] = y at *
       have hy1 : 0 < y := by omega
       clear hy0
       go_wp2
       go_loopw [8, 37] (fun cv iv wr => ∃ (i cr : Nat) (L : List Nat), i ≤ n ∧ cr < 4294967296 ∧ iv = .int .i64 i ∧ cv = .int .u64 (cr : Int) ∧ RowRel xs L (nv L0) y n m j i cr ∧ Row wr g L ∧ Ext w wr) (fun _ iv _ => n - (intOf iv).toNat)
       case atStart => exact ⟨0, 0, L0, Nat.zero_le _, by omega, rfl, rfl, hL0.row y, hrow0, hb0⟩
       case round =>
         obtain ⟨i, cr, L, hi, hcr, rfl, rfl, hL, hrow, hb⟩ := hrel
         have hLl := hL.len
         by_cases hlti : i < n
         · obtain ⟨ad, hx, rfl, _, hcX⟩ := (h.ext hb).at_ (k := i) (by omega)
           have hX32 := h.ws.get hx
           have hc1 : wr.cell? ⟨g, j + i, none⟩ = some (.int .u32 (L[i + j]'(by omega) : Int)) := by rw [Nat.add_comm j i]; exact hrow.cell (i := i + j) (by omega)
           have hf1 := hrow.frozen (j + i)
           have hA32 := hL.ws.get (k := i + j) (by omega)
           have hk' : i + j < L.length := by omega
           obtain ⟨a, ha⟩ : ∃ a, L[i + j] = a := ⟨_, rfl⟩
           obtain ⟨x, hxe⟩ : ∃ x, xs[i] = x := ⟨_, rfl⟩
           have hst := fun (v lo hi' : Nat) hv hlo hhi => hL.step (v := v) (lo := lo) (hi := hi') hlt hlti hx hxe hk' ha hv hlo hhi
           rw [ha] at hc1 hA32
           rw [hxe] at hcX hX32
           clear ha hxe
           have hp : x * y ≤ 18446744065119617025 := Nat.le_trans (Nat.mul_le_mul (show x ≤ 4294967295 by omega) (show y ≤ 4294967295 by omega)) (by omega)
           obtain ⟨p, hpv⟩ : ∃ p, p = x * y := ⟨_, rfl⟩
           rw [← hpv] at hp
           have ep : (x : Int) * (y : Int) = (p : Int) := by rw [hpv]; exact (Int.natCast_mul x y).symm
           obtain ⟨v, hv⟩ : ∃ v, v = cr + a + p := ⟨_, rfl⟩
           have hv64 : v < 18446744073709551616 := by omega
           obtain ⟨lo, hlo⟩ : ∃ lo, lo = v % 4294967296 := ⟨_, rfl⟩
           obtain ⟨hi', hhi⟩ : ∃ hi', hi' = v / 4294967296 := ⟨_, rfl⟩
           have hst' := hst v lo hi' (by rw [hv, hpv]) hlo hhi
           clear hst
           have HST := Lib.hid hst'
           clear hst'
           have hlo32 : lo < 4294967296 := by omega
           have hhi32 : hi' < 4294967296 := by omega
           have g7 : (cr : Int) + ((p : Int) + (a : Int)) = (v : Int) := by omega
           have g5 : (v : Int) % 4294967296 = (lo : Int) := by omega
           have g6 : (v : Int) / 4294967296 = (hi' : Int) := by omega
           have hrow' : Row (wr.setCell ⟨g, j + i, none⟩ (.int .u32 (lo : Int))) g (L.set (i + j) lo) := by rw [Nat.add_comm j i]; exact hrow.set_ (i + j) lo
           clear hpv hlo hhi hv
           go_wp2
           go_roundw
           case rel => exact ⟨i + 1, hi', _, by omega, hhi32, by go_num, rfl, HST.out, hrow', hb.setCell hgl _⟩
           case measure => simp [intOf]; omega
         · have e : i = n := by omega
           subst e
           have hk' : j + i < L.length := by omega
           have hc1 := hrow.cell hk'
           have hf1 := hrow.frozen (j + i)
           have hrow' := hrow.set_ (j + i) cr
           have HF := Lib.hid (HN.out L cr hL hcr)
           clear HN
           go_wp2
           go_roundw
           case rel => exact ⟨j + 1, _, by omega, by go_num, HF.out, hrow', hb.setCell hgl _⟩
           case measure => simp [intOf]; omega
   · have e : j = m := by omega
     subst e
     have HV : Hid (nv L0 = nv xs * nv ys) := Lib.hid (by rw [hL0.val, List.take_of_length_le (by have := Hly.out; omega)])
     go_wp2
     go_ret
     exact ⟨g, L0, rfl, hrow0, hL0.ws, hL0.len, HV.out, hgl, hb0⟩
theorem nlong_two (g c : Nat) (A : Option Addr) (n e : Nat) (xs : List Nat) (B : Option Addr) (m d : Nat) (ys : List Nat) (w : World) (hc0 : w.cell? ⟨g, 0, none⟩ = some (.slice A n e)) (hc1 : w.cell? ⟨g, 1, none⟩ = some (.slice B m d))
   (h : Wds w A n e xs) (hn : n ≤ 35184372088832) (hs : nw (nv xs) ≤ 16384) (k : Wds w B m d ys) (hm : m ≤ 35184372088832) (ks : nw (nv ys) ≤ 16384) :
   Calls Tryz.prog 96 #[.slice (some ⟨g, 0, none⟩) 2 c] w fun e w' => e = .returned (.bool false) ∧ w = w' :=
 (nlong_any g 2 c [⟨A, n, e, xs⟩, ⟨B, m, d, ys⟩] w rfl (by omega) (fun i s hs => by
   match i, hs with
   | 0, hs => simp at hs; subst hs; exact hc0
   | 1, hs => simp at hs; subst hs; exact hc1
   | i + 2, hs => simp at hs) (fun s hs => by
   simp at hs
   rcases hs with rfl | rfl
   · exact ⟨h, hn⟩
   · exact ⟨k, hm⟩)).mono fun e w' h => ⟨by rw [h.1]; exact ret_bool (by simp [isLong]; omega), h.2⟩
end Go.Proofs.YtbcaggdgoidlaaaGreatDoor
