import Derived.Test.YtngdldcgkaplbaaGreatK04
import Derived.Lib.Mul64
set_option linter.unusedVariables false
set_option linter.unusedSimpArgs false
set_option maxHeartbeats 40000000
set_option maxRecDepth 100000
namespace Go.Proofs.YtngdldcgkaplbaaGreat.Wi
open Go Go.Proofs.YtngdldcgkaplbaaGreat
structure Pre (E:World→World→Prop):Prop where
 refl:∀w,E w w
 trans:∀{a b c},E a b→E b c→E a c
variable {E:World→World→Prop}
def fact (E:World→World→Prop)(s:Sp)(v:Value)(w:World):Prop:=match s.1 with
 |some _=>True
 |none=>∃w0,E w0 w∧s.2 v w0
theorem fact.ext (hE:Pre E){s:Sp}{v:Value}{w w':World}(h:fact E s v w)(he:E w w'):fact E s v w':=by
 unfold fact at *
 split
 ·trivial
 ·rename_i h0
  rw [h0]at h
  obtain⟨w0,h1,h2⟩:=h
  exact⟨w0,hE.trans h1 he,h2⟩
theorem fact_told (hE:Pre E){s:Sp}{v:Value}{w:World}(h:told s v w):fact E s v w:=by
 unfold told at h
 unfold fact
 split
 ·trivial
 ·rename_i h0
  rw [h0]at h
  exact⟨w,hE.refl w,h⟩
section
variable {P:Program} {ops:Array Oper} {md:Region.Mode} {S:World→Prop} {sp:Nat→Sp}
def GivesW (P:Program)(S:World→Prop)(E:World→World→Prop)(s:Sp)(w0:World):Result Next→Prop
 | .ok (.value u) w'=>told s u w'∧S w'∧E w0 w'
 | .ok .skip w'=>told s undef w'∧S w'∧E w0 w'
 | .ok (.enter f args) w'=>Calls P f args w' fun e w''=>∃u,e=.returned u∧told s u w''∧S w''∧E w0 w''
 |_=>False
theorem GivesW.of {s:Sp}{w0:World}(hX:∀ w w',S w→Ext w w'→S w'∧E w w')(h0:S w0){r:Result Next}(h:GivesL P s w0 r):GivesW P S E s w0 r:=by
 cases r with
 |ok x w'=>
  cases x<;>simp only [GivesL]at h<;>simp only [GivesW]
  case value u=>exact⟨h.1,hX _ _ h0 h.2⟩
  case skip=>exact⟨h.1,hX _ _ h0 h.2⟩
  case enter f args=>exact h.mono fun e w'' ⟨u,h1,h2,h3⟩=>⟨u,h1,h2,hX _ _ h0 h3⟩
 |halt x w'=>simp only [GivesL]at h
def Sees (E:World→World→Prop)(md:Region.Mode)(sp:Nat→Sp)(o:Oper)(V:Nat→Value)(w:World):Prop:=∀e∈o.after,Region.binds md e=true→fact E (sp e.on) (V e.on) w
structure StepW (P:Program)(E:World→World→Prop)(ops:Array Oper)(md:Region.Mode)(S:World→Prop)(sp:Nat→Sp)(i:Nat)(o:Oper)(V:Nat→Value)(a:Act)(K:Value→Prop):Prop where
 gives:Region.wanted o (yielded ops a.tmps)=true→∀w,S w→Sees E md sp o V w→GivesW P S E (sp i) w ((execOp a.eval o).run P w)
 none_:Region.wanted o (yielded ops a.tmps)=false→(sp i).1.isSome=true
 next:∀v,AL ops (sp i) o a v→K v
def wpAnyX (P:Program)(E:World→World→Prop)(md:Region.Mode)(ops:Array Oper)(S:World→Prop)(sp:Nat→Sp)(n:Nat)(Q:Array Bool→(Nat→Value)→Act→Prop):Nat→Array Bool→(Nat→Value)→Act→Prop
 |0,listed,V,a=>Q listed V a
 |f+1,listed,V,a=>Region.ready md ops listed≠[] ∧
  ∀i∈Region.ready md ops listed,i<n∧∃o,ops[i]?=some o∧StepW P E ops md S sp i o V a fun u=>wpAnyX P E md ops S sp n Q f (listed.setIfInBounds i true) (upd V i u) (a.put o.dst u)
def Inv (E:World→World→Prop)(sp:Nat→Sp)(listed:Array Bool)(V:Nat→Value)(w:World):Prop:=∀j,listed.getD j false=true→fact E (sp j) (V j) w
theorem Inv.ext (hE:Pre E){listed:Array Bool}{V:Nat→Value}{w w':World}(h:Inv E sp listed V w)(he:E w w'):Inv E sp listed V w':=fun j hj=>(h j hj).ext hE he
theorem Inv.set {listed:Array Bool}{V:Nat→Value}{w:World}{i:Nat}{u:Value}(h:Inv E sp listed V w)(hu:fact E (sp i) u w):Inv E sp (listed.setIfInBounds i true) (upd V i u) w:=by
 intro j hj
 by_cases hji:j=i
 ·subst hji;rw [upd_self];exact hu
 ·rw [upd_ne _ _ hji]
  rw [getD_set_ne false (Ne.symm hji)]at hj
  exact h j hj
theorem wpAny_of_X {n g:Nat}{Q:Array Bool→(Nat→Value)→Act→Prop}{Q':Exit→Act→World→Prop}(hE:Pre E)
  (hQ:∀listed V a w,Q listed V a→S w→Inv E sp listed V w→wpAny P md ops Q' g listed a w):
  ∀(f:Nat) (listed:Array Bool) (V:Nat→Value) (a:Act) (w:World),S w→Inv E sp listed V w→wpAnyX P E md ops S sp n Q f listed V a→wpAny P md ops Q' (f+g) listed a w
 |0,_,_,_,_,hS,hI,h=>by rw [Nat.zero_add];exact hQ _ _ _ _ h hS hI
 |f+1,listed,V,a,w,hS,hI,h=>by
  rw [show f+1+g=(f+g)+1 by omega]
  refine⟨fun h0=>absurd h0 h.1,fun i hi=>?_⟩
  obtain⟨-,o,ho,hst⟩:=h.2 i hi
  obtain⟨hun,o',ho',hall⟩:=mem_ready.1 hi
  have e0:o'=o:=Option.some.inj (ho'.symm.trans ho)
  subst e0
  have hsee:Sees E md sp o' V w:=fun e he hb=>hI _ (hall e he hb)
  unfold Go.wpOp
  simp only [ho]
  by_cases hw:Region.wanted o' (yielded ops a.tmps)=true
  ·rw [if_pos hw]
   refine .inl ?_
   have h3:=hst.gives hw w hS hsee
   have go:∀u w',told (sp i) u w'→S w'→E w w'→wpAny P md ops Q' (f+g) (listed.setIfInBounds i true) (a.put o'.dst u) w':=fun u w' h5 hS' h6=>
    wpAny_of_X hE hQ f _ _ _ w' hS' ((hI.ext hE h6).set (fact_told hE h5)) (hst.next u (by unfold AL;rw [if_pos hw];exact h5.may))
   unfold Oper.wp
   generalize (execOp a.eval o').run P w=r at h3
   cases r with
   |ok x w'=>
    cases x<;>simp only [GivesW]at h3<;>simp only [Oper.upon]
    case value u=>exact go u w' h3.1 h3.2.1 h3.2.2
    case skip=>exact go undef w' h3.1 h3.2.1 h3.2.2
    case enter f' args=>exact h3.mono fun e w'' ⟨u,he,h5,h7,h6⟩=>by subst he;exact go u w'' h5 h7 h6
   |halt x w'=>simp only [GivesW]at h3
  ·rw [if_neg hw]
   have hw':Region.wanted o' (yielded ops a.tmps)=false:=by simpa using hw
   refine wpAny_of_X hE hQ f _ _ _ w hS (hI.set ?_) (hst.next undef (by unfold AL;rw [if_neg hw]))
   have h7:=hst.none_ hw'
   unfold fact
   cases h8:(sp i).1 with
   |some c=>trivial
   |none=>rw [h8]at h7;cases h7
theorem wpAnyX_first {n i:Nat}{oi:Oper}{Q:Array Bool→(Nat→Value)→Act→Prop}(hi:ops[i]?=some oi)(hsel:Region.noSelect ops=true)
  (hs:Region.sinkB md ops n=true) (hc:Region.chainB md ops n=true) (hn:n<ops.size) (hin:i<n)
  (hdone:∀listed V a,Q listed V a→∀j∈Region.ready md ops listed,n≤j):
  ∀(f:Nat) (listed:Array Bool) (V:Nat→Value) (a:Act),HeadInv md ops n listed →
   (∀j oj,ops[j]?=some oj→j≠i→listed.getD j true=false→(∀e∈oj.after,Region.binds md e=true→e.on≠i)→oi.apart ops oj=true) →
   i∈Region.ready md ops listed →
   (StepW P E ops md S sp i oi V a fun v=>wpAnyX P E md ops S sp n Q f (listed.setIfInBounds i true) (upd V i v) (a.put oi.dst v))→wpAnyX P E md ops S sp n Q (f+1) listed V a:=by
 intro f
 induction f with
 |zero=>
  intro listed V a inv _ hr H
  have hun:=(mem_ready.1 hr).1
  refine⟨fun h=>(by rw [h]at hr;cases hr),fun j hj=>?_⟩
  have hjn:j<n:=by
   rcases Nat.lt_or_ge j n with h|h
   ·exact h
   ·exact absurd hj (tail_waits hs hc hn inv _ i rfl hin hun j h)
  by_cases hji:j=i
  ·subst hji;exact⟨hjn,oi,hi,H⟩
  ·obtain⟨v,hv⟩:=AL_ex (ops:=ops) (sp i) oi a
   have:=hdone _ _ _ (H.next v hv) j (ready_mono hj hji)
   omega
 |succ f ih=>
  intro listed V a inv hfree hr H
  have hun:=(mem_ready.1 hr).1
  refine⟨fun h=>(by rw [h]at hr;cases hr),fun j hj=>?_⟩
  have hjn:j<n:=by
   rcases Nat.lt_or_ge j n with h|h
   ·exact h
   ·exact absurd hj (tail_waits hs hc hn inv _ i rfl hin hun j h)
  refine⟨hjn,?_⟩
  by_cases hji:j=i
  ·subst hji;exact⟨oi,hi,H⟩
  ·obtain⟨hjun,oj,hoj,hall⟩:=mem_ready.1 hj
   have hnot:∀e∈oj.after,Region.binds md e=true→e.on≠i:=fun e he hb heq=>by
    have h1:=hall e he hb
    rw [heq,getD_both hun]at h1
    cases h1
   have hnot':∀e∈oi.after,Region.binds md e=true→e.on≠j:=fun e he hb heq=>by
    obtain⟨-,oi',hoi',hall'⟩:=mem_ready.1 hr
    have:oi'=oi:=Option.some.inj (hoi'.symm.trans hi)
    subst this
    have h1:=hall' e he hb
    rw [heq,getD_both hjun]at h1
    cases h1
   obtain⟨a1,a2,a3⟩:=Oper.apart_spec (hfree j oj hoj hji hjun hnot)
   have s1:=Region.noSelect_spec hsel j oj
   have s2:=Region.noSelect_spec hsel i oi
   have hj2:∀v,AL ops (sp i) oi a v→StepW P E ops md S sp j oj (upd V i v) (a.put oi.dst v) fun u=>wpAnyX P E md ops S sp n Q f ((listed.setIfInBounds i true).setIfInBounds j true) (upd (upd V i v) j u) ((a.put oi.dst v).put oj.dst u):=fun v hv=>by
    obtain⟨-,o',ho',h2⟩:=(H.next v hv).2 j (ready_mono hj hji)
    have:o'=oj:=Option.some.inj (ho'.symm.trans hoj)
    subst this
    exact h2
   have wj:∀v,Region.wanted oj (yielded ops (a.put oi.dst v).tmps)=Region.wanted oj (yielded ops a.tmps):=fun v=>wanted_put oj a oi.dst v a1
   have xj:∀v,execOp (a.put oi.dst v).eval oj=execOp a.eval oj:=fun v=>execOp_put oj (fun cs b=>s1 cs b hoj) a oi.dst v a1
   have wi:∀u,Region.wanted oi (yielded ops (a.put oj.dst u).tmps)=Region.wanted oi (yielded ops a.tmps):=fun u=>wanted_put oi a oj.dst u a3
   have xi:∀u,execOp (a.put oj.dst u).eval oi=execOp a.eval oi:=fun u=>execOp_put oi (fun cs b=>s2 cs b hi) a oj.dst u a3
   obtain⟨v0,hv0⟩:=AL_ex (ops:=ops) (sp i) oi a
   refine⟨oj,hoj,?_,?_,?_⟩
   ·intro hw w hS hsee
    have:=(hj2 v0 hv0).gives (by rw [wj];exact hw) w hS (fun e he hb=>by rw [upd_ne _ _ (hnot e he hb)];exact hsee e he hb)
    rwa [xj]at this
   ·intro hw
    exact(hj2 v0 hv0).none_ (by rw [wj];exact hw)
   ·intro u hu
    refine ih (listed.setIfInBounds j true) _ _ (inv.set hj hjn) (fun k ok hk hki hun' hno=>?_) (ready_mono hr (Ne.symm hji)) ⟨?_,?_,?_⟩
    ·refine hfree k ok hk hki ?_ hno
     by_cases hjk:j=k
     ·subst hjk;exact hjun
     ·rw [getD_set_ne true hjk]at hun';exact hun'
    ·intro hw w hS hsee
     have:=H.gives (by rw [wi]at hw;exact hw) w hS (fun e he hb=>by have h9:=hsee e he hb;rwa [upd_ne _ _ (hnot' e he hb)]at h9)
     rwa [xi]
    ·intro hw
     exact H.none_ (by rw [wi]at hw;exact hw)
    ·intro v hv
     have hv':AL ops (sp i) oi a v:=by unfold AL at *;rwa [wi]at hv
     have hu':AL ops (sp j) oj (a.put oi.dst v) u:=by unfold AL at *;rwa [wj]
     have h10:=(hj2 v hv').next u hu'
     rw [Array.setIfInBounds_comm _ _ hji,←Act.put_comm a v u a2,←upd_comm V v u hji]
     exact h10
def wpX (P:Program)(E:World→World→Prop)(md:Region.Mode)(ops:Array Oper)(S:World→Prop)(sp:Nat→Sp)(Q:List Value→Act→Prop):List Oper→List Value→Act→Prop
 |[],V,a=>Q V a
 |o::rest,V,a=>if Region.wanted o (yielded ops a.tmps)=true then(∀w,S w→Sees E md sp o (asFun V) w→GivesW P S E (sp V.length) w ((execOp a.eval o).run P w))∧∀v,may (sp V.length) v→wpX P E md ops S sp Q rest (V++[v]) (a.put o.dst v)
   else(sp V.length).1.isSome=true∧wpX P E md ops S sp Q rest (V++[undef]) (a.put o.dst undef)
theorem wpX_lex {n g:Nat}{Q:List Value→Act→Prop}(hsel:Region.noSelect ops=true)(hs:Region.sinkB md ops n=true)(hc:Region.chainB md ops n=true)(hn:n < ops.size) :
  ∀(l:List Oper) (k:Nat) (listed:Array Bool) (V:List Value) (a:Act),(∀j,j<l.length→l[j]?=ops[k+j]?)→k+l.length=n→V.length=k→HeadInv md ops n listed →
  Region.lexHead md ops g l.length k listed=true→wpX P E md ops S sp Q l V a →
  wpAnyX P E md ops S sp n (fun listed' V' a'=>HeadInv md ops n listed'∧Region.seqB md ops g n listed'=true∧∃Vl:List Value,V'=asFun Vl∧Q Vl a') l.length listed (asFun V) a
 |[],k,listed,V,a,_,hk,_,inv,hB,h=>by
  have:k=n:=by simpa using hk
  subst this
  exact⟨inv,by simpa [Region.lexHead]using hB,V,rfl,h⟩
 |o::l,k,listed,V,a,hl,hk,hV,inv,hB,h=>by
  have h0:ops[k]?=some o:=by simpa using (hl 0 (by simp)).symm
  simp only [List.length_cons,Region.lexHead,Bool.and_eq_true]at hB
  obtain⟨⟨hr,hf⟩,hB'⟩:=hB
  have hkn:k<n:=by simp only [List.length_cons]at hk;omega
  have hr':k∈Region.ready md ops listed:=by simpa using hr
  subst hV
  have rec_:∀v,wpX P E md ops S sp Q l (V++[v]) (a.put o.dst v)→wpAnyX P E md ops S sp n (fun listed' V' a'=>HeadInv md ops n listed'∧Region.seqB md ops g n listed'=true∧∃Vl:List Value,V'=asFun Vl∧Q Vl a') l.length (listed.setIfInBounds V.length true) (upd (asFun V) V.length v) (a.put o.dst v):=fun v hv=>by
   rw [upd_asFun]
   exact wpX_lex hsel hs hc hn l (V.length+1) _ _ _ (fun j hj=>by have:=hl (j+1) (by simp;omega);simpa [Nat.add_assoc,Nat.add_comm 1 j]using this) (by simp only [List.length_cons]at hk;omega) (by simp) (inv.set hr' hkn) hB' hv
  refine wpAnyX_first h0 hsel hs hc hn hkn (fun listed' V' a' hL=>seqB_ready hL.2.1) l.length listed _ a inv (Region.free_spec h0 hf) hr' ?_
  unfold wpX at h
  by_cases hw:Region.wanted o (yielded ops a.tmps)=true
  ·rw [if_pos hw]at h
   exact⟨fun _=>h.1,fun h1=>(by rw [hw]at h1;cases h1),fun v hv=>rec_ v (h.2 v (by unfold AL at hv;rwa [if_pos hw]at hv))⟩
  ·rw [if_neg hw]at h
   exact⟨fun h1=>absurd h1 hw,fun _=>h.1,fun v hv=>by
    unfold AL at hv
    rw [if_neg hw]at hv
    subst hv
    exact rec_ _ h.2⟩
theorem wp_region_wild {id:Nat}{Q:Exit→Act→World→Prop}{a:Act}{w:World}{l:List Oper}(n:Nat)(S:World→Prop)(E:World→World→Prop)(hE:Pre E)(sp:Nat→Sp)(hm:P.follows .mixedOrders=true)(hB:Region.lexTailB .any l.toArray n=true)
  (hS:S { w with drawn:=w.drawn+1 })
  (h:wpX P E .any l.toArray S sp (fun V a'=>∀w',S w'→(∀j,j<n→fact E (sp j) (asFun V j) w')→wpList P l.toArray Q (l.drop n) a' w') (l.take n) [] a):(Code.region id l.toArray true).wp P Q a w:=by
 simp only [Region.lexTailB,Bool.and_eq_true,decide_eq_true_eq]at hB
 obtain⟨⟨⟨⟨hsel,hn⟩,hs⟩,hc⟩,hlex⟩:=hB
 have hn':n<l.length:=by simpa using hn
 have htl:(l.take n).length=n:=by simp;omega
 have hdl:(l.drop n).length=l.toArray.size-n:=by simp
 have inv0:HeadInv .any l.toArray n (Array.replicate l.toArray.size false):=
  ⟨by simp,fun j oj _ hl=>(by rw [getD_replicate_false]at hl;cases hl),fun t _ ht=>getD_in (by simpa using ht) (getD_replicate_false _ _)⟩
 have H:=wpX_lex (md:=.any) (g:=l.toArray.size-n) hsel hs hc hn (l.take n) 0 _ [] a (fun j hj=>by
  have hj':j<n:=by rw [htl]at hj;exact hj
  simp [hj']) (by simpa using htl) rfl inv0 (by rw [htl];exact hlex) h
 refine wp_region_any hm ?_
 have:=wpAny_of_X (Q':=Q) (g:=l.toArray.size-n) hE (fun listed V a' w' hL hS' hI=>by
  obtain⟨hinv,h1,Vl,rfl,h2⟩:=hL
  have hrd:n∈Region.ready .any l.toArray listed:=by
   obtain⟨g,hg⟩:∃g,l.toArray.size-n=g+1:=⟨l.toArray.size-n-1,by simp;omega⟩
   rw [hg]at h1
   simp only [Region.seqB,Bool.and_eq_true,decide_eq_true_eq]at h1
   rw [h1.1]
   exact List.mem_singleton.2 rfl
  have hall:∀j,j<n→fact E (sp j) (asFun Vl j) w':=fun j hj=>by
   refine hI j ?_
   cases hl:listed.getD j false with
   |true=>rfl
   |false=>exact absurd hrd (tail_waits hs hc hn hinv _ j rfl hj (getD_in (by rw [hinv.size];simp;omega) hl) n (Nat.le_refl _))
  have:=wpAny_of_seq (md:=.any) (Q':=Q) (l.drop n) n listed a' w' (fun j=>by simp [List.getElem?_drop]) (by rw [hdl];exact h1) (h2 w' hS' hall)
  rwa [hdl]at this) _ _ _ _ _ hS (fun j hj=>by rw [getD_replicate_false]at hj;cases hj) H
 rw [htl,show n+(l.toArray.size-n)=l.toArray.size by omega]at this
 exact this
def StepY (P:Program)(E:World→World→Prop)(md:Region.Mode)(S:World→Prop)(sp:Nat→Sp)(o:Oper)(V:List Value)(a:Act)(K:List Value→Act→Prop):Prop:=
 (∀w,S w→Sees E md sp o (asFun V) w→GivesW P S E (sp V.length) w ((execOp a.eval o).run P w))∧∀v,may (sp V.length) v→K (V++[v]) (a.put o.dst v)
theorem StepY.det {o:Oper}{V:List Value}{a:Act}{K:List Value→Act→Prop}{c:Value}(e:sp V.length=Go.Proofs.YtngdldcgkaplbaaGreat.det c)(h:∀ w,S w→Sees E md sp o (asFun V) w→GivesW P S E (Go.Proofs.YtngdldcgkaplbaaGreat.det c) w ((execOp a.eval o).run P w))(k:K (V++[c]) (a.put o.dst c)):StepY P E md S sp o V a K:=
 ⟨by rw [e];exact h,fun v hv=>by rw [e]at hv;have hv':v=c:=hv;subst hv';exact k⟩
theorem StepY.any {o:Oper}{V:List Value}{a:Act}{K:List Value→Act→Prop}{R:Value→World→Prop}(e:sp V.length=anyOf R)(h:∀ w,S w→Sees E md sp o (asFun V) w→GivesW P S E (anyOf R) w ((execOp a.eval o).run P w))(k:∀ v,K (V++[v]) (a.put o.dst v)):StepY P E md S sp o V a K:=
 ⟨by rw [e];exact h,fun v _=>k v⟩
theorem wpX_nil {Q:List Value→Act→Prop}{V:List Value}{a:Act}(h:Q V a):wpX P E md ops S sp Q [] V a:=h
theorem wpX_step {Q:List Value→Act→Prop}{V:List Value}{a:Act}{o:Oper}{rest:List Oper}
  (h:∀K:List Value→Act→Prop,(∀V a,wpX P E md ops S sp Q rest V a→K V a)→if Region.wanted o (yielded ops a.tmps)=true then StepY P E md S sp o V a K else(sp V.length).1.isSome=true∧K (V++[undef]) (a.put o.dst undef)):wpX P E md ops S sp Q (o::rest) V a:=
 h _ fun _ _ h=>h
theorem fact_any {s:Sp}{v:Value}{w:World}{R:Value→World→Prop}(h:fact E s v w)(e:s=anyOf R):∃w0,E w0 w∧R v w0:=by
 subst e;exact h
end
end Go.Proofs.YtngdldcgkaplbaaGreat.Wi
namespace Go.Proofs.YtngdldcgkaplbaaGreat
open Go Go.RowKit Nm
section
variable {w0 w w':World} {L L':List Bx} {W:List Sw}
theorem Own.perm (h:Own w0 L W w)(hp:L.Perm L'):Own w0 L' W w:=
 ⟨h.1,fun b hb=>h.2.1 b (hp.mem_iff.2 hb),(hp.map Bx.g).nodup_iff.1 h.2.2.1,h.2.2.2⟩
theorem Own.sub (h:Own w0 L W w)(hs:L'.Sublist L):Own w0 L' W w:=
 ⟨h.1,fun b hb=>h.2.1 b (hs.subset hb),h.2.2.1.sublist (hs.map Bx.g),h.2.2.2⟩
theorem Own.tail {b:Bx}(h:Own w0 (b::L) W w):Own w0 L W w:=h.sub (List.sublist_cons_self _ _)
theorem Own.swap {b c:Bx}(h:Own w0 (b::c::L) W w):Own w0 (c::b::L) W w:=h.perm (List.Perm.swap _ _ _)
theorem Own.drop2 {b c:Bx}(h:Own w0 (b::c::L) W w):Own w0 (b::L) W w:=h.sub (List.Sublist.cons_cons _ (List.sublist_cons_self _ _))
theorem Own.cell (h:Own w0 L W w)(i:Nat){b:Bx}(hi:L[i]?=some b)(j:Nat):w.cell? ⟨b.g,j,none⟩=b.cs[j]?:=by
 have:=(h.2.1 b (List.mem_of_getElem? hi)).2.1.cell j
 simpa using this
theorem Own.frozen (h:Own w0 L W w)(i:Nat){b:Bx}(hi:L[i]?=some b)(j:Nat):w.frozen? ⟨b.g,j,none⟩=false:=
 (h.2.1 b (List.mem_of_getElem? hi)).2.1.frozen j
end
section
variable {P:Program} {ops:Array Oper} {Q:Exit→Act→World→Prop} {a:Act} {w w0:World} {rest:List Oper} {L:List Bx} {W:List Sw} {T ty:TypeId} {ps:String} {af:Array Edge} {x y:Operand} {d:Tmp}
theorem at_load (h:wpList P ops Q ({ dst:=some d,op:=.load T x,type:=ty,pos:=ps,after:=af,guard:=none }::rest) a w):wpList P ops Q ({ dst:=some d,op:=.load T x,type:=ty,pos:=ps,after:=af,guard:=none }::rest) a w:=h
theorem own_load (hO:Own w0 L W w)(i:Nat){b:Bx}(hb:L[i]?=some b){off n:Nat}(hx:a.eval x=.pointer (some ⟨b.g,off,none⟩))(hag:∀ w,(isAgg T).run P w=.ok true w)(hsz:∀ w,(sizeOf T).run P w=.ok n w)(hle:Nat.ble (off+n) b.cs.length=true){vs:List Value}(hvs:(b.cs.drop off).take n=vs)
  (h:wpList P ops Q rest (a.put (some d) (.agg vs.toArray)) w):
  wpList P ops Q ({ dst:=some d,op:=.load T x,type:=ty,pos:=ps,after:=af,guard:=none }::rest) a w:=by
 refine wpList_of_run rfl ?_ h
 have hB:=(hO.2.1 b (List.mem_of_getElem? hb)).2.1
 have:=run_loadCells (P:=P) (off:=off) hB n 0 #[] (by have:=Nat.le_of_ble_eq_true hle;omega)
 simp [execOp,Instr.loadAt,hx,Instr.sureAddr,loadVar,hag,hsz,loadCells,this,hvs]
end
def u64s (xs:List Nat):List Value:=xs.map fun(x:Nat)=>Value.int .u64 (x:Int)
theorem u64s_len (xs:List Nat):(u64s xs).length=xs.length:=by simp [u64s]
theorem u64s_noU (xs:List Nat):(u64s xs).any isU=false:=by
 induction xs with
 |nil=>rfl
 |cons x xs ih=>simp [u64s,isU]
theorem u64s_set (xs:List Nat)(i x:Nat):(u64s xs).set i (.int .u64 (x:Int))=u64s (xs.set i x):=by simp [u64s,List.map_set]
theorem u64s_get {xs:List Nat}{i:Nat}(h:i < xs.length):(u64s xs)[i]?=some (.int .u64 (xs[i]:Int)):=by simp [u64s,h]
def sc (ws:List Nat)(p m n:Bool)(t:Nat):List Value:=u64s ws++[.bool p,.bool m,.bool n,.int .u64 (t:Int)]
section
variable {ws:List Nat} {p m n:Bool} {t:Nat}
theorem sc_len (h:ws.length=68):(sc ws p m n t).length=72:=by simp [sc,u64s_len,h]
theorem sc_noU:(sc ws p m n t).any isU=false:=by rw [sc,List.any_append,u64s_noU];rfl
theorem sc_word {i:Nat}(hi:i < ws.length):(sc ws p m n t)[i]?=some (.int .u64 (ws[i]:Int)):=by
 rw [sc,List.getElem?_append_left (by rw [u64s_len];exact hi),u64s_get hi]
theorem sc_at (h:ws.length=68)(k:Nat):(sc ws p m n t)[68+k]?=[Value.bool p,.bool m,.bool n,.int .u64 (t:Int)][k]?:=by
 rw [sc,List.getElem?_append_right (by rw [u64s_len];omega),u64s_len,h,Nat.add_sub_cancel_left]
theorem sc_setw {i:Nat}(hi:i < ws.length)(x:Nat):(sc ws p m n t).set i (.int .u64 (x:Int))=sc (ws.set i x) p m n t:=by
 rw [sc,List.set_append_left _ _ (by rw [u64s_len];exact hi),u64s_set];rfl
theorem sc_set (h:ws.length=68)(k:Nat)(v:Value):(sc ws p m n t).set (68+k) v=u64s ws++[Value.bool p,.bool m,.bool n,.int .u64 (t:Int)].set k v:=by
 rw [sc,List.set_append_right _ _ (by rw [u64s_len];omega),u64s_len,h,Nat.add_sub_cancel_left]
theorem sc_setp (h:ws.length=68)(b:Bool):(sc ws p m n t).set 68 (.bool b)=sc ws b m n t:=sc_set h 0 _
theorem sc_setm (h:ws.length=68)(b:Bool):(sc ws p m n t).set 69 (.bool b)=sc ws p b n t:=sc_set h 1 _
theorem sc_setn (h:ws.length=68)(b:Bool):(sc ws p m n t).set 70 (.bool b)=sc ws p m b t:=sc_set h 2 _
theorem sc_sett (h:ws.length=68)(x:Nat):(sc ws p m n t).set 71 (.int .u64 (x:Int))=sc ws p m n x:=sc_set h 3 _
theorem sc_p (h:ws.length=68):(sc ws p m n t)[68]?=some (.bool p):=sc_at h 0
theorem sc_m (h:ws.length=68):(sc ws p m n t)[69]?=some (.bool m):=sc_at h 1
theorem sc_n (h:ws.length=68):(sc ws p m n t)[70]?=some (.bool n):=sc_at h 2
theorem sc_t (h:ws.length=68):(sc ws p m n t)[71]?=some (.int .u64 (t:Int)):=sc_at h 3
theorem sc_words (h:ws.length=68):((sc ws p m n t).drop 0).take 68=u64s ws:=by
 rw [List.drop_zero,sc,List.take_append_of_le_length (by rw [u64s_len];omega),List.take_of_length_le (by rw [u64s_len];omega)]
end
end Go.Proofs.YtngdldcgkaplbaaGreat
namespace Go.Proofs.YtngdldcgkaplbaaGreat
open Nm Rn
def vl:List Nat→Nat
 |[]=>0
 |x::l=>x+18446744073709551616*vl l
def W6 (l:List Nat):Prop:=∀x∈l,x<18446744073709551616
def dg:Nat→Nat→List Nat
 |0,_=>[]
 |n+1,v=>v%18446744073709551616::dg n (v/18446744073709551616)
theorem dg_len:∀(n v:Nat),(dg n v).length=n
 |0,_=>rfl
 |n+1,v=>by simp [dg,dg_len n]
theorem dg_w6:∀(n v:Nat),W6 (dg n v)
 |0,_=>fun x h=>by cases h
 |n+1,v=>fun x h=>by
  rcases List.mem_cons.1 h with rfl|h
  ·omega
  ·exact dg_w6 n _ x h
theorem W6.get {l:List Nat}(h:W6 l){k:Nat}(hk:k < l.length):l[k]<18446744073709551616:=h _ (List.getElem_mem hk)
theorem W6.set {l:List Nat}(h:W6 l)(k:Nat){x:Nat}(hx:x < 18446744073709551616):W6 (l.set k x):=by
 intro y hy
 rcases List.mem_or_eq_of_mem_set hy with hy|rfl
 ·exact h y hy
 ·exact hx
theorem W6.tail {x:Nat}{l:List Nat}(h:W6 (x::l)):W6 l:=fun y hy=>h y (List.mem_cons_of_mem _ hy)
theorem W6.head {x:Nat}{l:List Nat}(h:W6 (x::l)):x<18446744073709551616:=h x List.mem_cons_self
theorem vl_lt:∀{l:List Nat},W6 l→vl l<18446744073709551616^l.length
 |[],_=>by simp [vl]
 |x::l,h=>by
  have h1:=vl_lt h.tail
  have h2:=h.head
  rw [List.length_cons,Nat.pow_succ,vl]
  generalize 18446744073709551616^l.length=P at *
  omega
theorem vl_dg:∀(n v:Nat),vl (dg n v)=v%18446744073709551616^n
 |0,v=>by simp [vl,dg,Nat.mod_one]
 |n+1,v=>by
  rw [dg,vl,vl_dg n,Nat.pow_succ,Nat.mul_comm (18446744073709551616^n),Nat.mod_mul]
theorem dg_vl:∀{l:List Nat},W6 l→dg l.length (vl l)=l
 |[],_=>rfl
 |x::l,h=>by
  have h2:=h.head
  rw [List.length_cons,dg,vl,show(x+18446744073709551616*vl l)/18446744073709551616=vl l by omega,dg_vl h.tail,show(x+18446744073709551616*vl l)%18446744073709551616=x by omega]
theorem vl_set:∀{l:List Nat} {k:Nat} (hk:k<l.length) (y:Nat),vl (l.set k y)+18446744073709551616^k*l[k]=vl l+18446744073709551616^k*y
 |[],k,hk,_=>by simp at hk
 |x::l,0,hk,y=>by simp [vl];omega
 |x::l,k+1,hk,y=>by
  have hk1:k<l.length:=by simpa using hk
  have:=vl_set hk1 y
  simp only [List.set_cons_succ,vl,List.getElem_cons_succ,Nat.pow_succ]
  generalize 18446744073709551616^k=P at *
  rw [Nat.mul_right_comm P _ (l[k]'hk1),Nat.mul_right_comm P _ y]
  omega
theorem vl_take_succ:∀{l:List Nat} {k:Nat} (hk:k<l.length),vl (l.take (k+1))=vl (l.take k)+18446744073709551616^k*l[k]
 |[],k,hk=>by simp at hk
 |x::l,0,hk=>by simp [vl]
 |x::l,k+1,hk=>by
  have:=vl_take_succ (l:=l) (k:=k) (by simpa using hk)
  simp only [List.take_succ_cons,vl,List.getElem_cons_succ,Nat.pow_succ]at this ⊢
  rw [this]
  generalize 18446744073709551616^k=P at *
  rw [Nat.mul_right_comm P]
  omega
def MM:Nat:=18446744073709551616^68
theorem MM_pos:0<MM:=Nat.pow_pos (by decide)
def sw (T:Int):List Nat:=dg 68 (T%(MM:Int)).toNat
theorem sw_len (T:Int):(sw T).length=68:=dg_len _ _
theorem sw_w6 (T:Int):W6 (sw T):=dg_w6 _ _
theorem mm_mod (T:Int):(((T%(MM:Int)).toNat:Nat):Int)=T%(MM:Int):=by
 have:=MM_pos
 exact Int.toNat_of_nonneg (Int.emod_nonneg _ (by omega))
theorem mm_lt (T:Int):(T%(MM:Int)).toNat<MM:=by
 have:=MM_pos
 have h1:=Int.emod_lt_of_pos T (show(0:Int)<MM by omega)
 have h2:=mm_mod T
 omega
theorem vl_sw (T:Int):(vl (sw T):Int)=T%(MM:Int):=by
 unfold sw
 rw [vl_dg,show 18446744073709551616^68=MM from rfl,Nat.mod_eq_of_lt (mm_lt T),mm_mod]
theorem sw_of {l:List Nat}{T:Int}(hl:l.length=68)(h:W6 l)(e:(vl l:Int)=T % (MM:Int)):l=sw T:=by
 unfold sw
 rw [←e,Int.toNat_natCast,←hl,dg_vl h]
theorem sw_end {l:List Nat}{T:Int}{c:Int}(hl:l.length=68)(h:W6 l)(e:(vl l:Int)+c*(MM:Int)=T):l=sw T:=by
 refine sw_of hl h ?_
 have h1:=vl_lt h
 rw [hl,show 18446744073709551616^68=MM from rfl]at h1
 rw [←e,Int.add_mul_emod_self_right]
 exact(Int.emod_eq_of_lt (by omega) (by omega)).symm
theorem sw_congr {S T:Int}(h:S % (MM:Int)=T % (MM:Int)):sw S=sw T:=by unfold sw;rw [h]
theorem lay_step {l:List Nat}{p c x r c':Nat}{s:Bool}{V Xp:Int}(hp:p < l.length)(hr:(r:Int)+sn s (18446744073709551616*c')=(l[p]:Int)+sn s (x+c))
  (h:(vl l:Int)+sn s (c*18446744073709551616^p)=V+Xp):(vl (l.set p r):Int)+sn s (c'*18446744073709551616^(p+1))=V+(Xp+sn s (x*18446744073709551616^p)):=by
 have hs:=vl_set hp r
 rw [Nat.pow_succ]
 generalize (18446744073709551616:Nat)^p=P at *
 generalize l[p]=o at *
 generalize vl (l.set p r)=A at *
 generalize vl l=B at *
 have h2:=congrArg (fun z:Int=>(P:Int)*z) hr
 have h3:((A+P*o:Nat):Int)=((B+P*r:Nat):Int):=by rw [hs]
 simp only [Int.natCast_add,Int.natCast_mul]at h3
 unfold sn at *
 cases s
 ·simp only [Bool.false_eq_true,if_false,Int.natCast_add,Int.natCast_mul,Int.mul_add]at *
  rw [Int.mul_comm (P:Int) c,Int.mul_comm (P:Int) x,show(P:Int)*((18446744073709551616:Nat)*(c':Int))=(c':Int)*((P:Int)*(18446744073709551616:Nat)) by rw [Int.mul_comm (18446744073709551616:Nat) (c':Int),←Int.mul_assoc,Int.mul_comm (P:Int) (c':Int),Int.mul_assoc]]at h2
  omega
 ·simp only [if_true,Int.natCast_add,Int.natCast_mul,Int.mul_add,Int.mul_neg,Int.neg_add]at *
  rw [Int.mul_comm (P:Int) c,Int.mul_comm (P:Int) x,show(P:Int)*((18446744073709551616:Nat)*(c':Int))=(c':Int)*((P:Int)*(18446744073709551616:Nat)) by rw [Int.mul_comm (18446744073709551616:Nat) (c':Int),←Int.mul_assoc,Int.mul_comm (P:Int) (c':Int),Int.mul_assoc]]at h2
  omega
theorem add_word {x y c:Nat}:(((x+y+c)%18446744073709551616:Nat):Int)+sn false (18446744073709551616*((x+y+c)/18446744073709551616))=(x:Int)+sn false (y+c):=by
 unfold sn
 simp only [Bool.false_eq_true,if_false]
 omega
theorem sub_word {x y c:Nat}(hx:x < 18446744073709551616)(hy:y < 18446744073709551616)(hc:c≤1):(((x+18446744073709551616-y-c)%18446744073709551616:Nat):Int)+sn true (18446744073709551616*(if x<y+c then 1 else 0))=(x:Int)+sn true (y+c):=by
 unfold sn
 simp only [if_true]
 split<;>omega
theorem neg_step {l l0:List Nat}{j c r c':Nat}(hj:j < l.length)(hj0:j < l0.length)(ho:l[j]=l0[j])(hr:r+18446744073709551616*c'=18446744073709551615 - l0[j]+c)(h0:l0[j] < 18446744073709551616)
  (h:(vl l:Int)+c*(18446744073709551616^j:Nat)=vl l0-2*vl (l0.take j)+(18446744073709551616^j:Nat)):
  (vl (l.set j r):Int)+c'*(18446744073709551616^(j+1):Nat)=vl l0-2*vl (l0.take (j+1))+(18446744073709551616^(j+1):Nat):=by
 have hs:=vl_set hj r
 rw [vl_take_succ hj0,Nat.pow_succ]
 rw [ho]at hs
 generalize (18446744073709551616:Nat)^j=P at *
 generalize l0[j]=o at *
 generalize vl (l.set j r)=A at *
 generalize vl l=B at *
 have h2:=congrArg (fun z:Nat=>P*z) (show r+18446744073709551616*c'+o+1=18446744073709551616+c by omega)
 simp only [Nat.mul_add]at h2
 rw [←Nat.mul_assoc,Nat.mul_comm P 18446744073709551616,Nat.mul_assoc]at h2
 rw [Nat.mul_comm P c]at h2
 have h4:(c':Int)*((P*18446744073709551616:Nat):Int)=18446744073709551616*((P*c':Nat):Int):=by
  rw [Int.natCast_mul,Int.natCast_mul,←Int.mul_assoc,Int.mul_comm (c':Int) P,Int.mul_comm]
  rfl
 rw [h4]
 have h5:(c:Int)*(P:Int)=((c*P:Nat):Int):=by rw [Int.natCast_mul]
 rw [h5]at h
 generalize P*c'=q1 at *
 generalize c*P=q2 at *
 generalize P*o=q3 at *
 generalize P*r=q4 at *
 omega
end Go.Proofs.YtngdldcgkaplbaaGreat
namespace Go.Proofs.YtngdldcgkaplbaaGreat
open Go.RowKit Nm Rn
theorem size_u64 (w:World):(sizeOf 29).run Tryz.prog w=.ok 1 w:=by kernel_rfl
theorem size_bool (w:World):(sizeOf 4).run Tryz.prog w=.ok 1 w:=by kernel_rfl
def cnt (t n:Nat):Nat:=if 4611686018427387904<t+n then 4611686018427387904 else t+n
def cntN (b:Bool)(t n:Nat):Bool:=b||decide (4611686018427387904<t+n)
theorem cnt_le (t n:Nat):cnt t n≤4611686018427387904:=by unfold cnt;split<;>omega
def stt (p m n:Bool):Int:=if n||(p&&m)then 2 else if p then 1 else if m then -1 else 0
section
variable {w0 w:World} {L:List Bx} {W:List Sw} {TY TO:TypeId} {g:Nat} {ws:List Nat} {p m b:Bool} {t:Nat}
theorem tcount_any (n:Nat)(hl:ws.length=68)(ht:t≤4611686018427387904)(hn:n≤4611686018427387904)(hO:Own w0 (⟨g,TY,sc ws p m b t⟩::L) W w) :
  Calls Tryz.prog 56 #[.pointer (some ⟨g,0,none⟩),.int .u64 (n:Int)] w fun e w'=>e=.returned (.tuple #[])∧Own w0 (⟨g,TY,sc ws p m (cntN b t n) (cnt t n)⟩::L) W w':=by
 obtain⟨tn,htn⟩:∃tn,tn=t+n:=⟨_,rfl⟩
 have e1:(t:Int)+(n:Int)=(tn:Int):=by omega
 have hb1:tn<18446744073709551616:=by omega
 have HC:Hid (cnt t n=if 4611686018427387904<tn then 4611686018427387904 else tn):=Lib.hid (by rw [htn];rfl)
 have HN:Hid (cntN b t n=(b||decide (4611686018427387904<tn))):=Lib.hid (by rw [htn];rfl)
 have HL:=Lib.hid hl
 have hc:=(hO.cell 0 rfl 71).trans (sc_t hl)
 clear htn ht hn hl
 by_cases hd:4611686018427387904<tn
 ·have g1:decide ((4611686018427387904:Int)<(tn:Int))=true:=decide_eq_true (by omega)
  have HD:=Lib.hid hd
  clear hd
  go_enter Tryz.func56,Tryz.ntmps56
  go_wp2_with (first|((with_reducible refine at_store (T:=29) ?_);refine own_store (vs:=[.int .u64 (tn:Int)]) (T:=29) hO 0 rfl rfl rfl size_u64 rfl rfl (by rw [sc_len HL.out];rfl) ?_;clear hO;intro w2 hO;simp only [List.set_cons_zero,List.set_cons_succ,spl,sc_sett HL.out]at hO;have hc:=(hO.cell 0 rfl 71).trans (sc_t HL.out))|((with_reducible refine at_store (T:=4) ?_);refine own_store (vs:=[.bool true]) (T:=4) hO 0 rfl rfl rfl size_bool rfl rfl (by rw [sc_len HL.out];rfl) ?_;clear hO;intro w3 hO;simp only [List.set_cons_zero,List.set_cons_succ,spl,sc_setn HL.out]at hO;skip)|((with_reducible refine at_store (T:=29) ?_);refine own_store (vs:=[.int .u64 ((4611686018427387904:Nat):Int)]) (T:=29) hO 0 rfl rfl rfl size_u64 rfl rfl (by rw [sc_len HL.out];rfl) ?_;clear hO;intro w4 hO;simp only [List.set_cons_zero,List.set_cons_succ,spl,sc_sett HL.out]at hO;skip))
  go_end0
  have hd:=HD.out
  rw [HC.out,HN.out,if_pos hd,decide_eq_true hd,Bool.or_true]
  exact⟨rfl,hO⟩
 ·have g1:decide ((4611686018427387904:Int)<(tn:Int))=false:=decide_eq_false (by omega)
  have HD:=Lib.hid hd
  clear hd
  go_enter Tryz.func56,Tryz.ntmps56
  go_wp2_with (first|((with_reducible refine at_store (T:=29) ?_);refine own_store (vs:=[.int .u64 (tn:Int)]) (T:=29) hO 0 rfl rfl rfl size_u64 rfl rfl (by rw [sc_len HL.out];rfl) ?_;clear hO;intro w2 hO;simp only [List.set_cons_zero,List.set_cons_succ,spl,sc_sett HL.out]at hO;have hc:=(hO.cell 0 rfl 71).trans (sc_t HL.out))|((with_reducible refine at_store (T:=4) ?_);refine own_store (vs:=[.bool true]) (T:=4) hO 0 rfl rfl rfl size_bool rfl rfl (by rw [sc_len HL.out];rfl) ?_;clear hO;intro w3 hO;simp only [List.set_cons_zero,List.set_cons_succ,spl,sc_setn HL.out]at hO;skip)|((with_reducible refine at_store (T:=29) ?_);refine own_store (vs:=[.int .u64 ((4611686018427387904:Nat):Int)]) (T:=29) hO 0 rfl rfl rfl size_u64 rfl rfl (by rw [sc_len HL.out];rfl) ?_;clear hO;intro w4 hO;simp only [List.set_cons_zero,List.set_cons_succ,spl,sc_sett HL.out]at hO;skip))
  go_end0
  have hd:=HD.out
  rw [HC.out,HN.out,if_neg hd,decide_eq_false hd,Bool.or_false]
  exact⟨rfl,hO⟩
theorem tstate_any (hl:ws.length=68)(hO:Own w0 (⟨g,TY,sc ws p m b t⟩::L) W w) :
  Calls Tryz.prog 65 #[.pointer (some ⟨g,0,none⟩)] w fun e w'=>e=.returned (.int .i64 (stt p m b))∧w=w':=by
 have hc1:=(hO.cell 0 rfl 68).trans (sc_p hl)
 have hc2:=(hO.cell 0 rfl 69).trans (sc_m hl)
 have hc3:=(hO.cell 0 rfl 70).trans (sc_n hl)
 clear hO hl
 cases p<;>cases m<;>cases b
 all_goals
  go_enter Tryz.func65,Tryz.ntmps65
  go_wp2
  go_ret
  exact⟨rfl,rfl⟩
end
theorem tsplit_any (b:Nat)(w:World)(hb:b < 18446744073709551616) :
  Calls Tryz.prog 59 #[.float .f64 b] w fun e w'=>e=.returned (.tuple #[.bool (sg b),.int .u64 (fbSig b:Nat),.int .i64 (fbExp b)])∧w=w':=by
 obtain⟨E,hE⟩:∃E,E=b/4503599627370496%2048:=⟨_,rfl⟩
 obtain⟨F,hF⟩:∃F,F=b%4503599627370496:=⟨_,rfl⟩
 have g1:bits .and .u64 ((b:Int)/4503599627370496) 2047=(E:Int):=by
  rw [show(b:Int)/4503599627370496=((b/4503599627370496:Nat):Int) by omega,show(2047:Int)=((2047:Nat):Int)from rfl,u64_and_nat _ _ (by omega) (by omega),nat_mask11,hE]
 have g2:bits .and .u64 (b:Int) 4503599627370495=(F:Int):=by
  rw [show(4503599627370495:Int)=((4503599627370495:Nat):Int)from rfl,u64_and_nat _ _ (by omega) (by omega),hF]
  congr 1
  exact Nat.and_two_pow_sub_one_eq_mod b 52
 have hEb:E<2048:=by omega
 have hFb:F<4503599627370496:=by omega
 have g4:bits .or .u64 (F:Int) 4503599627370496=((F+4503599627370496:Nat):Int):=by
  rw [show(4503599627370496:Int)=((4503599627370496:Nat):Int)from rfl,u64_or_nat _ _ (by omega) (by omega),Nat.or_comm,show(4503599627370496:Nat)=1*2^52 by rfl,nat_join 52 _ _ (Nat.mul_mod_left _ _) (by omega)]
  omega
 obtain⟨T,hT⟩:∃T,T=b/9223372036854775808:=⟨_,rfl⟩
 have g3:(b:Int)/9223372036854775808=(T:Int):=by omega
 have hS:Hid (sg b=((T:Int)==1)):=Lib.hid (by unfold sg;rw [Bool.eq_iff_iff,beq_iff_eq,decide_eq_true_iff];omega)
 have hTb:T≤1:=by omega
 have hsig:Hid (fbSig b=if E=0 then F else F+4503599627370496):=Lib.hid (by unfold fbSig;rw [hE,hF])
 have hexp:Hid (fbExp b=(if E=0 then 0 else(E:Int)-1)-1074):=Lib.hid (by unfold fbExp;rw [hE])
 clear hE hF hT hb
 by_cases h0:E=0
 ·have d1:decide (0<E)=false:=decide_eq_false (by omega)
  have hs:=Lib.hid (hsig.out.trans (if_pos h0))
  have he:=Lib.hid (hexp.out.trans (congrArg (·-1074) (if_pos h0)))
  have HE0:=Lib.hid (show(E:Int)=0 by omega)
  clear h0
  go_enter Tryz.func59,Tryz.ntmps59
  go_wp2
  go_ret3
  rw [hS.out,hs.out,he.out,HE0.out]
  exact⟨rfl,rfl⟩
 ·have d1:decide (0<E)=true:=decide_eq_true (by omega)
  have hs:=Lib.hid (hsig.out.trans (if_neg h0))
  have he:=Lib.hid (hexp.out.trans (congrArg (·-1074) (if_neg h0)))
  clear h0
  go_enter Tryz.func59,Tryz.ntmps59
  go_wp2
  go_ret3
  rw [hS.out,hs.out,he.out]
  exact⟨rfl,rfl⟩
theorem u64_mask32 (a:Nat)(ha:a < 18446744073709551616):bits .and .u64 (a:Int) 4294967295=((a%4294967296:Nat):Int):=and_mask a _ ha rfl
theorem tmul64_any (x y:Nat)(w:World)(hx:x < 18446744073709551616)(hy:y < 18446744073709551616) :
  Calls Tryz.prog 61 #[.int .u64 (x:Int),.int .u64 (y:Int)] w fun e w'=>e=.returned (.tuple #[.int .u64 ((x*y/18446744073709551616:Nat):Int),.int .u64 ((x*y%18446744073709551616:Nat):Int)])∧w=w':=by
 obtain⟨bd,bt,bw,hhi⟩:=Lib.mul64_hi x y hx hy
 have ba:=Lib.half_mul_le (a:=x/4294967296) (b:=y/4294967296) (by omega) (by omega)
 have bb:=Lib.half_mul_le (a:=x/4294967296) (b:=y%4294967296) (by omega) (by omega)
 have bc:=Lib.half_mul_le (a:=x%4294967296) (b:=y/4294967296) (by omega) (by omega)
 have ml:=fun(a b:Nat)=>Int.natCast_mul a b
 have mx:=u64_mask32 x hx
 have my:=u64_mask32 y hy
 have dx:(x:Int)/4294967296=((x/4294967296:Nat):Int):=by omega
 have dy:(y:Int)/4294967296=((y/4294967296:Nat):Int):=by omega
 have mxy:IntKind.u64.wrap ((x:Int)*(y:Int))=((x*y%18446744073709551616:Nat):Int):=by rw [←Int.natCast_mul,IntKind.wrap_u64];omega
 obtain⟨HI,hHI⟩:∃H,H=x*y/18446744073709551616:=⟨_,rfl⟩
 obtain⟨LO,hLO⟩:∃H,H=x*y%18446744073709551616:=⟨_,rfl⟩
 rw [←hLO]at mxy
 rw [←hHI]at hhi
 rw [←hHI,←hLO]
 clear hHI hLO
 generalize x%4294967296=x0 at *
 generalize x/4294967296=x1 at *
 generalize y%4294967296=y0 at *
 generalize y/4294967296=y1 at *
 obtain⟨p00,h00⟩:∃p,p=x0*y0:=⟨_,rfl⟩
 obtain⟨p10,h10⟩:∃p,p=x1*y0:=⟨_,rfl⟩
 obtain⟨p01,h01⟩:∃p,p=x0*y1:=⟨_,rfl⟩
 obtain⟨p11,h11⟩:∃p,p=x1*y1:=⟨_,rfl⟩
 have m00:=ml x0 y0
 have m10:=ml x1 y0
 have m01:=ml x0 y1
 have m11:=ml x1 y1
 rw [←h00]at m00 bd bt bw hhi
 rw [←h10]at m10 bt bw hhi bb
 rw [←h01]at m01 bw hhi bc
 rw [←h11]at m11 hhi ba
 replace m00:=m00.symm
 replace m10:=m10.symm
 replace m01:=m01.symm
 replace m11:=m11.symm
 obtain⟨q0,hq0⟩:∃q,q=p00/4294967296:=⟨_,rfl⟩
 have e0:(p00:Int)/4294967296=(q0:Int):=by omega
 rw [←hq0]at bt bw hhi
 obtain⟨t,ht⟩:∃t,t=p10+q0:=⟨_,rfl⟩
 have e1:(p10:Int)+(q0:Int)=(t:Int):=by omega
 rw [←ht]at bt bw hhi
 have e2:=u64_mask32 t (by omega)
 have e3:(t:Int)/4294967296=((t/4294967296:Nat):Int):=by omega
 generalize t%4294967296=tl at *
 generalize t/4294967296=th at *
 obtain⟨v,hv⟩:∃v,v=tl+p01:=⟨_,rfl⟩
 have e4:(tl:Int)+(p01:Int)=(v:Int):=by omega
 rw [←hv]at bw hhi
 have e5:(v:Int)/4294967296=((v/4294967296:Nat):Int):=by omega
 generalize v/4294967296=vh at *
 obtain⟨z,hz⟩:∃z,z=p11+th:=⟨_,rfl⟩
 have e6:(p11:Int)+(th:Int)=(z:Int):=by omega
 rw [←hz]at hhi
 have e7:(z:Int)+(vh:Int)=(HI:Int):=by omega
 clear hz hv ht hq0 h00 h10 h01 h11 ml hx hy hhi
 go_enter Tryz.func61,Tryz.ntmps61
 go_wp2
 skip
 go_ret2
 exact⟨rfl,rfl⟩
end Go.Proofs.YtngdldcgkaplbaaGreat
namespace Go.Proofs.YtngdldcgkaplbaaGreat
open Nm Rn
end Go.Proofs.YtngdldcgkaplbaaGreat
namespace Go.Proofs.YtngdldcgkaplbaaGreat.Rn
open Nm
def un (neg:Bool)(V:Nat)(e:Int):Int:=sn neg V*((2^(e+2148).toNat:Nat):Int)
theorem part_un (b:Nat):un (sg b) (fbSig b) (fbExp b)=sv b*(K74:Int):=by
 unfold un
 have h:=fbExp_lo b
 obtain⟨c,hc⟩:∃c,c=1074:=⟨_,rfl⟩
 have e:(fbExp b+2148).toNat=(fbExp b+1074).toNat+c:=by omega
 have hK:((K74:Nat):Int)=((2^c:Nat):Int):=by rw [hc,K74_def]
 rw [e,←part_sv,Int.mul_assoc,hK,pow_add_]
 push_cast
 rfl
end Go.Proofs.YtngdldcgkaplbaaGreat.Rn
namespace Go.Proofs.YtngdldcgkaplbaaGreat.Rn
def Asks (T:Nat):Prop:=∃k,T=2*rv k∨T=rv k+rv (k+1)
theorem asks_dvd {T a b:Nat}(hT:Asks T)(h:9007199254740992*2^a < T*2^b):2^a ∣ T*2^b:=by
 obtain⟨k,hk⟩:=hT
 obtain⟨s,h1,h2,h3,-⟩:=rv_dvd k
 generalize k/4503599627370496-1=v at *
 have key:∀{m c:Nat},m<9007199254740992→T*2^b=m*2^c→2^a ∣ T*2^b:=by
  intro m c hm e
  rw [e]at h ⊢
  rcases Nat.lt_or_ge c a with h4|h4
  ·exfalso
   have h5:=pow_mono (Nat.le_of_lt h4)
   have:=Nat.mul_le_mul (Nat.le_of_lt hm) h5
   omega
  ·exact Nat.dvd_mul_left_of_dvd (pow_dvd h4) _
 rcases hk with hk|hk
 ·refine key (m:=s) (c:=v+1+b) h3 ?_
  rw [hk,h1,pow_add_ (v+1) b,two_pow_s]
  ac_rfl
 ·have e:T*2^b=(2*s+1)*2^(v+b):=by
   rw [hk,h1,h2,pow_add_,←Nat.mul_assoc,←Nat.add_mul]
   congr 2
   omega
  rw [e]at h ⊢
  rcases Nat.lt_or_ge (v+b) a with h4|h4
  ·exfalso
   have h5:=pow_mono (show v+b+1≤a by omega)
   rw [two_pow_s]at h5
   have:(2*s+1)*2^(v+b)≤18014398509481984*2^(v+b):=Nat.mul_le_mul_right _ (by omega)
   omega
  ·exact Nat.dvd_mul_left_of_dvd (pow_dvd h4) _
theorem between {Q a b T:Nat}(hQ:9007199254740992≤Q)(hT:Asks T)(h1:Q*2^a < T*2^b)(h2:T*2^b < (Q+1)*2^a):False:=by
 have h3:=asks_dvd (a:=a) (b:=b) hT (Nat.lt_of_le_of_lt (Nat.mul_le_mul_right _ hQ) h1)
 obtain⟨m,hm⟩:=h3
 rw [hm,Nat.mul_comm _ (2^a)]at h1 h2
 have:=Nat.lt_of_mul_lt_mul_left h1
 have:=Nat.lt_of_mul_lt_mul_left h2
 omega
end Go.Proofs.YtngdldcgkaplbaaGreat.Rn
namespace Go.Proofs.YtngdldcgkaplbaaGreat.Rn
open Nm
def oddP (b:Nat):Bool:=isNaN b||isInf b
theorem NaNc_nan:isNaN NaNc=true:=rfl
end Go.Proofs.YtngdldcgkaplbaaGreat.Rn
namespace Go.Proofs.YtngdldcgkaplbaaGreat
open Nm Rn
structure Sm where
 T:Int
 p:Bool
 m:Bool
 n:Bool
 t:Nat
def Sm.cs (S:Sm):List Value:=sc (sw S.T) S.p S.m S.n S.t
def Sm.nil:Sm:=⟨0,false,false,false,0⟩
def Sm.more (S:Sm)(k:Nat):Sm:=⟨S.T,S.p,S.m,cntN S.n S.t k,cnt S.t k⟩
def Sm.lay (S:Sm)(X:Int):Sm:=⟨S.T+X,S.p,S.m,S.n,S.t⟩
def Sm.add (S:Sm)(x:Nat):Sm:=
 if isNaN x then⟨S.T,S.p,S.m,true,cnt S.t 1⟩
 else if isInf x then(if sg x then⟨S.T,S.p,true,cntN S.n S.t 1,cnt S.t 1⟩else⟨S.T,true,S.m,cntN S.n S.t 1,cnt S.t 1⟩)
 else(S.more 1).lay (sv x*(K74:Int))
def Sm.mul (S:Sm)(x y:Nat):Sm:=if oddP x||oddP y then S.add (mulR 0 x y)else(S.more 1).lay (sv x*sv y)
def Sm.merge (S O:Sm):Sm:=⟨S.T+O.T,S.p||O.p,S.m||O.m,cntN S.n S.t O.t||O.n,cnt S.t O.t⟩
def Sm.neg (S:Sm):Sm:=⟨-S.T,S.m,S.p,S.n,S.t⟩
def Sm.state (S:Sm):Int:=stt S.p S.m S.n
theorem Sm.add_nan {S:Sm}{x y:Nat}(hx:isNaN x=true)(hy:isNaN y=true):S.add x=S.add y:=by unfold Sm.add;rw [hx,hy,if_pos rfl,if_pos rfl]
theorem Sm.add_t (S:Sm)(x:Nat):(S.add x).t=cnt S.t 1:=by
 unfold Sm.add
 split
 ·rfl
 ·split
  ·split<;>rfl
  ·rfl
theorem Sm.mul_t (S:Sm)(x y:Nat):(S.mul x y).t=cnt S.t 1:=by
 unfold Sm.mul
 split
 ·exact Sm.add_t _ _
 ·rfl
theorem sc_one (ws:List Nat)(p m n:Bool)(t:Nat):(sc ws p m n t).all Value.oneCell'=true:=by
 rw [sc,List.all_append]
 have:(u64s ws).all Value.oneCell'=true:=by
  induction ws with
  |nil=>rfl
  |cons x xs ih=>simp [u64s,Value.oneCell']
 rw [this]
 rfl
theorem spl_eq:∀(vs:List Value) (pre cs:List Value),cs.length=vs.length→spl (pre++cs) pre.length vs=pre++vs
 |[],pre,cs,h=>by
  have:cs=[]:=List.length_eq_zero_iff.1 (by simpa using h)
  rw [this];rfl
 |v::vs,pre,[],h=>by simp at h
 |v::vs,pre,c::cs,h=>by
  have e:(pre++c::cs).set pre.length v=(pre++[v])++cs:=by
   rw [List.set_append_right _ _ (Nat.le_refl _),Nat.sub_self]
   simp
  rw [spl,e,show pre.length+1=(pre++[v]).length by simp,spl_eq vs (pre++[v]) cs (by simpa using h)]
  simp
theorem spl_all {cs vs:List Value}(h:cs.length=vs.length):spl cs 0 vs=vs:=spl_eq vs [] cs h
theorem at_one (x:Nat):∃i k:Nat,fbExp x+2148=((64*i+k:Nat):Int)∧k<64∧i≤63:=by
 have h1:=fbExp_lo x
 have h2:=fbExp_hi x
 exact⟨(fbExp x+2148).toNat/64,(fbExp x+2148).toNat%64,by omega,by omega,by omega⟩
theorem at_two (x y:Nat):∃i k:Nat,fbExp x+fbExp y+2148=((64*i+k:Nat):Int)∧k<64∧i≤63:=by
 have h1:=fbExp_lo x
 have h2:=fbExp_hi x
 have h3:=fbExp_lo y
 have h4:=fbExp_hi y
 exact⟨(fbExp x+fbExp y+2148).toNat/64,(fbExp x+fbExp y+2148).toNat%64,by omega,by omega,by omega⟩
theorem lay_one {x i k:Nat}(h:fbExp x+2148=((64*i+k:Nat):Int)):sn (sg x) ((0*18446744073709551616+fbSig x)*2^(64*i+k))=sv x*(K74:Int):=by
 rw [←part_un]
 unfold un
 rw [Nat.zero_mul,Nat.zero_add,sn_mul,show(fbExp x+2148).toNat=64*i+k by omega]
theorem lay_two {x y i k:Nat}(h:fbExp x+fbExp y+2148=((64*i+k:Nat):Int)):sn (sg x != sg y) ((fbSig x*fbSig y/18446744073709551616*18446744073709551616+fbSig x*fbSig y%18446744073709551616)*2^(64*i+k))=sv x*sv y:=by
 have h1:=fbExp_lo x
 have h3:=fbExp_lo y
 rw [←part_mul,sn_mul,Nat.div_add_mod',show(fbExp x+1074).toNat+(fbExp y+1074).toNat=64*i+k by omega]
end Go.Proofs.YtngdldcgkaplbaaGreat