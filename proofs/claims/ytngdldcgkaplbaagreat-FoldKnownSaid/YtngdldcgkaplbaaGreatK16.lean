import Derived.Test.YtngdldcgkaplbaaGreatK15
import Derived.Conc.Beside
import Derived.Conc.EntryLaws
set_option linter.unusedVariables false
set_option linter.unusedSimpArgs false
namespace Go.Proofs.YtngdldcgkaplbaaGreat.Lk
open Go Go.Conc
theorem mem_seen_out {α:Type}{P:Program}{F:FuncId→Prop}{r:Map}{A:Map→α→α→Prop}{s:Sem α}{v v1:World}{a:α}{es:Array Event}(hs:SR P F r A s s)(hw:WR P F r v v)(h:s.runT P v #[]=(.ok a v1,es)) :
  ⟨.output,true,false⟩ ∉ es:=by
 have hS:=hs v v hw (fun _ _=>rfl) #[] #[]
 rw [h]at hS
 obtain⟨r1,b,w1,u,e,st,_⟩:=hS
 injection e with _ e
 subst e
 intro hm
 have:(⟨.output,true,false⟩:Event)∈u:=by simpa using hm
 rcases st.evs _ this with ⟨b,B,s,o,wr,h1,_⟩|⟨b,B,s,h1,_⟩|⟨f,h1⟩|h1<;>cases h1
def LocOut (f:World→GStep)(v:World):Prop:=∀g1 v1 es,f v=.go g1 v1 es→(∃chain,g1.frame.mode=.panicking chain) ∨
 (v.drawn≤v1.drawn∧v1.tape=v.tape∧∀T,Alike v.drawn v1.drawn T v.tape→∃es',f (tp v T)=.go g1 (tp v1 T) es')
section
variable {P:Program} {fb:FB} {F G:FuncId→Prop} {kg k':List Item} {D':List Deferred} {K':CallKind} {base':List Frame} {r r1:Map} {main:Bool}
variable {v w:World} {a:List Item} {b:List Item} {c:List Deferred} {d:CallKind} {cs cs':List Frame}
theorem loc_ctl {f:World→GStep}{g1:Goroutine}(h:∀ v,f v=.go g1 v):LocOut f v:=by
 intro g v1 es e
 rw [h]at e
 injection e with e1 e2 e3
 subst e1 e2
 exact .inr ⟨Nat.le_refl _,rfl,fun T _=>⟨_,h _⟩⟩
theorem loc_end {f:World→GStep}(h:∃ o w' es,f v=.ended o w' es):LocOut f v:=by
 obtain⟨o,w',es,h⟩:=h
 intro g v1 es' e
 rw [h]at e
 cases e
theorem loc_apply (hw:WR P F r v v){s:Sem Next}(hs:SR P F r (fun r1 a b=>NR F G r1 a b) s s){b0:Frame}{a0:Act}{ops:Array Oper}{i:Nat}{rest:List Nat}{k:List Item} :
  LocOut (fun v=>stepG.apply P true (b0.at a0 (.inRegion ops (i::rest)::k)) cs none s v) v:=by
 have hS:=hs v v hw (fun _ _=>rfl) #[] #[]
 have t1:(b0.at a0 (.inRegion ops (i::rest)::k)).todo=.inRegion ops (i::rest)::k:=rfl
 intro g v1 es e
 dsimp only at e
 cases hr:s.runT P v #[]with
 |mk res es0=>
  cases res with
  |halt x w1=>
   rw [hr]at hS
   dsimp only at hS
   cases x with
   |panic x=>
    simp only [stepG.apply,hr,if_true,GStep.after,Frame.raise_at]at e
    injection e with e1 e2 e3
    subst e1
    exact .inl ⟨_,rfl⟩
   |stuck x=>simp only [stepG.apply,hr,if_true,GStep.after]at e;cases e
   |unsupported u=>
    cases u with
    |initOrder g=>exact hS.elim
    |_=>simp only [stepG.apply,hr,if_true,GStep.after]at e;cases e
   |_=>exact hS.elim
  |ok n w1=>
   have no:=mem_seen_out hs hw hr
   have hl:=run_local (P:=P) s v #[]
   rw [hr]at hl
   obtain⟨l1,l2,l3⟩:=hl no
   have l1:v.drawn≤w1.drawn:=l1
   have l2:w1.tape=v.tape:=l2
   have l3:∀T,Alike v.drawn w1.drawn T v.tape→s.runT P (tp v T) #[]=(.ok n (tp w1 T),es0):=l3
   rw [hr]at hS
   obtain⟨r1,n',w1',u,e',st,nr⟩:=hS
   cases nr with
   |value hx=>
    simp only [stepG.apply,hr,if_true,GStep.after]at e
    injection e with e1 e2 e3
    subst e1 e2
    refine .inr ⟨l1,l2,fun T h=>?_⟩
    simp only [stepG.apply,l3 T h,if_true,GStep.after]
    exact⟨_,rfl⟩
   |skip=>
    simp only [stepG.apply,hr,if_true,GStep.after]at e
    injection e with e1 e2 e3
    subst e1 e2
    refine .inr ⟨l1,l2,fun T h=>?_⟩
    simp only [stepG.apply,l3 T h,if_true,GStep.after]
    exact⟨_,rfl⟩
   |enter hf hx=>
    simp only [stepG.apply,hr,if_true,GStep.after,t1]at e
    injection e with e1 e2 e3
    subst e1 e2
    refine .inr ⟨l1,l2,fun T h=>?_⟩
    simp only [stepG.apply,l3 T h,if_true,GStep.after,t1]
    exact⟨_,rfl⟩
theorem loc_ret (hw:WR P F r v v){fn:FuncId}{tmps:Array Value}(todo:List Item)(hv:VA F r tmps tmps)(fs:List Frame)(hne:fs≠[]):LocOut (fun v=>stepG P true (Go.Conc.G (mk fn .normal tmps [] todo true) fs) v) v:=by
 have u1:∀(v:World),stepG P true (Go.Conc.G (mk fn .normal tmps [] todo true) fs) v=match P.funcs[fn]? with
   |none=>doReturn P true (mk fn .normal tmps [] todo true) fs none (tmps.getD 0 undef) v
   |some f=>GStep.after (seen P fn ((results f tmps).runT P v #[]).2) (match ((results f tmps).runT P v #[]).1 with
    | .ok x v1=>doReturn P true (mk fn .normal tmps [] todo true) fs none x v1
    | .halt (.stuck s) w=>.ended (.stuck s ((mk fn .normal tmps [] todo true).pos P)) w
    | .halt _ w => .ended (.stuck "return: the result variables cannot be read" ((mk fn .normal tmps [] todo true).pos P)) w) := fun v => rfl
 cases fs with
 |nil=>exact absurd rfl hne
 |cons c0 fs=>
  have dr:∀x v,doReturn P true (mk fn .normal tmps [] todo true) (c0::fs) none x v=.go (Go.Conc.G (c0.finish x) fs) v:=fun x v=>rfl
  cases hf:P.funcs[fn]? with
  |none=>exact loc_ctl fun v=>by rw [u1,hf];exact dr _ _
  |some f=>
   have u2:∀v,stepG P true (Go.Conc.G (mk fn .normal tmps [] todo true) (c0::fs)) v=GStep.after (seen P fn ((results f tmps).runT P v #[]).2) (match ((results f tmps).runT P v #[]).1 with
    | .ok x v1=>doReturn P true (mk fn .normal tmps [] todo true) (c0::fs) none x v1
    | .halt (.stuck s) w=>.ended (.stuck s ((mk fn .normal tmps [] todo true).pos P)) w
    | .halt _ w => .ended (.stuck "return: the result variables cannot be read" ((mk fn .normal tmps [] todo true).pos P)) w) := fun v => by rw [u1, hf]
   have hs:=results_like (P:=P) (F:=F) f hv
   intro g v1 es e
   dsimp only at e
   rw [u2]at e
   cases hr:(results f tmps).runT P v #[]with
   |mk res es0=>
    rw [hr]at e
    cases res with
    |halt x w1=>
     dsimp only at e
     cases x<;>cases e
    |ok x w1=>
     have no:=mem_seen_out hs hw hr
     have hl:=run_local (P:=P) (results f tmps) v #[]
     rw [hr]at hl
     obtain⟨l1,l2,l3⟩:=hl no
     have l1:v.drawn≤w1.drawn:=l1
     have l2:w1.tape=v.tape:=l2
     have l3:∀T,Alike v.drawn w1.drawn T v.tape→(results f tmps).runT P (tp v T) #[]=(.ok x (tp w1 T),es0):=l3
     dsimp only at e
     rw [dr]at e
     simp only [GStep.after]at e
     injection e with e1 e2 e3
     subst e1 e2
     refine .inr ⟨l1,l2,fun T h=>?_⟩
     dsimp only
     rw [u2,l3 T h]
     dsimp only
     rw [dr]
     exact⟨_,rfl⟩
theorem Tl.ne (h:Tl P fb F kg k' D' K' base' r a b c d cs cs'):cs≠[]:=by
 cases h with
 |bot=>simp
 |up k=>cases k<;>simp
theorem loc_step (hFb:∀ f,fb.val f=true→F f)(hF:∀ f,F f∨fb.call f=true→FnOk P F G f)(hkg:Plain kg)(hw:WR P F r v v){fr fr':Frame}
  (h:SkR P fb F kg k' D' K' base' r fr cs fr' cs') (he:fr'.tmps=fr.tmps) (hs:¬AtStop P kg fr cs):LocOut (fun v=>stepG P true (Go.Conc.G fr cs) v) v:=by
 obtain⟨a,b,c,d,hT,hfr⟩:=h
 have hpl:=hT.plain hkg
 cases hfr with
 | @mk fn tmps tmps' pre ret hv hp=>
  have et:tmps'=tmps:=by cases ret<;>exact he
  subst et
  cases ret with
  |true=>exact loc_ret hw _ hv _ hT.ne
  |false=>
   have run:∀(K:CallKind) (tmps:Array Value) (D:List Deferred) (todo:List Item),mk fn K tmps D todo false=(bs fn K).at ⟨tmps,D⟩ todo:=fun _ _ _ _=>rfl
   cases pre with
   |nil=>
    cases hT with
    |bot=>
     by_cases hk:kg=[]
     ·subst hk
      rw [run]
      exact loc_ctl fun v=>stepG_end
     ·exact absurd ⟨rfl,.inr ⟨hk,rfl,rfl⟩⟩ hs
    |up k=>
     rw [run]
     exact loc_ctl fun v=>stepG_end
   |cons x pre=>
    simp only [List.all_cons,Bool.and_eq_true]at hp
    obtain⟨hx,hp⟩:=hp
    rw [run,List.cons_append]
    cases x with
    |inBlock id=>exact loc_ctl fun v=>stepG_inBlock
    |inLoop z=>exact loc_ctl fun v=>stepG_inLoop
    |inScope z=>exact loc_ctl fun v=>stepG_inScope
    |inRegion ops l=>
     cases l with
     |nil=>exact loc_ctl fun v=>stepG_region_end
     |cons i rest=>
      cases ho:ops[i]? with
      |none=>exact loc_ctl fun v=>stepG_lost ho
      |some o=>
       cases hwt:Region.wanted o (yielded ops tmps')with
       |false=>exact loc_ctl fun v=>stepG_unwanted ho hwt
       |true=>
        have hn:niceOp P fb o=true:=Array.all_eq_true'.1 hx o (Array.mem_of_getElem? ho)
        have:=loc_apply (cs:=cs) hw (execOp_like (G:=G) o hn hFb hF (fun f=>⟨rfl,rfl⟩) fun z hz=>eval_like (D:=[]) (D':=[]) hFb hv z hz) (b0:=bs fn .normal) (a0:=⟨tmps',[]⟩) (ops:=ops) (i:=i) (rest:=rest) (k:=pre++a)
        intro g1 v1 es e
        dsimp only at e
        rw [stepG_oper ho hwt]at e
        rcases this g1 v1 es e with h1|⟨h1,h2,h3⟩
        ·exact .inl h1
        ·refine .inr ⟨h1,h2,fun T h=>?_⟩
         obtain⟨es',h4⟩:=h3 T h
         exact⟨es',by dsimp only;rw [stepG_oper ho hwt];exact h4⟩
    |code z=>
     cases z with
     |skip=>exact loc_ctl fun v=>stepG_skip
     |label l=>exact loc_ctl fun v=>stepG_label
     |ret=>exact loc_ctl fun v=>stepG_ret'
     |seq y z=>exact loc_ctl fun v=>stepG_seq
     |cond o y z=>
      cases e1:(⟨tmps',[]⟩:Act).eval o with
      |bool t=>exact loc_ctl fun v=>stepG_cond e1
      |_=>
       refine loc_end ?_
       obtain⟨o1,es1,e3⟩:=stepG_cond_bad (P:=P) (main:=true) (b:=bs fn .normal) (a:=⟨tmps',[]⟩) (k:=pre++a) (cs:=cs) (w:=v) (c:=o) (x:=y) (y:=z) (fun t e=>by rw [e1]at e;cases e)
       exact⟨_,_,_,e3⟩
     |block id y=>exact loc_ctl fun v=>stepG_block
     |loop y=>exact loc_ctl fun v=>stepG_loop
     |scope y=>exact loc_ctl fun v=>stepG_scope
     |exit id=>
      cases e:exitTo id pre with
      |some p=>
       have ee:∀k,exitTo id (pre++k)=some (p++k):=fun k=>by rw [exitTo_app,e]
       exact loc_ctl fun v=>stepG_exit (ee a)
      |none=>
       obtain⟨o1,es1,e3⟩:=stepG_exit_bad (P:=P) (main:=true) (b:=bs fn .normal) (a:=⟨tmps',[]⟩) (k:=pre++a) (cs:=cs) (w:=v) (id:=id) (by rw [exitTo_app,e];exact hpl.1 id)
       exact loc_end ⟨_,_,_,e3⟩
     |goto id=>
      cases e:gotoIn id pre with
      |some p=>
       have ee:∀k,gotoIn id (pre++k)=some (p++k):=fun k=>by rw [gotoIn_app,e]
       exact loc_ctl fun v=>stepG_goto (ee a)
      |none=>
       obtain⟨o1,es1,e3⟩:=stepG_goto_bad (P:=P) (main:=true) (b:=bs fn .normal) (a:=⟨tmps',[]⟩) (k:=pre++a) (cs:=cs) (w:=v) (id:=id) (by rw [gotoIn_app,e];exact hpl.2 id)
       exact loc_end ⟨_,_,_,e3⟩
     |region id ops draw=>
      cases draw with
      |false=>exact loc_ctl fun v=>stepG_region
      |true=>
       intro g1 v1 es e
       dsimp only at e
       rw [stepG_region_draw]at e
       injection e with e1 e2 e3
       subst e1 e2
       refine .inr ⟨Nat.le_succ _,rfl,fun T h=>⟨#[],?_⟩⟩
       dsimp only
       rw [stepG_region_draw]
       have:=h v.drawn (.order (bs fn .normal).fn id) (Nat.le_refl _) (Nat.lt_succ_self _)
       show GStep.go (Go.Conc.G ((bs fn .normal).at ⟨tmps',[]⟩ (.inRegion ops (Region.schedule (P.follows .mixedOrders) ops (T v.drawn (.order (bs fn .normal).fn id)))::(pre++a))) cs) _ _=_
       rw [this]
       rfl
     |_=>cases hx
    |_=>cases hx
theorem bad_ends:∀(cs:List Frame) (fr:Frame) (v:World) (n:Nat),Bad P (fr::cs)→∀m,runN P n (lone fr cs v)=.next m→∃fr' cs' v',m=lone fr' cs' v'∧Bad P (fr'::cs'):=by
 intro cs
 induction cs with
 |nil=>
  intro fr v n hb m h
  cases n with
  |zero=>injection h with h;exact⟨_,_,_,h.symm,hb⟩
  |succ n=>
   obtain⟨h1,⟨fr1,rest,chain,e,hm⟩,l,h2,h3⟩:=hb
   injection e with e1 e2
   subst e1 e2
   have h2':fr=l:=by injection h2
   subst h2'
   have hd:fr.defers=[]:=h1 fr (List.mem_cons_self ..)
   have:step P (lone fr [] v)=.ended _ _:=step_lone_ended (by simp only [stepG,hm,unwind,hd,h3,if_true];rfl)
   rw [runN,this]at h
   cases h
 |cons c0 cs ih=>
  intro fr v n hb m h
  cases n with
  |zero=>injection h with h;exact⟨_,_,_,h.symm,hb⟩
  |succ n=>
   obtain⟨h1,⟨fr1,rest,chain,e,hm⟩,l,h2,h3⟩:=hb
   injection e with e1 e2
   subst e1 e2
   have hd:fr.defers=[]:=h1 fr (List.mem_cons_self ..)
   by_cases hc:fr.catches P=true
   ·have:step P (lone fr (c0::cs) v)=.ended _ _:=step_lone_ended (by simp only [stepG,hm,unwind,hd,hc,if_true];rfl)
    rw [runN,this]at h
    cases h
   ·have:step P (lone fr (c0::cs) v)=.next (lone (c0.raise chain) cs v):=step_lone_go (by simp only [stepG,hm,unwind,hd,hc];rfl)
    rw [runN,this]at h
    refine ih (c0.raise chain) v n ?_ m h
    have hr:∀q:Frame,(q.raise chain).defers=q.defers∧(q.raise chain).fn=q.fn∧(q.raise chain).todo=q.todo∧∃ch,(q.raise chain).mode=.panicking ch:=by
     intro q
     unfold Frame.raise
     split<;>exact⟨rfl,rfl,rfl,_,rfl⟩
    obtain⟨r1,r2,r3,ch,r4⟩:=hr c0
    have hc0:(c0.raise chain).catches P=c0.catches P:=by unfold Frame.catches;rw [r2,r3]
    rw [List.getLast?_cons_cons]at h2
    refine⟨fun c hc=>?_,⟨_,_,_,rfl,r4⟩,?_⟩
    ·rcases List.mem_cons.1 hc with rfl|hc
     ·rw [r1];exact h1 c0 (by simp)
     ·exact h1 c (by simp [hc])
    ·cases cs with
     |nil=>
      injection h2 with h2
      subst h2
      exact⟨_,rfl,hc0.trans h3⟩
     |cons c1 cs=>
      rw [List.getLast?_cons_cons]at h2 ⊢
      exact⟨l,h2,h3⟩
end
inductive Tr (P:Program)(S:Frame→List Frame→World→Prop):Frame→List Frame→World→Prop
 |stop {fr:Frame} {cs:List Frame} {v:World} (h:S fr cs v):Tr P S fr cs v
 |step {fr:Frame} {cs:List Frame} {v:World} (f:Tape→Frame) (c:Tape→List Frame) (x:Tape→World)
   (h:∀T,Alike 0 v.drawn T v.tape→∃es,stepG P true (Go.Conc.G fr cs) (tp v T)=.go (Go.Conc.G (f T) (c T)) (x T) es)
   (k:∀T,Alike 0 v.drawn T v.tape→Tr P S (f T) (c T) (x T)):Tr P S fr cs v
def Kg (kg : List Item) : Prop := kg = [] ∨ kg = [.code (.refuse "")]
theorem Kg.plain {kg:List Item}(h:Kg kg):Plain kg:=by
 rcases h with rfl|rfl<;>exact⟨fun _=>rfl,fun _=>rfl⟩
section
variable {P:Program} {fb:FB} {F G:FuncId→Prop} {kg:List Item} {r:Map} {S:Frame→List Frame→World→Prop}
theorem no_way (hkg:Kg kg){fr fr':Frame}{cs cs':List Frame}{k':List Item}{D':List Deferred}{K':CallKind}{base':List Frame}(h:SkR P fb F kg k' D' K' base' r fr cs fr' cs')(hs:AtStop P kg fr cs)(v:World)(n:Nat)(fr2:Frame)(cs2:List Frame)(v2:World)
  (hr:runN P (n+1) (lone fr cs v)=.next (lone fr2 cs2 v2)):¬AtStop P kg fr2 cs2:=by
 obtain⟨hc,hs⟩:=hs
 subst hc
 have e0 : Extern.next "fmt's door of none" = none := by decide +kernel
 obtain⟨a,b,c,d,hT,hfr⟩:=h
 cases hfr with
 | @mk fn tmps tmps' pre ret hv hp=>
  rw [runN]at hr
  have back:∀(x:Value) (v1:World),step P (lone (mk fn .normal tmps [] (pre++a) ret) [catcher P] v)=.next (lone ((catcher P).finish x) [] v1)→¬AtStop P kg fr2 cs2:=by
   intro x v1 e
   rw [e]at hr
   cases n with
   |zero=>
    intro h2
    injection hr with hr
    have:(lone ((catcher P).finish x) [] v1).gs=(lone fr2 cs2 v2).gs:=by rw [hr]
    injection this with this
    injection this with this _
    injection this with _ this
    rw [h2.1]at this
    cases this
   |succ n=>
    have:step P (lone ((catcher P).finish x) [] v1)=.ended _ _:=step_lone_ended (by simp only [catcher,Frame.finish,stepG,stepG.exec,e0];rfl)
    dsimp only at hr
    rw [runN,this]at hr
    cases hr
  have dead:∀o w1,step P (lone (mk fn .normal tmps [] (pre++a) ret) [catcher P] v)=.ended o w1→¬AtStop P kg fr2 cs2:=by
   intro o w1 e
   rw [e]at hr
   cases hr
  cases ret with
  |true=>
   have u1:stepG P true (Go.Conc.G (mk fn .normal tmps [] (pre++a) true) [catcher P]) v=match P.funcs[fn]? with
    |none=>doReturn P true (mk fn .normal tmps [] (pre++a) true) [catcher P] none (tmps.getD 0 undef) v
    |some f=>GStep.after (seen P fn ((results f tmps).runT P v #[]).2) (match ((results f tmps).runT P v #[]).1 with
     | .ok x v1=>doReturn P true (mk fn .normal tmps [] (pre++a) true) [catcher P] none x v1
     | .halt (.stuck s) w=>.ended (.stuck s ((mk fn .normal tmps [] (pre++a) true).pos P)) w
     | .halt _ w => .ended (.stuck "return: the result variables cannot be read" ((mk fn .normal tmps [] (pre ++ a) true).pos P)) w) := rfl
   have dr:∀x v,doReturn P true (mk fn .normal tmps [] (pre++a) true) [catcher P] none x v=.go (Go.Conc.G ((catcher P).finish x) []) v:=fun x v=>rfl
   cases hf:P.funcs[fn]? with
   |none=>
    rw [hf]at u1
    exact back _ _ (step_lone_go (by show(stepG P true (Go.Conc.G _ _) v).bare=_;rw [u1];rfl))
   |some f=>
    rw [hf]at u1
    dsimp only at u1
    cases e:(results f tmps).runT P v #[]with
    |mk res es=>
     rw [e]at u1
     cases res with
     |ok x v1=>exact back _ _ (step_lone_go (by show(stepG P true (Go.Conc.G _ _) v).bare=_;rw [u1];rfl))
     |halt x v1=>cases x<;>exact dead _ _ (step_lone_ended (by show(stepG P true (Go.Conc.G _ _) v).bare=_;rw [u1];rfl))
  |false=>
   rcases hs with hs|⟨hk,_,hs⟩
   ·cases hs
   ·rcases hkg with h0|h0
    ·exact absurd h0 hk
    ·have e1 : mk fn .normal tmps [] (pre ++ a) false = (bs fn .normal).at ⟨tmps, []⟩ [.code (.refuse "")] := by
      have : pre ++ a = [.code (.refuse "")] := by rw [← h0]; exact hs
      rw [this];rfl
     obtain⟨o,w1,e2⟩:∃o w1,(stepG P true (Go.Conc.G (mk fn .normal tmps [] (pre++a) false) [catcher P]) v).bare=.ended o w1:=by
      rw [e1]
      exact⟨_,_,rfl⟩
     exact dead o w1 (step_lone_ended e2)
def Inv (P:Program)(fb:FB)(F:FuncId→Prop)(kg:List Item)(x:Frame×List Frame×World):Prop:=∃r,SkR P fb F kg kg [] .normal [catcher P] r x.1 x.2.1 x.1 x.2.1∧WR P F r x.2.2 x.2.2
theorem WR.tp' {v w:World}(h:WR P F r v w)(T U:Tape):WR P F r (tp v T) (tp w U):=h.of_heap rfl rfl
theorem SkR.calm {k':List Item}{D':List Deferred}{K':CallKind}{base':List Frame}{fr fr':Frame}{cs cs':List Frame}(h:SkR P fb F kg k' D' K' base' r fr cs fr' cs')(chain:List PanicEntry):fr.mode≠.panicking chain:=by
 obtain⟨a,b,c,d,hT,hfr⟩:=h
 cases hfr with
 | @mk fn tmps tmps' pre ret hv hp=>cases ret<;>intro h<;>cases h
theorem inv_step (hFb:∀ f,fb.val f=true→F f)(hF:∀ f,F f∨fb.call f=true→FnOk P F G f)(hG:Fine P fb G)(hkg:Kg kg){fr:Frame}{cs:List Frame}{v:World}(h:Inv P fb F kg (fr,cs,v))(hs:¬ AtStop P kg fr cs)(T:Tape) :
  (∃o w es,stepG P true (Go.Conc.G fr cs) (tp v T)=.ended o w es) ∨
  (∃fr1 cs1 v1 es,stepG P true (Go.Conc.G fr cs) (tp v T)=.go (Go.Conc.G fr1 cs1) v1 es∧Bad P (fr1::cs1)) ∨
  ∃fr1 cs1 v1 es,stepG P true (Go.Conc.G fr cs) (tp v T)=.go (Go.Conc.G fr1 cs1) v1 es∧Inv P fb F kg (fr1,cs1,v1)∧v.drawn≤v1.drawn∧v1.tape=T ∧
   ∀U,Alike v.drawn v1.drawn U T→∃es',stepG P true (Go.Conc.G fr cs) (tp v U)=.go (Go.Conc.G fr1 cs1) (tp v1 U) es':=by
 obtain⟨r,h1,h2⟩:=h
 have hw:=h2.tp' T T
 have ho:=sim_step (main:=true) hFb hF hG (by simp) hkg.plain (fun h=>h) hw (fun _ _=>rfl) h1 hs
 have hl:=loc_step hFb hF hkg.plain hw h1 rfl hs
 generalize hg:stepG P true (Go.Conc.G fr cs) (tp v T)=g at ho
 cases g with
 |ended o w es=>exact .inl ⟨_,_,_,rfl⟩
 |go g1 v1 es=>
  rcases ho with ⟨fr1,cs1,r1,fr1',cs1',w1,es',rfl,e2,hk,hst⟩|⟨fr1,cs1,rfl,hb⟩
  ·dsimp only at e2
   rw [hg]at e2
   injection e2 with e3 e4 e5
   injection e3 with e6 e7
   subst e6 e7 e4
   rcases hl _ _ _ hg with ⟨chain,hc⟩|⟨l1,l2,l3⟩
   ·exact absurd hc (hk.calm chain)
   ·exact .inr (.inr ⟨_,_,_,_,rfl,⟨r1,hk,hst.wr⟩,l1,l2,fun U hU=>l3 U hU⟩)
  ·exact .inr (.inl ⟨_,_,_,_,rfl,hb⟩)
 |_=>exact ho.elim
theorem bar (hFb:∀ f,fb.val f=true→F f)(hF:∀ f,F f∨fb.call f=true→FnOk P F G f)(hG:Fine P fb G)(hkg:Kg kg)
  (hS:∀fr cs v,S fr cs v→AtStop P kg fr cs) (hT:∀fr cs v T,S fr cs v→S fr cs (tp v T)) {fr:Frame} {cs:List Frame} {v:World} (hi:Inv P fb F kg (fr,cs,v))
  (hit:∀T,Alike 0 v.drawn T v.tape→∃n fr1 cs1 v1,runN P n (lone fr cs (tp v T))=.next (lone fr1 cs1 v1)∧S fr1 cs1 v1):Tr P S fr cs v:=by
 refine Classical.byContradiction fun hno=>?_
 let nx:Frame×List Frame×World→Tape→Frame×List Frame×World:=fun x T=>match stepG P true (Go.Conc.G x.1 x.2.1) (tp x.2.2 T)with
  | .go g v1 _=>(g.frame,g.callers,v1)
  |_=>x
 let tr:Frame×List Frame×World→Prop:=fun x=>Tr P S x.1 x.2.1 x.2.2
 have away:∀x,¬tr x→∃T,Alike 0 x.2.2.drawn T x.2.2.tape∧∀es,stepG P true (Go.Conc.G x.1 x.2.1) (tp x.2.2 T)=.go (Go.Conc.G (nx x T).1 (nx x T).2.1) (nx x T).2.2 es→¬tr (nx x T):=by
  intro x hx
  refine Classical.byContradiction fun h=>hx ?_
  have h':∀T,Alike 0 x.2.2.drawn T x.2.2.tape→∃es,stepG P true (Go.Conc.G x.1 x.2.1) (tp x.2.2 T)=.go (Go.Conc.G (nx x T).1 (nx x T).2.1) (nx x T).2.2 es∧tr (nx x T):=by
   intro T hT
   refine Classical.byContradiction fun h2=>h ⟨T,hT,fun es e ht=>h2 ⟨es,e,ht⟩⟩
  exact .step (fun T=>(nx x T).1) (fun T=>(nx x T).2.1) (fun T=>(nx x T).2.2) (fun T hT=>⟨_,(h' T hT).choose_spec.1⟩) (fun T hT=>(h' T hT).choose_spec.2)
 let tof:Frame×List Frame×World→Tape:=fun x=>Classical.epsilon fun T=>Alike 0 x.2.2.drawn T x.2.2.tape∧∀es,stepG P true (Go.Conc.G x.1 x.2.1) (tp x.2.2 T)=.go (Go.Conc.G (nx x T).1 (nx x T).2.1) (nx x T).2.2 es→¬tr (nx x T)
 have tofs:∀x,¬tr x→Alike 0 x.2.2.drawn (tof x) x.2.2.tape∧∀es,stepG P true (Go.Conc.G x.1 x.2.1) (tp x.2.2 (tof x))=.go (Go.Conc.G (nx x (tof x)).1 (nx x (tof x)).2.1) (nx x (tof x)).2.2 es→¬tr (nx x (tof x)):=
  fun x hx=>Classical.epsilon_spec (away x hx)
 let p:Nat→Frame×List Frame×World:=fun k=>Nat.rec (fr,cs,v) (fun _ x=>nx x (tof x)) k
 have p0:p 0=(fr,cs,v):=rfl
 have ps:∀k,p (k+1)=nx (p k) (tof (p k)):=fun k=>rfl
 clear_value p
 let good:Nat→Prop:=fun k=>¬AtStop P kg (p k).1 (p k).2.1∧(p k).2.2.drawn≤(p (k+1)).2.2.drawn∧(p (k+1)).2.2.tape=tof (p k)∧Inv P fb F kg (p (k+1))∧¬tr (p (k+1)) ∧
  ∀U,Alike (p k).2.2.drawn (p (k+1)).2.2.drawn U (tof (p k))→∃es',stepG P true (Go.Conc.G (p k).1 (p k).2.1) (tp (p k).2.2 U)=.go (Go.Conc.G (p (k+1)).1 (p (k+1)).2.1) (tp (p (k+1)).2.2 U) es'
 have base:∀k,(∀j,j<k→good j)→¬tr (p k)∧Inv P fb F kg (p k):=by
  intro k h
  cases k with
  |zero=>rw [p0];exact⟨hno,hi⟩
  |succ k=>exact⟨(h k (Nat.lt_succ_self k)).2.2.2.2.1,(h k (Nat.lt_succ_self k)).2.2.2.1⟩
 have mono:∀k,(∀j,j<k→good j)→∀j,j≤k→(p j).2.2.drawn≤(p k).2.2.drawn∧Alike 0 (p j).2.2.drawn (p k).2.2.tape (p j).2.2.tape:=by
  intro k
  induction k with
  |zero=>intro h j hj;obtain rfl:j=0:=(by omega);exact⟨Nat.le_refl _,fun _ _ _ _=>rfl⟩
  |succ k ih=>
   intro h j hj
   by_cases e:j=k+1
   ·subst e;exact⟨Nat.le_refl _,fun _ _ _ _=>rfl⟩
   ·have hk:=h k (Nat.lt_succ_self k)
    obtain⟨i1,i2⟩:=ih (fun i hi=>h i (by omega)) j (by omega)
    refine⟨Nat.le_trans i1 hk.2.1,fun i q hi hi2=>?_⟩
    rw [hk.2.2.1]
    rw [(tofs (p k) (base k fun i hi=>h i (by omega)).1).1 i q hi (Nat.lt_of_lt_of_le hi2 i1)]
    exact i2 i q hi hi2
 have along:∀(U:Tape) (k:Nat),(∀j,j<k→good j)→(∀j,j<k→Alike (p j).2.2.drawn (p (j+1)).2.2.drawn U (p (j+1)).2.2.tape)→∀n,k≤n→runN P n (lone fr cs (tp v U))=runN P (n-k) (lone (p k).1 (p k).2.1 (tp (p k).2.2 U)):=by
  intro U k
  induction k with
  |zero=>intro _ _ n _;rw [p0];rfl
  |succ k ih=>
   intro h hU n hn
   rw [ih (fun j hj=>h j (by omega)) (fun j hj=>hU j (by omega)) n (by omega)]
   have hk:=h k (Nat.lt_succ_self k)
   obtain⟨es',e⟩:=hk.2.2.2.2.2 U (by rw [←hk.2.2.1];exact hU k (Nat.lt_succ_self k))
   have:n-k=(n-(k+1))+1:=by omega
   rw [this,runN]
   have st:step P (lone (p k).1 (p k).2.1 (tp (p k).2.2 U))=.next (lone (p (k+1)).1 (p (k+1)).2.1 (tp (p (k+1)).2.2 U)):=step_lone_go (by show(stepG P true (Go.Conc.G _ _) _).bare=_;rw [e];rfl)
   rw [st]
 have early:∀(U:Tape) (k n:Nat),n<k→(∀j,j<k→good j)→(∀j,j<k→Alike (p j).2.2.drawn (p (j+1)).2.2.drawn U (p (j+1)).2.2.tape)→∀fr1 cs1 v1,runN P n (lone fr cs (tp v U))=.next (lone fr1 cs1 v1)→¬S fr1 cs1 v1:=by
  intro U k n hn h hU fr1 cs1 v1 hr hs
  rw [along U n (fun j hj=>h j (by omega)) (fun j hj=>hU j (by omega)) n (Nat.le_refl _),Nat.sub_self]at hr
  injection hr with hr
  have e1:=congrArg Machine.gs hr
  have e2:=congrArg Machine.world hr
  injection e1 with e1
  injection e1 with e1 _
  injection e1 with e3 e4
  have e2:tp (p n).2.2 U=v1:=e2
  subst e3 e4 e2
  exact(h n hn).1 (hS _ _ _ hs)
 by_cases hall:∀k,good k
 ·let U:Tape:=fun i q=>open Classical in if h:∃k,i<(p k).2.2.drawn then(p h.choose).2.2.tape i q else v.tape i q
  have uk:∀k,Alike 0 (p k).2.2.drawn U (p k).2.2.tape:=by
   intro k i q _ hi
   have h:∃k,i<(p k).2.2.drawn:=⟨k,hi⟩
   show(open Classical in if h:∃k,i<(p k).2.2.drawn then(p h.choose).2.2.tape i q else v.tape i q)=_
   rw [dif_pos h]
   have hc:=h.choose_spec
   generalize h.choose=m at hc
   rcases Nat.le_total k m with hkm|hkm
   ·exact(mono m (fun j _=>hall j) k hkm).2 i q (Nat.zero_le _) hi
   ·exact((mono k (fun j _=>hall j) m hkm).2 i q (Nat.zero_le _) hc).symm
  obtain⟨n,fr1,cs1,v1,h1,h2⟩:=hit U (by have:=uk 0;rw [p0]at this;exact this)
  exact early U (n+1) n (by omega) (fun j _=>hall j) (fun j _ i q _ hi=>uk (j+1) i q (Nat.zero_le _) hi) fr1 cs1 v1 h1 h2
 ·-- the first step that is not good
  obtain⟨k,hk,hlt⟩:∃k,¬good k∧∀j,j<k→good j:=by
   obtain⟨k,hk⟩:=Classical.not_forall.1 hall
   induction k using Nat.strongRecOn with
   |_ k ih=>
    by_cases h:∀j,j<k→good j
    ·exact⟨k,hk,h⟩
    ·obtain⟨j,hj⟩:=Classical.not_forall.1 h
     obtain⟨hj1,hj2⟩:=Classical.not_imp.1 hj
     exact ih j hj1 hj2
  obtain⟨bt,bi⟩:=base k hlt
  obtain⟨t1,t2⟩:=tofs (p k) bt
  have uk:∀j,j≤k→Alike 0 (p j).2.2.drawn (tof (p k)) (p j).2.2.tape:=fun j hj i q h0 hi=>by
   obtain⟨m1,m2⟩:=mono k hlt j hj
   rw [t1 i q h0 (Nat.lt_of_lt_of_le hi m1)]
   exact m2 i q h0 hi
  obtain⟨n,fr1,cs1,v1,h1,h2⟩:=hit (tof (p k)) (by have:=uk 0 (Nat.zero_le _);rw [p0]at this;exact this)
  have hU:∀j,j<k→Alike (p j).2.2.drawn (p (j+1)).2.2.drawn (tof (p k)) (p (j+1)).2.2.tape:=fun j hj i q _ hi=>uk (j+1) hj i q (Nat.zero_le _) hi
  by_cases hn:n<k
  ·exact early _ k n hn hlt hU fr1 cs1 v1 h1 h2
  ·rw [along _ k hlt hU n (by omega)]at h1
   obtain⟨r,k1,k2⟩:=bi
   generalize hm:n-k=m at h1
   have here:m=0→S (p k).1 (p k).2.1 (p k).2.2:=by
    intro hm0
    subst hm0
    injection h1 with h1
    have e1:=congrArg Machine.gs h1
    have e2:=congrArg Machine.world h1
    injection e1 with e1
    injection e1 with e1 _
    injection e1 with e3 e4
    have e2:tp (p k).2.2 (tof (p k))=v1:=e2
    rw [e3,e4]
    have:=hT _ _ _ (p k).2.2.tape h2
    rw [←e2]at this
    exact this
   have hm0:m≠0:=fun h=>bt (.stop (here h))
   obtain⟨m,rfl⟩:∃m',m=m'+1:=⟨m-1,by omega⟩
   by_cases ha:AtStop P kg (p k).1 (p k).2.1
   ·exact no_way hkg k1 ha _ m fr1 cs1 v1 h1 (hS _ _ _ h2)
   ·rcases inv_step hFb hF hG hkg (fr:=(p k).1) (cs:=(p k).2.1) (v:=(p k).2.2) ⟨r,k1,k2⟩ ha (tof (p k))with ⟨o,w1,es,e⟩|⟨fr2,cs2,v2,es,e,hb⟩|⟨fr2,cs2,v2,es,e,i1,i2,i3,i4⟩
    ·have:step P (lone (p k).1 (p k).2.1 (tp (p k).2.2 (tof (p k))))=.ended o w1:=step_lone_ended (by show(stepG P true (Go.Conc.G _ _) _).bare=_;rw [e];rfl)
     rw [runN,this]at h1
     cases h1
    ·have:step P (lone (p k).1 (p k).2.1 (tp (p k).2.2 (tof (p k))))=.next (lone fr2 cs2 v2):=step_lone_go (by show(stepG P true (Go.Conc.G _ _) _).bare=_;rw [e];rfl)
     rw [runN,this]at h1
     obtain⟨fr3,cs3,v3,e3,hb3⟩:=bad_ends cs2 fr2 v2 m hb _ h1
     have e1:=congrArg Machine.gs e3
     injection e1 with e1
     injection e1 with e1 _
     injection e1 with e4 e5
     subst e4 e5
     obtain⟨_,⟨fr4,rest,chain,e6,hmd⟩,_⟩:=hb3
     injection e6 with e6 _
     subst e6
     rcases(hS _ _ _ h2).2 with h|⟨_,h,_⟩<;>rw [hmd]at h<;>cases h
    ·have nxe:nx (p k) (tof (p k))=(fr2,cs2,v2):=by
      show(match stepG P true (Go.Conc.G (p k).1 (p k).2.1) (tp (p k).2.2 (tof (p k)))with
       | .go g v1 _=>(g.frame,g.callers,v1)
       |_=>p k)=_
      rw [e]
      rfl
     have pe:p (k+1)=(fr2,cs2,v2):=(ps k).trans nxe
     have nt:¬tr (p (k+1)):=by rw [ps];exact t2 es (by rw [nxe];exact e)
     refine hk ⟨ha,?_,?_,?_,nt,?_⟩
     ·rw [pe];exact i2
     ·rw [pe];exact i3
     ·rw [pe];exact i1
     ·rw [pe];exact i4
end
section
variable {P:Program} {fb:FB} {F G:FuncId→Prop} {kg:List Item} {r:Map} {S:Frame→List Frame→World→Prop}
theorem lone_inj {fr fr':Frame}{cs cs':List Frame}{v v':World}(h:lone fr cs v=lone fr' cs' v'):fr=fr'∧cs=cs'∧v=v':=by
 have e1:=congrArg Machine.gs h
 have e2:=congrArg Machine.world h
 injection e1 with e1
 injection e1 with e1 _
 injection e1 with e3 e4
 exact⟨e3,e4,e2⟩
theorem inv_run (hFb:∀ f,fb.val f=true→F f)(hF:∀ f,F f∨fb.call f=true→FnOk P F G f)(hG:Fine P fb G)(hkg:Kg kg):∀(n:Nat) (fr:Frame) (cs:List Frame) (v:World) (T:Tape),Inv P fb F kg (fr,cs,v)→∀fr1 cs1 v1,
  runN P n (lone fr cs (tp v T))=.next (lone fr1 cs1 v1)→AtStop P kg fr1 cs1→Inv P fb F kg (fr1,cs1,v1)
 |0,fr,cs,v,T,h,fr1,cs1,v1,hr,hs=>by
  injection hr with hr
  obtain⟨rfl,rfl,rfl⟩:=lone_inj hr
  obtain⟨r,h1,h2⟩:=h
  exact⟨r,h1,h2.tp' T T⟩
 |n+1,fr,cs,v,T,h,fr1,cs1,v1,hr,hs=>by
  by_cases ha:AtStop P kg fr cs
  ·obtain⟨r,h1,h2⟩:=h
   exact absurd hs (no_way hkg h1 ha _ n fr1 cs1 v1 hr)
  ·rcases inv_step hFb hF hG hkg h ha T with ⟨o,w1,es,e⟩|⟨fr2,cs2,v2,es,e,hb⟩|⟨fr2,cs2,v2,es,e,i1,i2,i3,i4⟩
   ·have:step P (lone fr cs (tp v T))=.ended o w1:=step_lone_ended (by show(stepG P true (Go.Conc.G _ _) _).bare=_;rw [e];rfl)
    rw [runN,this]at hr
    cases hr
   ·have:step P (lone fr cs (tp v T))=.next (lone fr2 cs2 v2):=step_lone_go (by show(stepG P true (Go.Conc.G _ _) _).bare=_;rw [e];rfl)
    rw [runN,this]at hr
    obtain⟨fr3,cs3,v3,e3,hb3⟩:=bad_ends cs2 fr2 v2 n hb _ hr
    obtain⟨rfl,rfl,rfl⟩:=lone_inj e3
    obtain⟨_,⟨fr4,rest,chain,e6,hmd⟩,_⟩:=hb3
    injection e6 with e6 _
    subst e6
    rcases hs.2 with h|⟨_,h,_⟩<;>rw [hmd]at h<;>cases h
   ·have:step P (lone fr cs (tp v T))=.next (lone fr2 cs2 v2):=step_lone_go (by show(stepG P true (Go.Conc.G _ _) _).bare=_;rw [e];rfl)
    rw [runN,this]at hr
    exact inv_run hFb hF hG hkg n fr2 cs2 v2 v2.tape i1 fr1 cs1 v1 hr hs
def Left (P:Program)(f:FuncId)(R:Value→World→Prop)(fr:Frame)(cs:List Frame)(v:World):Prop:=
 cs=[catcher P]∧fr.mode=.returning∧fr.fn=f∧∃fn x,P.funcs[f]?=some fn∧(∀T,∃es,(results fn fr.tmps).runT P (tp v T) #[]=(.ok x (tp v T),es))∧R x v
theorem enter_mk {f:FuncId}{fn:Func}{c:Code}(args:Array Value)(hf:P.funcs[f]?=some fn)(hb:fn.body=some c) :
  Frame.enter P f args .normal=mk f .normal (args++Array.replicate (fn.ntmps-args.size) undef) [] ([.code c]++[]) false:=enter_at args hf hb
theorem VA.undefs (n:Nat):VA F r (Array.replicate n undef) (Array.replicate n undef):=⟨rfl,fun j x y h1 h2=>by
 rw [h1]at h2
 injection h2 with h2
 subst h2
 rw [Array.getElem?_replicate]at h1
 split at h1
 ·injection h1 with h1;subst h1;exact VR.undef
 ·cases h1⟩
theorem tree_of_calls (hFb:∀ f,fb.val f=true→F f)(hF:∀ f,F f∨fb.call f=true→FnOk P F G f)(hG:Fine P fb G){f:FuncId}(hf:G f){args:Array Value}{v:World}(hw:WR P F r v v)(ha:VA F r args args){R:Value→World→Prop}
  (hR:∀x v T,R x v→R x (tp v T)) (h:∀T,Alike 0 v.drawn T v.tape→Calls P f args (tp v T) fun | .returned x,w'=>R x w'|_,_=>False):Tr P (Left P f R) (Frame.enter P f args .normal) [catcher P] v:=by
 obtain⟨fn,c,h1,h2,h3⟩:=hG f hf
 have hi:Inv P fb F [] (Frame.enter P f args .normal,[catcher P],v):=by
  refine⟨r,?_,hw⟩
  rw [enter_mk args h1 h2]
  exact Tl.bot.sk (.mk (pre:=[.code c]) (ret:=false) (ha.append (VA.undefs _)) (by simp only [List.all_cons,List.all_nil,Bool.and_true];exact h3))
 refine bar hFb hF hG (.inl rfl) (fun fr cs v h=>⟨h.1,.inl h.2.1⟩) (fun fr cs v T h=>?_) hi fun T hT=>?_
 ·obtain⟨a1,a2,a3,fn,x,a4,a5,a6⟩:=h
  exact⟨a1,a2,a3,fn,x,a4,fun U=>a5 U,hR x v T a6⟩
 ·obtain⟨e,w',fr,hr,hc,hfn,hl⟩:=h T hT [catcher P]
  cases e with
  |returned x=>
   obtain⟨n,hn⟩:=hc
   obtain⟨l1,l2,l3,fn',l4,l5⟩:=hl
   have hst:AtStop P [] fr [catcher P]:=⟨rfl,.inl l1⟩
   obtain⟨r1,k1,k2⟩:=inv_run hFb hF hG (.inl rfl) n _ _ v T hi fr [catcher P] w' hn hst
   refine⟨n,fr,[catcher P],w',hn,rfl,l1,hfn,fn',x,by rw [←hfn];exact l4,fun U=>?_,hr⟩
   have hv:VA F r1 fr.tmps fr.tmps:=by
    obtain⟨a,b,c,d,_,hfr⟩:=k1
    dsimp only at hfr
    generalize hq:fr=q at hfr
    have:∀{fr fr':Frame},FR P fb F r1 a b c d fr fr'→VA F r1 fr.tmps fr'.tmps:=fun h=>by
     cases h with
     | @mk fn tmps tmps' pre ret hv hp=>cases ret<;>exact hv
    exact this hfr
   have hs:=results_like (P:=P) (F:=F) fn' hv
   cases hr2:(results fn' fr.tmps).runT P w' #[]with
   |mk res es=>
    have e1:res=.ok x w':=by
     have:=Sem.runT_fst P (results fn' fr.tmps) w' #[]
     rw [hr2,l5]at this
     exact this
    subst e1
    have no:=mem_seen_out hs k2 hr2
    have hl:=run_local (P:=P) (results fn' fr.tmps) w' #[]
    rw [hr2]at hl
    obtain⟨m1,m2,m3⟩:=hl no
    exact⟨es,m3 U fun i q h1 h2=>by have h2:i<w'.drawn:=h2;omega⟩
  |panicked chain=>exact hr.elim
  |outgrown=>exact hr.elim
def under : List Item := [.code (.refuse "")]
def Over (P:Program)(fn:FuncId)(N N':Array Value→World→Prop)(fr:Frame)(cs:List Frame)(v:World):Prop:=
 cs=[catcher P]∧fr.fn=fn∧((fr.mode=.run∧fr.todo=under∧N fr.tmps v)∨(fr.mode=.returning∧N' fr.tmps v))
def Ends (N N':Array Value→World→Prop):Exit→Act→World→Prop
 | .normal,a,w=>N a.tmps w
 | .ret,a,w=>N' a.tmps w
 |_,_,_=>False
theorem tree_of_wp (hFb:∀ f,fb.val f=true→F f)(hF:∀ f,F f∨fb.call f=true→FnOk P F G f)(hG:Fine P fb G){fn:FuncId}{c:Code}(hc:niceCode P fb c=true){tmps:Array Value}{v:World}(hw:WR P F r v v)(ha:VA F r tmps tmps){N N':Array Value→World→Prop}
  (hN:∀x v T,N x v→N x (tp v T)) (hN':∀x v T,N' x v→N' x (tp v T)) (h:∀T,Alike 0 v.drawn T v.tape→c.wp P (Ends N N') ⟨tmps,[]⟩ (tp v T)):
  Tr P (Over P fn N N') (mk fn .normal tmps [] ([.code c]++under) false) [catcher P] v:=by
 have hi:Inv P fb F under (mk fn .normal tmps [] ([.code c]++under) false,[catcher P],v):=
  ⟨r,Tl.bot.sk (.mk (pre:=[.code c]) (ret:=false) ha (by simp only [List.all_cons,List.all_nil,Bool.and_true];exact hc)),hw⟩
 have g1:∀fr cs v,Over P fn N N' fr cs v→AtStop P under fr cs:=fun fr cs v hs=>by
  refine⟨hs.1,?_⟩
  rcases hs.2.2 with ⟨h1,h2,_⟩|⟨h1,_⟩
  ·exact .inr ⟨by simp [under],h1,h2⟩
  ·exact .inl h1
 have g2:∀fr cs v T,Over P fn N N' fr cs v→Over P fn N N' fr cs (tp v T):=fun fr cs v T hs=>by
  refine⟨hs.1,hs.2.1,?_⟩
  rcases hs.2.2 with ⟨h1,h2,h3⟩|⟨h1,h2⟩
  ·exact .inl ⟨h1,h2,hN _ _ _ h3⟩
  ·exact .inr ⟨h1,hN' _ _ _ h2⟩
 refine bar hFb hF hG (.inr rfl) g1 g2 hi fun T hT=>?_
 ·obtain⟨e,a',w',q,har⟩:=h T hT (bs fn .normal) under [catcher P]
  cases e with
  |normal=>
   obtain⟨n,hn⟩:=har
   exact⟨n,_,_,_,hn,rfl,rfl,.inl ⟨rfl,rfl,q⟩⟩
  |ret=>
   obtain⟨todo,n,hn⟩:=har
   exact⟨n,_,_,_,hn,rfl,rfl,.inr ⟨rfl,q⟩⟩
  |_=>exact q.elim
end
def Foot (r:Map)(v:World)(B o:Nat):Prop:=∃b s o0,r b=some (B,s)∧o=s+o0∧vc v b o0
theorem Mine.foot {r:Map}{v:World}{B o:Nat}(h:Mine r v B o):Foot r v B o:=by
 obtain⟨b,s,o0,h1,h2,h3⟩:=h
 exact⟨b,s,o0,h1,h2,h3.1⟩
section
variable {P:Program} {fb:FB} {F G:FuncId→Prop} {kg k':List Item} {D':List Deferred} {K':CallKind} {base':List Frame} {r r1:Map} {main:Bool} {S:Frame→List Frame→World→Prop}
variable {v v1 w w1 w2:World} {cs cs':List Frame} {fr fr':Frame} {u:List Event}
theorem Foot.lt (hw:WR P F r v w){B o:Nat}(h:Foot r v B o):B<w.heap.size∧P.globals.size≤B:=by
 obtain⟨b,s,o0,h1,_⟩:=h
 exact⟨(hw.lt h1).2,(hw.low b B s h1).2⟩
theorem Foot.back (hw:WR P F r v w)(h:St P F r r1 v v1 w w1 u){B o:Nat}(hf:Foot r1 v1 B o):Foot r v B o∨w.heap.size≤B:=by
 obtain⟨b,s,o0,h1,h2,h3⟩:=hf
 rcases h.new _ _ h1 with h4|⟨_,h5⟩
 ·exact .inl ⟨b,s,o0,h4,h2,((h.gkeep b (hw.lt h4).1 o0).1).1 h3⟩
 ·exact .inr h5
theorem Mine.back' (hw:WR P F r v w)(h:St P F r r1 v v1 w w1 u){B o:Nat}(hf:Mine r1 v1 B o):Mine r v B o∨w.heap.size≤B:=by
 by_cases hB:B<w.heap.size
 ·exact .inl (Mine.back h hw hB hf)
 ·exact .inr (Nat.le_of_not_lt hB)
def Has (r:Map)(B:Nat):Prop:=∃b s,r b=some (B,s)
structure Kept (r:Map)(v:World)(w w2:World):Prop where
 size:w.heap.size≤w2.heap.size
 cells:∀B,Has r B→∀cs e fz,w.heap[B]?=some (.cells cs e fz)→∃cs2,w2.heap[B]?=some (.cells cs2 e fz)∧cs2.size=cs.size∧∀o,Foot r v B o→cs2[o]?=cs[o]?
 number:∀B,Has r B→∀x,(∀cs e fz,x≠.cells cs e fz)→w.heap[B]?=some x→w2.heap[B]?=some x
theorem Kept.of_heap (h:w2.heap=w.heap):Kept r v w w2:=by
 refine⟨by rw [h];exact Nat.le_refl _,fun B _ cs e fz h1=>⟨cs,by rw [h];exact h1,rfl,fun _ _=>rfl⟩,fun B _ x _ h1=>by rw [h];exact h1⟩
theorem WR.kept (h:WR P F r v w)(k:Kept r v w w2):WR P F r v w2:=by
 refine⟨h.low,⟨h.gl.1,Nat.le_trans h.gl.2 k.size⟩,fun b B s hb=>?_,h.inj⟩
 rcases h.live b B s hb with ⟨cs,e,lo,hi,cs',e',lo',hi',h1,h2,h3,h4,h5,h6⟩|⟨a,a',lost,h1,h2,h3,h4⟩
 ·obtain⟨cs2,k1,k2,k3⟩:=k.cells B ⟨b,s,hb⟩ _ _ _ h2
  refine .inl ⟨cs,e,lo,hi,cs2,e',lo',hi',h1,k1,by rw [k2];exact h3,fun o x hx=>?_,h5,by rw [k2];exact h6⟩
  obtain⟨x',h7,h8⟩:=h4 o x hx
  refine⟨x',?_,h8⟩
  rw [k3 _ ⟨b,s,o,hb,rfl,x,?_⟩]
  ·exact h7
  ·simp only [World.cell?,h1]
   exact hx
 ·exact .inr ⟨a,a',lost,h1,k.number B ⟨b,s,hb⟩ _ (fun _ _ _ h=>by cases h) h2,h3,h4⟩
def tapeOf (v w:World):Tape:=fun n q=>if n<v.drawn then v.tape n q else w.tape (w.drawn+(n-v.drawn)) q
theorem tapeOf_alike (v w:World):Alike 0 v.drawn (tapeOf v w) v.tape:=fun i q _ h=>by unfold tapeOf;rw [if_pos h]
theorem tapeOf_tp (v w:World):Tp (tp v (tapeOf v w)) w:=fun i q=>by
 show tapeOf v w (v.drawn+i) q=_
 unfold tapeOf
 rw [if_neg (by omega),Nat.add_sub_cancel_left]
theorem bad_step {fr:Frame}{cs:List Frame}(h:Bad P (fr::cs)):∀v:World,(∃o w' es,stepG P true (Go.Conc.G fr cs) v=.ended o w' es)∨∃fr1 cs1 es,stepG P true (Go.Conc.G fr cs) v=.go (Go.Conc.G fr1 cs1) v es∧Bad P (fr1::cs1):=by
 intro v
 obtain⟨h1,⟨fr1,rest,chain,e,hm⟩,l,h2,h3⟩:=h
 injection e with e1 e2
 subst e1 e2
 have hd:fr.defers=[]:=h1 fr (List.mem_cons_self ..)
 by_cases hc:fr.catches P=true
 ·refine .inl ⟨?_,?_,?_,?_⟩
  rotate_left 3
  ·simp only [Go.Conc.G,stepG,hm,unwind,hd,hc,if_true]
   rfl
 ·cases cs with
  |nil=>
   have h2':fr=l:=by injection h2
   subst h2'
   exact absurd h3 hc
  |cons c0 cs=>
   have hr:∀q:Frame,(q.raise chain).defers=q.defers∧(q.raise chain).fn=q.fn∧(q.raise chain).todo=q.todo∧∃ch,(q.raise chain).mode=.panicking ch:=by
    intro q
    unfold Frame.raise
    split<;>exact⟨rfl,rfl,rfl,_,rfl⟩
   obtain⟨r1,r2,r3,ch,r4⟩:=hr c0
   have hc0:(c0.raise chain).catches P=c0.catches P:=by unfold Frame.catches;rw [r2,r3]
   refine .inr ⟨c0.raise chain,cs,#[],?_,fun c hc=>?_,⟨_,_,_,rfl,r4⟩,?_⟩
   ·simp only [Go.Conc.G,stepG,hm,unwind,hd,hc]
    rfl
   ·rcases List.mem_cons.1 hc with rfl|hc
    ·rw [r1];exact h1 c0 (by simp)
    ·exact h1 c (by simp [hc])
   ·rw [List.getLast?_cons_cons]at h2
    cases cs with
    |nil=>
     injection h2 with h2
     subst h2
     exact⟨_,rfl,hc0.trans h3⟩
    |cons c1 cs=>
     rw [List.getLast?_cons_cons]at h2 ⊢
     exact⟨l,h2,h3⟩
theorem bad_tree (hS:∀ fr cs v,S fr cs v→AtStop P kg fr cs){fr:Frame}{cs:List Frame}{v:World}(h:Tr P S fr cs v):¬Bad P (fr::cs):=by
 induction h with
 | @stop fr cs v h=>
  intro hb
  obtain⟨_,⟨fr4,rest,chain,e6,hmd⟩,_⟩:=hb
  injection e6 with e6 _
  subst e6
  rcases(hS _ _ _ h).2 with h|⟨_,h,_⟩<;>rw [hmd]at h<;>cases h
 | @step fr cs v f c x h k ih=>
  intro hb
  have hT:Alike 0 v.drawn v.tape v.tape:=fun _ _ _ _=>rfl
  obtain⟨es,e⟩:=h v.tape hT
  rcases bad_step hb (tp v v.tape)with ⟨o,w',es',e2⟩|⟨fr1,cs1,es',e2,hb1⟩
  ·rw [e]at e2;cases e2
  ·rw [e]at e2
   injection e2 with e2 _ _
   injection e2 with e3 e4
   refine ih v.tape hT ?_
   rw [e3,e4]
   exact hb1
def Near (P:Program)(y x:Frame×List Frame×World):Prop:=∃T es,stepG P true (Go.Conc.G x.1 x.2.1) (tp x.2.2 T)=.go (Go.Conc.G y.1 y.2.1) y.2.2 es∧Alike 0 x.2.2.drawn T x.2.2.tape
def Nearer (P:Program)(S:Frame→List Frame→World→Prop)(y x:Frame×List Frame×World):Prop:=¬S x.1 x.2.1 x.2.2∧Near P y x
theorem Tr.acc {fr:Frame}{cs:List Frame}{v:World}(h:Tr P S fr cs v):Acc (Nearer P S) (fr,cs,v):=by
 induction h with
 |stop h=>exact⟨_,fun y hy=>absurd h hy.1⟩
 | @step fr cs v f c x h k ih=>
  refine⟨_,fun y hy=>?_⟩
  obtain⟨_,T,es,e,hT⟩:=hy
  obtain⟨es',e'⟩:=h T hT
  have e:stepG P true (Go.Conc.G fr cs) (tp v T)=.go (Go.Conc.G y.1 y.2.1) y.2.2 es:=e
  rw [e']at e
  injection e with e1 e2 _
  injection e1 with e3 e4
  have:y=(f T,c T,x T):=by rw [e3,e4,e2]
  rw [this]
  exact ih T hT
theorem tree_hits {fr:Frame}{cs:List Frame}{v:World}(h:Tr P S fr cs v):∃n fr1 cs1 v1,runN P n (lone fr cs v)=.next (lone fr1 cs1 v1)∧S fr1 cs1 v1:=by
 induction h with
 |stop h=>exact⟨0,_,_,_,rfl,h⟩
 | @step fr cs v f c x h k ih=>
  have hT:Alike 0 v.drawn v.tape v.tape:=fun _ _ _ _=>rfl
  obtain⟨es,e⟩:=h v.tape hT
  obtain⟨n,fr1,cs1,v1,h1,h2⟩:=ih v.tape hT
  refine⟨n+1,fr1,cs1,v1,?_,h2⟩
  have st:step P (lone fr cs v)=.next (lone (f v.tape) (c v.tape) (x v.tape)):=step_lone_go (by show(stepG P true (Go.Conc.G fr cs) (tp v v.tape)).bare=_;rw [e];rfl)
  rw [runN,st]
  exact h1
theorem tree_stop (hkg:Kg kg)(hS:∀ fr cs v,S fr cs v→AtStop P kg fr cs)(h:SkR P fb F kg k' D' K' base' r fr cs fr' cs')(ht:Tr P S fr cs v)(hs:AtStop P kg fr cs):S fr cs v:=by
 obtain⟨n,fr1,cs1,v1,h1,h2⟩:=tree_hits ht
 cases n with
 |zero=>
  injection h1 with h1
  obtain⟨rfl,rfl,rfl⟩:=lone_inj h1
  exact h2
 |succ n=>exact absurd (hS _ _ _ h2) (no_way hkg h hs v n fr1 cs1 v1 h1)
theorem lift_step (hFb:∀ f,fb.val f=true→F f)(hF:∀ f,F f∨fb.call f=true→FnOk P F G f)(hG:Fine P fb G)(hK:K'≠.early)(hkg:Kg kg)(hk0:kg=[]→k'=[])(hS:∀ fr cs v,S fr cs v→AtStop P kg fr cs)
  (hw:WR P F r v w) (h:SkR P fb F kg k' D' K' base' r fr cs fr' cs') (ht:Tr P S fr cs v) (hns:¬S fr cs v):
  ∃fr1 cs1 v1 r1 fr1' cs1' w1 es',stepG P main (Go.Conc.G fr' cs') w=.go (Go.Conc.G fr1' cs1') w1 es'∧SkR P fb F kg k' D' K' base' r1 fr1 cs1 fr1' cs1'∧St P F r r1 (tp v (tapeOf v w)) v1 w w1 es'.toList∧Tr P S fr1 cs1 v1∧Nearer P S (fr1,cs1,v1) (fr,cs,v):=by
 have hns':¬AtStop P kg fr cs:=fun ha=>hns (tree_stop hkg hS h ht ha)
 cases ht with
 |stop h=>exact absurd h hns
 |step f c x hh k=>
  have hT:=tapeOf_alike v w
  obtain⟨es,e⟩:=hh _ hT
  have ho:=sim_step (main:=main) hFb hF hG hK hkg.plain hk0 (v:=tp v (tapeOf v w)) (hw.of_heap rfl rfl) (tapeOf_tp v w) h hns'
  rw [e]at ho
  rcases ho with ⟨fr1,cs1,r1,fr1',cs1',w1,es',e1,e2,e3,e4⟩|⟨fr1,cs1,e1,hb⟩
  ·injection e1 with e5 e6
   refine⟨fr1,cs1,_,r1,fr1',cs1',w1,es',e2,e3,e4,?_,hns,_,es,?_,hT⟩
   ·rw [←e5,←e6];exact k _ hT
   ·rw [←e5,←e6];exact e
  ·injection e1 with e5 e6
   have:=bad_tree hS (k _ hT)
   rw [e5,e6]at this
   exact absurd hb this
end
def Rd (P:Program){α:Type}(s:Sem α):Prop:=∀w es,wof (s.runT P w es).1=w
section
variable {P:Program} {α β:Type}
theorem Rd.pur (a:α):Rd P (Pure.pure a:Sem α):=fun _ _=>rfl
theorem Rd.halt (h:Halt):Rd P (Sem.halt h:Sem α):=fun _ _=>rfl
theorem runT_bind (s:Sem α)(f:α→Sem β):∀w es,(s.bind f).runT P w es=match s.runT P w es with
  |(.ok a w1,es1)=>(f a).runT P w1 es1
  |(.halt h w1,es1)=>(.halt h w1,es1):=by
 induction s with
 |pure a=>intro w es;rfl
 |halt h=>intro w es;rfl
 |program k ih=>intro w es;exact ih P w es
 |mark m k ih=>intro w es;exact ih w _
 |new o k ih=>intro w es;exact ih w.heap.size { w with heap:=w.heap.push o } es
 |shape b k ih=>intro w es;exact ih (w.shape? b) w es
 |frozen a k ih=>intro w es;exact ih (w.frozen? a) w es
 |freeze a n k ih=>intro w es;exact ih (w.freeze a n) es
 |choose q k ih=>
  intro w es
  simp only [Sem.bind,Sem.runT]
  split
  ·exact ih 0 w es
  ·exact ih _ _ es
 |sys c k ih=>intro w es;exact ih (w.sys c).1 (w.sys c).2 _
 |getObj r k ih=>
  intro w es
  simp only [Sem.bind,Sem.runT]
  cases w.heap[r]? with
  |none=>rfl
  |some o=>cases o<;>first|rfl|exact ih _ w _
 |setObj r o k ih=>
  intro w es
  simp only [Sem.bind,Sem.runT]
  cases w.heap[r]? with
  |none=>rfl
  |some o'=>cases o'<;>first|rfl|exact ih _ _
 |load m a k ih=>
  intro w es
  simp only [Sem.bind,Sem.runT]
  cases w.cell? a with
  |some x=>exact ih x w _
  |none=>
   dsimp only
   cases w.farLoad P a (m==.atomic)with
   |error x=>rfl
   |ok z=>exact ih z.1 w _
 |store m a v k ih=>
  intro w es
  cases v<;>first
   |rfl
   |(simp only [Sem.bind,Sem.runT]
     cases w.cell? a with
     |some x=>
      dsimp only
      split
      ·rfl
      ·exact ih _ _
     |none=>
      dsimp only
      split
      ·exact ih _ _
      ·rfl)
theorem Rd.bnd {s:Sem α}{f:α→Sem β}(h:Rd P s)(k:∀ a,Rd P (f a)):Rd P (s >>= f):=by
 intro w es
 show wof ((s.bind f).runT P w es).1=w
 rw [runT_bind]
 have:=h w es
 cases e:s.runT P w es with
 |mk res es1=>
  rw [e]at this
  cases res with
  |ok a w1=>
   have:w1=w:=this
   subst this
   exact k a w1 es1
  |halt x w1=>exact this
theorem Rd.program':Rd P Go.program:=fun _ _=>rfl
theorem rd_underlying (t:TypeId):Rd P (underlying t):=Rd.bnd .program' fun p=>by split<;>first|exact .pur _|exact .halt _
theorem rd_typeInfo (t:TypeId):Rd P (typeInfo t):=Rd.bnd .program' fun p=>by split<;>first|exact .pur _|exact .halt _
theorem rd_sizeOf (t:TypeId):Rd P (sizeOf t):=Rd.bnd (rd_typeInfo t) fun i=>.pur _
theorem rd_isAgg (t:TypeId):Rd P (isAgg t):=Rd.bnd (rd_underlying t) fun d=>by split<;>exact .pur _
theorem rd_load (a:Addr):Rd P (load a):=by
 intro w es
 simp only [load,Sem.runT]
 cases w.cell? a with
 |some x=>rfl
 |none=>
  dsimp only
  cases w.farLoad P a _<;>rfl
theorem rd_loadCellsFrom (a:Addr):∀(n i:Nat) (acc:Array Value),Rd P (loadCellsFrom a i n acc)
 |0,i,acc=>.pur _
 |n+1,i,acc=>Rd.bnd (rd_load _) fun v=>rd_loadCellsFrom a n (i+1) _
theorem rd_loadVar (t:TypeId)(a:Addr):Rd P (loadVar t a):=by
 unfold loadVar
 refine Rd.bnd (rd_isAgg t) fun b=>?_
 cases b
 ·exact rd_load _
 ·exact Rd.bnd (rd_sizeOf t) fun n=>Rd.bnd (rd_loadCellsFrom a n 0 #[]) fun x=>.pur _
theorem rd_asAddr (x:Value):Rd P (asAddr x):=by
 unfold asAddr
 split
 ·exact .pur _
 ·exact Rd.bnd .program' fun p=>.halt _
 ·exact .halt _
theorem rd_results (fn:Func)(tmps:Array Value):Rd P (results fn tmps):=by
 unfold results
 refine Rd.bnd ?_ fun vs=>.pur _
 rw [Array.mapM_eq_mapM_toList]
 refine Rd.bnd ?_ fun x=>.pur _
 generalize fn.results.toList=l
 induction l with
 |nil=>exact .pur _
 |cons x l ih=>
  rw [List.mapM_cons]
  refine Rd.bnd ?_ fun y=>Rd.bnd ih fun ys=>.pur _
  cases x with
  |tmp t=>exact .pur _
  |cell a t=>exact Rd.bnd (rd_asAddr _) fun z=>rd_loadVar _ _
end
section
variable {P:Program} {fb:FB} {F G:FuncId→Prop} {kg k':List Item} {D':List Deferred} {K':CallKind} {base':List Frame} {r r1 r2:Map} {main:Bool} {S:Frame→List Frame→World→Prop}
variable {v v1 v2 w w1 w2:World} {cs cs':List Frame} {fr fr':Frame} {u:List Event}
theorem St.same (hw:WR P F r v w)(h:St P F r r1 v v1 w w1 u)(e:v1.heap=v.heap):r1.le r:=by
 intro b x hb
 rcases h.new b x hb with h1|⟨h1,_⟩
 ·exact h1
 ·have:=(h.wr.lt (b:=b) (B:=x.1) (s:=x.2) hb).1
  rw [e]at this
  exact absurd this (Nat.not_lt.2 h1)
theorem left_real {f:FuncId}{R:Value→World→Prop}(hs:Left P f R fr cs v)(h:SkR P fb F [] k' D' K' base' r fr cs fr' cs')(hw:WR P F r v w) :
  ∃x x' fn es,R x v∧VR F r x x'∧P.funcs[f]?=some fn∧fr'.fn=f∧cs'=base'∧fr'.mode=.returning∧fr'.defers=D'∧fr'.kind=K'∧(results fn fr'.tmps).runT P w #[]=(.ok x' w,es)∧∀e∈es.toList,EvOk r v e:=by
 obtain⟨h1,h2,h3,fn,x,h4,h5,h6⟩:=hs
 subst h1
 obtain⟨a,b,c,d,hT,hfr⟩:=h
 cases hT with
 |up k=>cases k
 |bot=>
  cases hfr with
  | @mk fn0 tmps tmps' pre ret hv hp=>
   cases ret with
   |false=>cases h2
   |true=>
    obtain rfl:fn0=f:=h3
    have hv:VA F r tmps tmps':=hv
    obtain⟨es,e⟩:=h5 (tapeOf v w)
    have e:(results fn tmps).runT P (tp v (tapeOf v w)) #[]=(.ok x (tp v (tapeOf v w)),es):=e
    have hS:=results_like (P:=P) (F:=F) fn hv (tp v (tapeOf v w)) w (hw.of_heap rfl rfl) (tapeOf_tp v w) #[] #[]
    rw [e]at hS
    obtain⟨r1,x',w1,u,e1,st,hx⟩:=hS
    have ew:w1=w:=by
     have:=rd_results (P:=P) fn tmps' w #[]
     rw [e1]at this
     exact this
    subst ew
    have hle:r1.le r:=St.same (v:=tp v (tapeOf v w1)) (hw.of_heap rfl rfl) st rfl
    refine⟨x,x',fn,_,h6,hx.mono hle,h4,rfl,rfl,rfl,rfl,rfl,e1,fun ev hev=>?_⟩
    have hev:ev∈u:=by simpa using hev
    rcases st.evs ev hev with ⟨b,B,s,o,wr,g1,g2,g3,g4⟩|⟨b,B,s,g1,g2⟩|g|g
    ·exact .inl ⟨b,B,s,o,wr,g1,hle _ _ g2,g3,g4⟩
    ·exact .inr (.inl ⟨b,B,s,g1,hle _ _ g2⟩)
    ·exact .inr (.inr (.inl g))
    ·exact .inr (.inr (.inr g))
structure Sg (P:Program)(F:FuncId→Prop)(r r1:Map)(v v1 w w1:World):Prop where
 le:r.le r1
 new:∀b x,r1 b=some x→r b=some x∨(v.heap.size≤b∧w.heap.size≤x.1)
 wr:WR P F r1 v1 w1
 gsize:v.heap.size≤v1.heap.size
 gkeep:∀b,b<v.heap.size→∀o,(vc v1 b o↔vc v b o)∧v1.frozen? ⟨b,o,none⟩=v.frozen? ⟨b,o,none⟩
 rsize:w.heap.size≤w1.heap.size
 rkeep:∀B x,w.heap[B]?=some x→(∃cs e fz cs1,x=.cells cs e fz∧w1.heap[B]?=some (.cells cs1 e fz)∧cs1.size=cs.size∧∀o,¬Mine r v B o→cs1[o]?=cs[o]?)∨w1.heap[B]?=some x
 rest:w1.tape=w.tape∧w1.os=w.os∧w1.output=w.output
 grest:v1.os=v.os∧v1.output=v.output
theorem Sg.refl (h:WR P F r v w):Sg P F r r v v w w:=⟨Map.le_refl r,fun b x hb=>.inl hb,h,Nat.le_refl _,fun _ _ _=>⟨Iff.rfl,rfl⟩,Nat.le_refl _,fun _ _ hx=>.inr hx,⟨rfl,rfl,rfl⟩,⟨rfl,rfl⟩⟩
theorem Sg.of_st {T:Tape}(h:St P F r r1 (tp v T) v1 w w1 u):Sg P F r r1 v v1 w w1:=
 ⟨h.le,h.new,h.wr,h.gsize,h.gkeep,h.rsize,h.rkeep,⟨h.rest.1,h.rest.2.1,h.rest.2.2.1⟩,⟨h.grest.2.1,h.grest.2.2⟩⟩
theorem Mine.back2 (h:Sg P F r r1 v v1 w w1)(hw:WR P F r v w){B o:Nat}(hB:B < w.heap.size)(hm:Mine r1 v1 B o):Mine r v B o:=by
 obtain⟨b,s,o0,h1,h2,h3⟩:=hm
 rcases h.new _ _ h1 with h4|⟨_,h5⟩
 ·exact⟨b,s,o0,h4,h2,(free_keep (h.gkeep b (hw.lt h4).1)).1 h3⟩
 ·exact absurd hB (Nat.not_lt.2 h5)
theorem Sg.trans (hw:WR P F r v w)(h:Sg P F r r1 v v1 w w1)(k:Sg P F r1 r2 v1 v2 w1 w2):Sg P F r r2 v v2 w w2:=by
 refine⟨Map.le_trans h.le k.le,fun b x hb=>?_,k.wr,Nat.le_trans h.gsize k.gsize,fun b hb o=>?_,Nat.le_trans h.rsize k.rsize,fun B x hx=>?_,⟨k.rest.1.trans h.rest.1,k.rest.2.1.trans h.rest.2.1,k.rest.2.2.trans h.rest.2.2⟩,⟨k.grest.1.trans h.grest.1,k.grest.2.trans h.grest.2⟩⟩
 ·rcases k.new b x hb with h1|⟨h1,h2⟩
  ·exact h.new b x h1
  ·exact .inr ⟨Nat.le_trans h.gsize h1,Nat.le_trans h.rsize h2⟩
 ·have h1:=k.gkeep b (Nat.lt_of_lt_of_le hb h.gsize) o
  have h2:=h.gkeep b hb o
  exact⟨h1.1.trans h2.1,h1.2.trans h2.2⟩
 ·have hB:B<w.heap.size:=(Array.getElem?_eq_some_iff.1 hx).1
  rcases h.rkeep B x hx with ⟨cs,e,fz,cs1,rfl,h1,h2,h3⟩|h1
  ·rcases k.rkeep B _ h1 with ⟨cs',e',fz',cs2,h4,h5,h6,h7⟩|h4
   ·injection h4 with h4a h4b h4c
    subst h4a h4b h4c
    exact .inl ⟨cs,_,_,cs2,rfl,h5,h6.trans h2,fun o ho=>(h7 o fun hm=>ho (Mine.back2 h hw hB hm)).trans (h3 o ho)⟩
   ·exact .inl ⟨cs,e,fz,cs1,rfl,h4,h2,h3⟩
  ·rcases k.rkeep B x h1 with ⟨cs,e,fz,cs1,rfl,h4,h5,h6⟩|h4
   ·exact .inl ⟨cs,e,fz,cs1,rfl,h4,h5,fun o ho=>h6 o fun hm=>ho (Mine.back2 h hw hB hm)⟩
   ·exact .inr h4
theorem lone_run (hFb:∀ f,fb.val f=true→F f)(hF:∀ f,F f∨fb.call f=true→FnOk P F G f)(hG:Fine P fb G)(hK:K'≠.early)(hkg:Kg kg)(hk0:kg=[]→k'=[])(hS:∀ fr cs v,S fr cs v→AtStop P kg fr cs) :
  ∀x,Acc (Nearer P S) x→∀r fr' cs' w,WR P F r x.2.2 w→SkR P fb F kg k' D' K' base' r x.1 x.2.1 fr' cs'→Tr P S x.1 x.2.1 x.2.2 →
   ∃fr1 cs1 v1 r1 fr1' cs1' w1,Steps P (lone fr' cs' w) (lone fr1' cs1' w1)∧S fr1 cs1 v1∧SkR P fb F kg k' D' K' base' r1 fr1 cs1 fr1' cs1'∧Sg P F r r1 x.2.2 v1 w w1:=by
 intro x hx
 induction hx with
 |intro x _ ih=>
  intro r fr' cs' w hw hk ht
  by_cases hs:S x.1 x.2.1 x.2.2
  ·exact⟨x.1,x.2.1,x.2.2,r,fr',cs',w,.refl P _,hs,hk,Sg.refl hw⟩
  ·obtain⟨fr1,cs1,v1,r1,fr1',cs1',w1,es',e1,e2,e3,e4,e5⟩:=lift_step (main:=true) hFb hF hG hK hkg hk0 hS hw hk ht hs
   obtain⟨fr2,cs2,v2,r2,fr2',cs2',w2,g1,g2,g3,g4⟩:=ih (fr1,cs1,v1) e5 r1 fr1' cs1' w1 e3.wr e2 e4
   refine⟨fr2,cs2,v2,r2,fr2',cs2',w2,.head (step_lone_go ?_) g1,g2,g3,(Sg.of_st e3).trans hw g4⟩
   show(stepG P true (Go.Conc.G fr' cs') w).bare=_
   rw [e1]
   rfl
theorem calls_lift (hFb:∀ f,fb.val f=true→F f)(hF:∀ f,F f∨fb.call f=true→FnOk P F G f)(hG:Fine P fb G){f:FuncId}(hf:G f){args args':Array Value}{R:Value→World→Prop}(hw:WR P F r v w)(ha:VA F r args args')
  (ht:Tr P (Left P f R) (Frame.enter P f args .normal) [catcher P] v):
  Calls P f args' w fun | .returned x',w1=>∃x v1 r1,R x v1∧VR F r1 x x'∧Sg P F r r1 v v1 w w1|_,_=>False:=by
 intro base
 obtain⟨fn,c,h1,h2,h3⟩:=hG f hf
 have hk:SkR P fb F [] [] [] .normal base r (Frame.enter P f args .normal) [catcher P] (Frame.enter P f args' .normal) base:=by
  rw [enter_mk args h1 h2,enter_mk args' h1 h2,←ha.1]
  exact Tl.bot.sk (.mk (pre:=[.code c]) (ret:=false) (ha.append (VA.undefs _)) (by simp only [List.all_cons,List.all_nil,Bool.and_true];exact h3))
 obtain⟨fr1,cs1,v1,r1,fr1',cs1',w1,g1,g2,g3,g4⟩:=lone_run hFb hF hG (by simp) (.inl rfl) (fun h=>h) (fun fr cs v h=>⟨h.1,.inl h.2.1⟩) _ ht.acc r _ _ w hw hk ht
 obtain⟨x,x',fn',es,k1,k2,k3,k4,k5,k6,k7,k8,k9,_⟩:=left_real g2 g3 g4.wr
 subst k5
 refine⟨.returned x',w1,fr1',⟨x,v1,r1,k1,k2,g4⟩,g1,k4,k6,k7,k8,fn',by rw [k4];exact k3,?_⟩
 have:=Sem.runT_fst P (results fn' fr1'.tmps) w1 #[]
 rw [k9]at this
 exact this.symm
end
end Go.Proofs.YtngdldcgkaplbaaGreat.Lk
namespace Go.Proofs.YtngdldcgkaplbaaGreat.Lk
open Go Go.Conc
open Go.ConcN (sumTo upd sumTo_upd upd_ne upd_same)
def Win (P:Program)(Post:Value→World→Prop)(m:Machine)(t:Trace):Prop:=
 ∃N last o w' t',runNT P (N+1) m t=(.ended o w',t')∧runN P N m=.next last∧step P last=.ended o w'∧Go.Conc.Good P Post last o w' t'
theorem Win.next {P:Program}{Post:Value→World→Prop}{m m1:Machine}{t:Trace}{ops:Array MemOp}(h:stepT P m=(.next m1,ops))(k:Win P Post m1 (t++ops)):Win P Post m t:=by
 obtain⟨N,last,o,w',t',h1,h2,h3,h4⟩:=k
 refine⟨N+1,last,o,w',t',?_,?_,h3,h4⟩
 ·rw [runNT,h];exact h1
 ·have:step P m=.next m1:=by unfold step;rw [h]
  rw [runN,this];exact h2
section
variable {P:Program} {Post:Value→World→Prop} {Shun:Loc→Prop}
theorem beside_go:∀(M:Nat) (B:Nat) (gs:Array Goroutine) (a:Goroutine) (w:World) (sl:Option (Nat×Nat)) (t:Trace) (q:Nat→Nat),sumTo gs.size q≤M→gs[0]?=some a→a.status=.running→Leavers P t gs q→Past Shun B t →
   (∀d:Nat,∃a' w' es B',stepG P true a (w.at d)=.go a' w' es∧B≤B'∧(∀e∈es,EvL Shun B' e) ∧
     ∀gs' sl' t' q',gs'.size=gs.size→gs'[0]?=some a'→Leavers P t' gs' q'→Past Shun B' t'→Win P Post (crowd gs' w' sl') t')→Win P Post (crowd gs w sl) t:=by
 intro M
 induction M with
 |zero=>
  intro B gs a w sl t q hM h0 hrun hL hP K
  have hz:∀i,i<gs.size→q i=0:=fun i hi=>by have:=Go.ConcN.le_sumTo (f:=q) hi;omega
  have haw:∀g∈gs,awake g:=by
   intro g hg
   obtain⟨i,hi,rfl⟩:=Array.mem_iff_getElem.1 hg
   rcases Nat.eq_zero_or_pos i with rfl|hpos
   ·have:gs[0]=a:=by simpa [Array.getElem?_eq_getElem hi]using h0
    rw [this];exact awake_of (.inl hrun)
   ·exact awake_of ((hL.old i _ hpos (Array.getElem?_eq_getElem hi)).status.elim .inl fun x=>.inr (.inr x))
  obtain⟨i,g,d,sl',hi,hg,hst⟩:=crowd_pick (P:=P) (w:=w) (sl:=sl) haw ⟨0,a,h0,hrun⟩
  have hlti:i<gs.size:=(Array.getElem?_eq_some_iff.1 hi).1
  rcases Nat.eq_zero_or_pos i with rfl|hpos
  ·obtain rfl:g=a:=by rw [h0]at hi;exact(Option.some.inj hi).symm
   obtain⟨a',w',es,B',hgo,hB,hev,K'⟩:=K d
   have hrunT:=runT_crowd_go (P:=P) (sl:=sl') (i:=0) hi (show stepG P (0==0) g (w.at d)=_ from hgo)
   have hsz:((gs.map (woken P g a' w')).setIfInBounds 0 a').size=gs.size:=by simp
   refine .next (hst.trans hrunT) (K' _ sl' _ q hsz (by simp [hlti]) ⟨fun j x hj hx=>?_,fun j hj=>?_⟩ ((hP.mono hB).own hev))
   ·have hne:0≠j:=by omega
    rw [Array.getElem?_setIfInBounds_ne hne,Array.getElem?_map]at hx
    obtain⟨y,hy,rfl⟩:=Option.map_eq_some_iff.1 hx
    have hq:=hL.old j y hj hy
    rw [woken_quitsD hq,Deaf_other t (by omega) _ (fun op hop=>by obtain⟨e,_,rfl⟩:=Go.Conc.mem_ofEvents hop;rfl)]
    exact hq
   ·rw [Deaf_other t (g':=0) (by simp at hj;omega) _ (fun op hop=>by obtain⟨e,_,rfl⟩:=Go.Conc.mem_ofEvents hop;rfl)]
    exact hL.above j (by simpa using hj)
  ·have hq:=hL.old i g hpos hi
   rw [hz i hlti]at hq
   rw [hq.1]at hg;cases hg
 |succ M ih=>
  intro B gs a w sl t q hM h0 hrun hL hP K
  have haw:∀g∈gs,awake g:=by
   intro g hg
   obtain⟨i,hi,rfl⟩:=Array.mem_iff_getElem.1 hg
   rcases Nat.eq_zero_or_pos i with rfl|hpos
   ·have:gs[0]=a:=by simpa [Array.getElem?_eq_getElem hi]using h0
    rw [this];exact awake_of (.inl hrun)
   ·exact awake_of ((hL.old i _ hpos (Array.getElem?_eq_getElem hi)).status.elim .inl fun x=>.inr (.inr x))
  obtain⟨i,g,d,sl',hi,hg,hst⟩:=crowd_pick (P:=P) (w:=w) (sl:=sl) haw ⟨0,a,h0,hrun⟩
  have hlti:i<gs.size:=(Array.getElem?_eq_some_iff.1 hi).1
  rcases Nat.eq_zero_or_pos i with rfl|hpos
  ·obtain rfl:g=a:=by rw [h0]at hi;exact(Option.some.inj hi).symm
   obtain⟨a',w',es,B',hgo,hB,hev,K'⟩:=K d
   have hrunT:=runT_crowd_go (P:=P) (sl:=sl') (i:=0) hi (show stepG P (0==0) g (w.at d)=_ from hgo)
   have hsz:((gs.map (woken P g a' w')).setIfInBounds 0 a').size=gs.size:=by simp
   refine .next (hst.trans hrunT) (K' _ sl' _ q hsz (by simp [hlti]) ⟨fun j x hj hx=>?_,fun j hj=>?_⟩ ((hP.mono hB).own hev))
   ·have hne:0≠j:=by omega
    rw [Array.getElem?_setIfInBounds_ne hne,Array.getElem?_map]at hx
    obtain⟨y,hy,rfl⟩:=Option.map_eq_some_iff.1 hx
    have hq:=hL.old j y hj hy
    rw [woken_quitsD hq,Deaf_other t (by omega) _ (fun op hop=>by obtain⟨e,_,rfl⟩:=Go.Conc.mem_ofEvents hop;rfl)]
    exact hq
   ·rw [Deaf_other t (g':=0) (by simp at hj;omega) _ (fun op hop=>by obtain⟨e,_,rfl⟩:=Go.Conc.mem_ofEvents hop;rfl)]
    exact hL.above j (by simpa using hj)
  ·have hq:=hL.old i g hpos hi
   have hi0:(i==0)=false:=by simp;omega
   cases hqi:q i with
   |zero=>rw [hqi]at hq;rw [hq.1]at hg;cases hg
   |succ k=>
    rw [hqi]at hq
    rcases hq with ⟨hf,_⟩|⟨_,g',es,hm,hstp,hq'⟩
    ·rw [hf]at hg;cases hg
    have hrunT:=runT_crowd_go (P:=P) (sl:=sl') (i:=i) hi (by rw [hi0];exact hstp (w.at d))
    have hsz:((gs.map (woken P g g' (w.at d))).setIfInBounds i g').size=gs.size:=by simp
    have hsum:sumTo gs.size (ConcN.upd q i k)+(k+1)=sumTo gs.size q+k:=by
     have:=sumTo_upd q k id hlti
     simpa [hqi]using this
    refine .next (hst.trans hrunT) (ih B _ a (w.at d) sl' _ (ConcN.upd q i k) (by rw [hsz];omega)
     (by
       have hne:i≠0:=by omega
       rw [Array.getElem?_setIfInBounds_ne hne,Array.getElem?_map,h0]
       simp [woken_running hrun]) hrun
     ⟨fun j x hj hx=>?_,fun j hj=>?_⟩ (hP.mute (by omega) hm) (fun d'=>?_))
    ·by_cases hji:i=j
     ·subst hji
      rw [Array.getElem?_setIfInBounds_self_of_lt (by simpa using hlti)]at hx
      obtain rfl:=Option.some.inj hx
      rw [upd_same,Deaf_own]
      exact hq'
     ·rw [Array.getElem?_setIfInBounds_ne hji,Array.getElem?_map]at hx
      obtain⟨y,hy,rfl⟩:=Option.map_eq_some_iff.1 hx
      have hqj:=hL.old j y hj hy
      rw [woken_quitsD hqj,ConcN.upd_ne q k (Ne.symm hji),Deaf_other t hji _ (fun op hop=>by obtain⟨e,_,rfl⟩:=Go.Conc.mem_ofEvents hop;rfl)]
      exact hqj
    ·rw [Deaf_other t (g':=i) (by simp at hj;omega) _ (fun op hop=>by obtain⟨e,_,rfl⟩:=Go.Conc.mem_ofEvents hop;rfl)]
     exact hL.above j (by simpa using hj)
    ·obtain⟨a',w',es',B',h1,h2,h3,h4⟩:=K d'
     exact⟨a',w',es',B',h1,h2,h3,fun gs' sl'' t' q' hs=>h4 gs' sl'' t' q' (hs.trans hsz)⟩
end
def ShB (Sb:Nat→Prop):Loc→Prop
 | .cell a=>Sb a.block
 | .obj b=>Sb b
 |_=>False
section
variable {P:Program} {fb:FB} {F G:FuncId→Prop} {kg k':List Item} {D':List Deferred} {K':CallKind} {base':List Frame} {r r1:Map} {S:Frame→List Frame→World→Prop} {Sb:Nat→Prop} {Post:Value→World→Prop}
variable {v v1 w w1:World} {cs cs':List Frame} {fr fr':Frame} {u:List Event}
structure Clear (Sb:Nat→Prop)(r:Map)(w:World):Prop where
 lt:∀B,Sb B→B<w.heap.size
 apart:∀B,Sb B→¬Has r B
theorem Clear.st (h:Clear Sb r w)(st:St P F r r1 v v1 w w1 u):Clear Sb r1 w1:=by
 refine⟨fun B hB=>Nat.lt_of_lt_of_le (h.lt B hB) st.rsize,fun B hB hh=>?_⟩
 obtain⟨b,s,hb⟩:=hh
 rcases st.new b _ hb with h1|⟨_,h1⟩
 ·exact h.apart B hB ⟨b,s,h1⟩
 ·exact absurd (h.lt B hB) (Nat.not_lt.2 h1)
theorem Clear.at (h:Clear Sb r w)(d:Nat):Clear Sb r (w.at d):=⟨h.lt,h.apart⟩
theorem evL_of (hw:WR P F r v w)(hc:Clear Sb r w){e:Event}(h:EvOk r v e):EvL (ShB Sb) w.heap.size e:=by
 rcases h with ⟨b,B,s,o,wr,rfl,h2,h3,h4⟩|⟨b,B,s,rfl,h2⟩|⟨f,rfl⟩|rfl
 ·refine⟨fun x hx hs=>?_,by simp,by simp,?_⟩
  ·simp only [ofEvent_cell0,MemAct.touch?,Option.some.injEq]at hx
   subst hx
   exact absurd ⟨b,s,h2⟩ (hc.apart B hs)
  ·rw [ofEvent_cell0];exact(hw.lt h2).2
 ·refine⟨fun x hx hs=>?_,by simp,by simp,?_⟩
  ·have e1:MemAct.ofEvent ⟨.obj B,false,false⟩=.access ⟨.obj B,false,false⟩:=rfl
   rw [e1]at hx
   simp only [MemAct.touch?,Option.some.injEq]at hx
   subst hx
   exact absurd ⟨b,s,h2⟩ (hc.apart B hs)
  ·exact(hw.lt h2).2
 ·exact⟨fun x hx=>(by cases hx),by simp,by simp,trivial⟩
 ·exact⟨fun x hx=>(by cases hx),by simp,by simp,trivial⟩
theorem seg (hFb:∀ f,fb.val f=true→F f)(hF:∀ f,F f∨fb.call f=true→FnOk P F G f)(hG:Fine P fb G)(hK:K'≠.early)(hkg:Kg kg)(hk0:kg=[]→k'=[])(hS:∀ fr cs v,S fr cs v→AtStop P kg fr cs) :
  ∀x,Acc (Nearer P S) x→∀r fr' cs' w gs sl t q B,WR P F r x.2.2 w→SkR P fb F kg k' D' K' base' r x.1 x.2.1 fr' cs'→Tr P S x.1 x.2.1 x.2.2→Clear Sb r w→gs[0]?=some (Go.Conc.G fr' cs')→Leavers P t gs q→B≤w.heap.size→Past (ShB Sb) B t →
   (∀fr1 cs1 v1 r1 fr1' cs1' w1 gs1 sl1 t1 q1 B1,S fr1 cs1 v1→SkR P fb F kg k' D' K' base' r1 fr1 cs1 fr1' cs1'→Sg P F r r1 x.2.2 v1 w w1→Clear Sb r1 w1→gs1.size=gs.size→gs1[0]?=some (Go.Conc.G fr1' cs1')→Leavers P t1 gs1 q1→B1≤w1.heap.size→Past (ShB Sb) B1 t1 →
     Win P Post (crowd gs1 w1 sl1) t1)→Win P Post (crowd gs w sl) t:=by
 intro x hx
 induction hx with
 |intro x _ ih=>
  intro r fr' cs' w gs sl t q B hw hk ht hc h0 hL hB hP K
  by_cases hs:S x.1 x.2.1 x.2.2
  ·exact K _ _ _ r fr' cs' w gs sl t q B hs hk (Sg.refl hw) hc rfl h0 hL hB hP
  ·refine beside_go _ B gs _ w sl t q (Nat.le_refl _) h0 rfl hL hP fun d=>?_
   obtain⟨fr1,cs1,v1,r1,fr1',cs1',w1,es',e1,e2,e3,e4,e5⟩:=lift_step (main:=true) (w:=w.at d) hFb hF hG hK hkg hk0 hS (hw.of_heap rfl rfl) hk ht hs
   have hc1:Clear Sb r1 w1:=(hc.at d).st e3
   have hsz:w.heap.size≤w1.heap.size:=e3.rsize
   refine⟨_,w1,es',w1.heap.size,e1,Nat.le_trans hB hsz,fun e he=>evL_of e3.wr hc1 (e3.evs e (by simpa using he)),fun gs' sl' t' q' hs' h0' hL' hP'=>?_⟩
   refine ih (fr1,cs1,v1) e5 r1 fr1' cs1' w1 gs' sl' t' q' _ e3.wr e2 e4 hc1 h0' hL' (Nat.le_refl _) hP' fun fr2 cs2 v2 r2 fr2' cs2' w2 gs2 sl2 t2 q2 B2 g1 g2 g3 g4 g5 g6 g7 g8 g9=>?_
   refine K fr2 cs2 v2 r2 fr2' cs2' w2 gs2 sl2 t2 q2 B2 g1 g2 ?_ g4 (g5.trans hs') g6 g7 g8 g9
   have e6:=Sg.of_st e3
   exact Sg.trans hw (⟨e6.le,e6.new,e6.wr,e6.gsize,e6.gkeep,e6.rsize,e6.rkeep,e6.rest,e6.grest⟩:Sg P F r r1 x.2.2 v1 w w1) g3
end
section
variable {P:Program} {fb:FB} {F G:FuncId→Prop} {kg k':List Item} {D':List Deferred} {K':CallKind} {base':List Frame} {r r1:Map} {S:Frame→List Frame→World→Prop} {Sb:Nat→Prop} {Post:Value→World→Prop}
variable {v v1 w w1:World} {cs cs':List Frame} {fr fr':Frame} {u:List Event} {main:Bool}
theorem callFunc_runT {f : FuncId} {fn : Func} (hf : P.funcs[f]? = some fn) (hn : (fn.name == "runtime.NumGoroutine") = false) (hb : fn.body.isNone = false) (args : Array Value) (w : World) (es : Array Event) : (callFunc f args).runT P w es = (.ok (.enter f args) w, es) := by
 unfold callFunc
 show(Sem.bind Go.program _).runT P w es=_
 rw [runT_bind]
 have e:Go.program.runT P w es=(.ok P w,es):=rfl
 rw [e]
 simp only [hf,hn,hb,Bool.false_eq_true,if_false]
 rfl
theorem Wt.finish {c0 c0':Frame}(h:Wt P fb F kg k' D' K' base' r (c0::cs) (c0'::cs')){x x':Value}(hx:VR F r x x'):SkR P fb F kg k' D' K' base' r (c0.finish x) cs (c0'.finish x') cs':=by
 cases h with
 | @bot fn1 tmps1 tmps1' ops i rest pre h ho hp=>
  have hp1:(.inRegion ops rest::pre:List Item).all (niceItem P fb)=true:=by simp only [List.all_cons,Bool.and_eq_true];exact⟨ho,hp⟩
  obtain⟨t,t',p1,p2,p3⟩:=put_like h ((ops[i]?).bind (·.dst)) hx [] D'
  have e1:(mk fn1 .normal tmps1 [] (.inRegion ops (i::rest)::pre++kg) false).finish x=mk fn1 .normal t [] ((.inRegion ops rest::pre)++kg) false:=by
   show((bs fn1 .normal).at ⟨tmps1,[]⟩ (.inRegion ops (i::rest)::(pre++kg))).finish x=_
   rw [Frame.finish_at,p1];rfl
  have e2:(mk fn1 K' tmps1' D' (.inRegion ops (i::rest)::pre++k') false).finish x'=mk fn1 K' t' D' ((.inRegion ops rest::pre)++k') false:=by
   show((bs fn1 K').at ⟨tmps1',D'⟩ (.inRegion ops (i::rest)::(pre++k'))).finish x'=_
   rw [Frame.finish_at,p2];rfl
  rw [e1,e2]
  exact Tl.bot.sk (.mk p3 hp1)
 | @up fn1 tmps1 tmps1' ops i rest pre fs fs' h ho hp k=>
  have hp1:(.inRegion ops rest::pre:List Item).all (niceItem P fb)=true:=by simp only [List.all_cons,Bool.and_eq_true];exact⟨ho,hp⟩
  obtain⟨t,t',p1,p2,p3⟩:=put_like h ((ops[i]?).bind (·.dst)) hx [] []
  have e1:(mk fn1 .normal tmps1 [] (.inRegion ops (i::rest)::pre) false).finish x=mk fn1 .normal t [] ((.inRegion ops rest::pre)++[]) false:=by
   show((bs fn1 .normal).at ⟨tmps1,[]⟩ (.inRegion ops (i::rest)::pre)).finish x=_
   rw [Frame.finish_at,p1,List.append_nil];rfl
  have e2:(mk fn1 .normal tmps1' [] (.inRegion ops (i::rest)::pre) false).finish x'=mk fn1 .normal t' [] ((.inRegion ops rest::pre)++[]) false:=by
   show((bs fn1 .normal).at ⟨tmps1',[]⟩ (.inRegion ops (i::rest)::pre)).finish x'=_
   rw [Frame.finish_at,p2,List.append_nil];rfl
  rw [e1,e2]
  exact(Tl.up k).sk (.mk p3 hp1)
theorem undef_like {x:Value}(h:VR F r undef x):x=undef:=by
 cases h with
 | @tuple xs ys h1 h2=>
  have:ys=#[]:=Array.eq_empty_of_size_eq_zero (by rw [←h1];rfl)
  subst this;rfl
theorem VA.split {xs ys:Array Value}{n:Nat}(h:VA F r (xs++Array.replicate n undef) ys):∃zs,ys=zs++Array.replicate n undef∧VA F r xs zs:=by
 have hs:ys.size=xs.size+n:=by rw [←h.1];simp
 refine⟨ys.extract 0 xs.size,?_,?_⟩
 ·apply Array.ext
  ·simp;omega
  ·intro i h1 h2
   rw [Array.getElem_append]
   split
   ·simp
   ·rename_i hge
    have hge:xs.size≤i:=by simp at hge;omega
    rw [Array.getElem_replicate]
    have e1:(xs++Array.replicate n undef)[i]?=some undef:=by
     rw [Array.getElem?_append_right hge,Array.getElem?_replicate,if_pos (by omega)]
    exact undef_like (h.2 i _ _ e1 (Array.getElem?_eq_getElem h1))
 ·refine⟨by simp;omega,fun i x y h1 h2=>?_⟩
  have hi:i<xs.size:=(Array.getElem?_eq_some_iff.1 h1).1
  refine h.2 i x y (by rw [Array.getElem?_append_left hi];exact h1) ?_
  rw [Array.getElem?_extract]at h2
  split at h2
  ·simpa using h2
  ·cases h2
theorem enter_real {f:FuncId}{fn:Func}{c:Code}(hf:P.funcs[f]?=some fn)(hb:fn.body=some c){args:Array Value}{c0:Frame}(h:SkR P fb F kg k' D' K' base' r (Frame.enter P f args .normal) (c0::cs) fr' cs')(hcs:cs≠[]) :
  ∃args' c0' cs'',cs'=c0'::cs''∧fr'=Frame.enter P f args' .normal∧VA F r args args'∧Wt P fb F kg k' D' K' base' r (c0::cs) (c0'::cs''):=by
 obtain⟨a,b,c1,d,hT,hfr⟩:=h
 generalize hq:c0::cs=q at hT
 cases hT with
 |bot=>injection hq with _ hq;exact absurd hq hcs
 |up k=>
  subst hq
  obtain⟨c0',cs'',rfl⟩:∃c0' cs'',cs'=c0'::cs'':=by cases k<;>exact⟨_,_,rfl⟩
  rw [enter_mk args hf hb]at hfr
  generalize hq:mk f .normal (args++Array.replicate (fn.ntmps-args.size) undef) [] ([.code c]++[]) false=q at hfr
  cases hfr with
  | @mk fn0 tmps tmps' pre ret hv hp=>
   have e1:=congrArg Frame.mode hq
   cases ret with
   |true=>cases e1
   |false=>
    have e2:args++Array.replicate (fn.ntmps-args.size) undef=tmps:=congrArg Frame.tmps hq
    have e3:f=fn0:=congrArg Frame.fn hq
    have e4:[.code c]++[]=pre++[]:=congrArg Frame.todo hq
    subst e3 e2
    rw [List.append_nil,List.append_nil]at e4
    subst e4
    obtain⟨zs,rfl,hz⟩:=hv.split
    refine⟨zs,c0',cs'',rfl,?_,hz,k⟩
    rw [enter_mk zs hf hb,←hz.1]
theorem ret_step {f:FuncId}{fn:Func}{c0:Frame}{x:Value}{es:Array Event}(hf:P.funcs[f]?=some fn)(h1:fr.fn=f)(h2:fr.mode=.returning)(h3:fr.defers=[])(h4:fr.kind=.normal)(h5:(results fn fr.tmps).runT P w #[]=(.ok x w,es)) :
  stepG P main (Go.Conc.G fr (c0::cs)) w=.go (Go.Conc.G (c0.finish x) cs) w (seen P f es):=by
 simp only [Go.Conc.G,stepG,h2,unwind,h3,h1,hf,h5,doReturn,h4,GStep.after,Array.append_empty]
abbrev Gt:=Array Value→World→Prop
inductive TrO (P:Program)(fb fo:FB)(F G:FuncId→Prop)(gf:FuncId)(Ga:Array Value→World→Prop)(Gp:Array Value→World→Value→World→Prop)(S:Frame→List Frame→World→Prop):Frame→List Frame→World→Prop
 |stop {fr:Frame} {cs:List Frame} {v:World} (h:S fr cs v):TrO P fb fo F G gf Ga Gp S fr cs v
 |self {fr:Frame} {cs:List Frame} {v:World} (h:∀r,WR P F r v v→VA F r fr.tmps fr.tmps→TrO P fb fo F G gf Ga Gp S fr cs v):TrO P fb fo F G gf Ga Gp S fr cs v
 |step {fr:Frame} {cs:List Frame} {v:World} (f:Tape→Frame) (c:Tape→List Frame) (x:Tape→World) (hn:∀T,∀chain,(f T).mode≠.panicking chain) (hne:∀T,(f T).fn≠gf) (hs:¬AtStop P [] fr cs)
   (h:∀T,Alike 0 v.drawn T v.tape→∃es,stepG P true (Go.Conc.G fr cs) (tp v T)=.go (Go.Conc.G (f T) (c T)) (x T) es)
   (k:∀T,Alike 0 v.drawn T v.tape→TrO P fb fo F G gf Ga Gp S (f T) (c T) (x T)):TrO P fb fo F G gf Ga Gp S fr cs v
 |lone {f:FuncId} {args:Array Value} {c0:Frame} {cs:List Frame} {v:World} {R:Value→World→Prop} (hf:G f) (hcs:cs≠[]) (t:Tr P (Left P f R) (Frame.enter P f args .normal) [catcher P] v)
   (k:∀x v1,R x v1→TrO P fb fo F G gf Ga Gp S (c0.finish x) cs v1):TrO P fb fo F G gf Ga Gp S (Frame.enter P f args .normal) (c0::cs) v
 |piece {fn:FuncId} {c:Code} (hc:niceCode P fb c=true) {tmps:Array Value} {k:List Item} {cs:List Frame} {v:World} {N N':Array Value→World→Prop} (t:Tr P (Over P fn N N') (mk fn .normal tmps [] ([.code c]++under) false) [catcher P] v)
   (k1:∀tmps1 v1,N tmps1 v1→TrO P fb fo F G gf Ga Gp S (mk fn .normal tmps1 [] k false) cs v1) (k2:∀tmps1 v1 todo,N' tmps1 v1→TrO P fb fo F G gf Ga Gp S (mk fn .normal tmps1 [] todo true) cs v1):
   TrO P fb fo F G gf Ga Gp S (mk fn .normal tmps [] (.code c::k) false) cs v
 |gather {fn:FuncId} {tmps:Array Value} {ops:Array Oper} {i:Nat} {rest:List Nat} {k:List Item} {cs:List Frame} {v:World} {o:Oper} {xs:Array Operand} {ats:Array TypeId} (ho:ops[i]?=some o) (hw:Region.wanted o (yielded ops tmps)=true)
   (hop:o.op=.call { callee:=.value (.func gf),args:=xs,argTypes:=ats }) (hx:xs.all (argB fo)=true) (h:Ga (xs.map (⟨tmps,[]⟩:Act).eval) v)
   (kk:∀x v1,Gp (xs.map (⟨tmps,[]⟩:Act).eval) v x v1→TrO P fb fo F G gf Ga Gp S ((mk fn .normal tmps [] (.inRegion ops (i::rest)::k) false).finish x) cs v1):
   TrO P fb fo F G gf Ga Gp S (mk fn .normal tmps [] (.inRegion ops (i::rest)::k) false) cs v
def GatherOk (P:Program)(F:FuncId→Prop)(gf:FuncId)(Ga:Array Value→World→Prop)(Gp:Array Value→World→Value→World→Prop)(Post:Value→World→Prop):Prop:=
 ∀(r:Map) (v w:World) (args args':Array Value) (c0':Frame) (cs':List Frame) (gs:Array Goroutine) (sl:Option (Nat×Nat)) (t:Trace) (q:Nat→Nat) (Sb:Nat→Prop) (B:Nat),
  Ga args v→VA F r args args'→WR P F r v w→Clear Sb r w→gs[0]?=some (Go.Conc.G (Frame.enter P gf args' .normal) (c0'::cs'))→Leavers P t gs q→B≤w.heap.size→Past (ShB Sb) B t →
  (∀x x' v1 r1 w1 gs1 sl1 t1 q1 Sb1 B1,Gp args v x v1→VR F r1 x x'→Sg P F r r1 v v1 w w1→Clear Sb1 r1 w1→gs1[0]?=some (Go.Conc.G (c0'.finish x') cs')→Leavers P t1 gs1 q1→B1≤w1.heap.size→Past (ShB Sb1) B1 t1→Win P Post (crowd gs1 w1 sl1) t1) →
  Win P Post (crowd gs w sl) t
end
end Go.Proofs.YtngdldcgkaplbaaGreat.Lk