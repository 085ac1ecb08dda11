import Derived.Test.YtngdldcgkaplbaaGreatK16
import Derived.Conc.CrowdComm
import Derived.Conc.QuitsD
set_option linter.unusedVariables false
set_option linter.unusedSimpArgs false
set_option maxHeartbeats 40000000
set_option maxRecDepth 100000
namespace Go.Proofs.YtngdldcgkaplbaaGreat.Lk
open Go
def selfM (r:Map):Map:=fun b=>(r b).map fun _=>(b,0)
section
variable {P:Program} {F:FuncId→Prop} {r:Map} {v w:World}
theorem AR.left {a a':Addr}(h:AR r a a'):AR (selfM r) a a:=by
 obtain⟨b,o,B,s,rfl,h2,_⟩:=h
 exact⟨b,o,b,0,rfl,by simp [selfM,h2],rfl⟩
theorem VR.left {x x':Value}(h:VR F r x x'):VR F (selfM r) x x:=by
 have at_:∀{xs ys:Array Value},xs.size=ys.size→(∀(i:Nat) (a b:Value),xs[i]?=some a→ys[i]?=some b→VR F (selfM r) a a)→∀(i:Nat) (a b:Value),xs[i]?=some a→xs[i]?=some b→VR F (selfM r) a b:=by
  intro xs ys hs k i a b h1 h2
  rw [h1]at h2
  injection h2 with h2
  subst h2
  have hi:i<ys.size:=by rw [←hs];exact(Array.getElem?_eq_some_iff.1 h1).1
  exact k i a _ h1 (Array.getElem?_eq_getElem hi)
 induction h with
 |bool b=>exact .bool b
 |int k n=>exact .int k n
 |float k n=>exact .float k n
 |string x=>exact .string x
 |nilp=>exact .nilp
 |ptr k=>exact .ptr k.left
 |nils l c=>exact .nils l c
 |slice l c k=>exact .slice l c k.left
 |nilf=>exact .nilf
 |void=>exact .nilf
 |voidp=>exact .nilf
 |func hf h1 h2 h3 h4 i2 i4=>exact .func hf rfl (at_ h1 i2) rfl (at_ h3 i4)
 |nili=>exact .nili
 |chan c=>exact .chan c
 |iface t _ ih=>exact .iface t ih
 |agg h1 _ ih=>exact .agg rfl (at_ h1 ih)
 |tuple h1 _ ih=>exact .tuple rfl (at_ h1 ih)
theorem VA.left {xs ys:Array Value}(h:VA F r xs ys):VA F (selfM r) xs xs:=by
 refine⟨rfl,fun i a b h1 h2=>?_⟩
 rw [h1]at h2
 injection h2 with h2
 subst h2
 obtain⟨y,hy,hv⟩:=h.get h1
 exact hv.left
theorem WR.left (h:WR P F r v w):WR P F (selfM r) v v:=by
 have inv:∀{b B s:Nat},selfM r b=some (B,s)→B=b∧s=0∧∃C t,r b=some (C,t):=by
  intro b B s hb
  unfold selfM at hb
  cases hr:r b with
  |none=>rw [hr]at hb;cases hb
  |some x=>
   rw [hr]at hb
   simp only [Option.map_some,Option.some.injEq,Prod.mk.injEq]at hb
   exact⟨hb.1.symm,hb.2.symm,x.1,x.2,rfl⟩
 refine⟨fun b B s hb=>?_,⟨h.gl.1,h.gl.1⟩,fun b B s hb=>?_,fun b b' B s s' o o' hb hb' _ _ e=>?_⟩
 ·obtain⟨rfl,rfl,C,t,hr⟩:=inv hb
  exact⟨(h.low _ _ _ hr).1,(h.low _ _ _ hr).1⟩
 ·obtain⟨rfl,rfl,C,t,hr⟩:=inv hb
  rcases h.live _ _ _ hr with ⟨cs,e,lo,hi,cs',e',lo',hi',h1,h2,h3,h4,h5,h6⟩|⟨a,a',lost,h1,h2,h3,h4⟩
  ·refine .inl ⟨cs,e,lo,hi,cs,e,lo,hi,h1,h1,by omega,fun o x hx=>⟨x,by rw [Nat.zero_add];exact hx,?_⟩,fun o ho hn=>by rw [Nat.zero_add];exact hn,.inl ⟨rfl,rfl,rfl⟩⟩
   obtain⟨x',_,hv⟩:=h4 o x hx
   exact hv.left
  ·exact .inr ⟨a,a,lost,h1,h1,rfl,h4.left⟩
 ·obtain⟨rfl,rfl,_⟩:=inv hb
  obtain⟨rfl,rfl,_⟩:=inv hb'
  exact⟨rfl,by omega⟩
theorem self_like (h:WR P F r v w){T T':Array Value}(k:VA F r T T'):∃ri,WR P F ri v v∧VA F ri T T:=⟨_,h.left,k.left⟩
end
end Go.Proofs.YtngdldcgkaplbaaGreat.Lk
namespace Go.Proofs.YtngdldcgkaplbaaGreat.Lk
open Go Go.Conc
open Go.ConcN (sumTo upd sumTo_upd upd_ne upd_same)
section
variable {P:Program} {fb fo:FB}
theorem argB_mono (hv:∀ f,fb.val f=true→fo.val f=true){x:Operand}(h:argB fb x=true):argB fo x=true:=by
 cases x with
 |func f=>exact hv f h
 |_=>exact h
theorem niceOp_mono (hv:∀ f,fb.val f=true→fo.val f=true)(hc:∀ f,fb.call f=true→fo.call f=true){o:Oper}(h:niceOp P fb o=true):niceOp P fo o=true:=by
 have a1:∀{x:Operand},argB fb x=true→argB fo x=true:=argB_mono hv
 have aa:∀{xs:Array Operand},xs.all (argB fb)=true→xs.all (argB fo)=true:=fun h=>Array.all_eq_true'.2 fun x hx=>a1 (Array.all_eq_true'.1 h x hx)
 have ao:∀{x:Option Operand},x.all (argB fb)=true→x.all (argB fo)=true:=fun {x} h=>by cases x;exact h;exact a1 h
 have ap:∀{xs:Array (Nat×Operand)},(xs.all fun p=>argB fb p.2)=true→(xs.all fun p=>argB fo p.2)=true:=fun h=>Array.all_eq_true'.2 fun x hx=>a1 (Array.all_eq_true'.1 h x hx)
 unfold niceOp at h ⊢
 split at h<;>first
  |(cases h;done)
  |exact a1 h
  |exact h
  |(simp only [Bool.and_eq_true]at h ⊢;first
     |exact⟨a1 h.1,a1 h.2⟩
     |exact⟨⟨a1 h.1.1,a1 h.1.2⟩,a1 h.2⟩
     |exact⟨h.1,ap h.2⟩
     |exact⟨h.1,a1 h.2⟩
     |exact⟨⟨h.1.1,a1 h.1.2⟩,a1 h.2⟩
     |exact⟨⟨hv _ h.1.1,aa h.1.2⟩,aa h.2⟩
     |exact⟨⟨⟨a1 h.1.1.1,ao h.1.1.2⟩,ao h.1.2⟩,ao h.2⟩
     |(refine⟨aa h.1,?_⟩
       have h2:=h.2
       split at h2<;>first
        |exact hc _ h2
        |exact a1 h2
        |exact h2
        |cases h2))
theorem niceCode_mono (hv:∀ f,fb.val f=true→fo.val f=true)(hc:∀ f,fb.call f=true→fo.call f=true):∀c:Code,niceCode P fb c=true→niceCode P fo c=true
 | .skip,_ | .ret,_ | .label _,_ | .exit _,_ | .goto _,_=>rfl
 | .region _ ops _,h=>Array.all_eq_true'.2 fun x hx=>niceOp_mono hv hc (Array.all_eq_true'.1 h x hx)
 | .seq a b,h=>by
  simp only [niceCode,Bool.and_eq_true]at h ⊢
  exact⟨niceCode_mono hv hc a h.1,niceCode_mono hv hc b h.2⟩
 | .cond c a b,h=>by
  simp only [niceCode,Bool.and_eq_true]at h ⊢
  exact⟨⟨argB_mono hv h.1.1,niceCode_mono hv hc a h.1.2⟩,niceCode_mono hv hc b h.2⟩
 | .block _ c,h | .loop c,h | .scope c,h=>niceCode_mono hv hc c h
 | .rangeFunc _ _ _ _,h | .refuse _,h=>by cases h
theorem niceItem_mono (hv:∀ f,fb.val f=true→fo.val f=true)(hc:∀ f,fb.call f=true→fo.call f=true)(x:Item)(h:niceItem P fb x=true):niceItem P fo x=true:=by
 cases x with
 |code c=>exact niceCode_mono hv hc c h
 |inLoop c=>exact niceCode_mono hv hc c h
 |inScope c=>exact niceCode_mono hv hc c h
 |inBlock _=>rfl
 |inRegion ops _=>exact Array.all_eq_true'.2 fun x hx=>niceOp_mono hv hc (Array.all_eq_true'.1 h x hx)
 |_=>cases h
end
section
variable {P:Program} {fb:FB} {F G:FuncId→Prop} {kg k':List Item} {D':List Deferred} {K':CallKind} {base':List Frame} {r r1 r0:Map} {S:Frame→List Frame→World→Prop} {Sb:Nat→Prop} {Post:Value→World→Prop}
variable {v v1 w w1 v0 w0:World} {cs cs':List Frame} {fr fr':Frame} {u:List Event} {main:Bool}
structure MS (P:Program)(fb:FB)(F:FuncId→Prop)(Sb:Nat→Prop)(r:Map)(fr:Frame)(cs:List Frame)(v:World)(fr':Frame)(cs':List Frame)(w:World)(gs:Array Goroutine)(t:Trace)(q:Nat→Nat)(B:Nat):Prop where
 sk:SkR P fb F [] [] [] .normal [] r fr cs fr' cs'
 wr:WR P F r v w
 cl:Clear Sb r w
 g0:gs[0]?=some (Go.Conc.G fr' cs')
 lv:Leavers P t gs q
 le:B≤w.heap.size
 pa:Past (ShB Sb) B t
theorem Sg.at (h:Sg P F r r1 v v1 w w1)(d:Nat):Sg P F r r1 v v1 w (w1.at d):=⟨h.le,h.new,h.wr.of_heap rfl rfl,h.gsize,h.gkeep,h.rsize,h.rkeep,h.rest,h.grest⟩
theorem Sg.from {d:Nat}(h:Sg P F r r1 v v1 (w.at d) w1):Sg P F r r1 v v1 w w1:=⟨h.le,h.new,h.wr,h.gsize,h.gkeep,h.rsize,h.rkeep,h.rest,h.grest⟩
theorem Tl.kind0 {a b:List Item}{c:List Deferred}{d:CallKind}(h:Tl P fb F [] [] [] .normal [] r a b c d cs cs'):d=.normal∧a=[]∧b=[]∧c=[]:=by
 cases h with
 |bot=>exact⟨rfl,rfl,rfl,rfl⟩
 |up _=>exact⟨rfl,rfl,rfl,rfl⟩
theorem SkR.run {fn:FuncId}{tmps:Array Value}{x:Item}{k:List Item}(h:SkR P fb F [] [] [] .normal [] r (mk fn .normal tmps [] (x::k) false) cs fr' cs') :
  ∃tmps',fr'=mk fn .normal tmps' [] (x::k) false∧VA F r tmps tmps'∧niceItem P fb x=true∧k.all (niceItem P fb)=true∧Tl P fb F [] [] [] .normal [] r [] [] [] .normal cs cs':=by
 obtain⟨a,b,c1,d,hT,hfr⟩:=h
 obtain⟨rfl,rfl,rfl,rfl⟩:=hT.kind0
 generalize hq:mk fn .normal tmps [] (x::k) false=q at hfr
 cases hfr with
 | @mk fn0 tmps0 tmps' pre ret hv hp=>
  cases ret with
  |true=>exact absurd (congrArg Frame.mode hq) (by intro h;cases h)
  |false=>
   have e2:tmps=tmps0:=congrArg Frame.tmps hq
   have e3:fn=fn0:=congrArg Frame.fn hq
   have e4:x::k=pre++[]:=congrArg Frame.todo hq
   subst e2 e3
   rw [List.append_nil]at e4
   subst e4
   simp only [List.all_cons,Bool.and_eq_true]at hp
   exact⟨tmps',by rw [List.append_nil],hv,hp.1,hp.2,hT⟩
theorem SkR.tmps {fr fr':Frame}(h:SkR P fb F [] [] [] .normal [] r fr cs fr' cs'):VA F r fr.tmps fr'.tmps:=by
 obtain⟨a,b,c,d,_,hfr⟩:=h
 cases hfr with
 | @mk fn tmps tmps' pre ret hv hp=>cases ret<;>exact hv
variable {gf:FuncId} {gfn:Func} {gc:Code} {Ga:Array Value→World→Prop} {Gp:Array Value→World→Value→World→Prop}
theorem tro_wins {fo : FB} {GO : FuncId → Prop} (hFb : ∀ f, fb.val f = true → F f) (hF : ∀ f, F f ∨ fb.call f = true → FnOk P F G f) (hG : Fine P fb G) (hFo : ∀ f, fo.val f = true → F f) (hFO : ∀ f, F f ∨ fo.call f = true → FnOk P F GO f) (hGO : FineX P fo GO (· = gf)) (hmono : ∀ x, niceItem P fb x = true → niceItem P fo x = true) (hg1 : P.funcs[gf]? = some gfn) (hg2 : (gfn.name == "runtime.NumGoroutine") = false) (hg3 : gfn.body.isNone = false) (hGa : GatherOk P F gf Ga Gp Post)
  (hfin:∀r fr cs v fr' cs' w gs sl t q Sb B,S fr cs v→MS P fo F Sb r fr cs v fr' cs' w gs t q B→Sg P F r0 r v0 v w0 w→Win P Post (crowd gs w sl) t) (hw0:WR P F r0 v0 w0):
  ∀{fr cs v},TrO P fb fo F G gf Ga Gp S fr cs v→∀r fr' cs' w gs sl t q Sb B,MS P fo F Sb r fr cs v fr' cs' w gs t q B→Sg P F r0 r v0 v w0 w→Win P Post (crowd gs w sl) t:=by
 intro fr cs v h
 induction h with
 |stop h=>intro r fr' cs' w gs sl t q Sb B hm hg;exact hfin _ _ _ _ _ _ _ _ _ _ _ _ _ h hm hg
 |self h ih=>intro r fr' cs' w gs sl t q Sb B hm hg;exact ih _ hm.wr.left hm.sk.tmps.left r fr' cs' w gs sl t q Sb B hm hg
 | @step fr cs v f c x hn hne hs h k ih=>
  intro r fr' cs' w gs sl t q Sb B hm hg
  refine beside_go _ B gs _ w sl t q (Nat.le_refl _) hm.g0 rfl hm.lv hm.pa fun d=>?_
  have hT:=tapeOf_alike v (w.at d)
  obtain⟨es,e⟩:=h _ hT
  have hw':WR P F r (tp v (tapeOf v (w.at d))) (w.at d):=hm.wr.of_heap rfl rfl
  have ho:=sim_stepX (main:=true) (X:=(·=gf)) hFo hFO hGO (by simp) (Kg.plain (.inl rfl)) (fun h=>h) hw' (tapeOf_tp v (w.at d)) hm.sk hs (fun f xs q v1 es hf e2=>by
   rw [e]at e2
   injection e2 with e3 _ _
   injection e3 with e4 _
   refine hne (tapeOf v (w.at d)) ?_
   rw [e4,←hf]
   rfl)
  rw [e]at ho
  rcases ho with ⟨fr1,cs1,r1,fr1',cs1',w1,es',e1,e2,e3,e4⟩|⟨fr1,cs1,e1,hb⟩
  ·injection e1 with e5 e6
   have hc1:Clear Sb r1 w1:=(hm.cl.at d).st e4
   refine⟨_,w1,es',w1.heap.size,e2,Nat.le_trans hm.le e4.rsize,fun e he=>evL_of e4.wr hc1 (e4.evs e (by simpa using he)),fun gs' sl' t' q' hs' h0' hL' hP'=>?_⟩
   refine ih _ hT r1 fr1' cs1' w1 gs' sl' t' q' Sb _ ⟨?_,e4.wr,hc1,h0',hL',Nat.le_refl _,hP'⟩ (hg.trans hw0 (Sg.from (d:=d) (Sg.of_st e4)))
   rw [e5,e6]
   exact e3
  ·injection e1 with e5 e6
   obtain⟨_,⟨fr4,rest,chain,e7,hmd⟩,_⟩:=hb
   injection e7 with e7 _
   exact absurd hmd (by rw [←e7,←e5];exact hn _ chain)
 | @lone f args c0 cs v R hf hcs ht k ih=>
  intro r fr' cs' w gs sl t q Sb B hm hg
  obtain⟨fn,c,h1,h2,h3⟩:=hG f hf
  obtain⟨args',c0',cs'',rfl,rfl,ha,hwt⟩:=enter_real h1 h2 hm.sk hcs
  have hk:SkR P fb F [] [] [] .normal (c0'::cs'') r (Frame.enter P f args .normal) [catcher P] (Frame.enter P f args' .normal) (c0'::cs''):=by
   rw [enter_mk args h1 h2,enter_mk args' h1 h2,←ha.1]
   exact Tl.bot.sk (.mk (pre:=[.code c]) (ret:=false) (ha.append (VA.undefs _)) (by simp only [List.all_cons,List.all_nil,Bool.and_true];exact h3))
  refine seg (Sb:=Sb) hFb hF hG (by simp) (.inl rfl) (fun h=>h) (fun fr cs v h=>⟨h.1,.inl h.2.1⟩) _ ht.acc r _ _ w gs sl t q B hm.wr hk ht hm.cl hm.g0 hm.lv hm.le hm.pa fun fr1 cs1 v1 r1 fr1' cs1' w1 gs1 sl1 t1 q1 B1 g1 g2 g3 g4 g5 g6 g7 g8 g9=>?_
  refine beside_go _ B1 gs1 _ w1 sl1 t1 q1 (Nat.le_refl _) g6 rfl g7 g9 fun d=>?_
  obtain⟨x,x',fn',es,k1,k2,k3,k4,k5,k6,k7,k8,k9,k10⟩:=left_real (w:=w1.at d) g1 g2 (g3.wr.of_heap rfl rfl)
  subst k5
  refine⟨_,w1.at d,_,w1.heap.size,ret_step k3 k4 k6 k7 k8 k9,g8,fun e he=>?_,fun gs' sl' t' q' hs' h0' hL' hP'=>?_⟩
  ·exact evL_of (Sb:=Sb) (g3.wr.of_heap (v1:=v1) (w1:=w1.at d) rfl rfl) (g4.at d) (k10 e (seen_mem P f es e (by simpa using he)))
  ·exact ih x v1 k1 r1 _ _ (w1.at d) gs' sl' t' q' Sb _ ⟨(hwt.mono g3.le).finish k2,g3.wr.of_heap rfl rfl,g4.at d,h0',hL',Nat.le_refl _,hP'⟩ ((hg.trans hw0 g3).at d)
 | @piece fn c hcn tmps k cs v N N' ht k1 k2 ih1 ih2=>
  intro r fr' cs' w gs sl t q Sb B hm hg
  obtain⟨tmps',rfl,hv,hc,hkn,hT⟩:=hm.sk.run
  have hk:SkR P fb F under k [] .normal cs' r (mk fn .normal tmps [] ([.code c]++under) false) [catcher P] (mk fn .normal tmps' [] ([.code c]++k) false) cs':=
   Tl.bot.sk (.mk (pre:=[.code c]) (ret:=false) hv (by simp only [List.all_cons,List.all_nil,Bool.and_true];exact hcn))
  refine seg (Sb:=Sb) hFb hF hG (by simp) (.inr rfl) (fun h=>by cases h) (fun fr cs v h=>⟨h.1,?_⟩) _ ht.acc r _ _ w gs sl t q B hm.wr hk ht hm.cl hm.g0 hm.lv hm.le hm.pa fun fr1 cs1 v1 r1 fr1' cs1' w1 gs1 sl1 t1 q1 B1 g1 g2 g3 g4 g5 g6 g7 g8 g9=>?_
  ·rcases h.2.2 with ⟨h1,h2,_⟩|⟨h1,_⟩
   ·exact .inr ⟨by simp [under],h1,h2⟩
   ·exact .inl h1
  ·obtain⟨hc1,hfn,hcase⟩:=g1
   obtain⟨a,b,c1,d,hT1,hfr1⟩:=g2
   subst hc1
   cases hT1 with
   |up k=>cases k
   |bot=>
    cases hfr1 with
    | @mk fn1 tmps1 tmps1' pre1 ret1 hv1 hp1=>
     obtain rfl:fn1=fn:=by cases ret1<;>exact hfn
     rcases hcase with ⟨h1,h2,hN⟩|⟨h1,hN⟩
     ·cases ret1 with
      |true=>cases h1
      |false=>
       have h2:pre1++under=under:=h2
       obtain rfl:pre1=[]:=by
        have:=congrArg List.length h2
        rw [List.length_append]at this
        exact List.length_eq_zero_iff.1 (by omega)
       have sk:=(hT.mono g3.le).sk (FR.mk (fn:=fn1) (pre:=k) (ret:=false) hv1 hkn)
       rw [List.append_nil]at sk
       exact ih1 tmps1 v1 hN r1 _ _ w1 gs1 sl1 t1 q1 Sb B1 ⟨sk,g3.wr,g4,g6,g7,g8,g9⟩ (hg.trans hw0 g3)
     ·cases ret1 with
      |false=>cases h1
      |true=>
       have sk:=(hT.mono g3.le).sk (FR.mk (fn:=fn1) (pre:=pre1++k) (ret:=true) hv1 (by
        rw [List.all_append,hkn,List.all_eq_true.2 fun x hx=>hmono x (List.all_eq_true.1 hp1 x hx)];rfl))
       rw [List.append_nil]at sk
       exact ih2 tmps1 v1 (pre1++k) hN r1 _ _ w1 gs1 sl1 t1 q1 Sb B1 ⟨sk,g3.wr,g4,g6,g7,g8,g9⟩ (hg.trans hw0 g3)
 | @gather fn tmps ops i rest k cs v o xs ats ho hwt hop hx h kk ih=>
  intro r fr' cs' w gs sl t q Sb B hm hg
  obtain⟨tmps',rfl,hv,hx1,hkn,hT⟩:=hm.sk.run
  have hx1:ops.all (niceOp P fo)=true:=hx1
  have hwt':Region.wanted o (yielded ops tmps')=true:=by rw [←hwt];exact congrArg _ (funext fun j=>(yielded_like ops hv j).symm)
  have ha:VA F r (xs.map (⟨tmps,[]⟩:Act).eval) (xs.map (⟨tmps',[]⟩:Act).eval):=VA.map fun y hy=>eval_like hFo hv y (Array.all_eq_true'.1 hx y hy)
  have wt:=hT.wait (fn:=fn) (i:=i) (rest:=rest) hv hx1 hkn
  rw [List.append_nil]at wt
  refine beside_go _ B gs _ w sl t q (Nat.le_refl _) hm.g0 rfl hm.lv hm.pa fun d=>?_
  have hst:stepG P true (Go.Conc.G (mk fn .normal tmps' [] (.inRegion ops (i::rest)::k) false) cs') (w.at d)=.go (Go.Conc.G (Frame.enter P gf (xs.map (⟨tmps',[]⟩:Act).eval) .normal) (mk fn .normal tmps' [] (.inRegion ops (i::rest)::k) false::cs')) (w.at d) #[]:=by
   show stepG P true (Go.Conc.G ((bs fn .normal).at ⟨tmps',[]⟩ (.inRegion ops (i::rest)::k)) cs') _=_
   rw [stepG_oper ho hwt',execOp_call_func hop]
   simp only [stepG.apply,callFunc_runT hg1 hg2 hg3,if_true,GStep.after]
   rfl
  refine⟨_,w.at d,#[],B,hst,Nat.le_refl _,fun e he=>by simp at he,fun gs' sl' t' q' hs' h0' hL' hP'=>?_⟩
  refine hGa r v (w.at d) _ _ _ _ gs' sl' t' q' Sb B h ha (hm.wr.of_heap rfl rfl) (hm.cl.at d) h0' hL' hm.le hP' fun x x' v1 r1 w1 gs1 sl1 t1 q1 Sb1 B1 p1 p2 p3 p4 p5 p6 p7 p8=>?_
  exact ih x v1 p1 r1 _ _ w1 gs1 sl1 t1 q1 Sb1 B1 ⟨(wt.mono p3.le).finish p2,p3.wr,p4,p5,p6,p7,p8⟩ (hg.trans hw0 (Sg.from p3))
end
end Go.Proofs.YtngdldcgkaplbaaGreat.Lk
namespace Go.Proofs.YtngdldcgkaplbaaGreat.Gt
open Go Go.Conc Go.Conc.Lib
open Lk Fw
noncomputable abbrev P:Program:=Tryz.prog
noncomputable abbrev nW:Nat:=143
noncomputable abbrev fW:Func:=Tryz.f143
theorem at_W:P.funcs[nW]?=some fW:=Tryz.func143
noncomputable def bodyW:Code:=fW.body.getD .skip
noncomputable def cW:Code:=match bodyW with | .seq _ (.seq _ (.block _ (.loop c)))=>c|_=>.skip
noncomputable def opsD:Array Oper:=match bodyW with | .seq (.region _ o _) _=>o|_=>#[]
noncomputable def opsL:Array Oper:=match bodyW with | .seq _ (.seq (.region _ o _) _)=>o|_=>#[]
noncomputable def opsR:Array Oper:=match cW with | .seq (.region _ o _) _=>o|_=>#[]
noncomputable def tailW:Code:=match cW with | .seq _ c=>c|_=>.skip
noncomputable def pieceW:Code:=match tailW with | .seq _ (.block _ c)=>c|_=>.skip
theorem bodyW_eq:bodyW=.seq (.region 0 opsD false) (.seq (.region 1 opsL false) (.block 0 (.loop cW))):=rfl
theorem cW_eq:cW=.seq (.region 2 opsR false) tailW:=rfl
theorem tailW_eq:tailW=.seq (.cond (.tmp 13) .skip (.exit 0)) (.block 1 pieceW):=rfl
theorem fW_body:fW.body=some bodyW:=rfl
inductive Sl:Nat→Goroutine→Goroutine→Prop
 |refl (g:Goroutine):Sl 0 g g
 |step {n:Nat} {g g1 g2:Goroutine} (hs:g.status=.running) (h:∀w,stepG P false g w=.go g1 w #[]) (k:Sl n g1 g2):Sl (n+1) g g2
theorem Sl.one {g g1:Goroutine}(hs:g.status=.running)(h:∀ w,stepG P false g w=.go g1 w #[]):Sl 1 g g1:=.step hs h (.refl _)
theorem Sl.trans {n m:Nat}{g g1 g2:Goroutine}(h:Sl n g g1)(k:Sl m g1 g2):Sl (n+m) g g2:=by
 induction h with
 |refl g=>rw [Nat.zero_add];exact k
 | @step n g g1 g2 hs h _ ih=>
  have e:n+1+m=(n+m)+1:=by omega
  rw [e]
  exact .step hs h (ih k)
noncomputable def wk (tmps:Array Value)(D:List Deferred)(todo:List Item):Frame:=mk nW .deferred tmps D todo false
noncomputable def kL:List Item:=[.inLoop cW,.inBlock 0]
noncomputable def recvT:List Item:=.inRegion opsR [0,1]::.code tailW::kL
section
variable {tmps:Array Value} {D:List Deferred} {cs:List Frame}
theorem slide_head:Sl 2 (G (wk tmps D (.code cW::kL)) cs) (G (wk tmps D recvT) cs):=by
 rw [cW_eq]
 refine .step rfl (fun w=>stepG_seq) (.step rfl (fun w=>?_) (.refl _))
 exact stepG_region
theorem slide_recv:Sl 4 (G (wk tmps D (.inBlock 1::kL)) cs) (G (wk tmps D recvT) cs):=
 .step rfl (fun w=>stepG_inBlock) (.step rfl (fun w=>stepG_inLoop) slide_head)
theorem slide_first:Sl 5 (G (wk tmps D [.inRegion opsL [],.code (.block 0 (.loop cW))]) cs) (G (wk tmps D recvT) cs):=
 .step rfl (fun w=>stepG_region_end) (.step rfl (fun w=>stepG_block) (.step rfl (fun w=>stepG_loop) slide_head))
def gotW (tmps:Array Value)(x:Value)(ok:Bool):Array Value:=tmps.setIfInBounds 12 (.tuple #[x,.bool ok])
theorem recv_op (w:World)(c:Nat)(h:tmps.getD 11 undef=.chan (some c)):stepG P false (G (wk tmps D recvT) cs) w=.comm (G (wk tmps D recvT) cs) #[rcase c (.int .i64 0)] true (.recv true) w #[]:=by
 have he:(⟨tmps,D⟩:Act).eval (.tmp 11)=.chan (some c):=by simpa [Act.eval]using h
 have hk:(baseD nW).kind≠.early:=by intro h;cases h
 have hg:tmps[11]?.getD undef=.chan (some c):=by simpa [Array.getD_eq_getD_getElem?]using h
 have e1:=stepG_comm (P:=P) (main:=false) (b:=baseD nW) (a:=⟨tmps,D⟩) (ops:=opsR) (i:=0) (rest:=[1]) (k:=.code tailW::kL) (cs:=cs) (w:=w) (w':=w) (cases:=#[rcase c (.int .i64 0)]) (blocking:=true) (shape:=.recv true) (o:=opsR.getD 0 default) rfl rfl hk (by
  show (execOp (⟨tmps, D⟩ : Act).eval { dst := some 12, op := .recv 160 (.tmp 11) true, type := 0, pos := "fold.go:44", after := #[], guard := none }).run P w = _
  simp [go_sem,he,hg,rcase])
 refine Eq.trans e1 ?_
 have e2:listed P (baseD nW).fn ⟨tmps,D⟩ (opsR.getD 0 default) w=#[]:=by
  show seen P nW ((execOp (⟨tmps, D⟩ : Act).eval { dst := some 12, op := .recv 160 (.tmp 11) true, type := 0, pos := "fold.go:44", after := #[], guard := none }).events P w #[]) = #[]
  simp [go_sem,he,hg,seen_none]
 rw [e2]
 rfl
theorem served_recv (x:Value)(ok:Bool):Go.Conc.served (G (wk tmps D recvT) cs) (recvd true x ok)=G (wk (gotW tmps x ok) D (.inRegion opsR [1]::.code tailW::kL)) cs:=rfl
theorem slide_ext (x:Value)(ok:Bool)(hs:13 < tmps.size):Sl 1 (G (wk (gotW tmps x ok) D (.inRegion opsR [1]::.code tailW::kL)) cs) (G (wk ((gotW tmps x ok).setIfInBounds 13 (.bool ok)) D (.inRegion opsR []::.code tailW::kL)) cs):=by
 refine .one rfl fun w=>?_
 have hk:(baseD nW).kind≠.early:=by intro h;cases h
 have hg:(gotW tmps x ok)[12]?.getD undef=.tuple #[x,.bool ok]:=by
  unfold gotW
  rw [Array.getElem?_setIfInBounds_self_of_lt (by omega)]
  rfl
 have e1:=stepG_value (P:=P) (main:=false) (b:=baseD nW) (a:=⟨gotW tmps x ok,D⟩) (ops:=opsR) (i:=1) (rest:=[]) (k:=.code tailW::kL) (cs:=cs) (w:=w) (w':=w) (v:=.bool ok) (o:=opsR.getD 1 default) rfl rfl hk (by
  show (execOp (⟨gotW tmps x ok, D⟩ : Act).eval { dst := some 13, op := .extract (.tmp 12) 1, type := 4, pos := "fold.go:44", after := #[{ on := 0, ground := .data }], guard := none }).run P w = _
  simp [go_sem,Act.eval,hg])
 refine Eq.trans e1 ?_
 have e2:listed P (baseD nW).fn ⟨gotW tmps x ok,D⟩ (opsR.getD 1 default) w=#[]:=by
  show seen P nW ((execOp (⟨gotW tmps x ok, D⟩ : Act).eval { dst := some 13, op := .extract (.tmp 12) 1, type := 4, pos := "fold.go:44", after := #[{ on := 0, ground := .data }], guard := none }).events P w #[]) = #[]
  simp [go_sem,Act.eval,hg,seen_none]
 rw [e2]
 rfl
noncomputable def gotT (tmps:Array Value)(x:Value)(ok:Bool):Array Value:=(gotW tmps x ok).setIfInBounds 13 (.bool ok)
theorem gotT_ok (x:Value)(ok:Bool)(hs:13 < tmps.size):(⟨gotT tmps x ok,D⟩:Act).eval (.tmp 13)=.bool ok:=by
 have:(gotT tmps x ok)[13]?=some (.bool ok):=by
  unfold gotT gotW
  rw [Array.getElem?_setIfInBounds_self_of_lt (by simpa using hs)]
 simp [Act.eval,Array.getD_eq_getD_getElem?,this]
theorem slide_piece (x:Value)(hs:13 < tmps.size):Sl 6 (G (wk (gotW tmps x true) D (.inRegion opsR [1]::.code tailW::kL)) cs) (G (wk (gotT tmps x true) D (.code pieceW::.inBlock 1::kL)) cs):=by
 refine Sl.trans (n:=1) (m:=5) (slide_ext x true hs) ?_
 show Sl 5 (G (wk (gotT tmps x true) D (.inRegion opsR []::.code tailW::kL)) cs) _
 rw [tailW_eq]
 refine .step rfl (fun w=>stepG_region_end) (.step rfl (fun w=>stepG_seq) (.step rfl (fun w=>stepG_cond (t:=true) (gotT_ok x true hs)) ?_))
 simp only [if_true]
 exact .step rfl (fun w=>stepG_skip) (.step rfl (fun w=>stepG_block) (.refl _))
theorem slide_out (x:Value)(hs:13 < tmps.size)(wg:Value):Sl 7 (G (wk (gotW tmps x false) [dcall lnk.done #[wg]] (.inRegion opsR [1]::.code tailW::kL)) cs)
  (G ((baseD lnk.done).at ⟨#[wg,undef,undef,undef],[]⟩ [.code (Go.ConcR.Gen.body_done lnk)]) ({ (baseD nW).at ⟨gotT tmps x false,[]⟩ []with mode:=.returning }::cs)):=by
 refine Sl.trans (n:=1) (m:=6) (slide_ext x false hs) ?_
 show Sl 6 (G (wk (gotT tmps x false) [dcall lnk.done #[wg]] (.inRegion opsR []::.code tailW::kL)) cs) _
 rw [tailW_eq]
 refine .step rfl (fun w=>stepG_region_end) (.step rfl (fun w=>stepG_seq) (.step rfl (fun w=>stepG_cond (t:=false) (gotT_ok x false hs)) ?_))
 simp only [Bool.false_eq_true,if_false]
 refine .step rfl (fun w=>stepG_exit (k':=[]) rfl) (.step rfl (fun w=>stepG_end) (.one rfl fun w=>?_))
 exact stepG_unwind_enter (P:=P) (main:=false) (b:=baseD nW) (a:=⟨gotT tmps x false,[dcall lnk.done #[wg]]⟩) (todo:=[]) (cs:=cs) (w:=w) (args:=#[wg]) (ds:=[]) rfl wgLib.f_done (Go.ConcR.Gen.nm_done lnk) rfl
end
noncomputable def restB:Frame:={ (default:Frame)with fn:=P.funcs.size,defers:=[],mode:=.panicking [goexitEntry] }
noncomputable def bornD (wg ch nb one sh:Value):Deferred:=⟨.fn (.func nW) #[wg,ch,nb,one],#[sh]⟩
noncomputable def tmps0 (wg ch nb one sh:Value):Array Value:=#[sh,wg,ch,nb,one]++Array.replicate 40 undef
theorem born_step (wg ch nb one sh:Value)(w:World):stepG P false (born P (bornD wg ch nb one sh)) w=.go (G ((baseD nW).at ⟨tmps0 wg ch nb one sh,[]⟩ [.code bodyW]) [restB]) w #[]:=by
 have hb:fW.body.isNone=false:=by rw [fW_body];rfl
 have e2 := callFunc_runT at_W (by kernel_rfl : (fW.name == "runtime.NumGoroutine") = false) hb #[sh, wg, ch, nb, one] w #[]
 have hn:fW.ntmps=45:=by kernel_rfl
 have e4:Frame.enter P nW #[sh,wg,ch,nb,one] .deferred=(baseD nW).at ⟨tmps0 wg ch nb one sh,[]⟩ [.code bodyW]:=by
  rw [enter_atD _ at_W fW_body,hn]
  rfl
 rw [←e4]
 have e5:(invoke (bornD wg ch nb one sh).target (bornD wg ch nb one sh).args)=callFunc nW #[sh,wg,ch,nb,one]:=rfl
 have e6:stepG P false (born P (bornD wg ch nb one sh)) w=callDeferred P restB [] none (bornD wg ch nb one sh) w:=rfl
 rw [e6]
 unfold callDeferred
 rw [e5,e2]
 rfl
theorem slide_born (wg ch nb one sh:Value):Sl 7 (born P (bornD wg ch nb one sh)) (G (wk (tmps0 wg ch nb one sh) [dcall lnk.done #[wg]] [.inRegion opsL [0],.code (.block 0 (.loop cW))]) [restB]):=by
 refine .step rfl (fun w=>born_step wg ch nb one sh w) ?_
 rw [bodyW_eq]
 have hk:(baseD nW).kind≠.early:=by intro h;cases h
 refine .step rfl (fun w=>stepG_seq) ?_
 refine .step rfl (fun w=>stepG_region) ?_
 show Sl 4 (G ((baseD nW).at ⟨tmps0 wg ch nb one sh,[]⟩ [.inRegion opsD [0],.code (.seq (.region 1 opsL false) (.block 0 (.loop cW)))]) [restB]) _
 refine .step rfl (fun w=>stepG_defer (o:=opsD.getD 0 default) (f:=lnk.done) («as»:=#[.tmp 1]) (ats:=#[169]) rfl rfl hk rfl) ?_
 have ea:(#[.tmp 1]:Array Operand).map (⟨tmps0 wg ch nb one sh,[]⟩:Act).eval=#[wg]:=by simp [Act.eval,tmps0]
 have ed:(opsD.getD 0 default).dst=none:=by kernel_rfl
 rw [ea,ed]
 show Sl 3 (G ((baseD nW).at ⟨tmps0 wg ch nb one sh,[dcall lnk.done #[wg]]⟩ [.inRegion opsD [],.code (.seq (.region 1 opsL false) (.block 0 (.loop cW)))]) [restB]) _
 refine .step rfl (fun w=>stepG_region_end) ?_
 refine .step rfl (fun w=>stepG_seq) ?_
 exact .one rfl (fun w=>stepG_region)
theorem load_step (tmps:Array Value)(D:List Deferred)(cs:List Frame)(w:World)(a:Addr)(c:Nat)(h2:tmps.getD 2 undef=.pointer (some a))(hc:w.cell? a=some (.chan (some c))) :
  stepG P false (G (wk tmps D [.inRegion opsL [0],.code (.block 0 (.loop cW))]) cs) w=.go (G (wk (tmps.setIfInBounds 11 (.chan (some c))) D [.inRegion opsL [],.code (.block 0 (.loop cW))]) cs) w #[⟨.cell a,false,false⟩]:=by
 have hk:(baseD nW).kind≠.early:=by intro h;cases h
 have hg:tmps[2]?.getD undef=.pointer (some a):=by simpa [Array.getD_eq_getD_getElem?]using h2
 have hq:(P.funcs[nW]?).any (·.norace)=false:=by rw [at_W];rfl
 have e1:=stepG_value (P:=P) (main:=false) (b:=baseD nW) (a:=⟨tmps,D⟩) (ops:=opsL) (i:=0) (rest:=[]) (k:=[.code (.block 0 (.loop cW))]) (cs:=cs) (w:=w) (w':=w) (v:=.chan (some c)) (o:=opsL.getD 0 default) rfl rfl hk (by
  show (execOp (⟨tmps, D⟩ : Act).eval { dst := some 11, op := .load 160 (.tmp 2), type := 160, pos := "fold.go:44", after := #[], guard := none }).run P w = _
  simp [go_sem,Act.eval,hg,hc])
 refine Eq.trans e1 ?_
 have e2:listed P (baseD nW).fn ⟨tmps,D⟩ (opsL.getD 0 default) w=#[⟨.cell a,false,false⟩]:=by
  show seen P nW ((execOp (⟨tmps, D⟩ : Act).eval { dst := some 11, op := .load 160 (.tmp 2), type := 160, pos := "fold.go:44", after := #[], guard := none }).events P w #[]) = _
  have hq':fW.norace=false:=by kernel_rfl
  have hm:(Mode.plain==Mode.atomic)=false:=rfl
  simp [go_sem,Act.eval,hg,hc,seen,hq',hm]
 rw [e2]
 rfl
theorem quits_end (tmps:Array Value):QuitsD P 2 0 (G ({ (baseD nW).at ⟨tmps,[]⟩ []with mode:=.returning }) [restB]):=by
 refine .inr ⟨rfl,G restB [],#[],fun e he=>by simp at he,fun w=>?_,.inr ⟨rfl,{ G restB []with status:=.finished },#[],fun e he=>by simp at he,fun w=>?_,?_⟩⟩
 ·have hr0:fW.results=#[]:=by kernel_rfl
  have hr:(results fW tmps).runT P w #[]=(.ok (.tuple #[]) w,#[]):=by unfold results;rw [hr0,Array.mapM_eq_mapM_toList];rfl
  have e1:P.funcs[nW]?=some fW:=at_W
  have key:∀fr:Frame,fr.mode=.returning→fr.defers=[]→fr.fn=nW→fr.kind=.deferred→fr.tmps=tmps→stepG P false (G fr [restB]) w=.go (G restB []) w #[]:=by
   intro fr h1 h2 h3 h4 h5
   simp only [G,stepG,h1,unwind,h2,h3,e1,h5,hr,doReturn,h4,GStep.after]
   rfl
  exact key _ rfl rfl rfl rfl rfl
 ·have e7:stepG P false (G restB []) w=unwind P false restB [] none w:=rfl
  rw [e7]
  have hc:restB.catches P=false:=by
   unfold Frame.catches restB
   rw [show P.funcs[P.funcs.size]?=none from Array.getElem?_eq_none (Nat.le_refl _)]
   rfl
  simp only [unwind,show restB.defers=[]from rfl,show restB.mode=.panicking [goexitEntry]from rfl,hc,Bool.false_eq_true,if_false]
  rfl
 ·exact⟨rfl,rfl⟩
end Go.Proofs.YtngdldcgkaplbaaGreat.Gt
namespace Go.Proofs.YtngdldcgkaplbaaGreat.Gt
open Go Go.Conc
open Lk
def fbA:List Nat:=[10,12,13,14,15,16,17,18,19,20,21,23,26,27,28,29,30,31,38,39,40,41,42,43,44,45,46,47,48,49,50,51,52,53,54,55,56,57,58,59,60,61,62,63,64,65,66,67,68,69,70,71,72,73,74,76,77,78,79,80,81,82,83,84,86,87,88,89,90,91,93,94,95,96,97,98,99,100,101,102,103,104,105,106,107,108,109,110,111,114,115,116,117,118,119,120,121,122,123,124,125,126,127,128,129,130,131,132,133,134,135,136,137,138,139,140,141,145,147,148,149,150,151,152,153,154,155,156,157,158,159,160,161,162,163,164,165,166,167,168,169,170,171,172,173,174,193,194,195,196,197,198,199,200,201,202,203,204,210,211,212,213]
def fbs:List Nat:=[11,75,112,113]++fbA
def fbb (x:FuncId):Bool:=fbs.contains x
def fb:FB:=⟨fbb,fbb⟩
def FF (x:FuncId):Prop:=fbb x=true
def GG (x:FuncId):Prop:=∃fn c,P.funcs[x]?=some fn∧fn.body=some c∧niceCode P fb c=true
theorem hFb:∀x,fb.val x=true→FF x:=fun _ h=>h
theorem hG:Fine P fb GG:=fun _ h=>h
theorem niceB {fn:Func}(h:(match fn.body with | some c=>niceCode P fb c | none=>false)=true):∃c,fn.body=some c∧niceCode P fb c=true:=by
 cases hb:fn.body with
 |none=>rw [hb]at h;cases h
 |some c=>rw [hb]at h;exact⟨c,rfl,h⟩
theorem ok_body {x : FuncId} {fn : Func} (hf : P.funcs[x]? = some fn) (hn : (fn.name == "runtime.NumGoroutine") = false) (h : (match fn.body with | some c => niceCode P fb c | none => false) = true) : FnOk P FF GG x := by
 obtain⟨c,h1,h2⟩:=niceB h
 exact fnOk_body ⟨fn,c,hf,h1,h2⟩ hf hn (by rw [h1];rfl)
theorem va_one {r:Map}{x:Value}{ys:Array Value}(h:VA FF r #[x] ys):∃y,ys=#[y]∧VR FF r x y:=by
 obtain⟨y,hy,hv⟩:=h.get (i:=0) rfl
 have hs:ys.size=1:=h.1.symm
 refine⟨y,?_,hv⟩
 apply Array.ext
 ·exact hs
 ·intro i h1 h2
  have:i=0:=by rw [hs]at h1;omega
  subst this
  rw [Array.getElem?_eq_getElem h1]at hy
  injection hy
theorem va_three {r:Map}{x y z:Value}{ys:Array Value}(h:VA FF r #[x,y,z] ys):∃x' y' z',ys=#[x',y',z']∧VR FF r x x'∧VR FF r y y'∧VR FF r z z':=by
 obtain⟨a,ha,h1⟩:=h.get (i:=0) rfl
 obtain⟨b,hb,h2⟩:=h.get (i:=1) rfl
 obtain⟨c,hc,h3⟩:=h.get (i:=2) rfl
 have hs:ys.size=3:=h.1.symm
 refine⟨a,b,c,?_,h1,h2,h3⟩
 apply Array.ext
 ·exact hs
 ·intro i g1 g2
  have:i<3:=by rw [hs]at g1;exact g1
  have hg:=Array.getElem?_eq_getElem g1
  match i,this with
  |0,_=>rw [ha]at hg;injection hg with hg;exact hg.symm
  |1,_=>rw [hb]at hg;injection hg with hg;exact hg.symm
  |2,_=>rw [hc]at hg;injection hg with hg;exact hg.symm
theorem like_bits (r:Map)(xs ys:Array Value)(h:VA FF r xs ys):SR P FF r (fun r1 a b=>VR FF r1 a b) (Extern.MathFloatBits.float64bits xs) (Extern.MathFloatBits.float64bits ys):=by
 obtain⟨l⟩:=xs
 cases l with
 |nil=>exact .halt trivial
 |cons x l=>
  cases l with
  |cons y l=>exact .halt trivial
  |nil=>
   obtain⟨y,rfl,hv⟩:=va_one h
   cases hv<;>first|exact .halt trivial|(rename_i k n;cases k<;>first|exact .pur (.int _ _)|exact .halt trivial)
theorem like_frombits (r:Map)(xs ys:Array Value)(h:VA FF r xs ys):SR P FF r (fun r1 a b=>VR FF r1 a b) (Extern.MathFloatBits.float64frombits xs) (Extern.MathFloatBits.float64frombits ys):=by
 obtain⟨l⟩:=xs
 cases l with
 |nil=>exact .halt trivial
 |cons x l=>
  cases l with
  |cons y l=>exact .halt trivial
  |nil=>
   obtain⟨y,rfl,hv⟩:=va_one h
   cases hv<;>first|exact .halt trivial|(rename_i k n;cases k<;>first|exact .pur (.float _ _)|exact .halt trivial)
theorem like_three (nm:String)(r:Map)(xs ys:Array Value)(h:VA FF r xs ys):SR P FF r (fun _ a b=>a=b) (Extern.MathBitsCarry.three nm xs) (Extern.MathBitsCarry.three nm ys):=by
 obtain⟨l⟩:=xs
 rcases l with _|⟨x,_|⟨y,_|⟨z,_|⟨u,l⟩⟩⟩⟩
 ·exact .halt trivial
 ·exact .halt trivial
 ·exact .halt trivial
 ·obtain⟨x',y',z',rfl,h1,h2,h3⟩:=va_three h
  unfold Extern.MathBitsCarry.three
  dsimp only
  refine SR.bnd (asInt_like h3) fun r1 g1 a b e=>?_
  subst e
  dsimp only
  split
  ·exact .halt trivial
  ·refine SR.bnd (asInt_like (h1.mono g1)) fun r2 g2 a b e=>?_
   subst e
   refine SR.bnd (asInt_like ((h2.mono g1).mono g2)) fun r3 g3 a b e=>?_
   subst e
   exact .pur rfl
 ·exact .halt trivial
theorem ok_bits {x : FuncId} {fn : Func} (hf : P.funcs[x]? = some fn) (hn : (fn.name == "runtime.NumGoroutine") = false) (hb : fn.body.isNone = true) (hx : Extern.findNext fn = none) (he : Extern.find fn = some Extern.MathFloatBits.float64bits) : FnOk P FF GG x := fnOk_extern hf hn hb hx he like_bits
theorem ok_frombits {x : FuncId} {fn : Func} (hf : P.funcs[x]? = some fn) (hn : (fn.name == "runtime.NumGoroutine") = false) (hb : fn.body.isNone = true) (hx : Extern.findNext fn = none) (he : Extern.find fn = some Extern.MathFloatBits.float64frombits) : FnOk P FF GG x := fnOk_extern hf hn hb hx he like_frombits
def addE:Array Value→Sem Value:=fun args=>do
 let (x, y, c) ← Extern.MathBitsCarry.three "Add64" args
 pure (Extern.MathBitsCarry.pair ((x+y+c)%Extern.MathBitsCarry.m64) ((x+y+c)/Extern.MathBitsCarry.m64))
def subE:Array Value→Sem Value:=fun args=>do
 let (x, y, b) ← Extern.MathBitsCarry.three "Sub64" args
 pure (Extern.MathBitsCarry.pair ((x+Extern.MathBitsCarry.m64-y-b)%Extern.MathBitsCarry.m64) (if x<y+b then 1 else 0))
theorem pair_like (r:Map)(a b:Nat):VR FF r (Extern.MathBitsCarry.pair a b) (Extern.MathBitsCarry.pair a b):=VR.tuple' ((VA.empty.push (.int _ _)).push (.int _ _))
theorem ok_add {x : FuncId} {fn : Func} (hf : P.funcs[x]? = some fn) (hn : (fn.name == "runtime.NumGoroutine") = false) (hb : fn.body.isNone = true) (hx : Extern.findNext fn = none) (he : Extern.find fn = some addE) : FnOk P FF GG x :=
 fnOk_extern hf hn hb hx he fun r xs ys h => SR.bnd (like_three "Add64" r xs ys h) fun r1 h1 a b e => by subst e; exact .pur (pair_like _ _ _)
theorem ok_sub {x : FuncId} {fn : Func} (hf : P.funcs[x]? = some fn) (hn : (fn.name == "runtime.NumGoroutine") = false) (hb : fn.body.isNone = true) (hx : Extern.findNext fn = none) (he : Extern.find fn = some subE) : FnOk P FF GG x :=
 fnOk_extern hf hn hb hx he fun r xs ys h => SR.bnd (like_three "Sub64" r xs ys h) fun r1 h1 a b e => by subst e; exact .pur (pair_like _ _ _)
noncomputable def okB (x:FuncId):Bool:=match P.funcs[x]? with
 | some fn => (!(fn.name == "runtime.NumGoroutine")) && (match fn.body with | some c => niceCode P fb c | none => false)
 |none=>false
theorem okB_ok {x:FuncId}(h:okB x=true):FnOk P FF GG x:=by
 unfold okB at h
 cases hf:P.funcs[x]? with
 |none=>rw [hf]at h;cases h
 |some fn=>
  rw [hf]at h
  rw [Bool.and_eq_true]at h
  exact ok_body hf (by simpa using h.1) h.2
theorem okAll:fbA.all okB=true:=by kernel_rfl
theorem okA {x:FuncId}(h:x∈fbA):okB x=true:=List.all_eq_true.1 okAll x h
theorem hF0:∀x,FF x→FnOk P FF GG x:=by
 intro x h
 have h:x∈fbs:=by simpa [FF,fbb]using h
 unfold fbs at h
 rw [List.mem_append]at h
 rcases h with h|h
 ·simp only [List.mem_cons,List.not_mem_nil,or_false]at h
  rcases h with rfl|rfl|rfl|rfl
  ·exact ok_frombits Tryz.func11 (by kernel_rfl : (Tryz.f11.name == "runtime.NumGoroutine") = false) (by kernel_rfl) (by kernel_rfl) (by kernel_rfl)
  ·exact ok_bits Tryz.func75 (by kernel_rfl : (Tryz.f75.name == "runtime.NumGoroutine") = false) (by kernel_rfl) (by kernel_rfl) (by kernel_rfl)
  ·exact ok_sub Tryz.func112 (by kernel_rfl : (Tryz.f112.name == "runtime.NumGoroutine") = false) (by kernel_rfl) (by kernel_rfl) (by kernel_rfl)
  ·exact ok_add Tryz.func113 (by kernel_rfl : (Tryz.f113.name == "runtime.NumGoroutine") = false) (by kernel_rfl) (by kernel_rfl) (by kernel_rfl)
 ·exact okB_ok (okA h)
theorem hF:∀x,FF x∨fb.call x=true→FnOk P FF GG x:=fun x h=>hF0 x (h.elim id id)
theorem nice_piece:niceCode P fb pieceW=true:=by kernel_rfl
end Go.Proofs.YtngdldcgkaplbaaGreat.Gt
namespace Go.Proofs.YtngdldcgkaplbaaGreat.Gt
open Go Go.Conc Go.Conc.Lib
open Lk Fw
noncomputable abbrev nG:Nat:=92
noncomputable abbrev fG:Func:=Tryz.f92
theorem at_G:P.funcs[nG]?=some fG:=Tryz.func92
noncomputable def bodyG:Code:=fG.body.getD .skip
theorem fG_body:fG.body=some bodyG:=rfl
theorem fG_ntmps:fG.ntmps=75:=by kernel_rfl
noncomputable def hdOps:Code→Array Oper
 | .region _ o _=>o
 | .seq x _=>hdOps x
 |_=>#[]
noncomputable def snd:Code→Code
 | .seq _ y=>y
 |_=>.skip
noncomputable def fst':Code→Code
 | .seq x _=>x
 |_=>.skip
noncomputable def inL:Code→Code
 | .block _ (.loop c)=>c
 |_=>.skip
noncomputable def inB:Code→Code
 | .block _ c=>c
 |_=>.skip
noncomputable def c1:Code:=snd bodyG
noncomputable def c2:Code:=snd c1
noncomputable def c3:Code:=snd c2
noncomputable def c4:Code:=snd c3
noncomputable def c5:Code:=snd c4
noncomputable def c6:Code:=snd c5
noncomputable def c7:Code:=snd c6
noncomputable def tailG:Code:=snd c7
noncomputable def cF:Code:=inL (snd (fst' c4))
noncomputable def cS:Code:=inL (snd (fst' c5))
noncomputable def o0:=hdOps bodyG
noncomputable def o1:=hdOps c1
noncomputable def o2:=hdOps c2
noncomputable def o3:=hdOps c3
noncomputable def o4:=hdOps c4
noncomputable def o5:=hdOps cF
noncomputable def o6:=hdOps (inB (fst' (snd (snd cF))))
noncomputable def o7:=hdOps (snd (inB (fst' (snd (snd cF)))))
noncomputable def o8':Array Oper:=match snd (snd (inB (fst' (snd (snd cF)))))with | .region _ o _=>o|_=>match snd (inB (fst' (snd (snd cF))))with | .seq _ (.region _ o _)=>o|_=>#[]
noncomputable def o9:Array Oper:=match snd (snd (snd cF))with | .region _ o _=>o|_=>#[]
noncomputable def o10:=hdOps c5
noncomputable def o11:=hdOps (fst' cS)
noncomputable def o13:Array Oper:=match fst' (snd cS)with | .block _ (.region _ o _)=>o|_=>#[]
noncomputable def o12:Array Oper:=match snd (snd cS)with | .region _ o _=>o|_=>#[]
noncomputable def o14:=hdOps c6
noncomputable def o15:=hdOps c7
theorem bodyG_eq:bodyG=.seq (.region 0 o0 false) c1:=rfl
theorem c1_eq:c1=.seq (.region 1 o1 false) c2:=rfl
theorem c2_eq:c2=.seq (.region 2 o2 false) c3:=rfl
theorem c3_eq:c3=.seq (.region 3 o3 false) c4:=rfl
theorem c4_eq:c4=.seq (.seq (.region 4 o4 false) (.block 0 (.loop cF))) c5:=rfl
theorem cF_eq:cF=.seq (.region 5 o5 false) (.seq (.cond (.tmp 19) .skip (.exit 0)) (.seq (.block 1 (.seq (.region 6 o6 false) (.seq (.region 7 o7 false) (.region 8 o8' false)))) (.region 9 o9 false))):=rfl
theorem c5_eq:c5=.seq (.seq (.region 10 o10 false) (.block 2 (.loop cS))) c6:=rfl
theorem c6_eq:c6=.seq (.region 14 o14 false) c7:=rfl
theorem c7_eq:c7=.seq (.region 15 o15 false) tailG:=rfl
theorem nice_tail:niceCode P fb tailG=true:=by kernel_rfl
end Go.Proofs.YtngdldcgkaplbaaGreat.Gt
namespace Go.Proofs.YtngdldcgkaplbaaGreat.Fw
open Go Go.Conc Go.ConcN Go.RowKit Go.Conc.Lib Go.ConcR.Gen Go.ConcN.Gen
open Go.ConcR (KK wgBlock WgAt stA smA rd wr mk Payload Aside2 DC0)
variable {L:WgLink}
section
variable (P:Program) (ty:TypeId) (Wg:Nat)
def AD4 (g:Goroutine)(w:World):Prop:=g.status=.running∧mayWake P g=true∧(WgAt ty Wg w 0 0→∃g',stepG P false g w=.go g' (w.setCell (smA Wg) (.int .u32 1)) (semEvents (smA Wg))∧∃q,QuitsD P q 1 g')
def AD3 (g:Goroutine)(w:World):Prop:=g.status=.running∧(WgAt ty Wg w 1 0→∃g',stepG P false g w=.go g' (w.setCell (stA Wg) (.int .u64 0)) #[wr (stA Wg)]∧∃m,Goes P false (RL ty Wg) DC0 (AD4 P ty Wg) m g' (w.setCell (stA Wg) (.int .u64 0)))
def AD2 (g:Goroutine)(w:World):Prop:=g.status=.running∧(WgAt ty Wg w 1 0→∃g',stepG P false g w=.go g' w #[rd (stA Wg)]∧∃m,Goes P false (RL ty Wg) DC0 (AD3 P ty Wg) m g' w)
def AD1 (g:Goroutine)(w:World):Prop:=g.status=.running∧∀v wt:Nat,wt≤1→v<2147483647→WgAt ty Wg w ((v+1)*KK+wt) 0 →
 ∃g',stepG P false g w=.go g' (w.setCell (stA Wg) (.int .u64 (v*KK+wt))) #[rd (stA Wg),wr (stA Wg)]∧((v=0∧wt=1)→∃m,Goes P false (RL ty Wg) DC0 (AD2 P ty Wg) m g' (w.setCell (stA Wg) (.int .u64 (v*KK+wt))))∧(¬(v=0∧wt=1)→∃q,QuitsD P q 1 g')
def AK1 (g:Goroutine)(w:World):Prop:=g.status=.running∧∃g',stepG P false g w=.go g' w #[mk .disable]∧∃m,Goes P false (RL ty Wg) DC0 (AD1 P ty Wg) m g' w
def AR0 (g:Goroutine)(w:World):Prop:=g.status=.running∧∃g',stepG P false g w=.go g' w #[mk (.releaseMerge (stA Wg))]∧∃m,Goes P false (RL ty Wg) DC0 (AK1 P ty Wg) m g' w
end
theorem addNeg {P:Program}(H:WgLib P L){Wg:Nat}{b₀:Frame}{a₀:Act}{ops₀:Array Oper}{i₀:Nat}{rest₀:List Nat}{k₀:List Item}{cs:List Frame}{qt:Nat}
  (hT:QuitsD P qt 0 (G (b₀.at (a₀.put ((ops₀[i₀]?).bind (·.dst)) (.tuple #[])) (.inRegion ops₀ rest₀::k₀)) cs)) (w:World) (hF:WgLive L.tWg Wg w):
  Goes P false (RL L.tWg Wg) DC0 (AR0 P L.tWg Wg) 20 (G ((base L.add).at ⟨#[.pointer (some ⟨Wg,0,none⟩),.int .i64 (-1),undef,undef,undef,undef,undef,undef,undef,undef,undef,undef,undef,undef,undef,undef,undef,undef,undef,undef,undef,undef,undef,undef,undef,undef,undef,undef,undef,undef,undef,undef,undef,undef,undef,undef,undef,undef,undef,undef,undef,undef,undef,undef,undef,undef,undef,undef,undef,undef,undef,undef,undef,undef,undef,undef,undef,undef,undef,undef,undef,undef,undef,undef,undef,undef,undef,undef,undef,undef,undef,undef,undef,undef,undef,undef,undef,undef,undef,undef,undef,undef,undef,undef,undef,undef,undef,undef,undef,undef,undef,undef,undef,undef,undef,undef,undef,undef,undef,undef,undef,undef,undef,undef,undef,undef,undef,undef,undef,undef,undef,undef,undef,undef,undef,undef,undef],[]⟩ [.code (body_add L)]) (b₀.at a₀ (.inRegion ops₀ (i₀::rest₀)::k₀)::cs)) w:=by
 lib_facts
 simp only [body_add,addFn,Option.getD_some]
 u_c stepG_seq rl hF
 u_cond true rl hF
 u_c stepG_seq rl hF
 u_c stepG_seq rl hF
 u_reg rl hF
 u_op rl hF
 u_op rl hF
 u_c stepG_region_end rl hF
 u_cond true rl hF
 u_reg rl hF
 u_op rl hF
 u_conv H.underlying_tWgP H.room_tWg (WgLive.cell0 hF).choose_spec rl hF
 refine Goes.stop (fun w₁ h₁=>?_)
 replace hF:=rl hF h₁
 clear h₁
 refine⟨rfl,_,stepG_markAt .releaseMerge (by simp) rfl rfl (by k_ne) rfl H.f_relMerge (x_relMerge_n L) (x_relMerge_b L) (x_relMerge_x L) (x_relMerge_f L) (by simp [Act.eval,stA]),10,?_⟩
 walk_nrm
 u_c stepG_region_end rl hF
 u_c stepG_seq rl hF
 u_reg rl hF
 refine Goes.stop (fun w₁ h₁=>?_)
 replace hF:=rl hF h₁
 clear h₁
 refine⟨rfl,_,stepG_mark0 .disable (by simp) rfl rfl (by k_ne) rfl H.f_disable (x_disable_n L) (x_disable_b L) (x_disable_x L) (x_disable_f L),50,?_⟩
 walk_nrm
 u_c stepG_region_end rl hF
 u_reg rl hF
 u_defer rl hF
 u_c stepG_region_end rl hF
 u_c stepG_seq rl hF
 u_reg rl hF
 u_op rl hF
 u_c stepG_region_end rl hF
 u_c stepG_seq rl hF
 u_c stepG_seq rl hF
 u_reg rl hF
 u_bub rl hF
 u_c stepG_region_end rl hF
 u_cond false rl hF
 u_c stepG_skip rl hF
 u_c stepG_seq rl hF
 u_reg rl hF
 iterate 6 u_op rl hF
 u_call H.f_uAdd (nm_uAdd L) uAddFn rl hF
 u_c stepG_seq rl hF
 u_reg rl hF
 u_op rl hF
 u_c stepG_region_end rl hF
 u_c stepG_seq rl hF
 u_reg rl hF
 u_op rl hF
 u_op rl hF
 u_op rl hF
 u_op rl hF
 refine Goes.stop (fun w₁ h₁=>?_)
 clear h₁ hF
 refine⟨rfl,fun v wt hwt hv hw=>?_⟩
 have e0:IntKind.u64.wrap (KK+18446744069414584320)=0:=by decide
 have e1:IntKind.u64.wrap (KK+1+18446744069414584320)=1:=by decide
 rcases Nat.eq_zero_or_pos v with rfl|hvp<;>(obtain rfl|rfl:wt=0∨wt=1:=by omega)
 ·-- (0, NOBODY WAITS): IT ONLY LEAVES
  replace hw:WgAt L.tWg Wg w₁ KK 0:=by simpa using hw
  have z:((0:Nat):Int)*KK+((0:Nat):Int)=0:=by simp
  rw [z]
  refine⟨_,(stepG_add_atomic rfl rfl (by k_ne) rfl H.f_addU64 (x_addU64_n L) (x_addU64_b L) (x_addU64_x L) .u64 (x_addU64_f L) rfl rfl hw.cellSt (hw.thaw 0)).trans (by rw [e0];rfl),fun hl=>absurd hl.2 (by decide),fun _=>⟨qt+89,?_⟩⟩
  clear hw
  walk_nrm
  q_val (.int .u64 0)
  q_c stepG_region_end
  q_c stepG_ret'
  q_leave1 H.f_uAdd
  q_val (.int .u64 0)
  q_c stepG_region_end
  q_c stepG_seq
  q_c stepG_seq
  q_reg
  q_val (.int .u64 0)
  q_val (.int .u64 0)
  q_val (.bool false)
  q_val (.bool false)
  q_skip
  q_skip
  q_val (.bool false)
  q_c stepG_region_end
  q_cond false
  q_c stepG_skip
  q_c stepG_seq
  q_reg
  q_val (.int .u64 0)
  q_val (.int .u64 0)
  q_val (.int .i32 0)
  q_val (.int .i32 0)
  q_c stepG_region_end
  q_c stepG_seq
  q_reg
  q_val (.int .u64 0)
  q_val (.int .u64 0)
  q_val (.int .u32 0)
  q_val (.int .u32 0)
  q_c stepG_region_end
  q_c stepG_seq
  q_c stepG_seq
  q_reg
  q_val (.bool true)
  q_val (.int .i64 (-1))
  q_val (.bool false)
  q_val (.bool false)
  q_val (.bool false)
  q_skip
  q_skip
  q_skip
  q_skip
  q_val (.bool false)
  q_c stepG_region_end
  q_cond false
  q_c stepG_skip
  q_c stepG_seq
  q_c stepG_seq
  q_reg
  q_val (.int .i32 0)
  q_val (.bool false)
  q_c stepG_region_end
  q_cond false
  q_c stepG_skip
  q_c stepG_seq
  q_c stepG_seq
  q_reg
  q_val (.int .u32 0)
  q_val (.bool false)
  q_val (.bool false)
  q_skip
  q_skip
  q_val (.bool false)
  q_val (.bool false)
  q_skip
  q_skip
  q_skip
  q_skip
  q_val (.bool false)
  q_c stepG_region_end
  q_cond false
  q_c stepG_skip
  q_c stepG_seq
  q_c stepG_seq
  q_reg
  q_val (.int .i32 0)
  q_val (.bool false)
  q_val (.bool false)
  q_val (.int .u32 0)
  q_val (.bool true)
  q_val (.bool true)
  q_c stepG_region_end
  q_cond true
  q_c stepG_ret'
  q_enable
  q_leave0 H.f_add
  exact hT
 ·-- (0, THE STARTER WAITS): THE LAST ONE
  replace hw:WgAt L.tWg Wg w₁ (KK+1) 0:=by simpa using hw
  have z:((0:Nat):Int)*KK+((1:Nat):Int)=1:=by simp
  rw [z]
  refine⟨_,(stepG_add_atomic rfl rfl (by k_ne) rfl H.f_addU64 (x_addU64_n L) (x_addU64_b L) (x_addU64_x L) .u64 (x_addU64_f L) rfl rfl hw.cellSt (hw.thaw 0)).trans (by rw [e1];rfl),fun _=>⟨120,?_⟩,fun hl=>absurd ⟨rfl,rfl⟩ hl⟩
  have hF:WgLive L.tWg Wg (w₁.setCell (stA Wg) (.int .u64 1)):=⟨_,_,hw.setSt 1⟩
  clear hw
  walk_nrm
  u_op rl hF
  u_c stepG_region_end rl hF
  u_c stepG_ret' rl hF
  u_leave1 H.f_uAdd rl hF
  u_op rl hF
  u_c stepG_region_end rl hF
  u_c stepG_seq rl hF
  u_c stepG_seq rl hF
  u_reg rl hF
  iterate 4 u_op rl hF
  u_skip rl hF
  u_skip rl hF
  u_op rl hF
  u_c stepG_region_end rl hF
  u_cond false rl hF
  u_c stepG_skip rl hF
  iterate 2
   u_c stepG_seq rl hF
   u_reg rl hF
   u_op rl hF
   u_op rl hF
   u_op rl hF
   u_op rl hF
   u_c stepG_region_end rl hF
  u_c stepG_seq rl hF
  u_c stepG_seq rl hF
  u_reg rl hF
  iterate 5 u_op rl hF
  u_skip rl hF
  u_skip rl hF
  u_skip rl hF
  u_skip rl hF
  iterate 2
   u_op rl hF
   u_c stepG_region_end rl hF
   u_cond false rl hF
   u_c stepG_skip rl hF
   u_c stepG_seq rl hF
   u_c stepG_seq rl hF
   u_reg rl hF
   u_op rl hF
  iterate 6 u_op rl hF
  u_skip rl hF
  u_skip rl hF
  u_skip rl hF
  u_skip rl hF
  u_op rl hF
  u_c stepG_region_end rl hF
  u_cond false rl hF
  u_c stepG_skip rl hF
  u_c stepG_seq rl hF
  u_c stepG_seq rl hF
  u_reg rl hF
  iterate 6 u_op rl hF
  u_c stepG_region_end rl hF
  u_cond false rl hF
  u_c stepG_skip rl hF
  u_c stepG_seq rl hF
  u_c stepG_seq rl hF
  u_reg rl hF
  u_op rl hF
  u_op rl hF
  u_op rl hF
  u_call H.f_uLoad (nm_uLoad L) uLoadFn rl hF
  u_c stepG_seq rl hF
  u_reg rl hF
  u_op rl hF
  u_c stepG_region_end rl hF
  u_c stepG_seq rl hF
  u_reg rl hF
  u_op rl hF
  u_op rl hF
  u_op rl hF
  refine Goes.stop (fun w₂ h₂=>?_)
  clear h₂ hF
  refine⟨rfl,fun hw=>⟨_,stepG_load_atomic rfl rfl (by k_ne) rfl H.f_loadU64 (x_loadU64_n L) (x_loadU64_b L) (x_loadU64_x L) .u64 (x_loadU64_f L) rfl hw.cellSt,40,?_⟩⟩
  have hF:WgLive L.tWg Wg w₂:=⟨_,_,hw⟩
  clear hw
  walk_nrm
  u_op rl hF
  u_c stepG_region_end rl hF
  u_c stepG_ret' rl hF
  u_leave1 H.f_uLoad rl hF
  u_op rl hF
  u_op rl hF
  u_c stepG_region_end rl hF
  u_cond false rl hF
  u_c stepG_skip rl hF
  u_c stepG_seq rl hF
  u_reg rl hF
  u_op rl hF
  u_op rl hF
  u_op rl hF
  u_call H.f_uStore (nm_uStore L) uStoreFn rl hF
  u_reg rl hF
  iterate 4 u_op rl hF
  refine Goes.stop (fun w₃ h₃=>?_)
  clear h₃ hF
  refine⟨rfl,fun hw=>⟨_,stepG_store_atomic rfl rfl (by k_ne) rfl H.f_storeU64 (x_storeU64_n L) (x_storeU64_b L) (x_storeU64_x L) (x_storeU64_f L) rfl rfl hw.cellSt (hw.thaw 0),50,?_⟩⟩
  have hF:WgLive L.tWg Wg (w₃.setCell (stA Wg) (.int .u64 0)):=⟨_,_,hw.setSt 0⟩
  clear hw
  walk_nrm
  u_c stepG_region_end rl hF
  u_c stepG_end rl hF
  u_leave0 H.f_uStore rl hF
  u_c stepG_region_end rl hF
  u_c stepG_seq rl hF
  u_c stepG_seq rl hF
  u_reg rl hF
  u_op rl hF
  u_c stepG_region_end rl hF
  u_cond false rl hF
  u_c stepG_skip rl hF
  u_c stepG_block rl hF
  u_c stepG_loop rl hF
  u_c stepG_seq rl hF
  u_c stepG_seq rl hF
  u_reg rl hF
  u_op rl hF
  u_op rl hF
  u_c stepG_region_end rl hF
  u_cond true rl hF
  u_c stepG_skip rl hF
  u_c stepG_seq rl hF
  u_c stepG_block rl hF
  u_reg rl hF
  u_op rl hF
  u_op rl hF
  u_op rl hF
  refine Goes.stop (fun w₄ h₄=>?_)
  clear h₄ hF
  refine⟨rfl,mayWake_entry rfl rfl H.f_semrelease (x_semrelease_b L),fun hw=>⟨_,(stepG_semrelease rfl rfl (by k_ne) rfl H.f_semrelease (x_semrelease_n L) (x_semrelease_b L) (x_semrelease_x L) (x_semrelease_f L) (by simp [Act.eval,smA]) hw.cellSm (hw.thaw 1)).trans (by rfl),qt+19,?_⟩⟩
  clear hw
  walk_nrm
  q_c stepG_region_end
  q_c stepG_inBlock
  q_reg
  q_val (.int .u32 1)
  q_val (.int .u32 0)
  q_val (.int .u32 0)
  q_c stepG_region_end
  q_c stepG_inLoop
  q_c stepG_seq
  q_c stepG_seq
  q_reg
  q_val (.int .u32 0)
  q_val (.bool false)
  q_c stepG_region_end
  q_cond false
  q_exit
  q_c stepG_end
  q_enable
  q_leave0 H.f_add
  exact hT
 ·-- (v > 0, NOBODY WAITS)
  replace hw:WgAt L.tWg Wg w₁ (((v:Nat)+1)*KK+0) 0:=by simpa using hw
  have z:((v:Nat):Int)*KK+((0:Nat):Int)=(v:Int)*KK+0:=by simp
  rw [z]
  have hv0:0<v:=by omega
  have eS:IntKind.u64.wrap (((v:Nat)+1)*KK+0+18446744069414584320)=(v:Int)*KK+0:=by rw [IntKind.wrap_u64];simp only [KK];omega
  obtain⟨S,hS⟩:∃S:Int,S=(v:Int)*KK+0:=⟨_,rfl⟩
  rw [←hS]at eS ⊢
  have a1:S/4294967296=(v:Int):=by rw [hS];simp only [KK];omega
  have a2:0≤S∧S<9223372036854775808:=by rw [hS];simp only [KK];omega
  have b1:bits .and .u64 S 2147483648=0:=by rw [hS];have:=st_flag v 0 (by omega) (by omega);simpa [KK]using this
  have b2:bits .and .u64 S 2147483647=0:=by rw [hS];have:=st_waiters v 0 (by omega) (by omega);simpa [KK]using this
  clear hS z
  refine⟨_,(stepG_add_atomic rfl rfl (by k_ne) rfl H.f_addU64 (x_addU64_n L) (x_addU64_b L) (x_addU64_x L) .u64 (x_addU64_f L) rfl rfl hw.cellSt (hw.thaw 0)).trans (by rw [eS];rfl),fun hl=>absurd hl.1 (by omega),fun _=>⟨qt+89,?_⟩⟩
  clear hw
  walk_nrm
  q_vn (.int .u64 S)
  q_c stepG_region_end
  q_c stepG_ret'
  q_leave1 H.f_uAdd
  q_vn (.int .u64 S)
  q_c stepG_region_end
  q_c stepG_seq
  q_c stepG_seq
  q_reg
  q_vn (.int .u64 S)
  q_vn (.int .u64 0)
  q_vn (.bool false)
  q_vn (.bool false)
  q_skip
  q_skip
  q_vn (.bool false)
  q_c stepG_region_end
  q_cond false
  q_c stepG_skip
  q_c stepG_seq
  q_reg
  q_vn (.int .u64 S)
  q_vn (.int .u64 (v:Int))
  q_vn (.int .i32 (v:Int))
  q_vn (.int .i32 (v:Int))
  q_c stepG_region_end
  q_c stepG_seq
  q_reg
  q_vn (.int .u64 S)
  q_vn (.int .u64 0)
  q_vn (.int .u32 0)
  q_vn (.int .u32 0)
  q_c stepG_region_end
  q_c stepG_seq
  q_c stepG_seq
  q_reg
  q_vn (.bool true)
  q_vn (.int .i64 (-1))
  q_vn (.bool false)
  q_vn (.bool false)
  q_vn (.bool false)
  q_skip
  q_skip
  q_skip
  q_skip
  q_vn (.bool false)
  q_c stepG_region_end
  q_cond false
  q_c stepG_skip
  q_c stepG_seq
  q_c stepG_seq
  q_reg
  q_vn (.int .i32 (v:Int))
  q_vn (.bool false)
  q_c stepG_region_end
  q_cond false
  q_c stepG_skip
  q_c stepG_seq
  q_c stepG_seq
  q_reg
  q_vn (.int .u32 0)
  q_vn (.bool false)
  q_vn (.bool false)
  q_skip
  q_skip
  q_vn (.bool false)
  q_vn (.bool false)
  q_skip
  q_skip
  q_skip
  q_skip
  q_vn (.bool false)
  q_c stepG_region_end
  q_cond false
  q_c stepG_skip
  q_c stepG_seq
  q_c stepG_seq
  q_reg
  q_vn (.int .i32 (v:Int))
  q_vn (.bool true)
  q_vn (.bool true)
  q_skip
  q_skip
  q_vn (.bool true)
  q_c stepG_region_end
  q_cond true
  q_c stepG_ret'
  q_enable
  q_leave0 H.f_add
  exact hT
 ·-- (v > 0, THE STARTER WAITS)
  replace hw:WgAt L.tWg Wg w₁ (((v:Nat)+1)*KK+1) 0:=by simpa using hw
  have z:((v:Nat):Int)*KK+((1:Nat):Int)=(v:Int)*KK+1:=by simp
  rw [z]
  have hv0:0<v:=by omega
  have eS:IntKind.u64.wrap (((v:Nat)+1)*KK+1+18446744069414584320)=(v:Int)*KK+1:=by rw [IntKind.wrap_u64];simp only [KK];omega
  obtain⟨S,hS⟩:∃S:Int,S=(v:Int)*KK+1:=⟨_,rfl⟩
  rw [←hS]at eS ⊢
  have a1:S/4294967296=(v:Int):=by rw [hS];simp only [KK];omega
  have a2:0≤S∧S<9223372036854775808:=by rw [hS];simp only [KK];omega
  have b1:bits .and .u64 S 2147483648=0:=by rw [hS];have:=st_flag v 1 (by omega) (by omega);simpa [KK]using this
  have b2:bits .and .u64 S 2147483647=1:=by rw [hS];have:=st_waiters v 1 (by omega) (by omega);simpa [KK]using this
  clear hS z
  refine⟨_,(stepG_add_atomic rfl rfl (by k_ne) rfl H.f_addU64 (x_addU64_n L) (x_addU64_b L) (x_addU64_x L) .u64 (x_addU64_f L) rfl rfl hw.cellSt (hw.thaw 0)).trans (by rw [eS];rfl),fun hl=>absurd hl.1 (by omega),fun _=>⟨qt+89,?_⟩⟩
  clear hw
  walk_nrm
  q_vn (.int .u64 S)
  q_c stepG_region_end
  q_c stepG_ret'
  q_leave1 H.f_uAdd
  q_vn (.int .u64 S)
  q_c stepG_region_end
  q_c stepG_seq
  q_c stepG_seq
  q_reg
  q_vn (.int .u64 S)
  q_vn (.int .u64 0)
  q_vn (.bool false)
  q_vn (.bool false)
  q_skip
  q_skip
  q_vn (.bool false)
  q_c stepG_region_end
  q_cond false
  q_c stepG_skip
  q_c stepG_seq
  q_reg
  q_vn (.int .u64 S)
  q_vn (.int .u64 (v:Int))
  q_vn (.int .i32 (v:Int))
  q_vn (.int .i32 (v:Int))
  q_c stepG_region_end
  q_c stepG_seq
  q_reg
  q_vn (.int .u64 S)
  q_vn (.int .u64 1)
  q_vn (.int .u32 1)
  q_vn (.int .u32 1)
  q_c stepG_region_end
  q_c stepG_seq
  q_c stepG_seq
  q_reg
  q_vn (.bool true)
  q_vn (.int .i64 (-1))
  q_vn (.bool false)
  q_vn (.bool false)
  q_vn (.bool false)
  q_skip
  q_skip
  q_skip
  q_skip
  q_vn (.bool false)
  q_c stepG_region_end
  q_cond false
  q_c stepG_skip
  q_c stepG_seq
  q_c stepG_seq
  q_reg
  q_vn (.int .i32 (v:Int))
  q_vn (.bool false)
  q_c stepG_region_end
  q_cond false
  q_c stepG_skip
  q_c stepG_seq
  q_c stepG_seq
  q_reg
  q_vn (.int .u32 1)
  q_vn (.bool true)
  q_vn (.bool true)
  q_vn (.int .i64 (-1))
  q_vn (.bool false)
  q_vn (.bool false)
  q_vn (.bool false)
  q_skip
  q_skip
  q_skip
  q_skip
  q_vn (.bool false)
  q_c stepG_region_end
  q_cond false
  q_c stepG_skip
  q_c stepG_seq
  q_c stepG_seq
  q_reg
  q_vn (.int .i32 (v:Int))
  q_vn (.bool true)
  q_vn (.bool true)
  q_skip
  q_skip
  q_vn (.bool true)
  q_c stepG_region_end
  q_cond true
  q_c stepG_ret'
  q_enable
  q_leave0 H.f_add
  exact hT
theorem doneD {P:Program}(H:WgLib P L){Wg:Nat}{c:Frame}{cs:List Frame}{qt:Nat}
  (hcm:c.mode=.returning) (hT:QuitsD P qt 0 (G c cs)) (w:World) (hF:WgLive L.tWg Wg w):
  Goes P false (RL L.tWg Wg) DC0 (AR0 P L.tWg Wg) 23 (G ((baseD L.done).at ⟨#[.pointer (some ⟨Wg,0,none⟩),undef,undef,undef],[]⟩ [.code (body_done L)]) (c::cs)) w:=by
 lib_facts
 have hA:=@addNeg L P H Wg
 simp only [body_done,body_add,doneFn,addFn,Option.getD_some]at hA ⊢
 u_reg rl hF
 u_op rl hF
 u_in rl hF
 refine goes_call rfl rfl (by k_ne) rfl H.f_add (nm_add L) rfl ⟨by u_nil,?_⟩
 walk_nrmf addFn
 refine hA (qt:=qt+3) ?_ _ hF
 q_c stepG_region_end
 q_c stepG_end
 exact QuitsD.leaveD rfl rfl H.f_done rfl hcm hT
end Go.Proofs.YtngdldcgkaplbaaGreat.Fw
namespace Go.Proofs.YtngdldcgkaplbaaGreat.Gt
open Go Go.Conc Go.Conc.Lib Go.ConcN
open Go.ConcR (KK WgAt stA smA rd wr DC0 Payload)
open Lk Fw
theorem done_goes {Wg:Nat}(tmps:Array Value)(w:World)(hF:WgLive lnk.tWg Wg w) :
  Goes P false (RL lnk.tWg Wg) DC0 (AR0 P lnk.tWg Wg) 23
   (G ((baseD lnk.done).at ⟨#[.pointer (some ⟨Wg,0,none⟩),undef,undef,undef],[]⟩ [.code (Go.ConcR.Gen.body_done lnk)]) ({ (baseD nW).at ⟨tmps,[]⟩ []with mode:=.returning }::[restB])) w:=
 doneD wgLib (c:={ (baseD nW).at ⟨tmps,[]⟩ []with mode:=.returning }) rfl (quits_end tmps) w hF
end Go.Proofs.YtngdldcgkaplbaaGreat.Gt
namespace Go.Proofs.YtngdldcgkaplbaaGreat.Gt
open Go Go.Conc Go.Conc.Lib
open Lk Fw
inductive Sm (main:Bool):Nat→Goroutine→Goroutine→Prop
 |refl (g:Goroutine):Sm main 0 g g
 |step {n:Nat} {g g1 g2:Goroutine} (hs:g.status=.running) (h:∀w,stepG P main g w=.go g1 w #[]) (k:Sm main n g1 g2):Sm main (n+1) g g2
theorem Sm.one {main:Bool}{g g1:Goroutine}(hs:g.status=.running)(h:∀ w,stepG P main g w=.go g1 w #[]):Sm main 1 g g1:=.step hs h (.refl _)
theorem Sm.trans {main:Bool}{n m:Nat}{g g1 g2:Goroutine}(h:Sm main n g g1)(k:Sm main m g1 g2):Sm main (n+m) g g2:=by
 induction h with
 |refl g=>rw [Nat.zero_add];exact k
 | @step n g g1 g2 hs h _ ih=>
  have e:n+1+m=(n+m)+1:=by omega
  rw [e]
  exact .step hs h (ih k)
theorem Sl.sm {n:Nat}{g g1:Goroutine}(h:Sl n g g1):Sm false n g g1:=by
 induction h with
 |refl g=>exact .refl g
 |step hs h _ ih=>exact .step hs h ih
theorem Sm.val {main:Bool}{b:Frame}(hk:b.kind≠.early){a:Act}{ops:Array Oper}{i:Nat}{rest:List Nat}{o:Oper}{v:Value}{k:List Item}{cs:List Frame}(ho:ops[i]?=some o)(hw:Region.wanted o (yielded ops a.tmps)=true)
  (h:∀w,(execOp a.eval o).runT P w #[]=(.ok (.value v) w,#[])):Sm main 1 (G (b.at a (.inRegion ops (i::rest)::k)) cs) (G (b.at (a.put o.dst v) (.inRegion ops rest::k)) cs):=by
 refine .one rfl fun w=>?_
 have hfin:(b.at a (.inRegion ops (i::rest)::k)).finish v=b.at (a.put o.dst v) (.inRegion ops rest::k):=by rw [Frame.finish_at,ho];rfl
 have hk':((b.at a (.inRegion ops (i::rest)::k)).kind==CallKind.early)=false:=by
  have:(b.at a (.inRegion ops (i::rest)::k)).kind=b.kind:=rfl
  rw [this];simpa using hk
 rw [stepG_oper ho hw,←hfin]
 simp only [stepG.apply,h w,if_true,GStep.after,hk',Bool.false_eq_true,if_false]
 rfl
theorem getD_set (xs:Array Value)(i j:Nat)(v:Value)(hi:i < xs.size):(xs.setIfInBounds i v).getD j undef=if i=j then v else xs.getD j undef:=by
 simp only [Array.getD_eq_getD_getElem?,Array.getElem?_setIfInBounds]
 split
 ·rename_i h;subst h;simp [hi]
 ·rfl
noncomputable abbrev gb:Frame:=base nG
theorem gb_kind:gb.kind≠.early:=by intro h;cases h
noncomputable def gw (tmps:Array Value)(todo:List Item):Frame:=gb.at ⟨tmps,[]⟩ todo
noncomputable def kF:List Item:=[.inLoop cF,.inBlock 0,.code c5]
section
variable {tmps:Array Value} {cs:List Frame} {k:List Item}
theorem run_move (ev:Operand→Value)(o:Oper)(x:Operand)(h:o.op=.move x)(w:World):(execOp ev o).runT P w #[]=(.ok (.value (ev x)) w,#[]):=by
 unfold execOp
 simp only [h]
 rfl
theorem run_assign (ev:Operand→Value)(o:Oper)(x:Operand)(h:o.op=.assign x)(w:World):(execOp ev o).runT P w #[]=(.ok (.value (ev x)) w,#[]):=by
 unfold execOp
 simp only [h]
 rfl
theorem run_lss (ev:Operand→Value)(o:Oper)(x y:Operand)(z:TypeId)(h:o.op=.binOp .lss 3 x y z)(a b:Int)(hx:ev x=.int .i64 a)(hy:ev y=.int .i64 b)(w:World):(execOp ev o).runT P w #[]=(.ok (.value (.bool (decide (a<b)))) w,#[]):=by
 unfold execOp
 simp only [h,hx,hy]
 rfl
theorem run_add (ev:Operand→Value)(o:Oper)(x y:Operand)(z:TypeId)(h:o.op=.binOp .add 3 x y z)(a b:Int)(hx:ev x=.int .i64 a)(hy:ev y=.int .i64 b)(w:World):(execOp ev o).runT P w #[]=(.ok (.value (.int .i64 (IntKind.i64.wrap (a+b)))) w,#[]):=by
 unfold execOp
 simp only [h,hx,hy]
 rfl
noncomputable def forkT (tmps:Array Value)(j:Value):Array Value:=(((tmps.setIfInBounds 19 (.bool true)).setIfInBounds 20 j).setIfInBounds 10 j)
noncomputable def kA:List Item:=.code (.region 8 o8' false)::.inBlock 1::.code (.region 9 o9 false)::kF
theorem slide_fork (j W:Int)(hs:tmps.size=75)(hj:tmps.getD 18 undef=.int .i64 j)(hW:tmps.getD 17 undef=.int .i64 W)(hlt:j < W) :
  Sm true 16 (G (gw tmps (.code cF::kF)) cs) (G (gw (forkT tmps (.int .i64 j)) (.inRegion o7 [0]::kA)) cs):=by
 have e18:(⟨tmps,[]⟩:Act).eval (.tmp 18)=.int .i64 j:=hj
 have e17:(⟨tmps,[]⟩:Act).eval (.tmp 17)=.int .i64 W:=hW
 have hd:decide (j<W)=true:=decide_eq_true hlt
 rw [cF_eq]
 refine .step rfl (fun w=>stepG_seq) (.step rfl (fun w=>stepG_region) ?_)
 refine Sm.trans (n:=1) (m:=13) (Sm.val gb_kind (o:=o5.getD 0 default) (v:=.bool true) rfl rfl fun w=>?_) ?_
 ·have:=run_lss (⟨tmps,[]⟩:Act).eval (o5.getD 0 default) (.tmp 18) (.tmp 17) 3 rfl j W e18 e17 w
  rw [hd]at this
  exact this
 ·show Sm true 13 (G (gw (tmps.setIfInBounds 19 (.bool true)) (.inRegion o5 []::.code (.seq (.cond (.tmp 19) .skip (.exit 0)) (.seq (.block 1 (.seq (.region 6 o6 false) (.seq (.region 7 o7 false) (.region 8 o8' false)))) (.region 9 o9 false)))::kF)) cs) _
  have e19:(⟨tmps.setIfInBounds 19 (.bool true),[]⟩:Act).eval (.tmp 19)=.bool true:=by
   show(tmps.setIfInBounds 19 (.bool true)).getD 19 undef=_
   rw [getD_set _ _ _ _ (by omega),if_pos rfl]
  refine .step rfl (fun w=>stepG_region_end) (.step rfl (fun w=>stepG_seq) (.step rfl (fun w=>stepG_cond (t:=true) e19) ?_))
  simp only [if_true]
  refine .step rfl (fun w=>stepG_skip) (.step rfl (fun w=>stepG_seq) (.step rfl (fun w=>stepG_block) (.step rfl (fun w=>stepG_seq) (.step rfl (fun w=>stepG_region) ?_))))
  refine Sm.trans (n:=1) (m:=4) (Sm.val gb_kind (o:=o6.getD 0 default) (v:=.int .i64 j) rfl rfl fun w=>?_) ?_
  ·have:=run_move (⟨tmps.setIfInBounds 19 (.bool true),[]⟩:Act).eval (o6.getD 0 default) (.tmp 18) rfl w
   have e:(⟨tmps.setIfInBounds 19 (.bool true),[]⟩:Act).eval (.tmp 18)=.int .i64 j:=by
    show(tmps.setIfInBounds 19 (.bool true)).getD 18 undef=_
    rw [getD_set _ _ _ _ (by omega),if_neg (by decide)]
    exact hj
   rw [e]at this
   exact this
  ·show Sm true 4 (G (gw ((tmps.setIfInBounds 19 (.bool true)).setIfInBounds 20 (.int .i64 j)) (.inRegion o6 [1]::.code (.seq (.region 7 o7 false) (.region 8 o8' false))::.inBlock 1::.code (.region 9 o9 false)::kF)) cs) _
   refine Sm.trans (n:=1) (m:=3) (Sm.val gb_kind (o:=o6.getD 1 default) (v:=.int .i64 j) rfl rfl fun w=>?_) ?_
   ·have:=run_assign (⟨(tmps.setIfInBounds 19 (.bool true)).setIfInBounds 20 (.int .i64 j),[]⟩:Act).eval (o6.getD 1 default) (.tmp 20) rfl w
    have e:(⟨(tmps.setIfInBounds 19 (.bool true)).setIfInBounds 20 (.int .i64 j),[]⟩:Act).eval (.tmp 20)=.int .i64 j:=by
     show((tmps.setIfInBounds 19 (.bool true)).setIfInBounds 20 (.int .i64 j)).getD 20 undef=_
     rw [getD_set _ _ _ _ (by simp;omega),if_pos rfl]
    rw [e]at this
    exact this
   ·show Sm true 3 (G (gw (forkT tmps (.int .i64 j)) (.inRegion o6 []::.code (.seq (.region 7 o7 false) (.region 8 o8' false))::.inBlock 1::.code (.region 9 o9 false)::kF)) cs) _
    exact .step rfl (fun w=>stepG_region_end) (.step rfl (fun w=>stepG_seq) (.step rfl (fun w=>stepG_region) (.refl _)))
theorem size_share (w:World):(sizeOf 128).run P w=.ok 145 w:=by kernel_rfl
theorem run_indexAddr (ev:Operand→Value)(o:Oper)(x y:Operand)(h:o.op=.indexAddr 161 x y)(C l c:Nat)(j:Nat)(hx:ev x=.slice (some ⟨C,0,none⟩) l c)(hy:ev y=.int .i64 j)(hj:j < l)(w:World) :
  (execOp ev o).runT P w #[]=(.ok (.value (.pointer (some ⟨C,j*145,none⟩))) w,#[]):=by
 unfold execOp
 simp only [h,hx,hy]
 simp [go_sem,size_share,hj]
theorem run_makeFunc (ev:Operand→Value)(o:Oper)(f:FuncId)(xs ys:Array Operand)(h:o.op=.makeFunc (.func f) xs ys)(w:World):(execOp ev o).runT P w #[]=(.ok (.value (.func (.func f) (xs.map ev) (ys.map ev))) w,#[]):=by
 unfold execOp
 simp only [h]
 rfl
noncomputable def kG:List Item:=.inBlock 1::.code (.region 9 o9 false)::kF
noncomputable def goT (tmps:Array Value)(wg ch nb one sl ji p:Value):Array Value:=(((tmps.setIfInBounds 22 (.func (.func nW) #[] #[wg,ch,nb,one])).setIfInBounds 23 sl).setIfInBounds 24 ji).setIfInBounds 25 p
theorem slide_go (wg ch nb one:Value)(C l c j:Nat)(hs:tmps.size=75)(h9:tmps.getD 9 undef=wg)(h7:tmps.getD 7 undef=ch)(h3:tmps.getD 3 undef=nb)(h5:tmps.getD 5 undef=one)
  (h8:tmps.getD 8 undef=.slice (some ⟨C,0,none⟩) l c) (h10:tmps.getD 10 undef=.int .i64 j) (hj:j<l):
  Sm true 6 (G (gw tmps (.inRegion o7 []::kA)) cs) (G (gw (goT tmps wg ch nb one (.slice (some ⟨C,0,none⟩) l c) (.int .i64 j) (.pointer (some ⟨C,j*145,none⟩))) (.inRegion o8' [4]::kG)) cs):=by
 refine .step rfl (fun w=>stepG_region_end) (.step rfl (fun w=>stepG_region) ?_)
 show Sm true 4 (G (gw tmps (.inRegion o8' [0,1,2,3,4]::kG)) cs) _
 refine Sm.trans (n:=1) (m:=3) (Sm.val gb_kind (o:=o8'.getD 0 default) (v:=.func (.func nW) #[] #[wg,ch,nb,one]) rfl rfl fun w=>?_) ?_
 ·have:=run_makeFunc (⟨tmps,[]⟩:Act).eval (o8'.getD 0 default) nW #[] #[.tmp 9,.tmp 7,.tmp 3,.tmp 5] rfl w
  have e:(#[.tmp 9,.tmp 7,.tmp 3,.tmp 5]:Array Operand).map (⟨tmps,[]⟩:Act).eval=#[wg,ch,nb,one]:=by
   have m:∀a b c d:Operand,(#[a,b,c,d]:Array Operand).map (⟨tmps,[]⟩:Act).eval=#[(⟨tmps,[]⟩:Act).eval a,(⟨tmps,[]⟩:Act).eval b,(⟨tmps,[]⟩:Act).eval c,(⟨tmps,[]⟩:Act).eval d]:=fun a b c d=>by simp
   rw [m,show(⟨tmps,[]⟩:Act).eval (.tmp 9)=wg from h9,show(⟨tmps,[]⟩:Act).eval (.tmp 7)=ch from h7,show(⟨tmps,[]⟩:Act).eval (.tmp 3)=nb from h3,show(⟨tmps,[]⟩:Act).eval (.tmp 5)=one from h5]
  rw [e,show(#[]:Array Operand).map (⟨tmps,[]⟩:Act).eval=#[]from by simp]at this
  exact this
 show Sm true 3 (G (gw (tmps.setIfInBounds 22 (.func (.func nW) #[] #[wg,ch,nb,one])) (.inRegion o8' [1,2,3,4]::kG)) cs) _
 obtain⟨T,hT⟩:∃T,T=tmps.setIfInBounds 22 (.func (.func nW) #[] #[wg,ch,nb,one]):=⟨_,rfl⟩
 have t8:T.getD 8 undef=.slice (some ⟨C,0,none⟩) l c:=by rw [hT,getD_set _ _ _ _ (by omega),if_neg (by decide)];exact h8
 have t10:T.getD 10 undef=.int .i64 j:=by rw [hT,getD_set _ _ _ _ (by omega),if_neg (by decide)];exact h10
 have tz:T.size=75:=by rw [hT];simpa using hs
 unfold goT
 rw [←hT]
 refine Sm.trans (n:=1) (m:=2) (Sm.val gb_kind (o:=o8'.getD 1 default) (v:=.slice (some ⟨C,0,none⟩) l c) rfl rfl fun w=>?_) ?_
 ·have:=run_move (⟨T,[]⟩:Act).eval (o8'.getD 1 default) (.tmp 8) rfl w
  rw [show(⟨T,[]⟩:Act).eval (.tmp 8)=_ from t8]at this
  exact this
 show Sm true 2 (G (gw (T.setIfInBounds 23 (.slice (some ⟨C,0,none⟩) l c)) (.inRegion o8' [2,3,4]::kG)) cs) _
 refine Sm.trans (n:=1) (m:=1) (Sm.val gb_kind (o:=o8'.getD 2 default) (v:=.int .i64 j) rfl rfl fun w=>?_) ?_
 ·have:=run_move (⟨T.setIfInBounds 23 (.slice (some ⟨C,0,none⟩) l c),[]⟩:Act).eval (o8'.getD 2 default) (.tmp 10) rfl w
  have e:(⟨T.setIfInBounds 23 (.slice (some ⟨C,0,none⟩) l c),[]⟩:Act).eval (.tmp 10)=.int .i64 j:=by
   show(T.setIfInBounds 23 _).getD 10 undef=_
   rw [getD_set _ _ _ _ (by omega),if_neg (by decide)];exact t10
  rw [e]at this
  exact this
 show Sm true 1 (G (gw ((T.setIfInBounds 23 (.slice (some ⟨C,0,none⟩) l c)).setIfInBounds 24 (.int .i64 j)) (.inRegion o8' [3,4]::kG)) cs) _
 refine Sm.val gb_kind (o:=o8'.getD 3 default) (v:=.pointer (some ⟨C,j*145,none⟩)) rfl rfl fun w=>?_
 refine run_indexAddr _ (o8'.getD 3 default) (.tmp 23) (.tmp 24) rfl C l c j ?_ ?_ hj w
 ·show((T.setIfInBounds 23 _).setIfInBounds 24 _).getD 23 undef=_
  rw [getD_set _ _ _ _ (by simp;omega),if_neg (by decide),getD_set _ _ _ _ (by omega),if_pos rfl]
 ·show((T.setIfInBounds 23 _).setIfInBounds 24 _).getD 24 undef=_
  rw [getD_set _ _ _ _ (by simp;omega),if_pos rfl]
noncomputable def incT (tmps:Array Value)(j:Int):Array Value:=(tmps.setIfInBounds 26 (.int .i64 (j+1))).setIfInBounds 18 (.int .i64 (j+1))
theorem slide_inc (j:Int)(hs:tmps.size=75)(h18:tmps.getD 18 undef=.int .i64 j)(hj:0≤j)(hj2:j < 1000) :
  Sm true 7 (G (gw tmps (.inRegion o8' []::kG)) cs) (G (gw (incT tmps j) (.code cF::kF)) cs):=by
 refine .step rfl (fun w=>stepG_region_end) (.step rfl (fun w=>stepG_inBlock) (.step rfl (fun w=>stepG_region) ?_))
 show Sm true 4 (G (gw tmps (.inRegion o9 [0,1]::kF)) cs) _
 refine Sm.trans (n:=1) (m:=3) (Sm.val gb_kind (o:=o9.getD 0 default) (v:=.int .i64 (j+1)) rfl rfl fun w=>?_) ?_
 ·have:=run_add (⟨tmps,[]⟩:Act).eval (o9.getD 0 default) (.tmp 18) (.const (.int .i64 1)) 3 rfl j 1 h18 rfl w
  have e:IntKind.i64.wrap (j+1)=j+1:=by rw [IntKind.wrap_i64];omega
  rw [e]at this
  exact this
 show Sm true 3 (G (gw (tmps.setIfInBounds 26 (.int .i64 (j+1))) (.inRegion o9 [1]::kF)) cs) _
 refine Sm.trans (n:=1) (m:=2) (Sm.val gb_kind (o:=o9.getD 1 default) (v:=.int .i64 (j+1)) rfl rfl fun w=>?_) ?_
 ·have:=run_move (⟨tmps.setIfInBounds 26 (.int .i64 (j+1)),[]⟩:Act).eval (o9.getD 1 default) (.tmp 26) rfl w
  have e:(⟨tmps.setIfInBounds 26 (.int .i64 (j+1)),[]⟩:Act).eval (.tmp 26)=.int .i64 (j+1):=by
   show(tmps.setIfInBounds 26 _).getD 26 undef=_
   rw [getD_set _ _ _ _ (by omega),if_pos rfl]
  rw [e]at this
  exact this
 show Sm true 2 (G (gw (incT tmps j) (.inRegion o9 []::kF)) cs) _
 exact .step rfl (fun w=>stepG_region_end) (.step rfl (fun w=>stepG_inLoop) (.refl _))
noncomputable def kS:List Item:=[.inLoop cS,.inBlock 2,.code c6]
noncomputable def sendT (tmps:Array Value):Array Value:=(tmps.setIfInBounds 19 (.bool false)).setIfInBounds 11 (.int .i64 0)
theorem slide_forked (W:Int)(hs:tmps.size=75)(hj:tmps.getD 18 undef=.int .i64 W)(hW:tmps.getD 17 undef=.int .i64 W) :
  Sm true 14 (G (gw tmps (.code cF::kF)) cs) (G (gw (sendT tmps) (.code cS::kS)) cs):=by
 have e18:(⟨tmps,[]⟩:Act).eval (.tmp 18)=.int .i64 W:=hj
 have e17:(⟨tmps,[]⟩:Act).eval (.tmp 17)=.int .i64 W:=hW
 have hd:decide (W<W)=false:=decide_eq_false (by omega)
 rw [cF_eq]
 refine .step rfl (fun w=>stepG_seq) (.step rfl (fun w=>stepG_region) ?_)
 refine Sm.trans (n:=1) (m:=11) (Sm.val gb_kind (o:=o5.getD 0 default) (v:=.bool false) rfl rfl fun w=>?_) ?_
 ·have:=run_lss (⟨tmps,[]⟩:Act).eval (o5.getD 0 default) (.tmp 18) (.tmp 17) 3 rfl W W e18 e17 w
  rw [hd]at this
  exact this
 show Sm true 11 (G (gw (tmps.setIfInBounds 19 (.bool false)) (.inRegion o5 []::.code (.seq (.cond (.tmp 19) .skip (.exit 0)) (.seq (.block 1 (.seq (.region 6 o6 false) (.seq (.region 7 o7 false) (.region 8 o8' false)))) (.region 9 o9 false)))::kF)) cs) _
 have e19:(⟨tmps.setIfInBounds 19 (.bool false),[]⟩:Act).eval (.tmp 19)=.bool false:=by
  show(tmps.setIfInBounds 19 (.bool false)).getD 19 undef=_
  rw [getD_set _ _ _ _ (by omega),if_pos rfl]
 refine .step rfl (fun w=>stepG_region_end) (.step rfl (fun w=>stepG_seq) (.step rfl (fun w=>stepG_cond (t:=false) e19) ?_))
 simp only [Bool.false_eq_true,if_false]
 refine .step rfl (fun w=>stepG_exit (k':=[.code c5]) rfl) ?_
 rw [c5_eq]
 refine .step rfl (fun w=>stepG_seq) (.step rfl (fun w=>stepG_seq) (.step rfl (fun w=>stepG_region) ?_))
 refine Sm.trans (n:=1) (m:=3) (Sm.val gb_kind (o:=o10.getD 0 default) (v:=.int .i64 0) rfl rfl fun w=>?_) ?_
 ·exact run_assign (⟨tmps.setIfInBounds 19 (.bool false),[]⟩:Act).eval (o10.getD 0 default) (.const (.int .i64 0)) rfl w
 show Sm true 3 (G (gw (sendT tmps) (.inRegion o10 []::.code (.block 2 (.loop cS))::[.code c6])) cs) _
 exact .step rfl (fun w=>stepG_region_end) (.step rfl (fun w=>stepG_block) (.step rfl (fun w=>stepG_loop) (.refl _)))
end
end Go.Proofs.YtngdldcgkaplbaaGreat.Gt