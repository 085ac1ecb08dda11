import Derived.Test.YtngdldcgkaplbaaGreatK19
set_option linter.unusedVariables false
set_option linter.unusedSimpArgs false
set_option maxHeartbeats 40000000
set_option maxRecDepth 100000
namespace Go.Proofs.YtngdldcgkaplbaaGreat.Gt
open Go Go.Conc Go.Conc.Lib
open Go.ConcN (ShN RelBy upd upd_same upd_ne WgLive WD CTag isOpen isW3 isFin pend Vc cnt sumTo get_map_set get_map_set_same Vc_upd OpenSt AllQuit Vc_le others_uncounted bk_cell le_sumTo sumTo_congr)
open Go.ConcR (KK WgAt stA smA rd wr DC0 Payload g_of_ofEvents again_blocked Bk ofEvent_loc_mark bk_of_mute deafBehind_cons deafBehind_one)
open Lk Fw
section
variable {c:Cf} {cs:List Frame} {Post:Value→World→Prop} {gs:Array Goroutine} {w w':World} {sl:Option (Nat×Nat)} {t:Trace} {J:Nat} {cl:Bool} {D:Nat→WD} {m:Nat→WM} {rs:Nat→Map} {vs:Nat→World} {tk:Nat→List Nat} {q:Nat→Nat} {tag:MT} {f0 d0 k:Nat} {a:Goroutine} {st sm st' sm':Int}
variable {g g':Goroutine} {es:Array Event} {i s' d':Nat} {μ':WM} {r':Map} {v':World}
theorem pend_le (tag:MT)(h:Msit c cs tag f0 d0 J k cl a w):J+pend (ct tag)≤c.W:=by
 cases h<;>simp only [ct,pend]<;>first|(split<;>simp_all<;>omega)|omega
theorem rest_wg {r:Map}{v:World}{l:List Nat}(h:Rest c i r v l w)(h4:ShB4 c w)(hA:Go.Conc.Aside (c.p.A+5) w w')(hl:WgLive lnk.tWg (c.p.A+5) w'):Rest c i r v l w':=
 h.ru (Ru.mo h.zn h4 ⟨hA.size,⟨hA.tape,hA.os,hA.output⟩,fun B h5 _=>hA.block B h5⟩ hl)
theorem IV.worker (h:IV c cs gs w t J cl D m rs vs tk q tag f0 d0 k a st sm)(hP:PieceOk c)(hi:i < J)(hg:gs[c.p.N0+i]?=some g)(hrun:g.status=.running)(hL:Less P Post c cs (rank c (Vc J D) tag,m,sumTo c.p.N0 q,f0)):Wins P Post gs w sl t (c.p.N0+i):=by
 have hN:=c.p.hN
 have hW:=c.hW2
 have hb:=pend_le tag h.sit
 have hVj:=Vc_le J D
 have hbig:=h.com.wd.big
 have hlive:WgLive lnk.tWg (c.p.A+5) w:=⟨_,_,h.wg⟩
 obtain⟨g₁,hg₁,hs⟩:=h.com.wk i hi
 obtain rfl:g=g₁:=by rw [hg]at hg₁;exact Option.some.inj hg₁
 have hmode:=h.mode
 by_cases h7:(D i).stage=7
 ·rw [h7]at hs
  obtain⟨hd,hcase⟩:=hs.step7 hP hrun h.com.wd.sb hbig h.com.wd.cell3 hlive
  rcases hcase with hr|⟨g',w',es,μ',r',v',hgo,hn,hlt,h11,h5,hnb⟩|⟨hR,⟨g',n,hgo,hk⟩,h6,h10⟩
  ·exact h.recv hi hg h7 hd hr hL
  ·rw [←hd]at hn
   exact h.stepW hi hg hgo hn (h5.trans h.wg) (fun h=>by omega) hnb (fun tag' ht _=>mode_tagged (mode_same0 hmode h7.symm) ht) (cnt_same h7.symm) hlt (fun e=>⟨rfl,h11 (h.opn e i hi).2⟩) (fun e=>by
    have h1:=hmode.not_ret hi (by omega)
    subst e
    exact absurd rfl h1) hL
  ·have hcl:cl=true:=by
    cases cl with
    |true=>rfl
    |false=>have:=(h.opn rfl i hi).2;omega
   refine h.stepW (s':=6) (d':=0) (μ':=(6,n,nd0)) hi hg hgo ⟨Wo.refl h.com.wd.sb,.k1 hR hk,fun e he=>?_,by rw [hd];rfl⟩ h.wg (fun _=>⟨t.size,RelBy.new ((h.com.deafW i hi).trans hd) _ _⟩) (by rw [Goes.running (fun _ _ x=>x.1) w (rl_refl w) hk];simp)
    (fun tag' ht _=>mode_tagged (hmode.counted hi (by omega) (.inl rfl) _ _) ht) (by simp [ConcN.cnt,h7]) (by
     have:m i=((m i).1,(m i).2):=rfl
     rw [this];exact Lt3.st h6 _ _) (fun e=>by rw [hcl]at e;cases e) (fun e=>by
    have h1:=hmode.not_ret hi (by omega)
    subst e
    exact absurd rfl h1) hL
   simp only [List.mem_toArray,List.mem_cons,List.not_mem_nil,or_false]at he
   subst he
   exact⟨fun x hx=>(by cases hx),(by show c.p.A+5<_;omega),(by simp [Go.ConcR.mk])⟩
 ·have hcl:cl=true:=by
   cases cl with
   |true=>rfl
   |false=>exact absurd (h.opn rfl i hi).1 h7
  have hop:∀{s':Nat} {μ':WM},cl=false→s'=7∧11≤μ'.1:=fun {_ _} e=>by rw [hcl]at e;cases e
  generalize hst:(D i).stage=s at hs h7
  generalize hde:(D i).deaf=dd at hs
  generalize hmi:m i=μ at hs
  generalize hti:tk i=ti at hs
  have hdk:Deaf t (c.p.N0+i)=dd:=by rw [h.com.deafW i hi,hde]
  have bookG:∀{g':Goroutine} {w':World} {es:Array Event} {s' d':Nat} {μ':WM} {st' sm':Int},stepG P false g w=.go g' w' es→Go.Conc.Aside (c.p.A+5) w w'→WgAt lnk.tWg (c.p.A+5) w' st' sm'→(∀e∈es,Bk (c.p.A+5) e) →
    (∀(jx:Nat) e,es[jx]?=some e→(MemAct.ofEvent e).touch?=none∨0<deafBehind dd (es.extract 0 jx))→Wsit c i s' μ' d' (rs i) (vs i) ti g' w'→deafBehind dd es=d'→s≤6 →
    (∀tag',(tag'=tag∨(tag=.bl∧tag'=.w3))→(mayWake P g=true→g'.status=.running→tag'≠.bl)→Go.ConcN.Mode J (ConcN.upd D i ⟨s',0,d'⟩) (ct tag') st' sm')→(tag=.rt→AcqA c J (t++MemOp.ofEvents (c.p.N0+i) g.frame.fn g.frame.place es))→Lt3 μ' μ→ConcN.cnt ⟨s',0,d'⟩≤ConcN.cnt (D i)→g'.status≠.blocked →
    Wins P Post gs w sl t (c.p.N0+i):=by
   intro g' w' es s' d' μ' st' sm' hgo hAs hwg' hbk hd hs' hdd h6 hmode' hacq' hlt hc hnb
   exact h.stepW hi hg hgo ⟨wo_wg h.com.wd.sb hAs,by rw [hti];exact hs',fun e he=>evk_bk (by have:=hAs.size;omega) (hbk e he),by rw [hde];exact hdd⟩ hwg' (fun _=>by
    obtain⟨r,hr⟩:=h.com.rel i hi (by omega)
    exact⟨r,hr.book hdk _ _ hbk hd⟩) hnb hmode' hc (by rw [hmi];exact hlt) hop hacq' hL
  have book:∀{g':Goroutine} {w':World} {es:Array Event} {s' d':Nat} {μ':WM} {st' sm':Int},stepG P false g w=.go g' w' es→Go.Conc.Aside (c.p.A+5) w w'→WgAt lnk.tWg (c.p.A+5) w' st' sm'→(∀e∈es,Bk (c.p.A+5) e) →
    (∀(jx:Nat) e,es[jx]?=some e→(MemAct.ofEvent e).touch?=none∨0<deafBehind dd (es.extract 0 jx))→Wsit c i s' μ' d' (rs i) (vs i) ti g' w'→deafBehind dd es=d'→s≤6 →
    Go.ConcN.Mode J (ConcN.upd D i ⟨s',0,d'⟩) (ct tag) st' sm'→(tag=.rt→AcqA c J (t++MemOp.ofEvents (c.p.N0+i) g.frame.fn g.frame.place es))→Lt3 μ' μ→ConcN.cnt ⟨s',0,d'⟩≤ConcN.cnt (D i)→g'.status≠.blocked →
    Wins P Post gs w sl t (c.p.N0+i):=
   fun hgo hAs hwg' hbk hd hs' hdd h6 hmode' hacq' hlt hc hnb=>bookG hgo hAs hwg' hbk hd hs' hdd h6 (fun _ ht _=>mode_tagged hmode' ht) hacq' hlt hc hnb
  have nr:s≠1→tag≠.rt:=fun h1 e=>by
   have h2:=hmode.not_ret hi (by omega)
   subst e
   exact absurd rfl h2
  have idle:∀{g':Goroutine} {μ':WM},stepG P false g w=.go g' w #[]→Wsit c i s μ' dd (rs i) (vs i) ti g' w→Lt3 μ' μ→s≤6→s≠1→g'.status≠.blocked→Wins P Post gs w sl t (c.p.N0+i):=by
   intro g' μ' hgo hs' hlt h6 h1 hnb
   exact book hgo (.refl _ w) h.wg (by simp) (by simp) hs' rfl h6 (mode_same0 hmode hst.symm) (fun e=>absurd e (nr h1)) hlt (cnt_same hst.symm) hnb
  have bk1:∀{e:Event},Bk (c.p.A+5) e→∀x∈(#[e]:Array Event),Bk (c.p.A+5) x:=fun {e} he x hx=>by
   simp only [List.mem_toArray,List.mem_cons,List.not_mem_nil,or_false]at hx
   subst hx;exact he
  cases hs with
  |load=>exact absurd rfl h7
  |slide=>exact absurd rfl h7
  |again=>exact absurd rfl h7
  |park=>exact absurd rfl h7
  |got=>exact absurd rfl h7
  |piece=>exact absurd rfl h7
  |out=>exact absurd rfl h7
  |r0=>exact absurd rfl h7
  |k1 hR hk=>
   rcases Goes.cases hk with hstop|⟨m',rfl,hstep⟩
   ·obtain⟨_,g',hgo,m₂,hk⟩:=hstop w (rl_refl w)
    exact book hgo (.refl _ w) h.wg (bk1 (.inl rfl)) (by intro jx e he;exact .inl (by have:=Array.mem_of_getElem? he;simp at this;subst this;rfl)) (.d1 hR hk) rfl (by omega) (hmode.counted hi (by omega) (.inr rfl) _ _) (fun e=>absurd e (nr (by omega))) (Lt3.st (by decide) _ _) (by simp [ConcN.cnt,hst]) (by rw [Goes.running (fun _ _ x=>x.1) w (rl_refl w) hk];simp)
   ·obtain⟨g',w',es,hgo,⟨rfl,rfl⟩,hg'⟩:=hstep w (rl_refl w)
    exact idle hgo (.k1 hR hg') (Lt3.fu (by omega) _ _) (by omega) (by omega) (by rw [Goes.running (fun _ _ x=>x.1) _ (rl_refl _) hg'];simp)
  |d1 hR hk=>
   rcases Goes.cases hk with hstop|⟨m',rfl,hstep⟩
   ·obtain⟨_,hall⟩:=hstop w (rl_refl w)
    have hc1:ConcN.cnt (D i)=1:=by simp [ConcN.cnt,hst]
    have hV1:1≤Vc J D:=by have:=le_sumTo (f:=fun x=>ConcN.cnt (D x)) hi;simp only [Vc];omega
    have bk2:∀e∈#[rd (stA (c.p.A+5)),wr (stA (c.p.A+5))],Bk (c.p.A+5) e:=by intro e he;simp at he;rcases he with rfl|rfl<;>exact bk_cell _ _ rfl
    have df2:∀(jx:Nat) e,(#[rd (stA (c.p.A+5)),wr (stA (c.p.A+5))]:Array Event)[jx]?=some e→(MemAct.ofEvent e).touch?=none∨0<deafBehind 1 ((#[rd (stA (c.p.A+5)),wr (stA (c.p.A+5))]:Array Event).extract 0 jx):=by
     intro jx e he
     match jx,he with
     |0,_=>exact .inr (by simp [deafBehind])
     |1,_=>exact .inr (by simp [deafBehind,rd])
     |jx+2,he=>simp at he
    have opq:OpenSt J D→OpenSt J (ConcN.upd D i ⟨1,0,1⟩):=fun h a ha=>by
     by_cases e:a=i
     ·subst e;rw [upd_same];simp
     ·rw [ConcN.upd_ne D _ e];exact h a ha
    have hqs:∀{q:Nat} {x:Goroutine},QuitsD P q 1 x→x.status≠.blocked:=fun hq=>by
     rcases hq.status with h1|h1<;>rw [h1]<;>simp
    have hwg:=h.wg
    have hsz:=h.com.wd.sb
    obtain⟨x,hx⟩:∃x,x=ct tag:=⟨_,rfl⟩
    rw [←hx]at hmode hb
    cases hmode with
    |opn h1 h2 h3=>
     obtain⟨v,hv⟩:∃v,Vc J D+pend x=v+1:=⟨Vc J D+pend x-1,by omega⟩
     rw [hv]at hwg
     have hw1:WgAt lnk.tWg (c.p.A+5) w (((v:Nat)+1)*KK+((0:Nat):Int)) 0:=by simpa using hwg
     obtain⟨g',hgo,_,hq⟩:=hall v 0 (by omega) (by omega) hw1
     obtain⟨q,hq⟩:=hq (by omega)
     have hv':Vc J (ConcN.upd D i ⟨1,0,1⟩)+pend x=v:=by have:=Vc_upd D (⟨1,0,1⟩:WD) hi;have:ConcN.cnt (⟨1,0,1⟩:WD)=0:=rfl;omega
     have hA:=aside_setCell w (stA (c.p.A+5)) (.int .u64 (v*KK+((0:Nat):Int)))
     have hwg':=hwg.setSt ((v:Nat)*KK+((0:Nat):Int))
     refine book hgo hA hwg' bk2 df2 (.quit (rest_wg hR hsz hA ⟨_,_,hwg'⟩) hq) rfl (by omega) ?_ (fun e=>absurd e (nr (by omega))) (Lt3.st (by decide) _ _) (by simp [ConcN.cnt]) (hqs hq)
     have e:((v:Nat):Int)*KK+((0:Nat):Int)=((Vc J (ConcN.upd D i ⟨1,0,1⟩)+pend x:Nat):Int)*KK:=by rw [hv'];simp
     rw [e,←hx]
     exact .opn h1 (opq h2) (fun vs ev=>by have:=h3 vs ev;omega)
    |reg h1 h2 h3=>
     obtain⟨v,hv⟩:∃v,Vc J D=v+1:=⟨Vc J D-1,by omega⟩
     rw [hv]at hwg
     have hp:pend x=0:=by cases x<;>first|rfl|exact h1.elim
     have hw1:WgAt lnk.tWg (c.p.A+5) w (((v:Nat)+1)*KK+((1:Nat):Int)) 0:=by simpa using hwg
     obtain⟨g',hgo,hl,hq⟩:=hall v 1 (by omega) (by omega) hw1
     have hA:=aside_setCell w (stA (c.p.A+5)) (.int .u64 (v*KK+((1:Nat):Int)))
     have hwg':=hwg.setSt ((v:Nat)*KK+((1:Nat):Int))
     have hR':=rest_wg hR hsz hA ⟨_,_,hwg'⟩
     by_cases hv0:v=0
     ·subst hv0
      obtain⟨m₂,hk⟩:=hl ⟨rfl,rfl⟩
      refine book hgo hA hwg' bk2 df2 (.d2 hR' hk) rfl (by omega) ?_ (fun e=>absurd e (nr (by omega))) (Lt3.st (by decide) _ _) (by simp [ConcN.cnt]) (by rw [Goes.running (fun _ _ x=>x.1) _ (rl_refl _) hk];simp)
      rw [←hx]
      have hoth:∀a,a<J→a≠i→(D a).stage=1:=fun a ha e=>by
       have c0:=others_uncounted hi hv hc1 a ha e
       have:=h2 a ha
       simp only [ConcN.cnt]at c0
       split at c0<;>omega
      have:=Go.ConcN.Mode.last (j:=J) (D:=ConcN.upd D i ⟨4,0,1⟩) (tag:=x) i h1 hi (by rw [upd_same];simp) (fun a ha e=>by rw [ConcN.upd_ne D _ e];exact hoth a ha e)
      rw [upd_same]at this
      simpa using this
     ·obtain⟨q,hq⟩:=hq (by omega)
      have hv':Vc J (ConcN.upd D i ⟨1,0,1⟩)=v:=by have:=Vc_upd D (⟨1,0,1⟩:WD) hi;have:ConcN.cnt (⟨1,0,1⟩:WD)=0:=rfl;omega
      refine book hgo hA hwg' bk2 df2 (.quit hR' hq) rfl (by omega) ?_ (fun e=>absurd e (nr (by omega))) (Lt3.st (by decide) _ _) (by simp [ConcN.cnt]) (hqs hq)
      have e:((v:Nat):Int)*KK+((1:Nat):Int)=((Vc J (ConcN.upd D i ⟨1,0,1⟩):Nat):Int)*KK+1:=by rw [hv'];simp
      rw [e,←hx]
      exact .reg h1 (opq h2) (by omega)
    |last L _ h2 h3 h4=>
     by_cases e:i=L
     ·subst e;omega
     ·have:=h4 i hi e;omega
    |sema h2=>have:=h2 i hi;omega
    |fin _ h2=>have:=h2 i hi;omega
   ·obtain⟨g',w',es,hgo,⟨rfl,rfl⟩,hg'⟩:=hstep w (rl_refl w)
    exact idle hgo (.d1 hR hg') (Lt3.fu (by omega) _ _) (by omega) (by omega) (by rw [Goes.running (fun _ _ x=>x.1) _ (rl_refl _) hg'];simp)
  |d2 hR hk=>
   rcases Goes.cases hk with hstop|⟨m',rfl,hstep⟩
   ·obtain⟨_,hx⟩:=hstop w (rl_refl w)
    obtain⟨hW3,hoth,hst',hsm'⟩:=hmode.isLast hi (by omega)
    have hwg:=h.wg
    rw [hst',hsm']at hwg
    simp only [hst]at hwg
    obtain⟨g',hgo,m₂,hk⟩:=hx (by simpa using hwg)
    refine book hgo (.refl _ w) hwg (bk1 (bk_cell _ _ rfl)) (by intro jx e he;match jx,he with|0,_=>exact .inr (by simp [deafBehind])|jx+1,he=>simp at he) (.d3 hR hk) rfl (by omega) ?_ (fun e=>absurd e (nr (by omega))) (Lt3.st (by decide) _ _) (by simp [ConcN.cnt]) (by rw [Goes.running (fun _ _ x=>x.1) _ (rl_refl _) hk];simp)
    have:=Go.ConcN.Mode.last (j:=J) (D:=ConcN.upd D i ⟨3,0,1⟩) (tag:=ct tag) i hW3 hi (by rw [upd_same];simp) (fun a ha e=>by rw [ConcN.upd_ne D _ e];exact hoth a ha e)
    rw [upd_same]at this
    simpa using this
   ·obtain⟨g',w',es,hgo,⟨rfl,rfl⟩,hg'⟩:=hstep w (rl_refl w)
    exact idle hgo (.d2 hR hg') (Lt3.fu (by omega) _ _) (by omega) (by omega) (by rw [Goes.running (fun _ _ x=>x.1) _ (rl_refl _) hg'];simp)
  |d3 hR hk=>
   rcases Goes.cases hk with hstop|⟨m',rfl,hstep⟩
   ·obtain⟨_,hx⟩:=hstop w (rl_refl w)
    obtain⟨hW3,hoth,hst',hsm'⟩:=hmode.isLast hi (by omega)
    have hwg:=h.wg
    rw [hst',hsm']at hwg
    simp only [hst]at hwg
    obtain⟨g',hgo,m₂,hk⟩:=hx (by simpa using hwg)
    have hA:=aside_setCell w (stA (c.p.A+5)) (.int .u64 0)
    have hwg':=hwg.setSt 0
    refine book hgo hA hwg' (bk1 (bk_cell _ _ rfl)) (by intro jx e he;match jx,he with|0,_=>exact .inr (by simp [deafBehind])|jx+1,he=>simp at he) (.d4 (rest_wg hR h.com.wd.sb hA ⟨_,_,hwg'⟩) hk) rfl (by omega) ?_ (fun e=>absurd e (nr (by omega))) (Lt3.st (by decide) _ _) (by simp [ConcN.cnt]) (by rw [Goes.running (fun _ _ x=>x.1) _ (rl_refl _) hk];simp)
    have:=Go.ConcN.Mode.last (j:=J) (D:=ConcN.upd D i ⟨2,0,1⟩) (tag:=ct tag) i hW3 hi (by rw [upd_same];simp) (fun a ha e=>by rw [ConcN.upd_ne D _ e];exact hoth a ha e)
    rw [upd_same]at this
    simpa using this
   ·obtain⟨g',w',es,hgo,⟨rfl,rfl⟩,hg'⟩:=hstep w (rl_refl w)
    exact idle hgo (.d3 hR hg') (Lt3.fu (by omega) _ _) (by omega) (by omega) (by rw [Goes.running (fun _ _ x=>x.1) _ (rl_refl _) hg'];simp)
  |d4 hR hk=>
   rcases Goes.cases hk with hstop|⟨m',rfl,hstep⟩
   ·obtain⟨_,hmw,hx⟩:=hstop w (rl_refl w)
    obtain⟨hW3,hoth,hst',hsm'⟩:=hmode.isLast hi (by omega)
    have hwg:=h.wg
    rw [hst',hsm']at hwg
    simp only [hst]at hwg
    obtain⟨g',hgo,q,hq⟩:=hx (by simpa using hwg)
    have hrun':g'.status=.running:=by
     cases q with
     |zero=>exact absurd hq.2 (by decide)
     |succ q=>exact hq.elim (fun x=>absurd x.2 (by decide)) (fun x=>x.1)
    have hA:=aside_setCell w (smA (c.p.A+5)) (.int .u32 1)
    have hwg':=hwg.setSm 1
    refine bookG hgo hA hwg' (es:=semEvents (smA (c.p.A+5))) ?_ ?_ (.quit (rest_wg hR h.com.wd.sb hA ⟨_,_,hwg'⟩) hq) (by simp [deafBehind,semEvents]) (by omega) ?_ (fun e=>absurd e (nr (by omega))) (Lt3.st (by decide) _ _) (by simp [ConcN.cnt]) (by rw [hrun'];simp)
    ·intro e he
     simp [semEvents]at he
     rcases he with rfl|rfl|rfl|rfl
     ·exact .inl rfl
     ·exact bk_cell _ _ rfl
     ·exact bk_cell _ _ rfl
     ·exact .inr (.inl rfl)
    ·intro jx e he
     match jx,he with
     |0,he=>simp [semEvents]at he;subst he;exact .inl rfl
     |1,_=>exact .inr (by simp [deafBehind,semEvents])
     |2,_=>exact .inr (by simp [deafBehind,semEvents])
     |3,he=>simp [semEvents]at he;subst he;exact .inl rfl
     |jx+4,he=>simp [semEvents]at he
    ·intro tag' ht hw
     have hnb:=hw hmw hrun'
     have e3:ct tag'=.w3:=by
      rcases ht with rfl|⟨_,rfl⟩
      ·cases tag'<;>first|rfl|exact hW3.elim|exact absurd rfl hnb
      ·rfl
     rw [e3]
     simp only [if_true]
     exact .sema fun a ha=>by
      by_cases e:a=i
      ·subst e;rw [upd_same]
      ·rw [ConcN.upd_ne D _ e];exact hoth a ha e
   ·obtain⟨g',w',es,hgo,⟨rfl,rfl⟩,hg'⟩:=hstep w (rl_refl w)
    exact idle hgo (.d4 hR hg') (Lt3.fu (by omega) _ _) (by omega) (by omega) (by rw [Goes.running (fun _ _ x=>x.1) _ (rl_refl _) hg'];simp)
  | @quit q' _ _ _ _ _ _ hR hk=>
   cases q' with
   |zero=>rw [hk.1]at hrun;cases hrun
   |succ q'=>
    rcases hk with ⟨hf,_⟩|⟨_,g',es,hmute,hstep,hq⟩
    ·rw [hf]at hrun;cases hrun
    ·have hbk:∀e∈es,Bk (c.p.A+5) e:=fun e he=>bk_of_mute (hmute e he)
     have hno:∀(jx:Nat) e,es[jx]?=some e→(MemAct.ofEvent e).touch?=none∨0<deafBehind dd (es.extract 0 jx):=fun jx e he=>.inl (touch_mute (hmute e (Array.mem_of_getElem? he)))
     refine book (hstep w) (.refl _ w) h.wg hbk hno (.quit hR hq) rfl (by omega) (mode_same0 hmode hst.symm) (fun e=>(h.acq e).app fun i' r hi' hr=>?_) (Lt3.fu (by omega) _ _) (cnt_same hst.symm) (by rcases hq.status with h1|h1<;>rw [h1]<;>simp)
     by_cases e':i'=i
     ·subst e';exact hr.book hdk _ _ hbk hno
     ·exact hr.appOther g_of_ofEvents (by omega)
end
end Go.Proofs.YtngdldcgkaplbaaGreat.Gt
namespace Go.Proofs.YtngdldcgkaplbaaGreat.Gt
open Go Go.Conc Go.Conc.Lib
open Go.ConcN (ShN RelBy upd upd_same upd_ne WgLive WD CTag isOpen isW3 isFin pend Vc cnt sumTo get_map_set get_map_set_same Vc_upd OpenSt AllQuit Vc_le others_uncounted bk_cell le_sumTo sumTo_congr allQuit_of bk_dis bk_en bk_rd bk_rw bk_sem)
open Go.ConcR (KK WgAt stA smA rd wr DC0 Payload g_of_ofEvents again_blocked Bk ofEvent_loc_mark bk_of_mute ofEvent_mk)
open Lk Fw
section
variable {c:Cf} {cs:List Frame} {Post:Value→World→Prop} {gs:Array Goroutine} {w w':World} {sl:Option (Nat×Nat)} {t:Trace} {J:Nat} {cl:Bool} {D:Nat→WD} {m:Nat→WM} {rs:Nat→Map} {vs:Nat→World} {tk:Nat→List Nat} {q:Nat→Nat} {tag tag':MT} {f0 f' d0 k:Nat} {a a':Goroutine} {st sm st' sm':Int}
variable {es:Array Event}
theorem evm_bk {B:Nat}{e:Event}(hB:c.p.A+5 < B)(h:Bk (c.p.A+5) e):EvM c.p B e:=by
 rcases h with h1|h1|⟨a,wr,rfl,ha⟩
 ·obtain⟨loc,wr,sy⟩:=e
  have h1:loc=_:=h1
  subst h1
  exact⟨fun x hx=>(by cases hx),trivial,by simp⟩
 ·obtain⟨loc,wr,sy⟩:=e
  have h1:loc=_:=h1
  subst h1
  exact⟨fun x hx=>(by cases hx),trivial,by simp⟩
 ·refine⟨fun x hx=>?_,?_,by simp⟩
  ·simp only [Go.ConcR.ofEvent_cell,MemAct.touch?,Option.some.injEq]at hx
   subst hx
   exact .inl ⟨⟨a,rfl,ha⟩,by simp⟩
  ·simp only [Go.ConcR.ofEvent_cell]
   show a.block<B
   omega
theorem IV.step0 (h:IV c cs gs w t J cl D m rs vs tk q tag f0 d0 k a st sm)(hgo:stepG P true a w=.go a' w' es)(hm:Mo c w w')(hch:∃ s r,w'.heap[c.p.A+2]?=some (.chan 0 #[] cl s r false))(hev:∀ e∈es,EvM c.p w'.heap.size e)
  (hwg:WgAt lnk.tWg (c.p.A+5) w' st' sm') (hs':Msit c cs tag' f' (deafBehind d0 es) J k cl a' w') (hmode':Go.ConcN.Mode J D (ct tag') st' sm') (hacq:tag'=.rt→AcqA c J (t++MemOp.ofEvents 0 a.frame.fn a.frame.place es)) (h4:tag'≠.sn (c.M-k) 4)
  (hlt:rank c (Vc J D) tag'<rank c (Vc J D) tag∨(rank c (Vc J D) tag'=rank c (Vc J D) tag∧f'<f0)) (hL:Less P Post c cs (rank c (Vc J D) tag,m,sumTo c.p.N0 q,f0)):Wins P Post gs w sl t 0:=by
 have hN:=c.p.hN
 have hlive:WgLive lnk.tWg (c.p.A+5) w':=⟨_,_,hwg⟩
 have hcom:=h.com.step0 (a:=a) (a':=a') (fn:=a.frame.fn) (pos:=a.frame.place) hm hch hlive hev
 have hrun:=runT_crowd_go (P:=P) (sl:=sl) (i:=0) h.g0 (show stepG P (0==0) a w=_ from hgo)
 refine⟨_,_,hrun,hL (rank c (Vc J D) tag',m,sumTo c.p.N0 q,f') ?_ _ _ _ _ ⟨J,cl,D,m,rs,vs,tk,q,tag',f',_,k,a',st',sm',⟨get_map_set_same _ _ _ (by rw [h.com.size];omega),hs',hcom,hwg,hmode',h.prm,h.hJ,hacq,h.opn,fun e=>absurd e h4⟩,rfl⟩⟩
 rcases hlt with h1|⟨h1,h2⟩
 ·exact .p h1 _ _
 ·rw [h1];exact .m h2
theorem IV.idle (h:IV c cs gs w t J cl D m rs vs tk q tag f0 d0 k a st sm)(hgo:stepG P true a w=.go a' w #[])(hs':Msit c cs tag' f' d0 J k cl a' w)(hct:ct tag'=ct tag)(hrt:tag'=.rt→tag=.rt)(h4:tag'≠.sn (c.M - k) 4)
  (hlt:rank c (Vc J D) tag'<rank c (Vc J D) tag∨(rank c (Vc J D) tag'=rank c (Vc J D) tag∧f'<f0)) (hL:Less P Post c cs (rank c (Vc J D) tag,m,sumTo c.p.N0 q,f0)):Wins P Post gs w sl t 0:=by
 refine h.step0 hgo (Mo.refl w) h.com.wd.ch (fun e he=>by simp at he) h.wg hs' (by rw [hct];exact h.mode) (fun e=>?_) h4 hlt hL
 have e1:MemOp.ofEvents 0 a.frame.fn a.frame.place #[]=#[]:=by rw [ofEvents_eq];simp
 rw [e1,Array.append_empty]
 exact h.acq (hrt e)
theorem IV.book0 (h:IV c cs gs w t J cl D m rs vs tk q tag f0 d0 k a st sm)(hgo:stepG P true a w=.go a' w' es)(hA:Go.Conc.Aside (c.p.A+5) w w')(hwg:WgAt lnk.tWg (c.p.A+5) w' st' sm')(hbk:∀ e∈es,Bk (c.p.A+5) e)
  (hs':Msit c cs tag' f' (deafBehind d0 es) J k cl a' w') (hmode':Go.ConcN.Mode J D (ct tag') st' sm') (hrt:tag'≠.rt) (h4:tag'≠.sn (c.M-k) 4)
  (hlt:rank c (Vc J D) tag'<rank c (Vc J D) tag∨(rank c (Vc J D) tag'=rank c (Vc J D) tag∧f'<f0)) (hL:Less P Post c cs (rank c (Vc J D) tag,m,sumTo c.p.N0 q,f0)):Wins P Post gs w sl t 0:=by
 have hb:=h.com.wd.big
 obtain⟨s,r,hc⟩:=h.com.wd.ch
 exact h.step0 hgo ⟨hA.size,⟨hA.tape,hA.os,hA.output⟩,fun B h5 _=>hA.block B h5⟩ ⟨s,r,(hA.block _ (by omega)).trans hc⟩ (fun e he=>evm_bk (by have:=hA.size;omega) (hbk e he)) hwg hs' hmode' (fun e=>absurd e hrt) h4 hlt hL
theorem evm_said {B:Nat}{x:Mark}(hB:c.p.A+5 < B)(h:x=.read (smA (c.p.A+5))∨x=.write (smA (c.p.A+5))):∀e∈(#[Go.ConcR.mk x]:Array Event),EvM c.p B e:=by
 intro e he
 simp only [List.mem_toArray,List.mem_cons,List.not_mem_nil,or_false]at he
 subst he
 rcases h with rfl|rfl
 ·refine⟨fun y hy=>?_,by show c.p.A+5<B;omega,by simp [Go.ConcR.mk]⟩
  simp only [Go.ConcR.mk,MemAct.ofEvent,MemAct.touch?,Option.some.injEq]at hy
  subst hy
  exact .inl ⟨⟨smA (c.p.A+5),rfl,rfl⟩,by simp⟩
 ·refine⟨fun y hy=>?_,by show c.p.A+5<B;omega,by simp [Go.ConcR.mk]⟩
  simp only [Go.ConcR.mk,MemAct.ofEvent,MemAct.touch?,Option.some.injEq]at hy
  subst hy
  exact .inl ⟨⟨smA (c.p.A+5),rfl,rfl⟩,by simp⟩
theorem evm_load {B:Nat}{ad:Addr}(hB:ad.block < B)(h:ad.block=c.p.A∨ad.block=c.p.A+3):∀e∈(#[⟨.cell ad,false,false⟩]:Array Event),EvM c.p B e:=by
 intro e he
 simp only [List.mem_toArray,List.mem_cons,List.not_mem_nil,or_false]at he
 subst he
 refine⟨fun x hx=>?_,?_,by simp⟩
 ·rw [ofEvent_cell0]at hx
  simp only [MemAct.touch?,Option.some.injEq]at hx
  subst hx
  exact .inr (.inl ⟨rfl,rfl,ad,rfl,h⟩)
 ·rw [ofEvent_cell0];exact hB
def Special (c:Cf)(cs:List Frame)(tag:MT)(f0 d0:Nat)(J k:Nat)(cl:Bool)(a:Goroutine)(w:World):Prop:=
 (∃T,tag=.fk J 0∧f0=0∧d0=0∧k=0∧cl=false∧J<c.W∧Tm c T∧T.getD 18 undef=.int .i64 J∧a=atGo c T J cs) ∨
 (∃T,tag=.sn (c.M-k) 5∧f0=0∧d0=0∧cl=false∧J=c.W∧16*k<c.n∧Tm c T∧T.getD 11 undef=.int .i64 ((16*k:Nat):Int)∧T.getD 32 undef=.chan (some (c.p.A+2))∧T.getD 33 undef=.int .i64 ((16*k:Nat):Int)∧a=atSend T cs) ∨
 (∃T,tag=.cl 2∧d0=0∧cl=false∧J=c.W∧k=c.M∧Tm c T∧T.getD 34 undef=.chan (some (c.p.A+2))∧a=G (gw T (.inRegion o14 [1]::kC)) cs) ∨
 (tag=.rt∧J=c.W∧k=c.M∧NxW c cs a w)
theorem IV.main (h:IV c cs gs w t J cl D m rs vs tk q tag f0 d0 k a st sm)(hrun:a.status=.running)(hL:Less P Post c cs (rank c (Vc J D) tag,m,sumTo c.p.N0 q,f0)):Wins P Post gs w sl t 0∨Special c cs tag f0 d0 J k cl a w:=by
 have hN:=c.p.hN
 have hW:=c.hW2
 have hn:=c.hn
 have hbig:=h.com.wd.big
 have hVj:=Vc_le J D
 have hJ:=h.hJ
 have hmode:=h.mode
 have hwg:=h.wg
 have hlive:WgLive lnk.tWg (c.p.A+5) w:=⟨_,_,h.wg⟩
 have bs:∀{e:Event},Bk (c.p.A+5) e→∀x∈(#[e]:Array Event),Bk (c.p.A+5) x:=fun {e} he x hx=>by
  simp only [List.mem_toArray,List.mem_cons,List.not_mem_nil,or_false]at hx
  subst hx;exact he
 have load:∀{ad:Addr},ad.block=c.p.A∨ad.block=c.p.A+3→∀e∈(#[⟨.cell ad,false,false⟩]:Array Event),EvM c.p w.heap.size e:=fun {ad} h1=>evm_load (by omega) h1
 have hsit:=h.sit
 have st5:∀{n:Nat},tag=.fk J 6∨(tag=.fk J 5∧n=f0)→k=0→cl=false→d0=0→J<c.W→Goes P true (RLx c) DC0 (AKd P true lnk.tWg (c.p.A+5) (NxA c cs J)) n a w→Wins P Post gs w sl t 0:=by
  intro n htag hk hcl hd hJW hg
  subst hk hcl hd
  have hct:ct tag=.sp 0 5:=by rcases htag with rfl|⟨rfl,_⟩<;>rfl
  have hr:rank c (Vc J D) (.fk J 4)<rank c (Vc J D) tag:=by rcases htag with rfl|⟨rfl,_⟩<;>simp only [rank]<;>omega
  rcases Goes.cases hg with hstop|⟨m',rfl,hstep⟩
  ·obtain⟨_,a',hgo,m₂,hk⟩:=hstop w (rl_refl w)
   exact h.book0 hgo (.refl _ w) h.wg bk_dis (tag':=.fk J 4) (.f4 hJW hk) (by rw [hct]at hmode;exact hmode) (by simp) (by simp) (.inl hr) hL
  ·obtain⟨a',w',es,hgo,⟨rfl,rfl⟩,hg'⟩:=hstep w (rl_refl w)
   refine h.idle hgo (tag':=.fk J 5) (.f5 hJW hg') (by rw [hct];rfl) (by simp) (by simp) ?_ hL
   rcases htag with rfl|⟨rfl,e⟩
   ·exact .inl (by simp only [rank];omega)
   ·exact .inr ⟨rfl,by omega⟩
 cases hsit with
 |f6 hJW hT h18 h10 kk=>
  cases kk with
  |refl=>exact .inl (st5 (.inl rfl) rfl rfl rfl hJW (add_goes hT h18 h10 w hlive))
  |step hs hst kk=>exact .inl (h.idle (hst w) (.f6 hJW hT h18 h10 kk) rfl (by simp) (by simp) (.inr ⟨rfl,by omega⟩) hL)
 |f5 hJW kk=>exact .inl (st5 (.inr ⟨rfl,rfl⟩) rfl rfl rfl hJW kk)
 |f4 hJW kk=>
  rcases Goes.cases kk with hstop|⟨m',rfl,hstep⟩
  ·obtain⟨_,hall⟩:=hstop w (rl_refl w)
   obtain⟨ho,rfl,rfl,_⟩:=hmode.open_inv trivial
   obtain⟨a',hgo,m₂,hk⟩:=hall (Vc J D) (by omega) (by simpa [pend,ct]using hwg)
   refine .inl (h.book0 hgo (aside_setCell w (stA (c.p.A+5)) _) (hwg.setSt _) bk_rw (tag':=.fk J 3) (.f3 hJW hk) ?_ (by simp) (by simp) (.inl (by simp only [rank];omega)) hL)
   have e:(((Vc J D:Nat):Int)+1)*KK=((Vc J D+pend (.sp 0 3):Nat):Int)*KK:=by simp [pend]
   rw [e]
   exact .opn trivial ho (by simp [ct])
  ·obtain⟨a',w',es,hgo,⟨rfl,rfl⟩,hg'⟩:=hstep w (rl_refl w)
   exact .inl (h.idle hgo (.f4 hJW hg') rfl (by simp) (by simp) (.inr ⟨rfl,by omega⟩) hL)
 |f3 hJW kk=>
  rcases Goes.cases kk with hstop|⟨m',rfl,hstep⟩
  ·rcases hstop w (rl_refl w)with ⟨_,a',hgo,m₂,hk⟩|⟨_,a',hgo,m₂,hk⟩
   ·exact .inl (h.step0 hgo (Mo.refl w) h.com.wd.ch (evm_said (by omega) (.inl rfl)) h.wg (tag':=.fk J 2) (.f2 hJW hk) hmode (fun e=>by cases e) (by simp) (.inl (by simp only [rank];omega)) hL)
   ·exact .inl (h.book0 hgo (.refl _ w) h.wg bk_en (tag':=.fk J 1) (.f1 hJW hk) hmode (by simp) (by simp) (.inl (by simp only [rank];omega)) hL)
  ·obtain⟨a',w',es,hgo,⟨rfl,rfl⟩,hg'⟩:=hstep w (rl_refl w)
   exact .inl (h.idle hgo (.f3 hJW hg') rfl (by simp) (by simp) (.inr ⟨rfl,by omega⟩) hL)
 |f2 hJW kk=>
  rcases Goes.cases kk with hstop|⟨m',rfl,hstep⟩
  ·obtain⟨_,a',hgo,m₂,hk⟩:=hstop w (rl_refl w)
   exact .inl (h.book0 hgo (.refl _ w) h.wg bk_en (tag':=.fk J 1) (.f1 hJW hk) hmode (by simp) (by simp) (.inl (by simp only [rank];omega)) hL)
  ·obtain⟨a',w',es,hgo,⟨rfl,rfl⟩,hg'⟩:=hstep w (rl_refl w)
   exact .inl (h.idle hgo (.f2 hJW hg') rfl (by simp) (by simp) (.inr ⟨rfl,by omega⟩) hL)
 |f1 hJW kk=>
  rcases Goes.cases kk with hstop|⟨m',rfl,hstep⟩
  ·obtain⟨T,hT,h18,h10,rfl⟩:=hstop w (rl_refl w)
   have hsl:=slide_go (cs:=cs) (wgV c) (chV c) (nbV c) (obV c) (c.p.A+4) c.W c.W J hT.size hT.t9 hT.t7 hT.t3 hT.t5 hT.t8 h10 hJW
   cases hsl with
   |step hs hst kk=>exact .inl (h.idle (hst w) (tag':=.fk J 0) (.f0 hJW hT h18 kk) rfl (by simp) (by simp) (.inl (by simp only [rank];omega)) hL)
  ·obtain⟨a',w',es,hgo,⟨rfl,rfl⟩,hg'⟩:=hstep w (rl_refl w)
   exact .inl (h.idle hgo (.f1 hJW hg') rfl (by simp) (by simp) (.inr ⟨rfl,by omega⟩) hL)
 |f0 hJW hT h18 kk=>
  cases kk with
  |refl=>exact .inr (.inl ⟨_,rfl,rfl,rfl,rfl,rfl,hJW,hT,h18,rfl⟩)
  |step hs hst kk=>exact .inl (h.idle (hst w) (.f0 hJW hT h18 kk) rfl (by simp) (by simp) (.inr ⟨rfl,by omega⟩) hL)
 | @s7 _ _ T _ _ hk hT h11 kk=>
  cases kk with
  |refl=>
   have hz:=hT.size
   have hT':Tm c (toT T ((16*k:Nat):Int)):=hT.set (.int _ _) (by decide)
   have hld:=load_n (cs:=cs) hT' h.com.wd
   have hT2:Tm c ((toT T ((16*k:Nat):Int)).setIfInBounds 28 (.int .i64 c.n)):=hT'.set (.int _ _) (by decide)
   have h27:((toT T ((16*k:Nat):Int)).setIfInBounds 28 (.int .i64 c.n)).getD 27 undef=.int .i64 ((16*k:Nat):Int):=by
    rw [getD_ne (by decide)];unfold toT;rw [getD_set _ _ _ _ (by omega),if_pos rfl]
   have h28:((toT T ((16*k:Nat):Int)).setIfInBounds 28 (.int .i64 c.n)).getD 28 undef=.int .i64 c.n:=by
    rw [getD_set _ _ _ _ (by have:=hT'.size;omega),if_pos rfl]
   have h11':((toT T ((16*k:Nat):Int)).setIfInBounds 28 (.int .i64 c.n)).getD 11 undef=.int .i64 ((16*k:Nat):Int):=by
    rw [getD_ne (by decide)];unfold toT;rw [getD_ne (by decide)];exact h11
   by_cases hlt:16*k<c.n
   ·have hsl:=slide_sb (cs:=cs) _ _ hT2.size h27 h28 (by omega)
    refine .inl (h.step0 hld (Mo.refl w) h.com.wd.ch (load (.inl rfl)) h.wg (tag':=.sn (c.M-k) 6) (.s6 hlt (hT2.set (.bool _) (by decide)) ((getD_ne (by decide)).trans h11') hsl) hmode (fun e=>by cases e) (by simp) (.inl (by simp only [rank];omega)) hL)
   ·have hkM:k=c.M:=by unfold Cf.M at hk ⊢;omega
    subst hkM
    have hsl:=slide_sc (cs:=cs) _ _ hT2.size h27 h28 (by omega)
    refine .inl (h.step0 hld (Mo.refl w) h.com.wd.ch (load (.inl rfl)) h.wg (tag':=.cl 3) (.c3 (hT2.set (.bool _) (by decide)) hsl) hmode (fun e=>by cases e) (by simp) (.inl (by simp only [rank];omega)) hL)
  |step hs hst kk=>exact .inl (h.idle (hst w) (.s7 hk hT h11 kk) rfl (by simp) (by simp) (.inr ⟨rfl,by omega⟩) hL)
 | @s6 _ _ T _ _ hk hT h11 kk=>
  cases kk with
  |refl=>
   have hz:=hT.size
   have hld:=load_c1 (cs:=cs) hT h.com.wd
   have hT1:Tm c (T.setIfInBounds 32 (.chan (some (c.p.A+2)))):=hT.set (.chan _) (by decide)
   have hsl:=slide_sd (T:=T.setIfInBounds 32 (.chan (some (c.p.A+2)))) (cs:=cs) ((16*k:Nat):Int) ((getD_ne (by decide)).trans h11)
   refine .inl (h.step0 hld (Mo.refl w) h.com.wd.ch (load (.inr rfl)) h.wg (tag':=.sn (c.M-k) 5) (.s5 hk (hT1.set (.int _ _) (by decide)) ((getD_ne (by decide)).trans ((getD_ne (by decide)).trans h11)) ?_ ?_ hsl) hmode (fun e=>by cases e) (by simp) (.inl (by simp only [rank];omega)) hL)
   ·rw [getD_ne (by decide),getD_set _ _ _ _ (by omega),if_pos rfl]
   ·rw [getD_set _ _ _ _ (by have:=hT1.size;omega),if_pos rfl]
  |step hs hst kk=>exact .inl (h.idle (hst w) (.s6 hk hT h11 kk) rfl (by simp) (by simp) (.inr ⟨rfl,by omega⟩) hL)
 |s5 hk hT h11 h32 h33 kk=>
  cases kk with
  |refl=>exact .inr (.inr (.inl ⟨_,rfl,rfl,rfl,rfl,rfl,hk,hT,h11,h32,h33,rfl⟩))
  |step hs hst kk=>exact .inl (h.idle (hst w) (.s5 hk hT h11 h32 h33 kk) rfl (by simp) (by simp) (.inr ⟨rfl,by omega⟩) hL)
 |s4=>cases hrun
 | @c3 _ T _ _ hT kk=>
  cases kk with
  |refl=>
   have hz:=hT.size
   have hld:=load_c2 (cs:=cs) hT h.com.wd
   exact .inl (h.step0 hld (Mo.refl w) h.com.wd.ch (load (.inr rfl)) h.wg (tag':=.cl 2) (.c2 (hT.set (.chan _) (by decide)) (by rw [getD_set _ _ _ _ (by omega),if_pos rfl])) hmode (fun e=>by cases e) (by simp) (.inl (by simp only [rank];omega)) hL)
  |step hs hst kk=>exact .inl (h.idle (hst w) (.c3 hT kk) rfl (by simp) (by simp) (.inr ⟨rfl,by omega⟩) hL)
 |c2 hT h34=>exact .inr (.inr (.inr (.inl ⟨_,rfl,rfl,rfl,rfl,rfl,hT,h34,rfl⟩)))
 |c1 hT kk=>
  cases kk with
  |refl=>
   rcases Goes.cases (wait_goes (cs:=cs) hT w hlive)with hstop|⟨m',e,hstep⟩
   ·obtain⟨_,a',hgo,m₂,hk⟩:=hstop w (rl_refl w)
    exact .inl (h.book0 hgo (.refl _ w) h.wg bk_dis (tag':=.an) (.an hT hk) (hmode.reopen trivial trivial rfl (by simp [ct])) (by simp) (by simp) (.inl (by simp only [rank];omega)) hL)
   ·obtain⟨a',w',es,hgo,⟨rfl,rfl⟩,hg'⟩:=hstep w (rl_refl w)
    exact .inl (h.idle hgo (tag':=.kd) (.kd hT hg') rfl (by simp) (by simp) (.inl (by simp only [rank];omega)) hL)
  |step hs hst kk=>exact .inl (h.idle (hst w) (.c1 hT kk) rfl (by simp) (by simp) (.inr ⟨rfl,by omega⟩) hL)
 |kd hT kk=>
  rcases Goes.cases kk with hstop|⟨m',rfl,hstep⟩
  ·obtain⟨_,a',hgo,m₂,hk⟩:=hstop w (rl_refl w)
   exact .inl (h.book0 hgo (.refl _ w) h.wg bk_dis (tag':=.an) (.an hT hk) (hmode.reopen trivial trivial rfl (by simp [ct])) (by simp) (by simp) (.inl (by simp only [rank];omega)) hL)
  ·obtain⟨a',w',es,hgo,⟨rfl,rfl⟩,hg'⟩:=hstep w (rl_refl w)
   exact .inl (h.idle hgo (.kd hT hg') rfl (by simp) (by simp) (.inr ⟨rfl,by omega⟩) hL)
 |an hT kk=>
  rcases Goes.cases kk with hstop|⟨m',rfl,hstep⟩
  ·obtain⟨n1,hg1⟩:=wait_round hT a w (hstop w (rl_refl w))
   rcases Goes.cases hg1 with hstop1|⟨m',rfl,hstep1⟩
   ·obtain⟨_,hall⟩:=hstop1 w (rl_refl w)
    obtain⟨ho,rfl,rfl,_⟩:=hmode.open_inv trivial
    obtain⟨a',hgo,h0,hne⟩:=hall (Vc c.W D) (by omega) (by simpa [pend,ct]using hwg)
    by_cases hv:Vc c.W D=0
    ·obtain⟨m₂,hk⟩:=h0 hv
     refine .inl (h.book0 hgo (.refl _ w) hwg bk_rd (tag':=.ke) (.ke hk) ?_ (by simp) (by simp) (.inl (by simp only [rank];omega)) hL)
     have e:((Vc c.W D+pend .anch:Nat):Int)*KK=0:=by rw [hv];simp [pend]
     show Go.ConcN.Mode c.W D .ke (((Vc c.W D+pend .anch:Nat):Int)*KK) 0
     rw [e]
     exact .fin trivial (allQuit_of ho hv)
    ·obtain⟨m₂,hk⟩:=hne hv
     exact .inl (h.book0 hgo (.refl _ w) hwg bk_rd (tag':=.w2 (Vc c.W D)) (.w2 hT hk) (hmode.reopen trivial trivial rfl (fun vs e=>by simp only [ct,CTag.w2.injEq]at e;omega)) (by simp) (by simp) (.inl (by simp only [rank];omega)) hL)
   ·obtain⟨a',w',es,hgo,⟨rfl,rfl⟩,hg'⟩:=hstep1 w (rl_refl w)
    refine .inl (h.book0 hgo (.refl _ _) h.wg (fun e he=>by simp at he) (tag':=.w1) (.w1 hT hg') (hmode.reopen trivial trivial rfl (by simp [ct])) (by simp) (by simp) (.inl (by simp only [rank];omega)) hL)
  ·obtain⟨a',w',es,hgo,⟨rfl,rfl⟩,hg'⟩:=hstep w (rl_refl w)
   exact .inl (h.idle hgo (.an hT hg') rfl (by simp) (by simp) (.inr ⟨rfl,by omega⟩) hL)
 |w1 hT kk=>
  rcases Goes.cases kk with hstop|⟨m',rfl,hstep⟩
  ·obtain⟨_,hall⟩:=hstop w (rl_refl w)
   obtain⟨ho,rfl,rfl,_⟩:=hmode.open_inv trivial
   obtain⟨a',hgo,h0,hne⟩:=hall (Vc c.W D) (by omega) (by simpa [pend,ct]using hwg)
   by_cases hv:Vc c.W D=0
   ·obtain⟨m₂,hk⟩:=h0 hv
    refine .inl (h.book0 hgo (.refl _ w) hwg bk_rd (tag':=.ke) (.ke hk) ?_ (by simp) (by simp) (.inl (by simp only [rank];omega)) hL)
    have e:((Vc c.W D+pend .w1:Nat):Int)*KK=0:=by rw [hv];simp [pend]
    show Go.ConcN.Mode c.W D .ke (((Vc c.W D+pend .w1:Nat):Int)*KK) 0
    rw [e]
    exact .fin trivial (allQuit_of ho hv)
   ·obtain⟨m₂,hk⟩:=hne hv
    exact .inl (h.book0 hgo (.refl _ w) hwg bk_rd (tag':=.w2 (Vc c.W D)) (.w2 hT hk) (hmode.reopen trivial trivial rfl (fun vs e=>by simp only [ct,CTag.w2.injEq]at e;omega)) (by simp) (by simp) (.inl (by simp only [rank];omega)) hL)
  ·obtain⟨a',w',es,hgo,⟨rfl,rfl⟩,hg'⟩:=hstep w (rl_refl w)
   exact .inl (h.idle hgo (.w1 hT hg') rfl (by simp) (by simp) (.inr ⟨rfl,by omega⟩) hL)
 | @w2 vs _ _ _ _ hT kk=>
  rcases Goes.cases kk with hstop|⟨m',rfl,hstep⟩
  ·obtain⟨_,hall⟩:=hstop w (rl_refl w)
   obtain⟨ho,rfl,rfl,hw2⟩:=hmode.open_inv trivial
   obtain⟨hle,h1⟩:=hw2 vs rfl
   obtain⟨hhit,hmiss⟩:=hall (Vc c.W D) (by omega) (by simpa [pend,ct]using hwg)
   by_cases e:Vc c.W D=vs
   ·obtain⟨a',hgo,m₂,hk⟩:=hhit e
    exact .inl (h.book0 hgo (aside_setCell w (stA (c.p.A+5)) _) (hwg.setSt _) bk_rw (tag':=.wr) (.wr hk) (.reg trivial ho (by omega)) (by simp) (by simp) (.inl (by simp only [rank];omega)) hL)
   ·obtain⟨a',hgo,m₂,hk⟩:=hmiss e
    exact .inl (h.book0 hgo (.refl _ w) hwg bk_rd (tag':=.an) (.an hT hk) (hmode.reopen trivial trivial rfl (by simp [ct])) (by simp) (by simp) (.inl (by simp only [rank];omega)) hL)
  ·obtain⟨a',w',es,hgo,⟨rfl,rfl⟩,hg'⟩:=hstep w (rl_refl w)
   exact .inl (h.idle hgo (.w2 hT hg') rfl (by simp) (by simp) (.inr ⟨rfl,by omega⟩) hL)
 |wr kk=>
  rcases Goes.cases kk with hstop|⟨m',rfl,hstep⟩
  ·obtain⟨_,a',hgo,m₂,hk⟩:=hstop w (rl_refl w)
   exact .inl (h.step0 hgo (Mo.refl w) h.com.wd.ch (evm_said (by omega) (.inr rfl)) h.wg (tag':=.w3) (.w3 hk) hmode (fun e=>by cases e) (by simp) (.inl (by simp only [rank];omega)) hL)
  ·obtain⟨a',w',es,hgo,⟨rfl,rfl⟩,hg'⟩:=hstep w (rl_refl w)
   exact .inl (h.idle hgo (.wr hg') rfl (by simp) (by simp) (.inr ⟨rfl,by omega⟩) hL)
 |w3 kk=>
  rcases Goes.cases kk with hstop|⟨m',rfl,hstep⟩
  ·obtain⟨_,hoff,hblk,htake⟩:=hstop w (rl_refl w)
   have hbk:∀e∈(#[]:Array Event),Bk (c.p.A+5) e:=fun e he=>by simp at he
   have hmode:Go.ConcN.Mode c.W D .w3 st sm:=hmode
   cases hmode with
   |opn h1 _ _=>exact h1.elim
   |reg h1 h2 h3=>exact .inl (h.book0 (hblk ⟨_,hwg⟩) (.refl _ w) hwg hbk (tag':=.bl) (.bl hstop) (.reg trivial h2 h3) (by simp) (by simp) (.inr ⟨rfl,by omega⟩) hL)
   |last L h1 h2 h3 h4=>exact .inl (h.book0 (hblk ⟨_,hwg⟩) (.refl _ w) hwg hbk (tag':=.bl) (.bl hstop) (.last L trivial h2 h3 h4) (by simp) (by simp) (.inr ⟨rfl,by omega⟩) hL)
   |sema h2=>
    obtain⟨a',hgo,m₂,hk⟩:=htake hwg
    exact .inl (h.book0 hgo (aside_setCell w (smA (c.p.A+5)) _) (hwg.setSm 0) bk_sem (tag':=.w4) (.w4 hk) (.fin trivial h2) (by simp) (by simp) (.inl (by simp only [rank];omega)) hL)
   |fin h1 _=>exact h1.elim
  ·obtain⟨a',w',es,hgo,⟨rfl,rfl⟩,hg'⟩:=hstep w (rl_refl w)
   exact .inl (h.idle hgo (.w3 hg') rfl (by simp) (by simp) (.inr ⟨rfl,by omega⟩) hL)
 |bl=>cases hrun
 |w4 kk=>
  rcases Goes.cases kk with hstop|⟨m',rfl,hstep⟩
  ·obtain⟨_,hx⟩:=hstop w (rl_refl w)
   obtain⟨hq,rfl,rfl⟩:=hmode.fin_inv trivial
   obtain⟨a',hgo,m₂,hk⟩:=hx hwg
   exact .inl (h.book0 hgo (.refl _ w) hwg bk_rd (tag':=.ke) (.ke hk) (.fin trivial hq) (by simp) (by simp) (.inl (by simp only [rank];omega)) hL)
  ·obtain⟨a',w',es,hgo,⟨rfl,rfl⟩,hg'⟩:=hstep w (rl_refl w)
   exact .inl (h.idle hgo (.w4 hg') rfl (by simp) (by simp) (.inr ⟨rfl,by omega⟩) hL)
 |ke kk=>
  rcases Goes.cases kk with hstop|⟨m',rfl,hstep⟩
  ·obtain⟨_,a',hgo,m₂,hk⟩:=hstop w (rl_refl w)
   obtain⟨hq,rfl,rfl⟩:=hmode.fin_inv trivial
   exact .inl (h.book0 hgo (.refl _ w) hwg bk_en (tag':=.aq) (.aq hk) (.fin trivial hq) (by simp) (by simp) (.inl (by simp only [rank];omega)) hL)
  ·obtain⟨a',w',es,hgo,⟨rfl,rfl⟩,hg'⟩:=hstep w (rl_refl w)
   exact .inl (h.idle hgo (.ke hg') rfl (by simp) (by simp) (.inr ⟨rfl,by omega⟩) hL)
 |aq kk=>
  rcases Goes.cases kk with hstop|⟨m',rfl,hstep⟩
  ·obtain⟨_,a',hgo,m₂,hk⟩:=hstop w (rl_refl w)
   obtain⟨hq,rfl,rfl⟩:=hmode.fin_inv trivial
   refine .inl (h.step0 hgo (Mo.refl w) h.com.wd.ch (fun e he=>?_) hwg (tag':=.rt) (.rt hk) (.fin trivial hq) (fun _=>?_) (by simp) (.inl (by simp only [rank];omega)) hL)
   ·simp only [List.mem_toArray,List.mem_cons,List.not_mem_nil,or_false]at he
    subst he
    exact⟨fun x hx=>(by cases hx),(by show c.p.A+5<_;omega),(by simp [Go.ConcR.mk])⟩
   ·have e1:MemOp.ofEvents 0 a.frame.fn a.frame.place #[Go.ConcR.mk (.acquire (stA (c.p.A+5)))]=#[{ g:=0,fn:=a.frame.fn,pos:=a.frame.place,act:=.mark (.acquire (stA (c.p.A+5))) }]:=by rw [ofEvents_eq];simp [ofEvent_mk]
    have hy:(t++#[({ g:=0,fn:=a.frame.fn,pos:=a.frame.place,act:=.mark (.acquire (stA (c.p.A+5))) }:MemOp)])[t.size]?=some { g:=0,fn:=a.frame.fn,pos:=a.frame.place,act:=.mark (.acquire (stA (c.p.A+5))) }:=by simp
    refine⟨t.size,by rw [e1,act?_of hy],by rw [e1];simp [Trace.g?],by rw [e1];exact⟨0,by simp [Trace.g?],by rw [deaf_old (Nat.le_refl _)];exact h.com.deaf0⟩,fun i hi=>?_⟩
    obtain⟨r,hr⟩:=h.com.rel i hi (by rw [hq i hi];omega)
    exact⟨r,hr.appOther g_of_ofEvents (by omega),lt_of_act? hr.act⟩
  ·obtain⟨a',w',es,hgo,⟨rfl,rfl⟩,hg'⟩:=hstep w (rl_refl w)
   exact .inl (h.idle hgo (.aq hg') rfl (by simp) (by simp) (.inr ⟨rfl,by omega⟩) hL)
 |rt kk=>
  rcases Goes.cases kk with hstop|⟨m',rfl,hstep⟩
  ·exact .inr (.inr (.inr (.inr ⟨rfl,rfl,rfl,hstop w (rl_refl w)⟩)))
  ·obtain⟨a',w',es,hgo,⟨rfl,rfl⟩,hg'⟩:=hstep w (rl_refl w)
   exact .inl (h.idle hgo (.rt hg') rfl (by simp) (by simp) (.inr ⟨rfl,by omega⟩) hL)
end
end Go.Proofs.YtngdldcgkaplbaaGreat.Gt
namespace Go.Proofs.YtngdldcgkaplbaaGreat.Gt
open Go Go.Conc Go.Conc.Lib
open Go.ConcN (ShN RelBy upd upd_same upd_ne WgLive WD)
open Go.ConcR (KK WgAt stA smA rd wr DC0 Payload)
open Lk Fw
def r0M (c:Cf)(J:Nat):Map:=fun b=>if b=c.v.heap.size then some (c.p.A,0)else if b=c.v.heap.size+1 then some (c.p.A+1,0)else if b=c.v.heap.size+2 then some (c.p.A+4,145*J)else c.r b
noncomputable def v0W (c:Cf):World:={ c.v with heap:=(((c.v.heap.map frzB).push (.cells #[.int .i64 c.n] tI (0,1))).push (.cells #[c.f] tF (0,1))).push (.cells c.Z bog (0,0)) }
section
variable {c:Cf} {J:Nat} {w:World}
theorem v0_old {b:Nat}(h:b < c.v.heap.size):(v0W c).heap[b]?=(c.v.heap[b]?).map frzB:=by
 unfold v0W
 rw [Array.getElem?_push_lt (by simp;omega),←Array.getElem?_eq_getElem,Array.getElem?_push_lt (by simp;omega),←Array.getElem?_eq_getElem,Array.getElem?_push_lt (by simpa using h),←Array.getElem?_eq_getElem,Array.getElem?_map]
theorem v0_nb:(v0W c).heap[c.v.heap.size]?=some (.cells #[.int .i64 c.n] tI (0,1)):=by
 unfold v0W
 rw [Array.getElem?_push_lt (by simp;omega),←Array.getElem?_eq_getElem,Array.getElem?_push_lt (by simp),←Array.getElem?_eq_getElem]
 have e:c.v.heap.size=(c.v.heap.map frzB).size:=by simp
 rw [e,Array.getElem?_push_size]
theorem v0_ob:(v0W c).heap[c.v.heap.size+1]?=some (.cells #[c.f] tF (0,1)):=by
 unfold v0W
 rw [Array.getElem?_push_lt (by simp),←Array.getElem?_eq_getElem]
 have e:c.v.heap.size+1=((c.v.heap.map frzB).push (.cells #[.int .i64 c.n] tI (0,1))).size:=by simp
 rw [e,Array.getElem?_push_size]
theorem v0_sh:(v0W c).heap[c.v.heap.size+2]?=some (.cells c.Z bog (0,0)):=by
 unfold v0W
 have e:c.v.heap.size+2=(((c.v.heap.map frzB).push (.cells #[.int .i64 c.n] tI (0,1))).push (.cells #[c.f] tF (0,1))).size:=by simp
 rw [e,Array.getElem?_push_size]
theorem r0_cases {b B s:Nat}(h:r0M c J b=some (B,s)):(b=c.v.heap.size∧B=c.p.A∧s=0)∨(b=c.v.heap.size+1∧B=c.p.A+1∧s=0)∨(b=c.v.heap.size+2∧B=c.p.A+4∧s=145*J)∨(c.r b=some (B,s)∧b<c.v.heap.size∧B<c.p.A):=by
 unfold r0M at h
 split at h
 ·rename_i e;injection h with h;injection h with h1 h2;exact .inl ⟨e,h1.symm,h2.symm⟩
 ·split at h
  ·rename_i e;injection h with h;injection h with h1 h2;exact .inr (.inl ⟨e,h1.symm,h2.symm⟩)
  ·split at h
   ·rename_i e;injection h with h;injection h with h1 h2;exact .inr (.inr (.inl ⟨e,h1.symm,h2.symm⟩))
   ·have:=c.wr.lt h
    have:=c.hA
    exact .inr (.inr (.inr ⟨h,by omega,by omega⟩))
theorem r0_le:c.r.le (r0M c J):=by
 intro b x hb
 have:=(c.wr.lt (b:=b) (B:=x.1) (s:=x.2) hb).1
 unfold r0M
 rw [if_neg (by omega),if_neg (by omega),if_neg (by omega)]
 exact hb
theorem r0_has {B:Nat}(h:Has (r0M c J) B):(B<c.p.A∧¬c.p.Sb B)∨B=c.p.A∨B=c.p.A+1∨B=c.p.A+4:=by
 obtain⟨b,s,hb⟩:=h
 rcases r0_cases hb with ⟨_,h,_⟩|⟨_,h,_⟩|⟨_,h,_⟩|⟨h,_,hA⟩
 ·exact .inr (.inl h)
 ·exact .inr (.inr (.inl h))
 ·exact .inr (.inr (.inr h))
 ·exact .inl ⟨hA,fun hs=>c.cl.apart B hs ⟨b,s,h⟩⟩
theorem vc_old {b o:Nat}(h:b < c.v.heap.size):vc (v0W c) b o↔vc c.v b o:=by
 unfold vc World.cell?
 simp only [v0_old h]
 cases hx:c.v.heap[b]? with
 |none=>simp
 |some x=>cases x<;>simp [frzB]
theorem frozen_old {b o:Nat}(h:b < c.v.heap.size)(hv:vc (v0W c) b o):(v0W c).frozen? ⟨b,o,none⟩=true:=by
 obtain⟨x,hx⟩:=hv
 unfold World.cell? at hx
 unfold World.frozen?
 simp only [v0_old h]at hx ⊢
 cases hy:c.v.heap[b]? with
 |none=>rw [hy]at hx;simp at hx
 |some y=>
  rw [hy]at hx
  cases y with
  |cells cs e fz=>
   simp only [Option.map_some,frzB]at hx ⊢
   have:=(Array.getElem?_eq_some_iff.1 (show cs[o]?=some x by simpa using hx)).1
   simp [this]
  |_=>simp [frzB]at hx
theorem frozen_new {b o:Nat}(h:b=c.v.heap.size∨b=c.v.heap.size+1)(hv:vc (v0W c) b o):(v0W c).frozen? ⟨b,o,none⟩=true:=by
 obtain⟨x,hx⟩:=hv
 unfold World.cell? at hx
 unfold World.frozen?
 rcases h with rfl|rfl
 ·simp only [v0_nb]at hx ⊢
  have:o=0:=by
   have:=(Array.getElem?_eq_some_iff.1 (show(#[.int .i64 c.n]:Array Value)[o]?=some x by simpa using hx)).1
   simp at this;exact this
  subst this;rfl
 ·simp only [v0_ob]at hx ⊢
  have:o=0:=by
   have:=(Array.getElem?_eq_some_iff.1 (show(#[c.f]:Array Value)[o]?=some x by simpa using hx)).1
   simp at this;exact this
  subst this;rfl
theorem wr0 {cl:Bool}(hw:Wd c cl w)(hz:Zs c J w)(hJ:J < c.W):WR P FF (r0M c J) (v0W c) w:=by
 have hA:=c.hA
 have hgl:=c.wr.gl
 have hb:=hw.big
 refine⟨fun b B s h=>?_,⟨?_,by omega⟩,fun b B s h=>?_,fun b b' B s s' o o' h h' hv hv' e=>?_⟩
 ·rcases r0_cases h with ⟨rfl,rfl,_⟩|⟨rfl,rfl,_⟩|⟨rfl,rfl,_⟩|⟨h1,_,_⟩
  ·omega
  ·omega
  ·omega
  ·exact c.wr.low _ _ _ h1
 ·have:(v0W c).heap.size=c.v.heap.size+3:=by simp [v0W]
  omega
 ·rcases r0_cases h with ⟨rfl,rfl,rfl⟩|⟨rfl,rfl,rfl⟩|⟨rfl,rfl,rfl⟩|⟨h1,hlt,hlA⟩
  ·refine .inl ⟨_,_,_,_,_,_,_,_,v0_nb,hw.nb,by simp,fun o x hx=>?_,fun o _ _=>by omega,.inl ⟨rfl,rfl,rfl⟩⟩
   refine⟨x,by simpa using hx,?_⟩
   have:x=.int .i64 c.n:=by
    cases o with
    |zero=>simpa using hx.symm
    |succ o=>simp at hx
   subst this;exact .int _ _
  ·refine .inl ⟨_,_,_,_,_,_,_,_,v0_ob,hw.ob,by simp,fun o x hx=>?_,fun o _ _=>by omega,.inl ⟨rfl,rfl,rfl⟩⟩
   have ho:o=0∧x=c.f:=by
    cases o with
    |zero=>exact⟨rfl,by simpa using hx.symm⟩
    |succ o=>simp at hx
   obtain⟨rfl,rfl⟩:=ho
   exact⟨c.f',by simp,c.vf.mono r0_le⟩
  ·obtain⟨cs,h4,h5⟩:=hw.sb
   refine .inl ⟨_,_,_,_,_,_,_,_,v0_sh,h4,by rw [c.hZ1,h5];have:145*J+145≤145*c.W:=(by omega);exact this,fun o x hx=>?_,fun o _ _=>by omega,.inr bog_none⟩
   have ho:o<145:=by rw [←c.hZ1];exact(Array.getElem?_eq_some_iff.1 hx).1
   have:=hz J (Nat.le_refl _) hJ o ho cs h4
   exact⟨x,this.trans hx,(c.hZ3 _).2 o x x hx hx⟩
  ·have hwB:w.heap[B]?=c.w0.heap[B]?:=hw.old B hlA
   rcases c.wr.live b B s h1 with ⟨cs,e,lo,hi,cs',e',lo',hi',k1,k2,k3,k4,k5,k6⟩|⟨a,a',lost,k1,k2,k3,k4⟩
   ·refine .inl ⟨cs,e,0,cs.size,cs',e',lo',hi',by rw [v0_old hlt,k1];rfl,hwB.trans k2,k3,fun o x hx=>?_,fun o ho hn=>absurd ⟨Nat.zero_le _,ho⟩ hn,k6⟩
    obtain⟨x',g1,g2⟩:=k4 o x hx
    exact⟨x',g1,g2.mono r0_le⟩
   ·exact .inr ⟨a,a',lost,by rw [v0_old hlt,k1];rfl,hwB.trans k2,k3,k4.mono r0_le⟩
 ·rcases r0_cases h with ⟨rfl,rfl,rfl⟩|⟨rfl,rfl,rfl⟩|⟨rfl,rfl,rfl⟩|⟨h1,hlt,hlA⟩<;>rcases r0_cases h' with ⟨rfl,h2,rfl⟩|⟨rfl,h2,rfl⟩|⟨rfl,h2,rfl⟩|⟨h1',hlt',hlA'⟩
  all_goals first|omega|skip
  exact c.wr.inj b b' B s s' o o' h1 h1' ((vc_old hlt).1 hv) ((vc_old hlt').1 hv') e
theorem rest0 {cl:Bool}(hw:Wd c cl w)(hz:Zs c J w)(hJ:J < c.W):Rest c J (r0M c J) (v0W c) [] w:=by
 have hA:=c.hA
 refine⟨wr0 hw hz hJ,⟨fun b hb=>v0_old hb,v0_nb,v0_ob,c.Z,v0_sh,c.hZ1,c.hZ2⟩,⟨fun B hB=>?_,fun o ho=>?_,fun B o hm=>?_,?_⟩⟩
 ·rcases r0_has hB with h|h|h|h
  ·exact .inl h
  ·exact .inr (.inl h)
  ·exact .inr (.inr (.inl h))
  ·exact .inr (.inr (.inr (.inl h)))
 ·obtain⟨b,s,o0,h1,rfl,hv⟩:=ho
  rcases r0_cases h1 with ⟨_,h,_⟩|⟨_,h,_⟩|⟨rfl,_,rfl⟩|⟨_,_,h⟩
  ·omega
  ·omega
  ·obtain⟨x,hx⟩:=hv
   unfold World.cell? at hx
   simp only [v0_sh]at hx
   have:=(Array.getElem?_eq_some_iff.1 (show c.Z[o0]?=some x by simpa using hx)).1
   rw [c.hZ1]at this
   omega
  ·omega
 ·obtain⟨b,s,o0,h1,rfl,hv,hf⟩:=hm
  rcases r0_cases h1 with ⟨rfl,h,_⟩|⟨rfl,h,_⟩|⟨rfl,h,rfl⟩|⟨_,hlt,h⟩
  ·rw [frozen_new (.inl rfl) hv]at hf;cases hf
  ·rw [frozen_new (.inr rfl) hv]at hf;cases hf
  ·exact .inl h
  ·rw [frozen_old hlt hv]at hf;cases hf
 ·unfold r0M
  rw [if_neg (by omega),if_neg (by omega),if_pos rfl]
noncomputable def tg0 (c:Cf):Array Value:=#[.pointer (some ⟨c.v.heap.size+2,0,none⟩),.nilFunc,.nilFunc,.pointer (some ⟨c.v.heap.size,0,none⟩),.pointer (some ⟨c.v.heap.size+1,0,none⟩)]++Array.replicate 40 undef
theorem tw0:Tw0 c (r0M c J) (tmps0 (wgV c) (chV c) (nbV c) (obV c) (shV c J)):=by
 have ar:∀{b B s:Nat} {x:Addr},r0M c J b=some (B,s)→x=⟨B,s,none⟩→AR (r0M c J) ⟨b,0,none⟩ x:=fun {b B s x} h e=>⟨b,0,B,s,rfl,h,by rw [e,Nat.zero_add]⟩
 have p0:VR FF (r0M c J) (.pointer (some ⟨c.v.heap.size+2,0,none⟩)) (shV c J):=.ptr (ar (by unfold r0M;rw [if_neg (by omega),if_neg (by omega),if_pos rfl]) (by rw [Nat.mul_comm]))
 have p1:VR FF (r0M c J) .nilFunc (wgV c):=.voidp
 have p2:VR FF (r0M c J) .nilFunc (chV c):=.voidp
 have p3:VR FF (r0M c J) (.pointer (some ⟨c.v.heap.size,0,none⟩)) (nbV c):=.ptr (ar (by unfold r0M;rw [if_pos rfl]) rfl)
 have p4:VR FF (r0M c J) (.pointer (some ⟨c.v.heap.size+1,0,none⟩)) (obV c):=.ptr (ar (by unfold r0M;rw [if_neg (by omega),if_pos rfl]) rfl)
 have h5:=(((((VA.empty (F:=FF) (r:=r0M c J)).push p0).push p1).push p2).push p3).push p4
 refine⟨⟨tg0 c,h5.append (VA.undefs 40),?_⟩,by simp [tmps0]⟩
 refine⟨by simp [tg0],?_,?_,?_⟩<;>simp [tg0]
theorem born_sit {cl:Bool}(hw:Wd c cl w)(hz:Zs c J w)(hJ:J < c.W):Wsit c J 7 (19,7,nd0) 0 (r0M c J) (v0W c) [] (born P (bornD (wgV c) (chV c) (nbV c) (obV c) (shV c J))) w:=
 .load (rest0 hw hz hJ) tw0 (slide_born (wgV c) (chV c) (nbV c) (obV c) (shV c J)).sm
end
end Go.Proofs.YtngdldcgkaplbaaGreat.Gt
namespace Go.Proofs.YtngdldcgkaplbaaGreat.Gt
open Go Go.Conc Go.Conc.Lib
open Go.ConcN (ShN RelBy upd upd_same upd_ne WgLive WD CTag isOpen isW3 isFin pend Vc cnt sumTo get_map_set get_map_set_same Vc_upd OpenSt AllQuit Vc_le others_uncounted bk_cell le_sumTo sumTo_congr sumTo_upd sumTo_upd_out)
open Go.ConcR (KK WgAt stA smA rd wr DC0 Payload g_of_ofEvents again_blocked Bk)
open Lk Fw
section
variable {c:Cf} {cs:List Frame} {Post:Value→World→Prop} {gs:Array Goroutine} {w w':World} {sl:Option (Nat×Nat)} {t:Trace} {J:Nat} {cl:Bool} {D:Nat→WD} {m:Nat→WM} {rs:Nat→Map} {vs:Nat→World} {tk:Nat→List Nat} {q:Nat→Nat} {tag tag':MT} {f0 f' d0 k:Nat} {a a' g:Goroutine} {st sm st' sm':Int}
variable {es:Array Event}
theorem flat_upd {J:Nat}(tk:Nat→List Nat):(List.range (J+1)).flatMap (ConcN.upd tk J [])=(List.range J).flatMap tk:=by
 rw [List.range_succ,List.flatMap_append]
 simp only [List.flatMap_cons,List.flatMap_nil,List.append_nil,upd_same]
 refine congrArg List.flatten (List.map_congr_left fun j hj=>?_)
 rw [ConcN.upd_ne _ _ (by have:=List.mem_range.1 hj;omega)]
theorem IV.spawn {T:Array Value}(h:IV c cs gs w t J false D m rs vs tk q (.fk J 0) f0 0 0 (atGo c T J cs) st sm)(hJ:J < c.W)(hT:Tm c T)(h18:T.getD 18 undef=.int .i64 J)(hL:Less P Post c cs (rank c (Vc J D) (.fk J 0),m,sumTo c.p.N0 q,f0)):Wins P Post gs w sl t 0:=by
 have hN:=c.p.hN
 have hW:=c.hW2
 have hsz:=h.com.size
 have hgo:=go_step (cs:=cs) hT (j:=J) w
 have hrun:=runT_crowd_spawn (P:=P) (sl:=sl) (i:=0) h.g0 (show stepG P (0==0) (atGo c T J cs) w=_ from hgo)
 rw [hsz]at hrun
 have hsit:=born_sit h.com.wd h.com.zs hJ
 have e0:MemOp.ofEvents 0 (atGo c T J cs).frame.fn (atGo c T J cs).frame.place #[]=#[]:=by rw [ofEvents_eq];simp
 have et:∀x y:MemOp,((MemOp.ofEvents 0 (atGo c T J cs).frame.fn (atGo c T J cs).frame.place #[]).push x).push y=#[x,y]:=fun x y=>by rw [e0];rfl
 rw [et]at hrun
 have hcom:=fun a'=>h.com.fork (a':=a') (x:={ g:=0,fn:=(atGo c T J cs).frame.fn,pos:=(atGo c T J cs).frame.place,act:=.go (c.p.N0+J) }) (y:={ g:=c.p.N0+J,fn:=(born P (bornD (wgV c) (chV c) (nbV c) (obV c) (shV c J))).frame.fn,pos:=(atGo c T J cs).frame.place,act:=.start }) ⟨rfl,rfl⟩ ⟨rfl,rfl⟩ hsit (fun B hB=>by rcases r0_has hB with ⟨h1,_⟩|h1|h1|h1<;>omega)
 obtain⟨ho,hst,hsm,_⟩:=h.mode.open_inv trivial
 have eV:Vc (J+1) (ConcN.upd D J ⟨7,0,0⟩)=Vc J D+1:=by
  simp only [Vc,sumTo,upd_same]
  rw [sumTo_upd_out D _ ConcN.cnt (Nat.le_refl _)];rfl
 have ho':OpenSt (J+1) (ConcN.upd D J ⟨7,0,0⟩):=fun i hi=>by
  by_cases e:i=J
  ·subst e;rw [upd_same];simp
  ·rw [ConcN.upd_ne D _ e];exact ho i (by omega)
 have hmode:∀tag',isOpen (ct tag')→pend (ct tag')=0→(∀v,ct tag'≠.w2 v)→Go.ConcN.Mode (J+1) (ConcN.upd D J ⟨7,0,0⟩) (ct tag') st sm:=fun tag' h1 h2 h3=>by
  rw [hst,hsm,show Vc J D+pend (ct (.fk J 0))=Vc (J+1) (ConcN.upd D J ⟨7,0,0⟩)+pend (ct tag') by rw [eV,h2];rfl]
  exact .opn h1 ho' fun v e=>absurd e (h3 v)
 obtain⟨T1,hT1e⟩:∃T1,T1=goT T (wgV c) (chV c) (nbV c) (obV c) (sbV c) (.int .i64 J) (.pointer (some ⟨c.p.A+4,J*145,none⟩)):=⟨_,rfl⟩
 have hT1:Tm c T1:=by rw [hT1e];exact hT.go _ _
 have h18':T1.getD 18 undef=.int .i64 J:=by
  rw [hT1e];unfold goT
  rw [getD_ne (by decide),getD_ne (by decide),getD_ne (by decide),getD_ne (by decide)];exact h18
 have ecast:(J:Int)+1=((J+1:Nat):Int):=by omega
 have sl1:=slide_inc (cs:=cs) (J:Int) hT1.size h18' (by omega) (by omega)
 have hT2:Tm c (incT T1 J):=hT1.inc _
 have h18'':(incT T1 J).getD 18 undef=.int .i64 ((J+1:Nat):Int):=by
  unfold incT
  rw [getD_set _ _ _ _ (by have:=hT1.size;simp;omega),if_pos rfl,ecast]
 have ha':∀(a' child:Goroutine),((gs.setIfInBounds 0 a').push child)[0]?=some a':=fun a' child=>by
  rw [Array.getElem?_push_lt (by simp;omega),←Array.getElem?_eq_getElem]
  exact Array.getElem?_setIfInBounds_self_of_lt (by omega)
 have hopn:∀i,i<J+1→(ConcN.upd D J ⟨7,0,0⟩ i).stage=7∧11≤(ConcN.upd m J (19,7,nd0) i).1:=fun i hi=>by
  by_cases e:i=J
  ·subst e;rw [upd_same,upd_same];exact⟨rfl,by simp⟩
  ·rw [ConcN.upd_ne _ _ e,ConcN.upd_ne _ _ e];exact h.opn rfl i (by omega)
 refine⟨_,_,hrun,?_⟩
 rw [←hT1e]at hrun ⊢
 by_cases hlt:J+1<c.W
 ·have sl2:=slide_fork (cs:=cs) ((J+1:Nat):Int) (c.W:Int) hT2.size h18'' hT2.t17 (by omega)
  have hT3:Tm c (forkT (incT T1 J) (.int .i64 ((J+1:Nat):Int))):=hT2.fork _
  have hz2:=hT2.size
  have sl3:=(sl1.trans sl2).trans (slide_add (cs:=cs) hT3)
  refine hL (rank c (Vc (J+1) (ConcN.upd D J ⟨7,0,0⟩)) (.fk (J+1) 6),_,sumTo c.p.N0 q,24) (.p (by simp only [rank];omega) _ _) _ _ _ _ ⟨J+1,false,_,_,_,_,_,q,.fk (J+1) 6,24,0,0,_,st,sm,⟨ha' _ _,.f6 hlt hT3 ?_ ?_ sl3,hcom _,h.wg,hmode (.fk (J+1) 6) trivial rfl (fun v=>by simp [ct]),?_,by omega,fun e=>(by cases e),fun _=>hopn,fun e=>(by cases e)⟩,rfl⟩
  ·unfold forkT
   rw [getD_ne (by decide),getD_ne (by decide),getD_ne (by decide)];exact h18''
  ·unfold forkT
   rw [getD_set _ _ _ _ (by simp;omega),if_pos rfl]
  ·rw [flat_upd];exact h.prm
 ·have hJW:J+1=c.W:=by omega
  have sl2:=slide_forked (cs:=cs) (c.W:Int) hT2.size (by rw [h18'',hJW]) hT2.t17
  have hT3:Tm c (sendT (incT T1 J)):=hT2.send
  have hz2:=hT2.size
  have h11:(sendT (incT T1 J)).getD 11 undef=.int .i64 ((16*0:Nat):Int):=by
   unfold sendT
   rw [getD_set _ _ _ _ (by simp;omega),if_pos rfl]
   rfl
  have sl3:=(sl1.trans sl2).trans (slide_sa (cs:=cs) _ h11)
  have hcom':=hcom (G (gw T1 (.inRegion o8' []::kG)) cs)
  rw [hJW]at hcom' hmode hopn ho' eV
  have hc0:c.M-0=c.M:=Nat.sub_zero _
  refine hL (rank c (Vc c.W (ConcN.upd D J ⟨7,0,0⟩)) (.sn (c.M-0) 7),_,sumTo c.p.N0 q,25) (.p (by simp only [rank];omega) _ _) _ _ _ _ ⟨c.W,false,_,_,_,_,_,q,.sn (c.M-0) 7,25,0,0,_,st,sm,⟨ha' _ _,.s7 (Nat.zero_le _) hT3 h11 sl3,hcom',h.wg,hmode (.sn (c.M-0) 7) trivial rfl (fun v=>by simp [ct]),?_,Nat.le_refl _,fun e=>(by cases e),fun _=>hopn,fun e=>(by injection e with _ e;cases e)⟩,rfl⟩
  rw [←hJW,flat_upd];exact h.prm
theorem IV.send {T:Array Value}(h:IV c cs gs w t c.W false D m rs vs tk q (.sn (c.M - k) 5) f0 0 k (atSend T cs) st sm)(hk:16*k < c.n)(hT:Tm c T)(h11:T.getD 11 undef=.int .i64 ((16*k:Nat):Int))(h32:T.getD 32 undef=.chan (some (c.p.A+2)))(h33:T.getD 33 undef=.int .i64 ((16*k:Nat):Int))
  (hL:Less P Post c cs (rank c (Vc c.W D) (.sn (c.M-k) 5),m,sumTo c.p.N0 q,f0)):Wins P Post gs w sl t 0:=by
 have hN:=c.p.hN
 have hW:=c.hW2
 have hn:=c.hn
 have hsz:=h.com.size
 have hbig:=h.com.wd.big
 have hlive:WgLive lnk.tWg (c.p.A+5) w:=⟨_,_,h.wg⟩
 have hM:k<c.M:=by unfold Cf.M;omega
 obtain⟨s0,r0,hch⟩:=h.com.wd.ch
 have hgo:stepG P (0==0) (atSend T cs) w=.comm (atSend T cs) (scs c k) true .send w #[]:=send_op _ _ h32 h33 w
 have h0:0<gs.size:=by omega
 have who:∀(j:Nat) (x:Goroutine),(gs.setIfInBounds 0 ph)[j]?=some x→offersAt x (c.p.A+2) false≠[]→∃i,i<c.W∧j=c.p.N0+i∧gs[j]?=some x∧x.status=.blocked:=by
  intro j x hx hne
  rcases getElem?_stand gs 0 j x hx with ⟨_,rfl⟩|⟨j0,hx⟩
  ·exact absurd (offersAt_ph _ _) hne
  ·have hlt:=(Array.getElem?_eq_some_iff.1 hx).1
   by_cases hjN:j<c.p.N0
   ·have:=(h.com.old j x (by omega) hjN hx).status
    exact absurd (offersAt_of_not_blocked (by rcases this with h1|h1<;>rw [h1]<;>simp) _ _) hne
   ·refine⟨j-c.p.N0,by omega,by omega,hx,Classical.byContradiction fun hb=>hne (offersAt_of_not_blocked hb _ _)⟩
 by_cases hp:partners (gs.setIfInBounds 0 ph) (c.p.A+2) false=[]
 ·-- nobody is there: it is parked
  have hrun:=crowd_waits (P:=P) (sl:=sl) h.g0 hgo (fun cc hcc=>by
   have:cc=scase (c.p.A+2) (.int .i64 ((16*k:Nat):Int)) undef:=by simpa [scs]using hcc
   subst this
   exact ways_send_none hch (Nat.le_refl _) hp)
  have e0:MemOp.ofEvents 0 (atSend T cs).frame.fn (atSend T cs).frame.place #[]=#[]:=by rw [ofEvents_eq];simp
  have hcom:=h.com.comm0 (gs':=gs.setIfInBounds 0 (parked (atSend T cs) (scs c k) .send)) (by simp) (fun k' hk'=>by rw [Array.getElem?_setIfInBounds_ne (by omega)])
  refine⟨_,_,hrun,?_⟩
  rw [e0,Array.append_empty]
  refine hL (rank c (Vc c.W D) (.sn (c.M-k) 4),m,sumTo c.p.N0 q,0) (.p (by simp only [rank];omega) _ _) _ _ _ _ ⟨c.W,false,D,m,rs,vs,tk,q,.sn (c.M-k) 4,0,0,k,_,st,sm,⟨Array.getElem?_setIfInBounds_self_of_lt h0,.s4 hk hT h11,hcom,h.wg,h.mode,h.prm,h.hJ,fun e=>(by cases e),h.opn,fun _ i x hi hx hb=>?_⟩,rfl⟩
  rw [Array.getElem?_setIfInBounds_ne (by omega)]at hx
  obtain⟨y,hy,hs⟩:=h.com.wk i hi
  rw [hx]at hy
  obtain rfl:=Option.some.inj hy
  obtain⟨_,_,_,T',_,_,rfl⟩:=hs.unpark hb
  have:(c.p.N0+i,0)∈partners (gs.setIfInBounds 0 ph) (c.p.A+2) false:=by
   refine mem_partners.2 ⟨_,by rw [Array.getElem?_setIfInBounds_ne (by omega)];exact hx,?_⟩
   unfold rcs
   rw [offersAt_parked_recv]
   simp
  rw [hp]at this
  cases this
 ·-- it meets one
  have hrm:=crowd_send_meets_some (P:=P) (sl:=sl) h.g0 hgo hch hp (fun j kk hjk=>by
   obtain⟨x,hx,hkk⟩:=mem_partners.1 hjk
   obtain⟨i,hi,rfl,hx',hb⟩:=who j x hx (fun e=>by rw [e]at hkk;cases hkk)
   obtain⟨y,hy,hs⟩:=h.com.wk i hi
   rw [hx']at hy
   obtain rfl:=Option.some.inj hy
   obtain⟨_,_,_,T',_,_,rfl⟩:=hs.unpark hb
   refine⟨?_,by omega,_,_,_,hx'⟩
   unfold rcs at hkk
   rw [offersAt_parked_recv]at hkk
   simpa using hkk)
  obtain⟨j,gj,zj,shj,d,hj0,hjg,hrun⟩:=hrm
  have hlt:=(Array.getElem?_eq_some_iff.1 hjg).1
  have hjN:¬j<c.p.N0:=fun hjN=>by
   have:=(h.com.old j _ (by omega) hjN hjg).status
   rcases this with h1|h1<;>cases h1
  obtain⟨i,rfl⟩:∃i,j=c.p.N0+i:=⟨j-c.p.N0,by omega⟩
  have hi:i<c.W:=by omega
  obtain⟨y,hy,hs⟩:=h.com.wk i hi
  rw [hjg]at hy
  obtain rfl:=Option.some.inj hy
  obtain⟨h7,hd,hmi,T',hT',hR,hpe⟩:=hs.unpark rfl
  have hTs:=hT'.size
  have hsh:shj=.recv true:=by
   have:=congrArg Goroutine.offers hpe
   simp only [parked,Option.some.injEq,Prod.mk.injEq]at this
   exact this.2
  have hsv:gj.finishComm P #[rcase (c.p.A+2) zj] shj 0 (.int .i64 ((16*k:Nat):Int)) true=G (wk (gotW T' (.int .i64 ((16*k:Nat):Int)) true) (Dd c) (.inRegion opsR [1]::.code tailW::kL)) [restB]:=by
   rw [hsh,finishComm_recv,served_parked hpe]
   exact served_recv _ true
  rw [hsv,finishComm_send,show Go.Conc.served (atSend T cs) undef=G (gw T (.inRegion o13 []::kS3)) cs from served_send]at hrun
  have hsl:=(slide_piece (tmps:=T') (D:=Dd c) (cs:=[restB]) (.int .i64 ((16*k:Nat):Int)) (by omega)).sm
  have hwat:(w.at d).heap[c.p.A+2]?=some (.chan 0 #[] false s0 r0 false):=hch
  obtain⟨hmo,hch'⟩:=mo_chan (c:=c) (w:=w.at d) (s2:=s0+1) (r2:=r0+1) (b2:=false) hwat
  have hmo':Mo c w ((w.at d).setChan (c.p.A+2) 0 #[] false (s0+1) (r0+1) false):=⟨hmo.size,hmo.rest,hmo.same⟩
  have hwg':WgAt lnk.tWg (c.p.A+5) ((w.at d).setChan (c.p.A+2) 0 #[] false (s0+1) (r0+1) false) st sm:=(heap_setChan_ne (w.at d) 0 #[] false (s0+1) (r0+1) false (by omega)).trans h.wg
  have e16:((16*k:Nat):Int)+16=((16*(k+1):Nat):Int):=by omega
  have h11':(nxT T ((16*k:Nat):Int)).getD 11 undef=.int .i64 ((16*(k+1):Nat):Int):=by
   unfold nxT
   rw [getD_set _ _ _ _ (by have:=hT.size;simp;omega),if_pos rfl,e16]
  have sl2:Sm true 12 (G (gw T (.inRegion o13 []::kS3)) cs) (G (gw (toT (nxT T ((16*k:Nat):Int)) ((16*(k+1):Nat):Int)) (.inRegion o11 [1,2]::kS1)) cs):=
   (slide_se _ hT.size h11 (by omega) (by omega)).trans (slide_sa _ h11')
  have hT1:Tm c (nxT T ((16*k:Nat):Int)):=((hT.set (.int _ _) (by decide)).set (.int _ _) (by decide)).set (.int _ _) (by decide)
  have hcom:=h.com.comm (gs':=(gs.setIfInBounds (c.p.N0+i) (G (wk (gotW T' (.int .i64 ((16*k:Nat):Int)) true) (Dd c) (.inRegion opsR [1]::.code tailW::kL)) [restB])).setIfInBounds 0 (G (gw T (.inRegion o13 []::kS3)) cs)) (w':=(w.at d).setChan (c.p.A+2) 0 #[] false (s0+1) (r0+1) false)
   (u:=MemOp.ofEvents 0 (atSend T cs).frame.fn (atSend T cs).frame.place #[]++#[{ g:=0,fn:=(atSend T cs).frame.fn,pos:=(atSend T cs).frame.place,act:=.send (c.p.A+2) s0 },{ g:=c.p.N0+i,fn:=gj.frame.fn,pos:=gj.frame.place,act:=.recv (c.p.A+2) r0 0 },{ g:=0,fn:=(atSend T cs).frame.fn,pos:=(atSend T cs).frame.place,act:=.sendDone (c.p.A+2) s0 },{ g:=c.p.N0+i,fn:=gj.frame.fn,pos:=gj.frame.place,act:=.recvDone (c.p.A+2) r0 }])
   (μ':=(15,6,nd0)) (tk':=tk i++[16*k]) hi (by simp) hmo' hch' ⟨_,_,hwg'⟩ (fun op hop=>by
    rcases mem4 hop with rfl|rfl|rfl|rfl<;>exact⟨rfl,by show c.p.A+2<_;omega,by simp,by simp,by simp⟩) (fun i' hi' h6 op hop=>by
    have hne:i'≠i:=fun e=>by subst e;omega
    rcases mem4 hop with rfl|rfl|rfl|rfl<;>simp only<;>omega) (fun k' hk' hne=>by rw [Array.getElem?_setIfInBounds_ne (by omega),Array.getElem?_setIfInBounds_ne (by omega)]) (by rw [Array.getElem?_setIfInBounds_ne (by omega)];exact Array.getElem?_setIfInBounds_self_of_lt hlt) (.got hR hT' hk (by omega) hsl) ⟨h7,hd⟩ (fun e=>by cases e)
  refine⟨_,_,hrun,hL (rank c (Vc c.W D) (.sn (c.M-(k+1)) 7),ConcN.upd m i (15,6,nd0),sumTo c.p.N0 q,12) (.p (by simp only [rank];omega) _ _) _ _ _ _ ⟨c.W,false,D,_,rs,vs,_,q,.sn (c.M-(k+1)) 7,12,0,k+1,_,st,sm,⟨Array.getElem?_setIfInBounds_self_of_lt (by simpa using h0),.s7 hM hT1 h11' sl2,hcom,hwg',h.mode,?_,h.hJ,fun e=>(by cases e),fun _ i' hi'=>?_,fun e=>(by injection e with _ e;cases e)⟩,rfl⟩⟩
  ·refine(perm_push hi tk (16*k)).trans ?_
   rw [List.range_succ,List.map_append]
   exact h.prm.append_right _
  ·by_cases e':i'=i
   ·subst e';rw [upd_same];exact⟨h7,by simp⟩
   ·rw [ConcN.upd_ne _ _ e'];exact h.opn rfl i' hi'
theorem IV.close {T:Array Value}(h:IV c cs gs w t c.W false D m rs vs tk q (.cl 2) f0 0 c.M (G (gw T (.inRegion o14 [1]::kC)) cs) st sm)(hT:Tm c T)(h34:T.getD 34 undef=.chan (some (c.p.A+2)))
  (hL:Less P Post c cs (rank c (Vc c.W D) (.cl 2),m,sumTo c.p.N0 q,f0)):Wins P Post gs w sl t 0:=by
 have hN:=c.p.hN
 have hsz:=h.com.size
 have hbig:=h.com.wd.big
 obtain⟨s0,r0,hch⟩:=h.com.wd.ch
 have hgo:=close_op (cs:=cs) (c.p.A+2) s0 r0 h34 w hch
 obtain⟨hmo,hch'⟩:=mo_chan (c:=c) (s2:=s0) (r2:=r0) (b2:=true) hch
 have hwg':WgAt lnk.tWg (c.p.A+5) (w.setChan (c.p.A+2) 0 #[] true s0 r0 false) st sm:=(heap_setChan_ne w 0 #[] true s0 r0 false (by omega)).trans h.wg
 have hrun:=runT_crowd_go (P:=P) (sl:=sl) (i:=0) h.g0 (show stepG P (0==0) (G (gw T (.inRegion o14 [1]::kC)) cs) w=_ from hgo)
 obtain⟨m',hcom⟩:=h.com.close (a:=G (gw T (.inRegion o14 [1]::kC)) cs) (a':=G (gw T (.inRegion o14 []::kC)) cs) (fn:=(G (gw T (.inRegion o14 [1]::kC)) cs).frame.fn) (pos:=(G (gw T (.inRegion o14 [1]::kC)) cs).frame.place) (es:=closeEvents (c.p.A+2)) hmo hch' ⟨_,_,hwg'⟩ (fun e he=>by
  have hs:(w.setChan (c.p.A+2) 0 #[] true s0 r0 false).heap.size=w.heap.size:=hmo.size
  simp only [closeEvents,List.mem_toArray,List.mem_cons,List.not_mem_nil,or_false]at he
  have key:∀b:Bool,(MemAct.ofEvent ⟨.obj (c.p.A+2),b,true⟩).low (w.setChan (c.p.A+2) 0 #[] true s0 r0 false).heap.size∧∀x,(MemAct.ofEvent ⟨.obj (c.p.A+2),b,true⟩).touch?=some x→x.loc=.obj (c.p.A+2):=fun b=>by
   have e1:MemAct.ofEvent ⟨.obj (c.p.A+2),b,true⟩=.access ⟨.obj (c.p.A+2),b,true⟩∨MemAct.ofEvent ⟨.obj (c.p.A+2),b,true⟩=.close (c.p.A+2):=by cases b<;>first|exact .inl rfl|exact .inr rfl
   rcases e1 with e1|e1<;>rw [e1]
   ·refine⟨by show c.p.A+2<_;omega,fun x hx=>?_⟩
    simp only [MemAct.touch?,Option.some.injEq]at hx
    subst hx;rfl
   ·exact⟨by show c.p.A+2<_;omega,fun x hx=>by cases hx⟩
  rcases he with rfl|rfl
  ·exact⟨fun x hx=>.inr (.inr ((key false).2 x hx)),(key false).1,by simp⟩
  ·exact⟨fun x hx=>.inr (.inr ((key true).2 x hx)),(key true).1,by simp⟩) close_wakes rfl
 have hdf:deafBehind 0 (closeEvents (c.p.A+2))=0:=deafBehind_still (fun e he=>by
  simp only [closeEvents,List.mem_toArray,List.mem_cons,List.not_mem_nil,or_false]at he
  rcases he with rfl|rfl<;>simp) 0
 rw [hdf]at hcom
 have hsl:=slide_wait (cs:=cs) hT
 refine⟨_,_,hrun,hL (rank c (Vc c.W D) (.cl 1),m',sumTo c.p.N0 q,4) (.p (by simp only [rank];omega) _ _) _ _ _ _ ⟨c.W,true,D,m',rs,vs,tk,q,.cl 1,4,0,c.M,_,st,sm,⟨get_map_set_same _ _ _ (by rw [hsz];omega),.c1 hT hsl,hcom,hwg',h.mode,h.prm,h.hJ,fun e=>(by cases e),fun e=>(by cases e),fun e=>(by cases e)⟩,rfl⟩⟩
end
end Go.Proofs.YtngdldcgkaplbaaGreat.Gt
namespace Go.Proofs.YtngdldcgkaplbaaGreat.Gt
open Go Go.Conc Go.Conc.Lib
open Go.ConcN (ShN RelBy upd upd_same upd_ne WgLive WD CTag isOpen isW3 isFin pend Vc cnt sumTo get_map_set get_map_set_same Vc_upd OpenSt AllQuit le_sumTo sumTo_upd)
open Go.ConcR (KK WgAt stA smA rd wr DC0 Payload g_of_ofEvents)
open Lk Fw
section
variable {c:Cf} {cs:List Frame} {Post:Value→World→Prop} {gs:Array Goroutine} {w w':World} {sl:Option (Nat×Nat)} {t:Trace} {J:Nat} {cl:Bool} {D:Nat→WD} {m:Nat→WM} {rs:Nat→Map} {vs:Nat→World} {tk:Nat→List Nat} {q:Nat→Nat} {tag tag':MT} {f0 f' d0 k:Nat} {a a' g:Goroutine} {st sm st' sm':Int}
variable {es:Array Event}
theorem IV.at (h:IV c cs gs w t J cl D m rs vs tk q tag f0 d0 k a st sm)(d:Nat):IV c cs gs (w.at d) t J cl D m rs vs tk q tag f0 d0 k a st sm:=by
 have hlive:WgLive lnk.tWg (c.p.A+5) w:=⟨_,_,h.wg⟩
 exact⟨h.g0,h.sit.rl id,h.com.at hlive d,h.wg,h.mode,h.prm,h.hJ,h.acq,h.opn,h.prk⟩
theorem IV.leaver (h:IV c cs gs w t J cl D m rs vs tk q tag f0 d0 k a st sm){j:Nat}(hj:0 < j)(hjN:j < c.p.N0)(hg:gs[j]?=some g)(hrun:g.status=.running)(hL:Less P Post c cs (rank c (Vc J D) tag,m,sumTo c.p.N0 q,f0)):Wins P Post gs w sl t j:=by
 have hN:=c.p.hN
 have hsz:=h.com.size
 have hq:=h.com.old j g hj hjN hg
 have hlive:WgLive lnk.tWg (c.p.A+5) w:=⟨_,_,h.wg⟩
 cases hn:q j with
 |zero=>rw [hn]at hq;rw [hq.1]at hrun;cases hrun
 |succ n=>
  rw [hn]at hq
  rcases hq with ⟨hf,_⟩|⟨_,g',es,hm,hstep,hq'⟩
  ·rw [hf]at hrun;cases hrun
  ·have hj0:(j==0)=false:=by simp only [beq_eq_false_iff_ne,ne_eq];omega
   have hrunT:=runT_crowd_go (P:=P) (sl:=sl) (i:=j) hg (by rw [hj0];exact hstep w)
   have hcom:=h.com.leaver (fn:=g.frame.fn) (pos:=g.frame.place) hj hjN hg hm hq'
   obtain⟨tag',f',hm',ht',hwk⟩:=h.sit.wokenBy (w1:=w) id (fun e=>by subst e;exact h.com.wd.ch) g g'
   have hsum:sumTo c.p.N0 (ConcN.upd q j n)<sumTo c.p.N0 q:=by
    have:=sumTo_upd q n id hjN
    simp only [id_eq]at this
    have e1:(sumTo c.p.N0 fun a=>ConcN.upd q j n a)=sumTo c.p.N0 (ConcN.upd q j n):=rfl
    have e2:(sumTo c.p.N0 fun a=>q a)=sumTo c.p.N0 q:=rfl
    omega
   have hother:∀i x,i<J→((gs.map (Go.Conc.woken P g g' w)).setIfInBounds j g')[c.p.N0+i]?=some x→gs[c.p.N0+i]?=some x:=fun i x hi hx=>by
    obtain⟨y,hy,hs⟩:=h.com.wk i hi
    rw [get_map_set _ _ _ _ (by omega),hy,Option.map_some,h.com.woken hi hy hs h.com.wd]at hx
    rw [hy];exact hx
   refine⟨_,_,hrunT,hL (rank c (Vc J D) tag',m,sumTo c.p.N0 (ConcN.upd q j n),f') (by rw [rank_retag ht'];exact .q hsum _ _) _ _ _ _ ⟨J,cl,D,m,rs,vs,tk,ConcN.upd q j n,tag',f',d0,k,_,st,sm,⟨?_,hm',hcom,h.wg,mode_tagged h.mode ht',h.prm,h.hJ,fun e=>?_,h.opn,fun e i x hi hx=>?_⟩,rfl⟩⟩
   ·rw [get_map_set _ _ _ _ (by omega),h.g0];rfl
   ·have et:tag=.rt:=by
     rcases ht' with rfl|⟨_,rfl⟩
     ·exact e
     ·cases e
    exact(h.acq et).app fun i r _ hr=>hr.appOther g_of_ofEvents (by omega)
   ·have et:tag=.sn (c.M-k) 4:=by
     rcases ht' with rfl|⟨_,rfl⟩
     ·exact e
     ·cases e
    exact h.prk et i x hi (hother i x hi hx)
theorem Wsit.alive {i s d:Nat}{μ:WM}{r:Map}{v:World}{l:List Nat}(h:Wsit c i s μ d r v l g w)(h1:s≠1):g.status≠.finished:=by
 rcases h.status with h2|h2|⟨T,_,rfl⟩
 ·rw [h2];simp
 ·exfalso
  cases h with
  |quit=>exact h1 rfl
  |park=>cases h2
  |load _ _ k=>rw [k.run rfl]at h2;cases h2
  |slide _ _ k=>rw [k.run rfl]at h2;cases h2
  |again _ _=>cases h2
  |got _ _ _ _ k=>rw [k.run rfl]at h2;cases h2
  |piece _ _ _ _ _=>cases h2
  |out _ k=>rw [k.run rfl]at h2;cases h2
  |r0 _ k=>rw [Goes.running (fun _ _ x=>x.1) w (rl_refl w) k]at h2;cases h2
  |k1 _ k=>rw [Goes.running (fun _ _ x=>x.1) w (rl_refl w) k]at h2;cases h2
  |d1 _ k=>rw [Goes.running (fun _ _ x=>x.1) w (rl_refl w) k]at h2;cases h2
  |d2 _ k=>rw [Goes.running (fun _ _ x=>x.1) w (rl_refl w) k]at h2;cases h2
  |d3 _ k=>rw [Goes.running (fun _ _ x=>x.1) w (rl_refl w) k]at h2;cases h2
  |d4 _ k=>rw [Goes.running (fun _ _ x=>x.1) w (rl_refl w) k]at h2;cases h2
 ·simp [parked]
theorem IV.someone (h:IV c cs gs w t J cl D m rs vs tk q tag f0 d0 k a st sm):∃(i:Nat) (g:Goroutine),gs[i]?=some g∧g.status=.running:=by
 have hN:=c.p.hN
 have one:∀i,i<J→(D i).stage≠1→(∀g,gs[c.p.N0+i]?=some g→g.status≠.blocked)→∃(i:Nat) (g:Goroutine),gs[i]?=some g∧g.status=.running:=fun i hi h1 hb=>by
  obtain⟨g,hg,hs⟩:=h.com.wk i hi
  refine⟨_,g,hg,?_⟩
  rcases hs.status with h2|h2|⟨T,_,rfl⟩
  ·exact h2
  ·exact absurd h2 (hs.alive h1)
  ·exact absurd rfl (hb _ hg)
 rcases h.sit.status with h1|⟨T,ht,hcl,_,_,_,hJ,_,_⟩|⟨ht,_,_⟩
 ·exact⟨0,a,h.g0,h1⟩
 ·have hW:=c.hW1
  exact one 0 (by omega) (by rw [(h.opn hcl 0 (by omega)).1];decide) (fun g hg=>h.prk ht 0 g (by omega) hg)
 ·subst ht
  have hcl:cl=true:=by
   have:=h.sit
   cases this with
   |bl=>rfl
  have hnb:∀i,i<J→∀g,gs[c.p.N0+i]?=some g→g.status≠.blocked:=fun i hi g hg=>h.com.nopark hcl i g hi hg
  have hm:Go.ConcN.Mode J D .blk st sm:=h.mode
  cases hm with
  |opn h1 _ _=>exact h1.elim
  |reg _ h2 h3=>
   have:∃i,i<J∧ConcN.cnt (D i)=1:=by
    refine Classical.byContradiction fun hno=>?_
    have h0:∀i,i<J→ConcN.cnt (D i)=0:=fun i hi=>by
     have:ConcN.cnt (D i)≠1:=fun e=>hno ⟨i,hi,e⟩
     simp only [ConcN.cnt]at this ⊢
     split<;>simp_all
    have:=Go.ConcN.sumTo_le (f:=fun i=>ConcN.cnt (D i)) (c:=0) (j:=J) fun i hi=>by rw [h0 i hi];exact Nat.le_refl _
    simp only [Vc]at h3
    omega
   obtain⟨i,hi,hc⟩:=this
   refine one i hi (fun e=>?_) (hnb i hi)
   simp [ConcN.cnt,e]at hc
  |last L _ h2 h3 h4=>exact one L h2 (by omega) (hnb L h2)
  |fin h1 _=>exact h1.elim
theorem IV.awake (h:IV c cs gs w t J cl D m rs vs tk q tag f0 d0 k a st sm):∀g∈gs,Go.Conc.awake g:=by
 intro g hg
 obtain⟨i,hi,rfl⟩:=Array.mem_iff_getElem.1 hg
 have hgi:gs[i]?=some gs[i]:=Array.getElem?_eq_getElem hi
 have hsz:=h.com.size
 intro x hx
 by_cases i0:i=0
 ·subst i0
  rw [h.g0]at hgi
  have e:=Option.some.inj hgi
  rw [←e]at hx
  rcases h.sit.status with h1|⟨_,_,_,_,_,_,_,_,h1⟩|⟨_,h1,_⟩
  ·rw [h1]at hx;cases hx
  ·rw [h1]at hx;cases hx
  ·rw [h1]at hx;cases hx
 ·by_cases hiN:i<c.p.N0
  ·have:=(h.com.old i _ (by omega) hiN hgi).status
   rcases this with h1|h1<;>rw [h1]at hx<;>cases hx
  ·obtain⟨y,hy,hs⟩:=h.com.wk (i-c.p.N0) (by omega)
   rw [show c.p.N0+(i-c.p.N0)=i by omega,hgi]at hy
   obtain rfl:=Option.some.inj hy
   rcases hs.status with h1|h1|⟨T,_,h1⟩<;>rw [h1]at hx<;>cases hx
theorem runs (hP:PieceOk c)(hend:∀ gs w sl t D m rs vs tk q f0 d0 a st sm,IV c cs gs w t c.W true D m rs vs tk q .rt f0 d0 c.M a st sm→NxW c cs a w→Win P Post (crowd gs w sl) t) :
  ∀μ gs w sl t,Inv c cs μ gs w t→Win P Post (crowd gs w sl) t:=by
 intro μ
 induction μ using LtU.wf.induction with
 |_ μ ih=>
  intro gs w sl t hinv
  obtain⟨J,cl,D,m,rs,vs,tk,q,tag,f0,d0,k,a,st,sm,h,rfl⟩:=hinv
  have hL:Less P Post c cs (rank c (Vc J D) tag,m,sumTo c.p.N0 q,f0):=fun μ' hμ gs w sl t hi=>ih μ' hμ gs w sl t hi
  have hN:=c.p.hN
  have hsz:=h.com.size
  by_cases hx:tag=.rt∧NxW c cs a w
  ·obtain⟨rfl,hx⟩:=hx
   have hs:=h.sit
   generalize hkk:k=kk at hs
   cases hs with
   |rt _=>subst hkk;exact hend _ _ _ _ _ _ _ _ _ _ _ _ _ _ _ h hx
  ·obtain⟨i,g,d,sl',hi,hg,hst⟩:=crowd_pick (P:=P) (w:=w) (sl:=sl) h.awake h.someone
   have h':=h.at d
   have fin:Wins P Post gs (w.at d) sl' t i→Win P Post (crowd gs w sl) t:=fun⟨m1,ops,hr,hw⟩=>.next (hst.trans hr) hw
   by_cases i0:i=0
   ·subst i0
    rw [h.g0]at hi
    obtain rfl:=Option.some.inj hi
    rcases h'.main (sl:=sl') hg hL with hw|⟨T,rfl,rfl,rfl,rfl,rfl,hJ,hT,h18,rfl⟩|⟨T,rfl,rfl,rfl,rfl,rfl,hk,hT,h11,h32,h33,rfl⟩|⟨T,rfl,rfl,rfl,rfl,rfl,hT,h34,rfl⟩|⟨rfl,_,_,hnx⟩
    ·exact fin hw
    ·exact fin (h'.spawn hJ hT h18 hL)
    ·exact fin (h'.send hk hT h11 h32 h33 hL)
    ·exact fin (h'.close hT h34 hL)
    ·exact absurd ⟨rfl,hnx⟩ hx
   ·by_cases hiN:i<c.p.N0
    ·exact fin (h'.leaver (by omega) hiN hi hg hL)
    ·have hlt:=(Array.getElem?_eq_some_iff.1 hi).1
     have e:c.p.N0+(i-c.p.N0)=i:=by omega
     have:=h'.worker (sl:=sl') (i:=i-c.p.N0) hP (by omega) (by rw [e];exact hi) hg hL
     rw [e]at this
     exact fin this
end
end Go.Proofs.YtngdldcgkaplbaaGreat.Gt