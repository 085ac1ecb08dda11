import Derived.Conc.CrowdBase
import Derived.Test.YtngdldcgkaplbaaGreatK17
set_option linter.unusedVariables false
set_option linter.unusedSimpArgs false
set_option maxRecDepth 100000
namespace Go.Proofs.YtngdldcgkaplbaaGreat.Gt
open Go Go.Conc Go.ConcN
def Fresh (t:Trace)(l:Loc):Prop:=∀i a,touchAt t i=some a→a.loc≠l
structure Apt (Sh:Loc→Prop)(Own Rd:Nat→Loc→Prop):Prop where
 own:∀k k' l,Own k l→Own k' l→k=k'
 ownRd:∀k k' l,Own k l→¬Rd k' l
 ownSh:∀k l,Own k l→¬Sh l
 rdSh:∀k l,Rd k l→¬Sh l
structure TL (Sh Ob:Loc→Prop)(Own Rd:Nat→Loc→Prop)(t:Trace):Prop where
 quiet:Quiet Sh t
 own:∀k,1≤k→∀l,Own k l→Perm t k l
 rd:∀k,1≤k→∀l,Rd k l→PermW t k l
 free:∀l,l.isMemory=true→¬Sh l→¬Ob l→(∀k,1≤k→¬Own k l∧¬Rd k l)→Perm t 0 l
 mine:∀l,l.isMemory=true→¬Sh l→¬Ob l→(∀k,1≤k→¬Own k l)→PermW t 0 l
 nr:∀said,¬Race said t
section
variable (Sh Ob:Loc→Prop) (Own Rd:Nat→Loc→Prop)
def Ok0 (op:MemOp):Prop:=
 op.g=0∧∀x,op.act.touch?=some x→¬Ob x.loc∧((Sh x.loc∧x.kind≠.plain)∨(¬Sh x.loc∧(∀k,1≤k→¬Own k x.loc)∧(x.write=true→∀k,1≤k→¬Rd k x.loc)))
def OkW (k:Nat)(op:MemOp):Prop:=
 op.g=k∧∀x,op.act.touch?=some x→(Sh x.loc∧x.kind≠.plain∧x.kind≠.said)∨Own k x.loc∨(Rd k x.loc∧x.write=false)
end
section
variable {Sh Ob:Loc→Prop} {Own Rd Own' Rd':Nat→Loc→Prop} {t u:Trace}
theorem TL.app0 (A:Apt Sh Own Rd)(h:TL Sh Ob Own Rd t)(hu:∀ op∈u,Ok0 Sh Ob Own Rd op):TL Sh Ob Own Rd (t++u):=by
 refine⟨h.quiet.app fun op hop x hx hs=>?_,fun k k1 l hl=>(h.own k k1 l hl).app fun op hop b hb e=>?_,fun k k1 l hl=>(h.rd k k1 l hl).app fun op hop b hb e hw=>?_,
  fun l hm hs ho hl=>(h.free l hm hs ho hl).app fun op hop _ _ _=>(hu op hop).1,fun l hm hs ho hl=>(h.mine l hm hs ho hl).app fun op hop _ _ _ _=>(hu op hop).1,fun said=>?_⟩
 ·rcases((hu op hop).2 x hx).2 with ⟨_,hk⟩|⟨hn,_⟩
  ·exact⟨hk,fun _=>(hu op hop).1⟩
  ·exact absurd hs hn
 ·rcases((hu op hop).2 b hb).2 with ⟨hs,_⟩|⟨_,hn,_⟩
  ·exact absurd (e▸hs) (A.ownSh k l hl)
  ·exact absurd (e▸hl) (hn k k1)
 ·rcases((hu op hop).2 b hb).2 with ⟨hs,_⟩|⟨_,_,hn⟩
  ·exact absurd (e▸hs) (A.rdSh k l hl)
  ·exact absurd (e▸hl) (hn hw k k1)
 ·refine noRace_append (h.nr said) (fun op hop=>(hu op hop).1) (fun i a ha op hop b hb hc=>?_)
  obtain⟨hob,hcase⟩:=(hu op hop).2 b hb
  have hm:b.loc.isMemory=true:=by rw [←hc.1];exact hc.2.1
  rcases hcase with ⟨hs,hk⟩|⟨hs,hno,hnr⟩
  ·exact h.quiet.known hs hk (fun _=>rfl) i a ha hc
  ·cases hbw:b.write with
   |true=>exact h.free b.loc hm hs hob (fun k k1=>⟨hno k k1,hnr hbw k k1⟩) i a ha hc.1
   |false=>exact h.mine b.loc hm hs hob hno i a ha hc.1 (hc.2.2.1.resolve_right (by simp [hbw]))
theorem TL.appW (A:Apt Sh Own Rd)(h:TL Sh Ob Own Rd t){k:Nat}(k1:1≤k)(hu:∀ op∈u,OkW Sh Own Rd k op):TL Sh Ob Own Rd (t++u):=by
 refine⟨h.quiet.app fun op hop x hx hs=>?_,fun k' k1' l hl=>(h.own k' k1' l hl).app fun op hop b hb e=>?_,fun k' k1' l hl=>(h.rd k' k1' l hl).app fun op hop b hb e hw=>?_,
  fun l hm hs ho hl=>(h.free l hm hs ho hl).app fun op hop b hb e=>?_,fun l hm hs ho hl=>(h.mine l hm hs ho hl).app fun op hop b hb e hw=>?_,fun said=>?_⟩
 ·rcases(hu op hop).2 x hx with ⟨_,hk,hn⟩|ho|⟨hr,_⟩
  ·exact⟨hk,fun e=>absurd e hn⟩
  ·exact absurd hs (A.ownSh k _ ho)
  ·exact absurd hs (A.rdSh k _ hr)
 ·rcases(hu op hop).2 b hb with ⟨hs,_⟩|ho|⟨hr,_⟩
  ·exact absurd (e▸hs) (A.ownSh k' l hl)
  ·rw [(hu op hop).1];exact A.own k k' l (e▸ho) hl
  ·exact absurd (e▸hr) (A.ownRd k' k l hl)
 ·rcases(hu op hop).2 b hb with ⟨hs,_⟩|ho|⟨_,hr⟩
  ·exact absurd (e▸hs) (A.rdSh k' l hl)
  ·exact absurd hl (A.ownRd k k' l (e▸ho))
  ·rw [hr]at hw;cases hw
 ·rcases(hu op hop).2 b hb with ⟨hs',_⟩|ho'|⟨hr,_⟩
  ·exact absurd (e▸hs') hs
  ·exact absurd (e▸ho') (hl k k1).1
  ·exact absurd (e▸hr) (hl k k1).2
 ·rcases(hu op hop).2 b hb with ⟨hs',_⟩|ho'|⟨hr,hwr⟩
  ·exact absurd (e▸hs') hs
  ·exact absurd (e▸ho') (hl k k1)
  ·rw [hwr]at hw;cases hw
 ·refine noRace_append (h.nr said) (fun op hop=>(hu op hop).1) (fun i a ha op hop b hb hc=>?_)
  rcases(hu op hop).2 b hb with ⟨hs,hk,hn⟩|ho|⟨hr,hbw⟩
  ·exact h.quiet.known hs hk (fun e=>absurd e hn) i a ha hc
  ·exact h.own k k1 b.loc ho i a ha hc.1
  ·exact h.rd k k1 b.loc hr i a ha hc.1 (hc.2.2.1.resolve_right (by simp [hbw]))
theorem TL.mute (h:TL Sh Ob Own Rd t){g:Nat}(hg:∀ op∈u,op.g=g)(hu:∀ op∈u,op.act.touch?=none):TL Sh Ob Own Rd (t++u):=by
 have no:∀op∈u,∀b,op.act.touch?=some b→False:=fun op hop b hb=>by rw [hu op hop]at hb;cases hb
 exact⟨h.quiet.app fun op hop x hx _=>(no op hop x hx).elim,fun k k1 l hl=>(h.own k k1 l hl).app fun op hop b hb _=>(no op hop b hb).elim,fun k k1 l hl=>(h.rd k k1 l hl).app fun op hop b hb _ _=>(no op hop b hb).elim,
  fun l hm hs ho hl=>(h.free l hm hs ho hl).app fun op hop b hb _=>(no op hop b hb).elim,fun l hm hs ho hl=>(h.mine l hm hs ho hl).app fun op hop b hb _ _=>(no op hop b hb).elim,
  fun said=>noRace_append (h.nr said) hg fun i a _ op hop b hb _=>(no op hop b hb).elim⟩
theorem TL.grow (h:TL Sh Ob Own Rd t)(h1:∀ k l,Own k l→Own' k l)(h2:∀ k l,Own' k l→Own k l∨Fresh t l)(h3:∀ k l,Rd k l→Rd' k l)(h4:∀ k l,Rd' k l→Rd k l∨Fresh t l):TL Sh Ob Own' Rd' t:=
 ⟨h.quiet,fun k k1 l hl=>(h2 k l hl).elim (h.own k k1 l) fun hf i a ha e=>absurd e (hf i a ha),fun k k1 l hl=>(h4 k l hl).elim (h.rd k k1 l) fun hf i a ha e _=>absurd e (hf i a ha),
   fun l hm hs ho hl=>h.free l hm hs ho fun k k1=>⟨fun x=>(hl k k1).1 (h1 k l x),fun x=>(hl k k1).2 (h3 k l x)⟩,fun l hm hs ho hl=>h.mine l hm hs ho fun k k1 x=>hl k k1 (h1 k l x),h.nr⟩
theorem TL.fork (h:TL Sh Ob Own Rd t){k:Nat}(k1:1≤k){x y:MemOp}(hx:x.g=0∧x.act=.go k)(hy:y.g=k∧y.act=.start)(h0:Deaf t 0=0)(hk:Deaf t k=0)
  (g1:∀k' l,k'≠k→(Own' k' l↔Own k' l)) (g2:∀k' l,k'≠k→(Rd' k' l↔Rd k' l)) (n1:∀l,¬Own k l∧¬Rd k l)
  (g3:∀l,Own' k l→l.isMemory=true∧¬Sh l∧¬Ob l∧∀k',1≤k'→¬Own k' l∧¬Rd k' l) (g4:∀l,Rd' k l→l.isMemory=true∧¬Sh l∧¬Ob l∧∀k',1≤k'→¬Own k' l):TL Sh Ob Own' Rd' (t++#[x,y]):=by
 have hnt:∀op∈#[x,y],∀b,op.act.touch?=some b→False:=by
  intro op hop b hb
  simp only [List.mem_toArray,List.mem_cons,List.not_mem_nil,or_false]at hop
  rcases hop with rfl|rfl
  ·rw [hx.2]at hb;cases hb
  ·rw [hy.2]at hb;cases hb
 have old:∀{i:Nat} {a:Touch},touchAt (t++#[x,y]) i=some a→touchAt t i=some a:=by
  intro i a ha
  obtain⟨z,hz,hza⟩:=touch_of ha
  rcases getElem?_append_cases hz with ⟨_,hz'⟩|⟨_,hzu⟩
  ·rw [touchAt_of hz'];exact hza
  ·exact(hnt z hzu a hza).elim
 refine⟨h.quiet.app fun op hop b hb _=>(hnt op hop b hb).elim,fun k' k1' l hl=>?_,fun k' k1' l hl=>?_,fun l hm hs ho hl=>?_,fun l hm hs ho hl=>?_,fun said=>?_⟩
 ·by_cases e:k'=k
  ·subst e
   obtain⟨m1,m2,m3,m4⟩:=g3 l hl
   exact fun i a ha e=>fork_knows hx hy h0 hk (h.free l m1 m2 m3 m4 i a (old ha) e)
  ·exact(h.own k' k1' l ((g1 k' l e).1 hl)).app fun op hop b hb _=>(hnt op hop b hb).elim
 ·by_cases e:k'=k
  ·subst e
   obtain⟨m1,m2,m3,m4⟩:=g4 l hl
   exact fun i a ha e hw=>fork_knows hx hy h0 hk (h.mine l m1 m2 m3 m4 i a (old ha) e hw)
  ·exact(h.rd k' k1' l ((g2 k' l e).1 hl)).app fun op hop b hb _ _=>(hnt op hop b hb).elim
 ·refine(h.free l hm hs ho fun k' k1'=>?_).app fun op hop b hb _=>(hnt op hop b hb).elim
  by_cases e:k'=k
  ·subst e;exact n1 l
  ·exact⟨fun x=>(hl k' k1').1 ((g1 k' l e).2 x),fun x=>(hl k' k1').2 ((g2 k' l e).2 x)⟩
 ·refine(h.mine l hm hs ho fun k' k1'=>?_).app fun op hop b hb _ _=>(hnt op hop b hb).elim
  by_cases e:k'=k
  ·subst e;exact(n1 l).1
  ·exact fun x=>hl k' k1' ((g1 k' l e).2 x)
 ·have e:t++#[x,y]=(t++#[x])++#[y]:=by apply Array.ext';simp
  rw [e]
  refine noRace_append (g:=k) (noRace_append (g:=0) (h.nr said) (fun op hop=>by simp at hop;rw [hop];exact hx.1) (fun i a _ op hop b hb _=>(hnt op (by simp at hop ⊢;exact .inl hop) b hb).elim))
   (fun op hop=>by simp at hop;rw [hop];exact hy.1) (fun i a _ op hop b hb _=>(hnt op (by simp at hop ⊢;exact .inr hop) b hb).elim)
theorem TL.start {Shun:Loc→Prop}{B:Nat}(h:Past Shun B t)(hs:∀ l,Sh l→Fresh t l)(ho:∀ l,Shun l→Ob l)(hOb:∀ l,Ob l→Shun l∨Fresh t l):TL Sh Ob (fun _ _=>False) (fun _ _=>False) t:=by
 have key:∀l,l.isMemory=true→¬Ob l→Perm t 0 l:=fun l hm hob i a ha e=>by
  rcases h.known i a ha (by rw [e];exact hm)with hk|⟨hsa,_⟩
  ·exact hk
  ·exact absurd (ho _ hsa) (by rw [e];exact hob)
 exact⟨fun i op x hi hx hsx=>absurd rfl (hs _ hsx i x (by rw [touchAt_of hi];exact hx)),fun _ _ _ x=>x.elim,fun _ _ _ x=>x.elim,fun l hm _ hob _=>key l hm hob,fun l hm _ hob _=>PermW.of (key l hm hob),h.clean⟩
theorem past_end {Shun Shun':Loc→Prop}{B B' q:Nat}{t0:Trace}{a:Addr}(h0:Past Shun B t0)(hr:∀ said,¬ Race said (t0++u))
  (hu:∀op∈u,op.g=0∨op.act.touch?=none∨∃r,RelBy a (t0++u) op.g r∧r<q) (hat:∀op∈u,∀x,op.act.touch?=some x→x.kind=.atomic→Shun' x.loc) (hS:∀l,Shun l→Shun' l)
  (hq:(t0++u).act? q=some (.mark (.acquire a))) (hg:(t0++u).g? q=some 0) (hh:(t0++u).heard q) (hn:NoRelease a (t0++u)) (hd:Deaf (t0++u) 0=0) (hl:∀op∈t0++u,op.act.low B'):Past Shun' B' (t0++u):=by
 have edge:∀g r,RelBy a (t0++u) g r→r<q→HappensBefore (t0++u) r q:=fun g r h hrq=>.single (.inr ⟨.marked hrq (.inr h.act) hq (fun k _ _=>hn k),h.heard,hh⟩)
 obtain⟨zq,hzq,hzg⟩:=Option.map_eq_some_iff.1 hg
 have upto:∀i g r,(t0++u).g? i=some g→RelBy a (t0++u) g r→r<q→i≤r→HappensBefore (t0++u) i q:=fun i g r hgi h hrq hir=>by
  rcases Nat.lt_or_ge i r with hlt|hge
  ·exact .trans (.single (.inl ⟨hlt,g,hgi,h.g⟩)) (edge g r h hrq)
  ·obtain rfl:i=r:=by omega
   exact edge g i h hrq
 refine⟨hr,fun i x hx hm=>?_,fun i g hgi hne hc=>?_,hd,hl⟩
 ·obtain⟨op,ho,hox⟩:=touch_of hx
  rcases getElem?_append_cases ho with ⟨_,ho'⟩|⟨_,hou⟩
  ·exact(h0.known i x (by rw [touchAt_of ho'];exact hox) hm).imp (·.app u) fun y=>⟨hS _ y.1,y.2⟩
  ·rcases hu op hou with e|e|⟨r,h1,h2⟩
   ·have:=knows_own ho
    rw [e]at this
    exact .inl this
   ·rw [e]at hox;cases hox
   ·have hgi:(t0++u).g? i=some op.g:=by simp [Trace.g?,ho]
    by_cases hir:i≤r
    ·exact .inl ⟨q,zq,hzq,hzg,.inr (upto i op.g r hgi h1 h2 hir)⟩
    ·have hnc:=h1.after i (Nat.lt_of_not_le hir) hgi
     have hka:x.kind=.atomic:=by
      refine Classical.byContradiction fun hk=>hnc ⟨x,?_,hm,.inl hk⟩
      simp [Trace.act?,ho,hox]
     exact .inr ⟨hat op hou x hox hka,hka⟩
 ·obtain⟨op,ho,hog⟩:=Option.map_eq_some_iff.1 hgi
  rcases getElem?_append_cases ho with ⟨hi,ho'⟩|⟨_,hou⟩
  ·obtain⟨j,h1,h2⟩:=h0.over i g (by simp [Trace.g?,ho',hog]) hne ((counts_old hi).1 hc)
   exact⟨j,by rw [g?_old (Go.Conc.lt_size_of_getElem? (Option.map_eq_some_iff.1 h1).choose_spec.1)];exact h1,hb_app u h2⟩
  ·rcases hu op hou with e|e|⟨r,h1,h2⟩
   ·exact absurd (hog.symm.trans e) hne
   ·obtain⟨x,hx,_⟩:=hc
    simp [Trace.act?,ho,e]at hx
   ·rw [hog]at h1
    have hir:i≤r:=Nat.le_of_not_lt fun hlt=>h1.after i hlt hgi hc
    exact⟨q,hg,upto i g r hgi h1 h2 hir⟩
end
end Go.Proofs.YtngdldcgkaplbaaGreat.Gt
namespace Go.Proofs.YtngdldcgkaplbaaGreat.Gt
open Go Go.Conc
open Go.ConcN (ShN RelBy upd upd_same upd_ne PermW)
open Go.ConcR (stA smA)
open Lk
structure Pl where
 N0:Nat
 A:Nat
 Sb:Nat→Prop
 t0:Trace
 hN:1≤N0
 hSb:∀B,Sb B→B<A
def OwnL (A:Nat)(r:Map)(i:Nat):Loc→Prop
 | .cell a=>(a.block=A+4∧145*i≤a.off∧a.off<145*i+145)∨(A+6≤a.block∧Has r a.block)
 | .obj B=>A+6≤B∧Has r B
 |_=>False
def ComB (A:Nat)(Sb:Nat→Prop)(B:Nat):Prop:=(B<A∧¬Sb B)∨B=A∨B=A+1∨B=A+3
def RdL (A:Nat)(Sb:Nat→Prop):Loc→Prop
 | .cell a=>ComB A Sb a.block
 | .obj B=>ComB A Sb B∨B=A+4
 |_=>False
def OwnF (p:Pl)(J:Nat)(rs:Nat→Map)(k:Nat)(l:Loc):Prop:=∃i,i<J∧k=p.N0+i∧OwnL p.A (rs i) i l
def RdF (p:Pl)(J:Nat)(k:Nat)(l:Loc):Prop:=∃i,i<J∧k=p.N0+i∧RdL p.A p.Sb l
def Sep (p:Pl)(J:Nat)(rs:Nat→Map):Prop:=∀i i' B,i<J→i'<J→p.A+6≤B→Has (rs i) B→Has (rs i') B→i=i'
section
variable {p:Pl} {J:Nat} {rs:Nat→Map} {w w1:World} {t:Trace}
theorem ownL_com {A:Nat}{Sb:Nat→Prop}{r:Map}{i:Nat}{l:Loc}(h:OwnL A r i l)(k:RdL A Sb l):False:=by
 cases l with
 |cell a=>
  rcases h with ⟨h,_⟩|⟨h,_⟩<;>rcases k with ⟨k,_⟩|k|k|k<;>omega
 |obj B=>
  obtain⟨h,_⟩:=h
  rcases k with (⟨k,_⟩|k|k|k)|k<;>omega
 |_=>exact h
theorem ownL_sh {A:Nat}{r:Map}{i:Nat}{l:Loc}(h:OwnL A r i l)(k:ShN (A+5) l):False:=by
 obtain⟨a,rfl,ha⟩:=k
 rcases h with ⟨h,_⟩|⟨h,hh⟩
 ·omega
 ·obtain⟨b,s,hb⟩:=hh
  omega
theorem rdL_sh {A:Nat}{Sb:Nat→Prop}{l:Loc}(h:RdL A Sb l)(k:ShN (A+5) l):False:=by
 obtain⟨a,rfl,ha⟩:=k
 rcases h with ⟨h,_⟩|h|h|h<;>omega
theorem ownL_ob (p:Pl){r:Map}{i:Nat}{l:Loc}(h:OwnL p.A r i l):l.isMemory=true∧¬ShB p.Sb l:=by
 cases l with
 |cell a=>
  refine⟨rfl,fun hs=>?_⟩
  have:=p.hSb _ hs
  rcases h with ⟨h,_⟩|⟨h,_⟩<;>omega
 |obj B=>
  refine⟨rfl,fun hs=>?_⟩
  have:=p.hSb _ hs
  have:=h.1
  omega
 |_=>exact h.elim
theorem rdL_ob (p:Pl){l:Loc}(h:RdL p.A p.Sb l):l.isMemory=true∧¬ShB p.Sb l:=by
 cases l with
 |cell a=>
  refine⟨rfl,fun hs=>?_⟩
  have:=p.hSb _ hs
  rcases h with ⟨_,h⟩|h|h|h
  ·exact h hs
  all_goals omega
 |obj B=>
  refine⟨rfl,fun hs=>?_⟩
  have:=p.hSb _ hs
  rcases h with (⟨_,h⟩|h|h|h)|h
  ·exact h hs
  all_goals omega
 |_=>exact h.elim
theorem ownL_inj (h:Sep p J rs){i i':Nat}(hi:i < J)(hi':i' < J){l:Loc}(h1:OwnL p.A (rs i) i l)(h2:OwnL p.A (rs i') i' l):i=i':=by
 cases l with
 |cell a=>
  rcases h1 with ⟨h1,a1,a2⟩|⟨h1,a1⟩<;>rcases h2 with ⟨h2,b1,b2⟩|⟨h2,b1⟩
  ·omega
  ·omega
  ·omega
  ·exact h i i' _ hi hi' h1 a1 b1
 |obj B=>exact h i i' _ hi hi' h1.1 h1.2 h2.2
 |_=>exact h1.elim
theorem apt (h:Sep p J rs):Apt (ShN (p.A+5)) (OwnF p J rs) (RdF p J):=by
 refine⟨?_,?_,?_,?_⟩
 ·rintro k k' l ⟨i,hi,rfl,h1⟩ ⟨i',hi',rfl,h2⟩
  rw [ownL_inj h hi hi' h1 h2]
 ·rintro k k' l ⟨i,hi,rfl,h1⟩ ⟨i',hi',rfl,h2⟩
  exact ownL_com h1 h2
 ·rintro k l ⟨i,hi,rfl,h1⟩ h2
  exact ownL_sh h1 h2
 ·rintro k l ⟨i,hi,rfl,h1⟩ h2
  exact rdL_sh h1 h2
def Sb1 (p:Pl)(B:Nat):Prop:=p.Sb B∨B=p.A+5∨B=p.A+2
structure Tc (p:Pl)(J:Nat)(rs:Nat→Map)(w:World)(t:Trace):Prop where
 tl:TL (ShN (p.A+5)) (ShB p.Sb) (OwnF p J rs) (RdF p J) t
 low:∀op∈t,op.act.low w.heap.size
 part:∃u,t=p.t0++u∧∀op∈u,(op.g=0∨op.act.touch?=none∨∃i,i<J∧op.g=p.N0+i)∧∀x,op.act.touch?=some x→x.kind=.atomic→ShB (Sb1 p) x.loc
 norel:NoRelease (stA (p.A+5)) t
structure EvK (p:Pl)(r:Map)(i B:Nat)(e:Event):Prop where
 tch:∀x,(MemAct.ofEvent e).touch?=some x→(ShN (p.A+5) x.loc∧x.kind≠.plain∧x.kind≠.said)∨(x.kind≠.atomic∧OwnL p.A r i x.loc)∨(x.kind≠.atomic∧RdL p.A p.Sb x.loc∧x.write=false)
 low:(MemAct.ofEvent e).low B
 norel:e.loc≠.mark (.release (stA (p.A+5)))
structure EvM (p:Pl)(B:Nat)(e:Event):Prop where
 tch:∀x,(MemAct.ofEvent e).touch?=some x→(ShN (p.A+5) x.loc∧x.kind≠.plain)∨(x.write=false∧x.kind=.plain∧∃a,x.loc=.cell a∧(a.block=p.A∨a.block=p.A+3))∨x.loc=.obj (p.A+2)
 low:(MemAct.ofEvent e).low B
 norel:e.loc≠.mark (.release (stA (p.A+5)))
theorem norel_ev {t:Trace}{a:Addr}{g:Nat}{fn:FuncId}{pos:String}{es:Array Event}(h:NoRelease a t)(hes:∀ e∈es,e.loc≠.mark (.release a)):NoRelease a (t++MemOp.ofEvents g fn pos es):=by
 refine h.app fun op hop hx=>?_
 obtain⟨e,he,rfl⟩:=Go.Conc.mem_ofEvents hop
 exact hes e he (Go.ConcR.loc_of_ofEvent hx)
theorem Tc.fresh (h:Tc p J rs w t){l:Loc}(hl:∀ B,l.low B→B≤w.heap.size→False):Fresh t l:=by
 intro i a ha e
 obtain⟨op,ho,hox⟩:=touch_of ha
 have:=h.low op (Array.mem_of_getElem? ho)
 subst e
 cases hact:op.act with
 |access ev=>
  rw [hact]at hox this
  simp only [MemAct.touch?,Option.some.injEq]at hox
  subst hox
  exact hl _ this (Nat.le_refl _)
 |mark m=>
  rw [hact]at hox this
  cases m<;>simp only [MemAct.touch?,Option.some.injEq,reduceCtorEq]at hox
  all_goals
   subst hox
   exact hl _ this (Nat.le_refl _)
 |_=>rw [hact]at hox;cases hox
theorem Tc.appW (h:Tc p J rs w t){i:Nat}(hi:i < J){r1:Map}(hle:(rs i).le r1)(hnew:∀ B,Has r1 B→Has (rs i) B∨w.heap.size≤B)(hsz:w.heap.size≤w1.heap.size)(hS:Sep p J (ConcN.upd rs i r1))(hbig:p.A+6≤w.heap.size)
  {fn:FuncId} {pos:String} {es:Array Event} (hes:∀e∈es,EvK p r1 i w1.heap.size e):Tc p J (ConcN.upd rs i r1) w1 (t++MemOp.ofEvents (p.N0+i) fn pos es):=by
 have hasle:∀B,Has (rs i) B→Has r1 B:=fun B ⟨b,s,hb⟩=>⟨b,s,hle _ _ hb⟩
 have hg:=h.tl.grow (Own':=OwnF p J (ConcN.upd rs i r1)) (Rd':=RdF p J) (fun k l ⟨i',hi',e,ho⟩=>⟨i',hi',e,by
  by_cases e':i'=i
  ·subst e'
   rw [upd_same]
   cases l with
   |cell a=>exact ho.imp id fun x=>⟨x.1,hasle _ x.2⟩
   |obj B=>exact⟨ho.1,hasle _ ho.2⟩
   |_=>exact ho
  ·rw [ConcN.upd_ne _ _ e'];exact ho⟩) (fun k l ⟨i',hi',e,ho⟩=>by
   by_cases e':i'=i
   ·subst e'
    rw [upd_same]at ho
    cases l with
    |cell a=>
     rcases ho with ho|⟨h1,h2⟩
     ·exact .inl ⟨i',hi',e,.inl ho⟩
     ·rcases hnew _ h2 with h3|h3
      ·exact .inl ⟨i',hi',e,.inr ⟨h1,h3⟩⟩
      ·exact .inr (h.fresh fun B hl hB=>by have hl:a.block<B:=hl;omega)
    |obj B=>
     rcases hnew _ ho.2 with h3|h3
     ·exact .inl ⟨i',hi',e,ho.1,h3⟩
     ·exact .inr (h.fresh fun B' hl hB=>by have hl:B<B':=hl;omega)
    |_=>exact ho.elim
   ·rw [ConcN.upd_ne _ _ e']at ho
    exact .inl ⟨i',hi',e,ho⟩) (fun _ _ x=>x) (fun _ _ x=>.inl x)
 refine⟨hg.appW (apt hS) (k:=p.N0+i) (by have:=p.hN;omega) fun op hop=>?_,seen_app (fun op hop=>MemAct.low_mono hsz (h.low op hop)) fun op hop=>?_,?_,norel_ev h.norel fun e he=>(hes e he).norel⟩
 ·obtain⟨e,he,rfl⟩:=Go.Conc.mem_ofEvents hop
  refine⟨rfl,fun x hx=>?_⟩
  rcases(hes e he).tch x hx with h1|⟨_,h1⟩|⟨_,h1,h2⟩
  ·exact .inl h1
  ·exact .inr (.inl ⟨i,hi,rfl,by rw [upd_same];exact h1⟩)
  ·exact .inr (.inr ⟨⟨i,hi,rfl,h1⟩,h2⟩)
 ·obtain⟨e,he,rfl⟩:=Go.Conc.mem_ofEvents hop
  exact(hes e he).low
 ·obtain⟨u,rfl,hu⟩:=h.part
  refine⟨u++MemOp.ofEvents (p.N0+i) fn pos es,by rw [Array.append_assoc],fun op hop=>?_⟩
  rcases Array.mem_append.1 hop with hop|hop
  ·exact hu op hop
  ·obtain⟨e,he,rfl⟩:=Go.Conc.mem_ofEvents hop
   refine⟨.inr (.inr ⟨i,hi,rfl⟩),fun x hx ha=>?_⟩
   rcases(hes e he).tch x hx with ⟨⟨a,ea,hb⟩,_⟩|⟨h1,_⟩|⟨h1,_⟩
   ·rw [ea];exact .inr (.inl hb)
   ·exact absurd ha h1
   ·exact absurd ha h1
theorem Tc.app0 (h:Tc p J rs w t)(hS:Sep p J rs)(hsz:w.heap.size≤w1.heap.size){fn:FuncId}{pos:String}{es:Array Event}(hes:∀ e∈es,EvM p w1.heap.size e):Tc p J rs w1 (t++MemOp.ofEvents 0 fn pos es):=by
 have com:∀a:Addr,(a.block=p.A∨a.block=p.A+3)→RdL p.A p.Sb (.cell a):=fun a ha=>by rcases ha with ha|ha<;>simp only [RdL,ComB]<;>omega
 refine⟨h.tl.app0 (apt hS) fun op hop=>?_,seen_app (fun op hop=>MemAct.low_mono hsz (h.low op hop)) fun op hop=>?_,?_,norel_ev h.norel fun e he=>(hes e he).norel⟩
 ·obtain⟨e,he,rfl⟩:=Go.Conc.mem_ofEvents hop
  refine⟨rfl,fun x hx=>?_⟩
  rcases(hes e he).tch x hx with ⟨h1,h2⟩|⟨h1,_,a,h2,h3⟩|h1
  ·refine⟨fun hb=>?_,.inl ⟨h1,h2⟩⟩
   obtain⟨a,ea,hb'⟩:=h1
   rw [ea]at hb
   have hb:p.Sb a.block:=hb
   have:=p.hSb _ hb
   omega
  ·rw [h2]
   refine⟨(rdL_ob p (com a h3)).2,.inr ⟨fun hs=>rdL_sh (com a h3) hs,fun k _ ⟨i,hi,_,ho⟩=>ownL_com ho (com a h3),fun hw=>?_⟩⟩
   rw [h1]at hw;cases hw
  ·rw [h1]
   refine⟨fun hb=>?_,.inr ⟨fun⟨a,ea,_⟩=>(by cases ea),fun k _ ⟨i,hi,_,ho⟩=>by have:=ho.1;omega,fun hw k _ ⟨i,hi,_,ho⟩=>?_⟩⟩
   ·have hb:p.Sb (p.A+2):=hb
    have:=p.hSb _ hb
    omega
   ·rcases ho with (⟨ho,_⟩|ho|ho|ho)|ho<;>omega
 ·obtain⟨e,he,rfl⟩:=Go.Conc.mem_ofEvents hop
  exact(hes e he).low
 ·obtain⟨u,rfl,hu⟩:=h.part
  refine⟨u++MemOp.ofEvents 0 fn pos es,by rw [Array.append_assoc],fun op hop=>?_⟩
  rcases Array.mem_append.1 hop with hop|hop
  ·exact hu op hop
  ·obtain⟨e,he,rfl⟩:=Go.Conc.mem_ofEvents hop
   refine⟨.inl rfl,fun x hx ha=>?_⟩
   rcases(hes e he).tch x hx with ⟨⟨a,ea,hb⟩,_⟩|⟨_,h1,_⟩|h1
   ·rw [ea];exact .inr (.inl hb)
   ·rw [h1]at ha;cases ha
   ·rw [h1];exact .inr (.inr rfl)
theorem Tc.mutes (h:Tc p J rs w t)(u:Trace)(hu:∀ op∈u,op.act.touch?=none∧op.act.low w.heap.size∧op.act≠.mark (.release (stA (p.A+5)))):Tc p J rs w (t++u):=by
 obtain⟨l⟩:=u
 induction l generalizing t with
 |nil=>exact h
 |cons y l ih=>
  have e:t++(y::l).toArray=(t++#[y])++l.toArray:=by simp
  rw [e]
  have hy:=hu y (by simp)
  refine ih ⟨h.tl.mute (g:=y.g) (fun op hop=>by simp at hop;rw [hop]) (fun op hop=>by simp at hop;rw [hop];exact hy.1),seen_app h.low fun op hop=>by simp at hop;rw [hop];exact hy.2.1,?_,h.norel.app fun op hop=>by simp at hop;rw [hop];exact hy.2.2⟩ fun op hop=>hu op (by simp at hop ⊢;exact .inr hop)
  obtain⟨u,rfl,hu⟩:=h.part
  refine⟨u++#[y],by rw [Array.append_assoc],fun op hop=>?_⟩
  rcases Array.mem_append.1 hop with hop|hop
  ·exact hu op hop
  ·simp at hop
   subst hop
   exact⟨.inr (.inl hy.1),fun x hx=>by rw [hy.1]at hx;cases hx⟩
theorem Tc.heap (h:Tc p J rs w t)(e:w.heap.size≤w1.heap.size):Tc p J rs w1 t:=⟨h.tl,fun op hop=>MemAct.low_mono e (h.low op hop),h.part,h.norel⟩
theorem Tc.fork (h:Tc p J rs w t)(hS:Sep p (J+1) rs)(hr:∀ B,Has (rs J) B→B < p.A+6){x y:MemOp}(hx:x.g=0∧x.act=.go (p.N0+J))(hy:y.g=p.N0+J∧y.act=.start)(h0:Deaf t 0=0)(hk:Deaf t (p.N0+J)=0) :
  Tc p (J+1) rs w (t++#[x,y]):=by
 have hm:∀op∈#[x,y],op.act.touch?=none∧op.act.low w.heap.size∧op.act≠.mark (.release (stA (p.A+5))):=by
  intro op hop
  simp only [List.mem_toArray,List.mem_cons,List.not_mem_nil,or_false]at hop
  rcases hop with rfl|rfl
  ·rw [hx.2];exact⟨rfl,trivial,by simp⟩
  ·rw [hy.2];exact⟨rfl,trivial,by simp⟩
 have hq:=h.mutes #[x,y] hm
 refine⟨h.tl.fork (k:=p.N0+J) (by have:=p.hN;omega) hx hy h0 hk (fun k l hkl=>?_) (fun k l hkl=>?_) (fun l=>?_) (fun l hl=>?_) (fun l hl=>?_),hq.low,?_,hq.norel⟩
 ·constructor
  ·rintro⟨i,hi,e,ho⟩;exact⟨i,by omega,e,ho⟩
  ·rintro⟨i,hi,e,ho⟩;exact⟨i,by omega,e,ho⟩
 ·constructor
  ·rintro⟨i,hi,e,ho⟩;exact⟨i,by omega,e,ho⟩
  ·rintro⟨i,hi,e,ho⟩;exact⟨i,by omega,e,ho⟩
 ·constructor
  ·rintro⟨i,hi,e,ho⟩;omega
  ·rintro⟨i,hi,e,ho⟩;omega
 ·obtain⟨i,hi,e,ho⟩:=hl
  obtain⟨m1,m2⟩:=ownL_ob p ho
  refine⟨m1,fun hs=>ownL_sh ho hs,m2,fun k' _=>⟨?_,?_⟩⟩
  ·rintro⟨i',hi',e',ho'⟩
   have:=ownL_inj hS (by omega:i'<J+1) hi ho' ho
   omega
  ·rintro⟨i',hi',e',ho'⟩
   exact ownL_com ho ho'
 ·obtain⟨i,hi,e,ho⟩:=hl
  obtain⟨m1,m2⟩:=rdL_ob p ho
  exact⟨m1,fun hs=>rdL_sh ho hs,m2,fun k' _ ⟨i',hi',e',ho'⟩=>ownL_com ho' ho⟩
 ·obtain⟨u,e,hu⟩:=hq.part
  exact⟨u,e,fun op hop=>⟨(hu op hop).1.imp id (Or.imp id fun⟨i,hi,e⟩=>⟨i,by omega,e⟩),(hu op hop).2⟩⟩
end
end Go.Proofs.YtngdldcgkaplbaaGreat.Gt
namespace Go.Proofs.YtngdldcgkaplbaaGreat.Gt
open Go Go.Conc Go.Conc.Lib
open Go.ConcN (ShN RelBy upd upd_same upd_ne WgLive)
open Go.ConcR (KK WgAt stA smA rd wr DC0 Payload)
open Lk Fw
noncomputable abbrev tI:TypeId:=3
noncomputable abbrev tC:TypeId:=160
noncomputable abbrev tF:TypeId:=132
noncomputable abbrev tS:TypeId:=128
noncomputable def bog:TypeId:=P.types.size
theorem bog_none:P.info? bog=none:=by
 show P.types[P.types.size]?=none
 exact Array.getElem?_eq_none (Nat.le_refl _)
def frzB:Obj→Obj
 | .cells cs e _=>.cells cs e (0,cs.size)
 |x=>x
structure Cf where
 p:Pl
 W:Nat
 n:Nat
 w0:World
 r:Map
 v:World
 f:Value
 f':Value
 Sh:List Nat→Array Value→Prop
 Z:Array Value
 hZ1:Z.size=145
 hZ2:Sh [] Z
 hZ3:∀r,VA FF r Z Z
 hW1:1≤W
 hW2:W≤16
 hn:n<4611686018427387904
 hA:p.A=w0.heap.size
 wr:WR P FF r v w0
 cl:Clear p.Sb r w0
 vf:VR FF r f f'
structure GW (c:Cf)(acc:List Nat)(v:World):Prop where
 old:∀b,b<c.v.heap.size→v.heap[b]?=(c.v.heap[b]?).map frzB
 nb:v.heap[c.v.heap.size]?=some (.cells #[.int .i64 c.n] tI (0,1))
 ob:v.heap[c.v.heap.size+1]?=some (.cells #[c.f] tF (0,1))
 sh:∃cs,v.heap[c.v.heap.size+2]?=some (.cells cs bog (0,0))∧cs.size=145∧c.Sh acc cs
structure GT0 (c:Cf)(T:Array Value):Prop where
 size:T.size=45
 t0:T[0]?=some (.pointer (some ⟨c.v.heap.size+2,0,none⟩))
 t3:T[3]?=some (.pointer (some ⟨c.v.heap.size,0,none⟩))
 t4:T[4]?=some (.pointer (some ⟨c.v.heap.size+1,0,none⟩))
structure GT (c:Cf)(T:Array Value):Prop extends GT0 c T where
 t11:T[11]?=some (.chan (some (c.p.A+2)))
def PieceOk (c:Cf):Prop:=∀acc x T v,x<c.n→x%16=0→GT c T→T[12]?=some (.tuple #[.int .i64 x,.bool true])→GW c acc v→(∃ri,WR P FF ri v v∧VA FF ri T T) →
 Tr P (Over P nW (fun T1 v1=>GT c T1∧GW c (acc++[x]) v1) (fun _ _=>False)) (mk nW .normal T [] ([.code pieceW]++under) false) [catcher P] v
structure Zn (c:Cf)(i:Nat)(r:Map)(v:World):Prop where
 has:∀B,Has r B→(B<c.p.A∧¬c.p.Sb B)∨B=c.p.A∨B=c.p.A+1∨B=c.p.A+4∨c.p.A+6≤B
 sh:∀o,Foot r v (c.p.A+4) o→145*i≤o∧o<145*i+145
 mine:∀B o,Mine r v B o→B=c.p.A+4∨c.p.A+6≤B
 shm:r (c.v.heap.size+2)=some (c.p.A+4,145*i)
section
variable {c:Cf} {i:Nat} {r r1:Map} {v v1 w w1 w2:World} {u:List Event} {acc:List Nat}
theorem Zn.tp (h:Zn c i r v)(T:Tape):Zn c i r (Lk.tp v T):=⟨h.has,h.sh,h.mine,h.shm⟩
theorem has_st (hw:WR P FF r v w)(st:St P FF r r1 v v1 w w1 u){B:Nat}(hB:Has r1 B):Has r B∨w.heap.size≤B:=by
 obtain⟨b,s,hb⟩:=hB
 rcases st.new b _ hb with h1|⟨_,h1⟩
 ·exact .inl ⟨b,s,h1⟩
 ·exact .inr h1
theorem Zn.st (h:Zn c i r v)(hw:WR P FF r v w)(st:St P FF r r1 v v1 w w1 u)(hbig:c.p.A+6≤w.heap.size):Zn c i r1 v1:=by
 refine⟨fun B hB=>?_,fun o ho=>?_,fun B o ho=>?_,st.le _ _ h.shm⟩
 ·rcases has_st hw st hB with h1|h1
  ·exact h.has B h1
  ·omega
 ·rcases Foot.back hw st ho with h1|h1
  ·exact h.sh o h1
  ·omega
 ·rcases Mine.back' hw st ho with h1|h1
  ·exact h.mine B o h1
  ·omega
structure Ru (c:Cf)(i:Nat)(r:Map)(w w1:World):Prop where
 size:w.heap.size≤w1.heap.size
 same:∀B,Has r B→B≠c.p.A+4→w1.heap[B]?=w.heap[B]?
 sh:∃cs e fz cs1,w.heap[c.p.A+4]?=some (.cells cs e fz)∧w1.heap[c.p.A+4]?=some (.cells cs1 e fz)∧cs1.size=cs.size∧∀o,145*i≤o→o<145*i+145→cs1[o]?=cs[o]?
 live:WgLive lnk.tWg (c.p.A+5) w→WgLive lnk.tWg (c.p.A+5) w1
theorem Ru.kept (z:Zn c i r v)(h:Ru c i r w w1):Kept r v w w1:=by
 obtain⟨cs,e,fz,cs1,s1,s2,s3,s4⟩:=h.sh
 refine⟨h.size,fun B hB cs' e' fz' hh=>?_,fun B hB x hx hh=>?_⟩
 ·by_cases hB4:B=c.p.A+4
  ·subst hB4
   rw [s1]at hh
   injection hh with hh
   injection hh with e1 e2 e3
   subst e1 e2 e3
   exact⟨cs1,s2,s3,fun o ho=>by obtain⟨l1,l2⟩:=z.sh o ho;exact s4 o l1 l2⟩
  ·exact⟨cs',(h.same B hB hB4).trans hh,rfl,fun _ _=>rfl⟩
 ·by_cases hB4:B=c.p.A+4
  ·subst hB4
   rw [s1]at hh
   injection hh with hh
   exact absurd hh.symm (hx _ _ _)
  ·exact(h.same B hB hB4).trans hh
structure Rest (c:Cf)(i:Nat)(r:Map)(v:World)(acc:List Nat)(w:World):Prop where
 wr:WR P FF r v w
 gw:GW c acc v
 zn:Zn c i r v
theorem Rest.ru (h:Rest c i r v acc w)(k:Ru c i r w w1):Rest c i r v acc w1:=⟨h.wr.kept (k.kept h.zn),h.gw,h.zn⟩
structure Nd where
 S:Frame→List Frame→World→Prop
 x:Frame×List Frame×World
 ac:Acc (Nearer P S) x
def Nd.lt (a b:Nd):Prop:=a.S=b.S∧Nearer P b.S a.x b.x
theorem Nd.wf:WellFounded Nd.lt:=by
 refine⟨fun⟨S,x,ac⟩=>?_⟩
 have key:∀x,Acc (Nearer P S) x→∀ac,Acc Nd.lt ⟨S,x,ac⟩:=by
  intro x h
  induction h with
  |intro x _ ih=>
   intro ac
   refine⟨_,fun⟨S',y,ay⟩ hy=>?_⟩
   obtain⟨e,hn⟩:=hy
   have e:S'=S:=e
   subst e
   exact ih y hn ay
 exact key x ac ac
noncomputable def nd0:Nd:=⟨fun _ _ _=>True,(default,[],default),⟨_,fun _ h=>absurd trivial h.1⟩⟩
abbrev WM:=Nat×Nat×Nd
def Lt3:WM→WM→Prop:=Prod.Lex (·<·) (Prod.Lex (·<·) Nd.lt)
theorem Lt3.wf:WellFounded Lt3:=(Prod.lex ⟨(·<·),Nat.lt_wfRel.wf⟩ (Prod.lex ⟨(·<·),Nat.lt_wfRel.wf⟩ ⟨Nd.lt,Nd.wf⟩)).wf
theorem Lt3.st {a b:Nat}(h:a < b)(x y:Nat×Nd):Lt3 (a,x) (b,y):=Prod.Lex.left _ _ h
theorem Lt3.fu {a m n:Nat}(h:m < n)(x y:Nd):Lt3 (a,m,x) (a,n,y):=Prod.Lex.right _ (Prod.Lex.left _ _ h)
theorem Lt3.nd {a m:Nat}{x y:Nd}(h:Nd.lt x y):Lt3 (a,m,x) (a,m,y):=Prod.Lex.right _ (Prod.Lex.right _ h)
end
def wgV (c:Cf):Value:=.pointer (some ⟨c.p.A+5,0,none⟩)
def chV (c:Cf):Value:=.pointer (some ⟨c.p.A+3,0,none⟩)
def nbV (c:Cf):Value:=.pointer (some ⟨c.p.A,0,none⟩)
def obV (c:Cf):Value:=.pointer (some ⟨c.p.A+1,0,none⟩)
def shV (c:Cf)(i:Nat):Value:=.pointer (some ⟨c.p.A+4,i*145,none⟩)
noncomputable def Dd (c:Cf):List Deferred:=[dcall lnk.done #[wgV c]]
def Tw (c:Cf)(r:Map)(T:Array Value):Prop:=∃Tg,VA FF r Tg T∧GT c Tg
def Tw0 (c:Cf)(r:Map)(T:Array Value):Prop:=(∃Tg,VA FF r Tg T∧GT0 c Tg)∧T.getD 2 undef=chV c
theorem Tw.size {c:Cf}{r:Map}{T:Array Value}(h:Tw c r T):T.size=45:=by
 obtain⟨Tg,h1,h2⟩:=h
 rw [←h1.1,h2.size]
theorem Tw.t11 {c:Cf}{r:Map}{T:Array Value}(h:Tw c r T):T.getD 11 undef=.chan (some (c.p.A+2)):=by
 obtain⟨Tg,h1,h2⟩:=h
 obtain⟨x,hx,hv⟩:=h1.get h2.t11
 cases hv
 rw [Array.getD_eq_getD_getElem?,hx];rfl
noncomputable def PS (c:Cf)(acc:List Nat)(x:Nat):Frame→List Frame→World→Prop:=Over P nW (fun T1 v1=>GT c T1∧GW c (acc++[x]) v1) (fun _ _=>False)
noncomputable def kP:List Item:=.inBlock 1::kL
noncomputable abbrev RLx (c:Cf):=RL lnk.tWg (c.p.A+5)
noncomputable def atRecv (c:Cf)(T:Array Value):Goroutine:=G (wk T (Dd c) recvT) [restB]
noncomputable def rcs (c:Cf):Array CommCase:=#[rcase (c.p.A+2) (.int .i64 0)]
inductive Wsit (c:Cf)(i:Nat):Nat→WM→Nat→Map→World→List Nat→Goroutine→World→Prop
 |load {n:Nat} {r:Map} {v:World} {T:Array Value} {g:Goroutine} {w:World} (h:Rest c i r v [] w) (hT:Tw0 c r T) (k:Sm false n g (G (wk T (Dd c) [.inRegion opsL [0],.code (.block 0 (.loop cW))]) [restB])):Wsit c i 7 (19,n,nd0) 0 r v [] g w
 |slide {n:Nat} {r:Map} {v:World} {acc:List Nat} {T:Array Value} {g:Goroutine} {w:World} (h:Rest c i r v acc w) (hT:Tw c r T) (k:Sm false n g (atRecv c T)):Wsit c i 7 (12,n,nd0) 0 r v acc g w
 |again {r:Map} {v:World} {acc:List Nat} {T:Array Value} {w:World} (h:Rest c i r v acc w) (hT:Tw c r T):Wsit c i 7 (12,0,nd0) 0 r v acc { atRecv c T with offers:=some (rcs c,.recv true) } w
 |park {r:Map} {v:World} {acc:List Nat} {T:Array Value} {w:World} (h:Rest c i r v acc w) (hT:Tw c r T):Wsit c i 7 (11,0,nd0) 0 r v acc (parked (atRecv c T) (rcs c) (.recv true)) w
 |got {n x:Nat} {r:Map} {v:World} {acc:List Nat} {T:Array Value} {g:Goroutine} {w:World} (h:Rest c i r v acc w) (hT:Tw c r T) (hx:x<c.n) (hm:x%16=0) (k:Sm false n g (G (wk (gotT T (.int .i64 x) true) (Dd c) (.code pieceW::kP)) [restB])):Wsit c i 7 (15,n,nd0) 0 r v (acc++[x]) g w
 |piece {x:Nat} {r:Map} {v:World} {acc:List Nat} {fr fr':Frame} {cs cs':List Frame} {w:World} (hw:WR P FF r v w) (z:Zn c i r v) (k:SkR P fb FF under kP (Dd c) .deferred [restB] r fr cs fr' cs') (t:Tr P (PS c acc x) fr cs v) (ac:Acc (Nearer P (PS c acc x)) (fr,cs,v)):
   Wsit c i 7 (14,0,⟨PS c acc x,(fr,cs,v),ac⟩) 0 r v (acc++[x]) (G fr' cs') w
 |out {n:Nat} {r:Map} {v:World} {acc:List Nat} {T:Array Value} {g:Goroutine} {w:World} (h:Rest c i r v acc w) (k:Sm false n g (G ((baseD lnk.done).at ⟨#[wgV c,undef,undef,undef],[]⟩ [.code (Go.ConcR.Gen.body_done lnk)]) ({ (baseD nW).at ⟨T,[]⟩ []with mode:=.returning }::[restB]))):Wsit c i 7 (10,n,nd0) 0 r v acc g w
 |r0 {n:Nat} {r:Map} {v:World} {acc:List Nat} {g:Goroutine} {w:World} (h:Rest c i r v acc w) (k:Goes P false (RLx c) DC0 (AR0 P lnk.tWg (c.p.A+5)) n g w):Wsit c i 7 (9,n,nd0) 0 r v acc g w
 |k1 {n:Nat} {r:Map} {v:World} {acc:List Nat} {g:Goroutine} {w:World} (h:Rest c i r v acc w) (k:Goes P false (RLx c) DC0 (AK1 P lnk.tWg (c.p.A+5)) n g w):Wsit c i 6 (6,n,nd0) 0 r v acc g w
 |d1 {n:Nat} {r:Map} {v:World} {acc:List Nat} {g:Goroutine} {w:World} (h:Rest c i r v acc w) (k:Goes P false (RLx c) DC0 (AD1 P lnk.tWg (c.p.A+5)) n g w):Wsit c i 5 (5,n,nd0) 1 r v acc g w
 |d2 {n:Nat} {r:Map} {v:World} {acc:List Nat} {g:Goroutine} {w:World} (h:Rest c i r v acc w) (k:Goes P false (RLx c) DC0 (AD2 P lnk.tWg (c.p.A+5)) n g w):Wsit c i 4 (4,n,nd0) 1 r v acc g w
 |d3 {n:Nat} {r:Map} {v:World} {acc:List Nat} {g:Goroutine} {w:World} (h:Rest c i r v acc w) (k:Goes P false (RLx c) DC0 (AD3 P lnk.tWg (c.p.A+5)) n g w):Wsit c i 3 (3,n,nd0) 1 r v acc g w
 |d4 {n:Nat} {r:Map} {v:World} {acc:List Nat} {g:Goroutine} {w:World} (h:Rest c i r v acc w) (k:Goes P false (RLx c) DC0 (AD4 P lnk.tWg (c.p.A+5)) n g w):Wsit c i 2 (2,n,nd0) 1 r v acc g w
 |quit {q d:Nat} {r:Map} {v:World} {acc:List Nat} {g:Goroutine} {w:World} (h:Rest c i r v acc w) (k:QuitsD P q d g):Wsit c i 1 (1,q,nd0) d r v acc g w
section
variable {c:Cf} {i:Nat} {r:Map} {v w w1:World} {tk:List Nat} {g:Goroutine} {s d:Nat} {μ:WM}
theorem rl_trans:∀a b d,RLx c a b→RLx c b d→RLx c a d:=fun _ _ _ h1 h2 h=>h2 (h1 h)
theorem rl_refl (w:World):RLx c w w:=id
theorem Wsit.ru (h:Wsit c i s μ d r v tk g w)(k:Ru c i r w w1):Wsit c i s μ d r v tk g w1:=by
 cases h with
 |load h hT kk=>exact .load (h.ru k) hT kk
 |slide h hT kk=>exact .slide (h.ru k) hT kk
 |again h hT=>exact .again (h.ru k) hT
 |park h hT=>exact .park (h.ru k) hT
 |got h hT hx hm kk=>exact .got (h.ru k) hT hx hm kk
 |piece hw z kk t ac=>exact .piece (hw.kept (k.kept z)) z kk t ac
 |out h kk=>exact .out (h.ru k) kk
 |r0 h kk=>exact .r0 (h.ru k) (Goes.rely rl_trans kk k.live)
 |k1 h kk=>exact .k1 (h.ru k) (Goes.rely rl_trans kk k.live)
 |d1 h kk=>exact .d1 (h.ru k) (Goes.rely rl_trans kk k.live)
 |d2 h kk=>exact .d2 (h.ru k) (Goes.rely rl_trans kk k.live)
 |d3 h kk=>exact .d3 (h.ru k) (Goes.rely rl_trans kk k.live)
 |d4 h kk=>exact .d4 (h.ru k) (Goes.rely rl_trans kk k.live)
 |quit h kk=>exact .quit (h.ru k) kk
theorem Sm.run {main:Bool}{n:Nat}{g g1:Goroutine}(h:Sm main n g g1)(k:g1.status=.running):g.status=.running:=by
 cases h with
 |refl=>exact k
 |step hs _ _=>exact hs
theorem Sm.offers {main:Bool}{n:Nat}{g g1:Goroutine}(h:Sm main n g g1)(k:n=0→g1.offers=none)(k':n≠0→g.offers=none):g.offers=none:=by
 cases h with
 |refl=>exact k rfl
 |step hs _ _=>exact k' (by omega)
theorem Wsit.status (h:Wsit c i s μ d r v tk g w):g.status=.running∨g.status=.finished∨∃T,Tw c r T∧g=parked (atRecv c T) (rcs c) (.recv true):=by
 cases h with
 |load h hT kk=>exact .inl (kk.run rfl)
 |slide h hT kk=>exact .inl (kk.run rfl)
 |again h hT=>exact .inl rfl
 | @park _ _ _ T _ h hT=>exact .inr (.inr ⟨T,hT,rfl⟩)
 |got h hT hx hm kk=>exact .inl (kk.run rfl)
 |piece hw z kk t ac=>exact .inl rfl
 |out h kk=>exact .inl (kk.run rfl)
 |r0 h kk=>exact .inl (Goes.running (fun _ _ x=>x.1) w (rl_refl w) kk)
 |k1 h kk=>exact .inl (Goes.running (fun _ _ x=>x.1) w (rl_refl w) kk)
 |d1 h kk=>exact .inl (Goes.running (fun _ _ x=>x.1) w (rl_refl w) kk)
 |d2 h kk=>exact .inl (Goes.running (fun _ _ x=>x.1) w (rl_refl w) kk)
 |d3 h kk=>exact .inl (Goes.running (fun _ _ x=>x.1) w (rl_refl w) kk)
 |d4 h kk=>exact .inl (Goes.running (fun _ _ x=>x.1) w (rl_refl w) kk)
 |quit h kk=>exact kk.status.imp id .inl
theorem Wsit.woken (h:Wsit c i s μ d r v tk g w)(hc:g.status=.blocked→∃ s r,w1.heap[c.p.A+2]?=some (.chan 0 #[] false s r false))(a a':Goroutine):woken P a a' w1 g=g:=by
 unfold Go.Conc.woken
 split
 ·rcases h.status with h1|h1|⟨T,_,rfl⟩
  ·exact again_running _ (.inl h1)
  ·exact again_running _ (.inr h1)
  ·obtain⟨s,r,hs⟩:=hc rfl
   simp [Goroutine.again,parked,rcs,rcase,hs]
 ·rfl
end
structure Wo (c:Cf)(i:Nat)(r r1:Map)(w w1:World):Prop where
 size:w.heap.size≤w1.heap.size
 rest:w1.tape=w.tape∧w1.os=w.os∧w1.output=w.output
 same:∀B,B<w.heap.size→B≠c.p.A+4→B≠c.p.A+5→¬(c.p.A+6≤B∧Has r B)→w1.heap[B]?=w.heap[B]?
 sh:∃cs e fz cs1,w.heap[c.p.A+4]?=some (.cells cs e fz)∧w1.heap[c.p.A+4]?=some (.cells cs1 e fz)∧cs1.size=cs.size∧∀o,¬(145*i≤o∧o<145*i+145)→cs1[o]?=cs[o]?
 le:r.le r1
 new:∀B,Has r1 B→Has r B∨w.heap.size≤B
structure WNext (c:Cf)(i:Nat)(r:Map)(tk:List Nat)(w:World)(d:Nat)(g':Goroutine)(w':World)(es:Array Event)(s':Nat)(μ':WM)(d':Nat)(r':Map)(v':World):Prop where
 wo:Wo c i r r' w w'
 sit:Wsit c i s' μ' d' r' v' tk g' w'
 ev:∀e∈es,EvK c.p r' i w'.heap.size e
 df:deafBehind d es=d'
section
variable {c:Cf} {i:Nat} {r r1:Map} {v v1 w w1:World} {tk acc:List Nat} {g:Goroutine} {s d:Nat} {μ:WM}
def ShB4 (c:Cf)(w:World):Prop:=∃cs,w.heap[c.p.A+4]?=some (.cells cs tS (0,0))∧cs.size=145*c.W
theorem Wo.refl (h:ShB4 c w):Wo c i r r w w:=by
 obtain⟨cs,h1,_⟩:=h
 exact⟨Nat.le_refl _,⟨rfl,rfl,rfl⟩,fun _ _ _ _ _=>rfl,⟨cs,_,_,cs,h1,h1,rfl,fun _ _=>rfl⟩,Map.le_refl _,fun B h=>.inl h⟩
theorem evk_none {B:Nat}:∀e∈(#[]:Array Event),EvK c.p r i B e:=fun e he=>by simp at he
theorem same_cells {cs cs1:Array Value}(h:cs1.size=cs.size)(k:∀ o:Nat,cs1[o]?=cs[o]?):cs1=cs:=Array.ext_getElem? k
theorem lift_wo {T:Tape}{es:Array Event}(z:Zn c i r v)(hw:WR P FF r v w)(st:St P FF r r1 (Lk.tp v T) v1 w w1 es.toList)(h4:ShB4 c w)(hbig:c.p.A+6≤w.heap.size) :
  Wo c i r r1 w w1∧(∀e∈es,EvK c.p r1 i w1.heap.size e)∧w1.heap[c.p.A+5]?=w.heap[c.p.A+5]?∧Zn c i r1 v1∧∀e∈es,e.loc≠.mark .disable∧e.loc≠.mark .enable:=by
 have hw':WR P FF r (Lk.tp v T) w:=hw.of_heap rfl rfl
 have z1:Zn c i r1 v1:=(z.tp T).st hw' st hbig
 have keep:∀B,B<w.heap.size→(∀o,¬Mine r v B o)→w1.heap[B]?=w.heap[B]?:=by
  intro B hB hm
  have hx:=Array.getElem?_eq_getElem hB
  rcases st.rkeep B _ hx with ⟨cs,e,fz,cs1,e1,e2,e3,e4⟩|e2
  ·rw [e2,hx,e1,same_cells e3 fun o=>e4 o (hm o)]
  ·rw [e2,hx]
 obtain⟨cs,h41,h42⟩:=h4
 refine⟨⟨st.rsize,⟨st.rest.1,st.rest.2.1,st.rest.2.2.1⟩,fun B hB n4 n5 hh=>keep B hB fun o hm=>?_,?_,st.le,fun B hB=>has_st hw' st hB⟩,fun e he=>?_,keep _ (by omega) fun o hm=>?_,z1,fun e he=>?_⟩
 ·have hH:Has r B:=by obtain⟨b,s,o0,h1,_⟩:=hm;exact⟨b,s,h1⟩
  rcases z.mine B o hm with h1|h1
  ·exact n4 h1
  ·exact hh ⟨h1,hH⟩
 ·rcases st.rkeep _ _ h41 with ⟨cs',e,fz,cs1,e1,e2,e3,e4⟩|e2
  ·injection e1 with e5 e6 e7
   subst e5 e6 e7
   exact⟨_,_,_,cs1,h41,e2,e3,fun o ho=>e4 o fun hm=>ho (z.sh o hm.foot)⟩
  ·exact⟨_,_,_,cs,h41,e2,rfl,fun _ _=>rfl⟩
 ·rcases st.evs e (by simpa using he)with ⟨b,B,s,o,wr,rfl,h2,h3,h4⟩|⟨b,B,s,rfl,h2⟩|⟨f,rfl⟩|rfl
  ·have hf:Foot r1 v1 B (s+o):=⟨b,s,o,h2,rfl,h3⟩
   have hm:wr=true→B=c.p.A+4∨c.p.A+6≤B:=fun hwr=>z1.mine B (s+o) ⟨b,s,o,h2,rfl,h4 hwr⟩
   have hro:(B<c.p.A+4)→wr=false:=fun hB=>by
    cases wr with
    |false=>rfl
    |true=>have:=hm rfl;omega
   refine⟨fun x hx=>?_,(st.wr.lt h2).2,by simp⟩
   rw [ofEvent_cell0]at hx
   simp only [MemAct.touch?,Option.some.injEq]at hx
   subst hx
   rcases z1.has B ⟨b,s,h2⟩with h5|h5|h5|h5|h5
   ·exact .inr (.inr ⟨by simp,.inl h5,hro (by omega)⟩)
   ·exact .inr (.inr ⟨by simp,.inr (.inl h5),hro (by omega)⟩)
   ·exact .inr (.inr ⟨by simp,.inr (.inr (.inl h5)),hro (by omega)⟩)
   ·subst h5
    exact .inr (.inl ⟨by simp,.inl ⟨rfl,z1.sh _ hf⟩⟩)
   ·exact .inr (.inl ⟨by simp,.inr ⟨h5,b,s,h2⟩⟩)
  ·refine⟨fun x hx=>?_,(st.wr.lt h2).2,by simp⟩
   have e1:MemAct.ofEvent ⟨.obj B,false,false⟩=.access ⟨.obj B,false,false⟩:=rfl
   rw [e1]at hx
   simp only [MemAct.touch?,Option.some.injEq]at hx
   subst hx
   rcases z1.has B ⟨b,s,h2⟩with h5|h5|h5|h5|h5
   ·exact .inr (.inr ⟨by simp,.inl (.inl h5),rfl⟩)
   ·exact .inr (.inr ⟨by simp,.inl (.inr (.inl h5)),rfl⟩)
   ·exact .inr (.inr ⟨by simp,.inl (.inr (.inr (.inl h5))),rfl⟩)
   ·exact .inr (.inr ⟨by simp,.inr h5,rfl⟩)
   ·exact .inr (.inl ⟨by simp,h5,b,s,h2⟩)
  ·exact⟨fun x hx=>(by cases hx),trivial,by simp⟩
  ·exact⟨fun x hx=>(by cases hx),trivial,by simp⟩
 ·have hH:Has r (c.p.A+5):=by obtain⟨b,s,o0,h1,_⟩:=hm;exact⟨b,s,h1⟩
  rcases z.has _ hH with ⟨h5,_⟩|h5|h5|h5|h5<;>omega
 ·rcases st.evs e (by simpa using he)with ⟨b,B,s,o,wr,rfl,_⟩|⟨b,B,s,rfl,_⟩|⟨f,rfl⟩|rfl<;>simp
theorem stop_real {acc:List Nat}{x:Nat}{fr fr':Frame}{cs cs':List Frame}(k:SkR P fb FF under kP (Dd c) .deferred [restB] r fr cs fr' cs')(h:PS c acc x fr cs v) :
  ∃T1,Tw c r T1∧GW c (acc++[x]) v∧fr'=wk T1 (Dd c) kP∧cs'=[restB]:=by
 obtain⟨e,hfn,hcase⟩:=h
 subst e
 obtain⟨a,b,D,K,hT,hfr⟩:=k
 cases hT with
 |up k=>cases k
 |bot=>
  rcases hcase with ⟨hm,ht,hN1,hN2⟩|⟨_,hn⟩
  ·cases hfr with
   | @mk fn tmps tmps' pre ret hv hp=>
    cases ret with
    |true=>cases hm
    |false=>
     have hfn:fn=nW:=hfn
     subst hfn
     have ht:pre++under=under:=ht
     have hp:pre=[]:=List.append_left_eq_self.1 ht
     subst hp
     exact⟨tmps',⟨tmps,hv,hN1⟩,hN2,rfl,rfl⟩
  ·exact hn.elim
end
section
variable {c:Cf} {i:Nat} {r r1:Map} {v v1 w w1:World} {tk acc:List Nat} {g:Goroutine} {s d:Nat} {μ:WM}
theorem ps_stop {acc:List Nat}{x:Nat}{fr:Frame}{cs:List Frame}{v:World}(hs:PS c acc x fr cs v):AtStop P under fr cs:=by
 refine⟨hs.1,?_⟩
 rcases hs.2.2 with ⟨h1,h2,_⟩|⟨h1,_⟩
 ·exact .inr ⟨by simp [under],h1,h2⟩
 ·exact .inl h1
def On (c:Cf)(i:Nat)(r:Map)(tk:List Nat)(μ:WM)(g:Goroutine)(w:World):Prop:=
 ∃g' w' es μ' r' v',stepG P false g w=.go g' w' es∧WNext c i r tk w 0 g' w' es 7 μ' 0 r' v'∧Lt3 μ' μ∧(11≤μ.1→11≤μ'.1)∧w'.heap[c.p.A+5]?=w.heap[c.p.A+5]?∧g'.status≠.blocked
def Rel (c:Cf)(i:Nat)(r:Map)(v:World)(tk:List Nat)(μ:WM)(g:Goroutine)(w:World):Prop:=
 Rest c i r v tk w∧(∃g' m,stepG P false g w=.go g' w #[Go.ConcR.mk (.releaseMerge (stA (c.p.A+5)))]∧Goes P false (RLx c) DC0 (AK1 P lnk.tWg (c.p.A+5)) m g' w)∧6<μ.1∧μ.1≤10
def AtR (c:Cf)(i:Nat)(r:Map)(v:World)(tk:List Nat)(μ:WM)(g:Goroutine)(w:World):Prop:=
 ∃T,μ.1=12∧Rest c i r v tk w∧Tw c r T∧(g=atRecv c T∨g={ atRecv c T with offers:=some (rcs c,.recv true) })
theorem on_idle {g1:Goroutine}{μ':WM}(h4:ShB4 c w)(h:stepG P false g w=.go g1 w #[])(k:Wsit c i 7 μ' 0 r v tk g1 w)(l:Lt3 μ' μ)(l2:11≤μ.1→11≤μ'.1)(hb:g1.status=.running):On c i r tk μ g w:=
 ⟨g1,w,#[],μ',r,v,h,⟨Wo.refl h4,k,evk_none,rfl⟩,l,l2,rfl,by rw [hb];simp⟩
theorem piece_on {x:Nat}{fr fr':Frame}{cs cs':List Frame}(h4:ShB4 c w)(hbig:c.p.A+6≤w.heap.size)(hw:WR P FF r v w)(z:Zn c i r v)(k:SkR P fb FF under kP (Dd c) .deferred [restB] r fr cs fr' cs')(t:Tr P (PS c acc x) fr cs v)
  (hμ:∀n,Lt3 (12,n,nd0) μ) (hμ2:∀y:Nd,(∃ac,Nd.lt y ⟨PS c acc x,(fr,cs,v),ac⟩)→Lt3 (14,0,y) μ):On c i r (acc++[x]) μ (G fr' cs') w:=by
 by_cases hs:PS c acc x fr cs v
 ·obtain⟨T1,h1,h2,rfl,rfl⟩:=stop_real k hs
  have hsl:=(slide_recv (tmps:=T1) (D:=Dd c) (cs:=[restB])).sm
  cases hsl with
  |step _ hst kk=>exact on_idle h4 (hst w) (.slide ⟨hw,h2,z⟩ h1 kk) (hμ _) (fun _=>by simp only;omega) (kk.run rfl)
 ·obtain⟨fr1,cs1,v1,r1,fr1',cs1',w1,es',e1,e2,e3,e4,e5⟩:=lift_step (main:=false) hFb hF hG (by simp) (.inr rfl) (fun h=>by cases h) (fun _ _ _ h=>ps_stop h) hw k t hs
  obtain⟨l1,l2,l3,l4,l5⟩:=lift_wo z hw e3 h4 hbig
  refine⟨_,w1,es',(14,0,⟨PS c acc x,(fr1,cs1,v1),e4.acc⟩),r1,v1,e1,⟨l1,.piece e3.wr l4 e2 e4 e4.acc,l2,deafBehind_still l5 0⟩,hμ2 _ ⟨t.acc,rfl,e5⟩,(fun _=>by simp only;omega),l3,by simp [G]⟩
theorem r0_on {n:Nat}(h4:ShB4 c w)(h:Rest c i r v tk w)(k:Goes P false (RLx c) DC0 (AR0 P lnk.tWg (c.p.A+5)) n g w)(hμ:∀ m,m < n→Lt3 (9,m,nd0) μ)(h6:6 < μ.1∧μ.1≤10):On c i r tk μ g w∨Rel c i r v tk μ g w:=by
 rcases Goes.cases k with hstop|⟨m',rfl,hstep⟩
 ·obtain⟨_,g',hgo,m,hk⟩:=hstop w (rl_refl w)
  exact .inr ⟨h,⟨g',m,hgo,hk⟩,h6⟩
 ·obtain⟨g',w',es,hgo,⟨rfl,rfl⟩,hg'⟩:=hstep w (rl_refl w)
  exact .inl (on_idle h4 hgo (.r0 h hg') (hμ _ (by omega)) (fun h=>by omega) (Goes.running (fun _ _ x=>x.1) _ (rl_refl _) hg'))
theorem Wsit.step7 (hP:PieceOk c)(h:Wsit c i 7 μ d r v tk g w)(hrun:g.status=.running)(h4:ShB4 c w)(hbig:c.p.A+6≤w.heap.size)(hch:w.cell? ⟨c.p.A+3,0,none⟩=some (.chan (some (c.p.A+2))))(hl:WgLive lnk.tWg (c.p.A+5) w) :
  d=0∧(AtR c i r v tk μ g w∨On c i r tk μ g w∨Rel c i r v tk μ g w):=by
 cases h with
 | @load n _ _ T _ _ h hT k=>
  refine⟨rfl,.inr (.inl ?_)⟩
  cases k with
  |refl=>
   obtain⟨⟨Tg,hv,hg⟩,h2⟩:=hT
   have hst:=load_step T (Dd c) [restB] w ⟨c.p.A+3,0,none⟩ (c.p.A+2) h2 hch
   refine⟨_,w,_,(12,5,nd0),r,v,hst,⟨Wo.refl h4,.slide h ⟨Tg.setIfInBounds 11 (.chan (some (c.p.A+2))),hv.set (.chan _) 11,?_⟩ (slide_first (cs:=[restB])).sm,fun e he=>?_,rfl⟩,Lt3.st (by decide) _ _,(fun _=>by simp only;omega),rfl,by simp [G]⟩
   ·have hz:=hg.size
    refine⟨⟨by simpa using hg.size,?_,?_,?_⟩,?_⟩
    ·rw [Array.getElem?_setIfInBounds_ne (by decide)];exact hg.t0
    ·rw [Array.getElem?_setIfInBounds_ne (by decide)];exact hg.t3
    ·rw [Array.getElem?_setIfInBounds_ne (by decide)];exact hg.t4
    ·rw [Array.getElem?_setIfInBounds_self_of_lt (by omega)]
   ·simp only [List.mem_toArray,List.mem_cons,List.not_mem_nil,or_false]at he
    subst he
    refine⟨fun x hx=>?_,?_,by simp⟩
    ·rw [ofEvent_cell0]at hx
     simp only [MemAct.touch?,Option.some.injEq]at hx
     subst hx
     exact .inr (.inr ⟨by simp,.inr (.inr (.inr rfl)),rfl⟩)
    ·rw [ofEvent_cell0]
     show c.p.A+3<_
     omega
  |step hs hst kk=>exact on_idle h4 (hst w) (.load h hT kk) (Lt3.fu (by omega) _ _) (fun _=>by simp only;omega) (kk.run rfl)
 | @slide n _ _ _ T _ _ h hT k=>
  refine⟨rfl,?_⟩
  cases k with
  |refl=>exact .inl ⟨T,rfl,h,hT,.inl rfl⟩
  |step hs hst kk=>exact .inr (.inl (on_idle h4 (hst w) (.slide h hT kk) (Lt3.fu (by omega) _ _) (fun _=>by simp only;omega) (kk.run rfl)))
 | @again _ _ _ T _ h hT=>exact⟨rfl,.inl ⟨T,rfl,h,hT,.inr rfl⟩⟩
 |park h hT=>cases hrun
 | @got n x _ _ acc T _ _ h hT hx hm k=>
  refine⟨rfl,.inr (.inl ?_)⟩
  cases k with
  |refl=>
   obtain⟨Tg,hv,hg⟩:=hT
   have hz:=hg.size
   have hv':VA FF r (gotT Tg (.int .i64 x) true) (gotT T (.int .i64 x) true):=by
    unfold gotT gotW
    exact(hv.set (.tuple' ((VA.empty.push (.int _ _)).push (.bool _))) 12).set (.bool _) 13
   have hg':GT c (gotT Tg (.int .i64 x) true):=by
    unfold gotT gotW
    refine⟨⟨by simpa using hg.size,?_,?_,?_⟩,?_⟩
    ·rw [Array.getElem?_setIfInBounds_ne (by decide),Array.getElem?_setIfInBounds_ne (by decide)];exact hg.t0
    ·rw [Array.getElem?_setIfInBounds_ne (by decide),Array.getElem?_setIfInBounds_ne (by decide)];exact hg.t3
    ·rw [Array.getElem?_setIfInBounds_ne (by decide),Array.getElem?_setIfInBounds_ne (by decide)];exact hg.t4
    ·rw [Array.getElem?_setIfInBounds_ne (by decide),Array.getElem?_setIfInBounds_ne (by decide)];exact hg.t11
   have h12:(gotT Tg (.int .i64 x) true)[12]?=some (.tuple #[.int .i64 x,.bool true]):=by
    unfold gotT gotW
    rw [Array.getElem?_setIfInBounds_ne (by decide),Array.getElem?_setIfInBounds_self_of_lt (by omega)]
   have ht:=hP acc x _ v hx hm hg' h12 h.gw (self_like h.wr hv')
   have hk:SkR P fb FF under kP (Dd c) .deferred [restB] r (Lk.mk nW .normal (gotT Tg (.int .i64 x) true) [] ([.code pieceW]++under) false) [catcher P] (wk (gotT T (.int .i64 x) true) (Dd c) (.code pieceW::kP)) [restB]:=
    Tl.bot.sk (.mk (pre:=[.code pieceW]) (ret:=false) hv' (by simp only [List.all_cons,List.all_nil,Bool.and_true];exact nice_piece))
   exact piece_on h4 hbig h.wr h.zn hk ht (fun n=>Lt3.st (by decide) _ _) fun y _=>Lt3.st (by decide) _ _
  |step hs hst kk=>exact on_idle h4 (hst w) (.got h hT hx hm kk) (Lt3.fu (by omega) _ _) (fun _=>by simp only;omega) (kk.run rfl)
 |piece hw z k t ac=>exact⟨rfl,.inr (.inl (piece_on h4 hbig hw z k t (fun n=>Lt3.st (by decide) _ _) fun y hy=>Lt3.nd hy.2))⟩
 | @out n _ _ _ T _ _ h k=>
  refine⟨rfl,.inr ?_⟩
  cases k with
  |refl=>exact r0_on h4 h (done_goes T w hl) (fun m _=>Lt3.st (by decide) _ _) (by simp only;omega)
  |step hs hst kk=>exact .inl (on_idle h4 (hst w) (.out h kk) (Lt3.fu (by omega) _ _) (fun h=>by simp only at h;omega) (kk.run rfl))
 |r0 h k=>exact⟨rfl,.inr (r0_on h4 h k (fun m hm=>Lt3.fu hm _ _) (by simp only;omega))⟩
end
end Go.Proofs.YtngdldcgkaplbaaGreat.Gt
namespace Go.Proofs.YtngdldcgkaplbaaGreat.Gt
open Go Go.Conc Go.Conc.Lib
open Go.ConcN (ShN RelBy upd upd_same upd_ne WgLive WD get_map_set get_map_set_same)
open Go.ConcR (KK WgAt stA smA rd wr DC0 Payload g_of_ofEvents)
open Lk Fw
structure Wd (c:Cf)(cl:Bool)(w:World):Prop where
 big:c.p.A+6≤w.heap.size
 old:∀B,B<c.p.A→w.heap[B]?=c.w0.heap[B]?
 nb:w.heap[c.p.A]?=some (.cells #[.int .i64 c.n] tI (0,0))
 ob:w.heap[c.p.A+1]?=some (.cells #[c.f'] tF (0,0))
 ch:∃s r,w.heap[c.p.A+2]?=some (.chan 0 #[] cl s r false)
 hb:w.heap[c.p.A+3]?=some (.cells #[.chan (some (c.p.A+2))] tC (0,0))
 sb:ShB4 c w
 rest:w.tape=c.w0.tape∧w.os=c.w0.os∧w.output=c.w0.output
def Zs (c:Cf)(J:Nat)(w:World):Prop:=∀i,J≤i→i<c.W→∀o,o<145→∀cs,w.heap[c.p.A+4]?=some (.cells cs tS (0,0))→cs[145*i+o]?=c.Z[o]?
structure Mo (c:Cf)(w w1:World):Prop where
 size:w1.heap.size=w.heap.size
 rest:w1.tape=w.tape∧w1.os=w.os∧w1.output=w.output
 same:∀B,B≠c.p.A+5→B≠c.p.A+2→w1.heap[B]?=w.heap[B]?
section
variable {c:Cf} {i J:Nat} {cl cl':Bool} {r r1:Map} {v v1 w w' w1:World} {tk acc:List Nat} {g g' a a':Goroutine} {s d:Nat} {μ:WM} {es:Array Event}
theorem Mo.refl (w:World):Mo c w w:=⟨rfl,⟨rfl,rfl,rfl⟩,fun _ _ _=>rfl⟩
theorem Mo.at (h:Mo c w w1)(d:Nat):Mo c w (w1.at d):=⟨h.size,h.rest,h.same⟩
theorem Wd.at (h:Wd c cl w)(d:Nat):Wd c cl (w.at d):=⟨h.big,h.old,h.nb,h.ob,h.ch,h.hb,h.sb,h.rest⟩
theorem Wd.cell3 (h:Wd c cl w):w.cell? ⟨c.p.A+3,0,none⟩=some (.chan (some (c.p.A+2))):=by simp [World.cell?,h.hb]
theorem Wd.cell0 (h:Wd c cl w):w.cell? ⟨c.p.A,0,none⟩=some (.int .i64 c.n):=by simp [World.cell?,h.nb]
theorem Wd.mo (h:Wd c cl w)(m:Mo c w w1)(hc:∃ s r,w1.heap[c.p.A+2]?=some (.chan 0 #[] cl' s r false)):Wd c cl' w1:=by
 refine⟨by rw [m.size];exact h.big,fun B hB=>(m.same B (by omega) (by omega)).trans (h.old B hB),(m.same _ (by omega) (by omega)).trans h.nb,(m.same _ (by omega) (by omega)).trans h.ob,hc,(m.same _ (by omega) (by omega)).trans h.hb,?_,?_⟩
 ·obtain⟨cs,h1,h2⟩:=h.sb
  exact⟨cs,(m.same _ (by omega) (by omega)).trans h1,h2⟩
 ·exact⟨m.rest.1.trans h.rest.1,m.rest.2.1.trans h.rest.2.1,m.rest.2.2.trans h.rest.2.2⟩
theorem Wd.wo (h:Wd c cl w)(o:Wo c i r r1 w w1):Wd c cl w1:=by
 have hb:=h.big
 have same:∀B,B<c.p.A+4→w1.heap[B]?=w.heap[B]?:=fun B hB=>o.same B (by omega) (by omega) (by omega) fun⟨h1,_⟩=>by omega
 refine⟨Nat.le_trans h.big o.size,fun B hB=>(same B (by omega)).trans (h.old B hB),(same _ (by omega)).trans h.nb,(same _ (by omega)).trans h.ob,?_,(same _ (by omega)).trans h.hb,?_,?_⟩
 ·obtain⟨s,r,hs⟩:=h.ch
  exact⟨s,r,(same _ (by omega)).trans hs⟩
 ·obtain⟨cs0,h1,h2⟩:=h.sb
  obtain⟨cs,e,fz,cs1,o1,o2,o3,o4⟩:=o.sh
  rw [h1]at o1
  injection o1 with o1
  injection o1 with e1 e2 e3
  subst e1 e2 e3
  exact⟨cs1,o2,o3.trans h2⟩
 ·exact⟨o.rest.1.trans h.rest.1,o.rest.2.1.trans h.rest.2.1,o.rest.2.2.trans h.rest.2.2⟩
theorem Wsit.wz (h:Wsit c i s μ d r v tk g w):WR P FF r v w∧Zn c i r v:=by
 cases h with
 |piece hw z _ _ _=>exact⟨hw,z⟩
 |load h _ _=>exact⟨h.wr,h.zn⟩
 |slide h _ _=>exact⟨h.wr,h.zn⟩
 |again h _=>exact⟨h.wr,h.zn⟩
 |park h _=>exact⟨h.wr,h.zn⟩
 |got h _ _ _ _=>exact⟨h.wr,h.zn⟩
 |out h _=>exact⟨h.wr,h.zn⟩
 |r0 h _=>exact⟨h.wr,h.zn⟩
 |k1 h _=>exact⟨h.wr,h.zn⟩
 |d1 h _=>exact⟨h.wr,h.zn⟩
 |d2 h _=>exact⟨h.wr,h.zn⟩
 |d3 h _=>exact⟨h.wr,h.zn⟩
 |d4 h _=>exact⟨h.wr,h.zn⟩
 |quit h _=>exact⟨h.wr,h.zn⟩
theorem has_lt (h:WR P FF r v w){B:Nat}(hB:Has r B):B<w.heap.size:=by
 obtain⟨b,s,hb⟩:=hB
 exact(h.lt hb).2
theorem Ru.mo (z:Zn c i r v)(h4:ShB4 c w)(m:Mo c w w1)(hl:WgLive lnk.tWg (c.p.A+5) w1):Ru c i r w w1:=by
 obtain⟨cs,h1,_⟩:=h4
 refine⟨Nat.le_of_eq m.size.symm,fun B hB n4=>m.same B ?_ ?_,⟨cs,_,_,cs,h1,(m.same _ (by omega) (by omega)).trans h1,rfl,fun _ _ _=>rfl⟩,fun _=>hl⟩
 ·rcases z.has B hB with ⟨h5,_⟩|h5|h5|h5|h5<;>omega
 ·rcases z.has B hB with ⟨h5,_⟩|h5|h5|h5|h5<;>omega
theorem Ru.wo {i':Nat}{r0:Map}(z:Zn c i r v)(hw:WR P FF r v w)(o:Wo c i' r0 r1 w w1)(hne:i≠i')(hsep:∀ B,c.p.A+6≤B→Has r B→¬ Has r0 B)(hl:WgLive lnk.tWg (c.p.A+5) w1):Ru c i r w w1:=by
 obtain⟨cs,e,fz,cs1,o1,o2,o3,o4⟩:=o.sh
 refine⟨o.size,fun B hB n4=>o.same B (has_lt hw hB) n4 ?_ fun⟨h1,h2⟩=>hsep B h1 hB h2,⟨cs,e,fz,cs1,o1,o2,o3,fun o l1 l2=>o4 o (by omega)⟩,fun _=>hl⟩
 rcases z.has B hB with ⟨h5,_⟩|h5|h5|h5|h5<;>omega
structure Com (c:Cf)(J:Nat)(cl:Bool)(gs:Array Goroutine)(w:World)(t:Trace)(D:Nat→WD)(m:Nat→WM)(rs:Nat→Map)(vs:Nat→World)(tk:Nat→List Nat)(q:Nat→Nat)(d0:Nat):Prop where
 size:gs.size=c.p.N0+J
 old:∀k g,0<k→k<c.p.N0→gs[k]?=some g→QuitsD P (q k) (Deaf t k) g
 wk:∀i,i<J→∃g,gs[c.p.N0+i]?=some g∧Wsit c i (D i).stage (m i) (D i).deaf (rs i) (vs i) (tk i) g w
 tc:Tc c.p J rs w t
 sep:Sep c.p J rs
 wd:Wd c cl w
 deaf0:Deaf t 0=d0
 deafW:∀i,i<J→Deaf t (c.p.N0+i)=(D i).deaf
 above:∀k,gs.size≤k→Deaf t k=0
 rel:∀i,i<J→(D i).stage≤6→∃x,RelBy (stA (c.p.A+5)) t (c.p.N0+i) x
 nopark:cl=true→∀i g,i<J→gs[c.p.N0+i]?=some g→g.status≠.blocked
 zs:Zs c J w
end
section
variable {c:Cf} {J:Nat} {cl cl':Bool} {gs gs':Array Goroutine} {w w':World} {t u:Trace} {D:Nat→WD} {m:Nat→WM} {rs:Nat→Map} {vs:Nat→World} {tk:Nat→List Nat} {q:Nat→Nat} {d0:Nat}
variable {g g' a a':Goroutine} {es:Array Event} {fn:FuncId} {pos:String}
theorem Zs.same (h:Zs c J w)(e:w'.heap[c.p.A+4]?=w.heap[c.p.A+4]?):Zs c J w':=fun i hi hi2 o ho cs hc=>h i hi hi2 o ho cs (e▸hc)
theorem Zs.wo (h:Zs c J w)(h4:ShB4 c w){i:Nat}(hi:i < J){r r1:Map}(o:Wo c i r r1 w w'):Zs c J w':=by
 intro i' hi' hi2 x hx cs hc
 obtain⟨cs0,e,fz,cs1,o1,o2,o3,o4⟩:=o.sh
 obtain⟨cs2,h1,_⟩:=h4
 rw [h1]at o1
 injection o1 with o1
 injection o1 with e1 e2 e3
 subst e1 e2 e3
 rw [o2]at hc
 injection hc with hc
 injection hc with hc _ _
 subst hc
 rw [o4 _ (by omega)]
 exact h i' hi' hi2 x hx _ h1
theorem wgLive_of {ty:TypeId}{Wg:Nat}(h:WgLive ty Wg w)(e:w'.heap[Wg]?=w.heap[Wg]?):WgLive ty Wg w':=by
 obtain⟨st,sm,hh⟩:=h
 exact⟨st,sm,e.trans hh⟩
theorem Com.at (h:Com c J cl gs w t D m rs vs tk q d0)(hl:WgLive lnk.tWg (c.p.A+5) w)(d:Nat):Com c J cl gs (w.at d) t D m rs vs tk q d0:=by
 refine⟨h.size,h.old,fun i hi=>?_,h.tc.heap (Nat.le_refl _),h.sep,h.wd.at d,h.deaf0,h.deafW,h.above,h.rel,h.nopark,h.zs⟩
 obtain⟨g,hg,hs⟩:=h.wk i hi
 exact⟨g,hg,hs.ru (Ru.mo hs.wz.2 h.wd.sb ((Mo.refl w).at d) hl)⟩
theorem Com.woken (h:Com c J cl gs w t D m rs vs tk q d0){i:Nat}(hi:i < J)(hg:gs[c.p.N0+i]?=some g){s d:Nat}{μ:WM}{r:Map}{v wx:World}{l:List Nat}(hs:Wsit c i s μ d r v l g wx)(hw':Wd c cl w')(a a':Goroutine):Go.Conc.woken P a a' w' g=g:=by
 refine hs.woken (fun hb=>?_) a a'
 cases cl with
 |false=>exact hw'.ch
 |true=>exact absurd hb (h.nopark rfl i g hi hg)
theorem Com.stepW (h:Com c J cl gs w t D m rs vs tk q d0){i:Nat}(hi:i < J){s' d':Nat}{μ':WM}{r':Map}{v':World}(hn:WNext c i (rs i) (tk i) w (D i).deaf g' w' es s' μ' d' r' v')(hl:WgLive lnk.tWg (c.p.A+5) w')
  (hrel:s'≤6→∃x,RelBy (stA (c.p.A+5)) (t++MemOp.ofEvents (c.p.N0+i) fn pos es) (c.p.N0+i) x) (hnp:cl=true→g'.status≠.blocked):
  Com c J cl ((gs.map (Go.Conc.woken P g g' w')).setIfInBounds (c.p.N0+i) g') w' (t++MemOp.ofEvents (c.p.N0+i) fn pos es) (ConcN.upd D i ⟨s',0,d'⟩) (ConcN.upd m i μ') (ConcN.upd rs i r') (ConcN.upd vs i v') tk q d0:=by
 have hN:=c.p.hN
 have hw':=h.wd.wo hn.wo
 have hsep:Sep c.p J (ConcN.upd rs i r'):=by
  intro i1 i2 B h1 h2 hB k1 k2
  have lt:∀x,x<J→Has (rs x) B→B<w.heap.size:=fun x hx hh=>by
   obtain⟨g,_,hs⟩:=h.wk x hx
   exact has_lt hs.wz.1 hh
  by_cases e1:i1=i<;>by_cases e2:i2=i
  ·rw [e1,e2]
  ·subst e1
   rw [upd_same]at k1
   rw [ConcN.upd_ne _ _ e2]at k2
   rcases hn.wo.new B k1 with k1|k1
   ·exact h.sep _ _ B h1 h2 hB k1 k2
   ·have:=lt _ h2 k2;omega
  ·subst e2
   rw [upd_same]at k2
   rw [ConcN.upd_ne _ _ e1]at k1
   rcases hn.wo.new B k2 with k2|k2
   ·exact h.sep _ _ B h1 h2 hB k1 k2
   ·have:=lt _ h1 k1;omega
  ·rw [ConcN.upd_ne _ _ e1]at k1
   rw [ConcN.upd_ne _ _ e2]at k2
   exact h.sep _ _ B h1 h2 hB k1 k2
 refine⟨by simp [h.size],fun k x hk hkN hx=>?_,fun i' hi'=>?_,h.tc.appW hi hn.wo.le hn.wo.new hn.wo.size hsep h.wd.big hn.ev,hsep,hw',by rw [Deaf_other t (by omega) _ g_of_ofEvents,h.deaf0],fun i' hi'=>?_,fun k hk=>?_,fun i' hi' hst=>?_,fun hc i' x hi' hx=>?_,h.zs.wo h.wd.sb hi hn.wo⟩
 ·rw [get_map_set _ _ _ _ (by omega)]at hx
  obtain⟨y,hy,rfl⟩:=Option.map_eq_some_iff.1 hx
  have hq:=h.old k y hk hkN hy
  rw [woken_quitsD hq,Deaf_other t (by omega) _ g_of_ofEvents]
  exact hq
 ·by_cases e:i'=i
  ·subst e
   refine⟨g',get_map_set_same _ _ _ (by rw [h.size];omega),?_⟩
   rw [upd_same,upd_same,upd_same,upd_same]
   exact hn.sit
  ·obtain⟨x,hx,hs⟩:=h.wk i' hi'
   refine⟨x,by rw [get_map_set _ _ _ _ (by omega),hx,Option.map_some,h.woken hi' hx hs hw'],?_⟩
   rw [ConcN.upd_ne _ _ e,ConcN.upd_ne _ _ e,ConcN.upd_ne _ _ e,ConcN.upd_ne _ _ e]
   exact hs.ru (Ru.wo hs.wz.2 hs.wz.1 hn.wo e (fun B hB k1 k2=>e (h.sep i' i B hi' hi hB k1 k2)) hl)
 ·by_cases e:i'=i
  ·subst e;rw [Deaf_own,h.deafW i' hi',upd_same];exact hn.df
  ·rw [Deaf_other t (by omega) _ g_of_ofEvents,h.deafW i' hi',ConcN.upd_ne _ _ e]
 ·have hk:gs.size≤k:=by simpa using hk
  have:=h.size
  rw [Deaf_other t (by omega) _ g_of_ofEvents]
  exact h.above k hk
 ·by_cases e:i'=i
  ·subst e;rw [upd_same]at hst;exact hrel hst
  ·rw [ConcN.upd_ne _ _ e]at hst
   obtain⟨x,hx⟩:=h.rel i' hi' hst
   exact⟨x,hx.appOther g_of_ofEvents (by omega)⟩
 ·by_cases e:i'=i
  ·subst e
   rw [get_map_set_same _ _ _ (by rw [h.size];omega)]at hx
   obtain rfl:=Option.some.inj hx
   exact hnp hc
  ·obtain⟨y,hy,hs⟩:=h.wk i' hi'
   rw [get_map_set _ _ _ _ (by omega),hy,Option.map_some,h.woken hi' hy hs hw']at hx
   obtain rfl:=Option.some.inj hx
   exact h.nopark hc i' y hi' hy
theorem Com.leaver (h:Com c J cl gs w t D m rs vs tk q d0){k n:Nat}(hk:0 < k)(hkN:k < c.p.N0)(hg:gs[k]?=some g)(hm:∀ e∈es,Event.mute e=true)(hq:QuitsD P n (deafBehind (Deaf t k) es) g') :
  Com c J cl ((gs.map (Go.Conc.woken P g g' w)).setIfInBounds k g') w (t++MemOp.ofEvents k fn pos es) D m rs vs tk (ConcN.upd q k n) d0:=by
 have hN:=c.p.hN
 have hmu:∀op∈MemOp.ofEvents k fn pos es,op.act.touch?=none∧op.act.low w.heap.size∧op.act≠.mark (.release (stA (c.p.A+5))):=fun op hop=>by
  obtain⟨e,he,rfl⟩:=Go.Conc.mem_ofEvents hop
  refine⟨touch_mute (hm e he),low_mute (hm e he) _,fun hx=>?_⟩
  have h1:=Go.ConcR.loc_of_ofEvent hx
  have h2:=hm e he
  obtain⟨loc,wr,sy⟩:=e
  have h1:loc=_:=h1
  subst h1
  cases h2
 refine⟨by simp [h.size],fun k' x hk' hkN' hx=>?_,fun i' hi'=>?_,h.tc.mutes _ hmu,h.sep,h.wd,by rw [Deaf_other t (by omega) _ g_of_ofEvents,h.deaf0],fun i' hi'=>by rw [Deaf_other t (by omega) _ g_of_ofEvents];exact h.deafW i' hi',fun k' hk'=>?_,fun i' hi' hst=>?_,fun hc i' x hi' hx=>?_,h.zs⟩
 ·by_cases e:k'=k
  ·subst e
   have hlt:k'<gs.size:=by rw [h.size];omega
   rw [get_map_set_same _ _ _ hlt]at hx
   obtain rfl:=Option.some.inj hx
   rw [upd_same,Deaf_own]
   exact hq
  ·rw [get_map_set _ _ _ _ (by omega)]at hx
   obtain⟨y,hy,rfl⟩:=Option.map_eq_some_iff.1 hx
   have hq':=h.old k' y hk' hkN' hy
   rw [woken_quitsD hq',Deaf_other t (by omega) _ g_of_ofEvents,ConcN.upd_ne _ _ e]
   exact hq'
 ·obtain⟨x,hx,hs⟩:=h.wk i' hi'
  exact⟨x,by rw [get_map_set _ _ _ _ (by omega),hx,Option.map_some,h.woken hi' hx hs h.wd],hs⟩
 ·have hk':gs.size≤k':=by simpa using hk'
  have:=h.size
  rw [Deaf_other t (by omega) _ g_of_ofEvents]
  exact h.above k' hk'
 ·obtain⟨x,hx⟩:=h.rel i' hi' hst
  exact⟨x,hx.appOther g_of_ofEvents (by omega)⟩
 ·obtain⟨y,hy,hs⟩:=h.wk i' hi'
  rw [get_map_set _ _ _ _ (by omega),hy,Option.map_some,h.woken hi' hy hs h.wd]at hx
  obtain rfl:=Option.some.inj hx
  exact h.nopark hc i' y hi' hy
theorem Com.step0 (h:Com c J cl gs w t D m rs vs tk q d0)(hm:Mo c w w')(hc:∃ s r,w'.heap[c.p.A+2]?=some (.chan 0 #[] cl s r false))(hl:WgLive lnk.tWg (c.p.A+5) w')(hes:∀ e∈es,EvM c.p w'.heap.size e) :
  Com c J cl ((gs.map (Go.Conc.woken P a a' w')).setIfInBounds 0 a') w' (t++MemOp.ofEvents 0 fn pos es) D m rs vs tk q (deafBehind d0 es):=by
 have hN:=c.p.hN
 have hw':=h.wd.mo hm hc
 refine⟨by simp [h.size],fun k x hk hkN hx=>?_,fun i' hi'=>?_,h.tc.app0 h.sep (Nat.le_of_eq hm.size.symm) hes,h.sep,hw',by rw [Deaf_own,h.deaf0],fun i' hi'=>by rw [Deaf_other t (by omega) _ g_of_ofEvents];exact h.deafW i' hi',fun k hk=>?_,fun i' hi' hst=>?_,fun hc i' x hi' hx=>?_,h.zs.same (hm.same _ (by omega) (by omega))⟩
 ·rw [get_map_set _ _ _ _ (by omega)]at hx
  obtain⟨y,hy,rfl⟩:=Option.map_eq_some_iff.1 hx
  have hq:=h.old k y hk hkN hy
  rw [woken_quitsD hq,Deaf_other t (by omega) _ g_of_ofEvents]
  exact hq
 ·obtain⟨x,hx,hs⟩:=h.wk i' hi'
  exact⟨x,by rw [get_map_set _ _ _ _ (by omega),hx,Option.map_some,h.woken hi' hx hs hw'],hs.ru (Ru.mo hs.wz.2 h.wd.sb hm hl)⟩
 ·have hk:gs.size≤k:=by simpa using hk
  have:=h.size
  rw [Deaf_other t (by omega) _ g_of_ofEvents]
  exact h.above k hk
 ·obtain⟨x,hx⟩:=h.rel i' hi' hst
  exact⟨x,hx.appOther g_of_ofEvents (by omega)⟩
 ·obtain⟨y,hy,hs⟩:=h.wk i' hi'
  rw [get_map_set _ _ _ _ (by omega),hy,Option.map_some,h.woken hi' hy hs hw']at hx
  obtain rfl:=Option.some.inj hx
  exact h.nopark hc i' y hi' hy
end
end Go.Proofs.YtngdldcgkaplbaaGreat.Gt
namespace Go.Proofs.YtngdldcgkaplbaaGreat.Gt
open Go Go.Conc Go.Conc.Lib
open Go.ConcN (ShN RelBy upd upd_same upd_ne WgLive WD get_map_set get_map_set_same Deaf_still)
open Go.ConcR (KK WgAt stA smA rd wr DC0 Payload g_of_ofEvents)
open Lk Fw
section
variable {c:Cf} {J:Nat} {cl cl':Bool} {gs gs':Array Goroutine} {w w':World} {t u:Trace} {D:Nat→WD} {m:Nat→WM} {rs:Nat→Map} {vs:Nat→World} {tk:Nat→List Nat} {q:Nat→Nat} {d0:Nat}
variable {g g' a a':Goroutine} {es:Array Event} {fn:FuncId} {pos:String}
structure Cm (c:Cf)(B:Nat)(op:MemOp):Prop where
 tch:op.act.touch?=none
 low:op.act.low B
 rel:op.act≠.mark (.release (stA (c.p.A+5)))
 dis:op.act≠.mark .disable
 ena:op.act≠.mark .enable
theorem Com.comm (h:Com c J cl gs w t D m rs vs tk q d0){j:Nat}(hj:j < J)(hsz:gs'.size=gs.size)(hm:Mo c w w')(hc:∃ s r,w'.heap[c.p.A+2]?=some (.chan 0 #[] cl s r false))(hl:WgLive lnk.tWg (c.p.A+5) w')
  (hu:∀op∈u,Cm c w.heap.size op) (hun:∀i,i<J→(D i).stage≤6→∀op∈u,op.g≠c.p.N0+i) (hold:∀k,0<k→k≠c.p.N0+j→gs'[k]?=gs[k]?) {μ':WM} {tk':List Nat} (hg':gs'[c.p.N0+j]?=some g')
  (hs:Wsit c j 7 μ' 0 (rs j) (vs j) tk' g' w) (hD:(D j).stage=7∧(D j).deaf=0) (hnp:cl=true→g'.status≠.blocked):Com c J cl gs' w' (t++u) D (ConcN.upd m j μ') rs vs (ConcN.upd tk j tk') q d0:=by
 have hN:=c.p.hN
 have hw':=h.wd.mo hm hc
 have still:∀k,Deaf (t++u) k=Deaf t k:=fun k=>Deaf_still t k u fun op hop=>⟨(hu op hop).dis,(hu op hop).ena⟩
 refine⟨hsz.trans h.size,fun k x hk hkN hx=>?_,fun i' hi'=>?_,(h.tc.mutes u fun op hop=>⟨(hu op hop).tch,(hu op hop).low,(hu op hop).rel⟩).heap (Nat.le_of_eq hm.size.symm),h.sep,hw',(still 0).trans h.deaf0,fun i' hi'=>(still _).trans (h.deafW i' hi'),fun k hk=>(still _).trans (h.above k (by omega)),fun i' hi' hst=>?_,fun hc' i' x hi' hx=>?_,h.zs.same (hm.same _ (by omega) (by omega))⟩
 ·rw [hold k hk (by omega)]at hx
  rw [still]
  exact h.old k x hk hkN hx
 ·by_cases e:i'=j
  ·subst e
   refine⟨g',hg',?_⟩
   rw [upd_same,upd_same,hD.1,hD.2]
   exact hs.ru (Ru.mo hs.wz.2 h.wd.sb hm hl)
  ·obtain⟨x,hx,hsx⟩:=h.wk i' hi'
   refine⟨x,by rw [hold _ (by omega) (by omega)];exact hx,?_⟩
   rw [ConcN.upd_ne _ _ e,ConcN.upd_ne _ _ e]
   exact hsx.ru (Ru.mo hsx.wz.2 h.wd.sb hm hl)
 ·obtain⟨x,hx⟩:=h.rel i' hi' hst
  exact⟨x,hx.appNot (hun i' hi' hst)⟩
 ·by_cases e:i'=j
  ·subst e
   rw [hg']at hx
   obtain rfl:=Option.some.inj hx
   exact hnp hc'
  ·rw [hold _ (by omega) (by omega)]at hx
   exact h.nopark hc' i' x hi' hx
theorem Com.comm0 (h:Com c J cl gs w t D m rs vs tk q d0)(hsz:gs'.size=gs.size)(hold:∀ k,0 < k→gs'[k]?=gs[k]?):Com c J cl gs' w t D m rs vs tk q d0:=by
 have hN:=c.p.hN
 refine⟨hsz.trans h.size,fun k x hk hkN hx=>h.old k x hk hkN (by rw [←hold k hk];exact hx),fun i' hi'=>?_,h.tc,h.sep,h.wd,h.deaf0,h.deafW,fun k hk=>h.above k (by omega),h.rel,fun hc' i' x hi' hx=>h.nopark hc' i' x hi' (by rw [←hold _ (by omega)];exact hx),h.zs⟩
 obtain⟨x,hx,hsx⟩:=h.wk i' hi'
 exact⟨x,by rw [hold _ (by omega)];exact hx,hsx⟩
theorem Com.fork (h:Com c J false gs w t D m rs vs tk q 0){child:Goroutine}{x y:MemOp}(hx:x.g=0∧x.act=.go (c.p.N0+J))(hy:y.g=c.p.N0+J∧y.act=.start){r0:Map}{v0:World}{μ0:WM}
  (hs:Wsit c J 7 μ0 0 r0 v0 [] child w) (hr:∀B,Has r0 B→B<c.p.A+6):
  Com c (J+1) false ((gs.setIfInBounds 0 a').push child) w (t++#[x,y]) (ConcN.upd D J ⟨7,0,0⟩) (ConcN.upd m J μ0) (ConcN.upd rs J r0) (ConcN.upd vs J v0) (ConcN.upd tk J []) q 0:=by
 have hN:=c.p.hN
 have hm:∀op∈#[x,y],op=x∨op=y:=by intro op hop;simpa using hop
 have hst:∀op∈#[x,y],op.act≠.mark .disable∧op.act≠.mark .enable:=by
  intro op hop
  rcases hm op hop with rfl|rfl
  ·rw [hx.2];exact⟨by simp,by simp⟩
  ·rw [hy.2];exact⟨by simp,by simp⟩
 have still:∀k,Deaf (t++#[x,y]) k=Deaf t k:=fun k=>Deaf_still t k _ hst
 have hsep:Sep c.p (J+1) (ConcN.upd rs J r0):=by
  intro i1 i2 B h1 h2 hB k1 k2
  by_cases e1:i1=J
  ·subst e1
   rw [upd_same]at k1
   have:=hr B k1;omega
  ·by_cases e2:i2=J
   ·subst e2
    rw [upd_same]at k2
    have:=hr B k2;omega
   ·rw [ConcN.upd_ne _ _ e1]at k1
    rw [ConcN.upd_ne _ _ e2]at k2
    exact h.sep i1 i2 B (by omega) (by omega) hB k1 k2
 have htc:Tc c.p J (ConcN.upd rs J r0) w t:=by
  refine⟨h.tc.tl.grow (fun k l ⟨i,hi,e,ho⟩=>⟨i,hi,e,by rw [ConcN.upd_ne _ _ (by omega)];exact ho⟩) (fun k l ⟨i,hi,e,ho⟩=>.inl ⟨i,hi,e,by rw [ConcN.upd_ne _ _ (by omega)]at ho;exact ho⟩) (fun _ _ x=>x) (fun _ _ x=>.inl x),h.tc.low,h.tc.part,h.tc.norel⟩
 have hsz:=h.size
 refine⟨by simp [h.size];omega,fun k z hk hkN hz=>?_,fun i' hi'=>?_,htc.fork hsep (by rw [upd_same];exact hr) hx hy h.deaf0 (h.above _ (by omega)),hsep,h.wd,(still 0).trans h.deaf0,fun i' hi'=>?_,fun k hk=>(still _).trans (h.above k (by simp at hk;omega)),fun i' hi' hst'=>?_,fun hc'=>(by cases hc'),fun i' hi'=>h.zs i' (by omega)⟩
 ·rw [Array.getElem?_push_lt (by simp;omega),←Array.getElem?_eq_getElem,Array.getElem?_setIfInBounds_ne (by omega)]at hz
  rw [still]
  exact h.old k z hk hkN hz
 ·by_cases e:i'=J
  ·subst e
   refine⟨child,?_,?_⟩
   ·rw [show c.p.N0+i'=(gs.setIfInBounds 0 a').size by simp [h.size],Array.getElem?_push_size]
   ·rw [upd_same,upd_same,upd_same,upd_same,upd_same];exact hs
  ·obtain⟨z,hz,hsz'⟩:=h.wk i' (by omega)
   refine⟨z,?_,?_⟩
   ·rw [Array.getElem?_push_lt (by simp;omega),←Array.getElem?_eq_getElem,Array.getElem?_setIfInBounds_ne (by omega)]
    exact hz
   ·rw [ConcN.upd_ne _ _ e,ConcN.upd_ne _ _ e,ConcN.upd_ne _ _ e,ConcN.upd_ne _ _ e,ConcN.upd_ne _ _ e];exact hsz'
 ·rw [still]
  by_cases e:i'=J
  ·subst e;rw [upd_same];exact h.above _ (by omega)
  ·rw [ConcN.upd_ne _ _ e];exact h.deafW i' (by omega)
 ·by_cases e:i'=J
  ·subst e;rw [upd_same]at hst';simp at hst'
  ·rw [ConcN.upd_ne _ _ e]at hst'
   obtain⟨z,hz⟩:=h.rel i' (by omega) hst'
   refine⟨z,hz.appNot fun op hop=>?_⟩
   rcases hm op hop with rfl|rfl
   ·rw [hx.1];omega
   ·rw [hy.1];omega
theorem Wsit.unpark {i s d:Nat}{μ:WM}{r:Map}{v:World}{l:List Nat}(h:Wsit c i s μ d r v l g w)(hb:g.status=.blocked):s=7∧d=0∧μ=(11,0,nd0)∧∃T,Tw c r T∧Rest c i r v l w∧g=parked (atRecv c T) (rcs c) (.recv true):=by
 cases h with
 |park h hT=>exact⟨rfl,rfl,rfl,_,hT,h,rfl⟩
 |load _ _ k=>rw [k.run rfl]at hb;cases hb
 |slide _ _ k=>rw [k.run rfl]at hb;cases hb
 |again _ _=>cases hb
 |got _ _ _ _ k=>rw [k.run rfl]at hb;cases hb
 |piece _ _ _ _ _=>cases hb
 |out _ k=>rw [k.run rfl]at hb;cases hb
 |r0 _ k=>rw [Goes.running (fun _ _ x=>x.1) w (rl_refl w) k]at hb;cases hb
 |k1 _ k=>rw [Goes.running (fun _ _ x=>x.1) w (rl_refl w) k]at hb;cases hb
 |d1 _ k=>rw [Goes.running (fun _ _ x=>x.1) w (rl_refl w) k]at hb;cases hb
 |d2 _ k=>rw [Goes.running (fun _ _ x=>x.1) w (rl_refl w) k]at hb;cases hb
 |d3 _ k=>rw [Goes.running (fun _ _ x=>x.1) w (rl_refl w) k]at hb;cases hb
 |d4 _ k=>rw [Goes.running (fun _ _ x=>x.1) w (rl_refl w) k]at hb;cases hb
 |quit _ k=>rcases k.status with h1|h1<;>rw [h1]at hb<;>cases hb
theorem Com.close (h:Com c J false gs w t D m rs vs tk q d0)(hm:Mo c w w')(hc:∃ s r,w'.heap[c.p.A+2]?=some (.chan 0 #[] true s r false))(hl:WgLive lnk.tWg (c.p.A+5) w')(hes:∀ e∈es,EvM c.p w'.heap.size e)
  (hmw:mayWake P a=true) (hr:a'.status=.running):∃m',Com c J true ((gs.map (Go.Conc.woken P a a' w')).setIfInBounds 0 a') w' (t++MemOp.ofEvents 0 fn pos es) D m' rs vs tk q (deafBehind d0 es):=by
 have hN:=c.p.hN
 have hw':=h.wd.mo hm hc
 have hwk:∀x,Go.Conc.woken P a a' w' x=x.again w':=fun x=>by
  unfold Go.Conc.woken
  rw [if_pos (by rw [hmw,hr];rfl)]
 have key:∀i,∃μ,i<J→∃x,gs[c.p.N0+i]?=some x∧(x.again w').status≠.blocked∧Wsit c i (D i).stage μ (D i).deaf (rs i) (vs i) (tk i) (x.again w') w':=by
  intro i
  by_cases hi:i<J
  ·obtain⟨x,hx,hs⟩:=h.wk i hi
   rcases hs.status with h1|h1|⟨T,hT,hp⟩
   ·refine⟨m i,fun _=>⟨x,hx,?_⟩⟩
    rw [again_running _ (.inl h1),h1]
    exact⟨by simp,hs.ru (Ru.mo hs.wz.2 h.wd.sb hm hl)⟩
   ·refine⟨m i,fun _=>⟨x,hx,?_⟩⟩
    rw [again_running _ (.inr h1),h1]
    exact⟨by simp,hs.ru (Ru.mo hs.wz.2 h.wd.sb hm hl)⟩
   ·obtain⟨e1,e2,_,T,hT,hR,rfl⟩:=hs.unpark (by rw [hp];rfl)
    refine⟨(12,0,nd0),fun _=>⟨_,hx,?_⟩⟩
    obtain⟨s,r,hsr⟩:=hc
    have e:(parked (atRecv c T) (rcs c) (.recv true)).again w'={ atRecv c T with offers:=some (rcs c,.recv true) }:=by
     simp [Goroutine.again,parked,rcs,rcase,hsr]
     rfl
    rw [e,e1,e2]
    exact⟨by simp [atRecv,G],.again (hR.ru (Ru.mo hs.wz.2 h.wd.sb hm hl)) hT⟩
  ·exact⟨m i,fun h=>absurd h hi⟩
 refine⟨fun i=>(key i).choose,⟨by simp [h.size],fun k x hk hkN hx=>?_,fun i' hi'=>?_,h.tc.app0 h.sep (Nat.le_of_eq hm.size.symm) hes,h.sep,hw',by rw [Deaf_own,h.deaf0],fun i' hi'=>by rw [Deaf_other t (by omega) _ g_of_ofEvents];exact h.deafW i' hi',fun k hk=>?_,fun i' hi' hst=>?_,fun _ i' x hi' hx=>?_,h.zs.same (hm.same _ (by omega) (by omega))⟩⟩
 ·rw [get_map_set _ _ _ _ (by omega)]at hx
  obtain⟨y,hy,rfl⟩:=Option.map_eq_some_iff.1 hx
  have hq:=h.old k y hk hkN hy
  rw [woken_quitsD hq,Deaf_other t (by omega) _ g_of_ofEvents]
  exact hq
 ·obtain⟨x,hx,_,hs⟩:=(key i').choose_spec hi'
  exact⟨x.again w',by rw [get_map_set _ _ _ _ (by omega),hx,Option.map_some,hwk],hs⟩
 ·have hk:gs.size≤k:=by simpa using hk
  have:=h.size
  rw [Deaf_other t (by omega) _ g_of_ofEvents]
  exact h.above k hk
 ·obtain⟨x,hx⟩:=h.rel i' hi' hst
  exact⟨x,hx.appOther g_of_ofEvents (by omega)⟩
 ·obtain⟨y,hy,hnb,hs⟩:=(key i').choose_spec hi'
  rw [get_map_set _ _ _ _ (by omega),hy,Option.map_some,hwk]at hx
  obtain rfl:=Option.some.inj hx
  exact hnb
end
end Go.Proofs.YtngdldcgkaplbaaGreat.Gt