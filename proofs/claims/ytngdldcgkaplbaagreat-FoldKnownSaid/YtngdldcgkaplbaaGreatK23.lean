import Derived.Test.YtngdldcgkaplbaaGreatK22
set_option linter.unusedVariables false
set_option linter.unusedSimpArgs false
set_option maxHeartbeats 40000000
set_option maxRecDepth 100000
namespace Go.Proofs.YtngdldcgkaplbaaGreat.Fd
open Go Go.RowKit Go.Conc Nm Rn
open Gt hiding Sm
theorem dot1_eq (i n c n2 c2 lb1 lb2 a b ra rb a2 b2 ra2 rb2 lx ly hx hy:Nat)(lb' hb E:Bool)(ad ad2:Addr)(w:World)(hg:gz≤w.heap.size)(hi:i < n)(hn:n≤9223372036854775807)(hi2:i < n2)(hn2:n2≤9223372036854775807)(hlb1:lb1 < w.heap.size)(hlb2:lb2 < w.heap.size)(had:ad.block < w.heap.size)(had2:ad2.block < w.heap.size)
  (hsl:w.cell? ⟨lb1,0,none⟩=some (.slice (some ad) n c)) (hsl2:w.cell? ⟨lb2,0,none⟩=some (.slice (some ad2) n2 c2)) (k1:w.cell? (ad.add (i*2))=some (.float .f64 a)) (k2:w.cell? (ad.add (i*2+1))=some (.float .f64 b)) (m1:w.cell? (ad2.add (i*2))=some (.float .f64 a2)) (m2:w.cell? (ad2.add (i*2+1))=some (.float .f64 b2))
  (HR:Hid (∀w,Calls Tryz.prog 95 #[.agg #[.float .f64 a,.float .f64 b]] w (RetF ra rb w))) (HR2:Hid (∀w,Calls Tryz.prog 95 #[.agg #[.float .f64 a2,.float .f64 b2]] w (RetF ra2 rb2 w))) (HOF:Hid (∀w:World,gz≤w.heap.size→Calls Tryz.prog 94 #[.agg #[.float .f64 ra,.float .f64 rb],.agg #[.float .f64 ra2,.float .f64 rb2]] w (RetT ⟨lx,ly,lb'⟩ ⟨hx,hy,hb⟩ E w))):
  Calls Tryz.prog 93 #[.int .i64 (i:Int),.pointer (some ⟨lb1,0,none⟩),.pointer (some ⟨lb2,0,none⟩)] w (RetT ⟨lx,ly,lb'⟩ ⟨hx,hy,hb⟩ E w):=by
 have hO:=Own.start w
 have hf:True:=trivial
 obtain⟨p,hp⟩:∃p,ad.add (i*2)=p:=⟨_,rfl⟩
 obtain⟨p2,hp2⟩:∃p,ad2.add (i*2)=p:=⟨_,rfl⟩
 have HG:=Lib.hid hg
 have HCELL:Hid (∀wz,Ext w wz→wz.cell? ⟨lb1,0,none⟩=some (.slice (some ad) n c)∧wz.cell? ⟨lb2,0,none⟩=some (.slice (some ad2) n2 c2)∧wz.cell? p=some (.float .f64 a)∧wz.cell? ⟨p.block,p.off+1,none⟩=some (.float .f64 b)∧wz.cell? p2=some (.float .f64 a2)∧wz.cell? ⟨p2.block,p2.off+1,none⟩=some (.float .f64 b2)):=Lib.hid (fun wz hz=>by
  refine⟨(hz.cell hlb1).trans hsl,(hz.cell hlb2).trans hsl2,?_,?_,?_,?_⟩
  ·rw [←hp,hz.cell (by rw [block_of_add];exact had)];exact k1
  ·have:(⟨p.block,p.off+1,none⟩:Addr)=ad.add (i*2+1):=by rw [←hp,←addr2];rfl
   rw [this,hz.cell (by rw [block_of_add];exact had)];exact k2
  ·rw [←hp2,hz.cell (by rw [block_of_add];exact had2)];exact m1
  ·have:(⟨p2.block,p2.off+1,none⟩:Addr)=ad2.add (i*2+1):=by rw [←hp2,←addr2];rfl
   rw [this,hz.cell (by rw [block_of_add];exact had2)];exact m2
  )
 have bi0:(0:Int)≤(i:Int):=by omega
 have bi1:(i:Int)<(n:Int):=by omega
 have bi2:(i:Int)<(n2:Int):=by omega
 clear hsl hsl2 k1 k2 m1 m2 hlb1 hlb2 had had2 hi hi2 hg
 go_enter Tryz.func93,Tryz.ntmps93
 go_upto_region 1 with (first|((with_reducible refine at_alloc ?_);refine own_alloc (L:=[]) hO zero_tm rfl rfl ?_;clear hO;intro g4 wa hO;clear hf;have hf:=hO.cells;simp only [BC,CC,and_true]at hf)|((with_reducible refine at_alloc ?_);refine own_alloc (L:=[_]) hO zero_tm rfl rfl ?_;clear hO;intro g5 wb hO;clear hf;have hf:=hO.cells;simp only [BC,CC,and_true]at hf))
 refine wp_loose_own 14 [det (.slice (some ad) n c),det (.int .i64 (i:Int)),det (.pointer (some p)),det (.agg #[.float .f64 a,.float .f64 b]),det (.agg #[.float .f64 ra,.float .f64 rb]),det (.slice (some ad2) n2 c2),det (.int .i64 (i:Int)),det (.pointer (some p2)),det (.agg #[.float .f64 a2,.float .f64 b2]),det (.agg #[.float .f64 ra2,.float .f64 rb2]),det (.tuple #[.agg #[.float .f64 lx,.float .f64 ly,.bool lb'],.agg #[.float .f64 hx,.float .f64 hy,.bool hb],.bool E]),det (.agg #[.float .f64 lx,.float .f64 ly,.bool lb']),det (.agg #[.float .f64 hx,.float .f64 hy,.bool hb]),det (.bool E)] hO (by kernel_rfl) (by kernel_rfl) fun S sp HS HSP=>?_
 clear hO hf
 simp only [List.take_succ_cons,List.take_zero,List.drop_succ_cons,List.drop_zero]
 refine wpX_step (fun K hK=>?_)
 go_simp
 refine StepY.det (by rw [HSP.out];rfl) ?_ ?_
 ·intro wz hz hF
  rw [HS.out]at hz
  obtain⟨c1,c2,c3,c4,c5,c6⟩:=HCELL.out _ hz.toExt
  clear hz hF
  go_simp
  exact⟨rfl,Ext.refl _⟩
 iterate 2
  refine hK _ _ ?_
  clear hK K
  refine wpX_step (fun K hK=>?_)
  go_simp
  refine StepY.det (by rw [HSP.out];rfl) ?_ ?_
  ·intro wz hz hF
   clear hz hF
   go_simp
   exact⟨rfl,Ext.refl _⟩
 refine hK _ _ ?_
 clear hK K
 refine wpX_step (fun K hK=>?_)
 go_simp
 refine StepY.det (by rw [HSP.out];rfl) ?_ ?_
 ·intro wz hz hF
  rw [HS.out]at hz
  obtain⟨c1,c2,c3,c4,c5,c6⟩:=HCELL.out _ hz.toExt
  clear hz hF
  go_simp
  exact⟨rfl,Ext.refl _⟩
 refine hK _ _ ?_
 clear hK K
 refine wpX_step (fun K hK=>?_)
 go_simp
 refine StepY.det (by rw [HSP.out];rfl) ?_ ?_
 ·intro wz hz hF
  clear hz hF
  go_simp
  refine(HR.out _).mono ?_
  rintro e w2 ⟨rfl,hE1⟩
  exact⟨_,rfl,rfl,hE1⟩
 refine hK _ _ ?_
 clear hK K
 refine wpX_step (fun K hK=>?_)
 go_simp
 refine StepY.det (by rw [HSP.out];rfl) ?_ ?_
 ·intro wz hz hF
  rw [HS.out]at hz
  obtain⟨d1,d2,d3,d4,d5,d6⟩:=HCELL.out _ hz.toExt
  clear hz hF
  go_simp
  exact⟨rfl,Ext.refl _⟩
 iterate 2
  refine hK _ _ ?_
  clear hK K
  refine wpX_step (fun K hK=>?_)
  go_simp
  refine StepY.det (by rw [HSP.out];rfl) ?_ ?_
  ·intro wz hz hF
   clear hz hF
   go_simp
   exact⟨rfl,Ext.refl _⟩
 refine hK _ _ ?_
 clear hK K
 refine wpX_step (fun K hK=>?_)
 go_simp
 refine StepY.det (by rw [HSP.out];rfl) ?_ ?_
 ·intro wz hz hF
  rw [HS.out]at hz
  obtain⟨c1,c2,c3,c4,c5,c6⟩:=HCELL.out _ hz.toExt
  clear hz hF
  go_simp
  exact⟨rfl,Ext.refl _⟩
 refine hK _ _ ?_
 clear hK K
 refine wpX_step (fun K hK=>?_)
 go_simp
 refine StepY.det (by rw [HSP.out];rfl) ?_ ?_
 ·intro wz hz hF
  clear hz hF
  go_simp
  refine(HR2.out _).mono ?_
  rintro e w2 ⟨rfl,hE1⟩
  exact⟨_,rfl,rfl,hE1⟩
 refine hK _ _ ?_
 clear hK K
 refine wpX_step (fun K hK=>?_)
 go_simp
 refine StepY.det (by rw [HSP.out];rfl) ?_ ?_
 ·intro wz hz hF
  rw [HS.out]at hz
  have hgz:=Nat.le_trans HG.out hz.toExt.size
  clear hz hF
  go_simp
  refine(HOF.out _ hgz).mono ?_
  rintro e w2 ⟨rfl,hE1⟩
  exact⟨_,rfl,rfl,hE1⟩
 iterate 3
  refine hK _ _ ?_
  clear hK K
  refine wpX_step (fun K hK=>?_)
  go_simp
  refine StepY.det (by rw [HSP.out];rfl) ?_ ?_
  ·intro wz hz hF
   clear hz hF
   go_simp
   exact⟨rfl,Ext.refl _⟩
 refine hK _ _ ?_
 clear hK K
 refine wpX_nil ?_
 intro wq hO hF
 clear hF HS HSP
 have hf:=hO.cells
 simp only [BC,CC,and_true]at hf
 go_wp2_with (first|((with_reducible refine at_store (T:=124) ?_);refine own_put1 (vs:=[.float .f64 lx,.float .f64 ly,.bool lb']) (T:=124) hO rfl rfl size_tm rfl rfl rfl ?_;clear hO;intro w6 hO;clear hf;have hf:=hO.cells;simp only [BC,CC,and_true]at hf)|((with_reducible refine at_store (T:=124) ?_);refine own_put0 (vs:=[.float .f64 hx,.float .f64 hy,.bool hb]) (T:=124) hO rfl rfl size_tm rfl rfl rfl ?_;clear hO;intro w7 hO;clear hf;have hf:=hO.cells;simp only [BC,CC,and_true]at hf))
 exact Wi.own_ret3 hO 1 0 rfl rfl rfl rfl rfl rfl agg_tm size_tm agg_tm size_tm rfl ⟨rfl,hO.toExt⟩
def tdE (q:Nat×Nat):Td:=⟨(endT (rdLo q.1 q.2) (rdHi q.1 q.2)).1,(endT (rdLo q.1 q.2) (rdHi q.1 q.2)).2.1,(endT (rdLo q.1 q.2) (rdHi q.1 q.2)).2.2⟩
def tdA (q:Nat×Nat):Td:=⟨(absT (rdLo q.1 q.2) (rdHi q.1 q.2)).1,(absT (rdLo q.1 q.2) (rdHi q.1 q.2)).2.1,(absT (rdLo q.1 q.2) (rdHi q.1 q.2)).2.2⟩
def tdS (q:Nat×Nat):Td:=⟨(sqrT (rdLo q.1 q.2) (rdHi q.1 q.2)).1,(sqrT (rdLo q.1 q.2) (rdHi q.1 q.2)).2.1,(sqrT (rdLo q.1 q.2) (rdHi q.1 q.2)).2.2⟩
def tdP (q r:Nat×Nat):Td:=⟨(prodsT (rdLo q.1 q.2) (rdHi q.1 q.2) (rdLo r.1 r.2) (rdHi r.1 r.2)).1,(prodsT (rdLo q.1 q.2) (rdHi q.1 q.2) (rdLo r.1 r.2) (rdHi r.1 r.2)).2.1,(prodsT (rdLo q.1 q.2) (rdHi q.1 q.2) (rdLo r.1 r.2) (rdHi r.1 r.2)).2.2⟩
def tdOf (k:Nat)(q:Nat×Nat):Td:=if k=1 then tdA q else if k=2 then tdS q else tdE q
def nmOf (k:Nat):Nat:=if k=1 then 88 else if k=2 then 90 else 86
def Same (w0 w:World):Prop:=w0.heap.size≤w.heap.size∧∀p:Addr,p.block<w0.heap.size→w.cell? p=w0.cell? p
def OneOk (f:FuncId)(us:List Value)(n:Nat)(ds:Nat→Td)(w0:World):Prop:=∀(i:Nat) (w:World),i<n→Same w0 w→Calls Tryz.prog f (.int .i64 (i:Int)::us).toArray w (RetT (ds i).lo (ds i).hi (ds i).e w)
theorem rd_lt {a b:Nat}(ha:a < 18446744073709551616)(hb:b < 18446744073709551616):rdLo a b<18446744073709551616∧rdHi a b<18446744073709551616:=by
 unfold rdLo rdHi
 split
 ·exact⟨pl_lt ha,pl_lt hb⟩
 ·exact⟨by decide,by decide⟩
theorem over1_ok (k:Nat)(hk:k=0∨k=1∨k=2){A:Option Addr}{n c ob lb:Nat}{xs:List (Nat×Nat)}{w0:World}(h:Ivs w0 A n c xs)(hob:ob < w0.heap.size)(hlb:lb < w0.heap.size)
  (hof:w0.cell? ⟨ob,0,none⟩=some (.func (.func (nmOf k)) #[] #[])) (hsl:w0.cell? ⟨lb,0,none⟩=some (.slice A n c)):OneOk 140 [.pointer (some ⟨ob,0,none⟩),.pointer (some ⟨lb,0,none⟩)] n (fun i=>tdOf k (xs.getD i (0,0))) w0:=by
 intro i w hi he
 have h':=h.keep he.1 he.2
 obtain⟨ad,a,b,rfl,hq,la,lb2,k1,k2⟩:=h'.at_ hi
 obtain⟨ad',e',hb',_⟩:=h'.2.2.2.2 (by omega)
 injection e' with e'
 subst e'
 have eq:xs.getD i (0,0)=(a,b):=by rw [List.getD_eq_getElem?_getD,hq];rfl
 obtain⟨r1,r2⟩:=rd_lt la lb2
 have hof':=(he.2 _ hob).trans hof
 have hsl':=(he.2 _ hlb).trans hsl
 have hob':=Nat.lt_of_lt_of_le hob he.1
 have hlb':=Nat.lt_of_lt_of_le hlb he.1
 have HR:=Lib.hid (fun w=>iread_any a b w la lb2)
 dsimp only
 rw [eq]
 rcases hk with rfl|rfl|rfl
 ·have e:endT (rdLo a b) (rdHi a b)=(⟨(tdE (a,b)).lo.x,(tdE (a,b)).lo.y,(tdE (a,b)).lo.b⟩,⟨(tdE (a,b)).hi.x,(tdE (a,b)).hi.y,(tdE (a,b)).hi.b⟩,(tdE (a,b)).e):=rfl
  exact over1_e i n c ob lb a b _ _ _ _ _ _ _ _ _ ad w hi h.small hob' hlb' hb' hof' hsl' k1 k2 HR (Lib.hid fun w=>by have:=ends_all (rdLo a b) (rdHi a b) w r1 r2;rw [e]at this;exact this)
 ·have e:absT (rdLo a b) (rdHi a b)=(⟨(tdA (a,b)).lo.x,(tdA (a,b)).lo.y,(tdA (a,b)).lo.b⟩,⟨(tdA (a,b)).hi.x,(tdA (a,b)).hi.y,(tdA (a,b)).hi.b⟩,(tdA (a,b)).e):=rfl
  exact over1_a i n c ob lb a b _ _ _ _ _ _ _ _ _ ad w hi h.small hob' hlb' hb' hof' hsl' k1 k2 HR (Lib.hid fun w=>by have:=abs1_all (rdLo a b) (rdHi a b) w r1 r2;rw [e]at this;exact this)
 ·have e:sqrT (rdLo a b) (rdHi a b)=(⟨(tdS (a,b)).lo.x,(tdS (a,b)).lo.y,(tdS (a,b)).lo.b⟩,⟨(tdS (a,b)).hi.x,(tdS (a,b)).hi.y,(tdS (a,b)).hi.b⟩,(tdS (a,b)).e):=rfl
  exact over1_s i n c ob lb a b _ _ _ _ _ _ _ _ _ ad w hi h.small hob' hlb' hb' hof' hsl' k1 k2 HR (Lib.hid fun w=>by have:=squares_all (rdLo a b) (rdHi a b) w r1 r2;rw [e]at this;exact this)
theorem dot1_ok {A A2:Option Addr}{n c n2 c2 lb1 lb2:Nat}{xs ys:List (Nat×Nat)}{w0:World}(hg:gz≤w0.heap.size)(h:Ivs w0 A n c xs)(g:Ivs w0 A2 n2 c2 ys)(hn:n≤n2)(hlb1:lb1 < w0.heap.size)(hlb2:lb2 < w0.heap.size)
  (hsl:w0.cell? ⟨lb1,0,none⟩=some (.slice A n c)) (hsl2:w0.cell? ⟨lb2,0,none⟩=some (.slice A2 n2 c2)):OneOk 93 [.pointer (some ⟨lb1,0,none⟩),.pointer (some ⟨lb2,0,none⟩)] n (fun i=>tdP (xs.getD i (0,0)) (ys.getD i (0,0))) w0:=by
 intro i w hi he
 have h':=h.keep he.1 he.2
 have g':=g.keep he.1 he.2
 obtain⟨ad,a,b,rfl,hq,la,lb,k1,k2⟩:=h'.at_ hi
 obtain⟨ad2,a2,b2,rfl,hq2,la2,lbb,m1,m2⟩:=g'.at_ (k:=i) (by omega)
 obtain⟨ad',e',hb',_⟩:=h'.2.2.2.2 (by omega)
 injection e' with e'
 subst e'
 obtain⟨ad',e',hb2',_⟩:=g'.2.2.2.2 (by omega)
 injection e' with e'
 subst e'
 have eq:xs.getD i (0,0)=(a,b):=by rw [List.getD_eq_getElem?_getD,hq];rfl
 have eq2:ys.getD i (0,0)=(a2,b2):=by rw [List.getD_eq_getElem?_getD,hq2];rfl
 obtain⟨r1,r2⟩:=rd_lt la lb
 obtain⟨r3,r4⟩:=rd_lt la2 lbb
 obtain⟨n1,n2'⟩:=rd_nan la lb
 obtain⟨n3,n4⟩:=rd_nan la2 lbb
 have HR:=Lib.hid (fun w=>iread_any a b w la lb)
 have HR2:=Lib.hid (fun w=>iread_any a2 b2 w la2 lbb)
 dsimp only
 rw [eq,eq2]
 have e:prodsT (rdLo a b) (rdHi a b) (rdLo a2 b2) (rdHi a2 b2)=(⟨(tdP (a,b) (a2,b2)).lo.x,(tdP (a,b) (a2,b2)).lo.y,(tdP (a,b) (a2,b2)).lo.b⟩,⟨(tdP (a,b) (a2,b2)).hi.x,(tdP (a,b) (a2,b2)).hi.y,(tdP (a,b) (a2,b2)).hi.b⟩,(tdP (a,b) (a2,b2)).e):=rfl
 exact dot1_eq i n c n2 c2 lb1 lb2 a b _ _ a2 b2 _ _ _ _ _ _ _ _ _ ad ad2 w (Nat.le_trans hg he.1) hi h.small (by omega) g.small (Nat.lt_of_lt_of_le hlb1 he.1) (Nat.lt_of_lt_of_le hlb2 he.1) hb' hb2' ((he.2 _ hlb1).trans hsl) ((he.2 _ hlb2).trans hsl2) k1 k2 m1 m2 HR HR2
  (Lib.hid fun w hw=>by have:=products_any (rdLo a b) (rdHi a b) (rdLo a2 b2) (rdHi a2 b2) w hw r1 r2 r3 r4 n1 n2' n3 n4;rw [e]at this;exact this)
end Go.Proofs.YtngdldcgkaplbaaGreat.Fd
namespace Go.Proofs.YtngdldcgkaplbaaGreat.Fd
open Go Go.RowKit Go.Conc Nm Rn
open Gt hiding Sm
open Lk
def shareC (q:Sq):List Value:=q.lo.cs++q.hi.cs++[.bool q.e]
theorem shareC_len (q:Sq):(shareC q).length=145:=by
 unfold shareC
 rw [List.length_append,List.length_append,cs_len,cs_len];rfl
theorem shareC_noU (q:Sq):(shareC q).any isU=false:=by
 unfold shareC
 rw [List.any_append,List.any_append,cs_noU,cs_noU];rfl
theorem shareC_plain (q:Sq):(shareC q).all plainB=true:=by
 unfold shareC
 rw [List.all_append,List.all_append,cs_plain,cs_plain];rfl
theorem shareC_e (q:Sq):(shareC q)[144]?=some (.bool q.e):=by
 unfold shareC
 rw [List.getElem?_append_right (by rw [List.length_append,cs_len,cs_len];omega),List.length_append,cs_len,cs_len];rfl
theorem shareC_set (q:Sq)(b:Bool):(shareC q).set 144 (.bool b)=shareC ⟨q.lo,q.hi,b⟩:=by
 unfold shareC
 rw [List.set_append_right _ _ (by rw [List.length_append,cs_len,cs_len];omega),List.length_append,cs_len,cs_len];rfl
section
variable {w0 w:World} {L:List Bx} {W:List Sw} {B:Nat} {TY:TypeId}
theorem put_lo (q:Sq)(x y:Nat)(c:Bool)(hg:gz≤w0.heap.size)(ht:q.lo.t≤4611686018427387904)(h:(⟨x,y,c⟩:Tm).Ok)(hO:Own w0 (⟨B,TY,shareC q⟩::L) W w) :
  Calls Tryz.prog 145 #[.agg #[.float .f64 x,.float .f64 y,.bool c],.pointer (some ⟨B,0,none⟩)] w fun e w'=>e=.returned (.tuple #[])∧Own w0 (⟨B,TY,shareC ⟨q.lo.put ⟨x,y,c⟩,q.hi,q.e⟩⟩::L) W w':=by
 unfold shareC at hO ⊢
 rw [List.append_assoc]at hO
 rw [List.append_assoc]
 exact put_any (A:=[]) (k:=0) q.lo ⟨x,y,c⟩ hg rfl ht h hO
theorem put_hi (q:Sq)(x y:Nat)(c:Bool)(hg:gz≤w0.heap.size)(ht:q.hi.t≤4611686018427387904)(h:(⟨x,y,c⟩:Tm).Ok)(hO:Own w0 (⟨B,TY,shareC q⟩::L) W w) :
  Calls Tryz.prog 145 #[.agg #[.float .f64 x,.float .f64 y,.bool c],.pointer (some ⟨B,72,none⟩)] w fun e w'=>e=.returned (.tuple #[])∧Own w0 (⟨B,TY,shareC ⟨q.lo,q.hi.put ⟨x,y,c⟩,q.e⟩⟩::L) W w':=
 put_any (A:=q.lo.cs) (k:=72) q.hi ⟨x,y,c⟩ hg (cs_len _) ht h hO
end
theorem step_q {ds:Nat→Td}{q:Sq}{x j:Nat}(h:x≤j):(List.range' x (j+1-x)).foldl (fun q i=>q.take (ds i)) q=((List.range' x (j-x)).foldl (fun q i=>q.take (ds i)) q).take (ds j):=by
 have e:j+1-x=(j-x)+1:=by omega
 rw [e,List.range'_concat,List.foldl_append,show x+1*(j-x)=j by omega]
 rfl
theorem own_up {w0 w:World}{a b c:Bx}{W:List Sw}(h:Own w0 [a,b,c] W w):Own w0 [c,a,b] W w:=h.perm (List.perm_middle (l₁:=[a,b]) (l₂:=[]))
theorem own_dn {w0 w:World}{a b c:Bx}{W:List Sw}(h:Own w0 [c,a,b] W w):Own w0 [a,b,c] W w:=h.perm (List.perm_middle (l₁:=[a,b]) (l₂:=[])).symm
theorem piece_run {w0 w:World}{ff:FuncId}{us:Array Value}{ds:Nat→Td}{q:Sq}(n x sb b3 b4:Nat)(y1 y2 y5 y6 y7 y8 y9 y10 y11 y13 y14 y15 y16 y17 y18 y19 y20 y21 y22 y23 y24 y25 y26 y27 y28 y29 y30 y31 y32 y33 y34 y35 y36 y37 y38 y39 y40 y41 y42 y43 y44:Value)(hg:gz≤w0.heap.size)(hn:n < 4611686018427387904)(hx:x < n)(hb3:b3 < w0.heap.size)(hb4:b4 < w0.heap.size)
  (h3:w0.cell? ⟨b3,0,none⟩=some (.int .i64 (n:Int))) (h4:w0.cell? ⟨b4,0,none⟩=some (.func (.func ff) #[] us)) (hd:∀i,(ds i).Ok) (hq:q.Ok) (HONE:Hid (∀(i:Nat) (w:World),i<n→Ext w0 w→Calls Tryz.prog ff (#[.int .i64 (i:Int)]++us) w (RetT (ds i).lo (ds i).hi (ds i).e w)))
  (hcf:∀args w,(callFunc ff args).run Tryz.prog w=.ok (.enter ff args) w) (hO:Own w0 [⟨sb,bog,shareC q⟩] [] w):
  pieceW.wp Tryz.prog (Lk.Ends (fun T1 w1=>T1.size=45∧T1[0]?=some (.pointer (some ⟨sb,0,none⟩))∧T1[3]?=some (.pointer (some ⟨b3,0,none⟩))∧T1[4]?=some (.pointer (some ⟨b4,0,none⟩))∧T1[11]?=some y11∧Own w0 [⟨sb,bog,shareC ((pcs n x).foldl (fun q i=>q.take (ds i)) q)⟩] [] w1) (fun _ _=>False)) ⟨#[.pointer (some ⟨sb,0,none⟩),y1,y2,.pointer (some ⟨b3,0,none⟩),.pointer (some ⟨b4,0,none⟩),y5,y6,y7,y8,y9,y10,y11,.tuple #[.int .i64 (x:Int),.bool true],y13,y14,y15,y16,y17,y18,y19,y20,y21,y22,y23,y24,y25,y26,y27,y28,y29,y30,y31,y32,y33,y34,y35,y36,y37,y38,y39,y40,y41,y42,y43,y44],[]⟩ w:=by
 conv=>arg 2;whnf
 have hc3:=(hO.toExt.cell hb3).trans h3
 have hwr:IntKind.i64.wrap ((x:Int)+16)=(x:Int)+16:=by rw [IntKind.wrap_i64];omega
 obtain⟨m,hmm⟩:∃m,m=min n (x+16):=⟨_,rfl⟩
 have hm:(if(x:Int)+16<(n:Int)then(x:Int)+16 else(n:Int))=(m:Int):=by split<;>omega
 have HM:=Lib.hid hmm
 have HN:=Lib.hid hn
 clear hn hmm
 have HD:=Lib.hid hd
 have HQ:=Lib.hid hq
 have H3:=Lib.hid h3
 have H4:=Lib.hid h4
 clear hd hq h3 h4
 go_wp2_with fail
 go_loopw [7] (fun kv wr=>∃(j:Nat),kv=.int .i64 (j:Int)∧x≤j∧j≤m∧Own w0 [⟨sb,bog,shareC ((List.range' x (j-x)).foldl (fun q i=>q.take (ds i)) q)⟩] [] wr) (fun kv _=>m-(intOf kv).toNat)
 case atStart=>exact⟨x,rfl,by omega,by have:=HM.out;omega,by simpa using hO⟩
 case round=>
  clear hO
  obtain⟨j,rfl,hj1,hj2,hO⟩:=hrel
  obtain⟨qq,hqq⟩:∃qq,qq=(List.range' x (j-x)).foldl (fun q i=>q.take (ds i)) q:=⟨_,rfl⟩
  rw [←hqq]at hO
  have HQQ:=Lib.hid hqq
  clear hqq
  have hc3:=(hO.toExt.cell hb3).trans H3.out
  have hc4:=(hO.toExt.cell hb4).trans H4.out
  by_cases hlt:j<m
  ·have hwj:IntKind.i64.wrap ((j:Int)+1)=(j:Int)+1:=by have:=HN.out;have:=HM.out;rw [IntKind.wrap_i64];omega
   have HJ:=Lib.hid (show j<n by have:=HM.out;omega)
   have HE:=Lib.hid (step_q (ds:=ds) (q:=q) hj1)
   rw [←HQQ.out]at HE
   have hok:qq.Ok:=by rw [HQQ.out];exact takes_ok HD.out _ _ HQ.out
   have HOK:=Lib.hid (show qq.lo.t≤4611686018427387904∧qq.hi.t≤4611686018427387904 from⟨hok.1.1,hok.2.1⟩)
   have HDJ:=Lib.hid (HD.out j)
   have HON:=Lib.hid (HONE.out j)
   clear hok
   go_wp2_with fail
   refine(HON.out wr HJ.out hO.toExt).mono ?_
   clear HON
   rintro e w2 ⟨rfl,hE1⟩
   have hO2:=hO.ext hE1
   clear hO hE1 hc3 hc4
   have hO:=hO2
   clear hO2
   have hf:True:=trivial
   generalize ds j=dd at *
   obtain⟨⟨lx,ly,lb⟩,⟨hx',hy,hb⟩,E⟩:=dd
   have HDJ2:=Lib.hid (show(⟨lx,ly,lb⟩:Tm).Ok∧(⟨hx',hy,hb⟩:Tm).Ok from HDJ.out)
   clear HDJ
   simp only [Tm.v]
   cases E
   ·go_upto_region 10 with (first|((with_reducible refine at_alloc ?_);refine own_alloc (L:=[_]) hO zero_tm rfl rfl ?_;clear hO;intro g8 wa hO;clear hf;have hf:=hO.cells;simp only [BC,CC,and_true]at hf)|((with_reducible refine at_alloc ?_);refine own_alloc (L:=[_,_]) hO zero_tm rfl rfl ?_;clear hO;intro g9 wb hO;clear hf;have hf:=hO.cells;simp only [BC,CC,and_true]at hf)|((with_reducible refine at_store (T:=124) ?_);refine own_put1 (vs:=[.float .f64 lx,.float .f64 ly,.bool lb]) (T:=124) hO rfl rfl size_tm rfl rfl rfl ?_;clear hO;intro w6 hO;clear hf;have hf:=hO.cells;simp only [BC,CC,and_true]at hf)|((with_reducible refine at_store (T:=124) ?_);refine own_put0 (vs:=[.float .f64 hx',.float .f64 hy,.bool hb]) (T:=124) hO rfl rfl size_tm rfl rfl rfl ?_;clear hO;intro w7 hO;clear hf;have hf:=hO.cells;simp only [BC,CC,and_true]at hf))
    refine wp_loose_own 4 [det (.agg #[.float .f64 lx,.float .f64 ly,.bool lb]),det (.pointer (some ⟨sb,0,none⟩)),det (.pointer (some ⟨sb,0,none⟩)),det (.pointer (some ⟨sb,0,none⟩))] hO (by kernel_rfl) (by kernel_rfl) fun S sp HS HSP=>?_
    clear hO hf
    simp only [List.take_succ_cons,List.take_zero,List.drop_succ_cons,List.drop_zero]
    iterate 4
     refine wpX_step (fun K hK=>?_)
     go_simp
     refine StepY.det (by rw [HSP.out];rfl) ?_ ?_
     ·intro wz hz hF
      rw [HS.out]at hz
      have hf:=hz.cells
      simp only [BC,CC,and_true]at hf
      clear hz hF
      go_simp
      exact⟨rfl,Ext.refl _⟩
     refine hK _ _ ?_
     clear hK K
    refine wpX_nil ?_
    intro wq hO hF
    clear hF HS HSP
    have hf:=hO.cells
    simp only [BC,CC,and_true]at hf
    go_wp2_with (go_at_call 145;(with_reducible refine(put_lo qq lx ly lb hg HOK.out.1 HDJ2.out.1 (own_up hO)).mono ?_);rintro e w9 ⟨rfl,hO1⟩;clear hO hf;have hO:=own_dn hO1;clear hO1)
    have hf:True:=trivial
    go_upto_region 11 with fail
    refine wp_loose_own 4 [det (.agg #[.float .f64 hx',.float .f64 hy,.bool hb]),det (.pointer (some ⟨sb,0,none⟩)),det (.pointer (some ⟨sb,0,none⟩)),det (.pointer (some ⟨sb,72,none⟩))] hO (by kernel_rfl) (by kernel_rfl) fun S sp HS HSP=>?_
    clear hO hf
    simp only [List.take_succ_cons,List.take_zero,List.drop_succ_cons,List.drop_zero]
    iterate 4
     refine wpX_step (fun K hK=>?_)
     go_simp
     refine StepY.det (by rw [HSP.out];rfl) ?_ ?_
     ·intro wz hz hF
      rw [HS.out]at hz
      have hf:=hz.cells
      simp only [BC,CC,and_true]at hf
      clear hz hF
      go_simp
      exact⟨rfl,Ext.refl _⟩
     refine hK _ _ ?_
     clear hK K
    refine wpX_nil ?_
    intro wq hO hF
    clear hF HS HSP
    have hf:=hO.cells
    simp only [BC,CC,and_true]at hf
    go_wp2_with (go_at_call 145;(with_reducible refine(put_hi ⟨qq.lo.put ⟨lx,ly,lb⟩,qq.hi,qq.e⟩ hx' hy hb hg HOK.out.2 HDJ2.out.2 (own_up hO)).mono ?_);rintro e w10 ⟨rfl,hO1⟩;clear hO hf;have hO:=own_dn hO1;clear hO1)
    go_roundw
    case rel=>exact⟨j+1,by go_num,by omega,by omega,by rw [HE.out];exact hO.tail.tail⟩
    case measure=>simp [intOf];omega
   ·go_wp2_with (first|((with_reducible refine at_alloc ?_);refine own_alloc (L:=[_]) hO zero_tm rfl rfl ?_;clear hO;intro g8 wa hO;clear hf;have hf:=hO.cells;simp only [BC,CC,and_true]at hf)|((with_reducible refine at_alloc ?_);refine own_alloc (L:=[_,_]) hO zero_tm rfl rfl ?_;clear hO;intro g9 wb hO;clear hf;have hf:=hO.cells;simp only [BC,CC,and_true]at hf)|((with_reducible refine at_store (T:=124) ?_);refine own_put1 (vs:=[.float .f64 lx,.float .f64 ly,.bool lb]) (T:=124) hO rfl rfl size_tm rfl rfl rfl ?_;clear hO;intro w6 hO;clear hf;have hf:=hO.cells;simp only [BC,CC,and_true]at hf)|((with_reducible refine at_store (T:=124) ?_);refine own_put0 (vs:=[.float .f64 hx',.float .f64 hy,.bool hb]) (T:=124) hO rfl rfl size_tm rfl rfl rfl ?_;clear hO;intro w7 hO;clear hf;have hf:=hO.cells;simp only [BC,CC,and_true]at hf)|((with_reducible refine at_store (T:=4) ?_);refine own_store (vs:=[.bool true]) (T:=4) hO 2 rfl rfl rfl size_bool rfl rfl (by rw [shareC_len];rfl) ?_;clear hO;intro w8 hO;simp only [List.set_cons_zero,List.set_cons_succ,spl,shareC_set]at hO))
    go_roundw
    case rel=>exact⟨j+1,by go_num,by omega,by omega,by rw [HE.out];exact hO.tail.tail⟩
    case measure=>simp [intOf];omega
  ·go_wp2_with fail
   refine⟨rfl,rfl,rfl,rfl,rfl,?_⟩
   have:j=m:=by omega
   rw [HQQ.out,this,HM.out]at hO
   exact hO
theorem zShare_cells:zShare.cells=(shareC Sq.nil).toArray:=by kernel_rfl
theorem build_sh (w:World):(zeroValue 128).run Tryz.prog w=.ok zShare w:=by kernel_rfl
def sharesC (qs:List Sq):List Value:=qs.flatMap shareC
theorem sharesC_len:∀qs:List Sq,(sharesC qs).length=145*qs.length
 |[]=>rfl
 |q::qs=>by
  have:=sharesC_len qs
  unfold sharesC at this ⊢
  rw [List.flatMap_cons,List.length_append,shareC_len,this,List.length_cons]
  omega
theorem sharesC_noU (qs:List Sq):(sharesC qs).any isU=false:=by
 induction qs with
 |nil=>rfl
 |cons q qs ih=>
  unfold sharesC at ih ⊢
  rw [List.flatMap_cons,List.any_append,shareC_noU,ih];rfl
theorem sharesC_at {qs:List Sq}{i:Nat}{r:Sq}(h:qs[i]?=some r):∃A C,sharesC qs=A++shareC r++C∧A.length=145*i:=by
 have hi:i<qs.length:=(List.getElem?_eq_some_iff.1 h).1
 have e:qs=qs.take i++r::qs.drop (i+1):=by
  conv=>lhs;rw [←List.take_append_drop i qs]
  rw [List.drop_eq_getElem_cons hi]
  congr 2
  exact(List.getElem?_eq_some_iff.1 h).2
 refine⟨sharesC (qs.take i),sharesC (qs.drop (i+1)),?_,?_⟩
 ·conv=>lhs;rw [e]
  unfold sharesC
  rw [List.flatMap_append,List.flatMap_cons,List.append_assoc]
 ·rw [sharesC_len,List.length_take]
  congr 1
  omega
section
variable {w0 w:World} {L:List Bx} {W:List Sw} {g sb:Nat} {TY T2:TypeId} {qs:List Sq}
theorem merge_lo (q r:Sq)(i k:Nat)(hi:qs[i]?=some r)(hk:k=145*i)(hg:gz≤w0.heap.size)(h1:q.lo.t≤4611686018427387904)(h2:r.lo.t≤4611686018427387904)(hO:Own w0 (⟨g,TY,shareC q⟩::⟨sb,T2,sharesC qs⟩::L) W w) :
  Calls Tryz.prog 147 #[.pointer (some ⟨g,0,none⟩),.pointer (some ⟨sb,k,none⟩)] w fun e w'=>e=.returned (.tuple #[])∧Own w0 (⟨g,TY,shareC ⟨q.lo.merge r.lo,q.hi,q.e⟩⟩::⟨sb,T2,sharesC qs⟩::L) W w':=by
 obtain⟨A,C,e1,e2⟩:=sharesC_at hi
 have ea:∀s:Sq,shareC s=[]++s.lo.cs++(s.hi.cs++[.bool s.e]):=fun s=>by unfold shareC;rw [List.nil_append,List.append_assoc]
 have eb:sharesC qs=A++r.lo.cs++(r.hi.cs++[.bool r.e]++C):=by rw [e1];unfold shareC;simp only [List.append_assoc]
 rw [ea,eb]at hO
 rw [ea,eb]
 exact imerge (A:=[]) (k:=0) (k2:=k) q.lo r.lo hg rfl (by rw [e2,hk]) h1 h2 hO
theorem merge_hi (q r:Sq)(i k:Nat)(hi:qs[i]?=some r)(hk:k=145*i)(hg:gz≤w0.heap.size)(h1:q.hi.t≤4611686018427387904)(h2:r.hi.t≤4611686018427387904)(hO:Own w0 (⟨g,TY,shareC q⟩::⟨sb,T2,sharesC qs⟩::L) W w) :
  Calls Tryz.prog 147 #[.pointer (some ⟨g,72,none⟩),.pointer (some ⟨sb,k+72,none⟩)] w fun e w'=>e=.returned (.tuple #[])∧Own w0 (⟨g,TY,shareC ⟨q.lo,q.hi.merge r.hi,q.e⟩⟩::⟨sb,T2,sharesC qs⟩::L) W w':=by
 obtain⟨A,C,e1,e2⟩:=sharesC_at hi
 have ea:∀s:Sq,shareC s=s.lo.cs++s.hi.cs++[.bool s.e]:=fun s=>rfl
 have eb:sharesC qs=A++r.lo.cs++r.hi.cs++([.bool r.e]++C):=by rw [e1];unfold shareC;simp only [List.append_assoc]
 rw [ea,eb]at hO
 rw [ea,eb]
 exact imerge (A:=q.lo.cs) (k:=72) (A2:=A++r.lo.cs) (k2:=k+72) q.hi r.hi hg (cs_len _) (by rw [List.length_append,e2,cs_len,hk]) h1 h2 hO
theorem shares_e {i k:Nat}{r:Sq}(hi:qs[i]?=some r)(hk:k=145*i):(sharesC qs)[k+144]?=some (.bool r.e):=by
 obtain⟨A,C,e1,e2⟩:=sharesC_at hi
 have hl:=shareC_len r
 rw [e1,List.append_assoc,List.getElem?_append_right (by omega),show k+144-A.length=144 by omega,List.getElem?_append_left (by omega),shareC_e]
end
theorem folds_ok:∀(qs:List Sq) (q:Sq),q.Ok→(∀r∈qs,r.Ok)→(qs.foldl Sq.merge q).Ok
 |[],q,h,_=>h
 |r::qs,q,h,k=>folds_ok qs _ (h.merge (k r (by simp))) fun s hs=>k s (by simp [hs])
theorem merge_run {w0 w:World}{qs:List Sq}(W sb:Nat)(y0 y1 y2 y3 y4 y5 y6 y7 y9 y10 y11 y12 y13 y14 y15 y16 y17 y18 y19 y20 y21 y22 y23 y24 y25 y26 y27 y28 y29 y30 y31 y32 y33 y34 y35 y36 y37 y38 y39 y40 y41 y42 y43 y44 y45 y46 y47 y48 y49 y50 y51 y52 y53 y54 y55 y56 y57 y58 y59 y60 y61 y62 y63 y64 y65 y66 y67 y68 y69 y70 y71 y72 y73 y74:Value)(hg:gz≤w0.heap.size)(hW:W≤16)(hl:qs.length=W)(hok:∀ q∈qs,q.Ok)(hO:Own w0 [⟨sb,128,sharesC qs⟩] [] w) :
  tailG.wp Tryz.prog (bodyPost Tryz.prog fG (fun | .returned x,w'=>∃g,x=.pointer (some ⟨g,0,none⟩)∧Own w0 [⟨g,128,shareC (qs.foldl Sq.merge Sq.nil)⟩,⟨sb,128,sharesC qs⟩] [] w'|_,_=>False)) ⟨#[y0,y1,y2,y3,y4,y5,y6,y7,.slice (some ⟨sb,0,none⟩) W W,y9,y10,y11,y12,y13,y14,y15,y16,y17,y18,y19,y20,y21,y22,y23,y24,y25,y26,y27,y28,y29,y30,y31,y32,y33,y34,y35,y36,y37,y38,y39,y40,y41,y42,y43,y44,y45,y46,y47,y48,y49,y50,y51,y52,y53,y54,y55,y56,y57,y58,y59,y60,y61,y62,y63,y64,y65,y66,y67,y68,y69,y70,y71,y72,y73,y74],[]⟩ w:=by
 conv=>arg 2;whnf
 have HL:=Lib.hid hl
 have HK:=Lib.hid hok
 have HW:=Lib.hid hW
 clear hl hok hW
 have hbs:=build_sh
 go_wp2_with ((with_reducible refine at_box ?_);refine own_box (cs:=shareC Sq.nil) hO zShare_cells (shareC_noU _) ?_;clear hO;intro g wa hO)
 go_loopw [40] (fun kv wr=>∃(i:Nat),kv=.int .i64 (i:Int)∧i≤W∧Own w0 [⟨g,128,shareC ((qs.take i).foldl Sq.merge Sq.nil)⟩,⟨sb,128,sharesC qs⟩] [] wr) (fun kv _=>W-(intOf kv).toNat)
 case atStart=>exact⟨0,rfl,by omega,hO⟩
 case round=>
  clear hO
  obtain⟨i,rfl,hi,hO⟩:=hrel
  by_cases hlt:i<W
  ·obtain⟨r,hr⟩:∃r,qs[i]?=some r:=⟨_,List.getElem?_eq_getElem (by have:=HL.out;omega)⟩
   obtain⟨k,hk⟩:∃k,i*145=k:=⟨_,rfl⟩
   have HS1:Hid ((qs.take (i+1)).foldl Sq.merge Sq.nil=((qs.take i).foldl Sq.merge Sq.nil).merge r):=Lib.hid (by rw [List.take_add_one,hr,List.foldl_append];rfl)
   have hok:((qs.take i).foldl Sq.merge Sq.nil).Ok:=folds_ok _ _ Sq.Ok.nil fun q hq=>HK.out q (List.mem_of_mem_take hq)
   have hrk:r.Ok:=HK.out r (List.mem_of_getElem? hr)
   have HE1:=Lib.hid (shares_e hr (by omega:k=145*i))
   have HB:=Lib.hid (show(r.lo.t≤4611686018427387904∧r.hi.t≤4611686018427387904)from⟨hrk.1.1,hrk.2.1⟩)
   have HB2:=Lib.hid (show(((qs.take i).foldl Sq.merge Sq.nil).lo.t≤4611686018427387904∧((qs.take i).foldl Sq.merge Sq.nil).hi.t≤4611686018427387904)from⟨hok.1.1,hok.2.1⟩)
   have HR:=Lib.hid hr
   have HKK:=Lib.hid (by omega:k=145*i)
   generalize (qs.take i).foldl Sq.merge Sq.nil=qq at *
   obtain⟨qlo,qhi,qe⟩:=qq
   obtain⟨rlo,rhi,re⟩:=r
   have hwi:IntKind.i64.wrap ((i:Int)+1)=(i:Int)+1:=by have:=HW.out;rw [IntKind.wrap_i64];omega
   have bi0:(0:Int)≤(i:Int):=by omega
   have bi1:(i:Int)<(W:Int):=by omega
   have hf:True:=trivial
   clear hr hok hrk
   cases qe<;>cases re
   all_goals
    go_upto_region 20 with fail
    refine wp_loose_own 7 [det (.pointer (some ⟨g,0,none⟩)),det (.pointer (some ⟨g,0,none⟩)),det (.pointer (some ⟨g,0,none⟩)),det (.slice (some ⟨sb,0,none⟩) W W),det (.int .i64 (i:Int)),det (.pointer (some ⟨sb,k,none⟩)),det (.pointer (some ⟨sb,k,none⟩))] hO (by kernel_rfl) (by kernel_rfl) fun S sp HS HSP=>?_
    clear hO hf
    simp only [List.take_succ_cons,List.take_zero,List.drop_succ_cons,List.drop_zero]
    iterate 7
     refine wpX_step (fun K hK=>?_)
     go_simp
     refine StepY.det (by rw [HSP.out];rfl) ?_ ?_
     ·intro wz hz hF
      clear hz hF
      go_simp
      exact⟨rfl,Ext.refl _⟩
     refine hK _ _ ?_
     clear hK K
    refine wpX_nil ?_
    intro wq hO hF
    clear hF HS HSP
    have hf:=hO.cells
    simp only [BC,CC,and_true]at hf
    go_wp2_with (go_at_call 147;(with_reducible refine(merge_lo ⟨qlo,qhi,_⟩ ⟨rlo,rhi,_⟩ i k HR.out HKK.out hg HB2.out.1 HB.out.1 hO).mono ?_);rintro e w4 ⟨rfl,hO1⟩;clear hO hf;have hO:=hO1;clear hO1)
    have hf:True:=trivial
    go_upto_region 21 with fail
    refine wp_loose_own 7 [det (.pointer (some ⟨g,0,none⟩)),det (.pointer (some ⟨g,0,none⟩)),det (.pointer (some ⟨g,72,none⟩)),det (.slice (some ⟨sb,0,none⟩) W W),det (.int .i64 (i:Int)),det (.pointer (some ⟨sb,k,none⟩)),det (.pointer (some ⟨sb,k+72,none⟩))] hO (by kernel_rfl) (by kernel_rfl) fun S sp HS HSP=>?_
    clear hO hf
    simp only [List.take_succ_cons,List.take_zero,List.drop_succ_cons,List.drop_zero]
    iterate 7
     refine wpX_step (fun K hK=>?_)
     go_simp
     refine StepY.det (by rw [HSP.out];rfl) ?_ ?_
     ·intro wz hz hF
      clear hz hF
      go_simp
      exact⟨rfl,Ext.refl _⟩
     refine hK _ _ ?_
     clear hK K
    refine wpX_nil ?_
    intro wq hO hF
    clear hF HS HSP
    have hf:=hO.cells
    simp only [BC,CC,and_true]at hf
    go_wp2_with (first|(go_at_call 147;(with_reducible refine(merge_hi ⟨qlo.merge rlo,qhi,_⟩ ⟨rlo,rhi,_⟩ i k HR.out HKK.out hg HB2.out.2 HB.out.2 hO).mono ?_);rintro e w5 ⟨rfl,hO1⟩;clear hO hf;have hO:=hO1;clear hO1;have hc1:=(hO.cell 0 rfl 144).trans (shareC_e _);have hc2:=(hO.cell 1 rfl (k+144)).trans HE1.out;simp only at hc1 hc2)|((with_reducible refine at_store (T:=4) ?_);refine own_store (vs:=[.bool true]) (T:=4) hO 0 rfl rfl rfl size_bool rfl rfl (by rw [shareC_len];rfl) ?_;clear hO;intro w8 hO;simp only [List.set_cons_zero,List.set_cons_succ,spl,shareC_set]at hO)|((with_reducible refine at_store (T:=4) ?_);refine own_store (vs:=[.bool false]) (T:=4) hO 0 rfl rfl rfl size_bool rfl rfl (by rw [shareC_len];rfl) ?_;clear hO;intro w8 hO;simp only [List.set_cons_zero,List.set_cons_succ,spl,shareC_set]at hO))
    go_roundw
    case rel=>exact⟨i+1,by go_num,by omega,by rw [HS1.out];exact hO⟩
    case measure=>simp [intOf];omega
  ·go_wp2_with fail
   have:i=W:=by omega
   rw [this,←HL.out,List.take_length]at hO
   go_ret
   exact⟨g,rfl,hO⟩
end Go.Proofs.YtngdldcgkaplbaaGreat.Fd
namespace Go.Proofs.YtngdldcgkaplbaaGreat.Gt
open Go Go.Conc Go.Conc.Lib
open Go.ConcN (ShN upd WD)
open Go.ConcR (KK WgAt wgBlock)
open Lk Fw
def JobOk (v:World)(n W:Nat)(f:Value)(R:Value→World→Prop):Prop:=
 ∃Sh:List Nat→Array Value→Prop,Sh [] zShare.cells∧(∀acc cs,Sh acc cs→∀(i:Nat) x,cs[i]?=some x→plainB x=true) ∧
  (∀c:Cf,c.v=v→c.n=n→c.W=W→c.f=f→c.Sh=Sh→PieceOk c) ∧
  (∀(T cs4:Array Value) (tk:Nat→List Nat) (v':World),T.size=75→T[8]?=some (.slice (some ⟨v.heap.size,0,none⟩) W W)→cs4.size=145*W→(∀i,i<W→Sh (tk i) (cs4.extract (145*i) (145*i+145))) →
    List.Perm ((List.range W).flatMap tk) ((List.range ((n+15)/16)).map (16*·))→v'.heap=v.heap.push (.cells cs4 tS (0,0))→v'.os=v.os→v'.output=v.output→(∃ri,WR P FF ri v' v'∧VA FF ri T T) →
    Tr P (Lk.Left P nG R) (Lk.mk nG .normal T [] ([.code tailG]++[]) false) [catcher P] v')
section
variable {c:Cf} {w w':World}
noncomputable def vEnd (c:Cf)(cs4:Array Value):World:={ c.v with heap:=c.v.heap.push (.cells cs4 tS (0,0)) }
theorem vEnd_old {cs4:Array Value}{b:Nat}(h:b < c.v.heap.size):(vEnd c cs4).heap[b]?=c.v.heap[b]?:=by
 show(c.v.heap.push _)[b]?=_
 rw [Array.getElem?_push_lt h,←Array.getElem?_eq_getElem]
theorem vEnd_new {cs4:Array Value}:(vEnd c cs4).heap[c.v.heap.size]?=some (.cells cs4 tS (0,0)):=by
 show(c.v.heap.push _)[c.v.heap.size]?=_
 rw [Array.getElem?_push_size]
theorem rx_cases {b B s:Nat}(h:rx c b=some (B,s)):(b=c.v.heap.size∧B=c.p.A+4∧s=0)∨(c.r b=some (B,s)∧b<c.v.heap.size∧B<c.p.A):=by
 unfold rx at h
 split at h
 ·rename_i e;injection h with h;injection h with h1 h2;exact .inl ⟨e,h1.symm,h2.symm⟩
 ·have:=c.wr.lt h
  have:=c.hA
  exact .inr ⟨h,by omega,by omega⟩
theorem rx_le:c.r.le (rx c):=by
 intro b x hb
 have:=(c.wr.lt (b:=b) (B:=x.1) (s:=x.2) hb).1
 unfold rx
 rw [if_neg (by omega)]
 exact hb
theorem vc_keep {cs4:Array Value}{b:Nat}(h:b < c.v.heap.size)(o:Nat):(vc (vEnd c cs4) b o↔vc c.v b o)∧(vEnd c cs4).frozen? ⟨b,o,none⟩=c.v.frozen? ⟨b,o,none⟩:=by
 unfold vc World.cell? World.frozen?
 simp only [vEnd_old h]
 exact⟨trivial,trivial⟩
theorem sg_end {cs4:Array Value}(hw:Wd c true w)(h4:w.heap[c.p.A+4]?=some (.cells cs4 tS (0,0)))(hpl:∀ (i:Nat) x,cs4[i]?=some x→plainB x=true):Sg P FF c.r (rx c) c.v (vEnd c cs4) c.w0 w∧Clear (Sb1 c.p) (rx c) w:=by
 have hA:=c.hA
 have hb:=hw.big
 have hgl:=c.wr.gl
 refine⟨⟨rx_le,fun b x hx=>?_,⟨fun b B s h=>?_,⟨?_,by omega⟩,fun b B s h=>?_,fun b b' B s s' o o' h h' hv hv' e=>?_⟩,?_,fun b hb o=>vc_keep hb o,by omega,fun B x hx=>?_,⟨hw.rest.1,hw.rest.2.1,hw.rest.2.2⟩,⟨rfl,rfl⟩⟩,⟨fun B hB=>?_,fun B hB ⟨b,s,hbs⟩=>?_⟩⟩
 ·rcases rx_cases (b:=b) (B:=x.1) (s:=x.2) hx with ⟨h1,h2,h3⟩|⟨h1,_,_⟩
  ·exact .inr ⟨by omega,by omega⟩
  ·exact .inl h1
 ·rcases rx_cases h with ⟨h1,h2,h3⟩|⟨h1,_,_⟩
  ·omega
  ·exact c.wr.low _ _ _ h1
 ·show P.globals.size≤(c.v.heap.push _).size
  rw [Array.size_push];omega
 ·rcases rx_cases h with ⟨rfl,rfl,rfl⟩|⟨h1,hlt,hlA⟩
  ·refine .inl ⟨cs4,tS,0,0,cs4,tS,0,0,vEnd_new,h4,by omega,fun o x hx=>⟨x,by rw [Nat.zero_add];exact hx,plain_self (hpl o x hx)⟩,fun o _ _=>by omega,.inl ⟨rfl,rfl,rfl⟩⟩
  ·have hwB:w.heap[B]?=c.w0.heap[B]?:=hw.old B hlA
   rcases c.wr.live b B s h1 with ⟨cs,e,lo,hi,cs',e',lo',hi',k1,k2,k3,k4,k5,k6⟩|⟨a,a',lost,k1,k2,k3,k4⟩
   ·refine .inl ⟨cs,e,lo,hi,cs',e',lo',hi',by rw [vEnd_old hlt];exact k1,hwB.trans k2,k3,fun o x hx=>?_,k5,k6⟩
    obtain⟨x',g1,g2⟩:=k4 o x hx
    exact⟨x',g1,g2.mono rx_le⟩
   ·exact .inr ⟨a,a',lost,by rw [vEnd_old hlt];exact k1,hwB.trans k2,k3,k4.mono rx_le⟩
 ·rcases rx_cases h with ⟨rfl,rfl,rfl⟩|⟨h1,hlt,hlA⟩<;>rcases rx_cases h' with ⟨rfl,h2,rfl⟩|⟨h1',hlt',hlA'⟩
  all_goals first|omega|skip
  exact c.wr.inj b b' B s s' o o' h1 h1' ((vc_keep hlt o).1.1 hv) ((vc_keep hlt' o').1.1 hv') e
 ·show _≤(c.v.heap.push _).size
  rw [Array.size_push];omega
 ·have:=(Array.getElem?_eq_some_iff.1 hx).1
  exact .inr ((hw.old B (by omega)).trans hx)
 ·rcases hB with h1|h1|h1
  ·have:=c.p.hSb B h1;omega
  ·omega
  ·omega
 ·rcases rx_cases hbs with ⟨h1,h2,h3⟩|⟨h1,_,h2⟩
  ·rcases hB with h|h|h
   ·have:=c.p.hSb B h;omega
   ·omega
   ·omega
  ·rcases hB with h|h|h
   ·exact c.cl.apart B h ⟨b,s,h1⟩
   ·omega
   ·omega
theorem ghost_T {T:Array Value}(hT:Tm c T):∃Tg,VA FF (rx c) Tg T∧Tg.size=75∧Tg[8]?=some (.slice (some ⟨c.v.heap.size,0,none⟩) c.W c.W):=by
 have hz:=hT.size
 have h8:T[8]?=some (sbV c):=by
  have:=hT.t8
  rw [Array.getD_eq_getD_getElem?,Array.getElem?_eq_getElem (by omega)]at this
  rw [Array.getElem?_eq_getElem (by omega)]
  simpa using this
 have key:∀i,∃g,∀x,T[i]?=some x→VR FF (rx c) g x∧(i=8→g=.slice (some ⟨c.v.heap.size,0,none⟩) c.W c.W):=by
  intro i
  by_cases hi:i=8
  ·subst hi
   refine⟨.slice (some ⟨c.v.heap.size,0,none⟩) c.W c.W,fun x hx=>⟨?_,fun _=>rfl⟩⟩
   rw [h8]at hx
   injection hx with hx
   subst hx
   exact .slice _ _ ⟨c.v.heap.size,0,c.p.A+4,0,rfl,by simp [rx],rfl⟩
  ·cases hx:T[i]? with
   |none=>exact⟨undef,fun x h=>by cases h⟩
   |some x=>
    obtain⟨g,hg⟩:=hT.ok i x hx
    exact⟨g,fun y hy=>by injection hy with hy;subst hy;exact⟨hg,fun h=>absurd h hi⟩⟩
 refine⟨(Array.range 75).map fun i=>(key i).choose,⟨by simp [hz],fun i x y hx hy=>?_⟩,by simp,?_⟩
 ·rw [Array.getElem?_map,Array.getElem?_range]at hx
  split at hx
  ·simp only [Option.map_some,Option.some.injEq]at hx
   subst hx
   exact((key i).choose_spec y hy).1
  ·cases hx
 ·have:=((key 8).choose_spec _ h8).2 rfl
  rw [Array.getElem?_map,Array.getElem?_range,if_pos (by decide)]
  exact congrArg some this
end
theorem gatherOk {Ga:Array Value→World→Prop}{Gp:Array Value→World→Value→World→Prop}{Post:Value→World→Prop}
  (hGa:∀args v,Ga args v→∃(n W:Nat) (ff:FuncId) (us:Array Value),args=#[.int .i64 n,.int .i64 W,.func (.func ff) #[] us]∧1≤W∧W≤16∧n<4611686018427387904∧JobOk v n W (.func (.func ff) #[] us) fun x v1=>Gp args v x v1):
  GatherOk P FF nG Ga Gp Post:=by
 intro r v w args args' c0' cs' gs sl t q Sb B hga hva hwr hcl h0 hL hB hP K
 obtain⟨n,W,ff,us,rfl,hW1,hW2,hn,Sh,hS0,hpl,hpc,htl⟩:=hGa _ _ hga
 have hsz:=hva.1
 obtain⟨f',hf,rfl⟩:∃f',VR FF r (.func (.func ff) #[] us) f'∧args'=#[.int .i64 n,.int .i64 W,f']:=by
  obtain⟨a0,h0,v0⟩:=hva.get (i:=0) rfl
  obtain⟨a1,h1,v1⟩:=hva.get (i:=1) rfl
  obtain⟨a2,h2,v2⟩:=hva.get (i:=2) rfl
  cases v0
  cases v1
  refine⟨a2,v2,?_⟩
  apply Array.ext_getElem?
  intro i
  match i with
  |0=>rw [h0];rfl
  |1=>rw [h1];rfl
  |2=>rw [h2];rfl
  |i+3=>
   rw [Array.getElem?_eq_none (by simp at hsz;omega)]
   rfl
 obtain⟨xs',us',rfl⟩:∃xs' us',f'=.func (.func ff) xs' us':=by cases hf;exact⟨_,_,rfl⟩
 have eN:Frame.enter P nG #[.int .i64 n,.int .i64 W,.func (.func ff) xs' us'] .normal=gw (T0G n W (.func (.func ff) xs' us')) [.code bodyG]:=by
  have h3:(#[.int .i64 n,.int .i64 W,.func (.func ff) xs' us']:Array Value).size=3:=rfl
  rw [enter_mk _ at_G fG_body,fG_ntmps,h3]
  rfl
 rw [eN]at h0
 have hSlt:∀B,Sb B→B<w.heap.size:=hcl.lt
 have key:Bs Post (ShB Sb) (w.heap.size+5) gs.size (G (gw (T0G n W (.func (.func ff) xs' us')) [.code bodyG]) (c0'::cs')) w:=by
  refine prologue hW2 rfl ?_ (fun h=>by have:=hSlt (w.heap.size+3) h;omega)
  intro gs1 d sl1 t1 q1 hn1 h01 hL1 hP1
  have hgs0:0<gs.size:=(Array.getElem?_eq_some_iff.1 h0).1
  let c:Cf:={ p:=⟨gs1.size,w.heap.size,Sb,t1,by omega,hSlt⟩,W:=W,n:=n,w0:=w,r:=r,v:=v,f:=.func (.func ff) #[] us,f':=.func (.func ff) xs' us',Sh:=Sh,Z:=zShare.cells,hZ1:=zShare_plain.1,hZ2:=hS0,hZ3:=fun r=>plain_va zShare_at,hW1:=hW1,hW2:=hW2,hn:=hn,hA:=rfl,wr:=hwr,cl:=hcl,vf:=hf }
  have hPc:PieceOk c:=hpc c rfl rfl rfl rfl rfl
  obtain⟨μ,hinv⟩:=inv_start (c:=c) (cs:=c0'::cs') (d:=d) rfl (ff:=.func ff) (xs:=xs') (us:=us') rfl rfl h01 hL1 hP1 rfl
  refine runs hPc (fun gs w2 sl t2 D m rs vs tk q f0 d0 a st sm h hnx=>?_) μ gs1 _ sl1 t1 hinv
  clear hinv
  obtain⟨⟨q2,hL2⟩,hP2,cs4,h4,h5,hsh⟩:=inv_end (c:=c) hpl hP1 h
  have hprm:List.Perm ((List.range W).flatMap tk) ((List.range ((n+15)/16)).map (16*·)):=h.prm
  have hwd:=h.com.wd
  obtain⟨T,hT,rfl⟩:=hnx
  have hg0:=h.g0
  clear h
  have hpl4:∀(i:Nat) x,cs4[i]?=some x→plainB x=true:=fun i x hx=>by
   have hi:=(Array.getElem?_eq_some_iff.1 hx).1
   have h5:cs4.size=145*W:=h5
   refine hpl _ _ (hsh (i/145) (by show i/145<W;omega)) (i%145) x ?_
   rw [Array.getElem?_extract,if_pos (by omega),←hx]
   congr 1
   omega
  obtain⟨hsg,hcl2⟩:=sg_end hwd h4 hpl4
  obtain⟨Tg,hTg,hz,h8⟩:=ghost_T hT
  have hself:=self_like hsg.wr hTg
  have htr:=htl Tg cs4 tk (vEnd c cs4) hz h8 h5 hsh hprm rfl rfl rfl hself
  have bs:Bs Post (ShB (Sb1 c.p)) w2.heap.size gs.size (G (gw T (.inRegion o15 []::kT)) (c0'::cs')) w2:=by
   refine .slide (a1:=G (gw T kT) (c0'::cs')) (.one rfl fun w=>stepG_region_end) ?_
   intro gs3 d3 sl3 t3 q3 hn3 h03 hL3 hP3
   have hwr3:WR P FF (rx c) (vEnd c cs4) (w2.at d3):=hsg.wr.of_heap rfl rfl
   have hk:SkR P fb FF [] [] [] .normal (c0'::cs') (rx c) (Lk.mk nG .normal Tg [] ([.code tailG]++[]) false) [catcher P] (gw T kT) (c0'::cs'):=
    Tl.bot.sk (.mk (pre:=[.code tailG]) (ret:=false) hTg (by simp only [List.all_cons,List.all_nil,Bool.and_true];exact nice_tail))
   refine seg (Sb:=Sb1 c.p) hFb hF hG (by simp) (.inl rfl) (fun h=>h) (fun fr cs v h=>⟨h.1,.inl h.2.1⟩) _ htr.acc (rx c) _ _ (w2.at d3) gs3 sl3 t3 q3 w2.heap.size hwr3 hk htr (hcl2.at d3) h03 hL3 (Nat.le_refl _) hP3 fun fr1 cs1 v1 r1 fr1' cs1' w1 gs4 sl4 t4 q4 B4 g1 g2 g3 g4 g5 g6 g7 g8 g9=>?_
   refine beside_go _ B4 gs4 _ w1 sl4 t4 q4 (Nat.le_refl _) g6 rfl g7 g9 fun d=>?_
   obtain⟨x,x',fn',es,k1,k2,k3,k4,k5,k6,k7,k8,k9,k10⟩:=left_real (w:=w1.at d) g1 g2 (g3.wr.of_heap rfl rfl)
   subst k5
   refine⟨_,w1.at d,_,w1.heap.size,ret_step k3 k4 k6 k7 k8 k9,g8,fun e he=>?_,fun gs' sl' t' q' hs' h0' hL' hP'=>?_⟩
   ·exact evL_of (Sb:=Sb1 c.p) (g3.wr.of_heap (v1:=v1) (w1:=w1.at d) rfl rfl) (g4.at d) (k10 e (seen_mem P nG es e (by simpa using he)))
   ·have hsg3:Sg P FF r (rx c) v (vEnd c cs4) w (w2.at d3):=⟨hsg.le,hsg.new,hwr3,hsg.gsize,hsg.gkeep,hsg.rsize,hsg.rkeep,hsg.rest,hsg.grest⟩
    have hall:=Sg.trans hwr hsg3 g3
    have hall':Sg P FF r r1 v v1 w (w1.at d):=⟨hall.le,hall.new,hall.wr.of_heap rfl rfl,hall.gsize,hall.gkeep,hall.rsize,hall.rkeep,hall.rest,hall.grest⟩
    exact K x x' v1 r1 (w1.at d) gs' sl' t' q' (Sb1 c.p) w1.heap.size k1 k2 hall' (g4.at d) h0' hL' (Nat.le_refl _) hP'
  exact bs gs w2.drawn sl t2 q2 rfl hg0 hL2 hP2
 exact key gs w.drawn sl t q rfl h0 hL (hP.mono (by omega))
end Go.Proofs.YtngdldcgkaplbaaGreat.Gt
namespace Go.Proofs.YtngdldcgkaplbaaGreat.Lk
open Go Go.Conc
theorem Alike.trans' {n:Nat}{T U V:Tape}(h:Alike 0 n T U)(k:Alike 0 n U V):Alike 0 n T V:=fun i q h0 h1=>(h i q h0 h1).trans (k i q h0 h1)
section
variable (P:Program) (fb fo:FB) (F G:FuncId→Prop) (gf:FuncId) (Ga:Array Value→World→Prop) (Gp:Array Value→World→Value→World→Prop) (S:Frame→List Frame→World→Prop)
def TT (fr:Frame)(cs:List Frame)(v:World):Prop:=∀T,Alike 0 v.drawn T v.tape→TrO P fb fo F G gf Ga Gp S fr cs (tp v T)
def AfterO (fn:FuncId)(k:List Item)(cs:List Frame):Exit→Act→World→Prop
 | .normal,a,v=>TT P fb fo F G gf Ga Gp S (mk fn .normal a.tmps [] k false) cs v
 | .ret,a,v=>∀todo,TT P fb fo F G gf Ga Gp S (mk fn .normal a.tmps [] todo true) cs v
 | .exit id,a,v=>∃k',exitTo id k=some k'∧TT P fb fo F G gf Ga Gp S (mk fn .normal a.tmps [] k' false) cs v
 |_,_,_=>False
def WpO (c:Code)(Q:Exit→Act→World→Prop)(a:Act)(v:World):Prop:=
 ∀(fn:FuncId) (k:List Item) (cs:List Frame),fn≠gf→cs≠[]→(∀e a' v',Q e a' v'→AfterO P fb fo F G gf Ga Gp S fn k cs e a' v')→TT P fb fo F G gf Ga Gp S (mk fn .normal a.tmps [] (.code c::k) false) cs v
def CallsO (f:FuncId)(args:Array Value)(v:World)(R:Value→World→Prop):Prop:=
 ∀(c0:Frame) (cs:List Frame),c0.fn≠gf→(∃fn tmps k,c0=mk fn .normal tmps [] k false)→cs≠[]→(∀x v1,R x v1→TT P fb fo F G gf Ga Gp S (c0.finish x) cs v1)→TT P fb fo F G gf Ga Gp S (Frame.enter P f args .normal) (c0::cs) v
def NextO (o:Oper)(a:Act)(K:Act→World→Prop):Result Next→Prop
 | .ok (.value x) w=>K (a.put o.dst x) w
 | .ok .skip w=>K (a.put o.dst undef) w
 | .ok (.enter f args) w=>f≠gf∧CallsO P fb fo F G gf Ga Gp S f args w fun x w'=>K (a.put o.dst x) w'
 |_=>False
def GatherO (o:Oper)(a:Act)(v:World)(K:Act→World→Prop):Prop:=
 ∃xs ats,o.op=.call { callee:=.value (.func gf),args:=xs,argTypes:=ats }∧xs.all (argB fo)=true∧∀T,Alike 0 v.drawn T v.tape→Ga (xs.map a.eval) (tp v T)∧∀x v1,Gp (xs.map a.eval) (tp v T) x v1→K (a.put o.dst x) v1
def OpO (ops:Array Oper)(i:Nat)(K:Act→World→Prop)(a:Act)(v:World):Prop:=
 ∃o,ops[i]?=some o∧if Region.wanted o (yielded ops a.tmps)then GatherO fo gf Ga Gp o a v K∨(∀T,Alike 0 v.drawn T v.tape→NextO P fb fo F G gf Ga Gp S o a K ((execOp a.eval o).run P (tp v T)))else K (a.put o.dst undef) v
def WlO (ops:Array Oper)(Q:Exit→Act→World→Prop):List Nat→Act→World→Prop
 |[],a,v=>Q .normal a v
 |i::rest,a,v=>OpO P fb fo F G gf Ga Gp S ops i (WlO ops Q rest) a v
end
section
variable {P:Program} {fb fo:FB} {F G:FuncId→Prop} {gf:FuncId} {Ga:Array Value→World→Prop} {Gp:Array Value→World→Value→World→Prop} {S:Frame→List Frame→World→Prop}
variable {fr f:Frame} {cs c:List Frame} {v v1:World} {Q Q':Exit→Act→World→Prop} {a:Act}
theorem not_stop {fr:Frame}(h:fr.mode=.run):¬AtStop P [] fr cs:=by
 rintro⟨_,h1|⟨h1,_⟩⟩
 ·rw [h]at h1;cases h1
 ·exact h1 rfl
theorem TT.ctl {fn:FuncId}{tmps tmps':Array Value}{k k':List Item}{ret:Bool}(hne:fn≠gf)(h:∀ w,stepG P true (Go.Conc.G (mk fn .normal tmps [] k false) cs) w=.go (Go.Conc.G (mk fn .normal tmps' [] k' ret) cs) w #[])
  (K:TT P fb fo F G gf Ga Gp S (mk fn .normal tmps' [] k' ret) cs v):TT P fb fo F G gf Ga Gp S (mk fn .normal tmps [] k false) cs v:=fun T hT=>
 .step (fun _=>mk fn .normal tmps' [] k' ret) (fun _=>cs) (fun U=>tp v U) (fun _ ch hc=>by cases ret<;>cases hc) (fun _=>by cases ret<;>exact hne) (not_stop rfl) (fun U hU=>⟨_,h _⟩) fun U hU=>K U (Alike.trans' hU hT)
theorem AfterO.mono_k {fn:FuncId}{k k':List Item}(hx:∀ id z,exitTo id k=some z→exitTo id k'=some z){e:Exit}(he:e≠.normal){a:Act}{v:World}(h:AfterO P fb fo F G gf Ga Gp S fn k cs e a v):AfterO P fb fo F G gf Ga Gp S fn k' cs e a v:=by
 cases e with
 |normal=>exact absurd rfl he
 |exit id=>obtain⟨z,h1,h2⟩:=h;exact⟨z,hx _ _ h1,h2⟩
 |ret=>exact h
 |_=>exact h.elim
theorem WpO.mono {c:Code}(h:WpO P fb fo F G gf Ga Gp S c Q a v)(hq:∀ e a v,Q e a v→Q' e a v):WpO P fb fo F G gf Ga Gp S c Q' a v:=fun fn k cs hne hcs hA=>h fn k cs hne hcs fun e a' v' q=>hA e a' v' (hq _ _ _ q)
theorem wpo_skip (h:Q .normal a v):WpO P fb fo F G gf Ga Gp S .skip Q a v:=fun fn k cs hne hcs hA=>.ctl (ret:=false) hne (fun w=>stepG_skip) (hA _ _ _ h)
theorem finish_keeps (fr:Frame)(x:Value):(fr.finish x).mode=fr.mode∧(fr.finish x).fn=fr.fn:=by
 unfold Frame.finish
 split<;>exact⟨rfl,rfl⟩
theorem wpo_ret (h:Q .ret a v):WpO P fb fo F G gf Ga Gp S .ret Q a v:=fun fn k cs hne hcs hA=>.ctl (ret:=true) (k':=.code .ret::k) hne (fun w=>by
 show stepG P true (Go.Conc.G ((bs fn .normal).at ⟨a.tmps,[]⟩ (.code .ret::k)) cs) w=_
 simp [Go.Conc.G,stepG,stepG.exec,Frame.at,mk]) (hA _ _ _ h _)
theorem wpo_seq {x y:Code}(h:WpO P fb fo F G gf Ga Gp S x (Exit.then (fun a w=>WpO P fb fo F G gf Ga Gp S y Q a w) Q) a v):WpO P fb fo F G gf Ga Gp S (.seq x y) Q a v:=fun fn k cs hne hcs hA=>
 .ctl (ret:=false) (k':=.code x::.code y::k) hne (fun w=>stepG_seq) (h fn (.code y::k) cs hne hcs fun e a' v' q=>by
  cases e with
  |normal=>exact q fn k cs hne hcs hA
  |_=>exact(hA _ _ _ q).mono_k (fun id z hz=>hz) (by simp))
theorem wpo_cond {cc:Operand}{x y:Code}{t:Bool}(hc:a.eval cc=.bool t)(h:WpO P fb fo F G gf Ga Gp S (if t then x else y) Q a v):WpO P fb fo F G gf Ga Gp S (.cond cc x y) Q a v:=fun fn k cs hne hcs hA=>
 .ctl (ret:=false) (k':=.code (if t then x else y)::k) hne (fun w=>stepG_cond (b:=bs fn .normal) (a:=⟨a.tmps,[]⟩) (by rw [←hc];cases cc<;>rfl)) (h fn k cs hne hcs hA)
theorem callsO_lone (hFb:∀ f,fb.val f=true→F f)(hF:∀ f,F f∨fb.call f=true→FnOk P F G f)(hG:Fine P fb G){f:FuncId}(hf:G f){args:Array Value}{R:Value→World→Prop}(hR:∀ x v T,R x v→R x (tp v T))
  (h:∀T,Alike 0 v.drawn T v.tape→Calls P f args (tp v T) fun | .returned x,w'=>R x w'|_,_=>False):CallsO P fb fo F G gf Ga Gp S f args v R:=by
 intro c0 cs hne hc0 hcs hK T hT
 refine .self fun r hw ha=>?_
 obtain⟨fn,c,h1,h2,h3⟩:=hG f hf
 rw [enter_mk args h1 h2]at ha
 have ha:VA F r (args++Array.replicate (fn.ntmps-args.size) undef) (args++Array.replicate (fn.ntmps-args.size) undef):=ha
 have ha':VA F r args args:=by
  refine⟨rfl,fun i x y h1 h2=>ha.2 i x y ?_ ?_⟩
  all_goals
   rw [Array.getElem?_append_left]
   ·assumption
   ·exact(Array.getElem?_eq_some_iff.1 (by assumption)).1
 refine .lone hf hcs (tree_of_calls hFb hF hG hf hw ha' hR fun U hU=>h U (Alike.trans' hU hT)) fun x v1 hx=>?_
 exact hK x v1 hx v1.tape fun _ _ _ _=>rfl
theorem callsO_body {f:FuncId}{fn:Func}{c:Code}(hf:P.funcs[f]?=some fn)(hb:fn.body=some c)(hne:f≠gf){args:Array Value}{R:Value→World→Prop}
  (h:WpO P fb fo F G gf Ga Gp S c (fun | .normal,a,w | .ret,a,w=>∀T,∃x,(results fn a.tmps).run P (tp w T)=.ok x (tp w T)∧R x (tp w T)|_,_,_=>False) ⟨args++Array.replicate (fn.ntmps-args.size) undef,[]⟩ v):
  CallsO P fb fo F G gf Ga Gp S f args v R:=by
 intro c0 cs hn0 hc0 hcs hK
 rw [enter_mk args hf hb]
 have ret:∀(a:Act) (w:World) todo,(∀T,∃x,(results fn a.tmps).run P (tp w T)=.ok x (tp w T)∧R x (tp w T))→TT P fb fo F G gf Ga Gp S (mk f .normal a.tmps [] todo true) (c0::cs) w:=by
  intro a w todo hx T hT
  have hst:¬AtStop P [] (mk f .normal a.tmps [] todo true) (c0::cs):=by
   rintro⟨h1,_⟩
   injection h1 with _ h1
   exact hcs h1
  have key:∀U,∃x es,R x (tp w U)∧stepG P true (Go.Conc.G (mk f .normal a.tmps [] todo true) (c0::cs)) (tp w U)=.go (Go.Conc.G (c0.finish x) cs) (tp w U) es:=by
   intro U
   obtain⟨x,h1,h2⟩:=hx U
   cases he:(results fn a.tmps).runT P (tp w U) #[]with
   |mk res es=>
    have:=Sem.runT_fst P (results fn a.tmps) (tp w U) #[]
    rw [he,h1]at this
    have this:res=.ok x (tp w U):=this
    subst this
    exact⟨x,_,h2,ret_step hf rfl rfl rfl rfl he⟩
  obtain⟨fn0,tmps0,k0,rfl⟩:=hc0
  refine .step (fun U=>(mk fn0 .normal tmps0 [] k0 false).finish (key U).choose) (fun _=>cs) (fun U=>tp w U) (fun U ch hc=>?_) (fun U=>?_) hst (fun U hU=>?_) fun U hU=>?_
  ·rw [(finish_keeps _ _).1]at hc;cases hc
  ·rw [(finish_keeps _ _).2];exact hn0
  ·obtain⟨es,h1,h2⟩:=(key U).choose_spec
   exact⟨es,h2⟩
  ·obtain⟨es,h1,h2⟩:=(key U).choose_spec
   exact hK _ _ h1 U fun _ _ _ _=>rfl
 refine h f [] (c0::cs) hne (by simp) fun e a' v' q=>?_
 cases e with
 |normal=>
  refine .ctl (ret:=true) (k':=[]) hne (fun w=>?_) (ret a' v' [] q)
  show stepG P true (Go.Conc.G ((bs f .normal).at ⟨a'.tmps,[]⟩ []) _) w=_
  rw [stepG_end];rfl
 |ret=>exact fun todo=>ret a' v' todo q
 |_=>exact q.elim
theorem wpo_region {id:Nat}{ops:Array Oper}(h:WlO P fb fo F G gf Ga Gp S ops Q (List.range ops.size) a v):WpO P fb fo F G gf Ga Gp S (.region id ops false) Q a v:=fun fn k cs hne hcs hA=>by
 refine .ctl (ret:=false) (k':=.inRegion ops (List.range ops.size)::k) hne (fun w=>stepG_region) ?_
 generalize List.range ops.size=l at h
 induction l generalizing a v with
 |nil=>exact .ctl (ret:=false) (k':=k) hne (fun w=>stepG_region_end) (hA _ _ _ h)
 |cons i rest ih=>
  obtain⟨o,ho,h⟩:=h
  have ea:(⟨a.tmps,[]⟩:Act).eval=a.eval:=by funext x;cases x<;>rfl
  have ep:∀x,((⟨a.tmps,[]⟩:Act).put o.dst x).tmps=(a.put o.dst x).tmps∧((⟨a.tmps,[]⟩:Act).put o.dst x)=⟨(a.put o.dst x).tmps,[]⟩:=by intro x;cases o.dst<;>exact⟨rfl,rfl⟩
  split at h
  ·rename_i hw
   rcases h with h|h
   ·obtain⟨xs,ats,hop,hx,h⟩:=h
    intro T hT
    obtain⟨h1,h2⟩:=h T hT
    refine .gather ho hw hop hx (by rw [ea];exact h1) fun x v1 hg=>?_
    rw [ea]at hg
    have:=ih (h2 x v1 hg) v1.tape fun _ _ _ _=>rfl
    have e1:(mk fn .normal a.tmps [] (.inRegion ops (i::rest)::k) false).finish x=mk fn .normal (a.put o.dst x).tmps [] (.inRegion ops rest::k) false:=by
     show((bs fn .normal).at ⟨a.tmps,[]⟩ (.inRegion ops (i::rest)::k)).finish x=_
     rw [Frame.finish_at,ho]
     show(bs fn .normal).at ((⟨a.tmps,[]⟩:Act).put o.dst x) _=_
     rw [(ep x).2];rfl
    rw [e1]
    exact this
   ·intro T hT
    have key:∀U,Alike 0 v.drawn U v.tape→∃f c x es,stepG P true (Go.Conc.G (mk fn .normal a.tmps [] (.inRegion ops (i::rest)::k) false) cs) (tp v U)=.go (Go.Conc.G f c) x es∧(∀ch,f.mode≠.panicking ch)∧f.fn≠gf∧TrO P fb fo F G gf Ga Gp S f c x:=by
     intro U hU
     have h:=h U hU
     have hr0:(execOp (⟨a.tmps,[]⟩:Act).eval o).run P (tp v U)=(execOp a.eval o).run P (tp v U):=by rw [ea]
     cases hr:(execOp a.eval o).run P (tp v U)with
     |halt x w=>rw [hr]at h;exact h.elim
     |ok nx w=>
      rw [hr]at h hr0
      cases nx with
      |value x=>
       refine⟨mk fn .normal (a.put o.dst x).tmps [] (.inRegion ops rest::k) false,cs,w,listed P fn ⟨a.tmps,[]⟩ o (tp v U),?_,(fun ch hc=>by cases hc),hne,ih h w.tape fun _ _ _ _=>rfl⟩
       have:=stepG_value (P:=P) (main:=true) (b:=bs fn .normal) (a:=⟨a.tmps,[]⟩) (k:=k) (cs:=cs) (rest:=rest) ho hw (by simp [bs]) hr0
       rw [(ep x).2]at this
       exact this
      |skip=>
       refine⟨mk fn .normal (a.put o.dst undef).tmps [] (.inRegion ops rest::k) false,cs,w,listed P fn ⟨a.tmps,[]⟩ o (tp v U),?_,(fun ch hc=>by cases hc),hne,ih h w.tape fun _ _ _ _=>rfl⟩
       have:=stepG_none (P:=P) (main:=true) (b:=bs fn .normal) (a:=⟨a.tmps,[]⟩) (k:=k) (cs:=cs) (rest:=rest) ho hw (by simp [bs]) hr0
       rw [(ep undef).2]at this
       exact this
      |enter f args=>
       obtain⟨hf,h⟩:=h
       refine⟨Frame.enter P f args .normal,mk fn .normal a.tmps [] (.inRegion ops (i::rest)::k) false::cs,w,listed P fn ⟨a.tmps,[]⟩ o (tp v U),stepG_enter (P:=P) (main:=true) (b:=bs fn .normal) (a:=⟨a.tmps,[]⟩) (k:=k) (cs:=cs) (rest:=rest) ho hw (by simp [bs]) hr0,fun ch hc=>?_,?_,?_⟩
       ·unfold Frame.enter at hc
        cases hc
       ·exact hf
       ·refine h _ _ hne ⟨_,_,_,rfl⟩ hcs (fun x v1 hx=>?_) w.tape fun _ _ _ _=>rfl
        have e1:(mk fn .normal a.tmps [] (.inRegion ops (i::rest)::k) false).finish x=mk fn .normal (a.put o.dst x).tmps [] (.inRegion ops rest::k) false:=by
         show((bs fn .normal).at ⟨a.tmps,[]⟩ (.inRegion ops (i::rest)::k)).finish x=_
         rw [Frame.finish_at,ho]
         show(bs fn .normal).at ((⟨a.tmps,[]⟩:Act).put o.dst x) _=_
         rw [(ep x).2];rfl
        rw [e1]
        exact ih hx
      |_=>exact h.elim
    have key':∀U,∃f c x es,(∀ch,f.mode≠.panicking ch)∧f.fn≠gf∧(Alike 0 v.drawn U v.tape→stepG P true (Go.Conc.G (mk fn .normal a.tmps [] (.inRegion ops (i::rest)::k) false) cs) (tp v U)=.go (Go.Conc.G f c) x es∧TrO P fb fo F G gf Ga Gp S f c x):=by
     intro U
     by_cases hU:Alike 0 v.drawn U v.tape
     ·obtain⟨f,c,x,es,h1,h2,h3,h4⟩:=key U hU
      exact⟨f,c,x,es,h2,h3,fun _=>⟨h1,h4⟩⟩
     ·exact⟨mk fn .normal a.tmps [] k false,[],default,#[],(fun ch hc=>by cases hc),hne,fun h=>absurd h hU⟩
    refine .step (fun U=>(key' U).choose) (fun U=>(key' U).choose_spec.choose) (fun U=>(key' U).choose_spec.choose_spec.choose) (fun U=>(key' U).choose_spec.choose_spec.choose_spec.choose_spec.1) (fun U=>(key' U).choose_spec.choose_spec.choose_spec.choose_spec.2.1) (not_stop rfl)
     (fun U hU=>⟨_,((key' U).choose_spec.choose_spec.choose_spec.choose_spec.2.2 (Alike.trans' hU hT)).1⟩) fun U hU=>((key' U).choose_spec.choose_spec.choose_spec.choose_spec.2.2 (Alike.trans' hU hT)).2
  ·rename_i hw
   have hw:Region.wanted o (yielded ops a.tmps)=false:=by simpa using hw
   refine .ctl (ret:=false) (k':=.inRegion ops rest::k) (tmps':=(a.put o.dst undef).tmps) hne (fun w=>?_) (ih h)
   have:=stepG_unwanted (P:=P) (main:=true) (b:=bs fn .normal) (a:=⟨a.tmps,[]⟩) (k:=k) (cs:=cs) (rest:=rest) (w:=w) ho hw
   rw [(ep undef).2]at this
   exact this
theorem tree_left_of_wp {r:Map}(hFb:∀ f,fb.val f=true→F f)(hF:∀ f,F f∨fb.call f=true→FnOk P F G f)(hG:Fine P fb G){f:FuncId}{fn:Func}{c:Code}(hf:P.funcs[f]?=some fn)(hc:niceCode P fb c=true){tmps:Array Value}{v:World}(hw:WR P F r v v)(ha:VA F r tmps tmps){R:Value→World→Prop}
  (hR:∀x v T,R x v→R x (tp v T)) (h:∀T,Alike 0 v.drawn T v.tape→c.wp P (bodyPost P fn fun | .returned x,w'=>R x w'|_,_=>False) ⟨tmps,[]⟩ (tp v T)):Tr P (Left P f R) (mk f .normal tmps [] ([.code c]++[]) false) [catcher P] v:=by
 have hi:Inv P fb F [] (mk f .normal tmps [] ([.code c]++[]) false,[catcher P],v):=
  ⟨r,Tl.bot.sk (.mk (pre:=[.code c]) (ret:=false) ha (by simp only [List.all_cons,List.all_nil,Bool.and_true];exact hc)),hw⟩
 refine bar hFb hF hG (.inl rfl) (fun fr cs v h=>⟨h.1,.inl h.2.1⟩) (fun fr cs v T h=>?_) hi fun T hT=>?_
 ·obtain⟨a1,a2,a3,fn,x,a4,a5,a6⟩:=h
  exact⟨a1,a2,a3,fn,x,a4,fun U=>a5 U,hR x v T a6⟩
 ·have key:∀(fr:Frame) (n:Nat) (w':World) (x:Value),runN P n (lone (mk f .normal tmps [] ([.code c]++[]) false) [catcher P] (tp v T))=.next (lone fr [catcher P] w')→fr.mode=.returning→fr.fn=f→(results fn fr.tmps).run P w'=.ok x w'→R x w' →
    ∃n fr1 cs1 v1,runN P n (lone (mk f .normal tmps [] ([.code c]++[]) false) [catcher P] (tp v T))=.next (lone fr1 cs1 v1)∧Left P f R fr1 cs1 v1:=by
   intro fr n w' x hn l1 hfn l5 hr
   have hst:AtStop P [] fr [catcher P]:=⟨rfl,.inl l1⟩
   obtain⟨r1,k1,k2⟩:=inv_run hFb hF hG (.inl rfl) n _ _ v T hi fr [catcher P] w' hn hst
   refine⟨n,fr,[catcher P],w',hn,rfl,l1,hfn,fn,x,hf,fun U=>?_,hr⟩
   have hv:VA F r1 fr.tmps fr.tmps:=by
    obtain⟨a,b,c,d,_,hfr⟩:=k1
    dsimp only at hfr
    generalize hq:fr=q at hfr
    have:∀{fr fr':Frame},FR P fb F r1 a b c d fr fr'→VA F r1 fr.tmps fr'.tmps:=fun h=>by
     cases h with
     | @mk fn tmps tmps' pre ret hv hp=>cases ret<;>exact hv
    exact this hfr
   have hs:=results_like (P:=P) (F:=F) fn hv
   cases hr2:(results fn fr.tmps).runT P w' #[]with
   |mk res es=>
    have e1:res=.ok x w':=by
     have:=Sem.runT_fst P (results fn fr.tmps) w' #[]
     rw [hr2,l5]at this
     exact this
    subst e1
    have no:=mem_seen_out hs k2 hr2
    have hl:=run_local (P:=P) (results fn fr.tmps) w' #[]
    rw [hr2]at hl
    obtain⟨m1,m2,m3⟩:=hl no
    exact⟨es,m3 U fun i q h1 h2=>by have h2:i<w'.drawn:=h2;omega⟩
  obtain⟨e,a',w',q,har⟩:=h T hT (bs f .normal) [] [catcher P]
  cases e with
  |normal=>
   obtain⟨_,x,h1,h2⟩:=q
   obtain⟨n,hn⟩:=Steps.trans har (.one step_end)
   exact key _ n w' x hn rfl rfl h1 h2
  |ret=>
   obtain⟨_,x,h1,h2⟩:=q
   obtain⟨todo,n,hn⟩:=har
   exact key _ n w' x hn rfl rfl h1 h2
  |panic ch=>exact q.2.elim
  |outgrown=>exact q.elim
  |_=>exact q.elim
end
end Go.Proofs.YtngdldcgkaplbaaGreat.Lk