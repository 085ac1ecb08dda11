import Derived.Test.YtngdldcgkaplbaaGreatK20
set_option linter.unusedVariables false
set_option linter.unusedSimpArgs false
set_option maxHeartbeats 40000000
set_option maxRecDepth 100000
namespace Go.Proofs.YtngdldcgkaplbaaGreat.Gt
open Go Go.Conc Go.Conc.Lib
open Go.ConcR (KK WgAt wgBlock)
open Lk Fw
def Bs (Post:Value→World→Prop)(Shun:Loc→Prop)(B n0:Nat)(a:Goroutine)(w:World):Prop:=
 ∀gs d sl t q,gs.size=n0→gs[0]?=some a→Leavers P t gs q→Past Shun B t→Win P Post (crowd gs (w.at d) sl) t
section
variable {Post:Value→World→Prop} {Shun:Loc→Prop} {B n0:Nat} {a a':Goroutine} {w w':World} {es:Array Event}
theorem Bs.op (hr:a.status=.running)(h:∀ d,stepG P true a (w.at d)=.go a' (w'.at d) es)(hev:∀ e∈es,EvL Shun B e)(k:Bs Post Shun B n0 a' w'):Bs Post Shun B n0 a w:=by
 intro gs d sl t q hn h0 hL hP
 refine beside_go _ B gs a (w.at d) sl t q (Nat.le_refl _) h0 hr hL hP fun d2=>⟨a',w'.at d2,es,B,h d2,Nat.le_refl _,hev,fun gs' sl' t' q' hs h0' hL' hP'=>?_⟩
 exact k gs' d2 sl' t' q' (hs.trans hn) h0' hL' hP'
theorem Bs.slide {n:Nat}{a1:Goroutine}(h:Sm true n a a1)(k:Bs Post Shun B n0 a1 w):Bs Post Shun B n0 a w:=by
 induction h with
 |refl=>exact k
 |step hs hst _ ih=>exact .op hs (fun d=>hst _) (fun e he=>by simp at he) (ih k)
variable {cs:List Frame} {W:Nat} {n:Int} {ff:Fn} {xs us:Array Value}
noncomputable def T0G (n:Int)(W:Nat)(f:Value):Array Value:=#[.int .i64 n,.int .i64 W,f]++Array.replicate 72 undef
noncomputable def T1G (T:Array Value)(A W:Nat):Array Value:=
 (((((((((((T.setIfInBounds 3 (.pointer (some ⟨A,0,none⟩))).setIfInBounds 5 (.pointer (some ⟨A+1,0,none⟩))).setIfInBounds 6 (.pointer none)).setIfInBounds 14 (.chan (some (A+2)))).setIfInBounds 7 (.pointer (some ⟨A+3,0,none⟩))).setIfInBounds 15 (.int .i64 W)).setIfInBounds 16 (.slice (some ⟨A+4,0,none⟩) W W)).setIfInBounds 8 (.slice (some ⟨A+4,0,none⟩) W W)).setIfInBounds 9 (.pointer (some ⟨A+5,0,none⟩))).setIfInBounds 17 (.int .i64 W)).setIfInBounds 18 (.int .i64 0))
noncomputable def w1G (w:World)(n:Int)(W:Nat)(f:Value):World:=
 { w with heap:=(((((w.heap.push (.cells #[.int .i64 n] tI)).push (.cells #[f] tF)).push (.chan 0 #[] false 0 0 false)).push (.cells #[.chan (some (w.heap.size+2))] tC)).push (.cells (madeCells zShare.cells (W*145)) tS)).push (wgBlock lnk.tWg 0 0) }
theorem gset {T:Array Value}{i j:Nat}{v:Value}(hi:i < T.size):(T.setIfInBounds i v).getD j undef=if i=j then v else T.getD j undef:=getD_set T i j v hi
theorem push_ne {α:Type}(H:Array α)(x y:α){j:Nat}(h:j≠H.size):(H.push x)[j]?=(H.push y)[j]?:=by
 rw [Array.getElem?_push,Array.getElem?_push,if_neg h,if_neg h]
theorem alloc_size (w:World)(o:Obj):(w.alloc o).heap.size=w.heap.size+1:=Array.size_push ..
theorem alloc_last (w:World)(o:Obj):(w.alloc o).heap[w.heap.size]?=some o:=by
 show(w.heap.push o)[w.heap.size]?=_
 rw [Array.getElem?_push_size]
theorem prologue (hW:W≤16)(hB:w.heap.size+5=B)(k:Bs Post Shun B n0 (G (gw (T1G (T0G n W (.func ff xs us)) w.heap.size W) (.code cF::kF)) cs) (w1G w n W (.func ff xs us)))(hSh:¬ Shun (.cell ⟨w.heap.size+3,0,none⟩)) :
  Bs Post Shun B n0 (G (gw (T0G n W (.func ff xs us)) [.code bodyG]) cs) w:=by
 obtain⟨A,hA⟩:∃A,A=w.heap.size:=⟨_,rfl⟩
 obtain⟨f,hf⟩:∃f,f=Value.func ff xs us:=⟨_,rfl⟩
 have hz:(T0G n W f).size=75:=by simp [T0G]
 have g0:(T0G n W f).getD 0 undef=.int .i64 n:=by simp [T0G]
 have g1:(T0G n W f).getD 1 undef=.int .i64 W:=by simp [T0G]
 have g2:(T0G n W f).getD 2 undef=f:=by simp [T0G]
 rw [←hf]at k ⊢
 generalize T0G n W f=T at *
 rw [bodyG_eq]
 refine .slide (a1:=G (gw T (.inRegion o0 [0,1,2]::[.code c1])) cs) (.step rfl (fun w=>stepG_seq) (.one rfl (fun w=>stepG_region))) ?_
 refine .op (a':=G (gw (T.setIfInBounds 3 (.pointer (some ⟨w.heap.size,0,none⟩))) (.inRegion o0 [1,2]::[.code c1])) cs) (w':=w.alloc (.cells #[.int .i64 n] tI)) (es:=#[]) rfl (fun d=>op_nb g0 (w.at d)) (fun e he=>by simp at he) ?_
 refine .op (a':=G (gw ((T.setIfInBounds 3 (.pointer (some ⟨w.heap.size,0,none⟩))).setIfInBounds 5 (.pointer (some ⟨(w.alloc (.cells #[.int .i64 n] tI)).heap.size,0,none⟩))) (.inRegion o0 [2]::[.code c1])) cs) (w':=(w.alloc (.cells #[.int .i64 n] tI)).alloc (.cells #[f] tF)) (es:=#[]) rfl (fun d=>by rw [hf];exact op_ob (by rw [gset (by omega),if_neg (by decide),g2,hf]) _) (fun e he=>by simp at he) ?_
 refine .slide (.one (g1:=G (gw (((T.setIfInBounds 3 (.pointer (some ⟨A,0,none⟩))).setIfInBounds 5 (.pointer (some ⟨A+1,0,none⟩))).setIfInBounds 6 (.pointer none)) (.inRegion o0 []::[.code c1])) cs) rfl fun w2=>?_) ?_
 ·have:=(Sm.val (main:=true) (cs:=cs) gb_kind (a:=⟨(T.setIfInBounds 3 (.pointer (some ⟨A,0,none⟩))).setIfInBounds 5 (.pointer (some ⟨A+1,0,none⟩)),[]⟩) (ops:=o0) (i:=2) (rest:=[]) (k:=[.code c1]) (o:=o0.getD 2 default) (v:=.pointer none) rfl rfl fun w=>run_assign _ (o0.getD 2 default) (.const (.pointer none)) rfl w)
  cases this with
  |step _ hst kk=>
   cases kk
   have e2:(w.alloc (.cells #[.int .i64 n] tI)).heap.size=A+1:=by rw [alloc_size,hA]
   rw [e2,←hA]
   exact hst w2
 rw [c1_eq]
 refine .slide (a1:=G (gw (((T.setIfInBounds 3 (.pointer (some ⟨A,0,none⟩))).setIfInBounds 5 (.pointer (some ⟨A+1,0,none⟩))).setIfInBounds 6 (.pointer none)) (.inRegion o1 [0,1,2]::[.code c2])) cs) (.step rfl (fun w=>stepG_region_end) (.step rfl (fun w=>stepG_seq) (.one rfl (fun w=>stepG_region)))) ?_
 obtain⟨w2,hw2⟩:∃w2,w2=(w.alloc (.cells #[.int .i64 n] tI)).alloc (.cells #[f] tF):=⟨_,rfl⟩
 have s2:w2.heap.size=A+2:=by rw [hw2,alloc_size,alloc_size,hA]
 rw [←hw2]
 refine .op (a':=G (gw ((((T.setIfInBounds 3 (.pointer (some ⟨A,0,none⟩))).setIfInBounds 5 (.pointer (some ⟨A+1,0,none⟩))).setIfInBounds 6 (.pointer none)).setIfInBounds 14 (.chan (some w2.heap.size))) (.inRegion o1 [1,2]::[.code c2])) cs) (w':=w2.alloc (.chan 0 #[] false 0 0 false)) (es:=#[]) rfl (fun d=>op_ch (w2.at d)) (fun e he=>by simp at he) ?_
 refine .op (a':=G (gw (((((T.setIfInBounds 3 (.pointer (some ⟨A,0,none⟩))).setIfInBounds 5 (.pointer (some ⟨A+1,0,none⟩))).setIfInBounds 6 (.pointer none)).setIfInBounds 14 (.chan (some w2.heap.size))).setIfInBounds 7 (.pointer (some ⟨(w2.alloc (.chan 0 #[] false 0 0 false)).heap.size,0,none⟩))) (.inRegion o1 [2]::[.code c2])) cs) (w':=(w2.alloc (.chan 0 #[] false 0 0 false)).alloc (.cells #[.chan none] tC)) (es:=#[]) rfl (fun d=>op_hb _) (fun e he=>by simp at he) ?_
 obtain⟨w4,hw4⟩:∃w4,w4=(w2.alloc (.chan 0 #[] false 0 0 false)).alloc (.cells #[.chan none] tC):=⟨_,rfl⟩
 have s3:(w2.alloc (.chan 0 #[] false 0 0 false)).heap.size=A+3:=by rw [alloc_size,s2]
 have s4:w4.heap.size=A+4:=by rw [hw4,alloc_size,s3]
 rw [←hw4]
 show Bs Post Shun B n0 (G (gw (((((T.setIfInBounds 3 (.pointer (some ⟨A,0,none⟩))).setIfInBounds 5 (.pointer (some ⟨A+1,0,none⟩))).setIfInBounds 6 (.pointer none)).setIfInBounds 14 (.chan (some w2.heap.size))).setIfInBounds 7 (.pointer (some ⟨(w2.alloc (.chan 0 #[] false 0 0 false)).heap.size,0,none⟩))) (.inRegion o1 [2]::[.code c2])) cs) w4
 rw [s2,s3]
 have h43:w4.heap[A+3]?=some (.cells #[.chan none] tC (0,0)):=by
  rw [hw4,←s3,alloc_last]
 have cc4:∀d,(w4.at d).cell? ⟨A+3,0,none⟩=some (.chan none):=fun d=>by
  show w4.cell? ⟨A+3,0,none⟩=_
  simp [World.cell?,h43]
 have f4:∀d,(w4.at d).frozen? ⟨A+3,0,none⟩=false:=fun d=>by
  show w4.frozen? ⟨A+3,0,none⟩=_
  simp [World.frozen?,h43]
 refine .op (w':=w4.setCell ⟨A+3,0,none⟩ (.chan (some (A+2)))) (es:=#[⟨.cell ⟨A+3,0,none⟩,true,false⟩]) rfl (fun d=>op_st (by rw [gset (by simp;omega),if_pos rfl]) (by rw [gset (by simp;omega),if_neg (by decide),gset (by simp;omega),if_pos rfl]) (w4.at d) (cc4 d) (f4 d)) (fun e he=>?_) ?_
 ·simp only [List.mem_toArray,List.mem_cons,List.not_mem_nil,or_false]at he
  subst he
  refine⟨fun x hx hs=>?_,by simp,by simp,?_⟩
  ·rw [ofEvent_cell0]at hx
   simp only [MemAct.touch?,Option.some.injEq]at hx
   subst hx
   rw [←hA]at hSh
   exact absurd hs hSh
  ·rw [ofEvent_cell0]
   show A+3<B
   omega
 rw [c2_eq]
 obtain⟨T5,hT5⟩:∃T5,T5=((((T.setIfInBounds 3 (.pointer (some ⟨A,0,none⟩))).setIfInBounds 5 (.pointer (some ⟨A+1,0,none⟩))).setIfInBounds 6 (.pointer none)).setIfInBounds 14 (.chan (some (A+2)))).setIfInBounds 7 (.pointer (some ⟨A+3,0,none⟩)):=⟨_,rfl⟩
 have z5:T5.size=75:=by rw [hT5];simp [hz]
 have t51:T5.getD 1 undef=.int .i64 W:=by
  rw [hT5,gset (by simp;omega),if_neg (by decide),gset (by simp;omega),if_neg (by decide),gset (by simp;omega),if_neg (by decide),gset (by simp;omega),if_neg (by decide),gset (by omega),if_neg (by decide),g1]
 obtain⟨w5,hw5⟩:∃w5,w5=w4.setCell ⟨A+3,0,none⟩ (.chan (some (A+2))):=⟨_,rfl⟩
 have s5:w5.heap.size=A+4:=by rw [hw5];show(w4.heap.modify _ _).size=_;rw [Array.size_modify,s4]
 rw [←hw5,←hT5]
 refine .slide (a1:=G (gw T5 (.inRegion o2 [0,1,2]::[.code c3])) cs) (.step rfl (fun w=>stepG_region_end) (.step rfl (fun w=>stepG_seq) (.one rfl (fun w=>stepG_region)))) ?_
 refine .slide (Sm.val (main:=true) (cs:=cs) gb_kind (a:=⟨T5,[]⟩) (ops:=o2) (i:=0) (rest:=[1,2]) (k:=[.code c3]) (o:=o2.getD 0 default) (v:=.int .i64 W) rfl rfl fun w=>?_) ?_
 ·have:=run_move (⟨T5,[]⟩:Act).eval (o2.getD 0 default) (.tmp 1) rfl w
  rw [show(⟨T5,[]⟩:Act).eval (.tmp 1)=_ from t51]at this
  exact this
 refine .op (a':=G (gw ((T5.setIfInBounds 15 (.int .i64 W)).setIfInBounds 16 (.slice (some ⟨w5.heap.size,0,none⟩) W W)) (.inRegion o2 [2]::[.code c3])) cs) (w':=w5.alloc (.cells (madeCells zShare.cells (W*145)) tS)) (es:=#[]) rfl (fun d=>op_sh hW (T:=T5.setIfInBounds 15 (.int .i64 W)) (by rw [gset (by omega),if_pos rfl]) (w5.at d)) (fun e he=>by simp at he) ?_
 rw [s5]
 refine .slide (Sm.val (main:=true) (cs:=cs) gb_kind (a:=⟨(T5.setIfInBounds 15 (.int .i64 W)).setIfInBounds 16 (.slice (some ⟨A+4,0,none⟩) W W),[]⟩) (ops:=o2) (i:=2) (rest:=[]) (k:=[.code c3]) (o:=o2.getD 2 default) (v:=.slice (some ⟨A+4,0,none⟩) W W) rfl rfl fun w=>?_) ?_
 ·have:=run_assign (⟨(T5.setIfInBounds 15 (.int .i64 W)).setIfInBounds 16 (.slice (some ⟨A+4,0,none⟩) W W),[]⟩:Act).eval (o2.getD 2 default) (.tmp 16) rfl w
  have e:(⟨(T5.setIfInBounds 15 (.int .i64 W)).setIfInBounds 16 (.slice (some ⟨A+4,0,none⟩) W W),[]⟩:Act).eval (.tmp 16)=.slice (some ⟨A+4,0,none⟩) W W:=by
   show((T5.setIfInBounds 15 _).setIfInBounds 16 _).getD 16 undef=_
   rw [gset (by simp;omega),if_pos rfl]
  rw [e]at this
  exact this
 show Bs Post Shun B n0 (G (gw (((T5.setIfInBounds 15 (.int .i64 W)).setIfInBounds 16 (.slice (some ⟨A+4,0,none⟩) W W)).setIfInBounds 8 (.slice (some ⟨A+4,0,none⟩) W W)) (.inRegion o2 []::[.code c3])) cs) _
 rw [c3_eq]
 obtain⟨T8,hT8⟩:∃T8,T8=((T5.setIfInBounds 15 (.int .i64 W)).setIfInBounds 16 (.slice (some ⟨A+4,0,none⟩) W W)).setIfInBounds 8 (.slice (some ⟨A+4,0,none⟩) W W):=⟨_,rfl⟩
 have z8:T8.size=75:=by rw [hT8];simp [z5]
 have t81:T8.getD 1 undef=.int .i64 W:=by
  rw [hT8,gset (by simp;omega),if_neg (by decide),gset (by simp;omega),if_neg (by decide),gset (by omega),if_neg (by decide),t51]
 obtain⟨w6,hw6⟩:∃w6,w6=w5.alloc (.cells (madeCells zShare.cells (W*145)) tS):=⟨_,rfl⟩
 have s6:w6.heap.size=A+5:=by rw [hw6,alloc_size,s5]
 rw [←hw6,←hT8]
 refine .slide (a1:=G (gw T8 (.inRegion o3 [0]::[.code c4])) cs) (.step rfl (fun w=>stepG_region_end) (.step rfl (fun w=>stepG_seq) (.one rfl (fun w=>stepG_region)))) ?_
 refine .op (a':=G (gw (T8.setIfInBounds 9 (.pointer (some ⟨w6.heap.size,0,none⟩))) (.inRegion o3 []::[.code c4])) cs) (w':=w6.alloc (wgBlock lnk.tWg 0 0)) (es:=#[]) rfl (fun d=>op_wg (w6.at d)) (fun e he=>by simp at he) ?_
 rw [s6]
 rw [c4_eq]
 have z9:(T8.setIfInBounds 9 (.pointer (some ⟨A+5,0,none⟩))).size=75:=by simpa using z8
 refine .slide (a1:=G (gw (T8.setIfInBounds 9 (.pointer (some ⟨A+5,0,none⟩))) (.inRegion o4 [0,1]::[.code (.block 0 (.loop cF)),.code c5])) cs) (.step rfl (fun w=>stepG_region_end) (.step rfl (fun w=>stepG_seq) (.step rfl (fun w=>stepG_seq) (.one rfl (fun w=>stepG_region))))) ?_
 refine .slide (Sm.val (main:=true) (cs:=cs) gb_kind (a:=⟨T8.setIfInBounds 9 (.pointer (some ⟨A+5,0,none⟩)),[]⟩) (ops:=o4) (i:=0) (rest:=[1]) (k:=[.code (.block 0 (.loop cF)),.code c5]) (o:=o4.getD 0 default) (v:=.int .i64 W) rfl rfl fun w=>?_) ?_
 ·have:=run_move (⟨T8.setIfInBounds 9 (.pointer (some ⟨A+5,0,none⟩)),[]⟩:Act).eval (o4.getD 0 default) (.tmp 1) rfl w
  have e:(⟨T8.setIfInBounds 9 (.pointer (some ⟨A+5,0,none⟩)),[]⟩:Act).eval (.tmp 1)=.int .i64 W:=by
   show(T8.setIfInBounds 9 _).getD 1 undef=_
   rw [gset (by omega),if_neg (by decide),t81]
  rw [e]at this
  exact this
 refine .slide (Sm.val (main:=true) (cs:=cs) gb_kind (a:=⟨(T8.setIfInBounds 9 (.pointer (some ⟨A+5,0,none⟩))).setIfInBounds 17 (.int .i64 W),[]⟩) (ops:=o4) (i:=1) (rest:=[]) (k:=[.code (.block 0 (.loop cF)),.code c5]) (o:=o4.getD 1 default) (v:=.int .i64 0) rfl rfl fun w=>run_move _ (o4.getD 1 default) (.const (.int .i64 0)) rfl w) ?_
 refine .slide (.step rfl (fun w=>stepG_region_end) (.step rfl (fun w=>stepG_block) (.one rfl (fun w=>stepG_loop)))) ?_
 have eT:T1G T A W=((T8.setIfInBounds 9 (.pointer (some ⟨A+5,0,none⟩))).setIfInBounds 17 (.int .i64 W)).setIfInBounds 18 (.int .i64 0):=by rw [hT8,hT5];rfl
 have eW:w1G w n W f=w6.alloc (wgBlock lnk.tWg 0 0):=by
  have e5:w5.heap=(((w.heap.push (.cells #[.int .i64 n] tI)).push (.cells #[f] tF)).push (.chan 0 #[] false 0 0 false)).push (.cells #[.chan (some (A+2))] tC):=by
   rw [hw5,hw4,hw2]
   simp only [World.setCell,World.alloc]
   apply Array.ext_getElem?
   intro j
   rw [Array.getElem?_modify]
   have hs:(((w.heap.push (.cells #[.int .i64 n] tI)).push (.cells #[f] tF)).push (.chan 0 #[] false 0 0 false)).size=A+3:=by simp [hA]
   split
   ·rename_i e
    subst e
    rw [←hs,Array.getElem?_push_size,Array.getElem?_push_size]
    rfl
   ·rename_i e
    exact push_ne _ _ _ (by rw [hs];exact fun h=>e h.symm)
  have er:w5.tape=w.tape∧w5.drawn=w.drawn∧w5.os=w.os∧w5.output=w.output:=by
   rw [hw5,hw4,hw2];exact⟨rfl,rfl,rfl,rfl⟩
  rw [hw6]
  unfold w1G World.alloc
  rw [←hA]
  obtain⟨h5,t5,d5,os5,out5⟩:=w5
  obtain⟨e1,e2,e3,e4⟩:=er
  simp only at e5 e1 e2 e3 e4
  subst e5 e1 e2 e3 e4
  rfl
 rw [←hA,eT,eW]at k
 exact k
end
end Go.Proofs.YtngdldcgkaplbaaGreat.Gt
namespace Go.Proofs.YtngdldcgkaplbaaGreat.Gt
open Go Go.Conc Go.Conc.Lib
open Go.ConcN (ShN RelBy upd upd_same upd_ne WgLive WD CTag isOpen isW3 isFin pend Vc cnt sumTo OpenSt AllQuit)
open Go.ConcR (KK WgAt wgBlock stA smA)
open Lk Fw
def plainB:Value→Bool
 | .int .. | .bool _=>true
 |_=>false
theorem plain_vr {r:Map}{x y:Value}(hx:plainB x=true)(h:VR FF r x y):y=x:=by
 cases h<;>first|rfl|cases hx
theorem plain_self {r:Map}{x:Value}(hx:plainB x=true):VR FF r x x:=by
 cases x<;>first|exact .int _ _|exact .bool _|cases hx
theorem plain_va {r:Map}{cs:Array Value}(h:∀ (i:Nat) x,cs[i]?=some x→plainB x=true):VA FF r cs cs:=⟨rfl,fun i x y h1 h2=>by
 rw [h1]at h2
 injection h2 with h2
 subst h2
 exact plain_self (h i x h1)⟩
theorem zShare_plain:zShare.cells.size=145∧zShare.cells.all plainB=true:=by decide +kernel
theorem zShare_at (i:Nat)(x:Value)(h:zShare.cells[i]?=some x):plainB x=true:=Array.all_eq_true'.1 zShare_plain.2 x (Array.mem_of_getElem? h)
theorem made_at {W i o:Nat}(hi:i < W)(ho:o < 145):(madeCells zShare.cells (W*145))[145*i+o]?=zShare.cells[o]?:=by
 have h1:=zShare_plain.1
 have hlt:145*i+o<W*145:=by omega
 have h2:(145*i+o)%145=o:=by omega
 unfold madeCells
 rw [h1]
 simp [Array.getElem?_map,hlt,h2,h1,ho]
section
variable {c:Cf} {cs:List Frame} {Post:Value→World→Prop} {gs:Array Goroutine} {w:World} {sl:Option (Nat×Nat)} {t:Trace} {q:Nat→Nat} {d:Nat} {a:Goroutine}
theorem w1_get {w:World}{n:Int}{W:Nat}{f:Value} :
  (∀B,B<w.heap.size→(w1G w n W f).heap[B]?=w.heap[B]?)∧(w1G w n W f).heap[w.heap.size]?=some (.cells #[.int .i64 n] tI (0,0))∧(w1G w n W f).heap[w.heap.size+1]?=some (.cells #[f] tF (0,0)) ∧
  (w1G w n W f).heap[w.heap.size+2]?=some (.chan 0 #[] false 0 0 false)∧(w1G w n W f).heap[w.heap.size+3]?=some (.cells #[.chan (some (w.heap.size+2))] tC (0,0)) ∧
  (w1G w n W f).heap[w.heap.size+4]?=some (.cells (madeCells zShare.cells (W*145)) tS (0,0))∧(w1G w n W f).heap[w.heap.size+5]?=some (wgBlock lnk.tWg 0 0)∧(w1G w n W f).heap.size=w.heap.size+6:=by
 unfold w1G
 refine⟨fun B hB=>?_,?_,?_,?_,?_,?_,?_,by simp⟩
 all_goals simp only [Array.getElem?_push,Array.size_push]
 ·rw [if_neg (by omega),if_neg (by omega),if_neg (by omega),if_neg (by omega),if_neg (by omega),if_neg (by omega)]
 ·rw [if_neg (by omega),if_neg (by omega),if_neg (by omega),if_neg (by omega),if_neg (by omega),if_pos trivial]
 ·rw [if_neg (by omega),if_neg (by omega),if_neg (by omega),if_neg (by omega),if_pos trivial]
 ·rw [if_neg (by omega),if_neg (by omega),if_neg (by omega),if_pos trivial]
 ·rw [if_neg (by omega),if_neg (by omega),if_pos trivial]
 ·rw [if_neg (by omega),if_pos trivial]
 ·rw [if_pos trivial]
theorem wd_start (hZ:c.Z=zShare.cells):Wd c false ((w1G c.w0 c.n c.W c.f').at d)∧Zs c 0 ((w1G c.w0 c.n c.W c.f').at d)∧WgAt lnk.tWg (c.p.A+5) ((w1G c.w0 c.n c.W c.f').at d) 0 0:=by
 obtain⟨h1,h2,h3,h4,h5,h6,h7,h8⟩:=w1_get (w:=c.w0) (n:=c.n) (W:=c.W) (f:=c.f')
 rw [←c.hA]at h1 h2 h3 h4 h5 h6 h7 h8
 refine⟨⟨Nat.le_of_eq h8.symm,h1,h2,h3,⟨0,0,h4⟩,h5,⟨_,h6,by rw [size_madeCells];omega⟩,⟨rfl,rfl,rfl⟩⟩,fun i _ hi2 o ho cs hc=>?_,h7⟩
 have hc:(w1G c.w0 c.n c.W c.f').heap[c.p.A+4]?=_:=hc
 rw [h6]at hc
 injection hc with hc
 injection hc with hc _ _
 subst hc
 rw [made_at hi2 ho,hZ]
theorem tm_start {ff:Fn}{xs us:Array Value}(hf:c.f'=.func ff xs us):Tm c (T1G (T0G c.n c.W c.f') c.p.A c.W)∧(T1G (T0G c.n c.W c.f') c.p.A c.W).getD 18 undef=.int .i64 ((0:Nat):Int):=by
 have hz:(T0G c.n c.W c.f').size=75:=by simp [T0G]
 have hok:∀(i:Nat) (x:Value),(T0G c.n c.W c.f')[i]?=some x→Kn c x:=by
  intro i x hx
  unfold T0G at hx
  rw [Array.getElem?_append]at hx
  split at hx
  ·rename_i hi
   simp at hi
   match i,hi with
   |0,_=>simp at hx;subst hx;exact .int _ _
   |1,_=>simp at hx;subst hx;exact .int _ _
   |2,_=>simp at hx;subst hx;rw [hf];exact .func _ _ _
  ·rw [Array.getElem?_replicate]at hx
   split at hx
   ·injection hx with hx;subst hx;exact .undef
   ·cases hx
 generalize T0G c.n c.W c.f'=T at *
 have set:∀(T:Array Value) (i:Nat) (x:Value),(∀(i:Nat) (x:Value),T[i]?=some x→Kn c x)→Kn c x→∀(j:Nat) (y:Value),(T.setIfInBounds i x)[j]?=some y→Kn c y:=by
  intro T i x h hx j y hy
  rw [Array.getElem?_setIfInBounds]at hy
  split at hy
  ·split at hy
   ·injection hy with hy;subst hy;exact hx
   ·cases hy
  ·exact h j y hy
 unfold T1G
 refine⟨⟨by simp [hz],?_,?_,?_,?_,?_,?_,?_⟩,?_⟩
 ·simp only [gset,Array.size_setIfInBounds,hz,show(18:Nat)<75 by decide,show(17:Nat)<75 by decide,show(9:Nat)<75 by decide,show(8:Nat)<75 by decide,show(16:Nat)<75 by decide,show(15:Nat)<75 by decide,show(7:Nat)<75 by decide,show(14:Nat)<75 by decide,show(6:Nat)<75 by decide,show(5:Nat)<75 by decide,show(3:Nat)<75 by decide]
  rfl
 ·simp only [gset,Array.size_setIfInBounds,hz,show(18:Nat)<75 by decide,show(17:Nat)<75 by decide,show(9:Nat)<75 by decide,show(8:Nat)<75 by decide,show(16:Nat)<75 by decide,show(15:Nat)<75 by decide,show(7:Nat)<75 by decide,show(14:Nat)<75 by decide,show(6:Nat)<75 by decide,show(5:Nat)<75 by decide,show(3:Nat)<75 by decide]
  rfl
 ·simp only [gset,Array.size_setIfInBounds,hz,show(18:Nat)<75 by decide,show(17:Nat)<75 by decide,show(9:Nat)<75 by decide,show(8:Nat)<75 by decide,show(16:Nat)<75 by decide,show(15:Nat)<75 by decide,show(7:Nat)<75 by decide]
  rfl
 ·simp only [gset,Array.size_setIfInBounds,hz,show(18:Nat)<75 by decide,show(17:Nat)<75 by decide,show(9:Nat)<75 by decide,show(8:Nat)<75 by decide]
  rfl
 ·simp only [gset,Array.size_setIfInBounds,hz,show(18:Nat)<75 by decide,show(17:Nat)<75 by decide,show(9:Nat)<75 by decide]
  rfl
 ·simp only [gset,Array.size_setIfInBounds,hz,show(18:Nat)<75 by decide,show(17:Nat)<75 by decide]
  rfl
 ·exact set _ _ _ (set _ _ _ (set _ _ _ (set _ _ _ (set _ _ _ (set _ _ _ (set _ _ _ (set _ _ _ (set _ _ _ (set _ _ _ (set _ _ _ hok (.ptr _)) (.ptr _)) ⟨_,.nilp⟩) (.chan _)) (.ptr _)) (.int _ _)) (.slice _ _)) (.slice _ _)) (.ptr _)) (.int _ _)) (.int _ _)
 ·simp only [gset,Array.size_setIfInBounds,hz,show(18:Nat)<75 by decide]
  rfl
theorem inv_start (hZ:c.Z=zShare.cells){ff:Fn}{xs us:Array Value}(hf:c.f'=.func ff xs us)(hn:gs.size=c.p.N0)(h0:gs[0]?=some (G (gw (T1G (T0G c.n c.W c.f') c.p.A c.W) (.code cF::kF)) cs))(hL:Leavers P t gs q)(hP:Past (ShB c.p.Sb) (c.p.A+5) t)(ht:c.p.t0=t) :
  ∃μ,Inv c cs μ gs ((w1G c.w0 c.n c.W c.f').at d) t:=by
 obtain⟨hwd,hzs,hwg⟩:=wd_start (c:=c) (d:=d) hZ
 obtain⟨hT,h18⟩:=tm_start hf
 have hz:=hT.size
 have sl:=(slide_fork (cs:=cs) ((0:Nat):Int) (c.W:Int) hz h18 hT.t17 (by have:=c.hW1;omega)).trans (slide_add (cs:=cs) (hT.fork _))
 have hbig:=hwd.big
 have htl:TL (ShN (c.p.A+5)) (ShB c.p.Sb) (OwnF c.p 0 fun _=>c.r) (RdF c.p 0) t:=by
  have h1:=TL.start (Sh:=ShN (c.p.A+5)) (Ob:=ShB c.p.Sb) hP (fun l hl=>?_) (fun _ h=>h) (fun _ h=>.inl h)
  ·exact h1.grow (fun _ _ h=>h.elim) (fun k l ⟨i,hi,_⟩=>absurd hi (Nat.not_lt_zero _)) (fun _ _ h=>h.elim) (fun k l ⟨i,hi,_⟩=>absurd hi (Nat.not_lt_zero _))
  ·obtain⟨ad,rfl,had⟩:=hl
   intro i x hx e
   obtain⟨op,ho,hox⟩:=touch_of hx
   have hlo:=hP.seen op (Array.mem_of_getElem? ho)
   cases hact:op.act with
   |access ev=>
    rw [hact]at hox hlo
    simp only [MemAct.touch?,Option.some.injEq]at hox
    subst hox
    have e:ev.loc=.cell ad:=e
    have hlo:ev.loc.low (c.p.A+5):=hlo
    rw [e]at hlo
    have hlo:ad.block<c.p.A+5:=hlo
    omega
   |mark mk=>
    rw [hact]at hox hlo
    cases mk<;>simp only [MemAct.touch?,Option.some.injEq,reduceCtorEq]at hox
    all_goals
     subst hox
     have e:=Loc.cell.inj e
     subst e
     have hlo:_<c.p.A+5:=hlo
     omega
   |_=>rw [hact]at hox;cases hox
 have hcom:Com c 0 false gs ((w1G c.w0 c.n c.W c.f').at d) t (fun _=>⟨7,0,0⟩) (fun _=>(19,7,nd0)) (fun _=>c.r) (fun _=>c.v) (fun _=>[]) q 0:=by
  refine⟨hn,fun k g hk hkN hg=>hL.old k g hk hg,fun i hi=>absurd hi (Nat.not_lt_zero _),⟨htl,fun op hop=>MemAct.low_mono (by omega) (hP.seen op hop),⟨#[],by rw [ht];simp,fun op hop=>by simp at hop⟩,fun i hi=>?_⟩,fun i _ _ hi=>absurd hi (Nat.not_lt_zero _),hwd,hP.hears,fun i hi=>absurd hi (Nat.not_lt_zero _),hL.above,fun i hi=>absurd hi (Nat.not_lt_zero _),fun hc=>(by cases hc),hzs⟩
  obtain⟨op,ho,hoa⟩:=Option.map_eq_some_iff.1 hi
  have:=hP.seen op (Array.mem_of_getElem? ho)
  rw [hoa]at this
  have:c.p.A+5<c.p.A+5:=this
  omega
 refine⟨_,0,false,_,_,_,_,_,q,.fk 0 6,17,0,0,_,0,0,⟨h0,.f6 (by have:=c.hW1;omega) (hT.fork _) ?_ ?_ sl,hcom,hwg,?_,List.Perm.refl _,Nat.zero_le _,fun e=>(by cases e),fun _ i hi=>absurd hi (Nat.not_lt_zero _),fun e=>(by cases e)⟩,rfl⟩
 ·unfold forkT
  rw [getD_ne (by decide),getD_ne (by decide),getD_ne (by decide)];exact h18
 ·unfold forkT
  rw [getD_set _ _ _ _ (by simp;omega),if_pos rfl]
 ·have e:(0:Int)=((Vc 0 (fun _=>(⟨7,0,0⟩:WD))+pend (.sp 0 5):Nat):Int)*KK:=by simp [Vc,sumTo,pend]
  show Go.ConcN.Mode 0 _ (.sp 0 5) 0 0
  conv=>arg 4;rw [e]
  exact .opn trivial (fun i hi=>absurd hi (Nat.not_lt_zero _)) (by simp)
theorem inv_end (hpl:∀ acc cs,c.Sh acc cs→∀ (i:Nat) x,cs[i]?=some x→plainB x=true)(hP0:Past (ShB c.p.Sb) (c.p.A+5) c.p.t0){D:Nat→WD}{m:Nat→WM}{rs:Nat→Map}{vs:Nat→World}{tk:Nat→List Nat}{f0 d0:Nat}{st sm:Int}
  (h:IV c cs gs w t c.W true D m rs vs tk q .rt f0 d0 c.M a st sm):
  (∃q',Leavers P t gs q')∧Past (ShB (Sb1 c.p)) w.heap.size t∧∃cs4,w.heap[c.p.A+4]?=some (.cells cs4 tS (0,0))∧cs4.size=145*c.W∧∀i,i<c.W→c.Sh (tk i) (cs4.extract (145*i) (145*i+145)):=by
 have hN:=c.p.hN
 obtain⟨hq,_,_⟩:=h.mode.fin_inv trivial
 have hd0:d0=0:=by
  have hs:=h.sit
  generalize hkk:c.M=kk at hs
  cases hs with
  |rt _=>rfl
 have wk:∀i,i<c.W→∃g,gs[c.p.N0+i]?=some g∧Rest c i (rs i) (vs i) (tk i) w∧∃qq,QuitsD P qq (Deaf t (c.p.N0+i)) g:=fun i hi=>by
  obtain⟨g,hg,hs⟩:=h.com.wk i hi
  have hdf:=h.com.deafW i hi
  rw [hq i hi]at hs
  generalize hmi:m i=μ at hs
  generalize hde:(D i).deaf=dd at hs hdf
  generalize hti:tk i=ti at hs
  cases hs with
  |quit hR hk=>exact⟨g,hg,hR,_,by rw [hdf];exact hk⟩
 refine⟨⟨fun j=>Classical.epsilon fun qq=>∃g,gs[j]?=some g∧QuitsD P qq (Deaf t j) g,fun j g hj hg=>?_,h.com.above⟩,?_,?_⟩
 ·have hex:∃qq g,gs[j]?=some g∧QuitsD P qq (Deaf t j) g:=by
   by_cases hjN:j<c.p.N0
   ·exact⟨_,g,hg,h.com.old j g hj hjN hg⟩
   ·have hlt:=(Array.getElem?_eq_some_iff.1 hg).1
    have hsz:=h.com.size
    obtain⟨g',hg',_,qq,hqq⟩:=wk (j-c.p.N0) (by omega)
    rw [show c.p.N0+(j-c.p.N0)=j by omega]at hg' hqq
    exact⟨qq,g',hg',hqq⟩
  obtain⟨g',hg',hqq⟩:=Classical.epsilon_spec hex
  rw [hg]at hg'
  obtain rfl:=Option.some.inj hg'
  exact hqq
 ·obtain⟨x,hx1,hx2,hx3,hx4⟩:=h.acq rfl
  obtain⟨u,hu1,hu2⟩:=h.com.tc.part
  have hlow:=h.com.tc.low
  have hnr:=h.com.tc.norel
  have hr:=h.com.tc.tl.nr
  have hd:=h.com.deaf0
  rw [hd0]at hd
  subst hu1
  exact past_end hP0 hr (fun op hop=>by
   rcases(hu2 op hop).1 with h1|h1|⟨i,hi,h1⟩
   ·exact .inl h1
   ·exact .inr (.inl h1)
   ·obtain⟨r,hr1,hr2⟩:=hx4 i hi
    exact .inr (.inr ⟨r,by rw [h1];exact hr1,hr2⟩)) (fun op hop=>(hu2 op hop).2) (fun l hl=>by
   cases l with
   |cell ad=>exact .inl hl
   |obj b=>exact .inl hl
   |_=>exact hl) hx1 hx2 hx3 hnr hd hlow
 ·obtain⟨cs4,h4,h5⟩:=h.com.wd.sb
  refine⟨cs4,h4,h5,fun i hi=>?_⟩
  obtain⟨g,_,hR,_⟩:=wk i hi
  obtain⟨cs,k1,k2,k3⟩:=hR.gw.sh
  have:cs4.extract (145*i) (145*i+145)=cs:=by
   rcases hR.wr.live _ _ _ hR.zn.shm with ⟨cs0,e,lo,hi',cs',e',lo',hi'',g1,g2,g3,g4,_⟩|⟨a,a',lost,g1,_⟩
   ·rw [k1]at g1
    injection g1 with g1
    injection g1 with g1 _ _
    subst g1
    rw [h4]at g2
    injection g2 with g2
    injection g2 with g2 _ _
    subst g2
    apply Array.ext_getElem?
    intro o
    rw [Array.getElem?_extract]
    by_cases ho:o<145
    ·obtain⟨x,hx⟩:∃x,cs[o]?=some x:=⟨_,Array.getElem?_eq_getElem (by omega)⟩
     obtain⟨x',hx1,hx2⟩:=g4 o x hx
     rw [if_pos (by omega),hx1,hx,plain_vr (hpl _ _ k3 o x hx) hx2]
    ·rw [if_neg (by omega),Array.getElem?_eq_none (by omega)]
   ·rw [k1]at g1;cases g1
  rw [this]
  exact k3
end
end Go.Proofs.YtngdldcgkaplbaaGreat.Gt
namespace Go.Proofs.YtngdldcgkaplbaaGreat.Gt
open Go Go.Conc
open Lk
structure Ip where
 B:Nat
 T:TypeId
 A:List Value
 cs:List Value
 C:List Value
def Ip.box (p:Ip):Bx:=⟨p.B,p.T,p.A++p.cs++p.C⟩
def Ip.ptr (p:Ip):Value:=.pointer (some ⟨p.B,p.A.length,none⟩)
def Ip.turn (p:Ip)(d:List Value):Ip:={ p with cs:=d }
noncomputable def gz:Nat:=P.globals.size
noncomputable def gW0 (w:World):World:={ w with heap:=w.heap.extract 0 gz }
noncomputable def gObj (p:Ip):Obj:=.cells p.cs.toArray bog (0,0)
noncomputable def gW (ps:List Ip)(w:World):World:={ w with heap:=w.heap.extract 0 gz++(ps.map gObj).toArray }
noncomputable def gM (ps:List Ip):Map:=fun b=>if gz≤b then(ps[b-gz]?).map fun p=>(p.B,p.A.length)else none
noncomputable def gBox (i:Nat)(p:Ip):Bx:=⟨gz+i,bog,p.cs⟩
noncomputable def gPtr (i:Nat):Value:=.pointer (some ⟨gz+i,0,none⟩)
section
variable {ps:List Ip} {w0 w w1:World} {L:List Bx} {W:List Sw}
theorem gM_some {b B s:Nat}(h:gM ps b=some (B,s)):∃i p,b=gz+i∧ps[i]?=some p∧B=p.B∧s=p.A.length:=by
 unfold gM at h
 split at h
 ·rename_i hb
  cases hp:ps[b-gz]? with
  |none=>rw [hp]at h;cases h
  |some p=>
   rw [hp]at h
   simp only [Option.map_some,Option.some.injEq,Prod.mk.injEq]at h
   exact⟨b-gz,p,by omega,hp,h.1.symm,h.2.symm⟩
 ·cases h
theorem gM_at {i:Nat}{p:Ip}(h:ps[i]?=some p):gM ps (gz+i)=some (p.B,p.A.length):=by
 unfold gM
 rw [if_pos (by omega),show gz+i-gz=i by omega,h]
 rfl
theorem gW_size (hg:gz≤w.heap.size):(w.heap.extract 0 gz).size=gz:=by simp;omega
theorem gW_at (hg:gz≤w.heap.size){i:Nat}{p:Ip}(h:ps[i]?=some p):(gW ps w).heap[gz+i]?=some (gObj p):=by
 show(w.heap.extract 0 gz++(ps.map gObj).toArray)[gz+i]?=_
 rw [Array.getElem?_append_right (by rw [gW_size hg];omega),gW_size hg,show gz+i-gz=i by omega]
 simp [h]
theorem gW_old (hg:gz≤w.heap.size){b:Nat}(h:b < gz):(gW ps w).heap[b]?=(gW0 w).heap[b]?:=by
 show(w.heap.extract 0 gz++(ps.map gObj).toArray)[b]?=(w.heap.extract 0 gz)[b]?
 rw [Array.getElem?_append_left (by rw [gW_size hg];exact h)]
theorem box_at {i:Nat}{p:Ip}(h:ps[i]?=some p):(ps.map Ip.box++L)[i]?=some p.box:=by
 have hi:i<ps.length:=(List.getElem?_eq_some_iff.1 h).1
 rw [List.getElem?_append_left (by simpa using hi),List.getElem?_map,h]
 rfl
theorem ip_one (hO:Own w0 (ps.map Ip.box++L) W w){i j:Nat}{p q:Ip}(hp:ps[i]?=some p)(hq:ps[j]?=some q)(h:p.B=q.B):i=j:=by
 have hi:i<ps.length:=(List.getElem?_eq_some_iff.1 hp).1
 have hn:=hO.2.2.1
 refine(List.getElem?_inj (l:=(ps.map Ip.box++L).map Bx.g) (by simp;omega) hn).1 ?_
 rw [List.getElem?_map,List.getElem?_map,box_at hp,box_at hq]
 exact congrArg some h
theorem ip_own (hO:Own w0 (ps.map Ip.box++L) W w){i:Nat}{p:Ip}(hp:ps[i]?=some p):w0.heap.size≤p.B∧w.heap[p.B]?=some (.cells (p.A++p.cs++p.C).toArray p.T (0,0))∧(p.A++p.cs++p.C).any isU=false:=by
 have:=hO.2.1 _ (List.mem_of_getElem? (box_at (L:=L) hp))
 exact this
theorem gWR (hg:gz≤w0.heap.size)(hpl:∀ p∈ps,p.cs.all plainB=true)(hO:Own w0 (ps.map Ip.box++L) W w):WR P FF (gM ps) (gW ps w) w:=by
 have hgw:gz≤w.heap.size:=Nat.le_trans hg hO.1.size
 refine⟨fun b B s hb=>?_,⟨?_,hgw⟩,fun b B s hb=>?_,fun b b' B s s' o o' hb hb' ho ho' e=>?_⟩
 ·obtain⟨i,p,rfl,hp,rfl,rfl⟩:=gM_some hb
  have:=(ip_own hO hp).1
  exact⟨by show gz≤gz+i;omega,by show gz≤p.B;omega⟩
 ·show gz≤(w.heap.extract 0 gz++(ps.map gObj).toArray).size
  rw [Array.size_append,gW_size hgw]
  omega
 ·obtain⟨i,p,rfl,hp,rfl,rfl⟩:=gM_some hb
  refine .inl ⟨p.cs.toArray,bog,0,0,_,p.T,0,0,gW_at hgw hp,(ip_own hO hp).2.1,by simp,fun o x hx=>?_,fun o _ _=>by omega,.inr bog_none⟩
  have hx:p.cs[o]?=some x:=by simpa using hx
  have ho:o<p.cs.length:=(List.getElem?_eq_some_iff.1 hx).1
  refine⟨x,?_,plain_self (List.all_eq_true.1 (hpl p (List.mem_of_getElem? hp)) x (List.mem_of_getElem? hx))⟩
  show(p.A++p.cs++p.C).toArray[p.A.length+o]?=some x
  rw [List.getElem?_toArray,List.append_assoc,List.getElem?_append_right (by omega),show p.A.length+o-p.A.length=o by omega,List.getElem?_append_left ho,hx]
 ·obtain⟨i,p,rfl,hp,rfl,rfl⟩:=gM_some hb
  obtain⟨j,q,rfl,hq,h1,rfl⟩:=gM_some hb'
  obtain rfl:=ip_one hO hp hq h1
  rw [hp]at hq
  injection hq with hq
  subst hq
  exact⟨rfl,by omega⟩
theorem own_tp {T:Tape}(h:Own w0 L W w):Own (tp w0 T) L W (tp w T):=⟨⟨h.1.os,rfl,h.1.output,h.1.size,h.1.block⟩,h.2.1,h.2.2.1,h.2.2.2⟩
theorem gOwn (hg:gz≤w0.heap.size)(hO:Own w0 (ps.map Ip.box++L) W w):Own (gW0 w) (ps.mapIdx gBox) [] (gW ps w):=by
 have hgw:gz≤w.heap.size:=Nat.le_trans hg hO.1.size
 have hsz:(gW0 w).heap.size=gz:=gW_size hgw
 refine⟨⟨rfl,rfl,rfl,?_,fun k hk=>?_⟩,fun b hb=>?_,?_,fun s hs=>by cases hs⟩
 ·rw [hsz]
  show gz≤(w.heap.extract 0 gz++(ps.map gObj).toArray).size
  rw [Array.size_append,gW_size hgw]
  omega
 ·rw [hsz]at hk
  exact gW_old hgw hk
 ·obtain⟨i,hi⟩:=List.getElem?_of_mem hb
  rw [List.getElem?_mapIdx]at hi
  cases hp:ps[i]? with
  |none=>rw [hp]at hi;cases hi
  |some p=>
   rw [hp]at hi
   injection hi with hi
   subst hi
   refine⟨by rw [hsz];exact Nat.le_add_right _ _,gW_at hgw hp,?_⟩
   have h3:=(ip_own hO hp).2.2
   rw [List.any_append,List.any_append,Bool.or_eq_false_iff,Bool.or_eq_false_iff]at h3
   exact h3.1.2
 ·have:(ps.mapIdx gBox).map Bx.g=(List.range ps.length).map (gz+·):=by
   apply List.ext_getElem?
   intro i
   rw [List.getElem?_map,List.getElem?_mapIdx,List.getElem?_map]
   by_cases hi:i<ps.length
   ·rw [List.getElem?_range hi,List.getElem?_eq_getElem hi];rfl
   ·rw [List.getElem?_eq_none (by omega),List.getElem?_eq_none (by simp;omega)];rfl
  rw [this]
  exact List.Pairwise.map _ (fun a b h e=>h (by omega)) List.nodup_range
theorem gfar {r1:Map}{v1:World}(hs:Sg P FF (gM ps) r1 (gW ps w) v1 w w1){B:Nat}(hB:B < w.heap.size)(hn:∀ p∈ps,p.B≠B):w1.heap[B]?=w.heap[B]?:=by
 have hx:=Array.getElem?_eq_getElem hB
 rcases hs.rkeep B _ hx with ⟨cs,e,fz,cs1,h1,h2,h3,h4⟩|h1
 ·rw [hx,h1,h2]
  have:cs1=cs:=by
   apply Array.ext_getElem?
   intro o
   refine h4 o fun hm=>?_
   obtain⟨b,s,o0,k1,k2,k3⟩:=hm
   obtain⟨i,p,rfl,hp,k4,k5⟩:=gM_some k1
   exact hn p (List.mem_of_getElem? hp) k4.symm
  rw [this]
 ·rw [hx,h1]
theorem gnear (hO:Own w0 (ps.map Ip.box++L) W w)(hg:gz≤w0.heap.size){r1:Map}{v1:World}(hs:Sg P FF (gM ps) r1 (gW ps w) v1 w w1){i:Nat}{p:Ip}(hp:ps[i]?=some p){d:List Value}
  (hv:v1.heap[gz+i]?=some (.cells d.toArray bog (0,0))) (hd:d.all plainB=true) (hl:d.length=p.cs.length):w1.heap[p.B]?=some (.cells (p.A++d++p.C).toArray p.T (0,0)):=by
 have hgw:gz≤w.heap.size:=Nat.le_trans hg hO.1.size
 obtain⟨cs1,h1,h2,h3⟩:∃cs1:Array Value,w1.heap[p.B]?=some (.cells cs1 p.T (0,0))∧cs1.size=(p.A++p.cs++p.C).length∧∀o,¬Mine (gM ps) (gW ps w) p.B o→cs1[o]?=(p.A++p.cs++p.C)[o]?:=by
  rcases hs.rkeep p.B _ (ip_own hO hp).2.1 with ⟨cs,e,fz,cs1,e1,h2,h3,h4⟩|h1
  ·injection e1 with e1 e2 e3
   subst e1 e2 e3
   exact⟨cs1,h2,by rw [h3];simp,fun o ho=>by rw [h4 o ho];simp⟩
  ·exact⟨_,h1,by simp,fun o ho=>by simp⟩
 have hne:∀o,(o<p.A.length∨p.A.length+p.cs.length≤o)→¬Mine (gM ps) (gW ps w) p.B o:=by
  intro o ho hm
  obtain⟨b,s,o0,k1,k2,k3⟩:=hm
  obtain⟨j,q,rfl,hq,k4,k5⟩:=gM_some k1
  obtain rfl:=ip_one hO hp hq k4
  rw [hp]at hq
  injection hq with hq
  subst hq
  obtain⟨x,hx⟩:=k3.1
  unfold World.cell? at hx
  rw [gW_at hgw hp]at hx
  have hx:p.cs.toArray[o0]?=some x:=hx
  have:o0<p.cs.length:=by simpa using (Array.getElem?_eq_some_iff.1 hx).1
  omega
 have hmid:∀o x,d[o]?=some x→cs1[p.A.length+o]?=some x:=by
  intro o x hx
  rcases hs.wr.live _ _ _ (hs.le _ _ (gM_at hp))with ⟨cs,e,lo,hi,cs',e',lo',hi',k1,k2,k3,k4,_⟩|⟨a,a',lost,k1,_⟩
  ·rw [hv]at k1
   rw [h1]at k2
   injection k1 with k1
   injection k1 with k1
   injection k2 with k2
   injection k2 with k2
   subst k1 k2
   obtain⟨x',k5,k6⟩:=k4 o x (by simpa using hx)
   rw [plain_vr (List.all_eq_true.1 hd x (List.mem_of_getElem? hx)) k6]at k5
   exact k5
  ·rw [hv]at k1
   cases k1
 have:cs1=(p.A++d++p.C).toArray:=by
  apply Array.ext_getElem?
  intro o
  have eA:(p.A++d++p.C).toArray[o]?=(p.A++d++p.C)[o]?:=by simp
  rw [eA,List.append_assoc]
  by_cases a1:o<p.A.length
  ·rw [h3 o (hne o (.inl a1)),List.append_assoc,List.getElem?_append_left a1,List.getElem?_append_left a1]
  ·by_cases a2:o<p.A.length+p.cs.length
   ·have a3:o-p.A.length<d.length:=by omega
    have:=hmid (o-p.A.length) _ (List.getElem?_eq_getElem a3)
    rw [show p.A.length+(o-p.A.length)=o by omega]at this
    rw [this,List.getElem?_append_right (by omega),List.getElem?_append_left a3,List.getElem?_eq_getElem a3]
   ·rw [h3 o (hne o (.inr (by omega))),List.append_assoc,List.getElem?_append_right (by omega),List.getElem?_append_right (by omega),List.getElem?_append_right (by omega),List.getElem?_append_right (by omega),hl]
 rw [h1,this]
def Cl (x:Value):Prop:=∀r y,VR FF r x y→y=x
def Sf (x:Value):Prop:=∀r,VR FF r x x
theorem cl_float (k:FloatKind)(n:Nat):Cl (.float k n):=fun r y h=>by cases h;rfl
theorem cl_unit:Cl (.tuple #[]):=fun r y h=>by
 cases h with
 | @tuple xs ys h1 h2=>
  have:ys=#[]:=Array.eq_empty_of_size_eq_zero (by rw [←h1];rfl)
  rw [this]
theorem sf_float (k:FloatKind)(n:Nat):Sf (.float k n):=fun r=>.float _ _
theorem sf_int (k:IntKind)(n:Int):Sf (.int k n):=fun r=>.int _ _
theorem inner_calls {f:FuncId}(hf:GG f){ds:List (List Value)}{rest:List Value}{Rx:Value→Prop}(hg:gz≤w0.heap.size)(hpl:∀ p∈ps,p.cs.all plainB=true)
  (hd:ds.length=ps.length∧∀(i:Nat) p d,ps[i]?=some p→ds[i]?=some d→d.all plainB=true∧d.length=p.cs.length∧d.any isU=false) (hrest:∀x∈rest,Sf x) (hx:∀x,Rx x→Cl x) (hO:Own w0 (ps.map Ip.box++L) W w)
  (h:∀u0 u,Own u0 (ps.mapIdx gBox) [] u→Calls P f ((ps.mapIdx fun i _=>gPtr i)++rest).toArray u fun e u'=>∃x,e=.returned x∧Rx x∧Own u0 ((List.zipWith Ip.turn ps ds).mapIdx gBox) [] u'):
  Calls P f (ps.map Ip.ptr++rest).toArray w fun e w'=>∃x,e=.returned x∧Rx x∧Own w0 ((List.zipWith Ip.turn ps ds).map Ip.box++L) W w':=by
 have hgw:gz≤w.heap.size:=Nat.le_trans hg hO.1.size
 have hw:=gWR hg hpl hO
 have hu:=gOwn hg hO
 have ha:VA FF (gM ps) ((ps.mapIdx fun i _=>gPtr i)++rest).toArray (ps.map Ip.ptr++rest).toArray:=by
  refine VA.of_list (by simp) fun i x y h1 h2=>?_
  by_cases hi:i<ps.length
  ·rw [List.getElem?_append_left (by simpa using hi),List.getElem?_mapIdx,List.getElem?_eq_getElem hi]at h1
   rw [List.getElem?_append_left (by simpa using hi),List.getElem?_map,List.getElem?_eq_getElem hi]at h2
   injection h1 with h1
   injection h2 with h2
   subst h1 h2
   exact .ptr ⟨gz+i,0,ps[i].B,ps[i].A.length,rfl,gM_at (List.getElem?_eq_getElem hi),by rw [Nat.zero_add]⟩
  ·rw [List.getElem?_append_right (by simpa using hi)]at h1 h2
   rw [show(ps.mapIdx fun i _=>gPtr i).length=ps.length by simp]at h1
   rw [show(ps.map Ip.ptr).length=ps.length by simp,h1]at h2
   injection h2 with h2
   subst h2
   exact hrest x (List.mem_of_getElem? h1) _
 have ht:Tr P (Lk.Left P f fun x v1=>Rx x∧∃U,Own (tp (gW0 w) U) ((List.zipWith Ip.turn ps ds).mapIdx gBox) [] v1) (Frame.enter P f ((ps.mapIdx fun i _=>gPtr i)++rest).toArray .normal) [catcher P] (gW ps w):=by
  refine tree_of_calls hFb hF hG hf hw.left ha.left (fun x v T hR=>⟨hR.1,hR.2.elim fun U hU=>⟨T,own_tp (w0:=tp (gW0 w) U) (T:=T) hU⟩⟩) fun T hT=>?_
  refine(h (tp (gW0 w) T) (tp (gW ps w) T) (own_tp hu)).mono ?_
  rintro e w' ⟨x,rfl,h1,h2⟩
  exact⟨h1,T,h2⟩
 refine(calls_lift hFb hF hG hf hw ha ht).mono ?_
 intro e w1 he
 cases e with
 |panicked c=>exact he.elim
 |outgrown=>exact he.elim
 |returned x'=>
  obtain⟨x,v1,r1,⟨hR,U,hO1⟩,hv,hs⟩:=he
  refine⟨x',rfl,by rw [hx x hR r1 x' hv];exact hR,?_⟩
  have hfar:∀B,B<w.heap.size→(∀p∈ps,p.B≠B)→w1.heap[B]?=w.heap[B]?:=fun B=>gfar hs
  have zl:(List.zipWith Ip.turn ps ds).length=ps.length:=by rw [List.length_zipWith,hd.1,Nat.min_self]
  have hnear:∀(i:Nat) q,(List.zipWith Ip.turn ps ds)[i]?=some q→∃p,ps[i]?=some p∧q.B=p.B∧Blk w1 q.box.g q.box.t q.box.cs.toArray∧q.box.cs.any isU=false:=by
   intro i q hq
   have hi:i<ps.length:=by rw [←zl];exact(List.getElem?_eq_some_iff.1 hq).1
   have hp:=List.getElem?_eq_getElem hi
   have hdi:=List.getElem?_eq_getElem (l:=ds) (i:=i) (by rw [hd.1];exact hi)
   have hq2:=hq
   rw [List.getElem?_zipWith,hp,hdi]at hq
   injection hq with hq
   subst hq
   obtain⟨d1,d2,d3⟩:=hd.2 i _ _ hp hdi
   have hb:v1.heap[gz+i]?=some (.cells ds[i].toArray bog (0,0)):=by
    have hm:gBox i (Ip.turn ps[i] ds[i])∈(List.zipWith Ip.turn ps ds).mapIdx gBox:=by
     refine List.mem_of_getElem? (i:=i) ?_
     rw [List.getElem?_mapIdx,hq2];rfl
    exact(hO1.2.1 _ hm).2.1
   refine⟨ps[i],hp,rfl,gnear hO hg hs hp hb d1 d2,?_⟩
   have h3:=(ip_own hO hp).2.2
   show(ps[i].A++ds[i]++ps[i].C).any isU=false
   rw [List.any_append,List.any_append,Bool.or_eq_false_iff,Bool.or_eq_false_iff]at h3 ⊢
   exact⟨⟨h3.1.1,d3⟩,h3.2⟩
  have hgs:((List.zipWith Ip.turn ps ds).map Ip.box++L).map Bx.g=(ps.map Ip.box++L).map Bx.g:=by
   rw [List.map_append,List.map_append]
   congr 1
   apply List.ext_getElem?
   intro i
   rw [List.getElem?_map,List.getElem?_map,List.getElem?_map,List.getElem?_map]
   by_cases hi:i<ps.length
   ·have hq:=List.getElem?_eq_getElem (l:=List.zipWith Ip.turn ps ds) (i:=i) (by rw [zl];exact hi)
    obtain⟨p,h1,h2,_⟩:=hnear i _ hq
    rw [hq,h1]
    exact congrArg some h2
   ·rw [List.getElem?_eq_none (by rw [zl];omega),List.getElem?_eq_none (by omega)]
  have hnB:∀b∈L,∀p∈ps,p.B≠b.g:=by
   intro b hb p hp e
   have hn:=hO.2.2.1
   rw [List.map_append]at hn
   exact(List.nodup_append.1 hn).2.2 p.B (List.mem_map.2 ⟨p.box,List.mem_map.2 ⟨p,hp,rfl⟩,rfl⟩) b.g (List.mem_map.2 ⟨b,hb,rfl⟩) e
  have hE:Ext w0 w1:=by
   refine⟨hs.rest.2.1.trans hO.1.os,hs.rest.1.trans hO.1.tape,hs.rest.2.2.trans hO.1.output,Nat.le_trans hO.1.size hs.rsize,fun k hk=>?_⟩
   rw [hfar k (Nat.lt_of_lt_of_le hk hO.1.size) fun p hp e=>?_]
   ·exact hO.1.block k hk
   ·obtain⟨i,hi⟩:=List.getElem?_of_mem hp
    have:=(ip_own hO hi).1
    omega
  refine⟨hE,fun b hb=>?_,by rw [hgs];exact hO.2.2.1,fun s hs'=>?_⟩
  ·rcases List.mem_append.1 hb with hb|hb
   ·obtain⟨q,hq,rfl⟩:=List.mem_map.1 hb
    obtain⟨i,hi⟩:=List.getElem?_of_mem hq
    obtain⟨p,hp,h2,h3,h4⟩:=hnear i q hi
    exact⟨by show w0.heap.size≤q.B;rw [h2];exact(ip_own hO hp).1,h3,h4⟩
   ·obtain⟨k1,k2,k3⟩:=hO.2.1 b (List.mem_append_right _ hb)
    exact⟨k1,(hfar b.g k2.lt (hnB b hb)).trans k2,k3⟩
  ·have hW:=hO.2.2.2 s hs'
   refine⟨hW.1,hW.2.1,hW.2.2.1,hW.2.2.2.1,fun hn=>?_⟩
   obtain⟨ad,e,hlt,hc⟩:=hW.2.2.2.2 hn
   refine⟨ad,e,Nat.lt_of_lt_of_le hlt hs.rsize,fun k x hk=>?_⟩
   rw [←hc k x hk]
   refine World.cell?_of_block (hfar _ (by rw [block_of_add];exact hlt) fun p hp hB=>?_)
   rw [block_of_add]at hB
   obtain⟨i,hi⟩:=List.getElem?_of_mem hp
   obtain⟨p1,p2,p3⟩:=ip_own hO hi
   have hx1:0<s.xs.length:=by have:=hW.1;omega
   have h1:=hc 0 _ (List.getElem?_eq_getElem hx1)
   unfold World.cell? at h1
   rw [block_of_add,←hB,p2]at h1
   simp only at h1
   split at h1
   ·cases h1
   ·exact any_isU p3 _ _ h1
end
end Go.Proofs.YtngdldcgkaplbaaGreat.Gt
namespace Go.Proofs.YtngdldcgkaplbaaGreat.Fd
open Go Go.Conc Nm Rn
open Gt hiding Sm
open Lk
theorem body_gg {x:FuncId}{fn:Func}(hf:P.funcs[x]?=some fn)(h:(match fn.body with | some c=>niceCode P fb c | none=>false)=true):GG x:=by
 obtain⟨c,h1,h2⟩:=niceB h
 exact⟨fn,c,hf,h1,h2⟩
theorem gg_add:GG 14:=body_gg Tryz.func14 (by kernel_rfl)
theorem gg_mul:GG 15:=body_gg Tryz.func15 (by kernel_rfl)
theorem gg_merge:GG 147:=body_gg Tryz.func147 (by kernel_rfl)
theorem gg_round:GG 62:=body_gg Tryz.func62 (by kernel_rfl)
theorem gg_over:GG 20:=body_gg Tryz.func20 (by kernel_rfl)
theorem gg_root:GG 21:=body_gg Tryz.func21 (by kernel_rfl)
theorem u64s_plain (ws:List Nat):(u64s ws).all plainB=true:=by
 induction ws with
 |nil=>rfl
 |cons x xs ih=>simp [u64s,plainB]
theorem sc_plain (ws:List Nat)(p m n:Bool)(t:Nat):(sc ws p m n t).all plainB=true:=by
 rw [sc,List.all_append,u64s_plain]
 rfl
theorem cs_plain (S:Sm):S.cs.all plainB=true:=sc_plain _ _ _ _ _
theorem cs_len (S:Sm):S.cs.length=72:=sc_len (sw_len S.T)
theorem cs_noU (S:Sm):S.cs.any isU=false:=sc_noU
section
variable {w0 w:World} {L:List Bx} {W:List Sw} {B k B2 k2:Nat} {T T2:TypeId} {A C A2 C2:List Value} {rest:List Value} {Rx:Value→Prop} {f:FuncId}
theorem one_inner (hf:GG f)(S S':Sm)(hg:gz≤w0.heap.size)(hA:A.length=k)(hrest:∀ x∈rest,Sf x)(hx:∀ x,Rx x→Cl x)(hO:Own w0 (⟨B,T,A++S.cs++C⟩::L) W w)
  (h:∀(g:Nat) (u0 u:World),Own u0 [⟨g,bog,S.cs⟩] [] u→Calls P f (.pointer (some ⟨g,0,none⟩)::rest).toArray u fun e u'=>∃x,e=.returned x∧Rx x∧Own u0 [⟨g,bog,S'.cs⟩] [] u'):
  Calls P f (.pointer (some ⟨B,k,none⟩)::rest).toArray w fun e w'=>∃x,e=.returned x∧Rx x∧Own w0 (⟨B,T,A++S'.cs++C⟩::L) W w':=by
 subst hA
 refine inner_calls (ps:=[⟨B,T,A,S.cs,C⟩]) (ds:=[S'.cs]) hf hg (fun p hp=>?_) ⟨rfl,fun i p d hp hd=>?_⟩ hrest hx hO (fun u0 u hu=>h (gz+0) u0 u hu)
 ·rcases List.mem_singleton.1 hp with rfl;exact cs_plain S
 ·cases i with
  |zero=>
   injection hp with hp
   injection hd with hd
   subst hp hd
   exact⟨cs_plain S',(cs_len S').trans (cs_len S).symm,cs_noU S'⟩
  |succ i=>cases hp
theorem two_inner (hf:GG f)(S S' O O':Sm)(hg:gz≤w0.heap.size)(hA:A.length=k)(hA2:A2.length=k2)(hrest:∀ x∈rest,Sf x)(hx:∀ x,Rx x→Cl x)(hO:Own w0 (⟨B,T,A++S.cs++C⟩::⟨B2,T2,A2++O.cs++C2⟩::L) W w)
  (h:∀(g g2:Nat) (u0 u:World),Own u0 [⟨g,bog,S.cs⟩,⟨g2,bog,O.cs⟩] [] u→Calls P f (.pointer (some ⟨g,0,none⟩)::.pointer (some ⟨g2,0,none⟩)::rest).toArray u fun e u'=>∃x,e=.returned x∧Rx x∧Own u0 [⟨g,bog,S'.cs⟩,⟨g2,bog,O'.cs⟩] [] u'):
  Calls P f (.pointer (some ⟨B,k,none⟩)::.pointer (some ⟨B2,k2,none⟩)::rest).toArray w fun e w'=>∃x,e=.returned x∧Rx x∧Own w0 (⟨B,T,A++S'.cs++C⟩::⟨B2,T2,A2++O'.cs++C2⟩::L) W w':=by
 subst hA hA2
 refine inner_calls (ps:=[⟨B,T,A,S.cs,C⟩,⟨B2,T2,A2,O.cs,C2⟩]) (ds:=[S'.cs,O'.cs]) hf hg (fun p hp=>?_) ⟨rfl,fun i p d hp hd=>?_⟩ hrest hx hO (fun u0 u hu=>h (gz+0) (gz+1) u0 u hu)
 ·rcases List.mem_cons.1 hp with rfl|hp
  ·exact cs_plain S
  ·rcases List.mem_singleton.1 hp with rfl;exact cs_plain O
 ·rcases i with _|_|i
  ·injection hp with hp
   injection hd with hd
   subst hp hd
   exact⟨cs_plain S',(cs_len S').trans (cs_len S).symm,cs_noU S'⟩
  ·injection hp with hp
   injection hd with hd
   subst hp hd
   exact⟨cs_plain O',(cs_len O').trans (cs_len O).symm,cs_noU O'⟩
  ·cases hp
theorem unit_of {f:FuncId}{args:Array Value}{K:World→Prop}(h:Calls P f args w fun e w'=>∃ x,e=.returned x∧x=.tuple #[]∧K w'):Calls P f args w fun e w'=>e=.returned (.tuple #[])∧K w':=
 h.mono fun e w' ⟨x,h1,h2,h3⟩=>⟨by rw [h1,h2],h3⟩
theorem of_unit {f:FuncId}{args:Array Value}{K:World→Prop}(h:Calls P f args w fun e w'=>e=.returned (.tuple #[])∧K w'):Calls P f args w fun e w'=>∃x,e=.returned x∧x=.tuple #[]∧K w':=
 h.mono fun e w' ⟨h1,h2⟩=>⟨_,h1,rfl,h2⟩
theorem cl_eq_unit:∀x,x=Value.tuple #[]→Cl x:=fun x h=>by subst h;exact cl_unit
theorem iadd (S:Sm)(x:Nat)(hg:gz≤w0.heap.size)(hA:A.length=k)(ht:S.t≤4611686018427387904)(hx:x < 18446744073709551616)(hO:Own w0 (⟨B,T,A++S.cs++C⟩::L) W w) :
  Calls P 14 #[.pointer (some ⟨B,k,none⟩),.float .f64 x] w fun e w'=>e=.returned (.tuple #[])∧Own w0 (⟨B,T,A++(S.add x).cs++C⟩::L) W w':=
 unit_of (one_inner (rest:=[.float .f64 x]) gg_add S (S.add x) hg hA (fun y hy=>by rcases List.mem_singleton.1 hy with rfl;exact sf_float _ _) cl_eq_unit hO fun g u0 u hu=>of_unit (tadd_any S x ht hx hu))
theorem imul (S:Sm)(x y:Nat)(hg:gz≤w0.heap.size)(hA:A.length=k)(ht:S.t≤4611686018427387904)(hx:x < 18446744073709551616)(hy:y < 18446744073709551616)(hO:Own w0 (⟨B,T,A++S.cs++C⟩::L) W w) :
  Calls P 15 #[.pointer (some ⟨B,k,none⟩),.float .f64 x,.float .f64 y] w fun e w'=>e=.returned (.tuple #[])∧Own w0 (⟨B,T,A++(S.mul x y).cs++C⟩::L) W w':=
 unit_of (one_inner (rest:=[.float .f64 x,.float .f64 y]) gg_mul S (S.mul x y) hg hA (fun y hy=>by rcases List.mem_cons.1 hy with rfl|hy;exact sf_float _ _;rcases List.mem_singleton.1 hy with rfl;exact sf_float _ _) cl_eq_unit hO fun g u0 u hu=>of_unit (tmul_any S x y ht hx hy hu))
theorem imerge (S O:Sm)(hg:gz≤w0.heap.size)(hA:A.length=k)(hA2:A2.length=k2)(ht:S.t≤4611686018427387904)(hto:O.t≤4611686018427387904)(hO:Own w0 (⟨B,T,A++S.cs++C⟩::⟨B2,T2,A2++O.cs++C2⟩::L) W w) :
  Calls P 147 #[.pointer (some ⟨B,k,none⟩),.pointer (some ⟨B2,k2,none⟩)] w fun e w'=>e=.returned (.tuple #[])∧Own w0 (⟨B,T,A++(S.merge O).cs++C⟩::⟨B2,T2,A2++O.cs++C2⟩::L) W w':=
 unit_of (two_inner (rest:=[]) gg_merge S (S.merge O) O O hg hA hA2 (fun y hy=>by cases hy) cl_eq_unit hO fun g g2 u0 u hu=>of_unit (tmerge_any S O g2 ht hto hu))
def RetFlO (r:Nat)(w0:World)(L:List Bx)(W:List Sw)(e:Ending)(w':World):Prop:=∃a,e=.returned (.float .f64 a)∧a<18446744073709551616∧cn a=r∧Own w0 L W w'
theorem fl_inner (hf:GG f)(S:Sm){r:Nat}(hg:gz≤w0.heap.size)(hA:A.length=k)(hrest:∀ x∈rest,Sf x)(hO:Own w0 (⟨B,T,A++S.cs++C⟩::L) W w)
  (h:∀(g:Nat) (u0 u:World),Own u0 [⟨g,bog,S.cs⟩] [] u→Calls P f (.pointer (some ⟨g,0,none⟩)::rest).toArray u (RetFl r u)):
  Calls P f (.pointer (some ⟨B,k,none⟩)::rest).toArray w (RetFlO r w0 (⟨B,T,A++S.cs++C⟩::L) W):=
 (one_inner (Rx:=fun x=>∃a,x=.float .f64 a∧a<18446744073709551616∧cn a=r) hf S S hg hA hrest (fun x ⟨a,h1,_⟩=>by subst h1;exact cl_float _ _) hO fun g u0 u hu=>(h g u0 u hu).mono fun e w' ⟨a,h1,h2,h3,h4⟩=>⟨_,h1,⟨a,rfl,h2,h3⟩,hu.ext h4⟩).mono
  fun e w' ⟨x,h1,⟨a,h2,h3,h4⟩,h5⟩=>⟨a,by rw [h1,h2],h3,h4,h5⟩
theorem iround (S:Sm)(d:Int)(hg:gz≤w0.heap.size)(hA:A.length=k)(hT:S.state=0→2*S.T.natAbs < MM)(hO:Own w0 (⟨B,T,A++S.cs++C⟩::L) W w) :
  Calls P 62 #[.pointer (some ⟨B,k,none⟩),.int .i64 d] w (RetFlO (S.round d) w0 (⟨B,T,A++S.cs++C⟩::L) W):=
 fl_inner (rest:=[.int .i64 d]) gg_round S hg hA (fun y hy=>by rcases List.mem_singleton.1 hy with rfl;exact sf_int _ _) hO fun g u0 u hu=>tround_any S d hT hu
theorem iroot (S:Sm)(d:Int)(hg:gz≤w0.heap.size)(hA:A.length=k)(hT:S.state=0→2*S.T.natAbs < MM)(hO:Own w0 (⟨B,T,A++S.cs++C⟩::L) W w) :
  Calls P 21 #[.pointer (some ⟨B,k,none⟩),.int .i64 d] w (RetFlO (S.root d) w0 (⟨B,T,A++S.cs++C⟩::L) W):=
 fl_inner (rest:=[.int .i64 d]) gg_root S hg hA (fun y hy=>by rcases List.mem_singleton.1 hy with rfl;exact sf_int _ _) hO fun g u0 u hu=>troot_any S d hT hu
theorem iover (S:Sm)(d n:Int)(h63:n < 9223372036854775808)(hg:gz≤w0.heap.size)(hA:A.length=k)(hT:S.state=0→2*S.T.natAbs < MM)(hO:Own w0 (⟨B,T,A++S.cs++C⟩::L) W w) :
  Calls P 20 #[.pointer (some ⟨B,k,none⟩),.int .i64 d,.int .i64 n] w (RetFlO (S.over d n) w0 (⟨B,T,A++S.cs++C⟩::L) W):=
 fl_inner (rest:=[.int .i64 d,.int .i64 n]) gg_over S hg hA (fun y hy=>by rcases List.mem_cons.1 hy with rfl|hy;exact sf_int _ _;rcases List.mem_singleton.1 hy with rfl;exact sf_int _ _) hO fun g u0 u hu=>tover_any S d n h63 hT hu
end
end Go.Proofs.YtngdldcgkaplbaaGreat.Fd
namespace Go.Proofs.YtngdldcgkaplbaaGreat
open Nm Rn
section
variable {T S:Int} {neg:Bool} {N D:Nat}
end
def B99:Nat:=2^2099
theorem B99_def:B99=2^2099:=by unfold B99;rfl
theorem K74_le:K74≤B99:=by
 have:∀a b:Nat,a≤b→2^a≤2^b:=fun a b h=>Nat.pow_le_pow_right (by omega) h
 rw [K74_def,B99_def]
 exact this 1074 2099 (by omega)
theorem sv_le (b:Nat)(hf:mg b < infR):(sv b).natAbs≤B99:=by
 have h1:=fb_rv b
 have h2:=fbSig_lt b
 have h3:=fbExp_hi b
 have h4:(sv b).natAbs=rv (mg b):=by unfold sv;split<;>omega
 rw [h4,h1,B99_def]
 have hp:∀e c:Nat,e+53≤c→fbSig b*2^e≤2^c:=fun e c he=>by
  have a1:fbSig b*2^e≤2^53*2^e:=Nat.mul_le_mul_right _ (by omega)
  rw [←Nat.pow_add]at a1
  exact Nat.le_trans a1 (Nat.pow_le_pow_right (by omega) (by omega))
 exact hp _ 2099 (by omega)
def BG:Nat:=B99*B99
theorem BG_mm:2*(4611686018427387904*BG)<MM:=by
 obtain⟨c,hc⟩:∃c,c=2099:=⟨_,rfl⟩
 obtain⟨e,he⟩:∃e,e=68:=⟨_,rfl⟩
 have h1:BG=2^(c+c):=by unfold BG;rw [B99_def,←hc,←Nat.pow_add]
 have h2:MM=2^(64*e):=by rw [←pow64,he];rfl
 have h3:2*(4611686018427387904*2^(c+c))=2^(63+(c+c)):=by rw [Nat.pow_add 2 63 (c+c),show(2:Nat)^63=2*4611686018427387904 from rfl,Nat.mul_assoc]
 rw [h1,h2,h3]
 exact Nat.pow_lt_pow_right (by omega) (by omega)
theorem one_le {x:Nat}(hf:mg x < infR):(sv x*(K74:Int)).natAbs≤BG:=by
 rw [Int.natAbs_mul,Int.natAbs_natCast]
 exact Nat.mul_le_mul (sv_le x hf) K74_le
theorem two_le {x y:Nat}(hf:mg x < infR)(hg:mg y < infR):(sv x*sv y).natAbs≤BG:=by
 rw [Int.natAbs_mul]
 exact Nat.mul_le_mul (sv_le x hf) (sv_le y hg)
def Sm.Ok (S:Sm):Prop:=S.t≤4611686018427387904∧(S.n=false→S.T.natAbs≤S.t*BG)
theorem Sm.Ok.nil:Sm.nil.Ok:=⟨by decide,fun _=>by unfold Sm.nil;simp⟩
theorem cntN_false {b:Bool}{t k:Nat}(h:cntN b t k=false):b=false∧t+k≤4611686018427387904∧cnt t k=t+k:=by
 unfold cntN at h
 rw [Bool.or_eq_false_iff,decide_eq_false_iff_not]at h
 exact⟨h.1,by omega,by unfold cnt;rw [if_neg h.2]⟩
theorem Sm.Ok.lay {S:Sm}{X:Int}(h:S.Ok)(hX:X.natAbs≤BG):((S.more 1).lay X).Ok:=by
 refine⟨cnt_le _ _,fun hn=>?_⟩
 obtain⟨h1,h2,h3⟩:=cntN_false hn
 have h4:=h.2 h1
 show(S.T+X).natAbs≤cnt S.t 1*BG
 rw [h3,Nat.add_mul,Nat.one_mul]
 omega
theorem Sm.Ok.add {S:Sm}{x:Nat}(h:S.Ok)(hx:x < 18446744073709551616):(S.add x).Ok:=by
 unfold Sm.add
 rcases kind x with ⟨n1,i1,k1⟩|⟨n1,i1,k1⟩|⟨n1,i1,k1⟩
 ·rw [n1,if_pos rfl]
  exact⟨cnt_le _ _,fun hn=>by cases hn⟩
 ·rw [n1,i1,if_neg (by simp),if_pos rfl]
  have hk:∀p m,(⟨S.T,p,m,cntN S.n S.t 1,cnt S.t 1⟩:Sm).Ok:=fun p m=>by
   refine⟨cnt_le _ _,fun hn=>?_⟩
   obtain⟨h1,h2,h3⟩:=cntN_false hn
   have h4:=h.2 h1
   show S.T.natAbs≤cnt S.t 1*BG
   rw [h3,Nat.add_mul]
   omega
  split
  ·exact hk _ _
  ·exact hk _ _
 ·rw [n1,i1,if_neg (by simp),if_neg (by simp)]
  exact h.lay (one_le k1)
theorem oddP_fin {x:Nat}(h:oddP x=false):mg x<infR:=by
 unfold oddP at h
 rw [Bool.or_eq_false_iff]at h
 rcases kind x with ⟨n1,i1,k1⟩|⟨n1,i1,k1⟩|⟨n1,i1,k1⟩
 ·rw [n1]at h;cases h.1
 ·rw [i1]at h;cases h.2
 ·exact k1
theorem mulR_odd_lt {x y:Nat}(hx:x < 18446744073709551616)(hy:y < 18446744073709551616)(h:(oddP x || oddP y)=true):mulR 0 x y<18446744073709551616:=by
 rcases mul_odd hx hy (by unfold oddP at h;exact h)with ⟨_,h2⟩|⟨s,_,h2⟩
 ·rw [h2];decide
 ·rw [h2];unfold infP;cases s<;>decide
theorem Sm.Ok.mul {S:Sm}{x y:Nat}(h:S.Ok)(hx:x < 18446744073709551616)(hy:y < 18446744073709551616):(S.mul x y).Ok:=by
 unfold Sm.mul
 cases ho:(oddP x||oddP y)
 ·rw [if_neg (by simp)]
  rw [Bool.or_eq_false_iff]at ho
  exact h.lay (two_le (oddP_fin ho.1) (oddP_fin ho.2))
 ·rw [if_pos rfl]
  exact h.add (mulR_odd_lt hx hy ho)
theorem Sm.Ok.merge {S O:Sm}(h:S.Ok)(g:O.Ok):(S.merge O).Ok:=by
 refine⟨cnt_le _ _,fun hn=>?_⟩
 have hn':(cntN S.n S.t O.t||O.n)=false:=hn
 rw [Bool.or_eq_false_iff]at hn'
 obtain⟨h1,h2,h3⟩:=cntN_false hn'.1
 have h4:=h.2 h1
 have h5:=g.2 hn'.2
 show(S.T+O.T).natAbs≤cnt S.t O.t*BG
 rw [h3,Nat.add_mul]
 omega
theorem Sm.Ok.neg {S:Sm}(h:S.Ok):S.neg.Ok:=⟨h.1,fun hn=>by have:=h.2 hn;show(-S.T).natAbs≤_;rw [Int.natAbs_neg];exact this⟩
theorem Sm.Ok.fit {S:Sm}(h:S.Ok)(hs:S.state=0):2*S.T.natAbs<MM:=by
 have hn:S.n=false:=by
  unfold Sm.state stt at hs
  cases hn:S.n
  ·rfl
  ·rw [hn,Bool.true_or,if_pos rfl]at hs;cases hs
 have h1:=h.2 hn
 have h2:S.t*BG≤4611686018427387904*BG:=Nat.mul_le_mul_right _ h.1
 have h3:=BG_mm
 omega
end Go.Proofs.YtngdldcgkaplbaaGreat