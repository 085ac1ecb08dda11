import Derived.Test.YtngdldcgkaplbaaGreatK05
import Derived.Deep.RegionHeld3
set_option linter.unusedVariables false
set_option linter.unusedSimpArgs false
set_option maxHeartbeats 40000000
set_option maxRecDepth 100000
namespace Go.Proofs.YtngdldcgkaplbaaGreat.Wi
open Go Go.RowKit Go.Proofs.YtngdldcgkaplbaaGreat Nm
section
variable {P:Program} {w0 w w':World} {g2 g3:Nat} {T:TypeId} {X Y:List Value} {L:List Bx} {W:List Sw} {a:Act} {x y:Operand} {ty:TypeId} {ps:String} {af:Array Edge} {gd:Option (Nat×Bool)}
def S2 (w0:World)(g2 g3:Nat)(T:TypeId)(X Y:List Value)(L:List Bx)(W:List Sw)(w:World):Prop:=∃c2 c3,c2.length=X.length∧c3.length=Y.length∧Own w0 (⟨g3,T,c3⟩::⟨g2,T,c2⟩::L) W w
def E2 (g2 g3:Nat)(T:TypeId)(X Y:List Value)(w w':World):Prop:=(Blk w g2 T X.toArray→Blk w' g2 T X.toArray)∧(Blk w g3 T Y.toArray→Blk w' g3 T Y.toArray)
theorem e2_pre:Pre (E2 g2 g3 T X Y):=⟨fun w=>⟨fun h=>h,fun h=>h⟩,fun h k=>⟨fun x=>k.1 (h.1 x),fun x=>k.2 (h.2 x)⟩⟩
theorem s2_ext (h:S2 w0 g2 g3 T X Y L W w)(e:Ext w w'):S2 w0 g2 g3 T X Y L W w'∧E2 g2 g3 T X Y w w':=by
 obtain⟨c2,c3,h2,h3,hO⟩:=h
 exact⟨⟨c2,c3,h2,h3,hO.ext e⟩,fun k=>k.ext e,fun k=>k.ext e⟩
theorem blk_set (hO:Own w0 L W w)(i:Nat){b:Bx}(hb:L[i]?=some b){vs:List Value}(hl:vs.length=b.cs.length)(h1:vs.all Value.oneCell'=true)(hu:vs.any isU=false)(hsz:∀ w,(sizeOf b.t).run P w=.ok vs.length w)(hx:a.eval x=.pointer (some ⟨b.g,0,none⟩))(hvs:(a.eval y).cells=vs.toArray) :
  (execOp a.eval { dst:=none,op:=.store b.t x y,type:=ty,pos:=ps,after:=af,guard:=gd }).run P w=.ok .skip (setN w b.g 0 vs)∧Own w0 (L.set i ⟨b.g,b.t,vs⟩) W (setN w b.g 0 vs):=by
 have hB:=(hO.2.1 b (List.mem_of_getElem? hb)).2.1
 have hr:=run_storeCells (P:=P) vs w b.g 0 0 b.t b.cs hB (by omega) h1
 have hs:=hO.setN vs i hb 0 hu
 have e:spl b.cs 0 vs=vs:=spl_all hl.symm
 rw [e]at hs
 exact⟨by simp [execOp,Instr.storeAt,hx,Instr.sureAddr,storeVar,hvs,hsz,hr],hs⟩
theorem s2_lo (h:S2 w0 g2 g3 T X Y L W w)(h1:X.all Value.oneCell'=true)(hu:X.any isU=false)(hsz:∀ w,(sizeOf T).run P w=.ok X.length w)(hx:a.eval x=.pointer (some ⟨g2,0,none⟩))(hvs:(a.eval y).cells=X.toArray) :
  GivesW P (S2 w0 g2 g3 T X Y L W) (E2 g2 g3 T X Y) (anyOf fun _ w=>Blk w g2 T X.toArray) w ((execOp a.eval { dst:=none,op:=.store T x y,type:=ty,pos:=ps,after:=af,guard:=gd }).run P w):=by
 obtain⟨c2,c3,l2,l3,hO⟩:=h
 obtain⟨r1,r2⟩:=blk_set (P:=P) (ty:=ty) (ps:=ps) (af:=af) (gd:=gd) hO 1 (b:=⟨g2,T,c2⟩) rfl l2.symm h1 hu hsz hx hvs
 rw [r1]
 have r2:Own w0 (⟨g3,T,c3⟩::⟨g2,T,X⟩::L) W (setN w g2 0 X):=r2
 have hb3:=hO.blk 0 rfl
 have hb3':=r2.blk 0 rfl
 have hb2:=r2.blk 1 rfl
 refine⟨hb2,⟨X,c3,rfl,l3,r2⟩,fun _=>hb2,fun k=>?_⟩
 have:(some (Obj.cells c3.toArray T (0,0)):Option Obj)=some (.cells Y.toArray T (0,0)):=hb3.symm.trans k
 injection this with this
 injection this with this
 show Blk (setN w g2 0 X) g3 T Y.toArray
 rw [←this]
 exact hb3'
theorem s2_hi (h:S2 w0 g2 g3 T X Y L W w)(h1:Y.all Value.oneCell'=true)(hu:Y.any isU=false)(hsz:∀ w,(sizeOf T).run P w=.ok Y.length w)(hx:a.eval x=.pointer (some ⟨g3,0,none⟩))(hvs:(a.eval y).cells=Y.toArray) :
  GivesW P (S2 w0 g2 g3 T X Y L W) (E2 g2 g3 T X Y) (anyOf fun _ w=>Blk w g3 T Y.toArray) w ((execOp a.eval { dst:=none,op:=.store T x y,type:=ty,pos:=ps,after:=af,guard:=gd }).run P w):=by
 obtain⟨c2,c3,l2,l3,hO⟩:=h
 obtain⟨r1,r2⟩:=blk_set (P:=P) (ty:=ty) (ps:=ps) (af:=af) (gd:=gd) hO 0 (b:=⟨g3,T,c3⟩) rfl l3.symm h1 hu hsz hx hvs
 rw [r1]
 have r2:Own w0 (⟨g3,T,Y⟩::⟨g2,T,c2⟩::L) W (setN w g3 0 Y):=r2
 have hb2:=hO.blk 1 rfl
 have hb2':=r2.blk 1 rfl
 have hb3:=r2.blk 0 rfl
 refine⟨hb3,⟨c2,Y,l2,rfl,r2⟩,fun k=>?_,fun _=>hb3⟩
 have:(some (Obj.cells c2.toArray T (0,0)):Option Obj)=some (.cells X.toArray T (0,0)):=hb2.symm.trans k
 injection this with this
 injection this with this
 show Blk (setN w g3 0 Y) g2 T X.toArray
 rw [←this]
 exact hb2'
theorem s2_done (h:S2 w0 g2 g3 T X Y L W w)(k2:∃ wz,E2 g2 g3 T X Y wz w∧Blk wz g2 T X.toArray)(k3:∃ wz,E2 g2 g3 T X Y wz w∧Blk wz g3 T Y.toArray):Own w0 (⟨g3,T,Y⟩::⟨g2,T,X⟩::L) W w:=by
 obtain⟨c2,c3,l2,l3,hO⟩:=h
 obtain⟨wa,e1,b1⟩:=k2
 obtain⟨wb,e2,b2⟩:=k3
 have one:∀{g:Nat} {c d:List Value},Blk w g T c.toArray→Blk w g T d.toArray→c=d:=fun h k=>by
  have:=h.symm.trans k
  injection this with this
  injection this with this
  simpa using this
 rw [←one (hO.blk 0 rfl) (e2.2 b2),←one (hO.blk 1 rfl) (e1.1 b1)]
 exact hO
theorem same_store {E:World→World→Prop}(hE:∀ w w',E w w')(hO:Own w0 L W w)(i:Nat){b:Bx}(hb:L[i]?=some b)(h1:b.cs.all Value.oneCell'=true)(hsz:∀ w,(sizeOf b.t).run P w=.ok b.cs.length w)(hx:a.eval x=.pointer (some ⟨b.g,0,none⟩))(hvs:(a.eval y).cells=b.cs.toArray){s:Sp}(hs:∀ w,told s undef w) :
  GivesW P (Own w0 L W) E s w ((execOp a.eval { dst:=none,op:=.store b.t x y,type:=ty,pos:=ps,after:=af,guard:=gd }).run P w):=by
 obtain⟨r1,r2⟩:=blk_set (P:=P) (ty:=ty) (ps:=ps) (af:=af) (gd:=gd) hO i hb rfl h1 (hO.2.1 b (List.mem_of_getElem? hb)).2.2 hsz hx hvs
 rw [r1]
 have:L.set i ⟨b.g,b.t,b.cs⟩=L:=by
  obtain⟨hi,h2⟩:=List.getElem?_eq_some_iff.1 hb
  apply List.ext_getElem?
  intro j
  rw [List.getElem?_set]
  split
  ·rename_i e;subst e;rw [hb]
  ·rfl
 rw [this]at r2
 exact⟨hs _,r2,hE _ _⟩
end
section
variable {P:Program} {a:Act} {w w0:World} {L:List Bx} {W:List Sw} {T T2:TypeId} {d e f:Tmp}
theorem own_retA {fn:Func}{R:Ending→World→Prop}(hO:Own w0 L W w)(i:Nat){g:Nat}{t:TypeId}{cs:List Value}{v:Value}(hb:L[i]?=some ⟨g,t,cs⟩)(hr:fn.results=#[.cell d T,.tmp e])(ha:a.tmps.getD d undef=.pointer (some ⟨g,0,none⟩))(hv:a.tmps.getD e undef=v)
  (hag:∀w,(isAgg T).run P w=.ok true w) (hsz:∀w,(sizeOf T).run P w=.ok cs.length w) (hd:a.defers=[]) (hR:R (.returned (.tuple #[.agg cs.toArray,v])) w):bodyPost P fn R .ret a w:=by
 have h1:=run_loadBox (P:=P) (hO.blk i hb) (hag w) (hsz w)
 refine bodyPost_ret (v:=.tuple #[.agg cs.toArray,v]) ?_ hd hR
 rw [Array.getD_eq_getD_getElem?]at ha hv
 simp [results,hr,ha,hv,asAddr,h1]
theorem own_ret3 {fn:Func}{R:Ending→World→Prop}(hO:Own w0 L W w)(i j:Nat){g k:Nat}{t t2:TypeId}{cs ds:List Value}{v:Value}(hb:L[i]?=some ⟨g,t,cs⟩)(hc:L[j]?=some ⟨k,t2,ds⟩)(hr:fn.results=#[.cell d T,.cell f T2,.tmp e])(ha:a.tmps.getD d undef=.pointer (some ⟨g,0,none⟩))(hf:a.tmps.getD f undef=.pointer (some ⟨k,0,none⟩))(hv:a.tmps.getD e undef=v)
  (hag:∀w,(isAgg T).run P w=.ok true w) (hsz:∀w,(sizeOf T).run P w=.ok cs.length w) (hag2:∀w,(isAgg T2).run P w=.ok true w) (hsz2:∀w,(sizeOf T2).run P w=.ok ds.length w) (hd:a.defers=[]) (hR:R (.returned (.tuple #[.agg cs.toArray,.agg ds.toArray,v])) w):bodyPost P fn R .ret a w:=by
 have h1:=run_loadBox (P:=P) (hO.blk i hb) (hag w) (hsz w)
 have h2:=run_loadBox (P:=P) (hO.blk j hc) (hag2 w) (hsz2 w)
 refine bodyPost_ret (v:=.tuple #[.agg cs.toArray,.agg ds.toArray,v]) ?_ hd hR
 rw [Array.getD_eq_getD_getElem?]at ha hv hf
 simp [results,hr,ha,hv,hf,asAddr,h1,h2]
end
end Go.Proofs.YtngdldcgkaplbaaGreat.Wi
namespace Go.Proofs.YtngdldcgkaplbaaGreat
open Go.RowKit Nm Rn
section
variable {P:Program} {ops:Array Oper} {Q:Exit→Act→World→Prop} {a:Act} {w w0:World} {rest:List Oper} {L:List Bx} {W:List Sw} {T U ty:TypeId} {ps:String} {af:Array Edge} {x y:Operand} {g:Nat} {cs vs:List Value} {b c:Bx}
theorem own_put (M:List Bx)(hO:Own w0 (M++⟨g,U,cs⟩::L) W w)(hx:a.eval x=.pointer (some ⟨g,0,none⟩))(hvs:(a.eval y).cells=vs.toArray)(hsz:∀ w,(sizeOf T).run P w=.ok vs.length w)(h1:vs.all Value.oneCell'=true)(hu:vs.any isU=false)(hle:cs.length=vs.length)(h:∀ w',Own w0 (M++⟨g,U,vs⟩::L) W w'→wpList P ops Q rest a w'):wpList P ops Q ({ dst:=none,op:=.store T x y,type:=ty,pos:=ps,after:=af,guard:=none }::rest) a w:=
 own_store hO M.length (b:=⟨g,U,cs⟩) (by simp) hx hvs hsz h1 hu (by rw [Nat.zero_add];exact Nat.ble_eq_true_of_le (Nat.le_of_eq hle.symm)) fun w' hO'=>h w' (by
  rw [show(⟨g,U,spl cs 0 vs⟩:Bx)=⟨g,U,vs⟩ by rw [spl_all hle]]at hO'
  simpa using hO')
theorem own_put0 (hO:Own w0 (⟨g,U,cs⟩::L) W w)(hx:a.eval x=.pointer (some ⟨g,0,none⟩))(hvs:(a.eval y).cells=vs.toArray)(hsz:∀ w,(sizeOf T).run P w=.ok vs.length w)(h1:vs.all Value.oneCell'=true)(hu:vs.any isU=false)(hle:cs.length=vs.length)(h:∀ w',Own w0 (⟨g,U,vs⟩::L) W w'→wpList P ops Q rest a w'):wpList P ops Q ({ dst:=none,op:=.store T x y,type:=ty,pos:=ps,after:=af,guard:=none }::rest) a w:=own_put [] hO hx hvs hsz h1 hu hle h
theorem own_put1 (hO:Own w0 (b::⟨g,U,cs⟩::L) W w)(hx:a.eval x=.pointer (some ⟨g,0,none⟩))(hvs:(a.eval y).cells=vs.toArray)(hsz:∀ w,(sizeOf T).run P w=.ok vs.length w)(h1:vs.all Value.oneCell'=true)(hu:vs.any isU=false)(hle:cs.length=vs.length)(h:∀ w',Own w0 (b::⟨g,U,vs⟩::L) W w'→wpList P ops Q rest a w'):wpList P ops Q ({ dst:=none,op:=.store T x y,type:=ty,pos:=ps,after:=af,guard:=none }::rest) a w:=own_put [b] hO hx hvs hsz h1 hu hle h
theorem own_put2 (hO:Own w0 (b::c::⟨g,U,cs⟩::L) W w)(hx:a.eval x=.pointer (some ⟨g,0,none⟩))(hvs:(a.eval y).cells=vs.toArray)(hsz:∀ w,(sizeOf T).run P w=.ok vs.length w)(h1:vs.all Value.oneCell'=true)(hu:vs.any isU=false)(hle:cs.length=vs.length)(h:∀ w',Own w0 (b::c::⟨g,U,vs⟩::L) W w'→wpList P ops Q rest a w'):wpList P ops Q ({ dst:=none,op:=.store T x y,type:=ty,pos:=ps,after:=af,guard:=none }::rest) a w:=own_put [b,c] hO hx hvs hsz h1 hu hle h
theorem wp_loose_own {id:Nat}{l:List Oper}(n:Nat)(ss:List Sp)(hO:Own w0 L W w)(hm:P.follows .mixedOrders=true)(hB:Region.lexTailB .any l.toArray n=true)
  (h:∀S sp,Hid (S=Own w0 L W)→Hid (sp=ofList ss)→wpX P .any l.toArray S sp (fun V a'=>∀w',Own w0 L W w'→(∀j,j<n→fact (sp j) (asFun V j) w')→wpList P l.toArray Q (l.drop n) a' w') (l.take n) [] a):(Code.region id l.toArray true).wp P Q a w:=
 wp_region_loose n (Own w0 L W) (ofList ss) hm hB (hO.ext (Ext.refl w).drew) (fun _ _ h e=>h.ext e) (h _ _ (Lib.hid rfl) (Lib.hid rfl))
theorem wp_wild_own {id:Nat}{l:List Oper}(n:Nat)(ss:List Sp)(hO:Own w0 L W w)(hm:P.follows .mixedOrders=true)(hB:Region.lexTailB .any l.toArray n=true)
  (h:∀S sp,Hid (S=Own w0 L W)→Hid (sp=ofList ss)→Hid (∀w w',S w→Ext w w'→S w'∧True)→Wi.wpX P (fun _ _=>True) .any l.toArray S sp (fun V a'=>∀w',Own w0 L W w'→(∀j,j<n→Wi.fact (fun _ _=>True) (sp j) (asFun V j) w')→wpList P l.toArray Q (l.drop n) a' w') (l.take n) [] a):(Code.region id l.toArray true).wp P Q a w:=
 Wi.wp_region_wild n (Own w0 L W) (fun _ _=>True) ⟨fun _=>trivial,fun _ _=>trivial⟩ (ofList ss) hm hB (hO.ext (Ext.refl w).drew) (h _ _ (Lib.hid rfl) (Lib.hid rfl) (Lib.hid fun _ _ h e=>⟨h.ext e,trivial⟩))
end
theorem zero_tm (w:World):(zeroValue 124).run Tryz.prog w=.ok (.agg #[.float .f64 0,.float .f64 0,.bool false]) w:=by kernel_rfl
theorem agg_tm (w:World):(isAgg 124).run Tryz.prog w=.ok true w:=by kernel_rfl
theorem size_tm (w:World):(sizeOf 124).run Tryz.prog w=.ok 3 w:=by kernel_rfl
structure Tm where
 x:Nat
 y:Nat
 b:Bool
def Tm.v (t:Tm):Value:=.agg #[.float .f64 t.x,.float .f64 t.y,.bool t.b]
def RetT (l h:Tm)(E:Bool)(w:World)(e:Ending)(w':World):Prop:=e=.returned (.tuple #[l.v,h.v,.bool E])∧Ext w w'
theorem ends_any (a b:Nat)(E:Bool)(w:World)(hq:∀ w,(binOp .eql 32 (.agg #[.float .f64 a,.float .f64 b]) (.agg #[.float .f64 infR,.float .f64 minf])).run Tryz.prog w=.ok (.bool E) w) :
  Calls Tryz.prog 86 #[.agg #[.float .f64 a,.float .f64 b]] w (RetT ⟨a,0,false⟩ ⟨b,0,false⟩ E w):=by
 have hO:=Own.start w
 have hf:True:=trivial
 go_enter Tryz.func86,Tryz.ntmps86
 go_upto_region 1 with (first|((with_reducible refine at_box ?_);refine own_box (cs:=[.float .f64 a,.float .f64 b]) hO rfl rfl ?_;clear hO;intro g1 wa hO;clear hf;have hf:=hO.cells;simp only [BC,CC,and_true]at hf)|((with_reducible refine at_alloc ?_);refine own_alloc (L:=[_]) hO zero_tm rfl rfl ?_;clear hO;intro g2 wb hO;clear hf;have hf:=hO.cells;simp only [BC,CC,and_true]at hf)|((with_reducible refine at_alloc ?_);refine own_alloc (L:=[_,_]) hO zero_tm rfl rfl ?_;clear hO;intro g3 wc hO;clear hf;have hf:=hO.cells;simp only [BC,CC,and_true]at hf))
 obtain⟨S,hS⟩:∃S:World→Prop,S=Wi.S2 w g2 g3 124 [.float .f64 a,.float .f64 0,.bool false] [.float .f64 b,.float .f64 0,.bool false] [⟨g1,32,[.float .f64 a,.float .f64 b]⟩] []:=⟨_,rfl⟩
 obtain⟨EE,hE⟩:∃E:World→World→Prop,E=Wi.E2 g2 g3 124 [.float .f64 a,.float .f64 0,.bool false] [.float .f64 b,.float .f64 0,.bool false]:=⟨_,rfl⟩
 have hp:Wi.Pre EE:=by rw [hE];exact Wi.e2_pre
 have HX:=Lib.hid (show ∀w w',S w→Ext w w'→S w'∧EE w w' from fun w w' h1 h2=>by rw [hS]at h1 ⊢;rw [hE];exact Wi.s2_ext h1 h2)
 have hS1:S wc.drew:=by rw [hS];refine⟨_,_,?_,?_,hO.ext (Ext.refl wc).drew⟩<;>rfl
 have HS:=Lib.hid hS
 have HE:=Lib.hid hE
 clear hS hO hf hE
 obtain⟨sp,hsp⟩:∃sp:Nat→Sp,sp=ofList [det (.pointer (some ⟨g1,0,none⟩)),det (.float .f64 a),det (.agg #[.float .f64 a,.float .f64 0,.bool false]),det (.pointer (some ⟨g1,1,none⟩)),det (.float .f64 b),det (.agg #[.float .f64 b,.float .f64 0,.bool false]),det (.agg #[.float .f64 a,.float .f64 b]),det (.agg #[.float .f64 infR,.float .f64 minf]),det (.bool E),anyOf (fun _ w=>Blk w g2 124 ([.float .f64 a,.float .f64 0,.bool false]:List Value).toArray),anyOf (fun _ w=>Blk w g3 124 ([.float .f64 b,.float .f64 0,.bool false]:List Value).toArray)]:=⟨_,rfl⟩
 have HSP:=Lib.hid hsp
 clear hsp
 refine Wi.wp_region_wild 11 S EE hp sp (by kernel_rfl) (by kernel_rfl) hS1 ?_
 simp only [List.take_succ_cons,List.take_zero,List.drop_succ_cons,List.drop_zero]
 iterate 11
  refine Wi.wpX_step (fun K hK=>?_)
  go_simp
  first
  |refine Wi.StepY.det (by rw [HSP.out];rfl) ?_ ?_
   ·intro wz hz hF
    refine Wi.GivesW.of HX.out hz ?_
    clear hz hF
    go_simp
    exact⟨rfl,Ext.refl _⟩
  |refine Wi.StepY.det (by rw [HSP.out];rfl) ?_ ?_
   ·intro wz hz hF
    refine Wi.GivesW.of HX.out hz ?_
    rw [HS.out]at hz
    obtain⟨c2,c3,l2,l3,hz⟩:=hz
    have hf:=hz.cells
    simp only [BC,CC,and_true]at hf
    clear hz hF
    go_simp
    exact⟨rfl,Ext.refl _⟩
  |refine Wi.StepY.det (by rw [HSP.out];rfl) ?_ ?_
   ·intro wz hz hF
    refine Wi.GivesW.of HX.out hz ?_
    clear hz hF
    go_simp
    refine(iempty_any _).mono ?_
    rintro e w2 ⟨rfl,hE1⟩
    exact⟨_,rfl,rfl,hE1⟩
  |refine Wi.StepY.any (by rw [HSP.out];rfl) ?_ ?_
   ·intro wz hz hF
    rw [HS.out]at hz ⊢
    rw [HE.out]
    exact Wi.s2_lo hz rfl rfl size_tm rfl rfl
   intro v
  |refine Wi.StepY.any (by rw [HSP.out];rfl) ?_ ?_
   ·intro wz hz hF
    rw [HS.out]at hz ⊢
    rw [HE.out]
    exact Wi.s2_hi hz rfl rfl size_tm rfl rfl
   intro v
  refine hK _ _ ?_
  clear hK K
 refine Wi.wpX_nil ?_
 intro wq hz hF
 have k2:=Wi.fact_any (hF 9 (by omega)) (by rw [HSP.out];rfl)
 have k3:=Wi.fact_any (hF 10 (by omega)) (by rw [HSP.out];rfl)
 clear hF
 rw [HS.out]at hz
 rw [HE.out]at k2 k3
 have hO:=Wi.s2_done hz k2 k3
 clear hz HS HSP HX HE k2 k3 hp
 have hf:=hO.cells
 simp only [BC,CC,and_true]at hf
 go_wp2
 exact Wi.own_ret3 hO 1 0 rfl rfl rfl rfl rfl rfl agg_tm size_tm agg_tm size_tm rfl ⟨rfl,hO.toExt⟩
theorem squares_eq (a b p q:Nat)(E:Bool)(w:World)(HA:Hid (∀ w,Calls Tryz.prog 89 #[.agg #[.float .f64 a,.float .f64 b]] w (RetF p q w)))(hq:∀ w,(binOp .eql 32 (.agg #[.float .f64 p,.float .f64 q]) (.agg #[.float .f64 infR,.float .f64 minf])).run Tryz.prog w=.ok (.bool E) w) :
  Calls Tryz.prog 90 #[.agg #[.float .f64 a,.float .f64 b]] w (RetT ⟨p,p,true⟩ ⟨q,q,true⟩ E w):=by
 have hO:=Own.start w
 have hf:True:=trivial
 go_enter Tryz.func90,Tryz.ntmps90
 go_wp2_with (first|((with_reducible refine at_box ?_);refine own_box (cs:=[.float .f64 a,.float .f64 b]) hO rfl rfl ?_;clear hO;intro g1 wa hO;clear hf;have hf:=hO.cells;simp only [BC,CC,and_true]at hf)|((with_reducible refine at_alloc ?_);refine own_alloc (L:=[_]) hO zero_tm rfl rfl ?_;clear hO;intro g2 wb hO;clear hf;have hf:=hO.cells;simp only [BC,CC,and_true]at hf)|((with_reducible refine at_alloc ?_);refine own_alloc (L:=[_,_]) hO zero_tm rfl rfl ?_;clear hO;intro g3 wc hO;clear hf;have hf:=hO.cells;simp only [BC,CC,and_true]at hf))
 refine(HA.out _).mono ?_
 rintro e w4 ⟨rfl,hE1⟩
 have hO:=hO.ext hE1
 clear hE1
 clear hf
 have hf:=hO.cells
 simp only [BC,CC,and_true]at hf
 go_upto_region 2 with ((with_reducible refine at_store (T:=32) ?_);refine own_put2 (T:=32) hO rfl rfl size_iv rfl rfl rfl ?_;clear hO;intro we hO;clear hf;have hf:=hO.cells;simp only [BC,CC,and_true]at hf)
 obtain⟨S,hS⟩:∃S:World→Prop,S=Wi.S2 w g2 g3 124 [.float .f64 p,.float .f64 p,.bool true] [.float .f64 q,.float .f64 q,.bool true] [⟨g1,32,[.float .f64 p,.float .f64 q]⟩] []:=⟨_,rfl⟩
 obtain⟨EE,hE⟩:∃E:World→World→Prop,E=Wi.E2 g2 g3 124 [.float .f64 p,.float .f64 p,.bool true] [.float .f64 q,.float .f64 q,.bool true]:=⟨_,rfl⟩
 have hp:Wi.Pre EE:=by rw [hE];exact Wi.e2_pre
 have HX:=Lib.hid (show ∀w w',S w→Ext w w'→S w'∧EE w w' from fun w w' h1 h2=>by rw [hS]at h1 ⊢;rw [hE];exact Wi.s2_ext h1 h2)
 have hS1:S we.drew:=by rw [hS];refine⟨_,_,?_,?_,hO.ext (Ext.refl we).drew⟩<;>rfl
 have HS:=Lib.hid hS
 have HE:=Lib.hid hE
 clear hS hO hf hE
 obtain⟨sp,hsp⟩:∃sp:Nat→Sp,sp=ofList [det (.pointer (some ⟨g1,0,none⟩)),det (.float .f64 p),det (.pointer (some ⟨g1,0,none⟩)),det (.float .f64 p),det (.agg #[.float .f64 p,.float .f64 p,.bool true]),det (.pointer (some ⟨g1,1,none⟩)),det (.float .f64 q),det (.pointer (some ⟨g1,1,none⟩)),det (.float .f64 q),det (.agg #[.float .f64 q,.float .f64 q,.bool true]),det (.agg #[.float .f64 p,.float .f64 q]),det (.agg #[.float .f64 infR,.float .f64 minf]),det (.bool E),anyOf (fun _ w=>Blk w g2 124 ([.float .f64 p,.float .f64 p,.bool true]:List Value).toArray),anyOf (fun _ w=>Blk w g3 124 ([.float .f64 q,.float .f64 q,.bool true]:List Value).toArray)]:=⟨_,rfl⟩
 have HSP:=Lib.hid hsp
 clear hsp
 refine Wi.wp_region_wild 15 S EE hp sp (by kernel_rfl) (by kernel_rfl) hS1 ?_
 simp only [List.take_succ_cons,List.take_zero,List.drop_succ_cons,List.drop_zero]
 iterate 15
  refine Wi.wpX_step (fun K hK=>?_)
  go_simp
  first
  |refine Wi.StepY.det (by rw [HSP.out];rfl) ?_ ?_
   ·intro wz hz hF
    refine Wi.GivesW.of HX.out hz ?_
    clear hz hF
    go_simp
    exact⟨rfl,Ext.refl _⟩
  |refine Wi.StepY.det (by rw [HSP.out];rfl) ?_ ?_
   ·intro wz hz hF
    refine Wi.GivesW.of HX.out hz ?_
    rw [HS.out]at hz
    obtain⟨c2,c3,l2,l3,hz⟩:=hz
    have hf:=hz.cells
    simp only [BC,CC,and_true]at hf
    clear hz hF
    go_simp
    exact⟨rfl,Ext.refl _⟩
  |refine Wi.StepY.det (by rw [HSP.out];rfl) ?_ ?_
   ·intro wz hz hF
    refine Wi.GivesW.of HX.out hz ?_
    clear hz hF
    go_simp
    refine(iempty_any _).mono ?_
    rintro e w2 ⟨rfl,hE1⟩
    exact⟨_,rfl,rfl,hE1⟩
  |refine Wi.StepY.any (by rw [HSP.out];rfl) ?_ ?_
   ·intro wz hz hF
    rw [HS.out]at hz ⊢
    rw [HE.out]
    exact Wi.s2_lo hz rfl rfl size_tm rfl rfl
   intro v
  |refine Wi.StepY.any (by rw [HSP.out];rfl) ?_ ?_
   ·intro wz hz hF
    rw [HS.out]at hz ⊢
    rw [HE.out]
    exact Wi.s2_hi hz rfl rfl size_tm rfl rfl
   intro v
  refine hK _ _ ?_
  clear hK K
 refine Wi.wpX_nil ?_
 intro wq hz hF
 have k2:=Wi.fact_any (hF 13 (by omega)) (by rw [HSP.out];rfl)
 have k3:=Wi.fact_any (hF 14 (by omega)) (by rw [HSP.out];rfl)
 clear hF
 rw [HS.out]at hz
 rw [HE.out]at k2 k3
 have hO:=Wi.s2_done hz k2 k3
 clear hz HS HSP HX HE k2 k3 hp
 have hf:=hO.cells
 simp only [BC,CC,and_true]at hf
 go_wp2
 exact Wi.own_ret3 hO 1 0 rfl rfl rfl rfl rfl rfl agg_tm size_tm agg_tm size_tm rfl ⟨rfl,hO.toExt⟩
theorem abs1_eq (a b p q:Nat)(E:Bool)(w:World)(HA:Hid (∀ w,Calls Tryz.prog 89 #[.agg #[.float .f64 a,.float .f64 b]] w (RetF p q w)))(hq:∀ w,(binOp .eql 32 (.agg #[.float .f64 p,.float .f64 q]) (.agg #[.float .f64 infR,.float .f64 minf])).run Tryz.prog w=.ok (.bool E) w) :
  Calls Tryz.prog 88 #[.agg #[.float .f64 a,.float .f64 b]] w (RetT ⟨p,0,false⟩ ⟨q,0,false⟩ E w):=by
 have HN:=Lib.hid (fun w=>ends_any p q E w hq)
 have hO:=Own.start w
 have hf:True:=trivial
 go_enter Tryz.func88,Tryz.ntmps88
 go_wp2_with (first|((with_reducible refine at_box ?_);refine own_box (cs:=[.float .f64 a,.float .f64 b]) hO rfl rfl ?_;clear hO;intro g1 wa hO;clear hf;have hf:=hO.cells;simp only [BC,CC,and_true]at hf)|((with_reducible refine at_alloc ?_);refine own_alloc (L:=[_]) hO zero_tm rfl rfl ?_;clear hO;intro g2 wb hO;clear hf;have hf:=hO.cells;simp only [BC,CC,and_true]at hf)|((with_reducible refine at_alloc ?_);refine own_alloc (L:=[_,_]) hO zero_tm rfl rfl ?_;clear hO;intro g3 wc hO;clear hf;have hf:=hO.cells;simp only [BC,CC,and_true]at hf))
 refine(HA.out _).mono ?_
 rintro e w4 ⟨rfl,hE1⟩
 have hO:=hO.ext hE1
 clear hE1
 clear hf
 have hf:=hO.cells
 simp only [BC,CC,and_true]at hf
 go_wp2_with fail
 refine(HN.out _).mono ?_
 rintro e w5 ⟨rfl,hE1⟩
 have hO:=hO.ext hE1
 clear hE1
 clear hf
 have hf:=hO.cells
 simp only [BC,CC,and_true]at hf
 go_wp2_with (first|((with_reducible refine at_store (T:=124) ?_);refine own_put1 (vs:=[.float .f64 p,.float .f64 0,.bool false]) (T:=124) hO rfl rfl size_tm rfl rfl rfl ?_;clear hO;intro w6 hO;clear hf;have hf:=hO.cells;simp only [BC,CC,and_true]at hf)|((with_reducible refine at_store (T:=124) ?_);refine own_put0 (vs:=[.float .f64 q,.float .f64 0,.bool false]) (T:=124) hO rfl rfl size_tm rfl rfl rfl ?_;clear hO;intro w7 hO;clear hf;have hf:=hO.cells;simp only [BC,CC,and_true]at hf))
 exact Wi.own_ret3 hO 1 0 rfl rfl rfl rfl rfl rfl agg_tm size_tm agg_tm size_tm rfl ⟨rfl,hO.toExt⟩
def endT (a b:Nat):Tm×Tm×Bool:=(⟨a,0,false⟩,⟨b,0,false⟩,eqB a infR&&eqB b minf)
def sqrT (a b:Nat):Tm×Tm×Bool:=(⟨abLo a b,abLo a b,true⟩,⟨abHi a b,abHi a b,true⟩,eqB (abLo a b) infR&&eqB (abHi a b) minf)
def absT (a b:Nat):Tm×Tm×Bool:=endT (abLo a b) (abHi a b)
theorem szLo_lt {p q:Nat}(hp:p < 18446744073709551616)(hq:q < 18446744073709551616):szLo p q<18446744073709551616:=by
 have P1:=mx_lt hp
 have Q1:=mx_lt hq
 unfold szLo
 split
 ·omega
 ·split<;>assumption
theorem szHi_lt {p q:Nat}(hp:p < 18446744073709551616)(hq:q < 18446744073709551616):szHi p q<18446744073709551616:=by
 have P1:=mx_lt hp
 have Q1:=mx_lt hq
 unfold szHi
 split<;>assumption
theorem abLo_lt {a b:Nat}(ha:a < 18446744073709551616)(hb:b < 18446744073709551616):abLo a b<18446744073709551616:=by
 unfold abLo
 split
 ·decide
 ·exact pl_lt (szLo_lt (rdLo_lt a b ha) (rdHi_lt a b hb))
theorem abHi_lt {a b:Nat}(ha:a < 18446744073709551616)(hb:b < 18446744073709551616):abHi a b<18446744073709551616:=by
 unfold abHi
 split
 ·decide
 ·exact pl_lt (szHi_lt (rdLo_lt a b ha) (rdHi_lt a b hb))
theorem infR_lt64:infR<18446744073709551616:=by decide
theorem minf_lt64:minf<18446744073709551616:=by decide
theorem ends_all (a b:Nat)(w:World)(ha:a < 18446744073709551616)(hb:b < 18446744073709551616) :
  Calls Tryz.prog 86 #[.agg #[.float .f64 a,.float .f64 b]] w (RetT (endT a b).1 (endT a b).2.1 (endT a b).2.2 w):=
 ends_any a b _ w fun w => eqF ha hb infR_lt64 minf_lt64 w
theorem squares_all (a b:Nat)(w:World)(ha:a < 18446744073709551616)(hb:b < 18446744073709551616) :
  Calls Tryz.prog 90 #[.agg #[.float .f64 a,.float .f64 b]] w (RetT (sqrT a b).1 (sqrT a b).2.1 (sqrT a b).2.2 w):=
 squares_eq a b (abLo a b) (abHi a b) _ w (Lib.hid fun w=>pabs_any a b w ha hb) fun w=>eqF (abLo_lt ha hb) (abHi_lt ha hb) infR_lt64 minf_lt64 w
theorem abs1_all (a b:Nat)(w:World)(ha:a < 18446744073709551616)(hb:b < 18446744073709551616) :
  Calls Tryz.prog 88 #[.agg #[.float .f64 a,.float .f64 b]] w (RetT (absT a b).1 (absT a b).2.1 (absT a b).2.2 w):=
 abs1_eq a b (abLo a b) (abHi a b) _ w (Lib.hid fun w=>pabs_any a b w ha hb) fun w=>eqF (abLo_lt ha hb) (abHi_lt ha hb) infR_lt64 minf_lt64 w
def wrongW (n:Int):Bool:=decide (n<1)||decide (16<n)
theorem wrong_any (n:Int)(w:World):Calls Tryz.prog 84 #[.int .i64 n] w fun e w'=>e=.returned (.bool (wrongW n))∧w=w':=by
 unfold wrongW
 by_cases h:n<1
 ·have h1:decide (n<1)=true:=decide_eq_true h
  clear h
  rw [h1]
  go_enter Tryz.func84,Tryz.ntmps84
  go_wp2
  go_ret
  exact⟨rfl,rfl⟩
 ·have h1:decide (n<1)=false:=decide_eq_false h
  clear h
  rw [h1]
  obtain⟨b,hb⟩:∃b,decide (16<n)=b:=⟨_,rfl⟩
  rw [hb]
  go_enter Tryz.func84,Tryz.ntmps84
  go_wp2
  go_ret
  exact⟨rfl,rfl⟩
theorem three_words {hi lo k q x0 y1 y2 x1 x2:Nat}(hk:k < 64)(hq:q=63 - k)(hl:lo < 18446744073709551616)(hh:hi < 18446744073709551616)
  (h0:x0=lo*2^k%18446744073709551616) (h1:y1=hi*2^k%18446744073709551616) (h2:y2=lo/2/2^q) (h3:x1=y1+y2) (h4:x2=hi/2/2^q):
  x0+18446744073709551616*(x1+18446744073709551616*x2)=(hi*18446744073709551616+lo)*2^k∧y1%2^k=0∧y2<2^k∧x1<18446744073709551616∧x2<18446744073709551616:=by
 have hP:2^k*(2*2^q)=18446744073709551616:=by
  rw [←Nat.pow_succ',←Nat.pow_add,show k+(q+1)=64 by omega]
 have hp:0<2^k:=two_pow_pos k
 have hq0:0<2^q:=two_pow_pos q
 rw [Nat.div_div_eq_div_mul]at h2 h4
 generalize 2*2^q=R at *
 have hR:0<R:=by
  rcases Nat.eq_zero_or_pos R with h|h
  ·rw [h,Nat.mul_zero]at hP;omega
  ·exact h
 generalize 2^k=P at *
 have sp:∀x,x*P%18446744073709551616+18446744073709551616*(x/R)=x*P:=fun x=>by
  have:x*P/18446744073709551616=x/R:=by rw [←hP,Nat.mul_comm x P,Nat.mul_div_mul_left _ _ hp]
  rw [←this]
  exact Nat.mod_add_div _ _
 have s1:=sp lo
 have s2:=sp hi
 rw [←h0,←h2]at s1
 rw [←h1,←h4]at s2
 have m1:y1%P=0:=by
  rw [h1,←hP,Nat.mod_mul_right_mod,Nat.mul_mod_left]
 have b2:y2<P:=by
  rw [h2,Nat.div_lt_iff_lt_mul hR,hP];exact hl
 have b4:x2<18446744073709551616:=by
  rw [h4];exact Nat.lt_of_le_of_lt (Nat.div_le_self _ _) hh
 have b1:y1+y2<18446744073709551616:=by
  have hy1:y1<P*R:=by rw [hP,h1];omega
  have hy:y1=P*(y1/P):=by have:=Nat.mod_add_div y1 P;omega
  have hd:y1/P<R:=by rw [Nat.div_lt_iff_lt_mul hp,Nat.mul_comm];exact hy1
  have h9:P*(y1/P)+P≤P*R:=by
   have:=Nat.mul_le_mul_left P (show y1/P+1≤R by omega)
   rw [Nat.mul_add]at this
   omega
  rw [hP]at h9
  omega
 refine⟨?_,m1,b2,by omega,b4⟩
 rw [Nat.add_mul,h3,Nat.mul_right_comm hi,←s2,←s1]
 omega
def lw (x0 x1 x2:Nat):Nat→Nat
 |0=>x0
 |1=>x1
 |2=>x2
 |_=>0
def lx (s:Bool)(i x0 x1 x2:Nat):Nat→Int
 |0=>0
 |j+1=>lx s i x0 x1 x2 j+sn s (lw x0 x1 x2 j*18446744073709551616^(i+j))
theorem lx_all {s:Bool}{i x0 x1 x2:Nat}:∀j,3≤j→lx s i x0 x1 x2 j=sn s ((x0+18446744073709551616*(x1+18446744073709551616*x2))*18446744073709551616^i)
 |3,_=>by
  simp only [lx,lw,Nat.add_zero,Nat.pow_add,Nat.pow_one]
  generalize 18446744073709551616^i=P
  have e1:x1*(P*18446744073709551616)=18446744073709551616*(x1*P):=by rw [←Nat.mul_assoc,Nat.mul_comm]
  have e2:x2*(P*18446744073709551616^2)=18446744073709551616*(18446744073709551616*(x2*P)):=by rw [show 18446744073709551616^2=18446744073709551616*18446744073709551616 from rfl,←Nat.mul_assoc,←Nat.mul_assoc,Nat.mul_comm (x2*P*_),Nat.mul_comm (x2*P)]
  rw [e1,e2,Nat.add_mul,Nat.mul_assoc,Nat.add_mul,Nat.mul_assoc]
  unfold sn
  cases s
  ·simp only [Bool.false_eq_true,if_false];omega
  ·simp only [if_true];omega
 |j+4,_=>by
  rw [lx,lx_all (j+3) (by omega),show lw x0 x1 x2 (j+3)=0 from rfl,Nat.zero_mul]
  unfold sn
  cases s<;>simp
theorem three_at {x0 x1 x2:Nat}(j:Nat)(h:j < 3):([Value.int .u64 (x0:Int),.int .u64 (x1:Int),.int .u64 (x2:Int)]:List Value)[j]?=some (.int .u64 (lw x0 x1 x2 j:Int)):=by
 match j,h with
 |0,_=>rfl
 |1,_=>rfl
 |2,_=>rfl
theorem lw_lt {x0 x1 x2:Nat}(h0:x0 < 18446744073709551616)(h1:x1 < 18446744073709551616)(h2:x2 < 18446744073709551616)(j:Nat):lw x0 x1 x2 j<18446744073709551616:=by
 unfold lw
 split<;>omega
theorem lw_zero {x0 x1 x2 j:Nat}(h:3≤j):lw x0 x1 x2 j=0:=by
 match j,h with
 |k+3,_=>rfl
theorem pow64 (i:Nat):18446744073709551616^i=2^(64*i):=by rw [Nat.pow_mul]
theorem lx_end {s:Bool}{hi lo i k x0 x1 x2 j:Nat}(hw:x0+18446744073709551616*(x1+18446744073709551616*x2)=(hi*18446744073709551616+lo)*2^k)(hj:3≤j):lx s i x0 x1 x2 j=sn s ((hi*18446744073709551616+lo)*2^(64*i+k)):=by
 rw [lx_all j hj,hw,pow64,Nat.mul_assoc,←Nat.pow_add,Nat.add_comm k]
theorem lay_end {l:List Nat}{T X c:Int}(hl:l.length=68)(h6:W6 l)(h:(vl l:Int)+c*(MM:Int)=vl (sw T)+X):l=sw (T+X):=by
 refine(sw_end hl h6 h).trans (sw_congr ?_)
 rw [vl_sw,Int.add_emod,Int.emod_emod_of_dvd _ (Int.dvd_refl _),←Int.add_emod]
theorem run_badd (x y c:Nat)(hc:c≤1)(w:World):(callFunc 113 #[.int .u64 (x:Int),.int .u64 (y:Int),.int .u64 (c:Int)]).run Tryz.prog w=.ok (.value (.tuple #[.int .u64 (((x+y+c)%18446744073709551616:Nat):Int),.int .u64 (((x+y+c)/18446744073709551616:Nat):Int)])) w:=by
 have:c=0∨c=1:=by omega
 rcases this with rfl|rfl<;>rfl
theorem run_bsub (x y c:Nat)(hc:c≤1)(w:World):(callFunc 112 #[.int .u64 (x:Int),.int .u64 (y:Int),.int .u64 (c:Int)]).run Tryz.prog w=.ok (.value (.tuple #[.int .u64 (((x+18446744073709551616-y-c)%18446744073709551616:Nat):Int),.int .u64 ((if x<y+c then 1 else 0:Nat):Int)])) w:=by
 have:c=0∨c=1:=by omega
 rcases this with rfl|rfl<;>rfl
section
variable {w0 w:World} {L:List Bx} {W:List Sw} {TY TO:TypeId} {g:Nat} {ws:List Nat} {p m b:Bool} {t:Nat}
theorem tlay_any (s:Bool)(hi lo i k:Nat)(T:Int)(hi64:hi < 18446744073709551616)(lo64:lo < 18446744073709551616)(hi63:i≤63)(hk:k < 64)(hO:Own w0 (⟨g,TY,sc (sw T) p m b t⟩::L) W w) :
  Calls Tryz.prog 60 #[.pointer (some ⟨g,0,none⟩),.bool s,.int .u64 (hi:Int),.int .u64 (lo:Int),.int .i64 ((64*i+k:Nat):Int)] w fun e w'=>e=.returned (.tuple #[])∧Own w0 (⟨g,TY,sc (sw (T+sn s ((hi*18446744073709551616+lo)*2^(64*i+k)))) p m b t⟩::L) W w':=by
 obtain⟨at_,hat⟩:∃a,a=64*i+k:=⟨_,rfl⟩
 rw [←hat]
 have e1:((at_:Nat):Int).tdiv 64=(i:Int):=by rw [Int.tdiv_eq_ediv_of_nonneg (by omega)];omega
 have e2:((at_:Nat):Int).tmod 64=(k:Int):=by rw [Int.tmod_eq_emod_of_nonneg (by omega)];omega
 have hk1:(k:Int)<64:=by omega
 obtain⟨q,hq⟩:∃q,q=63-k:=⟨_,rfl⟩
 have e3:(63:Int)-(k:Int)=(q:Int):=by omega
 have hq1:q≤63:=by omega
 have f6:IntKind.i64.wrap (q:Int)=(q:Int):=by rw [IntKind.wrap_i64];omega
 obtain⟨x0,hx0⟩:∃x,x=lo*2^k%18446744073709551616:=⟨_,rfl⟩
 obtain⟨y1,hy1⟩:∃x,x=hi*2^k%18446744073709551616:=⟨_,rfl⟩
 obtain⟨y2,hy2⟩:∃x,x=lo/2/2^q:=⟨_,rfl⟩
 obtain⟨x1,hx1⟩:∃x,x=y1+y2:=⟨_,rfl⟩
 obtain⟨x2,hx2⟩:∃x,x=hi/2/2^q:=⟨_,rfl⟩
 obtain⟨hw,hm1,hb2,hb1,hb4⟩:=three_words hk hq lo64 hi64 hx0 hy1 hy2 hx1 hx2
 have hb0:x0<18446744073709551616:=by rw [hx0];omega
 have f1:IntKind.u64.wrap ((lo:Int)*2^k)=(x0:Int):=by
  rw [hx0,show(lo:Int)*2^k=((lo*2^k:Nat):Int) by push_cast;rfl,IntKind.wrap_u64];omega
 have f2:IntKind.u64.wrap ((hi:Int)*2^k)=(y1:Int):=by
  rw [hy1,show(hi:Int)*2^k=((hi*2^k:Nat):Int) by push_cast;rfl,IntKind.wrap_u64];omega
 have f3:(lo:Int)/2/2^q=(y2:Int):=by rw [hy2];push_cast;rfl
 have f5:(hi:Int)/2/2^q=(x2:Int):=by rw [hx2];push_cast;rfl
 have f4:bits .or .u64 (y1:Int) (y2:Int)=(x1:Int):=by
  rw [u64_or_nat _ _ (by omega) (by omega),nat_join k _ _ hm1 hb2,hx1]
 clear hx0 hy1 hy2 hx1 hx2 hq hm1 hb2
 have HT:Hid (at_=64*i+k):=Lib.hid hat
 clear hat
 go_enter Tryz.func60,Tryz.ntmps60
 go_wp2_with fail
 have hTr:True:=trivial
 go_region_held3 (fun w'=>True) (trivial) (fail)
 have hO:=(hO.alloc 141 [.int .u64 (x0:Int),.int .u64 (x1:Int),.int .u64 (x2:Int)] rfl).ext (Ext.refl _).drew
 obtain⟨w1,hw1⟩:∃w1,w1=(w.alloc (Obj.cells #[.int .u64 (x0:Int),.int .u64 (x1:Int),.int .u64 (x2:Int)] 141)).drew:=⟨_,rfl⟩
 rw [←hw1]at hO ⊢
 clear hw1
 generalize w.heap.size=g3 at *
 have e4:(68:Int)-(i:Int)=((68-i:Nat):Int):=by omega
 have HW:=Lib.hid hw
 clear hw f1 f2 f3 f4 f5 f6 e1 e2 hk1 e3 hq1 hi64 lo64 hk
 clear hTr
 go_wp2_with fail
 have HI:=Lib.hid hi63
 obtain⟨N,hN⟩:∃N,N=68-i:=⟨_,rfl⟩
 rw [←hN]
 have HN:Hid (i+N=68∧5≤N):=Lib.hid ⟨by omega,by omega⟩
 clear e4 hN hi63
 obtain⟨V,hV⟩:∃V:Int,V=(vl (sw T):Int):=⟨_,rfl⟩
 have HV:=Lib.hid hV
 have hst:=sw_len T
 have hs6:=sw_w6 T
 have hini:(vl (sw T):Int)+sn s (0*18446744073709551616^(i+0))=V+lx s i x0 x1 x2 0:=by
  rw [hV,Nat.zero_mul,lx];unfold sn;cases s<;>simp
 go_loopw [13,40] (fun cv kv wr=>∃(j c:Nat) (l:List Nat),kv=.int .i64 (j:Int)∧cv=.int .u64 (c:Int)∧j≤N∧Hid (c≤1∧l.length=68∧W6 l∧(vl l:Int)+sn s (c*18446744073709551616^(i+j))=V+lx s i x0 x1 x2 j)∧Own w0 (⟨g3,141,[.int .u64 (x0:Int),.int .u64 (x1:Int),.int .u64 (x2:Int)]⟩::⟨g,TY,sc l p m b t⟩::L) W wr) (fun _ kv _=>N-(intOf kv).toNat)
 case atStart=>exact⟨0,0,sw T,rfl,rfl,Nat.zero_le _,Lib.hid ⟨by omega,hst,hs6,hini⟩,hO⟩
 case round=>
  obtain⟨j,c,l,rfl,rfl,hjN,hinv,hOr⟩:=hrel
  clear hO hst hs6 hini hV
  by_cases hlt:j<N
  ·have hnn:i+j<68:=by have:=HN.out;omega
   obtain⟨pp,hpp⟩:∃pp,pp=i+j:=⟨_,rfl⟩
   have ep:(i:Int)+(j:Int)=(pp:Int):=by omega
   have hp68:pp<68:=by omega
   have ew:IntKind.i64.wrap (pp:Int)=(pp:Int):=by rw [IntKind.wrap_i64];omega
   have bp0:(0:Int)≤(pp:Int):=by omega
   have bp1:(pp:Int)<68:=by omega
   have hpl:pp<l.length:=by rw [hinv.out.2.1];exact hp68
   have hc2:=(hOr.cell 1 rfl pp).trans (sc_word hpl)
   have hf2:=hOr.frozen 1 (b:=⟨g,TY,sc l p m b t⟩) rfl pp
   have hx64:=hinv.out.2.2.1.get hpl
   obtain⟨o,ho⟩:∃o,o=l[pp]:=⟨_,rfl⟩
   rw [←ho]at hc2 hx64
   have HO:Hid (∃h:pp<l.length,l[pp]=o):=Lib.hid ⟨hpl,ho.symm⟩
   have HPP:=Lib.hid hpp
   clear ho hpl hpp hnn
   obtain⟨x,hx⟩:∃x,x=lw x0 x1 x2 j:=⟨_,rfl⟩
   have hstep:∀(r c':Nat),(r:Int)+sn s (18446744073709551616*c')=(o:Int)+sn s (x+c)→r<18446744073709551616→c'≤1→Hid (c'≤1∧(l.set pp r).length=68∧W6 (l.set pp r)∧(vl (l.set pp r):Int)+sn s (c'*18446744073709551616^(i+(j+1)))=V+lx s i x0 x1 x2 (j+1)):=fun r c' hr hr64 hc'=>by
    obtain⟨i1,i2,i3,i4⟩:=hinv.out
    refine Lib.hid ⟨hc',by rw [List.length_set];exact i2,i3.set _ hr64,?_⟩
    rw [lx,←hx,←Nat.add_assoc,←HPP.out]
    rw [←HPP.out]at i4
    obtain⟨hpl,ho⟩:=HO.out
    exact lay_step hpl (by rw [ho];exact hr) i4
   have HST:=Lib.hid hstep
   have hOst:∀v:Nat,Own w0 (⟨g3,141,[.int .u64 (x0:Int),.int .u64 (x1:Int),.int .u64 (x2:Int)]⟩::⟨g,TY,sc (l.set pp v) p m b t⟩::L) W (wr.setCell ⟨g,pp,none⟩ (.int .u64 (v:Int))):=fun(v:Nat)=>by
    have:=hOr.set 1 rfl pp (.int .u64 (v:Int)) rfl
    simp only [List.set_cons_succ,List.set_cons_zero]at this
    obtain⟨hpl,ho⟩:=HO.out
    rw [sc_setw hpl]at this
    exact this
   have HOST:=Lib.hid hOst
   have hxb:x<18446744073709551616:=by
    rw [hx]
    exact lw_lt hb0 hb1 hb4 j
   have hc1:=hinv.out.1
   clear hstep hOst
   have hTr:True:=trivial
   cases s
   ·have hcall:=run_badd o x c hc1
    have HN1:=HST.out _ _ (add_word (x:=o) (y:=x) (c:=c)) (by omega) (by omega)
    generalize (o+x+c)%18446744073709551616=r at *
    generalize (o+x+c)/18446744073709551616=c' at *
    by_cases hj3:j<3
    ·have hc1:wr.cell? ⟨g3,j,none⟩=some (.int .u64 (x:Int)):=by
      refine(hOr.cell 0 rfl j).trans ?_
      rw [hx]
      exact three_at j hj3
     have bj0:(0:Int)≤(j:Int):=by omega
     have bj1:(j:Int)<3:=by omega
     have d0:decide ((j:Int)<(N:Int))=true:=decide_eq_true (by omega)
     clear hx hinv hOr hxb hx64 HW
     go_wp2_with fail
     go_region_with (fail)
     go_wp2_with fail
     go_roundw
     case rel=>exact⟨j+1,c',l.set pp r,by go_num,rfl,by omega,HN1,(HOST.out r).ext (Ext.refl _).drew⟩
     case measure=>simp [intOf];omega
    ·have d3:decide ((j:Int)<3)=false:=decide_eq_false (by omega)
     have d0:decide ((j:Int)<(N:Int))=true:=decide_eq_true (by omega)
     have hx0:x=0:=by rw [hx];exact lw_zero (by omega)
     by_cases hc0:c=0
     ·have hd:l=sw (T+sn false ((hi*18446744073709551616+lo)*2^(64*i+k))):=by
       obtain⟨i1,i2,i3,i4⟩:=hinv.out
       rw [hc0,Nat.zero_mul,lx_end HW.out (by omega),HV.out]at i4
       exact lay_end (c:=0) i2 i3 (by rw [Int.zero_mul];have:sn false 0=0:=rfl;rw [this]at i4;exact i4)
      have HD:=Lib.hid hd
      have q0:((c:Int)==0)=true:=by rw [beq_iff_eq];omega
      clear hx hx0 hinv HOST HST HN1 hcall hxb hx64 HW hc0 hd
      go_wp2_with fail
      (try simp only [Exit.inBlock,Exit.then])
      refine bodyPost_ret (results_none rfl _ _ _) rfl ?_
      refine⟨rfl,?_⟩
      rw [HT.out,←HD.out]
      exact hOr.tail
     ·have q0:((c:Int)==0)=false:=by rw [beq_eq_false_iff_ne];omega
      have hcall0:∀w,(callFunc 113 #[.int .u64 (o:Int),.int .u64 0,.int .u64 (c:Int)]).run Tryz.prog w=.ok (.value (.tuple #[.int .u64 (r:Int),.int .u64 (c':Int)])) w:=by rw [hx0]at hcall;exact hcall
      clear hx hx0 hinv hOr hxb hx64 HW hcall hc0
      go_wp2_with fail
      go_region_with (fail)
      go_wp2_with fail
      go_roundw
      case rel=>exact⟨j+1,c',l.set pp r,by go_num,rfl,by omega,HN1,(HOST.out r).ext (Ext.refl _).drew⟩
      case measure=>simp [intOf];omega
   ·have hcall:=run_bsub o x c hc1
    have HN1:=HST.out _ _ (sub_word (x:=o) (y:=x) (c:=c) hx64 hxb hc1) (by omega) (by split<;>omega)
    generalize (o+18446744073709551616-x-c)%18446744073709551616=r at *
    generalize (if o<x+c then 1 else 0)=c' at *
    by_cases hj3:j<3
    ·have hc1:wr.cell? ⟨g3,j,none⟩=some (.int .u64 (x:Int)):=by
      refine(hOr.cell 0 rfl j).trans ?_
      rw [hx]
      exact three_at j hj3
     have bj0:(0:Int)≤(j:Int):=by omega
     have bj1:(j:Int)<3:=by omega
     have d0:decide ((j:Int)<(N:Int))=true:=decide_eq_true (by omega)
     clear hx hinv hOr hxb hx64 HW
     go_wp2_with fail
     go_region_with (fail)
     go_wp2_with fail
     go_roundw
     case rel=>exact⟨j+1,c',l.set pp r,by go_num,rfl,by omega,HN1,(HOST.out r).ext (Ext.refl _).drew⟩
     case measure=>simp [intOf];omega
    ·have d3:decide ((j:Int)<3)=false:=decide_eq_false (by omega)
     have d0:decide ((j:Int)<(N:Int))=true:=decide_eq_true (by omega)
     have hx0:x=0:=by rw [hx];exact lw_zero (by omega)
     by_cases hc0:c=0
     ·have hd:l=sw (T+sn true ((hi*18446744073709551616+lo)*2^(64*i+k))):=by
       obtain⟨i1,i2,i3,i4⟩:=hinv.out
       rw [hc0,Nat.zero_mul,lx_end HW.out (by omega),HV.out]at i4
       exact lay_end (c:=0) i2 i3 (by rw [Int.zero_mul];have:sn true 0=0:=rfl;rw [this]at i4;exact i4)
      have HD:=Lib.hid hd
      have q0:((c:Int)==0)=true:=by rw [beq_iff_eq];omega
      clear hx hx0 hinv HOST HST HN1 hcall hxb hx64 HW hc0 hd
      go_wp2_with fail
      (try simp only [Exit.inBlock,Exit.then])
      refine bodyPost_ret (results_none rfl _ _ _) rfl ?_
      refine⟨rfl,?_⟩
      rw [HT.out,←HD.out]
      exact hOr.tail
     ·have q0:((c:Int)==0)=false:=by rw [beq_eq_false_iff_ne];omega
      have hcall0:∀w,(callFunc 112 #[.int .u64 (o:Int),.int .u64 0,.int .u64 (c:Int)]).run Tryz.prog w=.ok (.value (.tuple #[.int .u64 (r:Int),.int .u64 (c':Int)])) w:=by rw [hx0]at hcall;exact hcall
      clear hx hx0 hinv hOr hxb hx64 HW hcall hc0
      go_wp2_with fail
      go_region_with (fail)
      go_wp2_with fail
      go_roundw
      case rel=>exact⟨j+1,c',l.set pp r,by go_num,rfl,by omega,HN1,(HOST.out r).ext (Ext.refl _).drew⟩
      case measure=>simp [intOf];omega
  ·have hjN2:j=N:=by omega
   have hd:l=sw (T+sn s ((hi*18446744073709551616+lo)*2^(64*i+k))):=by
    obtain⟨i1,i2,i3,i4⟩:=hinv.out
    have hn:=HN.out
    rw [lx_end HW.out (by omega),HV.out,hjN2,hn.1]at i4
    refine lay_end (c:=sn s c) i2 i3 ?_
    rw [←i4]
    unfold sn MM
    cases s<;>simp [Int.neg_mul]
   have HD:=Lib.hid hd
   have d0:decide ((j:Int)<(N:Int))=false:=decide_eq_false (by omega)
   clear hinv hd hjN2
   go_wp2_with fail
   go_end0
   refine⟨rfl,?_⟩
   rw [HT.out,←HD.out]
   exact hOr.tail
end
end Go.Proofs.YtngdldcgkaplbaaGreat
namespace Go.Proofs.YtngdldcgkaplbaaGreat
open Go.RowKit Nm
theorem info_u32:(Tryz.prog.info? 105).map (fun i=>(i.zero,i.size,i.bytes))=some (some (.int .u32 0),1,4):=by kernel_rfl
def Row (w:World)(g:Nat)(L:List Nat):Prop:=w.heap[g]?=some (.cells (u32s L).toArray 105 (0,0))
section
variable {w w':World} {g:Nat} {L:List Nat}
theorem Row.lt (h:Row w g L):g<w.heap.size:=by
 rcases Nat.lt_or_ge g w.heap.size with hlt|hge
 ·exact hlt
 ·unfold Row at h;rw [Array.getElem?_eq_none hge]at h;cases h
theorem Row.cell (h:Row w g L){i:Nat}(hi:i < L.length):w.cell? ⟨g,i,none⟩=some (.int .u32 (L[i]:Int)):=by
 unfold Row at h
 simp [World.cell?,h,u32s,hi]
theorem Row.frozen (h:Row w g L)(i:Nat):w.frozen? ⟨g,i,none⟩=false:=by
 unfold Row at h
 simp [World.frozen?,h]
theorem Row.set_ (h:Row w g L)(i:Nat)(x:Nat):Row (w.setCell ⟨g,i,none⟩ (.int .u32 (x:Int))) g (L.set i x):=by
 unfold Row at h ⊢
 simp [World.setCell,Array.getElem?_modify,h,u32s,List.map_set]
theorem Row.new (w:World)(L:List Nat):Row (w.alloc (.cells (u32s L).toArray 105)) w.heap.size L:=heap_alloc_new w _
theorem Row.drewN (h:Row w g L)(n:Nat):Row (w.drewN n) g L:=h
theorem Row.ext (h:Row w g L)(hb:Ext w w'):Row w' g L:=(Below.block hb g h.lt).trans h
theorem Row.alloc (h:Row w g L)(o:Obj):Row (w.alloc o) g L:=h.ext ((Ext.refl w).alloc o)
theorem Row.far (h:Row w g L){p:Addr}(hp:g≠p.block)(u:Value):Row (w.setCell p u) g L:=(Below.heap_setCell w p u g hp).trans h
theorem Row.wds (h:Row w g L)(hL:Ws L){n c:Nat}(hn:L.length=n)(hc:n≤c)(hm:c≤maxLen):Wds w (some ⟨g,0,none⟩) n c L:=
 ⟨hn,hc,hm,hL,fun _=>⟨_,rfl,h.lt,fun k x hk=>by
   have hk':k<L.length:=(List.getElem?_eq_some_iff.1 hk).1
   have:=h.cell hk'
   rw [List.getElem?_eq_getElem hk']at hk
   injection hk with hk
   rw [←hk,←this]
   unfold Addr.add
   split
   ·subst_vars;rfl
   ·simp⟩⟩
end
theorem cells_replicate (n:Nat):madeCells (Value.int .u32 0).cells (n*1)=(u32s (List.replicate n 0)).toArray:=by
 apply Array.ext
 ·simp [size_madeCells,u32s]
 ·intro i h1 h2
  simp [madeCells,u32s,Value.cells,Nat.mod_one]
theorem run_make32 (n:Nat)(hn:n≤70368744177664)(w:World) :
  (Instr.makeSlice 65 (.int .i64 (n:Int)) (.int .i64 (n:Int))).run Tryz.prog w=.ok (.slice (some ⟨w.heap.size,0,none⟩) n n) (w.alloc (.cells (u32s (List.replicate n 0)).toArray 105)):=by
 obtain⟨i0,hi0,hz0,hz1,hz2⟩:=info_parts info_u32
 have hr:=run_make (P:=Tryz.prog) w 65 105 i0 (.int .u32 0) Tryz.underlying65 hi0 hz0 .i64 .i64 n n (by omega) (by omega) (by rw [hz2];omega) (by omega)
 simp only [Int.toNat_natCast]at hr
 rw [hr,hz1,cells_replicate]
theorem two_words (v:Nat)(h:v < 18446744073709551616):nv [v%4294967296,v/4294967296]=v:=by
 simp only [nv];omega
def cmpN (a b:Nat):Int:=if a<b then -1 else if b<a then 1 else 0
theorem cmpN_lt {a b:Nat}(h:a < b):cmpN a b=-1:=by simp [cmpN,h]
theorem cmpN_gt {a b:Nat}(h:b < a):cmpN a b=1:=by
 unfold cmpN;rw [if_neg (by omega),if_pos h]
theorem cmpN_eq {a b:Nat}(h:a=b):cmpN a b=0:=by simp [cmpN,h]
theorem lt_of_nw {a b:Nat}(h:nw a < nw b):a<b:=by
 rcases Nat.lt_or_ge a b with h'|h'
 ·exact h'
 ·have:=nw_mono h';omega
def Same (xs ys:List Nat)(n k:Nat):Prop:=∀j,(hj:j<(xs.take n).length)→(hj':j<(ys.take n).length)→k≤j→(xs.take n)[j]=(ys.take n)[j]
theorem Same.all {xs ys:List Nat}(hx:Ws xs)(hy:Ws ys)(e:nw (nv xs)=nw (nv ys))(h:Same xs ys (nw (nv xs)) 0):nv xs=nv ys:=by
 have h1:=(take_nw hx).1
 have h2:=(take_nw hy).1
 have l1:=nw_nv_le hx
 have l2:=nw_nv_le hy
 rw [←h1,←h2,←e]
 congr 1
 apply List.ext_getElem
 ·rw [List.length_take,List.length_take];omega
 ·intro j a b;exact h j a b (Nat.zero_le _)
theorem Same.lt {xs ys:List Nat}(hx:Ws xs)(hy:Ws ys)(e:nw (nv xs)=nw (nv ys)){k:Nat}(hk:k < nw (nv xs))(hkx:k < xs.length)(hky:k < ys.length)(h:Same xs ys (nw (nv xs)) (k+1))(hlt:xs[k] < ys[k]):nv xs<nv ys:=by
 have h1:=(take_nw hx).1
 have h2:=(take_nw hy).1
 have l1:=nw_nv_le hx
 have l2:=nw_nv_le hy
 rw [←h1,←h2,←e]
 refine nv_lt_of_top (hx.take _) ?_ (k:=k) ?_ (fun j hj hkj=>h j hj ?_ hkj) ?_
 ·rw [List.length_take,List.length_take];omega
 ·rw [List.length_take];omega
 ·rw [List.length_take]at hj ⊢;omega
 ·rw [List.getElem_take,List.getElem_take];exact hlt
theorem Same.symm {xs ys:List Nat}{n k:Nat}(h:Same xs ys n k):Same ys xs n k:=fun j a b c=>(h j b a c).symm
theorem Same.step {xs ys:List Nat}{n k:Nat}(h:Same xs ys n (k+1))(hkx:k < xs.length)(hky:k < ys.length)(e:xs[k]=ys[k]):Same xs ys n k:=by
 intro j a b c
 by_cases hj:j=k
 ·subst hj
  rw [List.getElem_take,List.getElem_take];exact e
 ·exact h j a b (by omega)
theorem nwords_any (A:Option Addr)(n c:Nat)(xs:List Nat)(w:World)(h:Wds w A n c xs)(hn:n≤35184372088832) :
  Calls Tryz.prog 122 #[.slice A n c] w fun e w'=>e=.returned (.int .i64 (nw (nv xs):Int))∧w=w':=by
 have hlen:=h.len
 go_enter Tryz.func122,Tryz.ntmps122
 go_wp2
 go_loop [3] (fun i=>∃k:Nat,k≤n∧i=.int .i64 k∧∀j,(hj:j<xs.length)→k≤j→xs[j]=0) (fun i=>(intOf i).toNat)
 case atStart=>exact⟨n,Nat.le_refl _,rfl,fun j hj hk=>by omega⟩
 case round=>
  obtain⟨k,hk,rfl,hz⟩:=hrel
  have HZ:=Lib.hid hz
  clear hz
  by_cases h0:k=0
  ·subst h0
   go_wp2
   go_ret
   exact⟨ret_int (by rw [(take_trim h.ws (Nat.zero_le _) HZ.out (fun k hk e=>by omega)).2.1];rfl),rfl⟩
  ·obtain⟨ad,hx,rfl,hb,hc⟩:=h.at_ (k:=k-1) (by omega)
   by_cases hx0:xs[k-1]=0
   ·go_wp2
    go_round
    case rel=>exact⟨k-1,by omega,by go_num,fun j hj hkj=>by
     by_cases e:j=k-1
     ·subst e;exact hx0
     ·exact HZ.out j hj (by omega)⟩
    case measure=>simp [intOf];omega
   ·go_wp2
    go_ret
    exact⟨ret_int (by rw [(take_trim h.ws (by omega) HZ.out (fun j hj e=>by
     have e:j=k-1:=by omega
     subst e;exact hx0)).2.1]),rfl⟩
theorem nd_take {xs:List Nat}(h:Ws xs):nd (nv xs)=xs.take (nw (nv xs)):=by
 obtain⟨n,hn,hz,ht⟩:∃n,n≤xs.length∧(∀k,(hk:k<xs.length)→n≤k→xs[k]=0)∧(∀k,(hk:k<xs.length)→k+1=n→xs[k]≠0):=by
  have:∀m,m≤xs.length→(∀k,(hk:k<xs.length)→m≤k→xs[k]=0)→∃n,n≤xs.length∧(∀k,(hk:k<xs.length)→n≤k→xs[k]=0)∧(∀k,(hk:k<xs.length)→k+1=n→xs[k]≠0):=by
   intro m
   induction m with
   |zero=>intro h1 h2;exact⟨0,by omega,h2,fun k hk e=>by omega⟩
   |succ m ih=>
    intro h1 h2
    by_cases h3:xs[m]'(by omega)=0
    ·exact ih (by omega) (fun k hk hm=>by
      by_cases e:k=m
      ·subst e;exact h3
      ·exact h2 k hk (by omega))
    ·exact⟨m+1,h1,h2,fun k hk e=>by
      have:k=m:=by omega
      subst this;exact h3⟩
  exact this xs.length (Nat.le_refl _) (fun k hk h=>by omega)
 have:=take_trim h hn hz ht
 rw [this.1,this.2.1]
theorem Wds.cut {w:World}{A:Option Addr}{n c:Nat}{xs:List Nat}(h:Wds w A n c xs):Wds w A (nw (nv xs)) (nw (nv xs)) (nd (nv xs)):=by
 have hle:nw (nv xs)≤n:=by have:=nw_nv_le h.ws;have:=h.len;omega
 have hc1:=h.lec
 have hc2:=h.cmax
 refine⟨nd_length _,Nat.le_refl _,by omega,Ws.nd _,fun h0=>?_⟩
 obtain⟨ad,e,hlt,hc⟩:=h.2.2.2.2 (by omega)
 refine⟨ad,e,hlt,fun k x hk=>hc k x ?_⟩
 rw [nd_take h.ws,List.getElem?_take]at hk
 split at hk
 ·exact hk
 ·cases hk
theorem ncut_any (A:Option Addr)(n c:Nat)(xs:List Nat)(w:World)(h:Wds w A n c xs)(hn:n≤35184372088832) :
  Calls Tryz.prog 121 #[.slice A n c] w (RetW (nv xs) w):=by
 have hw:=fun w (h:Wds w A n c xs)=>nwords_any A n c xs w h hn
 have hle:nw (nv xs)≤n:=by have:=nw_nv_le h.ws;have:=h.len;omega
 have hlc:=h.lec
 have hcut:=h.cut
 obtain⟨m,hm⟩:∃m,m=nw (nv xs):=⟨_,rfl⟩
 rw [←hm]at hw hle
 have HW:=Lib.hid hw
 have HM:=Lib.hid hm
 clear hw hm
 go_enter Tryz.func121,Tryz.ntmps121
 iterate 2
  go_wp2_with fail
  refine(HW.out _ h).mono ?_
  rintro e w1 ⟨rfl,hw1⟩
  subst hw1
 cases A with
 |none=>
  have hn0:n=0:=by
   rcases Nat.eq_zero_or_pos n with e|e
   ·exact e
   ·obtain⟨ad,e',_⟩:=h.2.2.2.2 e;cases e'
  have hm0:m=0:=by omega
  have HH:=Lib.hid hcut
  clear hcut h
  go_wp2
  go_ret
  exact⟨none,0,0,rfl,by have h1:=HH.out;rw [←HM.out,hm0]at h1;exact h1,Ext.refl w⟩
 |some ad=>
  have HH:=Lib.hid hcut
  clear hcut h
  go_wp2
  go_ret
  exact⟨some ad,m,m,rfl,by have h1:=HH.out;rw [←HM.out]at h1;exact h1,Ext.refl w⟩
theorem nsmall_any (n:Nat)(w:World)(h1:n < 18446744073709551616) :
  Calls Tryz.prog 69 #[.int .u64 (n:Int)] w (RetW n w):=by
 have hmod:(n:Int)%4294967296=((n%4294967296:Nat):Int):=by omega
 have hdiv:(n:Int)/4294967296=((n/4294967296:Nat):Int):=by omega
 have hdm:((n/4294967296:Nat):Int)%4294967296=((n/4294967296:Nat):Int):=by omega
 have H2:=Lib.hid hmod
 have H3:=Lib.hid hdiv
 have H4:=Lib.hid hdm
 clear hmod hdiv hdm
 go_enter Tryz.func69,Tryz.ntmps69
 go_wp2_with fail
 rw [H2.out,H3.out]
 try rw [H4.out]
 have hW:Wds (w.alloc (Obj.cells #[Value.int IntKind.u32 ((n%4294967296:Nat):Int),Value.int IntKind.u32 ((n/4294967296:Nat):Int)] 105)) (some ⟨w.heap.size,0,none⟩) 2 2 [n%4294967296,n/4294967296]:=by
  refine⟨rfl,Nat.le_refl _,by unfold maxLen;omega,Ws.cons (by omega) (Ws.cons (by omega) Ws.nil),fun _=>⟨_,rfl,by simp,fun k x hk=>?_⟩⟩
  match k,hk with
  |0,hk=>simp at hk;subst hk;simp [World.cell?_alloc_new,Addr.add]
  |1,hk=>simp at hk;subst hk;simp [World.cell?_alloc_new,Addr.add]
  |k+2,hk=>simp at hk
 refine(ncut_any _ _ _ _ _ hW (by omega)).mono ?_
 rintro e w1 ⟨A,m,c,rfl,hR,hb⟩
 rw [two_words n (by omega)]at hR
 go_wp2
 go_ret
 exact⟨A,m,c,rfl,hR,((Ext.refl w).alloc _).trans hb⟩
theorem ncmp_any (A:Option Addr)(n c:Nat)(xs:List Nat)(B:Option Addr)(m d:Nat)(ys:List Nat)(w:World)(h:Wds w A n c xs)(hn:n≤35184372088832)(k:Wds w B m d ys)(hm:m≤35184372088832) :
  Calls Tryz.prog 126 #[.slice A n c,.slice B m d] w fun e w'=>e=.returned (.int .i64 (cmpN (nv xs) (nv ys)))∧∃q,w'=w.drewN q:=by
 have hxl:nw (nv xs)≤xs.length:=nw_nv_le h.ws
 have hyl:nw (nv ys)≤ys.length:=nw_nv_le k.ws
 have hlx:=h.len
 have hly:=k.len
 rcases Nat.lt_trichotomy (nw (nv xs)) (nw (nv ys))with hlt|heq|hgt
 ·go_enter Tryz.func126,Tryz.ntmps126
  go_wp2_with (first|(go_at_call 122;((with_reducible refine(nwords_any A _ _ _ _ h hn).mono ?_);rintro e w' ⟨rfl,rfl⟩))|(go_at_call 122;((with_reducible refine(nwords_any B _ _ _ _ k hm).mono ?_);rintro e w' ⟨rfl,rfl⟩)))
  go_ret
  exact⟨ret_int (cmpN_lt (lt_of_nw hlt)).symm,0,rfl⟩
 ·have HS:=Lib.hid heq
  have hle:nw (nv xs)≤nw (nv ys):=by omega
  have hge:nw (nv ys)≤nw (nv xs):=by omega
  clear heq
  go_enter Tryz.func126,Tryz.ntmps126
  go_wp2_with (first|(go_at_call 122;((with_reducible refine(nwords_any A _ _ _ _ h hn).mono ?_);rintro e w' ⟨rfl,rfl⟩))|(go_at_call 122;((with_reducible refine(nwords_any B _ _ _ _ k hm).mono ?_);rintro e w' ⟨rfl,rfl⟩)))
  go_loopw [21] (fun i wr=>∃t:Nat,t≤nw (nv xs)∧i=.int .i64 ((nw (nv xs)-t:Nat):Int)∧Same xs ys (nw (nv xs)) t∧∃q,wr=w.drewN q) (fun i _=>nw (nv xs)-(intOf i).toNat)
  case atStart=>exact⟨_,Nat.le_refl _,by simp,fun j a b c=>by rw [List.length_take]at a;omega,0,rfl⟩
  case round=>
   obtain⟨t,ht,rfl,hs,q,rfl⟩:=hrel
   by_cases h0:t=0
   ·subst h0
    have hfin:=Lib.hid (hs.all h.ws k.ws HS.out)
    clear hs
    go_wp2
    go_ret
    exact⟨ret_int (cmpN_eq hfin.out).symm,q,rfl⟩
   ·obtain⟨ad,hx,rfl,hb,hc⟩:=h.at_ (k:=t-1) (by omega)
    obtain⟨bd,hy,rfl,hb',hc'⟩:=k.at_ (k:=t-1) (by omega)
    have hs':=hs
    rw [show t=t-1+1 by omega]at hs'
    have hax:=Lib.hid (fun hh=>Same.lt h.ws k.ws HS.out (show t-1<nw (nv xs) by omega) hx hy hs' hh)
    have hay:=Lib.hid (fun hh=>Same.lt k.ws h.ws HS.out.symm (show t-1<nw (nv ys) by omega) hy hx (by rw [←HS.out];exact hs'.symm) hh)
    have hae:=Lib.hid (fun hh=>hs'.step hx hy hh)
    clear hs hs'
    have hpos:0<t:=by omega
    have b0:(nw (nv xs):Int)-1-((nw (nv xs)-t:Nat):Int)=((t-1:Nat):Int):=by omega
    have b4:(nw (nv xs):Int)-1=((nw (nv xs)-1:Nat):Int):=by omega
    have b5:((nw (nv xs)-1:Nat):Int)-((nw (nv xs)-t:Nat):Int)=((t-1:Nat):Int):=by omega
    have b1:(0:Int)≤((t-1:Nat):Int):=by omega
    have b2:((t-1:Nat):Int)<(n:Int):=by omega
    have b3:((t-1:Nat):Int)<(m:Int):=by omega
    generalize hX:xs[t-1]=X at *
    generalize hY:ys[t-1]=Y at *
    have HX:=Lib.hid hX
    have HY:=Lib.hid hY
    clear hX hY
    rcases Nat.lt_trichotomy X Y with hlt|he|hgt
    ·go_wp2
     go_quiet (fail)
     go_wp2
     go_ret
     exact⟨ret_int (cmpN_lt (hax.out hlt)).symm,by(try simp only [World.drewN_drewN]);exact⟨_,rfl⟩⟩
    ·have hng:¬X<Y:=by omega
     have hng':¬Y<X:=by omega
     have HE:=Lib.hid he
     clear he
     go_wp2
     go_quiet (fail)
     go_wp2
     go_roundw
     case rel=>exact⟨t-1,by omega,val_int (by omega),hae.out HE.out,by(try simp only [World.drewN_drewN]);exact⟨_,rfl⟩⟩
     case measure=>simp [intOf];omega
    ·have hng:¬X<Y:=by omega
     go_wp2
     go_quiet (fail)
     go_wp2
     go_ret
     exact⟨ret_int (cmpN_gt (hay.out hgt)).symm,by(try simp only [World.drewN_drewN]);exact⟨_,rfl⟩⟩
 ·go_enter Tryz.func126,Tryz.ntmps126
  go_wp2_with (first|(go_at_call 122;((with_reducible refine(nwords_any A _ _ _ _ h hn).mono ?_);rintro e w' ⟨rfl,rfl⟩))|(go_at_call 122;((with_reducible refine(nwords_any B _ _ _ _ k hm).mono ?_);rintro e w' ⟨rfl,rfl⟩)))
  go_ret
  exact⟨ret_int (cmpN_gt (lt_of_nw hgt)).symm,0,rfl⟩
theorem len32_small (x:Nat)(w:World)(h:x < 256) :
  Calls Tryz.prog 160 #[.int .u32 (x:Int)] w fun e w'=>e=.returned (.int .i64 (bl x:Int))∧w=w':=by
 have g1:decide ((65536:Int)≤(x:Int))=false:=decide_eq_false (by omega)
 have g2:decide ((256:Int)≤(x:Int))=false:=decide_eq_false (by omega)
 have g3:(x:Int)%256=(x:Int):=by omega
 go_enter Tryz.func160,Tryz.ntmps160
 go_wp2
 go_ret
 refine⟨ret_int ?_,rfl⟩
 clear g1 g2 g3
 rename_i h2
 have h3:x<256:=h
 clear h
 revert h2
 revert h3
 revert x
 decide +kernel
theorem bl_shift (k x:Nat)(h:2^k≤x):bl x=k+bl (x/2^k):=by
 have hp:0<2^k:=Nat.two_pow_pos k
 apply Nat.le_antisymm
 ·rw [bl_le_iff,Nat.pow_add,Nat.mul_comm]
  exact(Nat.div_lt_iff_lt_mul hp).1 ((bl_le_iff _ _).1 (Nat.le_refl _))
 ·have hx:=(bl_le_iff x (bl x)).1 (Nat.le_refl _)
  have hk:k≤bl x:=by
   rcases Nat.lt_or_ge (bl x) k with e|e
   ·have:=Nat.pow_le_pow_right (n:=2) (by omega) (Nat.le_of_lt e);omega
   ·exact e
  have:bl (x/2^k)≤bl x-k:=by
   rw [bl_le_iff,Nat.div_lt_iff_lt_mul hp,←Nat.pow_add,Nat.sub_add_cancel hk]
   exact hx
  omega
theorem len32_big (x:Nat)(w:World)(h:x < 4294967296)(c1:65536≤x) :
  Calls Tryz.prog 160 #[.int .u32 (x:Int)] w fun e w'=>e=.returned (.int .i64 (bl x:Int))∧w=w':=by
 have g1:decide ((65536:Int)≤(x:Int))=true:=decide_eq_true (by omega)
 have hb:=bl_shift 16 x (by omega)
 rw [show 2^16=65536 from rfl]at hb
 have HB:=Lib.hid hb
 have HX:=Lib.hid h
 clear h c1 hb
 go_enter Tryz.func160,Tryz.ntmps160
 go_wp2
 all_goals
  go_ret
  refine⟨ret_int ?_,rfl⟩
 ·have hy:x/65536/256<256:=by have:=HX.out;omega
  have hb2:=bl_shift 8 (x/65536) (by omega)
  rw [show 2^8=256 from rfl]at hb2
  rw [HB.out,hb2,←getElem!_pos]
  clear HB HX g1 hb2
  rename_i h1 h2
  clear h1 h2
  rw [Nat.mod_eq_of_lt hy]
  revert hy
  generalize x/65536/256=y
  revert y
  decide +kernel
 ·have hy:x/65536<256:=by omega
  rw [HB.out,←getElem!_pos]
  clear HB HX g1
  rename_i h1 h2
  clear h1 h2
  revert hy
  generalize x/65536=y
  revert y
  decide +kernel
theorem len32_mid (x:Nat)(w:World)(c1:x < 65536)(c2:256≤x) :
  Calls Tryz.prog 160 #[.int .u32 (x:Int)] w fun e w'=>e=.returned (.int .i64 (bl x:Int))∧w=w':=by
 have g1:decide ((65536:Int)≤(x:Int))=false:=decide_eq_false (by omega)
 have g2:decide ((256:Int)≤(x:Int))=true:=decide_eq_true (by omega)
 have hb:=bl_shift 8 x (by omega)
 rw [show 2^8=256 from rfl]at hb
 have HB:=Lib.hid hb
 have HX:=Lib.hid c1
 clear c1 c2 hb
 go_enter Tryz.func160,Tryz.ntmps160
 go_wp2
 go_ret
 refine⟨ret_int ?_,rfl⟩
 have hy:x/256<256:=by have:=HX.out;omega
 rw [HB.out,←getElem!_pos,Nat.mod_eq_of_lt hy]
 clear HB HX g1 g2
 rename_i h1
 clear h1
 revert hy
 generalize x/256=y
 revert y
 decide +kernel
theorem len32_any (x:Nat)(w:World)(h:x < 4294967296) :
  Calls Tryz.prog 160 #[.int .u32 (x:Int)] w fun e w'=>e=.returned (.int .i64 (bl x:Int))∧w=w':=by
 by_cases c1:65536≤x
 ·exact len32_big x w h c1
 ·by_cases c2:256≤x
  ·exact len32_mid x w (by omega) c2
  ·exact len32_small x w (by omega)
end Go.Proofs.YtngdldcgkaplbaaGreat