import Derived.Test.YtngdldcgkaplbaaGreatK14
import Derived.Conc.Own5
import Derived.Conc.Own2
import Derived.Conc.Own3
import Derived.Conc.Own4
import Derived.Conc.CompanyDraw
import Derived.Calls
set_option linter.unusedVariables false
set_option linter.unusedSimpArgs false
namespace Go.Proofs.YtngdldcgkaplbaaGreat.Lk
open Go
section
variable {P:Program} {F:FuncId→Prop} {α β:Type} {r:Map}
def appT (P:Program)(ts:Array TypeId):Bool:=(match ts[0]? with|some t=>elemSz P t|none=>true)&&(match ts[1]? with|some t=>(match P.underlying t with|some (.int _)=>false|_=>true)|none=>true)
theorem zeroCells_like {z:Value}(n:Nat)(h:VA F r z.cells z.cells)(hz:z.cells.size≠0):VA F r (Builtin.zeroCells z.cells n) (Builtin.zeroCells z.cells n):=by
 have:=zeros_like (n*z.cells.size) h (.inl hz)
 unfold Builtin.zeroCells
 exact this
def apMore2 (elem:TypeId)(size sLen sCap n:Nat)(base:Option Addr)(x:Value):Sem Value:=do
 let newCap ←choose (.appendCap (sLen+n) sCap elem)
 let i ←typeInfo elem
 askRoom (newCap*i.bytes)
 let old ←Builtin.firstCells size sLen (.slice base sLen sCap)
 let new ←Builtin.firstCells size n x
 let z ←zeroValue elem
 let a ←newRow elem (old++new++Builtin.zeroCells z.cells (newCap-(sLen+n)))
 pure (Value.slice (some a) (sLen+n) newCap)
def apMore (elem:TypeId)(size sLen sCap n:Nat)(base:Option Addr)(x:Value):Sem Value:=do
 let i ←typeInfo elem
 if Builtin.nextslicecap (sLen+n) sCap*i.bytes > 2^48 then do
  let _ ←(do
   let b ←Builtin.mayShare size sLen n base x
   if(!b)=true then do
    let _ ←mark .noRoom
    unsupported (.resourceLimit "append: a slice or a string whose bytes no memory bears")
   else unsupported (.resourceLimit "append: a slice or a string whose bytes no memory bears") : Sem Unit)
  apMore2 elem size sLen sCap n base x
 else apMore2 elem size sLen sCap n base x
def apTail (elem:TypeId)(size sLen sCap:Nat)(base:Option Addr)(x:Value):Sem Value:=do
 let n ←Builtin.lenOf x
 if sLen+n≤sCap then do
  let new ←Builtin.firstCells size n x
  match base with
   |some a=>do
    let _ ←storeCells (a.add (sLen*size)) new.toList
    pure (Value.slice base (sLen+n) sCap)
   |_=>pure (Value.slice base (sLen+n) sCap)
 else do
  let i ←typeInfo elem
  if((sLen+n:Nat):Int) > IntKind.i64.max∧(false=true∨i.bytes=0)then do
   let _ ← (runtimePanic (.error "growslice: len out of range") : Sem Unit)
   apMore elem size sLen sCap n base x
  else apMore elem size sLen sCap n base x
def BaseR (r:Map)(x y:Option Addr):Prop:=(x=none∧y=none)∨∃a b,x=some a∧y=some b∧AR r a b
theorem BaseR.mono {s:Map}(h:r.le s){x y:Option Addr}(k:BaseR r x y):BaseR s x y:=k.imp id fun⟨a,b,h1,h2,h3⟩=>⟨a,b,h1,h2,h3.mono h⟩
theorem BaseR.val {x y:Option Addr}(k:BaseR r x y)(l c:Nat):VR F r (.slice x l c) (.slice y l c):=by
 rcases k with ⟨rfl,rfl⟩|⟨a,b,rfl,rfl,h⟩
 ·exact .nils l c
 ·exact .slice l c h
theorem VR.slice_inv {x:Option Addr}{l c:Nat}{b:Value}(h:VR F r (.slice x l c) b):∃y,b=.slice y l c∧BaseR r x y:=by
 cases h with
 |nils l c=>exact⟨_,rfl,.inl ⟨rfl,rfl⟩⟩
 |slice l c ha=>exact⟨_,rfl,.inr ⟨_,_,rfl,rfl,ha⟩⟩
theorem apMore2_like {base base':Option Addr}{x x':Value}(elem:TypeId)(size sLen sCap n:Nat)(hz:zeroSz P elem=true)(hb:BaseR r base base')(hx:VR F r x x'):SR P F r (fun r1 a b=>VR F r1 a b) (apMore2 elem size sLen sCap n base x) (apMore2 elem size sLen sCap n base' x'):=by
 unfold apMore2
 refine SR.bnd (sr_choose _) fun r1 h1 c c' e=>?_
 subst e
 refine SR.bnd (mild_typeInfo elem).sr fun r2 h2 i i' e=>?_
 subst e
 refine SR.bnd (mild_askRoom _).sr fun r3 h3 _ _ _=>?_
 have h03:=Map.le_trans (Map.le_trans h1 h2) h3
 refine SR.bnd (firstCells_like size sLen ((hb.mono h03).val sLen sCap)) fun r4 h4 o o' ho=>?_
 refine SR.bnd (firstCells_like size n (hx.mono (Map.le_trans h03 h4))) fun r5 h5 m m' hm=>?_
 refine SR.bnd (zeroValue_sz elem hz) fun r6 h6 z z' e=>?_
 obtain⟨rfl,hz1,hz2⟩:=e
 exact SR.bnd (sr_newRow elem ((((ho.mono h5).mono h6).append (hm.mono h6)).append (zeroCells_like _ hz1.cells hz2))) fun r7 h7 a b ha=>SR.pur (VR.slice _ _ ha)
theorem apMore_like {base base':Option Addr}{x x':Value}(elem:TypeId)(size sLen sCap n:Nat)(hz:zeroSz P elem=true)(hb:BaseR r base base')(hx:VR F r x x'):SR P F r (fun r1 a b=>VR F r1 a b) (apMore elem size sLen sCap n base x) (apMore elem size sLen sCap n base' x'):=by
 unfold apMore
 refine SR.bnd (mild_typeInfo elem).sr fun r2 h2 i i' e=>?_
 subst e
 split
 ·refine Grim.sr (Grim.left ?_)
  refine Look.grim (look_mayShare _ _ _ _ _) fun b=>?_
  cases b
  ·exact Grim.noRoom _ (.halt _ trivial)
  ·exact .halt _ trivial
 ·exact apMore2_like elem size sLen sCap n hz (hb.mono h2) (hx.mono h2)
theorem apTail_like {base base':Option Addr}{x x':Value}(elem:TypeId)(size sLen sCap:Nat)(hz:zeroSz P elem=true)(hb:BaseR r base base')(hx:VR F r x x'):SR P F r (fun r1 a b=>VR F r1 a b) (apTail elem size sLen sCap base x) (apTail elem size sLen sCap base' x'):=by
 unfold apTail
 refine SR.bnd (lenOf_like hx) fun r1 h1 n n' e=>?_
 subst e
 split
 ·refine SR.bnd (firstCells_like size n (hx.mono h1)) fun r2 h2 c c' hc=>?_
  have hb2:=(hb.mono h1).mono h2
  have hv:=hb2
  rcases hb2 with ⟨rfl,rfl⟩|⟨a,b,rfl,rfl,ha⟩
  ·exact .pur (hv.val _ _)
  ·exact SR.bnd (storeCells_arr (ha.add _) hc) fun r3 h3 _ _ _=>.pur ((hv.mono h3).val _ _)
 ·refine SR.bnd (mild_typeInfo elem).sr fun r2 h2 i i' e=>?_
  subst e
  split
  ·exact Grim.sr (Grim.left (grim_error _))
  ·exact apMore_like elem size sLen sCap n hz ((hb.mono h1).mono h2) ((hx.mono h1).mono h2)
theorem append_like {xs ys:Array Value}(ts:Array TypeId)(t:TypeId)(ht:appT P ts=true)(h:VA F r xs ys):SR P F r (fun r1 a b=>VR F r1 a b) (Builtin.append_ ts t xs) (Builtin.append_ ts t ys):=by
 unfold Builtin.append_
 cases hu:ts[0]? with
 |none=>exact .halt trivial
 |some u=>
  rcases two_like h 0 with ⟨e1,e2⟩|⟨a,b,e1,e2,hv⟩
  ·rw [e1,e2];exact .halt trivial
  rcases two_like h 1 with ⟨g1,g2⟩|⟨c,d,g1,g2,hw⟩
  ·rw [e1,e2,g1,g2];exact .halt trivial
  rw [e1,e2,g1,g2]
  unfold appT at ht
  simp only [Bool.and_eq_true]at ht
  obtain⟨ht1,ht2⟩:=ht
  rw [hu]at ht1
  dsimp only at ht1
  refine SR.bnd (und_like u) fun r1 hr D D' e=>?_
  obtain⟨rfl,eD⟩:=e
  unfold elemSz at ht1
  rw [eD]at ht1
  cases D with
  |slice elem=>
   dsimp only at ht1
   by_cases hs:∃base l cc,a=.slice base l cc
   ·obtain⟨base,l,cc,rfl⟩:=hs
    obtain⟨base',rfl,hb0⟩:=hv.slice_inv
    have hb:=hb0.mono hr
    refine SR.bnd (mild_sizeOf elem).sr fun r2 hr2 size size' e=>?_
    subst e
    cases h1:ts[1]? with
    |none=>
     refine SR.bnd (A:=fun _ (a b:Bool)=>a=false∧b=false) (.pur ⟨rfl,rfl⟩) fun r3 hr3 z z' e=>?_
     rw [e.1,e.2]
     exact apTail_like elem size l cc ht1 ((hb.mono hr2).mono hr3) (((hw.mono hr).mono hr2).mono hr3)
    |some v=>
     rw [h1]at ht2
     dsimp only at ht2
     refine SR.bnd (und_like v) fun r3 hr3 D D' e=>?_
     obtain⟨rfl,eD⟩:=e
     rw [eD]at ht2
     refine SR.bnd (A:=fun _ (a b:Bool)=>a=false∧b=false) (by cases D<;>first|(cases ht2;done)|exact .pur ⟨rfl,rfl⟩) fun r4 hr4 z z' e=>?_
     rw [e.1,e.2]
     exact apTail_like elem size l cc ht1 (((hb.mono hr2).mono hr3).mono hr4) ((((hw.mono hr).mono hr2).mono hr3).mono hr4)
   ·refine SR.end_ ⟨.stuck "append: slice expected", ?_, trivial⟩
    cases a<;>first|rfl|exact absurd ⟨_,_,_,rfl⟩ hs
  |_=>exact .halt trivial
end
section
variable {P:Program} {F G:FuncId→Prop} {α β:Type} {r:Map}
theorem pureT_guard:∀(m n:Nat) (t:TypeId),m≤n→pureT P m t=true→P.eqGuardType n t=false
 |0,n,t,h,ht=>by cases ht
 |m+1,0,t,h,ht=>by omega
 |m+1,n+1,t,h,ht=>by
  unfold pureT at ht
  simp only [Bool.and_eq_true]at ht
  unfold Program.eqGuardType
  cases hu:P.underlying t with
  |none=>rfl
  |some D=>
   have ht:=ht.2
   rw [hu]at ht
   cases D with
   |struct fs=>
    dsimp only at ht ⊢
    rw [Array.any_eq_false']
    intro f hf
    rw [pureT_guard m n f.type (by omega) (Array.all_eq_true'.1 ht f hf)]
    simp
   |array k e=>exact pureT_guard m n e (by omega) ht
   |interface ms=>cases ht
   |_=>rfl
theorem eqGuard_like {x x' y y':Value}(op:BinOp)(t:TypeId)(a b:Operand)(ht:opT P op t=true)(hx:VR F r x x')(hy:VR F r y y'):SR P F r (fun _ _ _=>True) (eqGuard op t a b x y) (eqGuard op t a b x' y'):=by
 have go:pureT P 8 t=true→SR P F r (fun _ _ _=>True) (eqGuard .eql t a b x y) (eqGuard .eql t a b x' y')∧SR P F r (fun _ _ _=>True) (eqGuard .neq t a b x y) (eqGuard .neq t a b x' y'):=by
  intro hp
  have hg:P.eqGuardType P.depth t=false:=pureT_guard 8 _ t (by unfold Program.depth;have:Made.depth=100:=rfl;omega) hp
  have hi:∀ms,P.underlying t≠some (.interface ms):=by
   intro ms h
   unfold pureT at hp
   rw [h]at hp
   simp at hp
  have nili:SR P F r (fun _ a b=>a=false∧b=false) (Op.eqGuardIn Op.maxDepth t .nilIface .nilIface) (Op.eqGuardIn Op.maxDepth t .nilIface .nilIface):=by
   show SR P F r _ (underlying t >>= _) (underlying t >>= _)
   refine SR.bnd (und_like t) fun r1 h1 D D' e=>?_
   obtain⟨rfl,eD⟩:=e
   cases D with
   |interface ms=>exact absurd eD (hi ms)
   |_=>exact .pur ⟨rfl,rfl⟩
  unfold eqGuard
  cases hx with
  |nili=>
   cases hy with
   |nili=>
    have fin := SR.bnd (C := fun _ (_ _ : Unit) => True) (f := fun z => if z = true then unsupported (.noEntry "binop/eql: two nil values of an interface type with methods, neither of them the literal nil") else pure ()) (f' := fun z => if z = true then unsupported (.noEntry "binop/eql: two nil values of an interface type with methods, neither of them the literal nil") else pure ()) nili fun r1 h1 u u' e => (by rw [e.1, e.2]; exact .pur trivial)
    constructor
    all_goals (cases a<;>cases b<;>first|exact .pur trivial|exact fin)
   |_=>exact⟨.pur trivial,.pur trivial⟩
  |agg h1 h2=>
   cases hy with
   |agg h3 h4=>
    constructor
    all_goals
     simp only [Bool.not_true,Bool.false_eq_true,if_false]
     refine SR.bnd sr_program fun r1 h1 p p' e=>?_
     rw [e.1,e.2]
     refine SR.bnd sr_program fun r2 h2 p p' e=>?_
     rw [e.1,e.2,hg]
     exact .pur trivial
   |_=>exact⟨.pur trivial,.pur trivial⟩
  |_=>cases hy<;>exact⟨.pur trivial,.pur trivial⟩
 cases op
 case eql=>exact(go (by unfold opT at ht;simp only [Bool.and_eq_true]at ht;exact ht.2)).1
 case neq=>exact(go (by unfold opT at ht;simp only [Bool.and_eq_true]at ht;exact ht.2)).2
 all_goals exact .pur trivial
inductive NR (F G:FuncId→Prop)(r:Map):Next→Next→Prop
 |value {v v':Value} (h:VR F r v v'):NR F G r (.value v) (.value v')
 |skip:NR F G r .skip .skip
 |enter {f:FuncId} {xs ys:Array Value} (hf:G f) (h:VA F r xs ys):NR F G r (.enter f xs) (.enter f ys)
def FnOk (P:Program)(F G:FuncId→Prop)(f:FuncId):Prop:=∀(r:Map) (xs ys:Array Value),VA F r xs ys→SR P F r (fun r1 a b=>NR F G r1 a b) (callFunc f xs) (callFunc f ys)
theorem fnOk_body {f : FuncId} {fn : Func} (hF : G f) (hf : P.funcs[f]? = some fn) (hn : (fn.name == "runtime.NumGoroutine") = false) (hb : fn.body.isNone = false) : FnOk P F G f := by
 intro r xs ys h
 unfold callFunc
 refine SR.bnd sr_program fun r1 h1 p p' e=>?_
 rw [e.1,e.2,hf]
 dsimp only
 rw [hn,hb]
 simp only [Bool.false_eq_true,if_false]
 exact .pur (.enter hF (h.mono h1))
theorem fnOk_extern {f : FuncId} {fn : Func} {E : Array Value → Sem Value} (hf : P.funcs[f]? = some fn) (hn : (fn.name == "runtime.NumGoroutine") = false) (hb : fn.body.isNone = true) (hx : Extern.findNext fn = none) (he : Extern.find fn = some E)
  (hE:∀(r:Map) (xs ys:Array Value),VA F r xs ys→SR P F r (fun r1 a b=>VR F r1 a b) (E xs) (E ys)):FnOk P F G f:=by
 intro r xs ys h
 unfold callFunc
 refine SR.bnd sr_program fun r1 h1 p p' e=>?_
 rw [e.1,e.2,hf]
 dsimp only
 rw [hn,hb]
 simp only [Bool.false_eq_true,if_false,if_true]
 refine SR.bnd (sr_mark (.inl ⟨f,rfl⟩)) fun r2 h2 _ _ _=>?_
 rw [hx,he]
 exact SR.bnd (hE r2 xs ys ((h.mono h1).mono h2)) fun r3 h3 a b hv=>.pur (.value hv)
inductive DR (F:FuncId→Prop)(r:Map):Deferred→Deferred→Prop
 |nil {xs ys:Array Value} (h:VA F r xs ys):DR F r ⟨.nil,xs⟩ ⟨.nil,ys⟩
 |fn {f:FuncId} {us vs xs ys:Array Value} (hf:F f) (h1:VA F r us vs) (h2:VA F r xs ys):DR F r ⟨.fn (.func f) us,xs⟩ ⟨.fn (.func f) vs,ys⟩
theorem invoke_like (hF:∀ f,F f→FnOk P F G f){d d':Deferred}(h:DR F r d d'):SR P F r (fun r1 a b=>NR F G r1 a b) (invoke d.target d.args) (invoke d'.target d'.args):=by
 cases h with
 |nil h=>exact grim_nil.sr
 |fn hf h1 h2=>exact hF _ hf r _ _ (h2.append h1)
theorem call_like (hF:∀ f,F f→FnOk P F G f){x x':Value}{xs ys:Array Value}(hx:VR F r x x')(h:VA F r xs ys):SR P F r (fun r1 a b=>NR F G r1 a b) (Deferred.ofValue x xs >>= fun d=>invoke d.target d.args) (Deferred.ofValue x' ys >>= fun d=>invoke d.target d.args):=by
 have nil:∀{s:Sem Next},SR P F r (fun r1 a b=>NR F G r1 a b) (Deferred.ofValue .nilFunc xs >>= fun d=>invoke d.target d.args) s:=fun {s}=>Grim.sr (show Grim (invoke .nil xs)from grim_nil)
 cases hx with
 |func hf h1 h2 h3 h4=>exact SR.bnd (A:=fun r1 a b=>DR F r1 a b) (.pur (.fn hf ⟨h3,h4⟩ (VA.append ⟨h1,h2⟩ h))) fun r1 h1 d d' hd=>invoke_like hF hd
 |nilf=>exact nil
 |void=>exact nil
 |voidp=>exact nil
 |_=>exact SR.bnd (A:=fun r1 a b=>DR F r1 a b) (.halt trivial) fun r1 h1 d d' hd=>invoke_like hF hd
structure FB where
 val:FuncId→Bool
 call:FuncId→Bool
def argB (fb:FB):Operand→Bool
 | .tmp _=>true
 | .const v=>closedB v
 | .global _=>false
 | .func f=>fb.val f
def fieldT (P:Program)(t:TypeId)(f:Nat):Bool:=match P.underlying t with
 |some (.struct fs)=>(match fs[f]? with|some g=>P.cellsOf g.type != 0|none=>true)
 |_=>true
def niceOp (P:Program)(fb:FB)(o:Oper):Bool:=match o.op with
 | .move x | .assign x | .box _ x | .load _ x | .nilCheck x | .unOp _ _ x | .field _ x _ | .extract x _ | .makeInterface _ x | .panic x=>argB fb x
 | .pick c a b=>argB fb c&&argB fb a&&argB fb b
 | .alloc e=>zeroOk P e
 | .build t ps=>zeroOk P t&&ps.all fun p=>argB fb p.2
 | .buildSlice t _ ps=>elemSz P t&&ps.all fun p=>argB fb p.2
 | .store _ a v=>argB fb a&&argB fb v
 | .binOp op t x y _=>opT P op t&&argB fb x&&argB fb y
 | .convert s d x=>numT P s&&numT P d&&argB fb x
 | .makeFunc (.func f) first captured=>fb.val f&&first.all (argB fb)&&captured.all (argB fb)
 | .makeSlice t l c=>elemSz P t&&argB fb l&&argB fb c
 | .slice _ x lo hi mx=>argB fb x&&lo.all (argB fb)&&hi.all (argB fb)&&mx.all (argB fb)
 | .fieldAddr t x f=>fieldT P t f&&argB fb x
 | .indexAddr _ x i | .index _ x i=>argB fb x&&argB fb i
 | .call c=>c.args.all (argB fb)&&match c.callee with
  | .value (.func f)=>fb.call f
  | .value f=>argB fb f
  | .builtin .len=>(match c.argTypes[0]? with|some u=>lenT P u|none=>true)
  | .builtin .append=>appT P c.argTypes
  | .builtin .copy | .builtin .max | .builtin .min=>true
  |_=>false
 |_=>false
theorem VA.map {γ:Type}{f g:γ→Value}{xs:Array γ}(h:∀ x,x∈xs→VR F r (f x) (g x)):VA F r (xs.map f) (xs.map g):=by
 refine⟨by simp,fun i v v' h1 h2=>?_⟩
 rw [Array.getElem?_map]at h1 h2
 obtain⟨a,ha,rfl⟩:=Option.map_eq_some_iff.1 h1
 rw [ha]at h2
 injection h2 with h2
 subst h2
 exact h a (Array.mem_of_getElem? ha)
theorem PR.map {f g:Operand→Value}{xs:Array (Nat×Operand)}(h:∀ x,x∈xs→VR F r (f x.2) (g x.2)):PR F r (xs.map fun(i,x)=>(i,f x)).toList (xs.map fun(i,x)=>(i,g x)).toList:=by
 refine⟨by simp,fun i p q h1 h2=>?_⟩
 rw [Array.getElem?_toList,Array.getElem?_map]at h1 h2
 obtain⟨a,ha,rfl⟩:=Option.map_eq_some_iff.1 h1
 rw [ha]at h2
 injection h2 with h2
 subst h2
 exact⟨rfl,h a (Array.mem_of_getElem? ha)⟩
theorem OR.map {fb:FB}{f g:Operand→Value}{x:Option Operand}(hev:∀ x,argB fb x=true→VR F r (f x) (g x))(h:x.all (argB fb)=true):OR F r (x.map f) (x.map g):=by
 cases x with
 |none=>exact .inl ⟨rfl,rfl⟩
 |some x=>exact .inr ⟨_,_,rfl,rfl,hev x h⟩
theorem sr_v {s s':Sem Value}(h:SR P F r (fun r1 a b=>VR F r1 a b) s s'):SR P F r (fun r1 a b=>NR F G r1 a b) (do pure (.value (←s)):Sem Next) (do pure (.value (←s')):Sem Next):=SR.bnd h fun r1 h1 a b hv=>.pur (.value hv)
theorem sr_u {s s':Sem Unit}(h:SR P F r (fun _ _ _=>True) s s'):SR P F r (fun r1 a b=>NR F G r1 a b) (do s;pure .skip:Sem Next) (do s';pure .skip:Sem Next):=SR.bnd h fun r1 h1 a b hv=>.pur .skip
theorem makeInterface_like {x x':Value}(t:TypeId)(h:VR F r x x'):SR P F r (fun r1 a b=>VR F r1 a b) (Instr.makeInterface t x) (Instr.makeInterface t x'):=by
 unfold Instr.makeInterface
 refine SR.bnd (mild_underlying t).sr fun r1 h1 d d' e=>?_
 subst e
 split
 ·exact .halt trivial
 ·exact .pur (.iface t (h.mono h1))
theorem mild_elemOf (t:TypeId):Mild (elemOf t):=by
 unfold elemOf
 refine Mild.bnd (mild_underlying t) fun d=>?_
 split<;>first|exact .pur _|exact .stuck _
theorem grim_panicNil {α:Type}:Grim (runtimePanic .panicNil:Sem α):=
 Grim.bnd .program' fun p=>Grim.bnd (mild_elemOf _) fun t=>Grim.new _ _ fun b=>Grim.halt (.panic _) trivial
theorem panic_like {x x':Value}(h:VR F r x x'):SR P F r (fun r1 a b=>VR F r1 a b) (Instr.panic x) (Instr.panic x'):=by
 cases h with
 |iface t h=>exact .halt trivial
 |nili=>
  refine Grim.sr ?_
  unfold Instr.panic Instr.panicnil
  refine Grim.sys _ _ fun p=>?_
  cases p<;>first
   |exact .halt _ trivial
   |(refine Grim.program _ fun q=>?_
     show Grim (if _ then _ else _)
     split
     ·exact .halt _ trivial
     ·exact grim_panicNil)
 |_=>exact .halt trivial
theorem execOp_like {fb:FB}{ev ev':Operand→Value}(o:Oper)(ho:niceOp P fb o=true)(hFb:∀ f,fb.val f=true→F f)(hF:∀ f,F f∨fb.call f=true→FnOk P F G f)(hev0:∀ f,ev (.func f)=.func (.func f) #[] #[]∧ev' (.func f)=.func (.func f) #[] #[])(hev:∀ x,argB fb x=true→VR F r (ev x) (ev' x)) :
  SR P F r (fun r1 a b=>NR F G r1 a b) (execOp ev o) (execOp ev' o):=by
 obtain⟨dst,op,type,pos,after,guard⟩:=o
 unfold niceOp at ho
 dsimp only at ho
 unfold execOp
 cases op<;>dsimp only at ho ⊢
 case move x=>exact .pur (.value (hev x ho))
 case assign x=>exact .pur (.value (hev x ho))
 case pick c a b=>
  simp only [Bool.and_eq_true]at ho
  refine SR.bnd (asBool_like (hev c ho.1.1)) fun r1 h1 u u' e=>?_
  subst e
  cases u
  ·exact .pur (.value ((hev b ho.2).mono h1))
  ·exact .pur (.value ((hev a ho.1.2).mono h1))
 case alloc e=>exact sr_v (alloc_like e ho)
 case box e x=>exact sr_v (box_like e (hev x ho))
 case build t ps=>
  simp only [Bool.and_eq_true]at ho
  exact sr_v (build_like t ho.1 (PR.map fun x hx=>hev _ (Array.all_eq_true'.1 ho.2 x hx)))
 case buildSlice t n ps=>
  simp only [Bool.and_eq_true]at ho
  exact sr_v (buildSlice_like t n ho.1 (PR.map fun x hx=>hev _ (Array.all_eq_true'.1 ho.2 x hx)))
 case load t a=>exact sr_v (loadAt_like t (hev a ho))
 case store t a x=>
  simp only [Bool.and_eq_true]at ho
  exact sr_u (storeAt_like t (hev a ho.1) (hev x ho.2))
 case nilCheck x=>
  have h:=hev x ho
  generalize ev x=u at h ⊢
  generalize ev' x=u' at h ⊢
  cases h<;>first
   |exact .pur (.value (by first|exact .bool _|exact .int _ _|exact .float _ _|exact .string _|exact .ptr (by assumption)|exact .nils _ _|exact .slice _ _ (by assumption)|exact .chan _|exact .iface _ (by assumption)|exact .agg (by assumption) (by assumption)|exact .tuple (by assumption) (by assumption)|exact .func (by assumption) (by assumption) (by assumption) (by assumption) (by assumption)))
   |exact grim_nil.sr
 case binOp op t x y z=>
  simp only [Bool.and_eq_true]at ho
  exact sr_v (SR.bnd (eqGuard_like op t x y ho.1.1 (hev x ho.1.2) (hev y ho.2)) fun r1 h1 _ _ _=>binOp_like op t ho.1.1 ((hev x ho.1.2).mono h1) ((hev y ho.2).mono h1))
 case makeInterface t x=>exact sr_v (makeInterface_like t (hev x ho))
 case panic x=>exact sr_v (panic_like (hev x ho))
 case unOp op t x=>exact sr_v (unary_like op (hev x ho))
 case convert s d x=>
  simp only [Bool.and_eq_true]at ho
  exact sr_v (convert_like s d ho.1.1 ho.1.2 (hev x ho.2))
 case makeFunc fn first captured=>
  cases fn with
  |func f=>
   simp only [Bool.and_eq_true]at ho
   refine .pur (.value ?_)
   have h1:VA F r (first.map ev) (first.map ev'):=VA.map fun x hx=>hev x (Array.all_eq_true'.1 ho.1.2 x hx)
   have h2:VA F r (captured.map ev) (captured.map ev'):=VA.map fun x hx=>hev x (Array.all_eq_true'.1 ho.2 x hx)
   exact .func (hFb f ho.1.1) h1.1 h1.2 h2.1 h2.2
  |_=>cases ho
 case makeSlice t l c=>
  simp only [Bool.and_eq_true]at ho
  exact sr_v (makeSlice_like t (hev l ho.1.2) (hev c ho.2) ho.1.1)
 case slice t x lo hi mx=>
  simp only [Bool.and_eq_true]at ho
  exact sr_v (sliceAt_like t (hev x ho.1.1.1) (OR.map hev ho.1.1.2) (OR.map hev ho.1.2) (OR.map hev ho.2))
 case fieldAddr t x f=>
  simp only [Bool.and_eq_true]at ho
  refine sr_v (fieldAt_like t f (hev x ho.2) fun fs g h1 h2=>?_)
  have:=ho.1
  unfold fieldT at this
  rw [h1]at this
  dsimp only at this
  rw [h2]at this
  simpa using this
 case field t x f=>exact sr_v (field_like t f (hev x ho))
 case indexAddr t x i=>
  simp only [Bool.and_eq_true]at ho
  exact sr_v (indexAt_like t (hev x ho.1) (hev i ho.2))
 case index t x i=>
  simp only [Bool.and_eq_true]at ho
  exact sr_v (index_like t (hev x ho.1) (hev i ho.2))
 case extract x i=>exact sr_v (extract_like i (hev x ho))
 case call c=>
  obtain⟨callee,args,ats⟩:=c
  dsimp only at ho
  simp only [Bool.and_eq_true]at ho
  have ha:VA F r (args.map ev) (args.map ev'):=VA.map fun x hx=>hev x (Array.all_eq_true'.1 ho.1 x hx)
  unfold resolve
  cases callee with
  |value f=>
   dsimp only at ho ⊢
   cases f with
   |func f0=>
    rw [(hev0 f0).1,(hev0 f0).2]
    have h0:VA F r #[] #[]:=VA.empty
    exact hF f0 (.inr ho.2) r _ _ ((h0.append ha).append h0)
   |tmp t=>exact call_like (fun f h=>hF f (.inl h)) (hev (.tmp t) ho.2) ha
   |const v=>exact call_like (fun f h=>hF f (.inl h)) (hev (.const v) ho.2) ha
   |global g=>exact call_like (fun f h=>hF f (.inl h)) (hev (.global g) ho.2) ha
  |invoke x nm=>cases ho.2
  |builtin b=>
   dsimp only at ho ⊢
   cases b<;>dsimp only at ho<;>first|(cases ho.2;done)|skip
   case len=>exact sr_v (len_like ats type (fun u hu=>by have:=ho.2;rw [hu]at this;exact this) ha)
   case append=>exact sr_v (append_like ats type ho.2 ha)
   case copy=>exact sr_v (copy_like ats type ha)
   case max=>exact sr_v (max_like ats type ha)
   case min=>exact sr_v (min_like ats type ha)
 all_goals cases ho
end
end Go.Proofs.YtngdldcgkaplbaaGreat.Lk
namespace Go.Proofs.YtngdldcgkaplbaaGreat.Lk
open Go Go.Conc
def bs (fn:FuncId)(K:CallKind):Frame:={ (default:Frame)with fn:=fn,kind:=K }
def mk (fn:FuncId)(K:CallKind)(tmps:Array Value)(D:List Deferred)(todo:List Item)(ret:Bool):Frame:=
 if ret then { (bs fn K).at ⟨tmps,D⟩ todo with mode:=.returning } else(bs fn K).at ⟨tmps,D⟩ todo
def niceCode (P:Program)(fb:FB):Code→Bool
 | .skip | .ret | .label _ | .exit _ | .goto _=>true
 | .region _ ops _=>ops.all (niceOp P fb)
 | .seq a b=>niceCode P fb a&&niceCode P fb b
 | .cond c a b=>argB fb c&&niceCode P fb a&&niceCode P fb b
 | .block _ c | .loop c | .scope c=>niceCode P fb c
 |_=>false
def niceItem (P:Program)(fb:FB):Item→Bool
 | .code c | .inLoop c | .inScope c=>niceCode P fb c
 | .inBlock _=>true
 | .inRegion ops _=>ops.all (niceOp P fb)
 |_=>false
def catcher (P : Program) : Frame := { (default : Frame) with fn := P.funcs.size, todo := [.call ⟨.nil, #[]⟩ false "fmt's door of none" #[]], kind := .normal }
section
variable (P:Program) (fb:FB) (F:FuncId→Prop)
inductive FR (r:Map)(kg k':List Item)(D':List Deferred)(K':CallKind):Frame→Frame→Prop
 |mk {fn:FuncId} {tmps tmps':Array Value} {pre:List Item} {ret:Bool} (h:VA F r tmps tmps') (hp:pre.all (niceItem P fb)=true):FR r kg k' D' K' (mk fn .normal tmps [] (pre++kg) ret) (mk fn K' tmps' D' (pre++k') ret)
variable (kg k':List Item) (D':List Deferred) (K':CallKind) (base':List Frame)
inductive Wt (r:Map):List Frame→List Frame→Prop
 |bot {fn:FuncId} {tmps tmps':Array Value} {ops:Array Oper} {i:Nat} {rest:List Nat} {pre:List Item} (h:VA F r tmps tmps') (ho:ops.all (niceOp P fb)=true) (hp:pre.all (niceItem P fb)=true):
   Wt r [mk fn .normal tmps [] (.inRegion ops (i::rest)::pre++kg) false,catcher P] (mk fn K' tmps' D' (.inRegion ops (i::rest)::pre++k') false::base')
 |up {fn:FuncId} {tmps tmps':Array Value} {ops:Array Oper} {i:Nat} {rest:List Nat} {pre:List Item} {fs fs':List Frame} (h:VA F r tmps tmps') (ho:ops.all (niceOp P fb)=true) (hp:pre.all (niceItem P fb)=true) (k:Wt r fs fs'):
   Wt r (mk fn .normal tmps [] (.inRegion ops (i::rest)::pre) false::fs) (mk fn .normal tmps' [] (.inRegion ops (i::rest)::pre) false::fs')
inductive Tl (r:Map):List Item→List Item→List Deferred→CallKind→List Frame→List Frame→Prop
 |bot:Tl r kg k' D' K' [catcher P] base'
 |up {fs fs':List Frame} (k:Wt P fb F kg k' D' K' base' r fs fs'):Tl r [] [] [] .normal fs fs'
def SkR (r:Map)(fr:Frame)(cs:List Frame)(fr':Frame)(cs':List Frame):Prop:=∃a b c d,Tl P fb F kg k' D' K' base' r a b c d cs cs'∧FR P fb F r a b c d fr fr'
end
section
variable {P:Program} {fb:FB} {F G:FuncId→Prop} {kg k':List Item} {D':List Deferred} {K':CallKind} {base':List Frame} {r r1:Map} {main:Bool}
theorem Wt.mono (hr:r.le r1){fs fs':List Frame}(h:Wt P fb F kg k' D' K' base' r fs fs'):Wt P fb F kg k' D' K' base' r1 fs fs':=by
 induction h with
 |bot h ho hp=>exact .bot (h.mono hr) ho hp
 |up h ho hp _ ih=>exact .up (h.mono hr) ho hp ih
theorem Tl.mono (hr:r.le r1){a:List Item}{b:List Item}{c:List Deferred}{d:CallKind}{fs fs':List Frame}(h:Tl P fb F kg k' D' K' base' r a b c d fs fs'):Tl P fb F kg k' D' K' base' r1 a b c d fs fs':=by
 cases h with
 |bot=>exact .bot
 |up k=>exact .up (k.mono hr)
theorem Tl.sk {a:List Item}{b:List Item}{c:List Deferred}{d:CallKind}{fs fs':List Frame}{fr fr':Frame}(h:Tl P fb F kg k' D' K' base' r a b c d fs fs')(k:FR P fb F r a b c d fr fr'):SkR P fb F kg k' D' K' base' r fr fs fr' fs':=⟨a,b,c,d,h,k⟩
def Bad (P:Program)(fs:List Frame):Prop:=(∀c∈fs,c.defers=[])∧(∃fr rest chain,fs=fr::rest∧fr.mode=.panicking chain)∧∃l,fs.getLast?=some l∧l.catches P=true
def Out (P:Program)(fb:FB)(F:FuncId→Prop)(kg k':List Item)(D':List Deferred)(K':CallKind)(base':List Frame)(main:Bool)(r:Map)(v w:World)(fr':Frame)(cs':List Frame):GStep→Prop
 | .go g1 v1 _=>(∃fr1 cs1 r1 fr1' cs1' w1 es',g1=Go.Conc.G fr1 cs1∧stepG P main (Go.Conc.G fr' cs') w=.go (Go.Conc.G fr1' cs1') w1 es'∧SkR P fb F kg k' D' K' base' r1 fr1 cs1 fr1' cs1'∧St P F r r1 v v1 w w1 es'.toList) ∨
   ∃fr1 cs1,g1=Go.Conc.G fr1 cs1∧Bad P (fr1::cs1)
 | .ended _ _ _=>True
 |_=>False
variable {v w:World} {a:List Item} {b:List Item} {c:List Deferred} {d:CallKind} {cs cs':List Frame}
theorem out_ctl (hw:WR P F r v w)(ht:Tp v w)(hT:Tl P fb F kg k' D' K' base' r a b c d cs cs'){fn:FuncId}{tmps tmps':Array Value}{fr fr':Frame}{pre:List Item}{ret:Bool}(hv:VA F r tmps tmps')(hp:pre.all (niceItem P fb)=true)
  (h1:stepG P true (Go.Conc.G fr cs) v=.go (Go.Conc.G (mk fn .normal tmps [] (pre++a) ret) cs) v)
  (h2:stepG P main (Go.Conc.G fr' cs') w=.go (Go.Conc.G (mk fn d tmps' c (pre++b) ret) cs') w):
  Out P fb F kg k' D' K' base' main r v w fr' cs' (stepG P true (Go.Conc.G fr cs) v):=by
 rw [h1]
 exact .inl ⟨_,_,r,_,_,w,#[],rfl,h2,hT.sk (.mk hv hp),St.refl hw ht⟩
theorem exitTo_app (id:Nat):∀(pre k:List Item),exitTo id (pre++k)=match exitTo id pre with|some p=>some (p++k)|none=>exitTo id k
 |[],k=>rfl
 |x::pre,k=>by
  cases x with
  |inBlock j=>
   simp only [List.cons_append,exitTo]
   by_cases h:(j==id)=true
   ·rw [if_pos h,if_pos h]
   ·rw [if_neg h,if_neg h];exact exitTo_app id pre k
  |_=>exact exitTo_app id pre k
theorem gotoIn_app (l:Nat):∀(pre k:List Item),gotoIn l (pre++k)=match gotoIn l pre with|some p=>some (p++k)|none=>gotoIn l k
 |[],k=>rfl
 |x::pre,k=>by
  cases x with
  |inScope c=>
   simp only [List.cons_append,gotoIn]
   cases findLabel c l with
   |some z=>rfl
   |none=>exact gotoIn_app l pre k
  |_=>exact gotoIn_app l pre k
theorem exitTo_nice (id:Nat):∀(pre p:List Item),pre.all (niceItem P fb)=true→exitTo id pre=some p→p.all (niceItem P fb)=true
 |[],p,h,e=>by cases e
 |x::pre,p,h,e=>by
  simp only [List.all_cons,Bool.and_eq_true]at h
  cases x with
  |inBlock j=>
   simp only [exitTo]at e
   split at e
   ·injection e with e;subst e;exact h.2
   ·exact exitTo_nice id pre p h.2 e
  |_=>exact exitTo_nice id pre p h.2 e
theorem findLabel_nice (l:Nat):∀(c z:Code),niceCode P fb c=true→findLabel c l=some z→niceCode P fb z=true
 | .seq x y,z,h,e=>by
  simp only [niceCode,Bool.and_eq_true]at h
  simp only [findLabel]at e
  cases hx:findLabel x l with
  |some u=>
   rw [hx]at e
   injection e with e;subst e
   simp only [niceCode,Bool.and_eq_true]
   exact⟨findLabel_nice l x u h.1 hx,h.2⟩
  |none=>
   rw [hx]at e
   exact findLabel_nice l y z h.2 e
 | .label m,z,h,e=>by
  simp only [findLabel]at e
  split at e
  ·injection e with e;subst e;rfl
  ·cases e
 | .skip,z,h,e | .ret,z,h,e | .exit _,z,h,e | .goto _,z,h,e | .region _ _ _,z,h,e | .cond _ _ _,z,h,e | .block _ _,z,h,e | .loop _,z,h,e | .scope _,z,h,e | .rangeFunc _ _ _ _,z,h,e | .refuse _,z,h,e=>by cases e
theorem gotoIn_nice (l:Nat):∀(pre p:List Item),pre.all (niceItem P fb)=true→gotoIn l pre=some p→p.all (niceItem P fb)=true
 |[],p,h,e=>by cases e
 |x::pre,p,h,e=>by
  simp only [List.all_cons,Bool.and_eq_true]at h
  cases x with
  |inScope c=>
   simp only [gotoIn]at e
   cases hf:findLabel c l with
   |some z=>
    rw [hf]at e
    injection e with e;subst e
    simp only [List.all_cons,Bool.and_eq_true]
    exact⟨findLabel_nice l c z h.1 hf,h.1,h.2⟩
   |none=>
    rw [hf]at e
    exact gotoIn_nice l pre p h.2 e
  |_=>exact gotoIn_nice l pre p h.2 e
theorem eval_like (hFb:∀ f,fb.val f=true→F f){tmps tmps':Array Value}{D D':List Deferred}(h:VA F r tmps tmps')(x:Operand)(hx:argB fb x=true):VR F r ((⟨tmps,D⟩:Act).eval x) ((⟨tmps',D'⟩:Act).eval x):=by
 cases x with
 |tmp t=>
  simp only [Act.eval,Array.getD_eq_getD_getElem?]
  cases ht:tmps[t]? with
  |none=>rw [h.none ht];exact VR.undef
  |some y=>
   obtain⟨z,hz,hv⟩:=h.get ht
   rw [hz];exact hv
 |const v=>exact closedB_like hx
 |global g=>cases hx
 |func f=>exact .func (hFb f hx) rfl (fun i v v' h=>by simp at h) rfl (fun i v v' h=>by simp at h)
theorem yielded_like (ops:Array Oper){tmps tmps':Array Value}(h:VA F r tmps tmps')(j:Nat):yielded ops tmps j=yielded ops tmps' j:=by
 unfold yielded
 cases (ops[j]?).bind (·.dst)with
 |none=>rfl
 |some t=>
  simp only [Option.bind_some]
  cases ht:tmps[t]? with
  |none=>rw [h.none ht]
  |some y=>
   obtain⟨z,hz,hv⟩:=h.get ht
   rw [hz]
   cases hv<;>rfl
theorem put_like {tmps tmps':Array Value}(h:VA F r tmps tmps')(dst:Option Tmp){x x':Value}(hx:VR F r x x')(D D':List Deferred):∃t t',(⟨tmps,D⟩:Act).put dst x=⟨t,D⟩∧(⟨tmps',D'⟩:Act).put dst x'=⟨t',D'⟩∧VA F r t t':=by
 cases dst with
 |none=>exact⟨tmps,tmps',rfl,rfl,h⟩
 |some d=>exact⟨_,_,rfl,rfl,h.set hx d⟩
end
theorem seen_mem (P:Program)(fn:FuncId)(es:Array Event):∀e∈(seen P fn es).toList,e∈es.toList:=by
 unfold seen
 dsimp only
 rw [←Array.foldl_toList]
 suffices h:∀(l:List Event) (q:Bool) (kept:Array Event) (S:List Event),(∀e∈kept.toList,e∈S)→(∀e∈l,e∈S)→∀e∈(l.foldl (fun(x:Bool×Array Event) (e:Event)=>match x with
   |(q,kept)=>match e.loc with
    | .mark (.extern f)=>((P.funcs[f]?).any (·.norace),kept)
    |_=>(q,if q&&!e.sync then kept else kept.push e)) (q,kept)).2.toList,e∈S from h es.toList _ #[] es.toList (fun e he=>by simp at he) (fun e he=>he)
 intro l
 induction l with
 |nil=>intro q kept S h _ e he;exact h e he
 |cons x l ih=>
  intro q kept S h1 h2 e he
  rw [List.foldl_cons]at he
  have k:∀q' kept',(∀e∈kept'.toList,e∈S)→e∈(l.foldl (fun(x:Bool×Array Event) (e:Event)=>match x with
   |(q,kept)=>match e.loc with
    | .mark (.extern f)=>((P.funcs[f]?).any (·.norace),kept)
    |_=>(q,if q&&!e.sync then kept else kept.push e)) (q',kept')).2.toList→e∈S:=fun q' kept' hk he=>ih q' kept' S hk (fun e he=>h2 e (List.mem_cons_of_mem _ he)) e he
  have pushed:∀e∈(if(q&&!x.sync)=true then kept else kept.push x).toList,e∈S:=by
   intro e he
   split at he
   ·exact h1 e he
   ·rw [Array.toList_push,List.mem_append,List.mem_singleton]at he
    rcases he with he|rfl
    ·exact h1 e he
    ·exact h2 e (List.mem_cons_self ..)
  dsimp only at he
  split at he
  ·exact k _ _ h1 he
  ·exact k _ _ pushed he
section
variable {P:Program} {fb:FB} {F G:FuncId→Prop} {kg k':List Item} {D':List Deferred} {K':CallKind} {base':List Frame} {r r1:Map} {main:Bool}
variable {v w:World} {a:List Item} {b:List Item} {c:List Deferred} {d:CallKind} {cs cs':List Frame}
def Fine (P:Program)(fb:FB)(G:FuncId→Prop):Prop:=∀f,G f→∃fn c,P.funcs[f]?=some fn∧fn.body=some c∧niceCode P fb c=true
def FineX (P:Program)(fb:FB)(G X:FuncId→Prop):Prop:=∀f,G f→X f∨∃fn c,P.funcs[f]?=some fn∧fn.body=some c∧niceCode P fb c=true
theorem Tl.kind (hK:K'≠.early)(h:Tl P fb F kg k' D' K' base' r a b c d cs cs'):(d==CallKind.early)=false:=by
 cases h with
 |bot=>simpa using hK
 |up _=>rfl
theorem Wt.calm {fs fs':List Frame}(h:Wt P fb F kg k' D' K' base' r fs fs'):(∀c∈fs,c.defers=[])∧∃l,fs.getLast?=some l∧l.catches P=true:=by
 have hc:(catcher P).catches P=true:=by
  unfold Frame.catches catcher
  rw [show P.funcs[P.funcs.size]?=none from Array.getElem?_eq_none (Nat.le_refl _)]
  show ("fmt's door of none").startsWith "fmt's door" = true
  decide +kernel
 induction h with
 |bot h ho hp=>exact⟨fun c hc=>by rcases List.mem_cons.1 hc with rfl|hc;rfl;rw [List.mem_singleton.1 hc];rfl,_,rfl,hc⟩
 |up h ho hp k ih=>
  refine⟨fun c hc=>by rcases List.mem_cons.1 hc with rfl|hc;rfl;exact ih.1 c hc,?_⟩
  obtain⟨l,h1,h2⟩:=ih.2
  refine⟨l,?_,h2⟩
  cases k<;>rw [List.getLast?_cons_cons]<;>exact h1
theorem Tl.bad (h:Tl P fb F kg k' D' K' base' r a b c d cs cs')(fr:Frame)(hf:fr.defers=[])(chain:List PanicEntry)(hm:fr.mode=.panicking chain):Bad P (fr::cs):=by
 have hc:(catcher P).catches P=true:=by
  unfold Frame.catches catcher
  rw [show P.funcs[P.funcs.size]?=none from Array.getElem?_eq_none (Nat.le_refl _)]
  show ("fmt's door of none").startsWith "fmt's door" = true
  decide +kernel
 cases h with
 |bot=>exact⟨fun c hc=>by rcases List.mem_cons.1 hc with rfl|hc;exact hf;rw [List.mem_singleton.1 hc];rfl,⟨_,_,_,rfl,hm⟩,_,rfl,hc⟩
 |up k=>
  obtain⟨h1,l,h2,h3⟩:=k.calm
  refine⟨fun c hc=>by rcases List.mem_cons.1 hc with rfl|hc;exact hf;exact h1 c hc,⟨_,_,_,rfl,hm⟩,l,?_,h3⟩
  cases k<;>rw [List.getLast?_cons_cons]<;>exact h2
theorem Tl.wait (h:Tl P fb F kg k' D' K' base' r a b c d cs cs'){fn:FuncId}{tmps tmps':Array Value}{ops:Array Oper}{i:Nat}{rest:List Nat}{pre:List Item}(hv:VA F r tmps tmps')(ho:ops.all (niceOp P fb)=true)(hp:pre.all (niceItem P fb)=true) :
  Wt P fb F kg k' D' K' base' r (mk fn .normal tmps [] (.inRegion ops (i::rest)::(pre++a)) false::cs) (mk fn d tmps' c (.inRegion ops (i::rest)::(pre++b)) false::cs'):=by
 cases h with
 |bot=>exact .bot hv ho hp
 |up k=>simp only [List.append_nil];exact .up hv ho hp k
theorem apply_like {X:FuncId→Prop}(hG:FineX P fb G X)(hK:K'≠.early)(hw:WR P F r v w)(ht:Tp v w)(hT:Tl P fb F kg k' D' K' base' r a b c d cs cs'){s s':Sem Next}(hs:SR P F r (fun r1 a b=>NR F G r1 a b) s s')
  {fn:FuncId} {tmps tmps':Array Value} {ops:Array Oper} {i:Nat} {rest:List Nat} {pre:List Item} (hv:VA F r tmps tmps') (ho:ops.all (niceOp P fb)=true) (hp:pre.all (niceItem P fb)=true) {fr':Frame}
  (h2:stepG P main (Go.Conc.G fr' cs') w=stepG.apply P true ((bs fn d).at ⟨tmps',c⟩ (.inRegion ops (i::rest)::(pre++b))) cs' none s' w)
  (hX:∀f xs q v1 es,X f→stepG.apply P true ((bs fn .normal).at ⟨tmps,[]⟩ (.inRegion ops (i::rest)::(pre++a))) cs none s v≠.go (Go.Conc.G (Frame.enter P f xs .normal) q) v1 es):
  Out P fb F kg k' D' K' base' main r v w fr' cs' (stepG.apply P true ((bs fn .normal).at ⟨tmps,[]⟩ (.inRegion ops (i::rest)::(pre++a))) cs none s v):=by
 have hS:=hs v w hw ht #[] #[]
 have hd:=hT.kind hK
 have hd':(bs fn d).kind=d:=rfl
 cases e:s.runT P v #[]with
 |mk res es=>
  rw [e]at hS
  cases res with
  |halt x v1=>
   dsimp only at hS
   cases x with
   |panic x=>
    simp only [stepG.apply,e,if_true,GStep.after,Frame.raise_at]
    exact .inr ⟨_,_,rfl,hT.bad _ rfl _ rfl⟩
   |stuck x=>simp only [stepG.apply,e,if_true,GStep.after];trivial
   |unsupported u=>
    cases u with
    |initOrder g=>exact hS.elim
    |_=>simp only [stepG.apply,e,if_true,GStep.after];trivial
   |_=>exact hS.elim
  |ok n v1=>
   obtain⟨r1,n',w1,u,e',st,nr⟩:=hS
   have ev:∀e∈(seen P fn (#[]++u.toArray)).toList,e∈u:=fun e he=>by
    have:=seen_mem P fn _ e he
    simpa using this
   have st':St P F r r1 v v1 w w1 (seen P fn (#[]++u.toArray)).toList:={ st with evs:=fun e he=>st.evs e (ev e he) }
   have hT1:=hT.mono st.le
   have hv1:=hv.mono st.le
   have kd:((bs fn d).at ⟨tmps',c⟩ (.inRegion ops (i::rest)::(pre++b))).kind=d:=rfl
   have fnd:((bs fn d).at ⟨tmps',c⟩ (.inRegion ops (i::rest)::(pre++b))).fn=fn:=rfl
   have hp1:(.inRegion ops rest::pre:List Item).all (niceItem P fb)=true:=by simp only [List.all_cons,Bool.and_eq_true];exact⟨ho,hp⟩
   cases nr with
   |value hx=>
    simp only [stepG.apply,e',if_true,GStep.after,kd,hd,fnd,Frame.finish_at,Bool.false_eq_true,if_false]at h2
    simp only [stepG.apply,e,if_true,GStep.after,Frame.finish_at]
    obtain⟨t,t',p1,p2,p3⟩:=put_like hv1 ((ops[i]?).bind (·.dst)) hx [] c
    rw [p1]
    rw [p2]at h2
    refine .inl ⟨_,_,r1,_,_,w1,seen P fn (#[]++u.toArray)++#[],rfl,h2.trans ?_,hT1.sk (.mk (pre:=.inRegion ops rest::pre) (ret:=false) p3 hp1),?_⟩
    ·exact rfl
    ·simpa using st'
   |skip=>
    simp only [stepG.apply,e',if_true,GStep.after,kd,hd,fnd,Frame.finish_at,Bool.false_eq_true,if_false]at h2
    simp only [stepG.apply,e,if_true,GStep.after,Frame.finish_at]
    obtain⟨t,t',p1,p2,p3⟩:=put_like hv1 ((ops[i]?).bind (·.dst)) VR.undef [] c
    rw [p1]
    rw [p2]at h2
    refine .inl ⟨_,_,r1,_,_,w1,seen P fn (#[]++u.toArray)++#[],rfl,h2.trans ?_,hT1.sk (.mk (pre:=.inRegion ops rest::pre) (ret:=false) p3 hp1),?_⟩
    ·exact rfl
    ·simpa using st'
   | @enter f xs ys hf hx=>
    rcases hG f hf with hxx|⟨fn1,c1,g1,g2,g3⟩
    ·exact absurd (by simp only [stepG.apply,e,if_true,GStep.after];rfl) (hX f xs _ _ _ hxx)
    have t1:((bs fn .normal).at ⟨tmps,[]⟩ (.inRegion ops (i::rest)::(pre++a))).todo=.inRegion ops (i::rest)::(pre++a):=rfl
    have t2:((bs fn d).at ⟨tmps',c⟩ (.inRegion ops (i::rest)::(pre++b))).todo=.inRegion ops (i::rest)::(pre++b):=rfl
    simp only [stepG.apply,e',if_true,GStep.after,kd,hd,fnd,t2,Bool.false_eq_true,if_false,enter_at _ g1 g2]at h2
    simp only [stepG.apply,e,if_true,GStep.after,t1,enter_at _ g1 g2]
    have hx':VA F r1 (xs++Array.replicate (fn1.ntmps-xs.size) undef) (ys++Array.replicate (fn1.ntmps-ys.size) undef):=by
     rw [←hx.1]
     refine hx.append ⟨rfl,fun j x y h1 h2=>?_⟩
     rw [h1]at h2
     injection h2 with h2
     subst h2
     rw [Array.getElem?_replicate]at h1
     split at h1
     ·injection h1 with h1;subst h1;exact VR.undef
     ·cases h1
    have wt:=hT1.wait (fn:=fn) (i:=i) (rest:=rest) hv1 ho hp
    refine .inl ⟨_,_,r1,_,_,w1,seen P fn (#[]++u.toArray)++#[],rfl,h2.trans ?_,(Tl.up wt).sk (.mk (fn:=f) (pre:=[.code c1]) (ret:=false) hx' (by simp only [List.all_cons,List.all_nil,Bool.and_true];exact g3)),?_⟩
    ·exact rfl
    ·simpa using st'
theorem asAddr_like {x x':Value}(h:VR F r x x'):SR P F r (fun r1 a b=>AR r1 a b) (asAddr x) (asAddr x'):=by
 cases h with
 |ptr h=>exact .pur h
 |nilp=>exact grim_nil.sr
 |_=>exact .halt trivial
theorem results_like (fn:Func){tmps tmps':Array Value}(h:VA F r tmps tmps'):SR P F r (fun r1 a b=>VR F r1 a b) (results fn tmps) (results fn tmps'):=by
 have at_:∀{r1:Map},VA F r1 tmps tmps'→∀t,VR F r1 (tmps.getD t undef) (tmps'.getD t undef):=fun h t=>by
  simp only [Array.getD_eq_getD_getElem?]
  cases ht:tmps[t]? with
  |none=>rw [h.none ht];exact VR.undef
  |some y=>
   obtain⟨z,hz,hv⟩:=h.get ht
   rw [hz];exact hv
 have one:∀{r1:Map} (x:ResultVar),VA F r1 tmps tmps'→SR P F r1 (fun r1 a b=>VR F r1 a b) ((fun x=>match x with
   | .tmp t=>Pure.pure (tmps.getD t undef)
   | .cell a t=>do loadVar t (←asAddr (tmps.getD a undef)):ResultVar→Sem Value) x) ((fun x=>match x with
   | .tmp t=>Pure.pure (tmps'.getD t undef)
   | .cell a t=>do loadVar t (←asAddr (tmps'.getD a undef)):ResultVar→Sem Value) x):=by
  intro r1 x h
  cases x with
  |tmp t=>exact .pur (at_ h t)
  |cell a t=>exact SR.bnd (C:=fun r1 a b=>VR F r1 a b) (A:=fun r1 a b=>AR r1 a b) (asAddr_like (at_ h a)) fun r2 h2 a b hab=>loadVar_like t hab
 have many:∀(l:List ResultVar) {r1:Map},VA F r1 tmps tmps'→SR P F r1 (fun r1 (a b:List Value)=>VA F r1 a.toArray b.toArray) (l.mapM (fun x=>match x with
   | .tmp t=>Pure.pure (tmps.getD t undef)
   | .cell a t=>do loadVar t (←asAddr (tmps.getD a undef)):ResultVar→Sem Value)) (l.mapM (fun x=>match x with
   | .tmp t=>Pure.pure (tmps'.getD t undef)
   | .cell a t=>do loadVar t (←asAddr (tmps'.getD a undef)):ResultVar→Sem Value)):=by
  intro l
  induction l with
  |nil=>intro r1 h;exact .pur VA.empty
  |cons x l ih=>
   intro r1 h
   rw [List.mapM_cons,List.mapM_cons]
   refine SR.bnd (one x h) fun r2 h2 x x' hx=>?_
   refine SR.bnd (ih (h.mono h2)) fun r3 h3 xs ys hxs=>.pur ?_
   have:=(VA.empty.push (hx.mono h3)).append hxs
   simpa using this
 unfold results
 refine SR.bnd (A:=fun r1 a b=>VA F r1 a b) ?_ fun r1 h1 xs ys hxs=>?_
 ·rw [Array.mapM_eq_mapM_toList,Array.mapM_eq_mapM_toList]
  refine SR.bnd (many fn.results.toList h) fun r1 h1 xs ys hxs=>.pur hxs
 ·refine .pur ?_
  by_cases hs:xs.size=1
  ·have hs':ys.size=1:=by rw [←hxs.1];exact hs
   rw [dif_pos hs,dif_pos hs']
   exact hxs.2 0 _ _ (Array.getElem?_eq_getElem _) (Array.getElem?_eq_getElem _)
  ·have hs':¬ys.size=1:=by rw [←hxs.1];exact hs
   rw [dif_neg hs,dif_neg hs']
   exact VR.tuple' hxs
end
section
variable {P:Program} {main:Bool} {b:Frame} {a:Act} {k:List Item} {cs:List Frame} {w:World}
theorem stepG_cond_bad {c:Operand}{x y:Code}(h:∀ t,a.eval c≠.bool t):∃o es,stepG P main (Go.Conc.G (b.at a (.code (.cond c x y)::k)) cs) w=.ended o w es:=by
 have h':(b.at a (.code (.cond c x y)::k)).eval c=a.eval c:=by rw [Frame.eval_at]
 simp only [Frame.at]at h'
 cases hh:a.eval c with
 |bool t=>exact absurd hh (h t)
 |_=>
  rw [hh]at h'
  simp only [Go.Conc.G,stepG,stepG.exec,Frame.at,h']
  exact⟨_,_,rfl⟩
theorem stepG_exit_bad {id:Nat}(h:exitTo id k=none):∃o es,stepG P main (Go.Conc.G (b.at a (.code (.exit id)::k)) cs) w=.ended o w es:=by
 simp only [Go.Conc.G,stepG,stepG.exec,Frame.at,h,Option.elim]
 exact⟨_,_,rfl⟩
theorem stepG_goto_bad {id:Nat}(h:gotoIn id k=none):∃o es,stepG P main (Go.Conc.G (b.at a (.code (.goto id)::k)) cs) w=.ended o w es:=by
 simp only [Go.Conc.G,stepG,stepG.exec,Frame.at,h,Option.elim]
 exact⟨_,_,rfl⟩
theorem stepG_goto {id:Nat}{k':List Item}(h:gotoIn id k=some k'):stepG P main (Go.Conc.G (b.at a (.code (.goto id)::k)) cs) w=.go (Go.Conc.G (b.at a k') cs) w:=by
 simp [Go.Conc.G,stepG,stepG.exec,Frame.at,h]
theorem stepG_scope {c:Code}:stepG P main (Go.Conc.G (b.at a (.code (.scope c)::k)) cs) w=.go (Go.Conc.G (b.at a (.code c::.inScope c::k)) cs) w:=by
 simp [Go.Conc.G,stepG,stepG.exec,Frame.at]
theorem stepG_inScope {c:Code}:stepG P main (Go.Conc.G (b.at a (.inScope c::k)) cs) w=.go (Go.Conc.G (b.at a k) cs) w:=by
 simp [Go.Conc.G,stepG,stepG.exec,Frame.at]
theorem stepG_lost {ops:Array Oper}{i:Nat}{rest:List Nat}(ho:ops[i]?=none) :
  stepG P main (Go.Conc.G (b.at a (.inRegion ops (i::rest)::k)) cs) w=.go (Go.Conc.G (b.at a (.inRegion ops rest::k)) cs) w #[]:=by
 have hfin:(b.at a (.inRegion ops (i::rest)::k)).finish undef=b.at a (.inRegion ops rest::k):=by rw [Frame.finish_at,ho];rfl
 rw [←hfin]
 simp [Go.Conc.G,stepG,stepG.exec,Frame.at,ho]
end
section
variable {P:Program} {fb:FB} {F G:FuncId→Prop} {kg k':List Item} {D':List Deferred} {K':CallKind} {base':List Frame} {r r1:Map} {main:Bool}
variable {v w:World} {a:List Item} {b:List Item} {c:List Deferred} {d:CallKind} {cs cs':List Frame}
def AtStop (P:Program)(kg:List Item)(fr:Frame)(cs:List Frame):Prop:=cs=[catcher P]∧(fr.mode=.returning∨(kg≠[]∧fr.mode=.run∧fr.todo=kg))
def Plain (kg:List Item):Prop:=(∀id,exitTo id kg=none)∧∀l,gotoIn l kg=none
theorem Tl.plain (hk:Plain kg)(h:Tl P fb F kg k' D' K' base' r a b c d cs cs'):Plain a:=by
 cases h with
 |bot=>exact hk
 |up _=>exact⟨fun _=>rfl,fun _=>rfl⟩
theorem Out.end_ {fr':Frame}{s:GStep}(h:∃ o w' es,s=.ended o w' es):Out P fb F kg k' D' K' base' main r v w fr' cs' s:=by
 obtain⟨o,w',es,rfl⟩:=h
 trivial
theorem ret_like (hw:WR P F r v w)(ht:Tp v w){fs fs':List Frame}(hk:Wt P fb F kg k' D' K' base' r fs fs'){fn:FuncId}{tmps tmps':Array Value}(todo:List Item)(hv:VA F r tmps tmps') :
  Out P fb F kg k' D' K' base' main r v w (mk fn .normal tmps' [] todo true) fs' (stepG P true (Go.Conc.G (mk fn .normal tmps [] todo true) fs) v):=by
 have back:∀{r1:Map} {v1 w1:World} {x y:Value} {u:List Event} (es es':Array Event),(∀e∈es'.toList,e∈u)→St P F r r1 v v1 w w1 u→VR F r1 x y→∀{fr':Frame},
   stepG P main (Go.Conc.G fr' fs') w=GStep.after es' (doReturn P main (mk fn .normal tmps' [] todo true) fs' none y w1) →
   Out P fb F kg k' D' K' base' main r v w fr' fs' (GStep.after es (doReturn P true (mk fn .normal tmps [] todo true) fs none x v1)):=by
  intro r1 v1 w1 x y u es es' hu st hx fr' h2
  have st':St P F r r1 v v1 w w1 es'.toList:={ st with evs:=fun e he=>st.evs e (hu e he) }
  cases hk with
  | @bot fn1 tmps1 tmps1' ops i rest pre h ho hp=>
   have hp1:(.inRegion ops rest::pre:List Item).all (niceItem P fb)=true:=by simp only [List.all_cons,Bool.and_eq_true];exact⟨ho,hp⟩
   obtain⟨t,t',p1,p2,p3⟩:=put_like (h.mono st.le) ((ops[i]?).bind (·.dst)) hx [] D'
   refine .inl ⟨mk fn1 .normal t [] ((.inRegion ops rest::pre)++kg) false,[catcher P],r1,mk fn1 K' t' D' ((.inRegion ops rest::pre)++k') false,base',w1,es'++#[],?_,h2.trans ?_,Tl.bot.sk (.mk p3 hp1),by simpa using st'⟩
   ·show Go.Conc.G (((bs fn1 .normal).at ⟨tmps1,[]⟩ (.inRegion ops (i::rest)::(pre++kg))).finish x) _=_
    rw [Frame.finish_at,p1]
    rfl
   ·show GStep.after es' (.go (Go.Conc.G (((bs fn1 K').at ⟨tmps1',D'⟩ (.inRegion ops (i::rest)::(pre++k'))).finish y) base') w1)=_
    rw [Frame.finish_at,p2]
    rfl
  | @up fn1 tmps1 tmps1' ops i rest pre fs fs' h ho hp k=>
   have hp1:(.inRegion ops rest::pre:List Item).all (niceItem P fb)=true:=by simp only [List.all_cons,Bool.and_eq_true];exact⟨ho,hp⟩
   obtain⟨t,t',p1,p2,p3⟩:=put_like (h.mono st.le) ((ops[i]?).bind (·.dst)) hx [] []
   refine .inl ⟨mk fn1 .normal t [] ((.inRegion ops rest::pre)++[]) false,_,r1,mk fn1 .normal t' [] ((.inRegion ops rest::pre)++[]) false,_,w1,es'++#[],?_,h2.trans ?_,(Tl.up (k.mono st.le)).sk (.mk p3 hp1),by simpa using st'⟩
   ·show Go.Conc.G (((bs fn1 .normal).at ⟨tmps1,[]⟩ (.inRegion ops (i::rest)::pre)).finish x) _=_
    rw [Frame.finish_at,p1,List.append_nil]
    rfl
   ·show GStep.after es' (.go (Go.Conc.G (((bs fn1 .normal).at ⟨tmps1',[]⟩ (.inRegion ops (i::rest)::pre)).finish y) fs') w1)=_
    rw [Frame.finish_at,p2,List.append_nil]
    rfl
 have u1:∀(tmps:Array Value) (fs:List Frame) (v:World) (m:Bool),stepG P m (Go.Conc.G (mk fn .normal tmps [] todo true) fs) v=match P.funcs[fn]? with
   |none=>doReturn P m (mk fn .normal tmps [] todo true) fs none (tmps.getD 0 undef) v
   |some f=>GStep.after (seen P fn ((results f tmps).runT P v #[]).2) (match ((results f tmps).runT P v #[]).1 with
    | .ok x v1=>doReturn P m (mk fn .normal tmps [] todo true) fs none x v1
    | .halt (.stuck s) w=>.ended (.stuck s ((mk fn .normal tmps [] todo true).pos P)) w
    | .halt _ w => .ended (.stuck "return: the result variables cannot be read" ((mk fn .normal tmps [] todo true).pos P)) w) := fun tmps fs v m => rfl
 cases hf:P.funcs[fn]? with
 |none=>
  have hx:VR F r (tmps.getD 0 undef) (tmps'.getD 0 undef):=by
   simp only [Array.getD_eq_getD_getElem?]
   cases ht:tmps[0]? with
   |none=>rw [hv.none ht];exact VR.undef
   |some y=>
    obtain⟨z,hz,hv⟩:=hv.get ht
    rw [hz];exact hv
  have e2:=u1 tmps' fs' w main
  rw [hf]at e2
  rw [u1,hf]
  have e3:∀s:GStep,GStep.after #[] s=s:=fun s=>by cases s<;>simp [GStep.after]
  have:=back (es:=#[]) (es':=#[]) (u:=[]) (fun e he=>by simp at he) (St.refl hw ht) hx (fr':=mk fn .normal tmps' [] todo true) (by rw [e3];exact e2)
  rw [e3]at this
  exact this
 |some f=>
  have e2:=u1 tmps' fs' w main
  rw [hf]at e2
  rw [u1,hf]
  dsimp only at e2 ⊢
  have hS:=results_like (P:=P) (F:=F) f hv v w hw ht #[] #[]
  cases e:(results f tmps).runT P v #[]with
  |mk res es=>
   rw [e]at hS
   try rw [e]
   cases res with
   |halt x v1=>
    dsimp only
    cases x<;>exact Out.end_ ⟨_,_,_,rfl⟩
   |ok x v1=>
    obtain⟨r1,y,w1,u,e',st,hx⟩:=hS
    rw [e']at e2
    dsimp only at e2 ⊢
    exact back _ _ (fun e he=>by have:=seen_mem P fn _ e he;simpa using this) st hx e2
theorem sim_stepX {X:FuncId→Prop}(hFb:∀ f,fb.val f=true→F f)(hF:∀ f,F f∨fb.call f=true→FnOk P F G f)(hG:FineX P fb G X)(hK:K'≠.early)(hkg:Plain kg)(hk0:kg=[]→k'=[])(hw:WR P F r v w)(ht:Tp v w){fr fr':Frame}
  (h:SkR P fb F kg k' D' K' base' r fr cs fr' cs') (hs:¬AtStop P kg fr cs) (hX:∀f xs q v1 es,X f→stepG P true (Go.Conc.G fr cs) v≠.go (Go.Conc.G (Frame.enter P f xs .normal) q) v1 es):Out P fb F kg k' D' K' base' main r v w fr' cs' (stepG P true (Go.Conc.G fr cs) v):=by
 obtain⟨a,b,c,d,hT,hfr⟩:=h
 have hpl:=hT.plain hkg
 cases hfr with
 | @mk fn tmps tmps' pre ret hv hp=>
  cases ret with
  |true=>
   cases hT with
   |bot=>exact absurd ⟨rfl,.inl rfl⟩ hs
   |up k=>exact ret_like hw ht k _ hv
  |false=>
   have run:∀(K:CallKind) (tmps:Array Value) (D:List Deferred) (todo:List Item),mk fn K tmps D todo false=(bs fn K).at ⟨tmps,D⟩ todo:=fun _ _ _ _=>rfl
   cases pre with
   |nil=>
    cases hT with
    |bot=>
     by_cases hk:kg=[]
     ·have hk1:=hk0 hk
      subst hk hk1
      rw [run,run]
      exact out_ctl (pre:=[]) (ret:=true) hw ht Tl.bot hv rfl stepG_end stepG_end
     ·exact absurd ⟨rfl,.inr ⟨hk,rfl,rfl⟩⟩ hs
    |up k=>
     rw [run,run]
     exact out_ctl (pre:=[]) (ret:=true) hw ht (Tl.up k) hv rfl stepG_end stepG_end
   |cons x pre=>
    simp only [List.all_cons,Bool.and_eq_true]at hp
    obtain⟨hx,hp⟩:=hp
    rw [run,run,List.cons_append,List.cons_append]
    cases x with
    |inBlock id=>exact out_ctl (pre:=pre) (ret:=false) hw ht hT hv hp stepG_inBlock stepG_inBlock
    |inLoop z=>exact out_ctl (pre:=.code z::.inLoop z::pre) (ret:=false) hw ht hT hv (by simp only [List.all_cons,Bool.and_eq_true];exact⟨hx,hx,hp⟩) stepG_inLoop stepG_inLoop
    |inScope z=>exact out_ctl (pre:=pre) (ret:=false) hw ht hT hv hp stepG_inScope stepG_inScope
    |inRegion ops l=>
     cases l with
     |nil=>exact out_ctl (pre:=pre) (ret:=false) hw ht hT hv hp stepG_region_end stepG_region_end
     |cons i rest=>
      have hp1:(.inRegion ops rest::pre:List Item).all (niceItem P fb)=true:=by simp only [List.all_cons,Bool.and_eq_true];exact⟨hx,hp⟩
      cases ho:ops[i]? with
      |none=>exact out_ctl (pre:=.inRegion ops rest::pre) (ret:=false) hw ht hT hv hp1 (stepG_lost ho) (stepG_lost ho)
      |some o=>
       have ey:=yielded_like ops hv
       cases hwt:Region.wanted o (yielded ops tmps)with
       |false=>
        have hwt':Region.wanted o (yielded ops tmps')=false:=by rw [←hwt];exact congrArg _ (funext fun j=>(ey j).symm)
        obtain⟨t,t',p1,p2,p3⟩:=put_like hv o.dst VR.undef [] c
        refine out_ctl (fn:=fn) (pre:=.inRegion ops rest::pre) (ret:=false) (tmps:=t) (tmps':=t') hw ht hT p3 hp1 ?_ ?_
        ·rw [stepG_unwanted ho hwt,p1];rfl
        ·rw [stepG_unwanted ho hwt',p2];rfl
       |true=>
        have hwt':Region.wanted o (yielded ops tmps')=true:=by rw [←hwt];exact congrArg _ (funext fun j=>(ey j).symm)
        have hn:niceOp P fb o=true:=Array.all_eq_true'.1 hx o (Array.mem_of_getElem? ho)
        rw [run,List.cons_append,stepG_oper ho hwt]at hX
        rw [stepG_oper ho hwt]
        exact apply_like hG hK hw ht hT (execOp_like o hn hFb hF (fun f=>⟨rfl,rfl⟩) fun z hz=>eval_like hFb hv z hz) hv hx hp (stepG_oper ho hwt') hX
    |code z=>
     cases z with
     |skip=>exact out_ctl (pre:=pre) (ret:=false) hw ht hT hv hp stepG_skip stepG_skip
     |label l=>exact out_ctl (pre:=pre) (ret:=false) hw ht hT hv hp stepG_label stepG_label
     |ret=>exact out_ctl (pre:=.code .ret::pre) (ret:=true) hw ht hT hv (by simp only [List.all_cons,Bool.and_eq_true];exact⟨rfl,hp⟩) stepG_ret' stepG_ret'
     |seq y z=>
      have hx:(niceCode P fb y&&niceCode P fb z)=true:=hx
      rw [Bool.and_eq_true]at hx
      exact out_ctl (pre:=.code y::.code z::pre) (ret:=false) hw ht hT hv (by simp only [List.all_cons,Bool.and_eq_true];exact⟨hx.1,hx.2,hp⟩) stepG_seq stepG_seq
     |cond o y z=>
      have hx:(argB fb o&&niceCode P fb y&&niceCode P fb z)=true:=hx
      simp only [Bool.and_eq_true]at hx
      have he:=eval_like (D:=[]) (D':=c) hFb hv o hx.1.1
      generalize e1:(⟨tmps,[]⟩:Act).eval o=q at he
      generalize e2:(⟨tmps',c⟩:Act).eval o=q' at he
      cases he with
      |bool t=>
       refine out_ctl (pre:=.code (if t then y else z)::pre) (ret:=false) hw ht hT hv ?_ (stepG_cond e1) (stepG_cond e2)
       simp only [List.all_cons,Bool.and_eq_true]
       refine⟨?_,hp⟩
       cases t
       ·exact hx.2
       ·exact hx.1.2
      |_=>
       obtain⟨o1,es1,e3⟩:=stepG_cond_bad (P:=P) (main:=true) (b:=bs fn .normal) (a:=⟨tmps,[]⟩) (k:=pre++a) (cs:=cs) (w:=v) (c:=o) (x:=y) (y:=z) (fun t e=>by rw [e1]at e;cases e)
       exact Out.end_ ⟨_,_,_,e3⟩
     |block id y=>exact out_ctl (pre:=.code y::.inBlock id::pre) (ret:=false) hw ht hT hv (by simp only [List.all_cons,Bool.and_eq_true];exact⟨hx,rfl,hp⟩) stepG_block stepG_block
     |loop y=>exact out_ctl (pre:=.code y::.inLoop y::pre) (ret:=false) hw ht hT hv (by simp only [List.all_cons,Bool.and_eq_true];exact⟨hx,hx,hp⟩) stepG_loop stepG_loop
     |scope y=>exact out_ctl (pre:=.code y::.inScope y::pre) (ret:=false) hw ht hT hv (by simp only [List.all_cons,Bool.and_eq_true];exact⟨hx,hx,hp⟩) stepG_scope stepG_scope
     |exit id=>
      cases e:exitTo id pre with
      |some p=>
       have ee:∀k,exitTo id (pre++k)=some (p++k):=fun k=>by rw [exitTo_app,e]
       exact out_ctl (pre:=p) (ret:=false) hw ht hT hv (exitTo_nice id pre p hp e) (stepG_exit (ee a)) (stepG_exit (ee b))
      |none=>
       obtain⟨o1,es1,e3⟩:=stepG_exit_bad (P:=P) (main:=true) (b:=bs fn .normal) (a:=⟨tmps,[]⟩) (k:=pre++a) (cs:=cs) (w:=v) (id:=id) (by rw [exitTo_app,e];exact hpl.1 id)
       exact Out.end_ ⟨_,_,_,e3⟩
     |goto id=>
      cases e:gotoIn id pre with
      |some p=>
       have ee:∀k,gotoIn id (pre++k)=some (p++k):=fun k=>by rw [gotoIn_app,e]
       exact out_ctl (pre:=p) (ret:=false) hw ht hT hv (gotoIn_nice id pre p hp e) (stepG_goto (ee a)) (stepG_goto (ee b))
      |none=>
       obtain⟨o1,es1,e3⟩:=stepG_goto_bad (P:=P) (main:=true) (b:=bs fn .normal) (a:=⟨tmps,[]⟩) (k:=pre++a) (cs:=cs) (w:=v) (id:=id) (by rw [gotoIn_app,e];exact hpl.2 id)
       exact Out.end_ ⟨_,_,_,e3⟩
     |region id ops draw=>
      have hx:ops.all (niceOp P fb)=true:=hx
      have hp1:∀l,(.inRegion ops l::pre:List Item).all (niceItem P fb)=true:=fun l=>by simp only [List.all_cons,Bool.and_eq_true];exact⟨hx,hp⟩
      cases draw with
      |false=>exact out_ctl (pre:=.inRegion ops (List.range ops.size)::pre) (ret:=false) hw ht hT hv (hp1 _) stepG_region stepG_region
      |true=>
       rw [stepG_region_draw]
       have t0:=ht 0 (.order fn id)
       simp only [Nat.add_zero]at t0
       refine .inl ⟨mk fn .normal tmps [] ((.inRegion ops (Region.schedule (P.follows .mixedOrders) ops (v.tape v.drawn (.order fn id)))::pre)++a) false,cs,r,mk fn d tmps' c ((.inRegion ops (Region.schedule (P.follows .mixedOrders) ops (v.tape v.drawn (.order fn id)))::pre)++b) false,cs',{ w with drawn:=w.drawn+1 },#[],rfl,?_,hT.sk (.mk hv (hp1 _)),?_⟩
       ·rw [stepG_region_draw,t0]
        rfl
       ·refine St.of_heap (v1:={ v with drawn:=v.drawn+1 }) (w1:={ w with drawn:=w.drawn+1 }) hw rfl rfl (fun i q'=>?_) ⟨rfl,rfl,rfl,Nat.le_succ _⟩ ⟨rfl,rfl,rfl⟩ (fun e he=>by simp at he)
        have:=ht (i+1) q'
        simpa only [Nat.add_assoc,Nat.add_comm 1 i]using this
     |_=>cases hx
    |_=>cases hx
theorem sim_step (hFb:∀ f,fb.val f=true→F f)(hF:∀ f,F f∨fb.call f=true→FnOk P F G f)(hG:Fine P fb G)(hK:K'≠.early)(hkg:Plain kg)(hk0:kg=[]→k'=[])(hw:WR P F r v w)(ht:Tp v w){fr fr':Frame}
  (h:SkR P fb F kg k' D' K' base' r fr cs fr' cs') (hs:¬AtStop P kg fr cs):Out P fb F kg k' D' K' base' main r v w fr' cs' (stepG P true (Go.Conc.G fr cs) v):=
 sim_stepX (X:=fun _=>False) hFb hF (fun f h=>.inr (hG f h)) hK hkg hk0 hw ht h hs fun _ _ _ _ _ h=>h.elim
end
end Go.Proofs.YtngdldcgkaplbaaGreat.Lk
namespace Go.Proofs.YtngdldcgkaplbaaGreat.Lk
open Go
def tp (w:World)(T:Tape):World:={ w with tape:=T }
def rtp {α:Type}(T:Tape):Result α→Result α
 | .ok a w=>.ok a (tp w T)
 | .halt h w=>.halt h (tp w T)
def wof {α:Type}:Result α→World
 | .ok _ w=>w
 | .halt _ w=>w
def Alike (n m:Nat)(T U:Tape):Prop:=∀i q,n≤i→i<m→T i q=U i q
section
variable {P:Program} {α:Type}
theorem viewStore_tp (w:World)(T:Tape)(x:Addr)(u:TypeId)(a:Addr)(v:Value)(b:Bool):(tp w T).viewStore P x u a v b=match w.viewStore P x u a v b with
  | .ok (w1,l)=>.ok (tp w1 T,l)
  | .error e=>.error e:=by
 have h:(tp w T).seen P x u a b=w.seen P x u a b:=rfl
 unfold World.viewStore
 rw [h]
 simp only [bind,Except.bind,pure,Except.pure,throw,throwThe,MonadExceptOf.throw]
 repeat' (first|rfl|split)
theorem farStore_tp (w:World)(T:Tape)(a:Addr)(v:Value)(b:Bool):(tp w T).farStore P a v b=match w.farStore P a v b with
  | .ok (w1,l)=>.ok (tp w1 T,l)
  | .error e=>.error e:=by
 unfold World.farStore
 have h:(tp w T).heap=w.heap:=rfl
 rw [h]
 cases e:w.heap[a.block]? with
 |none=>simp only [World.noCell,h,e]
 |some o=>
  cases o with
  |view x u=>
   dsimp only
   rw [viewStore_tp]
   cases w.viewStore P x u a v b<;>rfl
  |_=>simp only [World.noCell,h,e]
theorem farStore_drawn {w w1:World}{a:Addr}{v:Value}{b:Bool}{l:List Addr}(h:w.farStore P a v b=.ok (w1,l)):w1.drawn=w.drawn∧w1.tape=w.tape:=by
 unfold World.farStore at h
 split at h
 ·split at h
  ·rename_i r e
   injection h with h
   subst h
   unfold World.viewStore at e
   simp only [bind,Except.bind,pure,Except.pure,throw,throwThe,MonadExceptOf.throw]at e
   repeat' split at e
   all_goals first
    |(injection e with e;injection e with e1 e2;subst e1;exact⟨rfl,rfl⟩)
    |cases e
  ·cases h
 ·cases h
theorem es_grow (s:Sem α):∀(w:World) (es:Array Event),∀e∈es,e∈(s.runT P w es).2:=by
 have step:∀{es:Array Event} {x e:Event},e∈es→e∈es.push x:=fun h=>Array.mem_push_of_mem _ h
 have app:∀{es l:Array Event} {e:Event},e∈es→e∈es++l:=fun h=>Array.mem_append.2 (.inl h)
 induction s with
 |pure a=>intro w es e h;exact h
 |halt x=>intro w es e h;exact h
 |program k ih=>intro w es;exact ih P w es
 |mark m k ih=>intro w es e h;exact ih w _ e (step h)
 |new o k ih=>intro w es;exact ih w.heap.size { w with heap:=w.heap.push o } es
 |shape b k ih=>intro w es;exact ih (w.shape? b) w es
 |frozen a k ih=>intro w es;exact ih (w.frozen? a) w es
 |freeze a n k ih=>intro w es;exact ih (w.freeze a n) es
 |choose q k ih=>
  intro w es
  simp only [Sem.runT]
  split
  ·exact ih 0 w es
  ·exact ih _ _ es
 |sys c k ih=>intro w es e h;exact ih (w.sys c).1 (w.sys c).2 _ e (step h)
 |getObj r k ih=>
  intro w es e h
  simp only [Sem.runT]
  cases w.heap[r]? with
  |none=>exact h
  |some o=>cases o<;>first|exact h|exact ih _ w _ e (step h)
 |setObj r o k ih=>
  intro w es e h
  simp only [Sem.runT]
  cases w.heap[r]? with
  |none=>exact h
  |some o'=>cases o'<;>first|exact h|exact ih _ _ e (step h)
 |load m a k ih=>
  intro w es e h
  simp only [Sem.runT]
  cases w.cell? a with
  |some x=>exact ih x w _ e (step h)
  |none=>
   dsimp only
   cases w.farLoad P a (m==.atomic)with
   |error x=>exact h
   |ok z=>exact ih z.1 w _ e (app h)
 |store m a v k ih=>
  intro w es e h
  cases v<;>first
   |exact h
   |(simp only [Sem.runT]
     cases w.cell? a with
     |some x=>
      dsimp only
      split
      ·exact h
      ·exact ih _ _ e (step h)
     |none=>
      dsimp only
      split
      ·exact ih _ _ e (app h)
      ·exact h)
theorem run_local (s:Sem α):∀(w:World) (es:Array Event),⟨.output,true,false⟩ ∉ (s.runT P w es).2→w.drawn≤(wof (s.runT P w es).1).drawn∧(wof (s.runT P w es).1).tape=w.tape ∧
  ∀T,Alike w.drawn (wof (s.runT P w es).1).drawn T w.tape→s.runT P (tp w T) es=(rtp T (s.runT P w es).1,(s.runT P w es).2):=by
 induction s with
 |pure a=>intro w es no;exact⟨Nat.le_refl _,rfl,fun T h=>rfl⟩
 |halt h=>intro w es no;exact⟨Nat.le_refl _,rfl,fun T h=>rfl⟩
 |program k ih=>intro w es no;exact ih P w es no
 |mark m k ih=>intro w es no;exact ih w _ no
 |new o k ih=>intro w es no;exact ih w.heap.size { w with heap:=w.heap.push o } es no
 |shape b k ih=>intro w es no;exact ih (w.shape? b) w es no
 |frozen a k ih=>intro w es no;exact ih (w.frozen? a) w es no
 |freeze a n k ih=>
  intro w es no
  have e:(w.freeze a n).drawn=w.drawn∧(w.freeze a n).tape=w.tape∧∀T,(tp w T).freeze a n=tp (w.freeze a n) T:=by
   refine⟨?_,?_,fun T=>?_⟩<;>unfold World.freeze<;>split<;>rfl
  obtain⟨h1,h2,h3⟩:=ih (w.freeze a n) es no
  rw [e.1]at h1
  rw [e.2.1]at h2
  refine⟨h1,h2,fun T h=>?_⟩
  rw [e.1,e.2.1]at h3
  show k.runT P ((tp w T).freeze a n) es=_
  rw [e.2.2 T]
  exact h3 T h
 |choose q k ih=>
  intro w es no
  simp only [Sem.runT]at no ⊢
  by_cases hf:q.forced=true
  ·simp only [if_pos hf]at no ⊢;exact ih 0 w es no
  ·simp only [if_neg hf]at no ⊢
   obtain⟨h1,h2,h3⟩:=ih (q.cut (w.tape w.drawn q)) { w with drawn:=w.drawn+1 } es no
   have h1':w.drawn+1≤_:=h1
   refine⟨by omega,h2,fun T h=>?_⟩
   have e0:T w.drawn q=w.tape w.drawn q:=h _ _ (Nat.le_refl _) (by omega)
   show(k (q.cut (T w.drawn q))).runT P { tp w T with drawn:=w.drawn+1 } es=_
   rw [e0]
   exact h3 T fun i q hi hj=>h i q (by have:w.drawn+1≤i:=hi;omega) hj
 |sys c k ih=>
  intro w es no
  exact absurd (es_grow (k (w.sys c).1) (w.sys c).2 _ _ (Array.mem_push_self)) no
 |getObj r k ih=>
  intro w es
  have hh:∀T,(tp w T).heap=w.heap:=fun _=>rfl
  simp only [Sem.runT,hh]
  cases e:w.heap[r]? with
  |none=>exact fun _=>⟨Nat.le_refl _,rfl,fun T h=>rfl⟩
  |some o=>cases o<;>first|exact fun _=>⟨Nat.le_refl _,rfl,fun T h=>rfl⟩|exact ih _ w _
 |setObj r o k ih=>
  intro w es
  have hh:∀T,(tp w T).heap=w.heap:=fun _=>rfl
  simp only [Sem.runT,hh]
  cases e:w.heap[r]? with
  |none=>exact fun _=>⟨Nat.le_refl _,rfl,fun T h=>rfl⟩
  |some o'=>cases o'<;>first|exact fun _=>⟨Nat.le_refl _,rfl,fun T h=>rfl⟩|exact ih { w with heap:=w.heap.setIfInBounds r o } _
 |load m a k ih=>
  intro w es
  have hc:∀T,(tp w T).cell? a=w.cell? a:=fun _=>rfl
  have hl:∀T,(tp w T).farLoad P a (m==.atomic)=w.farLoad P a (m==.atomic):=fun _=>rfl
  simp only [Sem.runT,hc,hl]
  cases e:w.cell? a with
  |some x=>exact ih x w _
  |none=>
   dsimp only
   cases e:w.farLoad P a (m==.atomic)with
   |error h=>exact fun _=>⟨Nat.le_refl _,rfl,fun T h=>rfl⟩
   |ok z=>exact ih z.1 w _
 |store m a v k ih=>
  intro w es
  have gen:∀v:Value,(∀xs,v≠.agg xs)→(∀xs,v≠.tuple xs)→∀w es,(Sem.store m a v k).runT P w es=match w.cell? a with
    | some _ => if w.frozen? a then (.halt (.unsupported (.unsafePointer "a write to bytes that a string shares")) w, es) else k.runT P (w.setCell a v) (es.push ⟨.cell a, true, m == .atomic⟩)
    |none=>match w.farStore P a v (m==.atomic)with
     | .ok (w,touched)=>k.runT P w (es++touched.toArray.map (⟨.cell ·,true,m==.atomic⟩))
     | .error h=>(.halt h w,es):=by
   intro v h1 h2 w es
   cases v<;>first|rfl|exact absurd rfl (h1 _)|exact absurd rfl (h2 _)
  by_cases ha:∃xs,v=.agg xs
  ·obtain⟨xs,rfl⟩:=ha;exact fun _=>⟨Nat.le_refl _,rfl,fun T h=>rfl⟩
  by_cases hb:∃xs,v=.tuple xs
  ·obtain⟨xs,rfl⟩:=hb;exact fun _=>⟨Nat.le_refl _,rfl,fun T h=>rfl⟩
  have g:=gen v (fun xs e=>ha ⟨xs,e⟩) (fun xs e=>hb ⟨xs,e⟩)
  simp only [g]
  have hc:∀T,(tp w T).cell? a=w.cell? a:=fun _=>rfl
  have hz:∀T,(tp w T).frozen? a=w.frozen? a:=fun _=>rfl
  have hs:∀T,(tp w T).setCell a v=tp (w.setCell a v) T:=fun _=>rfl
  simp only [hc,hz,hs,farStore_tp]
  cases e:w.cell? a with
  |some x=>
   dsimp only
   by_cases hfz:w.frozen? a=true
   ·simp only [if_pos hfz];exact fun _=>⟨Nat.le_refl _,rfl,fun T h=>rfl⟩
   ·simp only [if_neg hfz];exact ih (w.setCell a v) _
  |none=>
   dsimp only
   cases e:w.farStore P a v (m==.atomic)with
   |error h=>exact fun _=>⟨Nat.le_refl _,rfl,fun T h=>rfl⟩
   |ok z=>
    obtain⟨w1,l⟩:=z
    obtain⟨d1,d2⟩:=farStore_drawn e
    intro no
    obtain⟨h1,h2,h3⟩:=ih w1 (es++l.toArray.map (⟨.cell ·,true,m==.atomic⟩)) no
    rw [d1]at h1 h3
    rw [d2]at h2 h3
    exact⟨h1,h2,h3⟩
end
end Go.Proofs.YtngdldcgkaplbaaGreat.Lk